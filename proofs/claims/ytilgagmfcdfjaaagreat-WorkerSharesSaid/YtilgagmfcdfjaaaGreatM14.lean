/-
  Sources, walked over abstract values.
  source.New and source.Next, walked over abstract values.
  An event put into its windows by the model, walked over abstract values.
    What must come out of a job and inputs by the model, walked over abstract values.
    The laws of the model: is it alive; few inputs.
  The helpers of the law TopMarks, walked over abstract values.
  Rows of panes cut by a property of their places. Plain.
-/
import Derived.Test.YtilgagmfcdfjaaaGreatM4
import Derived.Test.YtilgagmfcdfjaaaGreatM9
import Derived.Test.YtilgagmfcdfjaaaGreatM10
import Derived.Test.YtilgagmfcdfjaaaGreatM11
import Derived.Test.YtilgagmfcdfjaaaGreatM13
set_option linter.unusedSimpArgs false
set_option linter.unusedVariables false
set_option maxHeartbeats 20000000
namespace Go.Proofs.YtilgagmfcdfjaaaGreat
open Go.RowKit
structure Sr where
 es : List Et
 done : Int
 mark : Int
 quiet : Int
 ended : Bool
def Sr.av (s : Sr) : List AV := [.sl 3 (s.es.map Et.av), .v (.int .i64 s.done), .v (.int .i64 s.mark), .v (.int .i64 s.quiet), .v (.bool s.ended)]
def zSr : Sr := ⟨[], 0, 0, 0, false⟩
def evItem (e : Et) : It := ⟨1, e.key, e.at', e.v, 0, 0, 0, 0, .empty, 0, 0⟩
def wayAv (j : Jb) (s : Sr) (x : AV) : List AV := [.v (.int .i64 j.g), .v (.int .i64 j.s), .v (.int .i64 j.d), .v (.int .i64 j.k), .v (.int .i64 j.fu), .v (.int .i64 j.li), .v (.int .i64 j.de), .v (.int .i64 j.id), .sl 3 (s.es.map Et.av), .v (.int .i64 s.done), .v (.int .i64 s.mark), .v (.int .i64 s.quiet), .v (.bool s.ended), x]
def wayS (j : Jb) (s : Sr) (X : List (List AV)) : Store := [(0, .box 135 (wayAv j s (.own 1 X.length))), (1, .row 63 11 X)]
set_option maxRecDepth 10000
set_option maxHeartbeats 4000000
section
variable (j : Jb) (s : Sr) (X : List (List AV))
theorem s_tell (x : It) (hl : X.length ≤ 1000) : AC Tryz.prog 66 [.ref 0 0, .agg x.av] (wayS j s X) (.tup []) (wayS j s (X ++ [x.av])) := by
 unfold wayS wayAv It.av
 refine (ac_body tab_ok Tryz.func66 rfl (by kernel_rfl) rfl ?_); intro w0 M μ0; simp only [Tryz.ntmps66, List.length_cons, List.length_nil, Nat.reduceAdd, Nat.reduceSub, numb]
 repeat' (first | ((first | apply o_do | apply d_do | apply d_yes rfl rfl rfl); first | exact ls_nilCheck rfl rfl | focus (apply ls_append tab_ok rfl rfl ?hn rfl ?hsrc rfl ?hlen rfl rfl; (case hn => rfl); (case hsrc => first | exact SrcIs.sl | exact SrcIs.nil | exact SrcIs.own rfl rfl | fail); (case hlen => (try simp only [List.length_cons, List.length_nil]); omega); first | done | fail) | exact lsq) | refine a_seq ?_ | refine a_region ?_ | refine o_nil ?_ | refine a_block ?_ | refine a_ret ?_ | refine a_exit ?_ | refine a_skip ?_ | refine a_draw mixed ?_ | refine d_nil (by kernel_rfl) ?_ | refine o_yes rfl rfl rfl ?_ | refine o_no rfl rfl rfl (by decide) ?_ | refine o_no' rfl rfl rfl ?_ | refine a_condT rfl ?_ | refine a_condF rfl ?_ | refine d_no rfl rfl rfl (by decide) ?_ | refine d_no' rfl rfl rfl ?_ | (refine wq2 (fun hb => ?_) (fun hb => ?_) <;> (simp only [hb]; try simp only [hbs, ne_eq] at hb; try (exfalso; first | omega | exact hb trivial))) | fail)
 all_goals refine rq rfl ?_
 all_goals exact fnq
theorem s_mark (t : Int) (hl : X.length ≤ 1000) : AC Tryz.prog 64 [.ref 0 0, .v (.int .i64 t)] (wayS j s X) (.tup []) (wayS j s (X ++ [(markItem t).av])) := by
 have hT := s_tell j s X (markItem t) hl
 unfold wayS wayAv at *
 generalize hY : X ++ [(markItem t).av] = Y at *
 unfold markItem It.av at hT
 refine (ac_body tab_ok Tryz.func64 rfl (by kernel_rfl) rfl ?_); intro w0 M μ0; simp only [Tryz.ntmps64, List.length_cons, List.length_nil, Nat.reduceAdd, Nat.reduceSub, numb]
 repeat' (first | ((first | apply o_do | apply d_do | apply d_yes rfl rfl rfl); first | exact lca [0, 1] 20 hT | exact lsq) | refine a_seq ?_ | refine a_region ?_ | refine o_nil ?_ | refine a_block ?_ | refine a_ret ?_ | refine a_exit ?_ | refine a_skip ?_ | refine a_draw mixed ?_ | refine d_nil (by kernel_rfl) ?_ | refine o_yes rfl rfl rfl ?_ | refine o_no rfl rfl rfl (by decide) ?_ | refine o_no' rfl rfl rfl ?_ | refine a_condT rfl ?_ | refine a_condF rfl ?_ | refine d_no rfl rfl rfl (by decide) ?_ | refine d_no' rfl rfl rfl ?_ | (refine wq2 (fun hb => ?_) (fun hb => ?_) <;> (simp only [hb]; try simp only [hbs, ne_eq] at hb; try (exfalso; first | omega | exact hb trivial))) | fail)
 all_goals refine rq rfl ?_
 all_goals exact fnq
theorem s_next1 (es : List Et) (mark quiet : Int) (hl : X.length ≤ 1000) (hn : es.length ≤ 1000000) : AC Tryz.prog 43 [.ref 0 0] (wayS j ⟨es, es.length, mark, quiet, false⟩ X) (.v (.int .i64 0)) (wayS j ⟨es, es.length, mark, quiet, true⟩ (X ++ [(markItem 1099511627776).av])) := by
 have hM := s_mark j ⟨es, es.length, mark, quiet, true⟩ X 1099511627776 hl
 unfold wayS wayAv at *
 generalize hY : X ++ [(markItem 1099511627776).av] = Y at *
 have hE : (es.map Et.av).length = es.length := by simp
 generalize es.map Et.av = E at *
 dsimp only at *
 refine (ac_body tab_ok Tryz.func43 rfl (by kernel_rfl) rfl ?_); intro w0 M μ0; simp only [Tryz.ntmps43, List.length_cons, List.length_nil, Nat.reduceAdd, Nat.reduceSub, numb]
 repeat' (first | ((first | apply o_do | apply d_do | apply d_yes rfl rfl rfl); first | exact ls_nilCheck rfl rfl | exact lca [0, 1] 50 hM | exact lsq) | refine a_seq ?_ | refine a_region ?_ | refine o_nil ?_ | refine a_block ?_ | refine a_ret ?_ | refine a_exit ?_ | refine a_skip ?_ | refine a_draw mixed ?_ | refine d_nil (by kernel_rfl) ?_ | refine o_yes rfl rfl rfl ?_ | refine o_no rfl rfl rfl (by decide) ?_ | refine o_no' rfl rfl rfl ?_ | refine a_condT rfl ?_ | refine a_condF rfl ?_ | refine d_no rfl rfl rfl (by decide) ?_ | refine d_no' rfl rfl rfl ?_ | (refine wq2 (fun hb => ?_) (fun hb => ?_) <;> (simp only [hb]; try simp only [hbs, ne_eq] at hb; try (exfalso; first | omega | exact hb trivial))) | fail)
 all_goals refine rq rfl ?_
 all_goals exact fnq
def tellX (j : Jb) (m : Int) (e : Et) : List It := (if m ≤ e.at' then [evItem (e.ran j.li j.fu)] else []) ++ (if m < subT e.at' j.de then [markItem (subT e.at' j.de)] else [])
theorem s_next2 (es : List Et) (n : Nat) (mark quiet : Int) (e : Et) (hn : n < es.length) (he : es[n]? = some e) (hev : -9223372036854775808 ≤ e.v ∧ e.v ≤ 9223372036854775807) (hli : j.li ≤ 9223372036854775807) (hl : X.length ≤ 900) (hln : es.length ≤ 1000000) :
  AC Tryz.prog 43 [.ref 0 0] (wayS j ⟨es, n, mark, quiet, false⟩ X) (.v (.int .i64 0)) (wayS j ⟨es, n + 1, max mark (subT e.at' j.de), 0, false⟩ (X ++ (tellX j mark e).map It.av)) := by
 have h1 := p_subT e.at' j.de
 have h2 := p_Run e.key e.at' e.v j.li j.fu hev hli
 have hel : (es.map Et.av)[n]? = some e.av := by simp [List.getElem?_map, he]
 have hE : (es.map Et.av).length = es.length := by simp
 have hT := s_tell j ⟨es, n + 1, mark, 0, false⟩ X (evItem (e.ran j.li j.fu)) (by omega)
 have hM1 := s_mark j ⟨es, n + 1, subT e.at' j.de, 0, false⟩ (X ++ [(evItem (e.ran j.li j.fu)).av]) (subT e.at' j.de) (by simp; omega)
 have hM0 := s_mark j ⟨es, n + 1, subT e.at' j.de, 0, false⟩ X (subT e.at' j.de) (by omega)
 unfold wayS wayAv at *
 unfold tellX
 generalize es.map Et.av = E at *
 unfold Et.ran Et.av at *
 generalize hr : runE j.li j.fu e.v = r at *
 obtain ⟨v', c⟩ := r
 generalize subT e.at' j.de = t at *
 dsimp only at *
 have hz : (evItem ⟨e.key, e.at', v'⟩).av = [.v (.int .i64 1), .v (.string e.key), .v (.int .i64 e.at'), .v (.int .i64 v'), .v (.int .i64 0), .v (.int .i64 0), .v (.int .i64 0), .v (.int .i64 0), .v (.string .empty), .v (.int .i64 0), .v (.int .i64 0)] := rfl
 by_cases c1 : mark ≤ e.at' <;> by_cases c2 : mark < t
 ·rw [if_pos c1, if_pos c2, show max mark t = t by omega]
  simp only [List.map_append, List.map_cons, List.map_nil, ← List.append_assoc]
  generalize hZ : X ++ [(evItem ⟨e.key, e.at', v'⟩).av] = Z at *
  generalize hY : Z ++ [(markItem t).av] = Y at *
  rw [hz] at hT
  refine (ac_body tab_ok Tryz.func43 rfl (by kernel_rfl) rfl ?_); intro w0 M μ0; simp only [Tryz.ntmps43, List.length_cons, List.length_nil, Nat.reduceAdd, Nat.reduceSub, numb]
  repeat' (first | ((first | apply o_do | apply d_do | apply d_yes rfl rfl rfl); first | exact ls_nilCheck rfl rfl | exact lsc (h1) | exact lsc (h2) | exact ls_indexAddr_sl tab_ok rfl rfl rfl rfl hel rfl | exact lca [0, 1] 50 hT | exact lca [0, 1] 50 hM1 | exact lsq) | refine a_seq ?_ | refine a_region ?_ | refine o_nil ?_ | refine a_block ?_ | refine a_ret ?_ | refine a_exit ?_ | refine a_skip ?_ | refine a_draw mixed ?_ | refine d_nil (by kernel_rfl) ?_ | refine o_yes rfl rfl rfl ?_ | refine o_no rfl rfl rfl (by decide) ?_ | refine o_no' rfl rfl rfl ?_ | refine a_condT rfl ?_ | refine a_condF rfl ?_ | refine d_no rfl rfl rfl (by decide) ?_ | refine d_no' rfl rfl rfl ?_ | (refine wq2 (fun hb => ?_) (fun hb => ?_) <;> (simp only [hb]; try simp only [hbs, ne_eq] at hb; try (exfalso; first | omega | exact hb trivial))) | fail)
  all_goals refine rq rfl ?_
  all_goals exact fnq
 ·rw [if_pos c1, if_neg c2, show max mark t = mark by omega]
  simp only [List.map_append, List.map_cons, List.map_nil, List.append_nil]
  generalize hZ : X ++ [(evItem ⟨e.key, e.at', v'⟩).av] = Z at *
  rw [hz] at hT
  refine (ac_body tab_ok Tryz.func43 rfl (by kernel_rfl) rfl ?_); intro w0 M μ0; simp only [Tryz.ntmps43, List.length_cons, List.length_nil, Nat.reduceAdd, Nat.reduceSub, numb]
  repeat' (first | ((first | apply o_do | apply d_do | apply d_yes rfl rfl rfl); first | exact ls_nilCheck rfl rfl | exact lsc (h1) | exact lsc (h2) | exact ls_indexAddr_sl tab_ok rfl rfl rfl rfl hel rfl | exact lca [0, 1] 50 hT | exact lsq) | refine a_seq ?_ | refine a_region ?_ | refine o_nil ?_ | refine a_block ?_ | refine a_ret ?_ | refine a_exit ?_ | refine a_skip ?_ | refine a_draw mixed ?_ | refine d_nil (by kernel_rfl) ?_ | refine o_yes rfl rfl rfl ?_ | refine o_no rfl rfl rfl (by decide) ?_ | refine o_no' rfl rfl rfl ?_ | refine a_condT rfl ?_ | refine a_condF rfl ?_ | refine d_no rfl rfl rfl (by decide) ?_ | refine d_no' rfl rfl rfl ?_ | (refine wq2 (fun hb => ?_) (fun hb => ?_) <;> (simp only [hb]; try simp only [hbs, ne_eq] at hb; try (exfalso; first | omega | exact hb trivial))) | fail)
  all_goals refine rq rfl ?_
  all_goals exact fnq
 ·rw [if_neg c1, if_pos c2, show max mark t = t by omega]
  simp only [List.map_append, List.map_cons, List.map_nil, List.nil_append]
  generalize hY : X ++ [(markItem t).av] = Y at *
  refine (ac_body tab_ok Tryz.func43 rfl (by kernel_rfl) rfl ?_); intro w0 M μ0; simp only [Tryz.ntmps43, List.length_cons, List.length_nil, Nat.reduceAdd, Nat.reduceSub, numb]
  repeat' (first | ((first | apply o_do | apply d_do | apply d_yes rfl rfl rfl); first | exact ls_nilCheck rfl rfl | exact lsc (h1) | exact lsc (h2) | exact ls_indexAddr_sl tab_ok rfl rfl rfl rfl hel rfl | exact lca [0, 1] 50 hM0 | exact lsq) | refine a_seq ?_ | refine a_region ?_ | refine o_nil ?_ | refine a_block ?_ | refine a_ret ?_ | refine a_exit ?_ | refine a_skip ?_ | refine a_draw mixed ?_ | refine d_nil (by kernel_rfl) ?_ | refine o_yes rfl rfl rfl ?_ | refine o_no rfl rfl rfl (by decide) ?_ | refine o_no' rfl rfl rfl ?_ | refine a_condT rfl ?_ | refine a_condF rfl ?_ | refine d_no rfl rfl rfl (by decide) ?_ | refine d_no' rfl rfl rfl ?_ | (refine wq2 (fun hb => ?_) (fun hb => ?_) <;> (simp only [hb]; try simp only [hbs, ne_eq] at hb; try (exfalso; first | omega | exact hb trivial))) | fail)
  all_goals refine rq rfl ?_
  all_goals exact fnq
 ·rw [if_neg c1, if_neg c2, show max mark t = mark by omega]
  simp only [List.map_append, List.map_nil, List.append_nil]
  refine (ac_body tab_ok Tryz.func43 rfl (by kernel_rfl) rfl ?_); intro w0 M μ0; simp only [Tryz.ntmps43, List.length_cons, List.length_nil, Nat.reduceAdd, Nat.reduceSub, numb]
  repeat' (first | ((first | apply o_do | apply d_do | apply d_yes rfl rfl rfl); first | exact ls_nilCheck rfl rfl | exact lsc (h1) | exact lsc (h2) | exact ls_indexAddr_sl tab_ok rfl rfl rfl rfl hel rfl | exact lsq) | refine a_seq ?_ | refine a_region ?_ | refine o_nil ?_ | refine a_block ?_ | refine a_ret ?_ | refine a_exit ?_ | refine a_skip ?_ | refine a_draw mixed ?_ | refine d_nil (by kernel_rfl) ?_ | refine o_yes rfl rfl rfl ?_ | refine o_no rfl rfl rfl (by decide) ?_ | refine o_no' rfl rfl rfl ?_ | refine a_condT rfl ?_ | refine a_condF rfl ?_ | refine d_no rfl rfl rfl (by decide) ?_ | refine d_no' rfl rfl rfl ?_ | (refine wq2 (fun hb => ?_) (fun hb => ?_) <;> (simp only [hb]; try simp only [hbs, ne_eq] at hb; try (exfalso; first | omega | exact hb trivial))) | fail)
  all_goals refine rq rfl ?_
  all_goals exact fnq
theorem s_of : AC Tryz.prog 42 [.ref 0 0] (wayS j s X) (.clo (.func 43) [.ref 0 0] []) (wayS j s X) := by
 unfold wayS wayAv
 refine (ac_body tab_ok Tryz.func42 rfl (by kernel_rfl) rfl ?_); intro w0 M μ0; simp only [Tryz.ntmps42, List.length_cons, List.length_nil, Nat.reduceAdd, Nat.reduceSub, numb]
 repeat' (first | ((first | apply o_do | apply d_do | apply d_yes rfl rfl rfl); exact lsq) | refine a_seq ?_ | refine a_region ?_ | refine o_nil ?_ | refine a_block ?_ | refine a_ret ?_ | refine a_exit ?_ | refine a_skip ?_ | refine a_draw mixed ?_ | refine d_nil (by kernel_rfl) ?_ | refine o_yes rfl rfl rfl ?_ | refine o_no rfl rfl rfl (by decide) ?_ | refine o_no' rfl rfl rfl ?_ | refine a_condT rfl ?_ | refine a_condF rfl ?_ | refine d_no rfl rfl rfl (by decide) ?_ | refine d_no' rfl rfl rfl ?_ | (refine wq2 (fun hb => ?_) (fun hb => ?_) <;> (simp only [hb]; try simp only [hbs, ne_eq] at hb; try (exfalso; first | omega | exact hb trivial))) | fail)
 all_goals refine rq rfl ?_
 all_goals (first | refine FinA.tup ?_ | refine FinA.clo ?_ ?_ | refine FinA.one ?_); repeat' (first | exact FinBs.nil | exact FinCs.nil | refine FinBs.cons ?_ ?_ | refine FinCs.cons ?_ ?_ | refine FinB.cell (FinC.v ?_) | refine FinB.cell (FinC.own rfl rfl rfl ?_) | exact FinB.cell (FinC.el rfl rfl rfl rfl) | exact FinB.cell FinC.nil | refine FinB.cell (FinC.sl ?_) | exact FinB.agg' rfl rfl | exact FinB.cell (FinC.same rfl) | refine FinB.agg ?_ | refine FinC.v ?_ | refine FinC.own rfl rfl rfl ?_ | exact FinC.nil | refine FinC.sl ?_ | exact FinC.same rfl); all_goals try rfl
def srR (s : Sr) : Bool := okIn [s.es] && (decide (0 ≤ s.done) && (decide (s.done ≤ s.es.length) && (decide (0 ≤ s.mark) && (decide (s.mark ≤ 1099511627776) && (decide (0 ≤ s.quiet) && (decide (s.quiet ≤ 1048576) && (!s.ended || decide (s.done = s.es.length))))))))
theorem s_Right (hx : Small [s.es]) : PC Tryz.prog 63 [.agg s.av] (.v (.bool (srR s))) := by
 have h1 := j_Inputs [s.es] hx
 unfold srR
 obtain ⟨es, done, mark, quiet, ended⟩ := s
 dsimp only at *
 have hln := hx.2 es (by simp)
 generalize okIn [es] = r at *
 have h1 : PC Tryz.prog 39 [.sl 1 [[.sl 3 (es.map Et.av)]]] (.v (.bool r)) := h1
 unfold Sr.av
 dsimp only
 have hE : (es.map Et.av).length = es.length := by simp
 rw [← hE] at hln ⊢
 generalize es.map Et.av = E at *
 cases r
 ·refine PC.mk (ac_body tab_ok Tryz.func63 rfl (by kernel_rfl) rfl ?_); intro w0 M μ0; simp only [Tryz.ntmps63, List.length_cons, List.length_nil, Nat.reduceAdd, Nat.reduceSub, numb]
  repeat' (first | ((first | apply o_do | apply d_do | apply d_yes rfl rfl rfl); first | exact lcs (h1) | exact lsq) | refine a_seq ?_ | refine a_region ?_ | refine o_nil ?_ | refine a_block ?_ | refine a_ret ?_ | refine a_exit ?_ | refine a_skip ?_ | refine a_draw mixed ?_ | refine d_nil (by kernel_rfl) ?_ | refine o_yes rfl rfl rfl ?_ | refine o_no rfl rfl rfl (by decide) ?_ | refine o_no' rfl rfl rfl ?_ | refine a_condT rfl ?_ | refine a_condF rfl ?_ | refine d_no rfl rfl rfl (by decide) ?_ | refine d_no' rfl rfl rfl ?_ | (refine wq2 (fun hb => ?_) (fun hb => ?_) <;> (simp only [hb]; try simp only [hbs, ne_eq] at hb; try (exfalso; first | omega | exact hb trivial))) | fail)
  all_goals refine rq rfl ?_
  all_goals exact fnq
 ·cases ended
  ·refine PC.mk (ac_body tab_ok Tryz.func63 rfl (by kernel_rfl) rfl ?_); intro w0 M μ0; simp only [Tryz.ntmps63, List.length_cons, List.length_nil, Nat.reduceAdd, Nat.reduceSub, numb]
   repeat' (first | ((first | apply o_do | apply d_do | apply d_yes rfl rfl rfl); first | exact lcs (h1) | exact lsq) | refine a_seq ?_ | refine a_region ?_ | refine o_nil ?_ | refine a_block ?_ | refine a_ret ?_ | refine a_exit ?_ | refine a_skip ?_ | refine a_draw mixed ?_ | refine d_nil (by kernel_rfl) ?_ | refine o_yes rfl rfl rfl ?_ | refine o_no rfl rfl rfl (by decide) ?_ | refine o_no' rfl rfl rfl ?_ | refine a_condT rfl ?_ | refine a_condF rfl ?_ | refine d_no rfl rfl rfl (by decide) ?_ | refine d_no' rfl rfl rfl ?_ | (refine wq2 (fun hb => ?_) (fun hb => ?_) <;> (simp only [hb]; try simp only [hbs, ne_eq] at hb; try (exfalso; first | omega | exact hb trivial))) | fail)
   all_goals refine rq rfl ?_
   all_goals exact fnq
  ·refine PC.mk (ac_body tab_ok Tryz.func63 rfl (by kernel_rfl) rfl ?_); intro w0 M μ0; simp only [Tryz.ntmps63, List.length_cons, List.length_nil, Nat.reduceAdd, Nat.reduceSub, numb]
   repeat' (first | ((first | apply o_do | apply d_do | apply d_yes rfl rfl rfl); first | exact lcs (h1) | exact lsq) | refine a_seq ?_ | refine a_region ?_ | refine o_nil ?_ | refine a_block ?_ | refine a_ret ?_ | refine a_exit ?_ | refine a_skip ?_ | refine a_draw mixed ?_ | refine d_nil (by kernel_rfl) ?_ | refine o_yes rfl rfl rfl ?_ | refine o_no rfl rfl rfl (by decide) ?_ | refine o_no' rfl rfl rfl ?_ | refine a_condT rfl ?_ | refine a_condF rfl ?_ | refine d_no rfl rfl rfl (by decide) ?_ | refine d_no' rfl rfl rfl ?_ | (refine wq2 (fun hb => ?_) (fun hb => ?_) <;> (simp only [hb]; try simp only [hbs, ne_eq] at hb; try (exfalso; first | omega | exact hb trivial))) | fail)
   all_goals refine rq rfl ?_
   all_goals exact fnq
end
set_option maxRecDepth 10000
set_option maxHeartbeats 4000000
section
variable (j : Jb)
theorem s_step1 (es : List Et) (mark quiet : Int) (hj : jobOK j.g j.s j.d j.k j.fu j.li j.de j.id = true) (hx : Small [es]) (hln : es.length ≤ 1000000) (hR : srR ⟨es, es.length, mark, quiet, false⟩ = true) :
  PC Tryz.prog 41 [.agg j.av, .agg (Sr.av ⟨es, es.length, mark, quiet, false⟩), .clo (.func 42) [] []] (.tup [.agg (Sr.av ⟨es, es.length, mark, quiet, true⟩), .sl 11 [(markItem 1099511627776).av], .v (.int .i64 0)]) := by
 have h1 := j_Right j.g j.s j.d j.k j.fu j.li j.de j.id
 have h2 := s_Right ⟨es, es.length, mark, quiet, false⟩ hx
 have h3 := s_of j ⟨es, es.length, mark, quiet, false⟩ []
 have h4 := s_next1 j [] es mark quiet (by simp) hln
 rw [hj] at h1
 rw [hR] at h2
 rw [List.nil_append] at h4
 unfold wayS wayAv at *
 unfold Jb.av
 unfold Sr.av at *
 dsimp only at *
 generalize es.map Et.av = E at *
 generalize (markItem 1099511627776).av = Y at *
 refine PC.mk (ac_body tab_ok Tryz.func41 rfl (by kernel_rfl) rfl ?_); intro w0 M μ0; simp only [Tryz.ntmps41, List.length_cons, List.length_nil, Nat.reduceAdd, Nat.reduceSub, numb]
 repeat' (first | refine a_adoptB 3 13 4 63 11 rfl rfl rfl ?_  | ((first | apply o_do | apply d_do | apply d_yes rfl rfl rfl); first |  exact ls_nilCheck rfl rfl | exact lsc (h1) | exact lsc (h2) | exact ls_callAB [3, 4] 50 h3 rfl rfl (by (repeat' (first | exact NilL.nil | refine NilL.cons Nil.same ?_ | refine NilL.cons Nil.nil ?_ | refine NilL.cons (Nil.agg ?_) ?_ | exact Nil1s.nil | refine Nil1s.cons Nil1.same ?_ | refine Nil1s.cons Nil1.nil ?_)); first | done | fail) rfl (by repeat' (first | exact trivial | refine ⟨⟨_, rfl, by first | rfl | (simp [renO, *]; done)⟩, ?_⟩)) (by first | rfl | simp [closO, *]) rfl rfl rfl rfl (by first | rfl | simp [closO, *]) rfl | exact ls_callAB [3, 4] 50 h4 rfl rfl (by (repeat' (first | exact NilL.nil | refine NilL.cons Nil.same ?_ | refine NilL.cons Nil.nil ?_ | refine NilL.cons (Nil.agg ?_) ?_ | exact Nil1s.nil | refine Nil1s.cons Nil1.same ?_ | refine Nil1s.cons Nil1.nil ?_)); first | done | fail) rfl (by repeat' (first | exact trivial | refine ⟨⟨_, rfl, by first | rfl | (simp [renO, *]; done)⟩, ?_⟩)) (by first | rfl | simp [closO, *]) rfl rfl rfl rfl (by first | rfl | simp [closO, *]) rfl | exact lsq) | refine a_seq ?_ | refine a_region ?_ | refine o_nil ?_ | refine a_block ?_ | refine a_ret ?_ | refine a_exit ?_ | refine a_skip ?_ | refine a_draw mixed ?_ | refine d_nil (by kernel_rfl) ?_ | refine o_yes rfl rfl rfl ?_ | refine o_no rfl rfl rfl (by decide) ?_ | refine o_no' rfl rfl rfl ?_ | refine a_condT rfl ?_ | refine a_condF rfl ?_ | refine d_no rfl rfl rfl (by decide) ?_ | refine d_no' rfl rfl rfl ?_ | (refine wq2 (fun hb => ?_) (fun hb => ?_) <;> (simp only [hb]; try simp only [hbs, ne_eq] at hb; try (exfalso; first | omega | exact hb trivial))) | fail)
 all_goals refine rq rfl ?_
 all_goals exact fnq
theorem s_step2 (es : List Et) (n : Nat) (mark quiet : Int) (e : Et) (hj : jobOK j.g j.s j.d j.k j.fu j.li j.de j.id = true) (hx : Small [es]) (hn : n < es.length) (he : es[n]? = some e) (hev : -9223372036854775808 ≤ e.v ∧ e.v ≤ 9223372036854775807) (hli : j.li ≤ 9223372036854775807) (hln : es.length ≤ 1000000) (hR : srR ⟨es, n, mark, quiet, false⟩ = true) :
  PC Tryz.prog 41 [.agg j.av, .agg (Sr.av ⟨es, n, mark, quiet, false⟩), .clo (.func 42) [] []] (.tup [.agg (Sr.av ⟨es, n + 1, max mark (subT e.at' j.de), 0, false⟩), .sl 11 ((tellX j mark e).map It.av), .v (.int .i64 0)]) := by
 have h1 := j_Right j.g j.s j.d j.k j.fu j.li j.de j.id
 have h2 := s_Right ⟨es, n, mark, quiet, false⟩ hx
 have h3 := s_of j ⟨es, n, mark, quiet, false⟩ []
 have h4 := s_next2 j [] es n mark quiet e hn he hev hli (by simp) hln
 rw [hj] at h1
 rw [hR] at h2
 rw [List.nil_append] at h4
 unfold wayS wayAv at *
 unfold Jb.av
 unfold Sr.av at *
 dsimp only at *
 generalize es.map Et.av = E at *
 generalize (tellX j mark e).map It.av = Y at *
 generalize max mark (subT e.at' j.de) = m' at *
 refine PC.mk (ac_body tab_ok Tryz.func41 rfl (by kernel_rfl) rfl ?_); intro w0 M μ0; simp only [Tryz.ntmps41, List.length_cons, List.length_nil, Nat.reduceAdd, Nat.reduceSub, numb]
 repeat' (first | refine a_adoptB 3 13 4 63 11 rfl rfl rfl ?_  | ((first | apply o_do | apply d_do | apply d_yes rfl rfl rfl); first |  exact ls_nilCheck rfl rfl | exact lsc (h1) | exact lsc (h2) | exact ls_callAB [3, 4] 50 h3 rfl rfl (by (repeat' (first | exact NilL.nil | refine NilL.cons Nil.same ?_ | refine NilL.cons Nil.nil ?_ | refine NilL.cons (Nil.agg ?_) ?_ | exact Nil1s.nil | refine Nil1s.cons Nil1.same ?_ | refine Nil1s.cons Nil1.nil ?_)); first | done | fail) rfl (by repeat' (first | exact trivial | refine ⟨⟨_, rfl, by first | rfl | (simp [renO, *]; done)⟩, ?_⟩)) (by first | rfl | simp [closO, *]) rfl rfl rfl rfl (by first | rfl | simp [closO, *]) rfl | exact ls_callAB [3, 4] 50 h4 rfl rfl (by (repeat' (first | exact NilL.nil | refine NilL.cons Nil.same ?_ | refine NilL.cons Nil.nil ?_ | refine NilL.cons (Nil.agg ?_) ?_ | exact Nil1s.nil | refine Nil1s.cons Nil1.same ?_ | refine Nil1s.cons Nil1.nil ?_)); first | done | fail) rfl (by repeat' (first | exact trivial | refine ⟨⟨_, rfl, by first | rfl | (simp [renO, *]; done)⟩, ?_⟩)) (by first | rfl | simp [closO, *]) rfl rfl rfl rfl (by first | rfl | simp [closO, *]) rfl | exact lsq) | refine a_seq ?_ | refine a_region ?_ | refine o_nil ?_ | refine a_block ?_ | refine a_ret ?_ | refine a_exit ?_ | refine a_skip ?_ | refine a_draw mixed ?_ | refine d_nil (by kernel_rfl) ?_ | refine o_yes rfl rfl rfl ?_ | refine o_no rfl rfl rfl (by decide) ?_ | refine o_no' rfl rfl rfl ?_ | refine a_condT rfl ?_ | refine a_condF rfl ?_ | refine d_no rfl rfl rfl (by decide) ?_ | refine d_no' rfl rfl rfl ?_ | (refine wq2 (fun hb => ?_) (fun hb => ?_) <;> (simp only [hb]; try simp only [hbs, ne_eq] at hb; try (exfalso; first | omega | exact hb trivial))) | fail)
 all_goals refine rq rfl ?_
 all_goals exact fnq
theorem s_Next {s s' : Sr} {Y : List (List AV)} {e : Int} (h : PC Tryz.prog 41 [.agg j.av, .agg s.av, .clo (.func 42) [] []] (.tup [.agg s'.av, .sl 11 Y, .v (.int .i64 e)])) :
  PC Tryz.prog 13 [.agg j.av, .agg s.av] (.tup [.agg s'.av, .sl 11 Y, .v (.int .i64 e)]) := by
 unfold Jb.av Sr.av at *
 generalize s.es.map Et.av = E at *
 generalize s'.es.map Et.av = E' at *
 refine PC.mk (ac_body tab_ok Tryz.func13 rfl (by kernel_rfl) rfl ?_); intro w0 M μ0; simp only [Tryz.ntmps13, List.length_cons, List.length_nil, Nat.reduceAdd, Nat.reduceSub, numb]
 repeat' (first | ((first | apply o_do | apply d_do | apply d_yes rfl rfl rfl); first | exact lsc (h) | exact lsq) | refine a_seq ?_ | refine a_region ?_ | refine o_nil ?_ | refine a_block ?_ | refine a_ret ?_ | refine a_exit ?_ | refine a_skip ?_ | refine a_draw mixed ?_ | refine d_nil (by kernel_rfl) ?_ | refine o_yes rfl rfl rfl ?_ | refine o_no rfl rfl rfl (by decide) ?_ | refine o_no' rfl rfl rfl ?_ | refine a_condT rfl ?_ | refine a_condF rfl ?_ | refine d_no rfl rfl rfl (by decide) ?_ | refine d_no' rfl rfl rfl ?_ | (refine wq2 (fun hb => ?_) (fun hb => ?_) <;> (simp only [hb]; try simp only [hbs, ne_eq] at hb; try (exfalso; first | omega | exact hb trivial))) | fail)
 all_goals refine rq rfl ?_
 all_goals exact fnq
theorem s_New0 (es : List Et) (hx : Small [es]) (hes : ∀ e ∈ es, -9223372036854775808 ≤ e.v ∧ e.v ≤ 9223372036854775807) (hli : j.li ≤ 9223372036854775807) (hj : jobOK j.g j.s j.d j.k j.fu j.li j.de j.id = true) (ho : okIn [es] = true) :
  PC Tryz.prog 12 [.agg j.av, .sl 3 (es.map Et.av), .v (.int .i64 0)] (.tup [.agg (Sr.av ⟨es, 0, 0, 0, false⟩), .v (.int .i64 0)]) := by
 have h1 := j_Right j.g j.s j.d j.k j.fu j.li j.de j.id
 have h2 : PC Tryz.prog 39 [.sl 1 [[.sl 3 (es.map Et.av)]]] (.v (.bool (okIn [es]))) := j_Inputs [es] hx
 have h3 : PC Tryz.prog 40 [.agg j.av, .sl 3 []] (.v (.int .i64 (markN j.g j.s j.d j.k j.fu j.li j.de j.id []))) := m_Mark j.g j.s j.d j.k j.fu j.li j.de j.id [] ⟨by simp, by simp⟩ (by simp) hli
 have e3 : markN j.g j.s j.d j.k j.fu j.li j.de j.id [] = 0 := by unfold markN; split <;> rfl
 rw [hj] at h1
 rw [ho] at h2
 rw [e3] at h3
 have hE : (es.map Et.av).length = es.length := by simp
 have hln := hx.2 es (by simp)
 rw [← hE] at hln
 unfold Sr.av Jb.av at *
 dsimp only
 generalize es.map Et.av = E at *
 refine PC.mk (ac_body tab_ok Tryz.func12 rfl (by kernel_rfl) rfl ?_); intro w0 M μ0; simp only [Tryz.ntmps12, List.length_cons, List.length_nil, Nat.reduceAdd, Nat.reduceSub, numb]
 repeat' (first | ((first | apply o_do | apply d_do | apply d_yes rfl rfl rfl); first | exact lcs (h1) | exact lcs (h2) | exact lcs (h3) | exact ls_slice_to (n := 0) tab_ok rfl rfl rfl rfl (Nat.zero_le _) rfl | exact lsq) | refine a_seq ?_ | refine a_region ?_ | refine o_nil ?_ | refine a_block ?_ | refine a_ret ?_ | refine a_exit ?_ | refine a_skip ?_ | refine a_draw mixed ?_ | refine d_nil (by kernel_rfl) ?_ | refine o_yes rfl rfl rfl ?_ | refine o_no rfl rfl rfl (by decide) ?_ | refine o_no' rfl rfl rfl ?_ | refine a_condT rfl ?_ | refine a_condF rfl ?_ | refine d_no rfl rfl rfl (by decide) ?_ | refine d_no' rfl rfl rfl ?_ | (refine wq2 (fun hb => ?_) (fun hb => ?_) <;> (simp only [hb]; try simp only [hbs, ne_eq] at hb; try (exfalso; first | omega | exact hb trivial))) | fail)
 all_goals refine rq rfl ?_
 all_goals exact fnq
end
theorem pc_of_own {P : Program} {f : FuncId} {args : List AV} {e size : Nat} {xs : List (List AV)} (h : AC P f args [] (.own 0 xs.length) [(0, .row e size xs)]) : PC P f args (.sl size xs) := by
 refine ⟨h.ok, fun w M μ vs hs hr => (h.out w M μ vs hs hr).mono ?_⟩
 rintro r w' ⟨y, μ', rfl, h1, h2, h3⟩
 have hk : Kept [((0 : Nat), SObj.row e size xs)] [] [] := trivial
 refine ⟨y, μ', rfl, hk.srel h1, finA_rep h1 hk (FinA.one (FinB.cell ?_)) h2, hk.gro h3 (fun id o hf => by simp [find] at hf)⟩
 exact FinC.own rfl rfl rfl rfl
theorem p_OfS (size slide t : Int) : PC Tryz.prog 51 [.v (.int .i64 size), .v (.int .i64 slide), .v (.int .i64 t)] (.sl 2 ((winL size slide t).map Wn.av)) := pc_of_own (p_Of size slide t)
def gW (k : Int) (key : ByteArray) (v : Int) : List Pn → List Wn → List Pn × Int
 | ps, [] => (ps, 0)
 | ps, w :: ws => if (addR k ps (oneP k w.lo w.hi key v)).2 = 0 then gW k key v (addR k ps (oneP k w.lo w.hi key v)).1 ws else (ps, (addR k ps (oneP k w.lo w.hi key v)).2)
theorem gW_take {k : Int} {key : ByteArray} {v : Int} : ∀ {ws : List Wn} {ps : List Pn}, (gW k key v ps ws).2 = (takeW k key v ps ws).2 ∧ ((takeW k key v ps ws).2 = 0 → (gW k key v ps ws).1 = (takeW k key v ps ws).1)
 | [], ps => ⟨rfl, fun _ => rfl⟩
 | w :: ws, ps => by
  unfold gW takeW
  split
  ·exact gW_take
  ·exact ⟨rfl, fun h => by simp_all⟩
section
variable (g s d k fu li de id : Int) (ps : List Pn) (key : ByteArray) (at' v : Int)
theorem gW_bad {k : Int} {key : ByteArray} {v : Int} {ps : List Pn} {ws : List Wn} {q : Nat} (hq : q < ws.length) {e : Int} (h : addR k ps (oneP k ws[q].lo ws[q].hi key v) = ([], e)) (he : e ≠ 0) : gW k key v ps (ws.drop q) = (ps, e) := by
 rw [List.drop_eq_getElem_cons hq, gW, h]
 simp [he]
theorem gW_ok {k : Int} {key : ByteArray} {v : Int} {ps ps' : List Pn} {ws : List Wn} {q : Nat} (hq : q < ws.length) (h : addR k ps (oneP k ws[q].lo ws[q].hi key v) = (ps', 0)) : gW k key v ps (ws.drop q) = gW k key v ps' (ws.drop (q + 1)) := by
 rw [List.drop_eq_getElem_cons hq, gW, h]
 simp
def gthAv (g s d k fu li de id : Int) (ps : List Pn) (bad : Int) : List AV := [.v (.int .i64 g), .v (.int .i64 s), .v (.int .i64 d), .v (.int .i64 k), .v (.int .i64 fu), .v (.int .i64 li), .v (.int .i64 de), .v (.int .i64 id), .sl 6 (ps.map Pn.av), .v (.int .i64 bad)]
set_option maxRecDepth 20000 in
theorem m_take (hx : ps.length ≤ 9223372036854775807) :
  AC Tryz.prog 32 [.ref 0 0, .agg [.v (.string key), .v (.int .i64 at'), .v (.int .i64 v)]] [(0, .box 84 (gthAv g s d k fu li de id ps 0))] (.v (.bool (decide ((gW k key v ps (winL s d at')).2 = 0)))) [(0, .box 84 (gthAv g s d k fu li de id (gW k key v ps (winL s d at')).1 (gW k key v ps (winL s d at')).2))] := by
 have ho := p_OfS s d at'
 have hol := winL_len s d at'
 generalize winL s d at' = ws at *
 refine (ac_body tab_ok Tryz.func32 rfl (by kernel_rfl) rfl ?_); intro w0 M μ0; simp only [Tryz.ntmps32, List.length_cons, List.length_nil, Nat.reduceAdd, Nat.reduceSub, numb]
 repeat' (first | ((first | apply o_do | apply d_do | apply d_yes rfl rfl rfl); first | exact lsc (ho) | exact ls_nilCheck rfl rfl | exact lsq) | refine a_seq ?_ | refine a_region ?_ | refine o_nil ?_ | refine a_block ?_ | refine a_ret ?_ | refine a_exit ?_ | refine a_skip ?_ | refine a_draw mixed ?_ | refine d_nil (by kernel_rfl) ?_ | refine o_yes rfl rfl rfl ?_ | refine o_no rfl rfl rfl (by decide) ?_ | refine o_no' rfl rfl rfl ?_ | refine a_condT rfl ?_ | refine a_condF rfl ?_ | refine d_no rfl rfl rfl (by decide) ?_ | refine d_no' rfl rfl rfl ?_ | (refine wq2 (fun hb => ?_) (fun hb => ?_) <;> (simp only [hb]; try simp only [hbs, ne_eq] at hb; try (exfalso; first | omega | exact hb trivial))) | fail)
 refine a_loop (X := {x : Nat × List Pn // x.1 ≤ ws.length ∧ gW k key v ps ws = gW k key v x.2 (ws.drop x.1) ∧ x.2.length ≤ 9223372036854775807}) (fun x => ⟨[(0, .ref 0 0), (3, .ref 1 0), (21, .sl 2 (ws.map Wn.av)), (22, .v (.int .i64 ws.length)), (23, .v (.int .i64 x.1.1))], [(0, .box 84 (gthAv g s d k fu li de id x.1.2 0)), (1, .box 57 [.v (.string key), .v (.int .i64 at'), .v (.int .i64 v)])]⟩) (fun x => ws.length - x.1.1) ⟨(0, ps), Nat.zero_le _, rfl, hx⟩ ?_ ?_
 ·exact wkS
 rintro ⟨⟨q, cur⟩, hq, htk, hc⟩
 dsimp only at hq htk hc ⊢
 rw [htk]
 by_cases hlt : q < ws.length
 ·have hel : (ws.map Wn.av)[q]? = some (Wn.av ws[q]) := by simp [hlt]
  have hA := p_Add cur k key ws[q].lo ws[q].hi v hc
  rcases addR_form k cur (oneP k ws[q].lo ws[q].hi key v) with ⟨l, hl, hll⟩ | ⟨e, hl, hne⟩
  ·have ht := gW_ok hlt hl
   rw [hl] at hA
   dsimp only [PR.av] at hA
   rw [ht]
   generalize ws[q] = w at *
   repeat' (first | ((first | apply o_do | apply d_do | apply d_yes rfl rfl rfl); first | exact lsc (hA) | exact ls_nilCheck rfl rfl | exact ls_indexAddr_sl tab_ok rfl rfl rfl rfl hel rfl | exact lsq) | refine a_seq ?_ | refine a_region ?_ | refine o_nil ?_ | refine a_block ?_ | refine a_ret ?_ | refine a_exit ?_ | refine a_skip ?_ | refine a_draw mixed ?_ | refine d_nil (by kernel_rfl) ?_ | refine o_yes rfl rfl rfl ?_ | refine o_no rfl rfl rfl (by decide) ?_ | refine o_no' rfl rfl rfl ?_ | refine a_condT rfl ?_ | refine a_condF rfl ?_ | refine d_no rfl rfl rfl (by decide) ?_ | refine d_no' rfl rfl rfl ?_ | (refine wq2 (fun hb => ?_) (fun hb => ?_) <;> (simp only [hb]; try simp only [hbs, ne_eq] at hb; try (exfalso; first | omega | exact hb trivial))) | fail)
   refine ⟨⟨(q + 1, l), by dsimp only; omega, rfl, by dsimp only; omega⟩, by dsimp only; omega, ?_⟩
   exact wkS
  ·have ht := gW_bad hlt hl hne
   rw [hl] at hA
   dsimp only [PR.av] at hA
   rw [ht]
   simp only [if_neg hne]
   generalize ws[q] = w at *
   repeat' (first | ((first | apply o_do | apply d_do | apply d_yes rfl rfl rfl); first | exact lsc (hA) | exact ls_nilCheck rfl rfl | exact ls_indexAddr_sl tab_ok rfl rfl rfl rfl hel rfl | exact lsq) | refine a_seq ?_ | refine a_region ?_ | refine o_nil ?_ | refine a_block ?_ | refine a_ret ?_ | refine a_exit ?_ | refine a_skip ?_ | refine a_draw mixed ?_ | refine d_nil (by kernel_rfl) ?_ | refine o_yes rfl rfl rfl ?_ | refine o_no rfl rfl rfl (by decide) ?_ | refine o_no' rfl rfl rfl ?_ | refine a_condT rfl ?_ | refine a_condF rfl ?_ | refine d_no rfl rfl rfl (by decide) ?_ | refine d_no' rfl rfl rfl ?_ | (refine wq2 (fun hb => ?_) (fun hb => ?_) <;> (simp only [hb]; try simp only [hbs, ne_eq] at hb; try (exfalso; first | omega | exact hb trivial))) | fail)
   all_goals refine rq rfl ?_
   all_goals (first | refine FinA.tup ?_ | refine FinA.one ?_); repeat' (first | exact FinBs.nil | exact FinCs.nil | refine FinBs.cons ?_ ?_ | refine FinCs.cons ?_ ?_ | refine FinB.cell (FinC.v ?_) | refine FinB.cell (FinC.own rfl rfl rfl ?_) | exact FinB.cell FinC.nil | refine FinB.cell (FinC.sl ?_) | exact FinB.agg' rfl rfl | exact FinB.cell (FinC.same rfl) | refine FinB.agg ?_ | refine FinC.v ?_ | refine FinC.own rfl rfl rfl ?_ | exact FinC.nil | refine FinC.sl ?_ | exact FinC.same rfl); all_goals try rfl
   all_goals simp [hne]
 ·obtain rfl : q = ws.length := by omega
  rw [List.drop_length]
  simp only [gW, if_true]
  repeat' (first | ((first | apply o_do | apply d_do | apply d_yes rfl rfl rfl); exact lsq) | refine a_seq ?_ | refine a_region ?_ | refine o_nil ?_ | refine a_block ?_ | refine a_ret ?_ | refine a_exit ?_ | refine a_skip ?_ | refine a_draw mixed ?_ | refine d_nil (by kernel_rfl) ?_ | refine o_yes rfl rfl rfl ?_ | refine o_no rfl rfl rfl (by decide) ?_ | refine o_no' rfl rfl rfl ?_ | refine a_condT rfl ?_ | refine a_condF rfl ?_ | refine d_no rfl rfl rfl (by decide) ?_ | refine d_no' rfl rfl rfl ?_ | (refine wq2 (fun hb => ?_) (fun hb => ?_) <;> (simp only [hb]; try simp only [hbs, ne_eq] at hb; try (exfalso; first | omega | exact hb trivial))) | fail)
  all_goals refine rq rfl ?_
  all_goals (first | refine FinA.tup ?_ | refine FinA.one ?_); repeat' (first | exact FinBs.nil | exact FinCs.nil | refine FinBs.cons ?_ ?_ | refine FinCs.cons ?_ ?_ | refine FinB.cell (FinC.v ?_) | refine FinB.cell (FinC.own rfl rfl rfl ?_) | exact FinB.cell FinC.nil | refine FinB.cell (FinC.sl ?_) | exact FinB.agg' rfl rfl | exact FinB.cell (FinC.same rfl) | refine FinB.agg ?_ | refine FinC.v ?_ | refine FinC.own rfl rfl rfl ?_ | exact FinC.nil | refine FinC.sl ?_ | exact FinC.same rfl); all_goals try rfl
  all_goals simp
end
end Go.Proofs.YtilgagmfcdfjaaaGreat
namespace Go.Proofs.YtilgagmfcdfjaaaGreat
open Go.RowKit
theorem a_swap {P : Program} {Γ : Ctx} {Q : Exit → ASt → Prop} {s : ASt} {c : Code} (b : Nat) {bt : TypeId} {cs : List AV} (cs' : List AV) (hb : find s.σ b = some (.box bt cs)) (hl : cs'.length = cs.length) (hc : ∀ σ μ w A us, repC σ μ w A cs us → repC σ μ w A cs' us)
  (h : AWP P Γ c Q ⟨s.regs, upd s.σ b (.box bt cs')⟩) : AWP P Γ c Q s := ⟨fun μ a w hr => h.out μ a w (Rel.swap (regs := s.regs) hr hb hl (fun us => hc _ _ _ _ us))⟩
theorem allK_len {li fu de : Int} : ∀ {ls : List (List Et)}, (∀ es ∈ ls, es.length ≤ 200) → (allK li fu de ls).length ≤ 200 * ls.length
 | [], _ => by simp [allK]
 | es :: ls, h => by
  have h1 := allK_len (li := li) (fu := fu) (de := de) (ls := ls) fun x hx => h x (by simp [hx])
  have h2 := h es (by simp)
  have h3 := keptE_len (li := li) (fu := fu) (de := de) (es := es) (m := 0)
  unfold allK at *
  rw [List.flatMap_cons, List.length_append, List.length_cons]
  omega
theorem allK_ok {li fu de : Int} {ls : List (List Et)} (h : ∀ es ∈ ls, ∀ e ∈ es, evR e.key e.at' = true) : ∀ e ∈ allK li fu de ls, evR e.key e.at' = true := by
 intro e he
 obtain ⟨es, h1, h2⟩ := List.mem_flatMap.1 he
 exact keptE_ok (h es h1) e h2
def runN (g s d k fu li de id : Int) (ls : List (List Et)) : List Rs × Int := if checkN g s d k fu li de id ls = 0 then outR k (allVals s d (allK li fu de ls)) else ([], checkN g s d k fu li de id ls)
def RR.av (r : List Rs × Int) : AV := .tup [.sl 5 (r.1.map Rs.av), .v (.int .i64 r.2)]
section
variable (g s d k fu li de id : Int) (ls : List (List Et))
set_option maxRecDepth 20000 in
theorem m_Run (hx : Small ls) (hls : ∀ es ∈ ls, ∀ e ∈ es, -9223372036854775808 ≤ e.v ∧ e.v ≤ 9223372036854775807) (hli : li ≤ 9223372036854775807) :
  PC Tryz.prog 8 [.agg [.v (.int .i64 g), .v (.int .i64 s), .v (.int .i64 d), .v (.int .i64 k), .v (.int .i64 fu), .v (.int .i64 li), .v (.int .i64 de), .v (.int .i64 id)], .sl 1 (ls.map inAv)] (RR.av (runN g s d k fu li de id ls)) := by
 have hc := m_check g s d k fu li de id ls hx
 unfold runN
 by_cases h0 : checkN g s d k fu li de id ls = 0
 ·obtain ⟨hfr, hw, hl4, hes⟩ := check_parts h0
  rw [h0] at hc
  simp only [h0, if_true]
  have hseq := seq_all g s d k fu li de id ls (fun es he => ⟨hls es he, by have := (hes es he).1; omega⟩) hli (by omega)
  have hKl := allK_len (li := li) (fu := fu) (de := de) (ls := ls) fun es he => (hes es he).1
  have hKo := allK_ok (li := li) (fu := fu) (de := de) (ls := ls) fun es he => (hes es he).2
  generalize allK li fu de ls = K at *
  refine PC.mk (ac_body tab_ok Tryz.func8 rfl (by kernel_rfl) rfl ?_); intro w0 M μ0; simp only [Tryz.ntmps8, List.length_cons, List.length_nil, Nat.reduceAdd, Nat.reduceSub, numb]
  repeat' (first | ((first | apply o_do | apply d_do | apply d_yes rfl rfl rfl); first | exact lsc (hc) | exact lsq) | refine a_seq ?_ | refine a_region ?_ | refine o_nil ?_ | refine a_block ?_ | refine a_ret ?_ | refine a_exit ?_ | refine a_skip ?_ | refine a_draw mixed ?_ | refine d_nil (by kernel_rfl) ?_ | refine o_yes rfl rfl rfl ?_ | refine o_no rfl rfl rfl (by decide) ?_ | refine o_no' rfl rfl rfl ?_ | refine a_condT rfl ?_ | refine a_condF rfl ?_ | refine d_no rfl rfl rfl (by decide) ?_ | refine d_no' rfl rfl rfl ?_ | (refine wq2 (fun hb => ?_) (fun hb => ?_) <;> (simp only [hb]; try simp only [hbs, ne_eq] at hb; try (exfalso; first | omega | exact hb trivial))) | fail)
  refine a_weak (t := ⟨[(2, .el [.v (.int .i64 g), .v (.int .i64 s), .v (.int .i64 d), .v (.int .i64 k), .v (.int .i64 fu), .v (.int .i64 li), .v (.int .i64 de), .v (.int .i64 id)]), (4, .ref 2 0), (5, .ref 3 0), (7, .ref 5 0), (9, .ref 6 0), (23, .clo (.func 30) [] [.el [.sl 1 (ls.map inAv)], .el [.v (.int .i64 g), .v (.int .i64 s), .v (.int .i64 d), .v (.int .i64 k), .v (.int .i64 fu), .v (.int .i64 li), .v (.int .i64 de), .v (.int .i64 id)]])], [(2, .box 27 [.v (.slice none 0 0)]), (3, .box 28 [.v (.int .i64 0)]), (4, .box 84 [.v (.int .i64 g), .v (.int .i64 s), .v (.int .i64 d), .v (.int .i64 k), .v (.int .i64 fu), .v (.int .i64 li), .v (.int .i64 de), .v (.int .i64 id), .v (.slice none 0 0), .v (.int .i64 0)]), (5, .box 81 [.ref 4 0]), (6, .box 85 [.clo (.func 32) [.ref 4 0] []])]⟩) ?_ ?_
  ·refine ⟨by repeat' (first | exact trivial | exact FinA.one (FinB.cell (FinC.same rfl)) | exact FinA.one (FinB.cell FinC.nil) | exact FinA.bound rfl | exact FinA.one (FinB.cell (FinC.own rfl rfl rfl rfl)) | exact FinA.one (FinB.cell (FinC.v (by first | rfl | (simp)))) | exact FinA.one (FinB.cell (FinC.ow rfl (by first | rfl | (simp)))) | exact FinA.one (FinB.agg' rfl rfl) | exact FinA.one (FinB.cell (FinC.el rfl rfl rfl rfl)) | refine FinA.clo ?_ ?_ | exact FinBs.nil | exact FinB.cell (FinC.same rfl) | exact FinB.cell (FinC.el rfl rfl rfl rfl) | refine FinBs.cons ?_ ?_ | refine ⟨⟨_, rfl, ?_⟩, ?_⟩), by repeat' (first | exact trivial | refine ⟨⟨_, rfl, by first | rfl | (simp; done) | (simp [renO, *]; done)⟩, by first | rfl | assumption, ?_⟩), rfl⟩
  refine a_swap 4 (gthAv g s d k fu li de id [] 0) rfl rfl (fun σ μ w A us h => ?_) ?_
  ·simp only [gthAv, repC, rep] at h ⊢
   obtain ⟨a1, m1, rfl, o1, h1, a2, m2, rfl, o2, h2, a3, m3, rfl, o3, h3, a4, m4, rfl, o4, h4, a5, m5, rfl, o5, h5, a6, m6, rfl, o6, h6, a7, m7, rfl, o7, h7, a8, m8, rfl, o8, h8, a9, m9, rfl, o9, h9, a10, m10, rfl, o10, h10, rfl⟩ := h
   exact ⟨_, _, rfl, o1, h1, _, _, rfl, o2, h2, _, _, rfl, o3, h3, _, _, rfl, o4, h4, _, _, rfl, o5, h5, _, _, rfl, o6, h6, _, _, rfl, o7, h7, _, _, rfl, o8, h8, _, _, rfl, o9, ⟨none, 0, [], h9.1, Nat.le_refl _, by simp [maxLen], .inl rfl, by simp [repLL]⟩, _, _, rfl, o10, h10, rfl⟩
  refine a_range (fun x => .agg (Et.av x)) K rfl hseq rfl et_cav rfl (fun i => [(2, .box 27 [.v (.slice none 0 0)]), (3, .box 28 [.v (.int .i64 0)]), (4, .box 84 (gthAv g s d k fu li de id (rowV k (allVals s d (K.take i))) 0)), (5, .box 81 [.ref 4 0]), (6, .box 85 [.clo (.func 32) [.ref 4 0] []])]) (fun i => (rowV k (allVals s d (K.take i))).length ≤ 2000) rfl (fun _ _ => rfl) (by simp [allVals, rowV, insAll]) ?_ ?_
  ·intro i x hxi hok W M' μi L
   have hil : i < K.length := (List.getElem?_eq_some_iff.1 hxi).1
   have hsn : allVals s d (K.take (i + 1)) = allVals s d (K.take i) ++ valsV s d x := by
    rw [take_snoc K i hil, allVals_snoc]
    have := (List.getElem?_eq_some_iff.1 hxi).2
    rw [this]
   have hxm : x ∈ K := List.mem_of_getElem? hxi
   have hvl := allVals_len (s := s) (d := d) (es := K.take i)
   rw [List.length_take, Nat.min_eq_left (by omega)] at hvl
   have htk := take_row (vs := allVals s d (K.take i)) (e := x) hfr hw (hKo x hxm) (allVals_ok hfr hw fun e he => hKo e (List.mem_of_mem_take he)) (by omega) hok
   have hT := m_take g s d k fu li de id (rowV k (allVals s d (K.take i))) x.key x.at' x.v (by omega)
   obtain ⟨hg1, hg2⟩ := gW_take (k := k) (key := x.key) (v := x.v) (ws := winL s d x.at') (ps := rowV k (allVals s d (K.take i)))
   dsimp only
   rw [hsn]
   rw [← hsn] at htk ⊢
   rw [htk] at hg1 hg2
   have hfin : ¬ (rowV k (allVals s d (K.take (i + 1)))).length ≤ 2000 → ¬ (rowV k (allVals s d K)).length ≤ 2000 := fun h1 h2 => h1 (by
    have e : allVals s d K = allVals s d (K.take (i + 1)) ++ allVals s d (K.drop (i + 1)) := by
     unfold allVals
     rw [← List.flatMap_append, List.take_append_drop]
    rw [e] at h2
    exact Nat.le_trans rowM_mono h2)
   generalize rowV k (allVals s d (K.take i)) = R at *
   generalize rowV k (allVals s d (K.take (i + 1))) = R' at *
   generalize gW k x.key x.v R (winL s d x.at') = G at *
   obtain ⟨G1, G2⟩ := G
   dsimp only at hg1 hg2 hT
   by_cases h2 : R'.length ≤ 2000
   ·rw [if_pos h2] at hg1 hg2
    have hg2 := hg2 rfl
    dsimp only at hg1 hg2
    subst hg1 hg2
    repeat' (first | ((first | apply o_do | apply d_do | apply d_yes rfl rfl rfl); exact lsq) | refine a_seq ?_ | refine a_region ?_ | refine o_nil ?_ | refine a_block ?_ | refine a_ret ?_ | refine a_exit ?_ | refine a_skip ?_ | refine a_draw mixed ?_ | refine d_nil (by kernel_rfl) ?_ | refine o_yes rfl rfl rfl ?_ | refine o_no rfl rfl rfl (by decide) ?_ | refine o_no' rfl rfl rfl ?_ | refine a_condT rfl ?_ | refine a_condF rfl ?_ | refine d_no rfl rfl rfl (by decide) ?_ | refine d_no' rfl rfl rfl ?_ | (refine wq2 (fun hb => ?_) (fun hb => ?_) <;> (simp only [hb]; try simp only [hbs, ne_eq] at hb; try (exfalso; first | omega | exact hb trivial))) | fail)
    dsimp only [AThen1]
    intro W M' μi L d0
    repeat' (first | ((first | apply o_do | apply d_do | apply d_yes rfl rfl rfl); first | exact ls_callAB [4] 20 hT rfl rfl (by (repeat' (first | exact NilL.nil | refine NilL.cons Nil.same ?_ | refine NilL.cons Nil.nil ?_ | refine NilL.cons (Nil.agg ?_) ?_ | exact Nil1s.nil | refine Nil1s.cons Nil1.same ?_ | refine Nil1s.cons Nil1.nil ?_)); first | done | fail) rfl (by repeat' (first | exact trivial | refine ⟨⟨_, rfl, by first | rfl | (simp [renO, *]; done)⟩, ?_⟩)) (by first | rfl | simp [closO, *]) rfl rfl rfl rfl (by first | rfl | simp [closO, *]) rfl | exact lsq) | refine a_seq ?_ | refine a_region ?_ | refine o_nil ?_ | refine a_block ?_ | refine a_ret ?_ | refine a_exit ?_ | refine a_skip ?_ | refine a_draw mixed ?_ | refine d_nil (by kernel_rfl) ?_ | refine o_yes rfl rfl rfl ?_ | refine o_no rfl rfl rfl (by decide) ?_ | refine o_no' rfl rfl rfl ?_ | refine a_condT rfl ?_ | refine a_condF rfl ?_ | refine d_no rfl rfl rfl (by decide) ?_ | refine d_no' rfl rfl rfl ?_ | (refine wq2 (fun hb => ?_) (fun hb => ?_) <;> (simp only [hb]; try simp only [hbs, ne_eq] at hb; try (exfalso; first | omega | exact hb trivial))) | fail)
    refine ⟨h2, ?_⟩
    repeat' (first | exact trivial | refine ⟨⟨_, rfl, by first | rfl | (simp [renO, *]; done)⟩, by first | rfl | assumption, ?_⟩)
   ·rw [if_neg h2] at hg1 hg2
    dsimp only at hg1 hg2
    subst hg1
    have hout : outR k (allVals s d K) = ([], 3) := by
     unfold outR
     rw [if_neg]
     intro h
     refine hfin h2 ?_
     exact h
    rw [hout]
    repeat' (first | ((first | apply o_do | apply d_do | apply d_yes rfl rfl rfl); exact lsq) | refine a_seq ?_ | refine a_region ?_ | refine o_nil ?_ | refine a_block ?_ | refine a_ret ?_ | refine a_exit ?_ | refine a_skip ?_ | refine a_draw mixed ?_ | refine d_nil (by kernel_rfl) ?_ | refine o_yes rfl rfl rfl ?_ | refine o_no rfl rfl rfl (by decide) ?_ | refine o_no' rfl rfl rfl ?_ | refine a_condT rfl ?_ | refine a_condF rfl ?_ | refine d_no rfl rfl rfl (by decide) ?_ | refine d_no' rfl rfl rfl ?_ | (refine wq2 (fun hb => ?_) (fun hb => ?_) <;> (simp only [hb]; try simp only [hbs, ne_eq] at hb; try (exfalso; first | omega | exact hb trivial))) | fail)
    dsimp only [AThen1]
    intro W M' μi L d0
    repeat' (first | ((first | apply o_do | apply d_do | apply d_yes rfl rfl rfl); first | exact ls_callAB [4] 20 hT rfl rfl (by (repeat' (first | exact NilL.nil | refine NilL.cons Nil.same ?_ | refine NilL.cons Nil.nil ?_ | refine NilL.cons (Nil.agg ?_) ?_ | exact Nil1s.nil | refine Nil1s.cons Nil1.same ?_ | refine Nil1s.cons Nil1.nil ?_)); first | done | fail) rfl (by repeat' (first | exact trivial | refine ⟨⟨_, rfl, by first | rfl | (simp [renO, *]; done)⟩, ?_⟩)) (by first | rfl | simp [closO, *]) rfl rfl rfl rfl (by first | rfl | simp [closO, *]) rfl | exact ls_nilCheck rfl rfl | exact lsq) | refine a_seq ?_ | refine a_region ?_ | refine o_nil ?_ | refine a_block ?_ | refine a_ret ?_ | refine a_exit ?_ | refine a_skip ?_ | refine a_draw mixed ?_ | refine d_nil (by kernel_rfl) ?_ | refine o_yes rfl rfl rfl ?_ | refine o_no rfl rfl rfl (by decide) ?_ | refine o_no' rfl rfl rfl ?_ | refine a_condT rfl ?_ | refine a_condF rfl ?_ | refine d_no rfl rfl rfl (by decide) ?_ | refine d_no' rfl rfl rfl ?_ | (refine wq2 (fun hb => ?_) (fun hb => ?_) <;> (simp only [hb]; try simp only [hbs, ne_eq] at hb; try (exfalso; first | omega | exact hb trivial))) | fail)
    refine ⟨[(2, .box 27 [.v (.slice none 0 0)]), (3, .box 28 [.v (.int .i64 3)]), (4, .box 84 (gthAv g s d k fu li de id G1 3)), (5, .box 81 [.ref 4 0]), (6, .box 85 [.clo (.func 32) [.ref 4 0] []])], ?_, rfl, ?_⟩
    ·repeat' (first | exact trivial | refine ⟨⟨_, rfl, by first | rfl | (simp [renO, *]; done)⟩, by first | rfl | assumption, ?_⟩)
    ·refine rq rfl ?_
     all_goals exact fnq
  ·intro hok
   dsimp only
   rw [List.take_length] at hok ⊢
   have hR := p_Results k (rowV k (allVals s d K)) (by omega)
   have hout : outR k (allVals s d K) = (resultsL k (rowV k (allVals s d K)), 0) := by
    unfold outR
    rw [if_pos hok]
   rw [hout]
   generalize resultsL k (rowV k (allVals s d K)) = U at *
   generalize rowV k (allVals s d K) = R at *
   repeat' (first | ((first | apply o_do | apply d_do | apply d_yes rfl rfl rfl); first | exact lsc (hR) | exact ls_nilCheck rfl rfl | exact lsq) | refine a_seq ?_ | refine a_region ?_ | refine o_nil ?_ | refine a_block ?_ | refine a_ret ?_ | refine a_exit ?_ | refine a_skip ?_ | refine a_draw mixed ?_ | refine d_nil (by kernel_rfl) ?_ | refine o_yes rfl rfl rfl ?_ | refine o_no rfl rfl rfl (by decide) ?_ | refine o_no' rfl rfl rfl ?_ | refine a_condT rfl ?_ | refine a_condF rfl ?_ | refine d_no rfl rfl rfl (by decide) ?_ | refine d_no' rfl rfl rfl ?_ | (refine wq2 (fun hb => ?_) (fun hb => ?_) <;> (simp only [hb]; try simp only [hbs, ne_eq] at hb; try (exfalso; first | omega | exact hb trivial))) | fail)
   all_goals refine rq rfl ?_
   all_goals exact fnq
 ·rw [if_neg h0]
  generalize checkN g s d k fu li de id ls = r at *
  refine PC.mk (ac_body tab_ok Tryz.func8 rfl (by kernel_rfl) rfl ?_); intro w0 M μ0; simp only [Tryz.ntmps8, List.length_cons, List.length_nil, Nat.reduceAdd, Nat.reduceSub, numb]
  repeat' (first | ((first | apply o_do | apply d_do | apply d_yes rfl rfl rfl); first | exact lsc (hc) | exact lsq) | refine a_seq ?_ | refine a_region ?_ | refine o_nil ?_ | refine a_block ?_ | refine a_ret ?_ | refine a_exit ?_ | refine a_skip ?_ | refine a_draw mixed ?_ | refine d_nil (by kernel_rfl) ?_ | refine o_yes rfl rfl rfl ?_ | refine o_no rfl rfl rfl (by decide) ?_ | refine o_no' rfl rfl rfl ?_ | refine a_condT rfl ?_ | refine a_condF rfl ?_ | refine d_no rfl rfl rfl (by decide) ?_ | refine d_no' rfl rfl rfl ?_ | (refine wq2 (fun hb => ?_) (fun hb => ?_) <;> (simp only [hb]; try simp only [hbs, ne_eq] at hb; try (exfalso; first | omega | exact hb trivial))) | fail)
  all_goals refine rq rfl ?_
  all_goals exact fnq
end
end Go.Proofs.YtilgagmfcdfjaaaGreat
namespace Go.Proofs.YtilgagmfcdfjaaaGreat
open Go.RowKit
theorem PC.res {P : Program} {f : FuncId} {args : List AV} {r r' : AV} (h : PC P f args r) (hr : ∀ μ w A y, rep [] μ w A r y → rep [] μ w A r' y) : PC P f args r' :=
 ⟨⟨h.ac.ok, fun w M μ vs h1 h2 => (h.ac.out w M μ vs h1 h2).mono fun e w' ⟨y, μ', e1, e2, e3, e4⟩ => ⟨y, μ', e1, e2, hr _ _ _ _ e3, e4⟩⟩⟩
def zGp (no : Int) : Gp := ⟨no, 0, []⟩
def zAv (no : Int) : List AV := [.v (.int .i64 no), .v (.int .i64 0), .v (.slice none 0 0)]
def zeroI (n : Nat) : List Int := (List.range n).map fun (q : Nat) => (q : Int)
theorem zeroI_snoc (n : Nat) : zeroI (n + 1) = zeroI n ++ [(n : Int)] := by
 unfold zeroI
 rw [List.range_succ, List.map_append]; rfl
theorem zAv_gp {μ : Nat → Value} {w : World} {A : Nat → Prop} {no : Int} {us : List Value} (h : repC [] μ w A (zAv no) us) : repC [] μ w A (zGp no).av us := by
 unfold zAv at h
 unfold zGp Gp.av
 simp only [repC, rep, List.map_nil] at h ⊢
 obtain ⟨a, l, e, o, h1, b, l1, e1, o1, h2, c, l2, e2, o2, ⟨rfl, _⟩, e3⟩ := h
 exact ⟨a, l, e, o, h1, b, l1, e1, o1, h2, _, l2, e2, rfl, ⟨none, 0, [], rfl, Nat.le_refl _, Nat.zero_le _, .inl rfl, rfl⟩, e3⟩
theorem zAv_gps {μ : Nat → Value} {w : World} {A : Nat → Prop} : ∀ (l : List Int) (us : List Value), repLL [] μ w A 3 (l.map zAv) us → repLL [] μ w A 3 ((l.map zGp).map Gp.av) us
 | [], us, h => h
 | no :: l, us, h => by
  simp only [List.map_cons, repLL] at h ⊢
  obtain ⟨u1, u2, e, h1, h2, h3⟩ := h
  exact ⟨u1, u2, e, h1, zAv_gp h2, zAv_gps l u2 h3⟩
theorem zAv_sl {μ : Nat → Value} {w : World} {A : Nat → Prop} (l : List Int) (y : Value) (h : rep [] μ w A (.sl 3 (l.map zAv)) y) : rep [] μ w A (.sl 3 ((l.map zGp).map Gp.av)) y := by
 simp only [rep] at h ⊢
 obtain ⟨ad, c, us, e, h1, h2, h3, h4⟩ := h
 refine ⟨ad, c, us, ?_, ?_, h2, h3, zAv_gps l us h4⟩
 ·rw [e]; simp
 ·simpa using h1
def PlI' (P : Pn → Bool) : Prop := ∀ p q, sameP p q → P p = P q
section
variable {k : Int} {P : Pn → Bool} {l : List Pn} {x : Pn}
theorem ins_front : ∀ {m : List Pn}, (∀ q ∈ m, ahead x q = true) → insP k m x = x :: m
 | [], _ => rfl
 | q :: m, h => ins_b (h q (by simp))
theorem ins_filter (hP : PlI' P) : ∀ {l : List Pn}, l.Pairwise (fun p q => ahead p q = true) → (insP k l x).filter P = if P x = true then insP k (l.filter P) x else l.filter P
 | [], _ => by
  show ([x] : List Pn).filter P = if P x = true then [x] else []
  cases h : P x <;> simp [h]
 | p :: l, h => by
  obtain ⟨h1, h2⟩ := List.pairwise_cons.1 h
  have ih := ins_filter hP h2
  rcases rel3 p x with h3 | h3 | h3
  ·rw [ins_a h3, List.filter_cons, List.filter_cons, ih]
   cases hp : P p <;> cases hx : P x <;> simp [ins_a h3]
  ·have e1 : P (joinP k p x) = P p := hP _ _ (joinP_same p x)
   have e2 : P p = P x := hP _ _ h3
   rw [ins_s h3, List.filter_cons, List.filter_cons, e1, ← e2]
   cases hp : P p <;> simp [ins_s h3]
  ·rw [ins_b h3, List.filter_cons]
   cases hx : P x
   ·rw [if_neg (by simp), if_neg (by simp)]
   ·rw [if_pos rfl, if_pos rfl, ins_front]
    intro q hq
    have hq := (List.mem_filter.1 hq).1
    rcases List.mem_cons.1 hq with rfl | hq
    ·exact h3
    ·exact ahead_trans h3 (h1 q hq)
theorem row_filter (hP : PlI' P) (vs : List Vl) : (rowV k vs).filter P = rowV k (vs.filter fun v => P (vP k v)) := by
 refine snoc_ind (p := fun vs => (rowV k vs).filter P = rowV k (vs.filter fun v => P (vP k v))) rfl ?_ vs
 intro vs v ih
 have hs : (rowV k vs).Pairwise (fun p q => ahead p q = true) := insAll_sorted List.Pairwise.nil
 rw [rowV_snoc, ins_filter hP hs, ih, List.filter_append]
 cases hv : P (vP k v)
 ·rw [if_neg (by simp)]; simp [hv]
 ·rw [if_pos rfl]; simp [hv, rowV_snoc]
theorem row_sub {vs : List Vl} (p : Vl → Bool) (hl : vs.length ≤ 1000000) (h : ∀ x ∈ vs, okV k x = true) : (rowV k (vs.filter p)).length ≤ (rowV k vs).length := by
 have hp := filter_parts p vs
 rw [rowM_perm hp hl h]
 exact rowM_mono
theorem hi_place (m : Int) : PlI' (fun p => decide (p.hi ≤ m)) := fun p q h => by show decide (p.hi ≤ m) = decide (q.hi ≤ m); rw [h.1]
theorem dueA_row (vs : List Vl) (m : Int) : dueA (rowV k vs) m = rowV k (vs.filter fun v => decide (v.hi ≤ m)) := row_filter (hi_place m) vs
theorem dueB_row (vs : List Vl) (m : Int) : dueB (rowV k vs) m = rowV k (vs.filter fun v => !decide (v.hi ≤ m)) :=
 row_filter (P := fun p => !decide (p.hi ≤ m)) (fun p q h => by show (!decide (p.hi ≤ m)) = !decide (q.hi ≤ m); rw [h.1]) vs
end
end Go.Proofs.YtilgagmfcdfjaaaGreat
