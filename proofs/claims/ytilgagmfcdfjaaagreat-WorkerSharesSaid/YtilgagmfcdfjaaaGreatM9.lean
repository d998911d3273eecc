/-
  Which jobs and inputs may be, walked over abstract values.
    Which inputs may be, and whether a job and inputs may, walked over abstract values.
  How rows of events, and rows of such rows, read.
  How a row of numbers reads.
-/
import Derived.Test.YtilgagmfcdfjaaaGreatM4
import Derived.Test.YtilgagmfcdfjaaaGreatM5
import Derived.Test.YtilgagmfcdfjaaaGreatM8
set_option linter.unusedSimpArgs false
set_option linter.unusedVariables false
set_option maxHeartbeats 20000000
namespace Go.Proofs.YtilgagmfcdfjaaaGreat
open Go.RowKit
def jobOK (g s d k fu li de id : Int) : Bool := decide (1 ≤ g) && (decide (g ≤ 32) && (winB s d && (fRight k && (decide (0 ≤ fu) && (decide (fu ≤ 40) && (decide (0 ≤ li) && (decide (0 ≤ de) && (decide (de ≤ 1099511627776) && (decide (0 ≤ id) && decide (id ≤ 1048576))))))))))
theorem j_Right (g s d k fu li de id : Int) : PC Tryz.prog 34 [.agg [.v (.int .i64 g), .v (.int .i64 s), .v (.int .i64 d), .v (.int .i64 k), .v (.int .i64 fu), .v (.int .i64 li), .v (.int .i64 de), .v (.int .i64 id)]] (.v (.bool (jobOK g s d k fu li de id))) := by
 have h1 := p_wRight s d
 have h2 := p_fRight k
 unfold jobOK
 cases hw : winB s d <;> cases hf : fRight k
 all_goals
  rw [hw] at h1
  rw [hf] at h2
  refine PC.mk (ac_body tab_ok Tryz.func34 rfl (by kernel_rfl) rfl ?_); intro w0 M μ0; simp only [Tryz.ntmps34, List.length_cons, List.length_nil, Nat.reduceAdd, Nat.reduceSub, numb]
  repeat' (first | ((first | apply o_do | apply d_do | apply d_yes rfl rfl rfl); first | exact lsc (h1) | exact lsc (h2) | exact lsq) | refine a_seq ?_ | refine a_region ?_ | refine o_nil ?_ | refine a_block ?_ | refine a_ret ?_ | refine a_exit ?_ | refine a_skip ?_ | refine a_draw mixed ?_ | refine d_nil (by kernel_rfl) ?_ | refine o_yes rfl rfl rfl ?_ | refine o_no rfl rfl rfl (by decide) ?_ | refine o_no' rfl rfl rfl ?_ | refine a_condT rfl ?_ | refine a_condF rfl ?_ | refine d_no rfl rfl rfl (by decide) ?_ | refine d_no' rfl rfl rfl ?_ | (refine wq2 (fun hb => ?_) (fun hb => ?_) <;> (simp only [hb]; try simp only [hbs, ne_eq] at hb; try (exfalso; first | omega | exact hb trivial))) | fail)
  all_goals refine rq rfl ?_
  all_goals (first | refine FinA.tup ?_ | refine FinA.one ?_); repeat' (first | exact FinBs.nil | exact FinCs.nil | refine FinBs.cons ?_ ?_ | refine FinCs.cons ?_ ?_ | refine FinB.cell (FinC.v ?_) | refine FinB.cell (FinC.own rfl rfl rfl ?_) | exact FinB.cell FinC.nil | refine FinB.cell (FinC.sl ?_) | exact FinB.agg' rfl rfl | exact FinB.cell (FinC.same rfl) | refine FinB.agg ?_ | refine FinC.v ?_ | refine FinC.own rfl rfl rfl ?_ | exact FinC.nil | refine FinC.sl ?_ | exact FinC.same rfl); all_goals try rfl
  all_goals first | (simp [*]; done) | (simp [*]; omega)
theorem j_rRight (g s d k fu li de id : Int) : PC Tryz.prog 47 [.agg [.v (.int .i64 g), .v (.int .i64 s), .v (.int .i64 d), .v (.int .i64 k), .v (.int .i64 fu), .v (.int .i64 li), .v (.int .i64 de), .v (.int .i64 id)]] (.v (.bool (jobOK g s d k fu li de id))) := by
 have h1 := g_rJob g s d k fu li de id
 unfold jobR at h1
 unfold jobOK
 cases hw : winB s d <;> cases hf : fRight k
 all_goals
  rw [hw, hf] at h1
  refine PC.mk (ac_body tab_ok Tryz.func47 rfl (by kernel_rfl) rfl ?_); intro w0 M μ0; simp only [Tryz.ntmps47, List.length_cons, List.length_nil, Nat.reduceAdd, Nat.reduceSub, numb]
  repeat' (first | ((first | apply o_do | apply d_do | apply d_yes rfl rfl rfl); first | exact lsc (h1) | exact lsq) | refine a_seq ?_ | refine a_region ?_ | refine o_nil ?_ | refine a_block ?_ | refine a_ret ?_ | refine a_exit ?_ | refine a_skip ?_ | refine a_draw mixed ?_ | refine d_nil (by kernel_rfl) ?_ | refine o_yes rfl rfl rfl ?_ | refine o_no rfl rfl rfl (by decide) ?_ | refine o_no' rfl rfl rfl ?_ | refine a_condT rfl ?_ | refine a_condF rfl ?_ | refine d_no rfl rfl rfl (by decide) ?_ | refine d_no' rfl rfl rfl ?_ | (refine wq2 (fun hb => ?_) (fun hb => ?_) <;> (simp only [hb]; try simp only [hbs, ne_eq] at hb; try (exfalso; first | omega | exact hb trivial))) | fail)
  all_goals refine rq rfl ?_
  all_goals (first | refine FinA.tup ?_ | refine FinA.one ?_); repeat' (first | exact FinBs.nil | exact FinCs.nil | refine FinBs.cons ?_ ?_ | refine FinCs.cons ?_ ?_ | refine FinB.cell (FinC.v ?_) | refine FinB.cell (FinC.own rfl rfl rfl ?_) | exact FinB.cell FinC.nil | refine FinB.cell (FinC.sl ?_) | exact FinB.agg' rfl rfl | exact FinB.cell (FinC.same rfl) | refine FinB.agg ?_ | refine FinC.v ?_ | refine FinC.own rfl rfl rfl ?_ | exact FinC.nil | refine FinC.sl ?_ | exact FinC.same rfl); all_goals try rfl
  all_goals first | (simp [*]; done) | (simp [*]; omega) | (have a1 : 1 ≤ g := (by omega); have a2 : g ≤ 32 := (by omega); have a3 : 0 ≤ fu := (by omega); have a4 : fu ≤ 40 := (by omega); have a5 : 0 ≤ li := (by omega); simp [*])
def inAv (es : List Et) : List AV := [.sl 3 (es.map Et.av)]
def okEs (es : List Et) : Bool := decide (es.length ≤ 200) && es.all fun e => evR e.key e.at'
def okIn (ls : List (List Et)) : Bool := decide (1 ≤ ls.length) && (decide (ls.length ≤ 4) && ls.all okEs)
theorem fst_all {α : Type} (p : α → Bool) (l : List α) : (l.all p = true) ∨ ∃ q, ∃ h : q < l.length, (l.take q).all p = true ∧ p l[q] = false := by
 induction l with
 | nil => exact .inl rfl
 | cons x l ih =>
  cases hx : p x
  ·exact .inr ⟨0, by simp, by simp, by simpa using hx⟩
  ·rcases ih with h | ⟨q, hq, h1, h2⟩
   ·exact .inl (by simp [hx]; simpa using h)
   ·exact .inr ⟨q + 1, by simp; omega, by simp [hx]; simpa using h1, by simpa using h2⟩
theorem p_bad (e : Et) : PC Tryz.prog 61 [.agg (Et.av e)] (.v (.bool (!evR e.key e.at'))) := by
 have h := p_Event e.key e.at' e.v
 refine PC.mk (ac_body tab_ok Tryz.func61 rfl (by kernel_rfl) rfl ?_); intro w0 M μ0; simp only [Tryz.ntmps61, List.length_cons, List.length_nil, Nat.reduceAdd, Nat.reduceSub, numb]
 repeat' (first | ((first | apply o_do | apply d_do | apply d_yes rfl rfl rfl); first | exact lsc (h) | exact lsq) | refine a_seq ?_ | refine a_region ?_ | refine o_nil ?_ | refine a_block ?_ | refine a_ret ?_ | refine a_exit ?_ | refine a_skip ?_ | refine a_draw mixed ?_ | refine d_nil (by kernel_rfl) ?_ | refine o_yes rfl rfl rfl ?_ | refine o_no rfl rfl rfl (by decide) ?_ | refine o_no' rfl rfl rfl ?_ | refine a_condT rfl ?_ | refine a_condF rfl ?_ | refine d_no rfl rfl rfl (by decide) ?_ | refine d_no' rfl rfl rfl ?_ | (refine wq2 (fun hb => ?_) (fun hb => ?_) <;> (simp only [hb]; try simp only [hbs, ne_eq] at hb; try (exfalso; first | omega | exact hb trivial))) | fail)
 all_goals refine rq rfl ?_
 all_goals exact fnq
theorem p_IdxE (es : List Et) (hx : es.length ≤ 9223372036854775807) : ∃ i : Int, (decide (0 ≤ i) = !es.all fun e => evR e.key e.at') ∧ PC Tryz.prog 89 [.sl 3 (es.map Et.av), .clo (.func 61) [] []] (.v (.int .i64 i)) := by
 rcases fst_all (fun e : Et => evR e.key e.at') es with hall | ⟨q0, hq0, h1, h2⟩
 ·refine ⟨-1, by rw [hall]; rfl, ?_⟩
  refine PC.mk (ac_body tab_ok Tryz.func89 rfl (by kernel_rfl) rfl ?_); intro w0 M μ0; simp only [Tryz.ntmps89, List.length_cons, List.length_nil, Nat.reduceAdd, Nat.reduceSub, numb]
  repeat' (first | ((first | apply o_do | apply d_do | apply d_yes rfl rfl rfl); exact lsq) | refine a_seq ?_ | refine a_region ?_ | refine o_nil ?_ | refine a_block ?_ | refine a_ret ?_ | refine a_exit ?_ | refine a_skip ?_ | refine a_draw mixed ?_ | refine d_nil (by kernel_rfl) ?_ | refine o_yes rfl rfl rfl ?_ | refine o_no rfl rfl rfl (by decide) ?_ | refine o_no' rfl rfl rfl ?_ | refine a_condT rfl ?_ | refine a_condF rfl ?_ | refine d_no rfl rfl rfl (by decide) ?_ | refine d_no' rfl rfl rfl ?_ | (refine wq2 (fun hb => ?_) (fun hb => ?_) <;> (simp only [hb]; try simp only [hbs, ne_eq] at hb; try (exfalso; first | omega | exact hb trivial))) | fail)
  refine a_loop (X := {q : Nat // q ≤ es.length}) (fun x => ⟨[(0, .sl 3 (es.map Et.av)), (1, .clo (.func 61) [] []), (7, .v (.int .i64 es.length)), (8, .v (.int .i64 x.1))], []⟩) (fun x => es.length - x.1) ⟨0, Nat.zero_le _⟩ ?_ ?_
  ·exact wkS
  rintro ⟨q, hq⟩
  dsimp only
  by_cases hlt : q < es.length
  ·have hel : (es.map Et.av)[q]? = some (Et.av es[q]) := by simp [hlt]
   have hbd := p_bad es[q]
   rw [show evR es[q].key es[q].at' = true from List.all_eq_true.1 hall _ (List.getElem_mem hlt)] at hbd
   generalize es[q] = x at *
   repeat' (first | ((first | apply o_do | apply d_do | apply d_yes rfl rfl rfl); first | exact lsc (hbd) | exact lsq) | refine a_seq ?_ | refine a_region ?_ | refine o_nil ?_ | refine a_block ?_ | refine a_ret ?_ | refine a_exit ?_ | refine a_skip ?_ | refine a_draw mixed ?_ | refine d_nil (by kernel_rfl) ?_ | refine o_yes rfl rfl rfl ?_ | refine o_no rfl rfl rfl (by decide) ?_ | refine o_no' rfl rfl rfl ?_ | refine a_condT rfl ?_ | refine a_condF rfl ?_ | refine d_no rfl rfl rfl (by decide) ?_ | refine d_no' rfl rfl rfl ?_ | (refine wq2 (fun hb => ?_) (fun hb => ?_) <;> (simp only [hb]; try simp only [hbs, ne_eq] at hb; try (exfalso; first | omega | exact hb trivial))) | fail)
   refine ⟨⟨q + 1, by omega⟩, by dsimp only; omega, ?_⟩
   exact wkS
  ·repeat' (first | ((first | apply o_do | apply d_do | apply d_yes rfl rfl rfl); exact lsq) | refine a_seq ?_ | refine a_region ?_ | refine o_nil ?_ | refine a_block ?_ | refine a_ret ?_ | refine a_exit ?_ | refine a_skip ?_ | refine a_draw mixed ?_ | refine d_nil (by kernel_rfl) ?_ | refine o_yes rfl rfl rfl ?_ | refine o_no rfl rfl rfl (by decide) ?_ | refine o_no' rfl rfl rfl ?_ | refine a_condT rfl ?_ | refine a_condF rfl ?_ | refine d_no rfl rfl rfl (by decide) ?_ | refine d_no' rfl rfl rfl ?_ | (refine wq2 (fun hb => ?_) (fun hb => ?_) <;> (simp only [hb]; try simp only [hbs, ne_eq] at hb; try (exfalso; first | omega | exact hb trivial))) | fail)
   refine rq rfl ?_
   exact fnq
 ·refine ⟨(q0 : Int), ?_, ?_⟩
  ·have : (es.all fun e => evR e.key e.at') = false := by
    rw [List.all_eq_false]
    exact ⟨es[q0], List.getElem_mem hq0, by simp [h2]⟩
   rw [this]; simp
  refine PC.mk (ac_body tab_ok Tryz.func89 rfl (by kernel_rfl) rfl ?_); intro w0 M μ0; simp only [Tryz.ntmps89, List.length_cons, List.length_nil, Nat.reduceAdd, Nat.reduceSub, numb]
  repeat' (first | ((first | apply o_do | apply d_do | apply d_yes rfl rfl rfl); exact lsq) | refine a_seq ?_ | refine a_region ?_ | refine o_nil ?_ | refine a_block ?_ | refine a_ret ?_ | refine a_exit ?_ | refine a_skip ?_ | refine a_draw mixed ?_ | refine d_nil (by kernel_rfl) ?_ | refine o_yes rfl rfl rfl ?_ | refine o_no rfl rfl rfl (by decide) ?_ | refine o_no' rfl rfl rfl ?_ | refine a_condT rfl ?_ | refine a_condF rfl ?_ | refine d_no rfl rfl rfl (by decide) ?_ | refine d_no' rfl rfl rfl ?_ | (refine wq2 (fun hb => ?_) (fun hb => ?_) <;> (simp only [hb]; try simp only [hbs, ne_eq] at hb; try (exfalso; first | omega | exact hb trivial))) | fail)
  refine a_loop (X := {q : Nat // q ≤ q0}) (fun x => ⟨[(0, .sl 3 (es.map Et.av)), (1, .clo (.func 61) [] []), (7, .v (.int .i64 es.length)), (8, .v (.int .i64 x.1))], []⟩) (fun x => es.length - x.1) ⟨0, Nat.zero_le _⟩ ?_ ?_
  ·exact wkS
  rintro ⟨q, hq⟩
  dsimp only
  have hlt : q < es.length := by omega
  have hel : (es.map Et.av)[q]? = some (Et.av es[q]) := by simp [hlt]
  have hbd := p_bad es[q]
  rcases Nat.lt_or_eq_of_le hq with h | h
  ·have hm : es[q] ∈ es.take q0 := by
    rw [List.mem_take_iff_getElem]
    exact ⟨q, by omega, rfl⟩
   rw [show evR es[q].key es[q].at' = true from List.all_eq_true.1 h1 _ hm] at hbd
   generalize es[q] = x at *
   repeat' (first | ((first | apply o_do | apply d_do | apply d_yes rfl rfl rfl); first | exact lsc (hbd) | exact lsq) | refine a_seq ?_ | refine a_region ?_ | refine o_nil ?_ | refine a_block ?_ | refine a_ret ?_ | refine a_exit ?_ | refine a_skip ?_ | refine a_draw mixed ?_ | refine d_nil (by kernel_rfl) ?_ | refine o_yes rfl rfl rfl ?_ | refine o_no rfl rfl rfl (by decide) ?_ | refine o_no' rfl rfl rfl ?_ | refine a_condT rfl ?_ | refine a_condF rfl ?_ | refine d_no rfl rfl rfl (by decide) ?_ | refine d_no' rfl rfl rfl ?_ | (refine wq2 (fun hb => ?_) (fun hb => ?_) <;> (simp only [hb]; try simp only [hbs, ne_eq] at hb; try (exfalso; first | omega | exact hb trivial))) | fail)
   refine ⟨⟨q + 1, by omega⟩, by dsimp only; omega, ?_⟩
   exact wkS
  ·subst h
   rw [show evR es[q].key es[q].at' = false from h2] at hbd
   generalize es[q] = x at *
   repeat' (first | ((first | apply o_do | apply d_do | apply d_yes rfl rfl rfl); first | exact lsc (hbd) | exact lsq) | refine a_seq ?_ | refine a_region ?_ | refine o_nil ?_ | refine a_block ?_ | refine a_ret ?_ | refine a_exit ?_ | refine a_skip ?_ | refine a_draw mixed ?_ | refine d_nil (by kernel_rfl) ?_ | refine o_yes rfl rfl rfl ?_ | refine o_no rfl rfl rfl (by decide) ?_ | refine o_no' rfl rfl rfl ?_ | refine a_condT rfl ?_ | refine a_condF rfl ?_ | refine d_no rfl rfl rfl (by decide) ?_ | refine d_no' rfl rfl rfl ?_ | (refine wq2 (fun hb => ?_) (fun hb => ?_) <;> (simp only [hb]; try simp only [hbs, ne_eq] at hb; try (exfalso; first | omega | exact hb trivial))) | fail)
   refine rq rfl ?_
   exact fnq
theorem p_ConE (es : List Et) (hx : es.length ≤ 9223372036854775807) : PC Tryz.prog 60 [.sl 3 (es.map Et.av), .clo (.func 61) [] []] (.v (.bool (!es.all fun e => evR e.key e.at'))) := by
 obtain ⟨i, h1, h2⟩ := p_IdxE es hx
 rw [← h1]
 refine PC.mk (ac_body tab_ok Tryz.func60 rfl (by kernel_rfl) rfl ?_); intro w0 M μ0; simp only [Tryz.ntmps60, List.length_cons, List.length_nil, Nat.reduceAdd, Nat.reduceSub, numb]
 repeat' (first | ((first | apply o_do | apply d_do | apply d_yes rfl rfl rfl); first | exact lsc (h2) | exact lsq) | refine a_seq ?_ | refine a_region ?_ | refine o_nil ?_ | refine a_block ?_ | refine a_ret ?_ | refine a_exit ?_ | refine a_skip ?_ | refine a_draw mixed ?_ | refine d_nil (by kernel_rfl) ?_ | refine o_yes rfl rfl rfl ?_ | refine o_no rfl rfl rfl (by decide) ?_ | refine o_no' rfl rfl rfl ?_ | refine a_condT rfl ?_ | refine a_condF rfl ?_ | refine d_no rfl rfl rfl (by decide) ?_ | refine d_no' rfl rfl rfl ?_ | (refine wq2 (fun hb => ?_) (fun hb => ?_) <;> (simp only [hb]; try simp only [hbs, ne_eq] at hb; try (exfalso; first | omega | exact hb trivial))) | fail)
 all_goals refine rq rfl ?_
 all_goals exact fnq
theorem p_badEs (es : List Et) (hx : es.length ≤ 9223372036854775807) : PC Tryz.prog 59 [.sl 3 (es.map Et.av)] (.v (.bool (!okEs es))) := by
 have h := p_ConE es hx
 have hn : (es.map Et.av).length = es.length := List.length_map _
 unfold okEs
 by_cases hl : es.length ≤ 200
 ·rw [decide_eq_true hl, Bool.true_and]
  refine PC.mk (ac_body tab_ok Tryz.func59 rfl (by kernel_rfl) rfl ?_); intro w0 M μ0; simp only [Tryz.ntmps59, List.length_cons, List.length_nil, Nat.reduceAdd, Nat.reduceSub, numb]
  repeat' (first | ((first | apply o_do | apply d_do | apply d_yes rfl rfl rfl); first | exact lsc (h) | exact lsq) | refine a_seq ?_ | refine a_region ?_ | refine o_nil ?_ | refine a_block ?_ | refine a_ret ?_ | refine a_exit ?_ | refine a_skip ?_ | refine a_draw mixed ?_ | refine d_nil (by kernel_rfl) ?_ | refine o_yes rfl rfl rfl ?_ | refine o_no rfl rfl rfl (by decide) ?_ | refine o_no' rfl rfl rfl ?_ | refine a_condT rfl ?_ | refine a_condF rfl ?_ | refine d_no rfl rfl rfl (by decide) ?_ | refine d_no' rfl rfl rfl ?_ | (refine wq2 (fun hb => ?_) (fun hb => ?_) <;> (simp only [hb]; try simp only [hbs, ne_eq] at hb; try (exfalso; first | omega | exact hb trivial))) | fail)
  all_goals refine rq rfl ?_
  all_goals exact fnq
 ·rw [decide_eq_false hl, Bool.false_and]
  refine PC.mk (ac_body tab_ok Tryz.func59 rfl (by kernel_rfl) rfl ?_); intro w0 M μ0; simp only [Tryz.ntmps59, List.length_cons, List.length_nil, Nat.reduceAdd, Nat.reduceSub, numb]
  repeat' (first | ((first | apply o_do | apply d_do | apply d_yes rfl rfl rfl); first | exact lsc (h) | exact lsq) | refine a_seq ?_ | refine a_region ?_ | refine o_nil ?_ | refine a_block ?_ | refine a_ret ?_ | refine a_exit ?_ | refine a_skip ?_ | refine a_draw mixed ?_ | refine d_nil (by kernel_rfl) ?_ | refine o_yes rfl rfl rfl ?_ | refine o_no rfl rfl rfl (by decide) ?_ | refine o_no' rfl rfl rfl ?_ | refine a_condT rfl ?_ | refine a_condF rfl ?_ | refine d_no rfl rfl rfl (by decide) ?_ | refine d_no' rfl rfl rfl ?_ | (refine wq2 (fun hb => ?_) (fun hb => ?_) <;> (simp only [hb]; try simp only [hbs, ne_eq] at hb; try (exfalso; first | omega | exact hb trivial))) | fail)
  all_goals refine rq rfl ?_
  all_goals exact fnq
end Go.Proofs.YtilgagmfcdfjaaaGreat
namespace Go.Proofs.YtilgagmfcdfjaaaGreat
open Go.RowKit
def Small (ls : List (List Et)) : Prop := ls.length ≤ 9223372036854775807 ∧ ∀ es ∈ ls, es.length ≤ 9223372036854775807
theorem p_IdxR (ls : List (List Et)) (hx : Small ls) : ∃ i : Int, (decide (0 ≤ i) = !ls.all okEs) ∧ PC Tryz.prog 88 [.sl 1 (ls.map inAv), .clo (.func 59) [] []] (.v (.int .i64 i)) := by
 rcases fst_all okEs ls with hall | ⟨q0, hq0, h1, h2⟩
 ·refine ⟨-1, by rw [hall]; rfl, ?_⟩
  refine PC.mk (ac_body tab_ok Tryz.func88 rfl (by kernel_rfl) rfl ?_); intro w0 M μ0; simp only [Tryz.ntmps88, List.length_cons, List.length_nil, Nat.reduceAdd, Nat.reduceSub, numb]
  repeat' (first | ((first | apply o_do | apply d_do | apply d_yes rfl rfl rfl); exact lsq) | refine a_seq ?_ | refine a_region ?_ | refine o_nil ?_ | refine a_block ?_ | refine a_ret ?_ | refine a_exit ?_ | refine a_skip ?_ | refine a_draw mixed ?_ | refine d_nil (by kernel_rfl) ?_ | refine o_yes rfl rfl rfl ?_ | refine o_no rfl rfl rfl (by decide) ?_ | refine o_no' rfl rfl rfl ?_ | refine a_condT rfl ?_ | refine a_condF rfl ?_ | refine d_no rfl rfl rfl (by decide) ?_ | refine d_no' rfl rfl rfl ?_ | (refine wq2 (fun hb => ?_) (fun hb => ?_) <;> (simp only [hb]; try simp only [hbs, ne_eq] at hb; try (exfalso; first | omega | exact hb trivial))) | fail)
  refine a_loop (X := {q : Nat // q ≤ ls.length}) (fun x => ⟨[(0, .sl 1 (ls.map inAv)), (1, .clo (.func 59) [] []), (7, .v (.int .i64 ls.length)), (8, .v (.int .i64 x.1))], []⟩) (fun x => ls.length - x.1) ⟨0, Nat.zero_le _⟩ ?_ ?_
  ·exact wkS
  rintro ⟨q, hq⟩
  dsimp only
  have hlx := hx.1
  by_cases hlt : q < ls.length
  ·have hel : (ls.map inAv)[q]? = some (inAv ls[q]) := by simp [hlt]
   have hbd := p_badEs ls[q] (hx.2 _ (List.getElem_mem hlt))
   rw [show okEs ls[q] = true from List.all_eq_true.1 hall _ (List.getElem_mem hlt)] at hbd
   generalize ls[q] = x at *
   repeat' (first | ((first | apply o_do | apply d_do | apply d_yes rfl rfl rfl); first | exact lsc (hbd) | exact lsq) | refine a_seq ?_ | refine a_region ?_ | refine o_nil ?_ | refine a_block ?_ | refine a_ret ?_ | refine a_exit ?_ | refine a_skip ?_ | refine a_draw mixed ?_ | refine d_nil (by kernel_rfl) ?_ | refine o_yes rfl rfl rfl ?_ | refine o_no rfl rfl rfl (by decide) ?_ | refine o_no' rfl rfl rfl ?_ | refine a_condT rfl ?_ | refine a_condF rfl ?_ | refine d_no rfl rfl rfl (by decide) ?_ | refine d_no' rfl rfl rfl ?_ | (refine wq2 (fun hb => ?_) (fun hb => ?_) <;> (simp only [hb]; try simp only [hbs, ne_eq] at hb; try (exfalso; first | omega | exact hb trivial))) | fail)
   refine ⟨⟨q + 1, by omega⟩, by dsimp only; omega, ?_⟩
   exact wkS
  ·repeat' (first | ((first | apply o_do | apply d_do | apply d_yes rfl rfl rfl); exact lsq) | refine a_seq ?_ | refine a_region ?_ | refine o_nil ?_ | refine a_block ?_ | refine a_ret ?_ | refine a_exit ?_ | refine a_skip ?_ | refine a_draw mixed ?_ | refine d_nil (by kernel_rfl) ?_ | refine o_yes rfl rfl rfl ?_ | refine o_no rfl rfl rfl (by decide) ?_ | refine o_no' rfl rfl rfl ?_ | refine a_condT rfl ?_ | refine a_condF rfl ?_ | refine d_no rfl rfl rfl (by decide) ?_ | refine d_no' rfl rfl rfl ?_ | (refine wq2 (fun hb => ?_) (fun hb => ?_) <;> (simp only [hb]; try simp only [hbs, ne_eq] at hb; try (exfalso; first | omega | exact hb trivial))) | fail)
   refine rq rfl ?_
   exact fnq
 ·refine ⟨(q0 : Int), ?_, ?_⟩
  ·have : (ls.all okEs) = false := by
    rw [List.all_eq_false]
    exact ⟨ls[q0], List.getElem_mem hq0, by simp [h2]⟩
   rw [this]; simp
  refine PC.mk (ac_body tab_ok Tryz.func88 rfl (by kernel_rfl) rfl ?_); intro w0 M μ0; simp only [Tryz.ntmps88, List.length_cons, List.length_nil, Nat.reduceAdd, Nat.reduceSub, numb]
  repeat' (first | ((first | apply o_do | apply d_do | apply d_yes rfl rfl rfl); exact lsq) | refine a_seq ?_ | refine a_region ?_ | refine o_nil ?_ | refine a_block ?_ | refine a_ret ?_ | refine a_exit ?_ | refine a_skip ?_ | refine a_draw mixed ?_ | refine d_nil (by kernel_rfl) ?_ | refine o_yes rfl rfl rfl ?_ | refine o_no rfl rfl rfl (by decide) ?_ | refine o_no' rfl rfl rfl ?_ | refine a_condT rfl ?_ | refine a_condF rfl ?_ | refine d_no rfl rfl rfl (by decide) ?_ | refine d_no' rfl rfl rfl ?_ | (refine wq2 (fun hb => ?_) (fun hb => ?_) <;> (simp only [hb]; try simp only [hbs, ne_eq] at hb; try (exfalso; first | omega | exact hb trivial))) | fail)
  refine a_loop (X := {q : Nat // q ≤ q0}) (fun x => ⟨[(0, .sl 1 (ls.map inAv)), (1, .clo (.func 59) [] []), (7, .v (.int .i64 ls.length)), (8, .v (.int .i64 x.1))], []⟩) (fun x => ls.length - x.1) ⟨0, Nat.zero_le _⟩ ?_ ?_
  ·exact wkS
  rintro ⟨q, hq⟩
  dsimp only
  have hlx := hx.1
  have hlt : q < ls.length := by omega
  have hel : (ls.map inAv)[q]? = some (inAv ls[q]) := by simp [hlt]
  have hbd := p_badEs ls[q] (hx.2 _ (List.getElem_mem hlt))
  rcases Nat.lt_or_eq_of_le hq with h | h
  ·have hm : ls[q] ∈ ls.take q0 := by
    rw [List.mem_take_iff_getElem]
    exact ⟨q, by omega, rfl⟩
   rw [show okEs ls[q] = true from List.all_eq_true.1 h1 _ hm] at hbd
   generalize ls[q] = x at *
   repeat' (first | ((first | apply o_do | apply d_do | apply d_yes rfl rfl rfl); first | exact lsc (hbd) | exact lsq) | refine a_seq ?_ | refine a_region ?_ | refine o_nil ?_ | refine a_block ?_ | refine a_ret ?_ | refine a_exit ?_ | refine a_skip ?_ | refine a_draw mixed ?_ | refine d_nil (by kernel_rfl) ?_ | refine o_yes rfl rfl rfl ?_ | refine o_no rfl rfl rfl (by decide) ?_ | refine o_no' rfl rfl rfl ?_ | refine a_condT rfl ?_ | refine a_condF rfl ?_ | refine d_no rfl rfl rfl (by decide) ?_ | refine d_no' rfl rfl rfl ?_ | (refine wq2 (fun hb => ?_) (fun hb => ?_) <;> (simp only [hb]; try simp only [hbs, ne_eq] at hb; try (exfalso; first | omega | exact hb trivial))) | fail)
   refine ⟨⟨q + 1, by omega⟩, by dsimp only; omega, ?_⟩
   exact wkS
  ·subst h
   rw [show okEs ls[q] = false from h2] at hbd
   generalize ls[q] = x at *
   repeat' (first | ((first | apply o_do | apply d_do | apply d_yes rfl rfl rfl); first | exact lsc (hbd) | exact lsq) | refine a_seq ?_ | refine a_region ?_ | refine o_nil ?_ | refine a_block ?_ | refine a_ret ?_ | refine a_exit ?_ | refine a_skip ?_ | refine a_draw mixed ?_ | refine d_nil (by kernel_rfl) ?_ | refine o_yes rfl rfl rfl ?_ | refine o_no rfl rfl rfl (by decide) ?_ | refine o_no' rfl rfl rfl ?_ | refine a_condT rfl ?_ | refine a_condF rfl ?_ | refine d_no rfl rfl rfl (by decide) ?_ | refine d_no' rfl rfl rfl ?_ | (refine wq2 (fun hb => ?_) (fun hb => ?_) <;> (simp only [hb]; try simp only [hbs, ne_eq] at hb; try (exfalso; first | omega | exact hb trivial))) | fail)
   refine rq rfl ?_
   exact fnq
theorem p_ConR (ls : List (List Et)) (hx : Small ls) : PC Tryz.prog 58 [.sl 1 (ls.map inAv), .clo (.func 59) [] []] (.v (.bool (!ls.all okEs))) := by
 obtain ⟨i, h1, h2⟩ := p_IdxR ls hx
 rw [← h1]
 refine PC.mk (ac_body tab_ok Tryz.func58 rfl (by kernel_rfl) rfl ?_); intro w0 M μ0; simp only [Tryz.ntmps58, List.length_cons, List.length_nil, Nat.reduceAdd, Nat.reduceSub, numb]
 repeat' (first | ((first | apply o_do | apply d_do | apply d_yes rfl rfl rfl); first | exact lsc (h2) | exact lsq) | refine a_seq ?_ | refine a_region ?_ | refine o_nil ?_ | refine a_block ?_ | refine a_ret ?_ | refine a_exit ?_ | refine a_skip ?_ | refine a_draw mixed ?_ | refine d_nil (by kernel_rfl) ?_ | refine o_yes rfl rfl rfl ?_ | refine o_no rfl rfl rfl (by decide) ?_ | refine o_no' rfl rfl rfl ?_ | refine a_condT rfl ?_ | refine a_condF rfl ?_ | refine d_no rfl rfl rfl (by decide) ?_ | refine d_no' rfl rfl rfl ?_ | (refine wq2 (fun hb => ?_) (fun hb => ?_) <;> (simp only [hb]; try simp only [hbs, ne_eq] at hb; try (exfalso; first | omega | exact hb trivial))) | fail)
 all_goals refine rq rfl ?_
 all_goals exact fnq
theorem j_Inputs (ls : List (List Et)) (hx : Small ls) : PC Tryz.prog 39 [.sl 1 (ls.map inAv)] (.v (.bool (okIn ls))) := by
 have h := p_ConR ls hx
 have hn : (ls.map inAv).length = ls.length := List.length_map _
 unfold okIn
 by_cases h1 : 1 ≤ ls.length ∧ ls.length ≤ 4
 ·rw [decide_eq_true h1.1, decide_eq_true h1.2, Bool.true_and, Bool.true_and]
  obtain ⟨h1, h2⟩ := h1
  refine PC.mk (ac_body tab_ok Tryz.func39 rfl (by kernel_rfl) rfl ?_); intro w0 M μ0; simp only [Tryz.ntmps39, List.length_cons, List.length_nil, Nat.reduceAdd, Nat.reduceSub, numb]
  repeat' (first | ((first | apply o_do | apply d_do | apply d_yes rfl rfl rfl); first | exact lsc (h) | exact lsq) | refine a_seq ?_ | refine a_region ?_ | refine o_nil ?_ | refine a_block ?_ | refine a_ret ?_ | refine a_exit ?_ | refine a_skip ?_ | refine a_draw mixed ?_ | refine d_nil (by kernel_rfl) ?_ | refine o_yes rfl rfl rfl ?_ | refine o_no rfl rfl rfl (by decide) ?_ | refine o_no' rfl rfl rfl ?_ | refine a_condT rfl ?_ | refine a_condF rfl ?_ | refine d_no rfl rfl rfl (by decide) ?_ | refine d_no' rfl rfl rfl ?_ | (refine wq2 (fun hb => ?_) (fun hb => ?_) <;> (simp only [hb]; try simp only [hbs, ne_eq] at hb; try (exfalso; first | omega | exact hb trivial))) | fail)
  all_goals refine rq rfl ?_
  all_goals (first | refine FinA.tup ?_ | refine FinA.one ?_); repeat' (first | exact FinBs.nil | exact FinCs.nil | refine FinBs.cons ?_ ?_ | refine FinCs.cons ?_ ?_ | refine FinB.cell (FinC.v ?_) | refine FinB.cell (FinC.own rfl rfl rfl ?_) | exact FinB.cell FinC.nil | refine FinB.cell (FinC.sl ?_) | exact FinB.agg' rfl rfl | exact FinB.cell (FinC.same rfl) | refine FinB.agg ?_ | refine FinC.v ?_ | refine FinC.own rfl rfl rfl ?_ | exact FinC.nil | refine FinC.sl ?_ | exact FinC.same rfl); all_goals try rfl
  all_goals simp
 ·rw [show (decide (1 ≤ ls.length) && (decide (ls.length ≤ 4) && ls.all okEs)) = false by
   by_cases h2 : 1 ≤ ls.length
   ·rw [decide_eq_false (fun h => h1 ⟨h2, h⟩)]; simp
   ·rw [decide_eq_false h2]; simp]
  by_cases h2 : ls.length < 1
  ·refine PC.mk (ac_body tab_ok Tryz.func39 rfl (by kernel_rfl) rfl ?_); intro w0 M μ0; simp only [Tryz.ntmps39, List.length_cons, List.length_nil, Nat.reduceAdd, Nat.reduceSub, numb]
   repeat' (first | ((first | apply o_do | apply d_do | apply d_yes rfl rfl rfl); first | exact lsc (h) | exact lsq) | refine a_seq ?_ | refine a_region ?_ | refine o_nil ?_ | refine a_block ?_ | refine a_ret ?_ | refine a_exit ?_ | refine a_skip ?_ | refine a_draw mixed ?_ | refine d_nil (by kernel_rfl) ?_ | refine o_yes rfl rfl rfl ?_ | refine o_no rfl rfl rfl (by decide) ?_ | refine o_no' rfl rfl rfl ?_ | refine a_condT rfl ?_ | refine a_condF rfl ?_ | refine d_no rfl rfl rfl (by decide) ?_ | refine d_no' rfl rfl rfl ?_ | (refine wq2 (fun hb => ?_) (fun hb => ?_) <;> (simp only [hb]; try simp only [hbs, ne_eq] at hb; try (exfalso; first | omega | exact hb trivial))) | fail)
   all_goals refine rq rfl ?_
   all_goals exact fnq
  ·have h3 : 4 < ls.length := by omega
   refine PC.mk (ac_body tab_ok Tryz.func39 rfl (by kernel_rfl) rfl ?_); intro w0 M μ0; simp only [Tryz.ntmps39, List.length_cons, List.length_nil, Nat.reduceAdd, Nat.reduceSub, numb]
   repeat' (first | ((first | apply o_do | apply d_do | apply d_yes rfl rfl rfl); first | exact lsc (h) | exact lsq) | refine a_seq ?_ | refine a_region ?_ | refine o_nil ?_ | refine a_block ?_ | refine a_ret ?_ | refine a_exit ?_ | refine a_skip ?_ | refine a_draw mixed ?_ | refine d_nil (by kernel_rfl) ?_ | refine o_yes rfl rfl rfl ?_ | refine o_no rfl rfl rfl (by decide) ?_ | refine o_no' rfl rfl rfl ?_ | refine a_condT rfl ?_ | refine a_condF rfl ?_ | refine d_no rfl rfl rfl (by decide) ?_ | refine d_no' rfl rfl rfl ?_ | (refine wq2 (fun hb => ?_) (fun hb => ?_) <;> (simp only [hb]; try simp only [hbs, ne_eq] at hb; try (exfalso; first | omega | exact hb trivial))) | fail)
   all_goals refine rq rfl ?_
   all_goals exact fnq
theorem j_rInputs (ls : List (List Et)) (hx : Small ls) : PC Tryz.prog 48 [.sl 1 (ls.map inAv)] (.v (.bool (okIn ls))) := by
 have hn : (ls.map inAv).length = ls.length := List.length_map _
 have hlx := hx.1
 refine PC.mk (ac_body tab_ok Tryz.func48 rfl (by kernel_rfl) rfl ?_); intro w0 M μ0; simp only [Tryz.ntmps48, List.length_cons, List.length_nil, Nat.reduceAdd, Nat.reduceSub, numb]
 repeat' (first | ((first | apply o_do | apply d_do | apply d_yes rfl rfl rfl); exact lsq) | refine a_seq ?_ | refine a_region ?_ | refine o_nil ?_ | refine a_block ?_ | refine a_ret ?_ | refine a_exit ?_ | refine a_skip ?_ | refine a_draw mixed ?_ | refine d_nil (by kernel_rfl) ?_ | refine o_yes rfl rfl rfl ?_ | refine o_no rfl rfl rfl (by decide) ?_ | refine o_no' rfl rfl rfl ?_ | refine a_condT rfl ?_ | refine a_condF rfl ?_ | refine d_no rfl rfl rfl (by decide) ?_ | refine d_no' rfl rfl rfl ?_ | (refine wq2 (fun hb => ?_) (fun hb => ?_) <;> (simp only [hb]; try simp only [hbs, ne_eq] at hb; try (exfalso; first | omega | exact hb trivial))) | fail)
 refine a_loop (X := {q : Nat // q ≤ ls.length ∧ (ls.take q).all okEs = true}) (fun x => ⟨[(0, .sl 1 (ls.map inAv)), (7, .sl 1 (ls.map inAv)), (8, .v (.int .i64 ls.length)), (9, .v (.int .i64 x.1))], []⟩) (fun x => ls.length - x.1) ⟨0, Nat.zero_le _, rfl⟩ ?_ ?_
 ·exact wkS
 rintro ⟨q, hq, hall⟩
 dsimp only
 by_cases hlt : q < ls.length
 ·have hel : (ls.map inAv)[q]? = some (inAv ls[q]) := by simp [hlt]
  have hsn := take_snoc ls q hlt
  have hlen := hx.2 _ (List.getElem_mem hlt)
  have hbad : okEs ls[q] = false → okIn ls = false := fun h => by
   have : ls.all okEs = false := by
    rw [List.all_eq_false]
    exact ⟨ls[q], List.getElem_mem hlt, by simp [h]⟩
   simp [okIn, this]
  have hok : okEs ls[q] = true → (ls.take (q + 1)).all okEs = true := fun h => by rw [hsn, List.all_append, hall]; simp [h]
  generalize ls[q] = es at *
  have hen : (es.map Et.av).length = es.length := List.length_map _
  by_cases h200 : 200 < es.length
  ·rw [hbad (by unfold okEs; rw [decide_eq_false (by omega), Bool.false_and])]
   repeat' (first | ((first | apply o_do | apply d_do | apply d_yes rfl rfl rfl); exact lsq) | refine a_seq ?_ | refine a_region ?_ | refine o_nil ?_ | refine a_block ?_ | refine a_ret ?_ | refine a_exit ?_ | refine a_skip ?_ | refine a_draw mixed ?_ | refine d_nil (by kernel_rfl) ?_ | refine o_yes rfl rfl rfl ?_ | refine o_no rfl rfl rfl (by decide) ?_ | refine o_no' rfl rfl rfl ?_ | refine a_condT rfl ?_ | refine a_condF rfl ?_ | refine d_no rfl rfl rfl (by decide) ?_ | refine d_no' rfl rfl rfl ?_ | (refine wq2 (fun hb => ?_) (fun hb => ?_) <;> (simp only [hb]; try simp only [hbs, ne_eq] at hb; try (exfalso; first | omega | exact hb trivial))) | fail)
   all_goals refine rq rfl ?_
   all_goals exact fnq
  ·repeat' (first | ((first | apply o_do | apply d_do | apply d_yes rfl rfl rfl); exact lsq) | refine a_seq ?_ | refine a_region ?_ | refine o_nil ?_ | refine a_block ?_ | refine a_ret ?_ | refine a_exit ?_ | refine a_skip ?_ | refine a_draw mixed ?_ | refine d_nil (by kernel_rfl) ?_ | refine o_yes rfl rfl rfl ?_ | refine o_no rfl rfl rfl (by decide) ?_ | refine o_no' rfl rfl rfl ?_ | refine a_condT rfl ?_ | refine a_condF rfl ?_ | refine d_no rfl rfl rfl (by decide) ?_ | refine d_no' rfl rfl rfl ?_ | (refine wq2 (fun hb => ?_) (fun hb => ?_) <;> (simp only [hb]; try simp only [hbs, ne_eq] at hb; try (exfalso; first | omega | exact hb trivial))) | fail)
   refine a_loop (X := {p : Nat // p ≤ es.length ∧ (es.take p).all (fun e => evR e.key e.at') = true}) (fun x => ⟨[(0, .sl 1 (ls.map inAv)), (7, .sl 1 (ls.map inAv)), (8, .v (.int .i64 ls.length)), (9, .v (.int .i64 q)), (16, .sl 3 (es.map Et.av)), (17, .v (.int .i64 es.length)), (18, .v (.int .i64 x.1))], []⟩) (fun x => es.length - x.1) ⟨0, Nat.zero_le _, rfl⟩ ?_ ?_
   ·exact wkS
   rintro ⟨p, hp, hal⟩
   dsimp only
   by_cases hpl : p < es.length
   ·have hel2 : (es.map Et.av)[p]? = some (Et.av es[p]) := by simp [hpl]
    have hev := p_rEvent es[p].key es[p].at' es[p].v
    have hsn2 := take_snoc es p hpl
    cases hc : evR es[p].key es[p].at'
    ·rw [hc] at hev
     rw [hbad (by
      unfold okEs
      have : (es.all fun e => evR e.key e.at') = false := by
       rw [List.all_eq_false]
       exact ⟨es[p], List.getElem_mem hpl, by simp [hc]⟩
      rw [this, Bool.and_false])]
     generalize es[p] = e at *
     repeat' (first | ((first | apply o_do | apply d_do | apply d_yes rfl rfl rfl); first | exact ls_indexAddr_sl tab_ok rfl rfl rfl rfl hel2 rfl | exact lsc (hev) | exact lsq) | refine a_seq ?_ | refine a_region ?_ | refine o_nil ?_ | refine a_block ?_ | refine a_ret ?_ | refine a_exit ?_ | refine a_skip ?_ | refine a_draw mixed ?_ | refine d_nil (by kernel_rfl) ?_ | refine o_yes rfl rfl rfl ?_ | refine o_no rfl rfl rfl (by decide) ?_ | refine o_no' rfl rfl rfl ?_ | refine a_condT rfl ?_ | refine a_condF rfl ?_ | refine d_no rfl rfl rfl (by decide) ?_ | refine d_no' rfl rfl rfl ?_ | (refine wq2 (fun hb => ?_) (fun hb => ?_) <;> (simp only [hb]; try simp only [hbs, ne_eq] at hb; try (exfalso; first | omega | exact hb trivial))) | fail)
     all_goals refine rq rfl ?_
     all_goals exact fnq
    ·rw [hc] at hev
     have hal2 : (es.take (p + 1)).all (fun e => evR e.key e.at') = true := by rw [hsn2, List.all_append, hal]; simp [hc]
     generalize es[p] = e at *
     repeat' (first | ((first | apply o_do | apply d_do | apply d_yes rfl rfl rfl); first | exact ls_indexAddr_sl tab_ok rfl rfl rfl rfl hel2 rfl | exact lsc (hev) | exact lsq) | refine a_seq ?_ | refine a_region ?_ | refine o_nil ?_ | refine a_block ?_ | refine a_ret ?_ | refine a_exit ?_ | refine a_skip ?_ | refine a_draw mixed ?_ | refine d_nil (by kernel_rfl) ?_ | refine o_yes rfl rfl rfl ?_ | refine o_no rfl rfl rfl (by decide) ?_ | refine o_no' rfl rfl rfl ?_ | refine a_condT rfl ?_ | refine a_condF rfl ?_ | refine d_no rfl rfl rfl (by decide) ?_ | refine d_no' rfl rfl rfl ?_ | (refine wq2 (fun hb => ?_) (fun hb => ?_) <;> (simp only [hb]; try simp only [hbs, ne_eq] at hb; try (exfalso; first | omega | exact hb trivial))) | fail)
     refine ⟨⟨p + 1, by omega, hal2⟩, by dsimp only; omega, ?_⟩
     exact wkS
   ·obtain rfl : p = es.length := by omega
    rw [List.take_length] at hal
    have hg := hok (by unfold okEs; rw [decide_eq_true (by omega), Bool.true_and]; exact hal)
    repeat' (first | ((first | apply o_do | apply d_do | apply d_yes rfl rfl rfl); exact lsq) | refine a_seq ?_ | refine a_region ?_ | refine o_nil ?_ | refine a_block ?_ | refine a_ret ?_ | refine a_exit ?_ | refine a_skip ?_ | refine a_draw mixed ?_ | refine d_nil (by kernel_rfl) ?_ | refine o_yes rfl rfl rfl ?_ | refine o_no rfl rfl rfl (by decide) ?_ | refine o_no' rfl rfl rfl ?_ | refine a_condT rfl ?_ | refine a_condF rfl ?_ | refine d_no rfl rfl rfl (by decide) ?_ | refine d_no' rfl rfl rfl ?_ | (refine wq2 (fun hb => ?_) (fun hb => ?_) <;> (simp only [hb]; try simp only [hbs, ne_eq] at hb; try (exfalso; first | omega | exact hb trivial))) | fail)
    refine ⟨⟨q + 1, by omega, hg⟩, by dsimp only; omega, ?_⟩
    exact wkS
 ·obtain rfl : q = ls.length := by omega
  rw [List.take_length] at hall
  unfold okIn
  rw [hall, Bool.and_true]
  repeat' (first | ((first | apply o_do | apply d_do | apply d_yes rfl rfl rfl); exact lsq) | refine a_seq ?_ | refine a_region ?_ | refine o_nil ?_ | refine a_block ?_ | refine a_ret ?_ | refine a_exit ?_ | refine a_skip ?_ | refine a_draw mixed ?_ | refine d_nil (by kernel_rfl) ?_ | refine o_yes rfl rfl rfl ?_ | refine o_no rfl rfl rfl (by decide) ?_ | refine o_no' rfl rfl rfl ?_ | refine a_condT rfl ?_ | refine a_condF rfl ?_ | refine d_no rfl rfl rfl (by decide) ?_ | refine d_no' rfl rfl rfl ?_ | (refine wq2 (fun hb => ?_) (fun hb => ?_) <;> (simp only [hb]; try simp only [hbs, ne_eq] at hb; try (exfalso; first | omega | exact hb trivial))) | fail)
  all_goals refine rq rfl ?_
  all_goals (first | refine FinA.tup ?_ | refine FinA.one ?_); repeat' (first | exact FinBs.nil | exact FinCs.nil | refine FinBs.cons ?_ ?_ | refine FinCs.cons ?_ ?_ | refine FinB.cell (FinC.v ?_) | refine FinB.cell (FinC.own rfl rfl rfl ?_) | exact FinB.cell FinC.nil | refine FinB.cell (FinC.sl ?_) | exact FinB.agg' rfl rfl | exact FinB.cell (FinC.same rfl) | refine FinB.agg ?_ | refine FinC.v ?_ | refine FinC.own rfl rfl rfl ?_ | exact FinC.nil | refine FinC.sl ?_ | exact FinC.same rfl); all_goals try rfl
  ·have a1 : 1 ≤ ls.length := by omega
   have a2 : (((ls.map inAv).length : Int) ≤ 4) ↔ ls.length ≤ 4 := by omega
   rw [decide_eq_true a1, Bool.true_and]
   simp only [a2]
  ·have a1 : ¬ 1 ≤ ls.length := by omega
   rw [decide_eq_false a1]; simp
def checkN (g s d k fu li de id : Int) (ls : List (List Et)) : Int := if jobOK g s d k fu li de id = false then 130 else if okIn ls = false then 1 else 0
theorem m_check (g s d k fu li de id : Int) (ls : List (List Et)) (hx : Small ls) : PC Tryz.prog 29 [.agg [.v (.int .i64 g), .v (.int .i64 s), .v (.int .i64 d), .v (.int .i64 k), .v (.int .i64 fu), .v (.int .i64 li), .v (.int .i64 de), .v (.int .i64 id)], .sl 1 (ls.map inAv)] (.v (.int .i64 (checkN g s d k fu li de id ls))) := by
 have h1 := j_Right g s d k fu li de id
 have h2 := j_Inputs ls hx
 unfold checkN
 cases hj : jobOK g s d k fu li de id <;> cases hi : okIn ls
 all_goals
  rw [hj] at h1
  rw [hi] at h2
  refine PC.mk (ac_body tab_ok Tryz.func29 rfl (by kernel_rfl) rfl ?_); intro w0 M μ0; simp only [Tryz.ntmps29, List.length_cons, List.length_nil, Nat.reduceAdd, Nat.reduceSub, numb]
  repeat' (first | ((first | apply o_do | apply d_do | apply d_yes rfl rfl rfl); first | exact lsc (h1) | exact lsc (h2) | exact lsq) | refine a_seq ?_ | refine a_region ?_ | refine o_nil ?_ | refine a_block ?_ | refine a_ret ?_ | refine a_exit ?_ | refine a_skip ?_ | refine a_draw mixed ?_ | refine d_nil (by kernel_rfl) ?_ | refine o_yes rfl rfl rfl ?_ | refine o_no rfl rfl rfl (by decide) ?_ | refine o_no' rfl rfl rfl ?_ | refine a_condT rfl ?_ | refine a_condF rfl ?_ | refine d_no rfl rfl rfl (by decide) ?_ | refine d_no' rfl rfl rfl ?_ | (refine wq2 (fun hb => ?_) (fun hb => ?_) <;> (simp only [hb]; try simp only [hbs, ne_eq] at hb; try (exfalso; first | omega | exact hb trivial))) | fail)
  all_goals refine rq rfl ?_
  all_goals exact fnq
theorem m_rCheck (g s d k fu li de id : Int) (ls : List (List Et)) (hx : Small ls) : PC Tryz.prog 26 [.agg [.v (.int .i64 g), .v (.int .i64 s), .v (.int .i64 d), .v (.int .i64 k), .v (.int .i64 fu), .v (.int .i64 li), .v (.int .i64 de), .v (.int .i64 id)], .sl 1 (ls.map inAv)] (.v (.int .i64 (checkN g s d k fu li de id ls))) := by
 have h1 := j_rRight g s d k fu li de id
 have h2 := j_rInputs ls hx
 unfold checkN
 cases hj : jobOK g s d k fu li de id <;> cases hi : okIn ls
 all_goals
  rw [hj] at h1
  rw [hi] at h2
  refine PC.mk (ac_body tab_ok Tryz.func26 rfl (by kernel_rfl) rfl ?_); intro w0 M μ0; simp only [Tryz.ntmps26, List.length_cons, List.length_nil, Nat.reduceAdd, Nat.reduceSub, numb]
  repeat' (first | ((first | apply o_do | apply d_do | apply d_yes rfl rfl rfl); first | exact lsc (h1) | exact lsc (h2) | exact lsq) | refine a_seq ?_ | refine a_region ?_ | refine o_nil ?_ | refine a_block ?_ | refine a_ret ?_ | refine a_exit ?_ | refine a_skip ?_ | refine a_draw mixed ?_ | refine d_nil (by kernel_rfl) ?_ | refine o_yes rfl rfl rfl ?_ | refine o_no rfl rfl rfl (by decide) ?_ | refine o_no' rfl rfl rfl ?_ | refine a_condT rfl ?_ | refine a_condF rfl ?_ | refine d_no rfl rfl rfl (by decide) ?_ | refine d_no' rfl rfl rfl ?_ | (refine wq2 (fun hb => ?_) (fun hb => ?_) <;> (simp only [hb]; try simp only [hbs, ne_eq] at hb; try (exfalso; first | omega | exact hb trivial))) | fail)
  all_goals refine rq rfl ?_
  all_goals exact fnq
end Go.Proofs.YtilgagmfcdfjaaaGreat
namespace Go.Proofs.YtilgagmfcdfjaaaGreat
open Go.RowKit Go.WideShapes Go.ChangeShapes Go.ChangeAt
set_option maxRecDepth 100000
theorem el_EtR {H : Type} {enc : TypeId × Value → H} {w : World} (m : Nat) (cs : List Value) (y : DataW H × List MemPlace) (hl : cs.length = 3) (ht : DataW.trod enc Tryz.prog w 0 (fun _ => true) true m 57 cs = some y) : ∃ x : Et, cs = x.cells ∧ (-9223372036854775808 ≤ x.v ∧ x.v ≤ 9223372036854775807) := by
 obtain ⟨key, a, v, rfl, h⟩ := rd_Ev ht
 exact ⟨⟨key, a, v⟩, rfl, h.2.2⟩
def InOk (w : World) (x : Value × List Et) : Prop := x.2.length ≤ 9223372036854775807 ∧ (∀ e ∈ x.2, -9223372036854775808 ≤ e.v ∧ e.v ≤ 9223372036854775807) ∧ x.1.oneCell' = true ∧ rep [] (fun _ => undef) w (fun _ => False) (.sl 3 (x.2.map Et.av)) x.1
theorem el_In {H : Type} {enc : TypeId × Value → H} {w : World} (m : Nat) (cs : List Value) (y : DataW H × List MemPlace) (hl : cs.length = 1) (ht : DataW.trod enc Tryz.prog w 0 (fun _ => true) true m 48 cs = some y) : ∃ x : Value × List Et, cs = [x.1] ∧ InOk w x := by
 obtain ⟨A, n, c, xs, h1, h2, h3, h4, h5, h6⟩ := open_rows Et.cells (fun x => -9223372036854775808 ≤ x.v ∧ x.v ≤ 9223372036854775807) Tryz.underlying48 (by kernel_rfl : Tryz.prog.cellsOf 57 = 3) (by omega) el_EtR ht
 exact ⟨(.slice A n c, xs), h1, by dsimp only; omega, h6, rfl, rep_sl Et.cells Et.av h5 h4 h2 h3 (fun _ => rfl) (fun x _ => repC_con (cs := Et.cells x) rfl)⟩
theorem open_ins_arg {H : Type} {enc : TypeId × Value → H} {w : World} {b0 : Nat} {v : Value} {d : DataW H} {ps : List MemPlace} (hv : Value.okWide Tryz.prog w .any b0 24 v) (h : DataW.Trod enc Tryz.prog w 0 (fun _ => true) true 24 v d ps) :
  ∃ ls : List (List Et), Small ls ∧ (∀ es ∈ ls, ∀ e ∈ es, -9223372036854775808 ≤ e.v ∧ e.v ≤ 9223372036854775807) ∧ rep [] (fun _ => undef) w (fun _ => False) (.sl 1 (ls.map inAv)) v := by
 obtain ⟨A, n, c, xs, rfl, h2, h3, h4, h5, h6⟩ := open_rows_arg (fun x : Value × List Et => [x.1]) (InOk w) Tryz.underlying24 (by kernel_rfl : Tryz.prog.cellsOf 48 = 1) (by omega) el_In hv h
 refine ⟨xs.map Prod.snd, ⟨by rw [List.length_map]; omega, fun es he => ?_⟩, fun es he => ?_, ?_⟩
 ·obtain ⟨x, h7, rfl⟩ := List.mem_map.1 he; exact (h6 x h7).1
 ·obtain ⟨x, h7, rfl⟩ := List.mem_map.1 he; exact (h6 x h7).2.1
 ·rw [List.map_map]
  refine rep_sl (fun x : Value × List Et => [x.1]) (inAv ∘ Prod.snd) h5 h4 h2 h3 (fun _ => rfl) (fun x hx => ?_)
  obtain ⟨_, _, h7, h8⟩ := h6 x hx
  simp only [Function.comp, inAv, repC]
  exact ⟨_, _, rfl, h7, h8, rfl⟩
end Go.Proofs.YtilgagmfcdfjaaaGreat
namespace Go.Proofs.YtilgagmfcdfjaaaGreat
open Go.RowKit Go.WideShapes Go.ChangeShapes Go.ChangeAt
set_option maxRecDepth 100000 in
theorem open_ints1_arg {H : Type} {enc : TypeId × Value → H} {w : World} {b0 : Nat} {v : Value} {d : DataW H} {ps : List MemPlace} (hv : Value.okWide Tryz.prog w .any b0 25 v) (h : DataW.Trod enc Tryz.prog w 0 (fun _ => true) true 25 v d ps) :
  ∃ xs : List Int, xs.length ≤ 9223372036854775807 ∧ rep [] (fun _ => undef) w (fun _ => False) (.sl 1 (xs.map fun x => [AV.v (.int .i64 x)])) v := by
 obtain ⟨A, n, c, xs, rfl, h2, h3, h4, h5, h6⟩ := open_rows_arg (fun x : Int => [Value.int .i64 x]) (fun x => (-9223372036854775808 ≤ x ∧ x ≤ 9223372036854775807)) Tryz.underlying25 (by kernel_rfl : Tryz.prog.cellsOf 3 = 1) (by omega) (el_i64 Tryz.underlying3) hv h
 exact ⟨xs, by omega, rep_sl (fun x : Int => [Value.int .i64 x]) (fun x => [AV.v (.int .i64 x)]) h5 h4 h2 h3 (fun _ => rfl) (fun x _ => repC_con (cs := [Value.int .i64 x]) rfl)⟩
end Go.Proofs.YtilgagmfcdfjaaaGreat
