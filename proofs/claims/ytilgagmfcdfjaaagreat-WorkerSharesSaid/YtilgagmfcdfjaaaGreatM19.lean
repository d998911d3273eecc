/-
  The helpers of the laws of workers that are played, walked over abstract values.
  A turn of a source, with what the program's source.Next tells.
  What sources tell from their beginning to their end, walked over abstract values.
  A worker played with rows of items, the inputs taking turns. Plain.
  A worker of rows of items, played: what it tells in the end. Plain.
  Workers, walked over abstract values: a barrier that is whole, what is told being one's own.
  Workers, walked over abstract values: an item, and all that waited for it.
-/
import Derived.Test.YtilgagmfcdfjaaaGreatM4
import Derived.Test.YtilgagmfcdfjaaaGreatM14
import Derived.Test.YtilgagmfcdfjaaaGreatM18
set_option linter.unusedSimpArgs false
set_option linter.unusedVariables false
set_option maxHeartbeats 20000000
namespace Go.Proofs.YtilgagmfcdfjaaaGreat
open Go.RowKit
def few4 (ls : List (List Et)) : List (List Et) := (ls.take 4).map fun es => es.take 12
theorem o_few (ls : List (List Et)) (hx : Small ls) : PC Tryz.prog 15 [.sl 1 (ls.map inAv)] (.sl 1 ((few4 ls).map inAv)) := by
 have hlx := hx.1
 refine PC.mk (ac_body tab_ok Tryz.func15 rfl (by kernel_rfl) rfl ?_); intro w0 M μ0; simp only [Tryz.ntmps15, List.length_cons, List.length_nil, Nat.reduceAdd, Nat.reduceSub, numb]
 repeat' (first | ((first | apply o_do | apply d_do | apply d_yes rfl rfl rfl); exact lsq) | refine a_seq ?_ | refine a_region ?_ | refine o_nil ?_ | refine a_block ?_ | refine a_ret ?_ | refine a_exit ?_ | refine a_skip ?_ | refine a_draw mixed ?_ | refine d_nil (by kernel_rfl) ?_ | refine o_yes rfl rfl rfl ?_ | refine o_no rfl rfl rfl (by decide) ?_ | refine o_no' rfl rfl rfl ?_ | refine a_condT rfl ?_ | refine a_condF rfl ?_ | refine d_no rfl rfl rfl (by decide) ?_ | refine d_no' rfl rfl rfl ?_ | (refine wq2 (fun hb => ?_) (fun hb => ?_) <;> (simp only [hb]; try simp only [hbs, ne_eq] at hb; try (exfalso; first | omega | exact hb trivial))) | fail)
 refine a_adopt 3 0 48 1 rfl rfl ?_
 refine a_loop (X := {q : Nat // q ≤ ls.length}) (fun x => ⟨[(0, .sl 1 (ls.map inAv)), (3, .own 0 ((few4 (ls.take x.1)).map inAv).length), (6, .sl 1 (ls.map inAv)), (7, .v (.int .i64 ls.length)), (8, .v (.int .i64 x.1))], [(0, .row 48 1 ((few4 (ls.take x.1)).map inAv))]⟩) (fun x => ls.length - x.1) ⟨0, Nat.zero_le _⟩ ?_ ?_
 ·exact wkS
 rintro ⟨q, hq⟩
 dsimp only
 by_cases hlt : q < ls.length
 ·have hel : (ls.map inAv)[q]? = some (inAv ls[q]) := by simp [hlt]
  have hen := hx.2 _ (List.getElem_mem hlt)
  by_cases h3 : q < 4
  ·have hsn : (few4 (ls.take (q + 1))).map inAv = (few4 (ls.take q)).map inAv ++ [inAv (ls[q].take 12)] := by
    unfold few4
    rw [List.take_take, List.take_take, show min 4 (q + 1) = q + 1 by omega, show min 4 q = q by omega, take_snoc ls q hlt, List.map_append, List.map_append]; rfl
   have hTl : ((few4 (ls.take q)).map inAv).length = q := by simp [few4]; omega
   generalize (few4 (ls.take q)).map inAv = T at *
   generalize ls[q] = es at *
   have hml : (es.map Et.av).length = es.length := List.length_map _
   have hf : inAv (es.take 12) = [.sl 3 ((es.map Et.av).take 12)] := by simp [inAv, List.map_take]
   rw [hf] at hsn
   by_cases h10 : es.length ≤ 12
   ·have ht : (es.map Et.av).take 12 = (es.map Et.av).take es.length := by
     rw [List.take_of_length_le (by omega), List.take_of_length_le (by omega)]
    rw [ht] at hsn
    have hmin : min (es.length : Int) 12 = es.length := by omega
    repeat' (first | ((first | apply o_do | apply d_do | apply d_yes rfl rfl rfl); first | exact ls_indexAddr_sl tab_ok rfl rfl rfl rfl hel rfl | exact ls_slice_to (n := es.length) tab_ok rfl rfl rfl (by simp; omega) (by rw [hml]; omega) rfl | focus (apply ls_append tab_ok rfl rfl ?hn rfl ?hsrc rfl ?hlen rfl rfl; (case hn => rfl); (case hsrc => first | exact SrcIs.sl | exact SrcIs.nil | exact SrcIs.own rfl rfl | fail); (case hlen => (try simp only [List.length_cons, List.length_nil]); (omega)); first | done | fail) | exact lsq) | refine a_seq ?_ | refine a_region ?_ | refine o_nil ?_ | refine a_block ?_ | refine a_ret ?_ | refine a_exit ?_ | refine a_skip ?_ | refine a_draw mixed ?_ | refine d_nil (by kernel_rfl) ?_ | refine o_yes rfl rfl rfl ?_ | refine o_no rfl rfl rfl (by decide) ?_ | refine o_no' rfl rfl rfl ?_ | refine a_condT rfl ?_ | refine a_condF rfl ?_ | refine d_no rfl rfl rfl (by decide) ?_ | refine d_no' rfl rfl rfl ?_ | (refine wq2 (fun hb => ?_) (fun hb => ?_) <;> (simp only [hb]; try simp only [hbs, ne_eq] at hb; try (exfalso; first | omega | exact hb trivial))) | fail)
    refine ⟨⟨q + 1, by omega⟩, by dsimp only; omega, ?_⟩
    refine ⟨by repeat' (first | exact trivial | exact FinA.one (FinB.cell (FinC.same rfl)) | exact FinA.one (FinB.cell FinC.nil) | exact FinA.bound rfl | exact FinA.one (FinB.cell (FinC.own rfl rfl rfl rfl)) | exact FinA.one (FinB.cell (FinC.v (by first | rfl | ((first | (simp; done) | (simp only [hsn]; rfl)))))) | exact FinA.one (FinB.cell (FinC.ow rfl (by first | rfl | ((first | (simp; done) | (simp only [hsn]; rfl)))))) | exact FinA.one (FinB.agg' rfl rfl) | refine ⟨⟨_, rfl, ?_⟩, ?_⟩), by repeat' (first | exact trivial | refine ⟨⟨_, rfl, by first | rfl | ((first | (simp; done) | (simp only [hsn]; rfl)); done) | (simp [renO, *]; done)⟩, by first | rfl | assumption, ?_⟩), rfl⟩
   ·repeat' (first | ((first | apply o_do | apply d_do | apply d_yes rfl rfl rfl); first | exact ls_indexAddr_sl tab_ok rfl rfl rfl rfl hel rfl | exact ls_slice_to (n := 12) tab_ok rfl rfl rfl (by simp; omega) (by rw [hml]; omega) rfl | focus (apply ls_append tab_ok rfl rfl ?hn rfl ?hsrc rfl ?hlen rfl rfl; (case hn => rfl); (case hsrc => first | exact SrcIs.sl | exact SrcIs.nil | exact SrcIs.own rfl rfl | fail); (case hlen => (try simp only [List.length_cons, List.length_nil]); (omega)); first | done | fail) | exact lsq) | refine a_seq ?_ | refine a_region ?_ | refine o_nil ?_ | refine a_block ?_ | refine a_ret ?_ | refine a_exit ?_ | refine a_skip ?_ | refine a_draw mixed ?_ | refine d_nil (by kernel_rfl) ?_ | refine o_yes rfl rfl rfl ?_ | refine o_no rfl rfl rfl (by decide) ?_ | refine o_no' rfl rfl rfl ?_ | refine a_condT rfl ?_ | refine a_condF rfl ?_ | refine d_no rfl rfl rfl (by decide) ?_ | refine d_no' rfl rfl rfl ?_ | (refine wq2 (fun hb => ?_) (fun hb => ?_) <;> (simp only [hb]; try simp only [hbs, ne_eq] at hb; try (exfalso; first | omega | exact hb trivial))) | fail)
    refine ⟨⟨q + 1, by omega⟩, by dsimp only; omega, ?_⟩
    refine ⟨by repeat' (first | exact trivial | exact FinA.one (FinB.cell (FinC.same rfl)) | exact FinA.one (FinB.cell FinC.nil) | exact FinA.bound rfl | exact FinA.one (FinB.cell (FinC.own rfl rfl rfl rfl)) | exact FinA.one (FinB.cell (FinC.v (by first | rfl | ((first | (simp; done) | (simp only [hsn]; rfl)))))) | exact FinA.one (FinB.cell (FinC.ow rfl (by first | rfl | ((first | (simp; done) | (simp only [hsn]; rfl)))))) | exact FinA.one (FinB.agg' rfl rfl) | refine ⟨⟨_, rfl, ?_⟩, ?_⟩), by repeat' (first | exact trivial | refine ⟨⟨_, rfl, by first | rfl | ((first | (simp; done) | (simp only [hsn]; rfl)); done) | (simp [renO, *]; done)⟩, by first | rfl | assumption, ?_⟩), rfl⟩
  ·have hsn : (few4 (ls.take (q + 1))).map inAv = (few4 (ls.take q)).map inAv := by
    unfold few4
    rw [List.take_take, List.take_take, show min 4 (q + 1) = 4 by omega, show min 4 q = 4 by omega]
   generalize (few4 (ls.take q)).map inAv = T at *
   generalize ls[q] = es at *
   repeat' (first | ((first | apply o_do | apply d_do | apply d_yes rfl rfl rfl); first | exact ls_indexAddr_sl tab_ok rfl rfl rfl rfl hel rfl | exact lsq) | refine a_seq ?_ | refine a_region ?_ | refine o_nil ?_ | refine a_block ?_ | refine a_ret ?_ | refine a_exit ?_ | refine a_skip ?_ | refine a_draw mixed ?_ | refine d_nil (by kernel_rfl) ?_ | refine o_yes rfl rfl rfl ?_ | refine o_no rfl rfl rfl (by decide) ?_ | refine o_no' rfl rfl rfl ?_ | refine a_condT rfl ?_ | refine a_condF rfl ?_ | refine d_no rfl rfl rfl (by decide) ?_ | refine d_no' rfl rfl rfl ?_ | (refine wq2 (fun hb => ?_) (fun hb => ?_) <;> (simp only [hb]; try simp only [hbs, ne_eq] at hb; try (exfalso; first | omega | exact hb trivial))) | fail)
   refine ⟨⟨q + 1, by omega⟩, by dsimp only; omega, ?_⟩
   dsimp only
   rw [hsn]
   exact wkS
 ·obtain rfl : q = ls.length := by omega
  rw [List.take_length]
  generalize (few4 ls).map inAv = T at *
  repeat' (first | ((first | apply o_do | apply d_do | apply d_yes rfl rfl rfl); exact lsq) | refine a_seq ?_ | refine a_region ?_ | refine o_nil ?_ | refine a_block ?_ | refine a_ret ?_ | refine a_exit ?_ | refine a_skip ?_ | refine a_draw mixed ?_ | refine d_nil (by kernel_rfl) ?_ | refine o_yes rfl rfl rfl ?_ | refine o_no rfl rfl rfl (by decide) ?_ | refine o_no' rfl rfl rfl ?_ | refine a_condT rfl ?_ | refine a_condF rfl ?_ | refine d_no rfl rfl rfl (by decide) ?_ | refine d_no' rfl rfl rfl ?_ | (refine wq2 (fun hb => ?_) (fun hb => ?_) <;> (simp only [hb]; try simp only [hbs, ne_eq] at hb; try (exfalso; first | omega | exact hb trivial))) | fail)
  all_goals refine rq rfl ?_
  all_goals exact fnq
theorem o_zero (j : Jb) (n : Nat) (fc : FuncId) (hclo : ∀ no : Int, PC Tryz.prog fc [.v (.int .i64 no)] (.v (.bool true))) (hg : j.g = (n : Int)) (hn : n ≤ 1000000) : PC Tryz.prog 19 [.agg j.av, .clo (.func fc) [] []] (.sl 3 (((zeroI n).map zGp).map Gp.av)) := by
 suffices h : PC Tryz.prog 19 [.agg j.av, .clo (.func fc) [] []] (.sl 3 ((zeroI n).map zAv)) from h.res fun μ w A y hy => zAv_sl _ y hy
 obtain ⟨g, s, d, k, fu, li, de, id⟩ := j
 dsimp only at hg
 subst hg
 unfold Jb.av
 dsimp only
 refine PC.mk (ac_body tab_ok Tryz.func19 rfl (by kernel_rfl) rfl ?_); intro w0 M μ0; simp only [Tryz.ntmps19, List.length_cons, List.length_nil, Nat.reduceAdd, Nat.reduceSub, numb]
 repeat' (first | ((first | apply o_do | apply d_do | apply d_yes rfl rfl rfl); exact lsq) | refine a_seq ?_ | refine a_region ?_ | refine o_nil ?_ | refine a_block ?_ | refine a_ret ?_ | refine a_exit ?_ | refine a_skip ?_ | refine a_draw mixed ?_ | refine d_nil (by kernel_rfl) ?_ | refine o_yes rfl rfl rfl ?_ | refine o_no rfl rfl rfl (by decide) ?_ | refine o_no' rfl rfl rfl ?_ | refine a_condT rfl ?_ | refine a_condF rfl ?_ | refine d_no rfl rfl rfl (by decide) ?_ | refine d_no' rfl rfl rfl ?_ | (refine wq2 (fun hb => ?_) (fun hb => ?_) <;> (simp only [hb]; try simp only [hbs, ne_eq] at hb; try (exfalso; first | omega | exact hb trivial))) | fail)
 refine a_adopt 5 1 98 3 rfl rfl ?_
 refine a_loop (X := {q : Nat // q ≤ n}) (fun x => ⟨[(1, .clo (.func fc) [] []), (5, .own 1 ((zeroI x.1).map zAv).length), (8, .v (.int .i64 n)), (9, .v (.int .i64 x.1))], [(1, .row 98 3 ((zeroI x.1).map zAv))]⟩) (fun x => n - x.1) ⟨0, Nat.zero_le _⟩ ?_ ?_
 ·have e0 : (zeroI 0).map zAv = [] := rfl
  dsimp only
  rw [e0]
  exact wkS
 rintro ⟨q, hq⟩
 dsimp only
 by_cases hlt : q < n
 ·have hsn : (zeroI (q + 1)).map zAv = (zeroI q).map zAv ++ [zAv q] := by
   rw [zeroI_snoc, List.map_append]; rfl
  have hTl : ((zeroI q).map zAv).length = q := by simp [zeroI]
  have hz : zAv q = [.v (.int .i64 q), .v (.int .i64 0), .v (.slice none 0 0)] := rfl
  rw [hz] at hsn
  generalize (zeroI q).map zAv = T at *
  have hcl := hclo q
  repeat' (first | ((first | apply o_do | apply d_do | apply d_yes rfl rfl rfl); first | exact lsc (hcl) | focus (apply ls_append tab_ok rfl rfl ?hn rfl ?hsrc rfl ?hlen rfl rfl; (case hn => rfl); (case hsrc => first | exact SrcIs.sl | exact SrcIs.nil | exact SrcIs.own rfl rfl | fail); (case hlen => (try simp only [List.length_cons, List.length_nil]); (omega)); first | done | fail) | exact lsq) | refine a_seq ?_ | refine a_region ?_ | refine o_nil ?_ | refine a_block ?_ | refine a_ret ?_ | refine a_exit ?_ | refine a_skip ?_ | refine a_draw mixed ?_ | refine d_nil (by kernel_rfl) ?_ | refine o_yes rfl rfl rfl ?_ | refine o_no rfl rfl rfl (by decide) ?_ | refine o_no' rfl rfl rfl ?_ | refine a_condT rfl ?_ | refine a_condF rfl ?_ | refine d_no rfl rfl rfl (by decide) ?_ | refine d_no' rfl rfl rfl ?_ | (refine wq2 (fun hb => ?_) (fun hb => ?_) <;> (simp only [hb]; try simp only [hbs, ne_eq] at hb; try (exfalso; first | omega | exact hb trivial))) | fail)
  refine ⟨⟨q + 1, by omega⟩, by dsimp only; omega, ?_⟩
  dsimp only
  rw [hsn]
  exact wkS
 ·obtain rfl : q = n := by omega
  generalize (zeroI q).map zAv = T at *
  repeat' (first | ((first | apply o_do | apply d_do | apply d_yes rfl rfl rfl); exact lsq) | refine a_seq ?_ | refine a_region ?_ | refine o_nil ?_ | refine a_block ?_ | refine a_ret ?_ | refine a_exit ?_ | refine a_skip ?_ | refine a_draw mixed ?_ | refine d_nil (by kernel_rfl) ?_ | refine o_yes rfl rfl rfl ?_ | refine o_no rfl rfl rfl (by decide) ?_ | refine o_no' rfl rfl rfl ?_ | refine a_condT rfl ?_ | refine a_condF rfl ?_ | refine d_no rfl rfl rfl (by decide) ?_ | refine d_no' rfl rfl rfl ?_ | (refine wq2 (fun hb => ?_) (fun hb => ?_) <;> (simp only [hb]; try simp only [hbs, ne_eq] at hb; try (exfalso; first | omega | exact hb trivial))) | fail)
  all_goals refine rq rfl ?_
  all_goals exact fnq
theorem s_NewF (j : Jb) (es : List Et) (hx : Small [es]) (hli : j.li ≤ 9223372036854775807) (h : ¬ (jobOK j.g j.s j.d j.k j.fu j.li j.de j.id = true ∧ okIn [es] = true)) :
  ∃ e : Int, e ≠ 0 ∧ PC Tryz.prog 12 [.agg j.av, .sl 3 (es.map Et.av), .v (.int .i64 0)] (.tup [.agg zSr.av, .v (.int .i64 e)]) := by
 have h1 := j_Right j.g j.s j.d j.k j.fu j.li j.de j.id
 have h2 : PC Tryz.prog 39 [.sl 1 [[.sl 3 (es.map Et.av)]]] (.v (.bool (okIn [es]))) := j_Inputs [es] hx
 cases hj : jobOK j.g j.s j.d j.k j.fu j.li j.de j.id
 ·rw [hj] at h1
  refine ⟨130, by decide, ?_⟩
  unfold zSr Sr.av Jb.av at *
  dsimp only
  generalize es.map Et.av = E at *
  refine PC.mk (ac_body tab_ok Tryz.func12 rfl (by kernel_rfl) rfl ?_); intro w0 M μ0; simp only [Tryz.ntmps12, List.length_cons, List.length_nil, Nat.reduceAdd, Nat.reduceSub, numb]
  repeat' (first | ((first | apply o_do | apply d_do | apply d_yes rfl rfl rfl); first | exact lcs (h1) | exact lsq) | refine a_seq ?_ | refine a_region ?_ | refine o_nil ?_ | refine a_block ?_ | refine a_ret ?_ | refine a_exit ?_ | refine a_skip ?_ | refine a_draw mixed ?_ | refine d_nil (by kernel_rfl) ?_ | refine o_yes rfl rfl rfl ?_ | refine o_no rfl rfl rfl (by decide) ?_ | refine o_no' rfl rfl rfl ?_ | refine a_condT rfl ?_ | refine a_condF rfl ?_ | refine d_no rfl rfl rfl (by decide) ?_ | refine d_no' rfl rfl rfl ?_ | (refine wq2 (fun hb => ?_) (fun hb => ?_) <;> (simp only [hb]; try simp only [hbs, ne_eq] at hb; try (exfalso; first | omega | exact hb trivial))) | fail)
  all_goals refine rq rfl ?_
  all_goals exact fnq
 ·rw [hj] at h1
  have ho : okIn [es] = false := by
   cases ho : okIn [es]
   ·rfl
   ·exact absurd ⟨hj, ho⟩ h
  rw [ho] at h2
  refine ⟨1, by decide, ?_⟩
  unfold zSr Sr.av Jb.av at *
  dsimp only
  generalize es.map Et.av = E at *
  refine PC.mk (ac_body tab_ok Tryz.func12 rfl (by kernel_rfl) rfl ?_); intro w0 M μ0; simp only [Tryz.ntmps12, List.length_cons, List.length_nil, Nat.reduceAdd, Nat.reduceSub, numb]
  repeat' (first | ((first | apply o_do | apply d_do | apply d_yes rfl rfl rfl); first | exact lcs (h1) | exact lcs (h2) | exact lsq) | refine a_seq ?_ | refine a_region ?_ | refine o_nil ?_ | refine a_block ?_ | refine a_ret ?_ | refine a_exit ?_ | refine a_skip ?_ | refine a_draw mixed ?_ | refine d_nil (by kernel_rfl) ?_ | refine o_yes rfl rfl rfl ?_ | refine o_no rfl rfl rfl (by decide) ?_ | refine o_no' rfl rfl rfl ?_ | refine a_condT rfl ?_ | refine a_condF rfl ?_ | refine d_no rfl rfl rfl (by decide) ?_ | refine d_no' rfl rfl rfl ?_ | (refine wq2 (fun hb => ?_) (fun hb => ?_) <;> (simp only [hb]; try simp only [hbs, ne_eq] at hb; try (exfalso; first | omega | exact hb trivial))) | fail)
  all_goals refine rq rfl ?_
  all_goals exact fnq
theorem tellX_len {j : Jb} {m : Int} {e : Et} : (tellX j m e).length ≤ 2 := by
 unfold tellX
 rw [List.length_append]
 split <;> split <;> simp
def good (j : Jb) (es : List Et) : Bool := jobOK j.g j.s j.d j.k j.fu j.li j.de j.id && okIn [es]
def rowA (j : Jb) (es : List Et) : List AV := [.sl 11 ((rowI j es).map It.av)]
def rowsR (j : Jb) (F : List (List Et)) : AV := if F.all (good j) = true then .tup [.sl 1 (F.map (rowA j)), .v (.bool true)] else .tup [.sl 1 [], .v (.bool false)]
theorem s_go (j : Jb) (es : List Et) (n : Nat) (hj : jobOK j.g j.s j.d j.k j.fu j.li j.de j.id = true) (ho : okIn [es] = true) (hd : 0 ≤ j.de) (hev : ∀ e ∈ es, -9223372036854775808 ≤ e.v ∧ e.v ≤ 9223372036854775807) (hli : j.li ≤ 9223372036854775807) (hn : n ≤ es.length) :
  (n = es.length → PC Tryz.prog 13 [.agg j.av, .agg ((⟨es, n, false⟩ : Src).sr j.de).av] (.tup [.agg ((⟨es, n, true⟩ : Src).sr j.de).av, .sl 11 ([markItem 1099511627776].map It.av), .v (.int .i64 0)])) ∧
  (∀ h : n < es.length, PC Tryz.prog 13 [.agg j.av, .agg ((⟨es, n, false⟩ : Src).sr j.de).av] (.tup [.agg ((⟨es, n + 1, false⟩ : Src).sr j.de).av, .sl 11 ((tellX j (markE j.de 0 (es.take n)) es[n]).map It.av), .v (.int .i64 0)])) := by
 have hip := ho
 unfold okIn at hip
 simp only [Bool.and_eq_true, decide_eq_true_eq, List.all_eq_true] at hip
 have he2 : okEs es = true := hip.2.2 es (by simp)
 unfold okEs at he2
 simp only [Bool.and_eq_true, decide_eq_true_eq, List.all_eq_true] at he2
 have hl := he2.1
 have hSm : Small [es] := ⟨by simp, fun x hx => by rw [List.mem_singleton.1 hx]; omega⟩
 have hso : SrcOk ⟨es, n, false⟩ := ⟨hn, fun h => by simp at h, he2.2, hl⟩
 have hR0 := hso.right hd
 unfold Src.sr at hR0 ⊢
 dsimp only at hR0 ⊢
 refine ⟨fun h => ?_, fun h => ?_⟩
 ·subst h
  exact s_Next j (s_step1 j es _ 0 hj hSm (by omega) hR0)
 ·have := s_Next j (s_step2 j es n _ 0 es[n] hj hSm h (List.getElem?_eq_getElem h) (hev _ (List.getElem_mem h)) hli (by omega) hR0)
  rw [markE_step h]
  exact this
set_option maxRecDepth 20000 in
theorem o_rows (j : Jb) (F : List (List Et)) (hsm : Small F) (hF4 : F.length ≤ 4) (hes : ∀ es ∈ F, ∀ e ∈ es, -9223372036854775808 ≤ e.v ∧ e.v ≤ 9223372036854775807) (hli : j.li ≤ 9223372036854775807) :
  PC Tryz.prog 16 [.agg j.av, .sl 1 (F.map inAv)] (rowsR j F) := by
 have hFl : (F.map inAv).length = F.length := List.length_map _
 have hF1 := hsm.1
 have hgs : ∀ es : List Et, good j es = true ↔ jobOK j.g j.s j.d j.k j.fu j.li j.de j.id = true ∧ okIn [es] = true := fun es => by unfold good; rw [Bool.and_eq_true]
 have hde : jobOK j.g j.s j.d j.k j.fu j.li j.de j.id = true → 0 ≤ j.de := fun h => by
  unfold jobOK at h
  simp only [Bool.and_eq_true, decide_eq_true_eq] at h
  omega
 have hJ : j.av = [.v (.int .i64 j.g), .v (.int .i64 j.s), .v (.int .i64 j.d), .v (.int .i64 j.k), .v (.int .i64 j.fu), .v (.int .i64 j.li), .v (.int .i64 j.de), .v (.int .i64 j.id)] := rfl
 have hNF := fun es hx h => s_NewF j es hx hli h
 have hN := fun es hx h => s_New0 j es hx h hli
 have hgo := fun es n => s_go j es n
 rw [hJ] at hNF hN hgo ⊢
 refine PC.mk (ac_body tab_ok Tryz.func16 rfl (by kernel_rfl) rfl ?_); intro w0 M μ0; simp only [Tryz.ntmps16, List.length_cons, List.length_nil, Nat.reduceAdd, Nat.reduceSub, numb]
 repeat' (first | ((first | apply o_do | apply d_do | apply d_yes rfl rfl rfl); exact lsq) | refine a_seq ?_ | refine a_region ?_ | refine o_nil ?_ | refine a_block ?_ | refine a_ret ?_ | refine a_exit ?_ | refine a_skip ?_ | refine a_draw mixed ?_ | refine d_nil (by kernel_rfl) ?_ | refine o_yes rfl rfl rfl ?_ | refine o_no rfl rfl rfl (by decide) ?_ | refine o_no' rfl rfl rfl ?_ | refine a_condT rfl ?_ | refine a_condF rfl ?_ | refine d_no rfl rfl rfl (by decide) ?_ | refine d_no' rfl rfl rfl ?_ | (refine wq2 (fun hb => ?_) (fun hb => ?_) <;> (simp only [hb]; try simp only [hbs, ne_eq] at hb; try (exfalso; first | omega | exact hb trivial))) | fail)
 refine a_adopt 6 1 53 1 rfl rfl ?_
 refine a_loop (X := {q : Nat // q ≤ F.length ∧ (F.take q).all (good j) = true}) (fun x => ⟨[(1, .sl 1 (F.map inAv)), (2, .ref 0 0), (6, .own 1 ((F.take x.1).map (rowA j)).length), (16, .sl 1 (F.map inAv)), (17, .v (.int .i64 F.length)), (18, .v (.int .i64 x.1))], [(0, .box 23 [.v (.int .i64 j.g), .v (.int .i64 j.s), .v (.int .i64 j.d), .v (.int .i64 j.k), .v (.int .i64 j.fu), .v (.int .i64 j.li), .v (.int .i64 j.de), .v (.int .i64 j.id)]), (1, .row 53 1 ((F.take x.1).map (rowA j)))]⟩) (fun x => F.length - x.1) ⟨0, Nat.zero_le _, by simp⟩ ?_ ?_
 ·exact wkS
 rintro ⟨q, hq, hall⟩
 dsimp only
 by_cases hlt : q < F.length
 ·have hel : (F.map inAv)[q]? = some (inAv F[q]) := by simp [hlt]
  have hm := List.getElem_mem hlt
  have hev := hes _ hm
  have hSm : Small [F[q]] := ⟨by simp, fun es he => hsm.2 es (by rw [List.mem_singleton.1 he]; exact hm)⟩
  have hsn : (F.take (q + 1)).map (rowA j) = (F.take q).map (rowA j) ++ [rowA j F[q]] := by
   rw [take_snoc F q hlt, List.map_append]; rfl
  have hTl : ((F.take q).map (rowA j)).length = q := by simp; omega
  have hsa : (F.take (q + 1)).all (good j) = ((F.take q).all (good j) && good j F[q]) := by rw [take_snoc F q hlt, List.all_append]; simp
  have hbad : good j F[q] = false → F.all (good j) = false := fun h => by
   rw [List.all_eq_false]; exact ⟨_, hm, by rw [h]; simp⟩
  have hN1 := hN F[q] hSm hev
  have hNF1 := hNF F[q] hSm
  have hg1 := hgs F[q]
  have hgo1 := hgo F[q]
  generalize F[q] = es at *
  generalize (F.take q).map (rowA j) = T at *
  cases hgd : good j es
  ·obtain ⟨e, he0, hNF2⟩ := hNF1 (by rw [← hg1, hgd]; simp)
   unfold rowsR
   rw [hbad hgd, if_neg (by simp)]
   unfold zSr Sr.av at hNF2
   dsimp only at hNF2
   repeat' (first | ((first | apply o_do | apply d_do | apply d_yes rfl rfl rfl); first | exact ls_indexAddr_sl tab_ok rfl rfl rfl rfl hel rfl | exact lsc (hNF2) | exact lsq) | refine a_seq ?_ | refine a_region ?_ | refine o_nil ?_ | refine a_block ?_ | refine a_ret ?_ | refine a_exit ?_ | refine a_skip ?_ | refine a_draw mixed ?_ | refine d_nil (by kernel_rfl) ?_ | refine o_yes rfl rfl rfl ?_ | refine o_no rfl rfl rfl (by decide) ?_ | refine o_no' rfl rfl rfl ?_ | refine a_condT rfl ?_ | refine a_condF rfl ?_ | refine d_no rfl rfl rfl (by decide) ?_ | refine d_no' rfl rfl rfl ?_ | (refine wq2 (fun hb => ?_) (fun hb => ?_) <;> (simp only [hb]; try simp only [hbs, ne_eq] at hb; try (exfalso; first | omega | exact hb trivial))) | fail)
   all_goals refine rq rfl ?_
   all_goals exact fnq
  ·obtain ⟨hj, ho⟩ := hg1.1 hgd
   have hN2 := hN1 hj ho
   have hd := hde hj
   have hln := (List.mem_singleton.1 (List.mem_singleton.2 rfl) : es = es)
   have hel0 : es.length ≤ 9223372036854775807 := hSm.2 es (by simp)
   have hl200 : es.length ≤ 200 := by
    have hip := ho
    unfold okIn at hip
    simp only [Bool.and_eq_true, decide_eq_true_eq, List.all_eq_true] at hip
    have he2 : okEs es = true := hip.2.2 es (by simp)
    unfold okEs at he2
    simp only [Bool.and_eq_true, decide_eq_true_eq] at he2
    exact he2.1
   have hEl : (es.map Et.av).length = es.length := List.length_map _
   unfold Sr.av at hN2
   dsimp only at hN2
   repeat' (first | ((first | apply o_do | apply d_do | apply d_yes rfl rfl rfl); first | exact ls_indexAddr_sl tab_ok rfl rfl rfl rfl hel rfl | exact lsc (hN2) | exact lsq) | refine a_seq ?_ | refine a_region ?_ | refine o_nil ?_ | refine a_block ?_ | refine a_ret ?_ | refine a_exit ?_ | refine a_skip ?_ | refine a_draw mixed ?_ | refine d_nil (by kernel_rfl) ?_ | refine o_yes rfl rfl rfl ?_ | refine o_no rfl rfl rfl (by decide) ?_ | refine o_no' rfl rfl rfl ?_ | refine a_condT rfl ?_ | refine a_condF rfl ?_ | refine d_no rfl rfl rfl (by decide) ?_ | refine d_no' rfl rfl rfl ?_ | (refine wq2 (fun hb => ?_) (fun hb => ?_) <;> (simp only [hb]; try simp only [hbs, ne_eq] at hb; try (exfalso; first | omega | exact hb trivial))) | fail)
   refine a_adopt 11 3 63 11 rfl rfl ?_
   refine a_loop (X := {x : Nat × Bool // x.1 ≤ es.length ∧ (x.2 = true → x.1 = es.length)}) (fun x => ⟨[(1, .sl 1 (F.map inAv)), (2, .ref 0 0), (6, .own 1 T.length), (8, .sl 3 (es.map Et.av)), (9, .ref 2 0), (11, .own 3 ((tellL j 0 (es.take x.1.1) ++ (if x.1.2 = true then [markItem 1099511627776] else [])).map It.av).length), (12, .v (.int .i64 ((x.1.1 + x.1.2.toNat : Nat) : Int))), (16, .sl 1 (F.map inAv)), (17, .v (.int .i64 F.length)), (18, .v (.int .i64 q))], [(0, .box 23 [.v (.int .i64 j.g), .v (.int .i64 j.s), .v (.int .i64 j.d), .v (.int .i64 j.k), .v (.int .i64 j.fu), .v (.int .i64 j.li), .v (.int .i64 j.de), .v (.int .i64 j.id)]), (1, .row 53 1 T), (2, .box 50 ((⟨es, x.1.1, x.1.2⟩ : Src).sr j.de).av), (3, .row 63 11 ((tellL j 0 (es.take x.1.1) ++ (if x.1.2 = true then [markItem 1099511627776] else [])).map It.av))]⟩) (fun x => es.length + 1 - (x.1.1 + x.1.2.toNat)) ⟨(0, false), Nat.zero_le _, fun h => by simp at h⟩ ?_ ?_
   ·exact wkS
   rintro ⟨⟨n, en⟩, hn, hen⟩
   dsimp only at hn hen ⊢
   cases en
   ·simp only [Bool.toNat_false, Nat.add_zero]
    obtain ⟨g1, g2⟩ := hgo1 n hj ho hd hev hli hn
    have hLl := tellL_len (j := j) (es := es.take n) (m := 0)
    rw [List.length_take] at hLl
    rw [if_neg (by simp), List.append_nil]
    by_cases hne : n = es.length
    ·have hg := g1 hne
     have hIl : ((tellL j 0 (es.take n)).map It.av).length ≤ 400 := by rw [List.length_map]; omega
     have hap : (tellL j 0 (es.take n) ++ (if true = true then [markItem 1099511627776] else [])).map It.av = (tellL j 0 (es.take n)).map It.av ++ [markItem 1099511627776].map It.av := by rw [if_pos rfl]; exact List.map_append
     have hml : ([markItem 1099511627776].map It.av).length = 1 := rfl
     generalize (tellL j 0 (es.take n)).map It.av = X at *
     generalize [markItem 1099511627776].map It.av = Y at *
     unfold Src.sr Sr.av at hg ⊢
     dsimp only at hg ⊢
     repeat' (first | ((first | apply o_do | apply d_do | apply d_yes rfl rfl rfl); first | exact lsc (hg) | focus (apply ls_append tab_ok rfl rfl ?hn rfl ?hsrc rfl ?hlen rfl rfl; (case hn => rfl); (case hsrc => first | exact SrcIs.sl | exact SrcIs.nil | exact SrcIs.own rfl rfl | fail); (case hlen => (try simp only [List.length_cons, List.length_nil]); (omega)); first | done | fail) | exact lsq) | refine a_seq ?_ | refine a_region ?_ | refine o_nil ?_ | refine a_block ?_ | refine a_ret ?_ | refine a_exit ?_ | refine a_skip ?_ | refine a_draw mixed ?_ | refine d_nil (by kernel_rfl) ?_ | refine o_yes rfl rfl rfl ?_ | refine o_no rfl rfl rfl (by decide) ?_ | refine o_no' rfl rfl rfl ?_ | refine a_condT rfl ?_ | refine a_condF rfl ?_ | refine d_no rfl rfl rfl (by decide) ?_ | refine d_no' rfl rfl rfl ?_ | (refine wq2 (fun hb => ?_) (fun hb => ?_) <;> (simp only [hb]; try simp only [hbs, ne_eq] at hb; try (exfalso; first | omega | exact hb trivial))) | fail)
     all_goals
      refine ⟨⟨(n, true), hn, fun _ => hne⟩, by simp only [Bool.toNat_true, Bool.toNat_false]; omega, ?_⟩
      dsimp only
      rw [hap]
      exact wkS
    ·have hnl : n < es.length := by omega
     have hg := g2 hnl
     have hIl : ((tellL j 0 (es.take n)).map It.av).length ≤ 400 := by rw [List.length_map]; omega
     have hap : (tellL j 0 (es.take (n + 1)) ++ (if false = true then [markItem 1099511627776] else [])).map It.av = (tellL j 0 (es.take n)).map It.av ++ (tellX j (markE j.de 0 (es.take n)) es[n]).map It.av := by rw [if_neg (by simp), List.append_nil, tellL_step hnl, List.map_append]
     have hml : ((tellX j (markE j.de 0 (es.take n)) es[n]).map It.av).length ≤ 2 := by rw [List.length_map]; exact tellX_len
     generalize (tellX j (markE j.de 0 (es.take n)) es[n]).map It.av = Y at *
     generalize (tellL j 0 (es.take n)).map It.av = X at *
     unfold Src.sr Sr.av at hg ⊢
     dsimp only at hg ⊢
     repeat' (first | ((first | apply o_do | apply d_do | apply d_yes rfl rfl rfl); first | exact lsc (hg) | focus (apply ls_append tab_ok rfl rfl ?hn rfl ?hsrc rfl ?hlen rfl rfl; (case hn => rfl); (case hsrc => first | exact SrcIs.sl | exact SrcIs.nil | exact SrcIs.own rfl rfl | fail); (case hlen => (try simp only [List.length_cons, List.length_nil]); (omega)); first | done | fail) | exact lsq) | refine a_seq ?_ | refine a_region ?_ | refine o_nil ?_ | refine a_block ?_ | refine a_ret ?_ | refine a_exit ?_ | refine a_skip ?_ | refine a_draw mixed ?_ | refine d_nil (by kernel_rfl) ?_ | refine o_yes rfl rfl rfl ?_ | refine o_no rfl rfl rfl (by decide) ?_ | refine o_no' rfl rfl rfl ?_ | refine a_condT rfl ?_ | refine a_condF rfl ?_ | refine d_no rfl rfl rfl (by decide) ?_ | refine d_no' rfl rfl rfl ?_ | (refine wq2 (fun hb => ?_) (fun hb => ?_) <;> (simp only [hb]; try simp only [hbs, ne_eq] at hb; try (exfalso; first | omega | exact hb trivial))) | fail)
     all_goals
      refine ⟨⟨(n + 1, false), hnl, fun h => by simp at h⟩, by simp only [Bool.toNat_false]; omega, ?_⟩
      dsimp only
      rw [hap]
      exact wkS
   ·have hne := hen rfl
    subst hne
    simp only [Bool.toNat_true]
    have hrow : tellL j 0 (es.take es.length) ++ [markItem 1099511627776] = rowI j es := by rw [List.take_length]; rfl
    try simp only [if_true]
    rw [hrow]
    have hrl := rowI_len (j := j) (es := es)
    have hrA : rowA j es = [.sl 11 ((rowI j es).map It.av)] := rfl
    rw [hrA] at hsn
    generalize (rowI j es).map It.av = X at *
    unfold Src.sr Sr.av
    dsimp only
    repeat' (first | ((first | apply o_do | apply d_do | apply d_yes rfl rfl rfl); exact lsq) | refine a_seq ?_ | refine a_region ?_ | refine o_nil ?_ | refine a_block ?_ | refine a_ret ?_ | refine a_exit ?_ | refine a_skip ?_ | refine a_draw mixed ?_ | refine d_nil (by kernel_rfl) ?_ | refine o_yes rfl rfl rfl ?_ | refine o_no rfl rfl rfl (by decide) ?_ | refine o_no' rfl rfl rfl ?_ | refine a_condT rfl ?_ | refine a_condF rfl ?_ | refine d_no rfl rfl rfl (by decide) ?_ | refine d_no' rfl rfl rfl ?_ | (refine wq2 (fun hb => ?_) (fun hb => ?_) <;> (simp only [hb]; try simp only [hbs, ne_eq] at hb; try (exfalso; first | omega | exact hb trivial))) | fail)
    refine o_weak (t := ⟨[(1, .sl 1 (F.map inAv)), (2, .ref 0 0), (16, .sl 1 (F.map inAv)), (17, .v (.int .i64 F.length)), (18, .v (.int .i64 q)), (55, .own 1 T.length), (56, .sl 11 X)], [(0, .box 23 [.v (.int .i64 j.g), .v (.int .i64 j.s), .v (.int .i64 j.d), .v (.int .i64 j.k), .v (.int .i64 j.fu), .v (.int .i64 j.li), .v (.int .i64 j.de), .v (.int .i64 j.id)]), (1, .row 53 1 T)]⟩) ?_ ?_
    ·exact wkS
    repeat' (first | ((first | apply o_do | apply d_do | apply d_yes rfl rfl rfl); first | focus (apply ls_append tab_ok rfl rfl ?hn rfl ?hsrc rfl ?hlen rfl rfl; (case hn => rfl); (case hsrc => first | exact SrcIs.sl | exact SrcIs.nil | exact SrcIs.own rfl rfl | fail); (case hlen => (try simp only [List.length_cons, List.length_nil]); (omega)); first | done | fail) | exact lsq) | refine a_seq ?_ | refine a_region ?_ | refine o_nil ?_ | refine a_block ?_ | refine a_ret ?_ | refine a_exit ?_ | refine a_skip ?_ | refine a_draw mixed ?_ | refine d_nil (by kernel_rfl) ?_ | refine o_yes rfl rfl rfl ?_ | refine o_no rfl rfl rfl (by decide) ?_ | refine o_no' rfl rfl rfl ?_ | refine a_condT rfl ?_ | refine a_condF rfl ?_ | refine d_no rfl rfl rfl (by decide) ?_ | refine d_no' rfl rfl rfl ?_ | (refine wq2 (fun hb => ?_) (fun hb => ?_) <;> (simp only [hb]; try simp only [hbs, ne_eq] at hb; try (exfalso; first | omega | exact hb trivial))) | fail)
    refine ⟨⟨q + 1, by omega, by rw [hsa, hall, hgd]; rfl⟩, by dsimp only; omega, ?_⟩
    dsimp only
    rw [hsn]
    exact wkS
 ·obtain rfl : q = F.length := by omega
  rw [List.take_length] at hall ⊢
  unfold rowsR
  rw [if_pos hall]
  generalize F.map (rowA j) = T at *
  repeat' (first | ((first | apply o_do | apply d_do | apply d_yes rfl rfl rfl); exact lsq) | refine a_seq ?_ | refine a_region ?_ | refine o_nil ?_ | refine a_block ?_ | refine a_ret ?_ | refine a_exit ?_ | refine a_skip ?_ | refine a_draw mixed ?_ | refine d_nil (by kernel_rfl) ?_ | refine o_yes rfl rfl rfl ?_ | refine o_no rfl rfl rfl (by decide) ?_ | refine o_no' rfl rfl rfl ?_ | refine a_condT rfl ?_ | refine a_condF rfl ?_ | refine d_no rfl rfl rfl (by decide) ?_ | refine d_no' rfl rfl rfl ?_ | (refine wq2 (fun hb => ?_) (fun hb => ?_) <;> (simp only [hb]; try simp only [hbs, ne_eq] at hb; try (exfalso; first | omega | exact hb trivial))) | fail)
  all_goals refine rq rfl ?_
  all_goals exact fnq
def rsOf (x : It) : Rs := ⟨x.lo, x.hi, x.rkey, x.rn, x.rval⟩
def resT (l : List It) : List Rs := l.filterMap fun x => if x.kind = 5 then some (rsOf x) else none
def scan : Int → List It → Option Int
 | m, [] => some m
 | m, x :: l => if x.kind = 5 then (if x.hi ≤ m then none else scan m l) else if x.kind = 2 then (if x.mark ≤ m then none else scan x.mark l) else scan m l
structure Ps where
 at' : List Nat
 lf : Nat
 i : Nat
 w : Wk
 out : List Rs
def turn (ts : List Int) (i n : Nat) : Nat := (((if i < ts.length then ts.getD i 0 else (i : Int)).tmod n + n).tmod n).toNat
def pstep (j : Jb) (f : Nat) (ins : List (List It)) (ts : List Int) (mine : It → Bool) (s : Ps) : Ps :=
 let k := turn ts s.i ins.length
 let r := ins.getD k []
 let p := s.at'.getD k 0
 match r[p]? with
 | none => { s with i := s.i + 1 }
 | some x => if mine x = true then ⟨s.at'.set k (p + 1), s.lf - 1, s.i + 1, (wkRun j f s.w (k : Int) x).w, s.out ++ resT (wkRun j f s.w (k : Int) x).told⟩ else ⟨s.at'.set k (p + 1), s.lf - 1, s.i + 1, s.w, s.out⟩
def playN (j : Jb) (f : Nat) (ins : List (List It)) (ts : List Int) (mine : It → Bool) : Nat → Ps → Ps
 | 0, s => s
 | n + 1, s => if s.lf = 0 then s else playN j f ins ts mine n (pstep j f ins ts mine s)
def leftN : List (List It) → List Nat → Nat
 | r :: ins, p :: at' => (r.length - p) + leftN ins at'
 | _, _ => 0
section
variable {j : Jb} {f : Nat} {ins : List (List It)} {ts : List Int} {mine : It → Bool} {s : Ps} {at' : List Nat}
theorem left_set : ∀ {ins : List (List It)} {at' : List Nat} {k p : Nat} {r : List It}, ins[k]? = some r → at'[k]? = some p → p < r.length → leftN ins (at'.set k (p + 1)) + 1 = leftN ins at'
 | [], _, k, _, _, h, _, _ => by simp at h
 | _ :: _, [], k, _, _, _, h, _ => by simp at h
 | r :: ins, q :: at', 0, p, r', h, h2, h3 => by
  simp only [List.getElem?_cons_zero, Option.some.injEq] at h h2
  subst h; subst h2
  simp only [List.set_cons_zero, leftN]
  omega
 | r :: ins, q :: at', k + 1, p, r', h, h2, h3 => by
  have := left_set (ins := ins) (at' := at') (k := k) (by simpa using h) (by simpa using h2) h3
  simp only [List.set_cons_succ, leftN]
  omega
theorem left_some : ∀ {ins : List (List It)} {at' : List Nat}, leftN ins at' ≠ 0 → ∃ (k : Nat) (r : List It) (p : Nat), ins[k]? = some r ∧ at'[k]? = some p ∧ p < r.length
 | [], _, h => by simp [leftN] at h
 | _ :: _, [], h => by simp [leftN] at h
 | r :: ins, p :: at', h => by
  by_cases c : p < r.length
  ·exact ⟨0, r, p, rfl, rfl, c⟩
  ·simp only [leftN] at h
   obtain ⟨k, r', p', h1, h2, h3⟩ := left_some (ins := ins) (at' := at') (by omega)
   exact ⟨k + 1, r', p', by simpa using h1, by simpa using h2, h3⟩
theorem left_none : ∀ {ins : List (List It)} {at' : List Nat}, at'.length = ins.length → leftN ins at' = 0 → ∀ (k : Nat) (r : List It) (p : Nat), ins[k]? = some r → at'[k]? = some p → r.length ≤ p
 | [], _, _, _, k, _, _, h, _ => by simp at h
 | _ :: _, [], hl, _, _, _, _, _, _ => by simp at hl
 | r :: ins, p :: at', hl, h, k, r', p', h1, h2 => by
  simp only [leftN] at h
  cases k with
  | zero =>
   simp only [List.getElem?_cons_zero, Option.some.injEq] at h1 h2
   subst h1; subst h2; omega
  | succ k => exact left_none (ins := ins) (at' := at') (by simpa using hl) (by omega) k r' p' (by simpa using h1) (by simpa using h2)
theorem turn_lt {i n : Nat} (hn : 0 < n) : turn ts i n < n := by
 unfold turn
 generalize (if i < ts.length then ts.getD i 0 else (i : Int)) = a
 have h1 : -(n : Int) < a.tmod n := by
  have h3 := Int.tmod_lt_of_pos (-a) (show (0 : Int) < n by omega)
  rw [Int.neg_tmod] at h3
  omega
 have h2 := Int.tmod_lt_of_pos (a.tmod n + n) (show (0 : Int) < n by omega)
 have h4 := Int.tmod_nonneg (n : Int) (show 0 ≤ a.tmod n + n by omega)
 omega
theorem turn_late {i n : Nat} (hn : 0 < n) (h : ts.length ≤ i) : turn ts i n = i % n := by
 unfold turn
 rw [if_neg (by omega)]
 have e1 : (i : Int).tmod n = ((i % n : Nat) : Int) := rfl
 have h1 := Nat.mod_lt i hn
 rw [e1]
 have e2 : (((i % n : Nat) : Int) + (n : Int)).tmod n = ((i % n : Nat) : Int) := by
  have : (((i % n + n) % n : Nat) : Int) = ((i % n + n : Nat) : Int).tmod n := rfl
  rw [← Int.natCast_add, ← this, Nat.add_mod_right, Nat.mod_mod]
 rw [e2]; exact Int.toNat_natCast _
structure Pot (ins : List (List It)) (ts : List Int) (L0 : Nat) (s : Ps) : Prop where
 al : s.at'.length = ins.length
 lf : s.lf = leftN ins s.at'
 le : s.lf ≤ L0
 pot : s.i ≤ ts.length ∨ ∃ d, d < ins.length ∧ (s.lf ≠ 0 → ∃ (r : List It) (p : Nat), ins[(s.i + d) % ins.length]? = some r ∧ s.at'[(s.i + d) % ins.length]? = some p ∧ p < r.length) ∧ s.i + d + ins.length * s.lf ≤ ts.length + ins.length + ins.length * L0
theorem unfin {n i : Nat} (hl : at'.length = ins.length) (h : leftN ins at' ≠ 0) (hn : n = ins.length) : ∃ d, d < n ∧ ∃ (r : List It) (p : Nat), ins[(i + d) % n]? = some r ∧ at'[(i + d) % n]? = some p ∧ p < r.length := by
 obtain ⟨k, r, p, h1, h2, h3⟩ := left_some h
 obtain ⟨hk, _⟩ := List.getElem?_eq_some_iff.1 h1
 have hn0 : 0 < n := by omega
 have hm := Nat.mod_lt i hn0
 refine ⟨(k + n - i % n) % n, Nat.mod_lt _ hn0, r, p, ?_⟩
 have e : (i + (k + n - i % n) % n) % n = k := by
  rw [Nat.add_mod, Nat.mod_mod, ← Nat.add_mod]
  have h4 : i = n * (i / n) + i % n := (Nat.div_add_mod i n).symm
  have h5 : i + (k + n - i % n) = k + n * (i / n + 1) := by
   rw [Nat.mul_add]
   generalize n * (i / n) = a at *
   omega
  rw [h5, Nat.add_mul_mod_self_left]
  exact Nat.mod_eq_of_lt (by omega)
 rw [e]
 exact ⟨h1, h2, h3⟩
theorem Pot.le_i {L0 : Nat} (h : Pot ins ts L0 s) : s.i ≤ ts.length + ins.length + ins.length * L0 := by
 rcases h.pot with h1 | ⟨d, _, _, h1⟩ <;> omega
theorem Pot.step {L0 : Nat} (h : Pot ins ts L0 s) (hn : 0 < ins.length) (h0 : s.lf ≠ 0) : Pot ins ts L0 (pstep j f ins ts mine s) ∧ (pstep j f ins ts mine s).i = s.i + 1 := by
 have hk := turn_lt (ts := ts) (i := s.i) hn
 have hL := turn_late (ts := ts) (i := s.i) hn
 obtain ⟨r, hr⟩ : ∃ r, ins[turn ts s.i ins.length]? = some r := ⟨_, List.getElem?_eq_getElem hk⟩
 obtain ⟨p, hp⟩ : ∃ p, s.at'[turn ts s.i ins.length]? = some p := ⟨_, List.getElem?_eq_getElem (by rw [h.al]; exact hk)⟩
 have er : ins.getD (turn ts s.i ins.length) [] = r := by simp [List.getD, hr]
 have ep : s.at'.getD (turn ts s.i ins.length) 0 = p := by simp [List.getD, hp]
 have hne : leftN ins s.at' ≠ 0 := by rw [← h.lf]; exact h0
 have hlf := h.lf
 have hle := h.le
 unfold pstep
 dsimp only
 rw [er, ep]
 cases hx : r[p]? with
 | none =>
  dsimp only
  have hfin := List.getElem?_eq_none_iff.1 hx
  refine ⟨⟨h.al, h.lf, h.le, ?_⟩, rfl⟩
  dsimp only
  rcases h.pot with h1 | ⟨d, hd, h1, h2⟩
  ·by_cases c : s.i + 1 ≤ ts.length
   ·exact .inl c
   ·obtain ⟨d, hd, h3⟩ := unfin (i := s.i + 1) h.al hne rfl
    refine .inr ⟨d, hd, fun _ => h3, ?_⟩
    have : ins.length * s.lf ≤ ins.length * L0 := Nat.mul_le_mul_left _ hle
    omega
  ·obtain ⟨r', p', h3, h4, h5⟩ := h1 h0
   by_cases c : s.i + 1 ≤ ts.length
   ·exact .inl c
   have hd0 : d ≠ 0 := by
    rintro rfl
    rw [Nat.add_zero, ← hL (by omega)] at h3 h4
    rw [hr] at h3; rw [hp] at h4
    cases h3; cases h4
    omega
   refine .inr ⟨d - 1, by omega, fun _ => ?_, by omega⟩
   rw [show s.i + 1 + (d - 1) = s.i + d by omega]
   exact ⟨r', p', h3, h4, h5⟩
 | some x =>
  have hlt : p < r.length := (List.getElem?_eq_some_iff.1 hx).1
  have hset := left_set hr hp hlt
  have key : ∀ (w : Wk) (out : List Rs), Pot ins ts L0 ⟨s.at'.set (turn ts s.i ins.length) (p + 1), s.lf - 1, s.i + 1, w, out⟩ := by
   intro w out
   have hal : (s.at'.set (turn ts s.i ins.length) (p + 1)).length = ins.length := by rw [List.length_set]; exact h.al
   refine ⟨hal, by dsimp only; omega, by dsimp only; omega, ?_⟩
   dsimp only
   have hmul : ins.length * s.lf = ins.length * (s.lf - 1) + ins.length := by
    conv => lhs; rw [show s.lf = (s.lf - 1) + 1 by omega, Nat.mul_add, Nat.mul_one]
   have hmul2 : ins.length * s.lf ≤ ins.length * L0 := Nat.mul_le_mul_left _ hle
   by_cases c : s.i + 1 ≤ ts.length
   ·exact .inl c
   by_cases c0 : s.lf - 1 = 0
   ·refine .inr ⟨0, hn, fun h => absurd c0 h, ?_⟩
    rcases h.pot with h1 | ⟨d, hd, h1, h2⟩ <;> omega
   ·obtain ⟨d, hd, h3⟩ := unfin (i := s.i + 1) (ins := ins) hal (by omega) rfl
    refine .inr ⟨d, hd, fun _ => h3, ?_⟩
    rcases h.pot with h1 | ⟨d', hd', h1, h2⟩ <;> omega
  dsimp only
  by_cases hm : mine x = true
  ·rw [if_pos hm]; exact ⟨key _ _, rfl⟩
  ·rw [if_neg hm]; exact ⟨key _ _, rfl⟩
theorem playN_end {L0 : Nat} (hn : 0 < ins.length) : ∀ (n : Nat) (s : Ps), Pot ins ts L0 s → ts.length + ins.length + ins.length * L0 + 1 ≤ s.i + n → (playN j f ins ts mine n s).lf = 0
 | 0, s, h, hle => by have := h.le_i; omega
 | n + 1, s, h, hle => by
  unfold playN
  split
  ·assumption
  ·rename_i h0
   obtain ⟨h1, h2⟩ := h.step (j := j) (f := f) (mine := mine) hn h0
   exact playN_end hn n _ h1 (by omega)
theorem playN_inv {I : Ps → Prop} (hstep : ∀ s, I s → s.lf ≠ 0 → I (pstep j f ins ts mine s)) : ∀ (n : Nat) (s : Ps), I s → I (playN j f ins ts mine n s)
 | 0, s, h => h
 | n + 1, s, h => by
  unfold playN
  split
  ·exact h
  ·rename_i h0
   exact playN_inv hstep n _ (hstep s h h0)
structure PlayI (j : Jb) (f : Nat) (ins : List (List It)) (ts : List Int) (mine : It → Bool) (L0 : Nat) (I : Ps → Prop) : Prop where
 pot : ∀ s, I s → Pot ins ts L0 s
 step : ∀ s, I s → s.lf ≠ 0 → I (pstep j f ins ts mine s)
 one : ∀ s (k : Nat) (r : List It) (p : Nat) (x : It), I s → ins[k]? = some r → s.at'[k]? = some p → r[p]? = some x → mine x = true → (WkOk s.w ∧ HV s.w ∧ heldN s.w.al < f ∧ ItV x) ∧ ∃ w' T, wkRun j f s.w (k : Int) x = ⟨w', T, 0⟩ ∧ scan s.w.told T = some w'.told ∧ ∀ g ∈ w'.gs, g.mark = w'.told
 out : ∀ s, I s → s.out.length ≤ 1000000
 gs : ∀ s, I s → s.w.gs.length ≤ 1000000
end
def takeD (mine : It → Bool) (ins : List (List It)) (at' : List Nat) : List (List It) := List.zipWith (fun r p => (r.take p).filter mine) ins at'
section
variable {j : Jb} {nos : List Int} {ins rows : List (List It)} {ts : List Int} {mine : It → Bool} {s : Ps} {at' : List Nat} {L0 : Nat}
theorem nos_len (hJ : JG j nos) : nos.length ≤ 32 := by
 refine Classical.byContradiction fun hc => ?_
 have h0 : ∀ i, (hi : i < nos.length) → (i : Int) ≤ nos[i] := by
  intro i
  induction i with
  | zero => intro hi; exact (hJ.rng _ (List.getElem_mem hi)).1
  | succ i ih =>
   intro hi
   have h1 := ih (by omega)
   have h2 := List.pairwise_iff_getElem.1 hJ.lt i (i + 1) (by omega) hi (by omega)
   omega
 have := h0 32 (by omega)
 have := (hJ.rng _ (List.getElem_mem (show 32 < nos.length by omega))).2
 omega
theorem resL_len (k : Int) (l : List Pn) : (resultsL k l).length ≤ 2000 := by
 unfold resultsL
 split
 ·rename_i h
  simp only [Bool.and_eq_true] at h
  rw [List.length_map]
  exact (rightL_ok h.1).1
 ·simp
theorem outD_len (hJ : JG j nos) (V : List Vl) (t : Int) : (outD j nos V t).length ≤ 64000 := by
 have h : ∀ l : List Int, (outD j l V t).length ≤ 2000 * l.length := by
  intro l
  induction l with
  | nil => simp [outD]
  | cons no l ih =>
   have := resL_len j.k (dueA (allG j V no) t)
   unfold outD at ih ⊢
   rw [List.flatMap_cons, List.length_append, List.length_cons]
   omega
 have := h nos
 have := nos_len hJ
 omega
theorem takeD_len (hl : at'.length = ins.length) : (takeD mine ins at').length = ins.length := by
 unfold takeD; rw [List.length_zipWith]; omega
theorem takeD_get {k : Nat} {r : List It} {p : Nat} (hr : ins[k]? = some r) (hp : at'[k]? = some p) : (takeD mine ins at')[k]? = some ((r.take p).filter mine) := by
 unfold takeD
 rw [List.getElem?_zipWith, hr, hp]
theorem takeD_set {k : Nat} {r : List It} {p : Nat} {x : It} (hl : at'.length = ins.length) (hr : ins[k]? = some r) (hp : at'[k]? = some p) (hx : r[p]? = some x) :
  takeD mine ins (at'.set k (p + 1)) = (takeD mine ins at').set k ((r.take p).filter mine ++ (if mine x = true then [x] else [])) := by
 obtain ⟨hk, _⟩ := List.getElem?_eq_some_iff.1 hp
 obtain ⟨hpl, hxe⟩ := List.getElem?_eq_some_iff.1 hx
 apply List.ext_getElem?
 intro i
 rw [List.getElem?_set, takeD_len hl]
 by_cases c : k = i
 ·subst c
  rw [if_pos rfl, if_pos (by omega), takeD_get hr (List.getElem?_set_self hk), take_snoc r p hpl, List.filter_append, hxe]
  rw [show [x].filter mine = if mine x = true then [x] else [] by rw [List.filter_cons, List.filter_nil]]
 ·rw [if_neg c]
  unfold takeD
  rw [List.getElem?_zipWith, List.getElem?_zipWith, List.getElem?_set_ne c]
theorem takeD_pre (hl : at'.length = ins.length) : Pre (takeD mine ins at') (ins.map (List.filter mine)) := by
 refine ⟨by rw [takeD_len hl, List.length_map], fun q d hd => ?_⟩
 obtain ⟨hq, _⟩ := List.getElem?_eq_some_iff.1 hd
 rw [takeD_len hl] at hq
 obtain ⟨r, hr⟩ : ∃ r, ins[q]? = some r := ⟨_, List.getElem?_eq_getElem hq⟩
 obtain ⟨p, hp⟩ : ∃ p, at'[q]? = some p := ⟨_, List.getElem?_eq_getElem (by omega)⟩
 rw [takeD_get hr hp] at hd
 cases hd
 refine ⟨(r.drop p).filter mine, ?_⟩
 rw [List.getElem?_map, hr, Option.map_some, ← List.filter_append, List.take_append_drop]
theorem takeD_zero : takeD mine ins (List.replicate ins.length 0) = List.replicate ins.length [] := by
 unfold takeD
 induction ins with
 | nil => rfl
 | cons r ins ih => simp only [List.length_cons, List.replicate_succ, List.zipWith_cons_cons, ih, List.take_zero, List.filter_nil]
theorem takeD_full (hl : at'.length = ins.length) (h : ∀ (k : Nat) (r : List It) (p : Nat), ins[k]? = some r → at'[k]? = some p → r.length ≤ p) : takeD mine ins at' = ins.map (List.filter mine) := by
 apply List.ext_getElem?
 intro i
 rw [List.getElem?_map]
 cases hr : ins[i]? with
 | none =>
  have := List.getElem?_eq_none_iff.1 hr
  rw [List.getElem?_eq_none_iff.2 (by rw [takeD_len hl]; exact this)]; rfl
 | some r =>
  obtain ⟨hi, _⟩ := List.getElem?_eq_some_iff.1 hr
  obtain ⟨p, hp⟩ : ∃ p, at'[i]? = some p := ⟨_, List.getElem?_eq_getElem (by omega)⟩
  rw [takeD_get hr hp, List.take_of_length_le (h i r p hr hp)]; rfl
theorem rsOf_res (r : Rs) : rsOf (resItem r) = r := rfl
theorem scan_res : ∀ {rs : List Rs} {m : Int} {l : List It}, (∀ r ∈ rs, m < r.hi) → scan m (rs.map resItem ++ l) = scan m l
 | [], _, _, _ => rfl
 | r :: rs, m, l, h => by
  have h1 := h r (by simp)
  simp only [List.map_cons, List.cons_append, scan]
  rw [if_pos (show (resItem r).kind = 5 from rfl), if_neg (show ¬ (resItem r).hi ≤ m by show ¬ r.hi ≤ m; omega)]
  exact scan_res fun x hx => h x (by simp [hx])
theorem scan_tail {a b : Int} (h : a ≤ b) : scan a (mkTail a b) = some b := by
 unfold mkTail
 split
 ·simp only [scan]
  rw [if_neg (show ¬ (markItem b).kind = 5 by show ¬ (2 : Int) = 5; decide), if_pos (show (markItem b).kind = 2 from rfl), if_neg (show ¬ (markItem b).mark ≤ a by show ¬ b ≤ a; omega)]
  rfl
 ·simp only [scan]; congr 1; omega
theorem resT_told {rs : List Rs} {a b : Int} : resT (rs.map resItem ++ mkTail a b) = rs := by
 unfold resT
 rw [List.filterMap_append]
 have h1 : List.filterMap (fun x => if x.kind = 5 then some (rsOf x) else none) (mkTail a b) = [] := by
  unfold mkTail
  split
  ·rfl
  ·rfl
 rw [h1, List.append_nil]
 induction rs with
 | nil => rfl
 | cons r rs ih =>
  rw [List.map_cons, List.filterMap_cons]
  simp only [show (resItem r).kind = 5 from rfl, if_true, ih, rsOf_res]
structure OrdI (j : Jb) (nos : List Int) (ins : List (List It)) (ts : List Int) (mine : It → Bool) (L0 : Nat) (s : Ps) : Prop where
 pot : Pot ins ts L0 s
 pi : PI j nos (takeD mine ins s.at') s.w s.out
theorem ord_one (hR : RW j nos (ins.map (List.filter mine))) (h : OrdI j nos ins ts mine L0 s) {k p : Nat} {r : List It} {x : It} (hr : ins[k]? = some r) (hp : s.at'[k]? = some p) (hx : r[p]? = some x) (hm : mine x = true) :
  (WkOk s.w ∧ HV s.w ∧ heldN s.w.al < 1 ∧ ItV x) ∧ ∃ w' T, wkRun j 1 s.w (k : Int) x = ⟨w', T, 0⟩ ∧ scan s.w.told T = some w'.told ∧ (∀ g ∈ w'.gs, g.mark = w'.told) ∧ PI j nos (takeD mine ins (s.at'.set k (p + 1))) w' (s.out ++ resT T) := by
 have hal := h.pot.al
 have hD := takeD_pre (mine := mine) hal
 have hd := takeD_get (mine := mine) hr hp
 have hrow : (ins.map (List.filter mine))[k]? = some ((r.take p).filter mine ++ x :: (r.drop (p + 1)).filter mine) := by
  obtain ⟨hpl, hxe⟩ := List.getElem?_eq_some_iff.1 hx
  rw [List.getElem?_map, hr, Option.map_some]
  congr 1
  conv => lhs; rw [← List.take_append_drop p r, List.filter_append, List.drop_eq_getElem_cons hpl, hxe, List.filter_cons, if_pos hm]
 obtain ⟨w', rs, h1, h2, h3, h4, h5, h6⟩ := tell_item hR hD h.pi hd hrow 0
 obtain ⟨o1, o2, o3⟩ := hD.okk hR h.pi
 refine ⟨⟨o1, o2, o3, h6⟩, w', _, h1, ?_, ?_, ?_⟩
 ·rw [scan_res h2, scan_tail h3]
 ·intro g hg
  rw [h5.wi.gs] at hg
  obtain ⟨no, _, rfl⟩ := List.mem_map.1 hg
  rfl
 ·rw [resT_told, takeD_set hal hr hp hx, if_pos hm]
  exact h5
theorem ord_play (hR : RW j nos (ins.map (List.filter mine))) : PlayI j 1 ins ts mine L0 (OrdI j nos ins ts mine L0) := by
 have hn : 0 < ins.length := by have := hR.n1; rw [List.length_map] at this; exact this
 refine ⟨fun s h => h.pot, fun s h h0 => ?_, fun s k r p x h hr hp hx hm => ?_, fun s h => ?_, fun s h => ?_⟩
 ·refine ⟨(h.pot.step hn h0).1, ?_⟩
  have hal := h.pot.al
  have hk := turn_lt (ts := ts) (i := s.i) hn
  obtain ⟨r, hr⟩ : ∃ r, ins[turn ts s.i ins.length]? = some r := ⟨_, List.getElem?_eq_getElem hk⟩
  obtain ⟨p, hp⟩ : ∃ p, s.at'[turn ts s.i ins.length]? = some p := ⟨_, List.getElem?_eq_getElem (by rw [hal]; exact hk)⟩
  have er : ins.getD (turn ts s.i ins.length) [] = r := by simp [List.getD, hr]
  have ep : s.at'.getD (turn ts s.i ins.length) 0 = p := by simp [List.getD, hp]
  unfold pstep
  dsimp only
  rw [er, ep]
  cases hx : r[p]? with
  | none => exact h.pi
  | some x =>
   dsimp only
   by_cases hm : mine x = true
   ·rw [if_pos hm]
    obtain ⟨_, w', T, h1, _, _, h2⟩ := ord_one hR h hr hp hx hm
    rw [h1]
    exact h2
   ·rw [if_neg hm]
    dsimp only
    rw [takeD_set hal hr hp hx, if_neg hm, List.append_nil]
    have hd := takeD_get (mine := mine) hr hp
    obtain ⟨hq, hqe⟩ := List.getElem?_eq_some_iff.1 hd
    rw [← hqe, List.set_getElem_self]
    exact h.pi
 ·obtain ⟨h1, w', T, h2, h3, h4, _⟩ := ord_one hR h hr hp hx hm
  exact ⟨h1, w', T, h2, h3, h4⟩
 ·have := h.pi.out.length_eq
  have := outD_len (j := j) hR.tg.jg (allVals j.s j.d ((takeD mine ins s.at').flatMap evsI)) s.w.told
  omega
 ·have := nos_len hR.tg.jg
  rw [h.pi.wi.gs, List.length_map]
  omega
theorem ord_end (hR : RW j nos (ins.map (List.filter mine))) (hend : ∀ r ∈ ins.map (List.filter mine), mkI r = 1099511627776) {w0 : Wk} (hW : WI j nos [] (List.replicate ins.length 0) w0) (n : Nat) (hL : L0 = leftN ins (List.replicate ins.length 0)) (hN : ts.length + ins.length + ins.length * L0 + 1 ≤ n) :
  OrdI j nos ins ts mine L0 ⟨List.replicate ins.length 0, L0, 0, w0, []⟩ ∧ (playN j 1 ins ts mine n ⟨List.replicate ins.length 0, L0, 0, w0, []⟩).w.told = 1099511627776 ∧
  (playN j 1 ins ts mine n ⟨List.replicate ins.length 0, L0, 0, w0, []⟩).out.Perm (outD j nos (allVals j.s j.d ((ins.map (List.filter mine)).flatMap evsI)) 1099511627776) := by
 have hn : 0 < ins.length := by have := hR.n1; rw [List.length_map] at this; exact this
 have hrepE : ∀ n : Nat, (List.replicate n ([] : List It)).flatMap evsI = [] := by
  intro n
  induction n with
  | zero => rfl
  | succ n ih => rw [List.replicate_succ, List.flatMap_cons, ih]; rfl
 have h0 : OrdI j nos ins ts mine L0 ⟨List.replicate ins.length 0, L0, 0, w0, []⟩ := by
  refine ⟨⟨by simp, hL, Nat.le_refl _, .inl (Nat.zero_le _)⟩, ?_, ?_⟩
  ·dsimp only
   rw [takeD_zero, hrepE, List.map_replicate]
   exact hW
  ·dsimp only
   rw [takeD_zero, hrepE]
   have e : outD j nos (allVals j.s j.d []) w0.told = [] := by
    unfold outD
    rw [List.flatMap_eq_nil_iff]
    intro no _
    show resultsL j.k (dueA (rowV j.k []) w0.told) = []
    exact resultsL_nil j.k
   rw [e]
 have hE := playN_inv (ord_play hR).step n _ h0
 have hlf := playN_end (j := j) (f := 1) (mine := mine) hn n ⟨List.replicate ins.length 0, L0, 0, w0, []⟩ h0.pot (by dsimp only; omega)
 generalize playN j 1 ins ts mine n ⟨List.replicate ins.length 0, L0, 0, w0, []⟩ = R at *
 have hfull := takeD_full (mine := mine) hE.pot.al (left_none hE.pot.al (by rw [← hE.pot.lf]; exact hlf))
 have hP := hE.pi
 rw [hfull] at hP
 exact ⟨h0, told_all hR hP hend⟩
end
set_option maxRecDepth 10000 in
theorem tk_late {ok : Bool} {j : Jb} {no : Int} {w : Wk} {i : Int} {x : It} (h : (wkTake ok j no w i x).late ≠ []) :
  ok = true ∧ ¬ ((wkR w && itR x) = false ∨ x.kind = 5) ∧ (alOffer w.al i x).e = 0 ∧ 0 < (alOffer w.al i x).done ∧ wkTake ok j no w i x = ⟨{ w with al := (alOffer w.al i x).a }, [barItem (alOffer w.al i x).done], (alOffer w.al i x).late, 0⟩ := by
 have hg : ∀ gs m al told, (wkGo j gs m al told).late = [] := fun gs m al told => by unfold wkGo; split <;> rfl
 unfold wkTake at h ⊢
 split at h
 ·simp [wkFail] at h
 rename_i h1
 split at h
 ·simp [wkFail] at h
 rename_i h2
 split at h
 ·simp [wkFail] at h
 rename_i h3
 split at h
 ·rename_i h4
  have e1 : ok = true := by cases ok <;> simp at h1 ⊢
  have e3 : (alOffer w.al i x).e = 0 := by omega
  refine ⟨e1, h2, e3, h4, ?_⟩
  rw [if_neg h1, if_neg h2, if_neg h3, if_pos h4]
 ·exfalso
  split at h
  ·exact h rfl
  split at h
  ·split at h
   ·exact h rfl
   ·exact h (hg _ _ _ _)
  split at h
  ·exact h (hg _ _ _ _)
  split at h
  ·exact h (hg _ _ _ _)
  ·exact h (hg _ _ _ _)
set_option maxRecDepth 10000 in
theorem w_Bar (j : Jb) (w : Wk) (input : Int) (x : It) (hw : WkOk w) (e1 : jobOK j.g j.s j.d j.k j.fu j.li j.de j.id = true) (e2 : ¬ ((wkR w && itR x) = false ∨ x.kind = 5)) (c1 : (alOffer w.al input x).e = 0) (c2 : 0 < (alOffer w.al input x).done) :
  AC Tryz.prog 44 [.agg j.av, .agg w.av, .v (.int .i64 input), .agg x.av] [] (.tup [.agg (Wk.av { w with al := (alOffer w.al input x).a }), .own 7 1, .sl 12 ((alOffer w.al input x).late.map Lt.av), .v (.int .i64 0)]) [(7, .row 63 11 [It.av (barItem (alOffer w.al input x).done)])] := by
 have h1 := j_Right j.g j.s j.d j.k j.fu j.li j.de j.id
 have h2 := w_Right w hw
 have h3 := i_Right x
 have h4 := l_Offer w.al input x hw.got hw.held hw.its
 rw [e1] at h1
 have e3 : wkR w = true ∧ itR x = true ∧ ¬ x.kind = 5 := by
  cases w1 : wkR w <;> cases x1 : itR x <;> simp [w1, x1] at e2 ⊢
  exact e2
 obtain ⟨w1, x1, x5⟩ := e3
 have hgl : w.gs.length ≤ 1000 := by
  have h := w1
  simp only [wkR, Bool.and_eq_true] at h
  have := gsR_le h.1
  omega
 rw [w1] at h2
 rw [x1] at h3
 have hcl := cl_Grp (w.gs.map Gp.av) (by rw [List.length_map]; omega)
 have hty := fun y => y_tell (w.gs.map Gp.av).length (w.gs.map Gp.av) w.mks (alOffer w.al input x).a w.told j input x [] y (by simp)
 have hpass := (offer_ok (a := w.al) (i := input) (x := x) x1 c1).2.1
 generalize alOffer w.al input x = O at *
 obtain ⟨oa, op, od, ol, oe⟩ := O
 dsimp only at *
 subst c1
 have hop : op = false := by
  cases op
  ·rfl
  ·exact absurd (hpass rfl).1 (by omega)
 subst hop
 have hty := hty (barItem od)
 unfold wayC at hty
 simp only [List.map_nil, List.map_cons, Jb.av, Wk.av, Al.av, AlO.av] at h2 h4 hty ⊢
 refine (ac_body tab_ok Tryz.func44 rfl (by kernel_rfl) rfl ?_); intro w0 M μ0; simp only [Tryz.ntmps44, List.length_cons, List.length_nil, Nat.reduceAdd, Nat.reduceSub, numb]
 repeat' (first | ((first | apply o_do | apply d_do | apply d_yes rfl rfl rfl); first | exact lsc (h1) | exact lsc (h2) | exact lsc (h3) | exact lsc (h4) | exact lca [] 6 hcl | exact ls_nilCheck rfl rfl | exact lsq) | refine a_seq ?_ | refine a_region ?_ | refine o_nil ?_ | refine a_block ?_ | refine a_ret ?_ | refine a_exit ?_ | refine a_skip ?_ | refine a_draw mixed ?_ | refine d_nil (by kernel_rfl) ?_ | refine o_yes rfl rfl rfl ?_ | refine o_no rfl rfl rfl (by decide) ?_ | refine o_no' rfl rfl rfl ?_ | refine a_condT rfl ?_ | refine a_condF rfl ?_ | refine d_no rfl rfl rfl (by decide) ?_ | refine d_no' rfl rfl rfl ?_ | (refine wq2 (fun hb => ?_) (fun hb => ?_) <;> (simp only [hb]; try simp only [hbs, ne_eq] at hb; try (exfalso; first | omega | exact hb trivial))) | fail)
 refine o_adoptB 5 28 7 63 11 rfl rfl rfl ?_
 repeat' (first | ((first | apply o_do | apply d_do | apply d_yes rfl rfl rfl); first | exact lca [5, 6, 7] 8 hty | exact ls_nilCheck rfl rfl | exact lsq) | refine a_seq ?_ | refine a_region ?_ | refine o_nil ?_ | refine a_block ?_ | refine a_ret ?_ | refine a_exit ?_ | refine a_skip ?_ | refine a_draw mixed ?_ | refine d_nil (by kernel_rfl) ?_ | refine o_yes rfl rfl rfl ?_ | refine o_no rfl rfl rfl (by decide) ?_ | refine o_no' rfl rfl rfl ?_ | refine a_condT rfl ?_ | refine a_condF rfl ?_ | refine d_no rfl rfl rfl (by decide) ?_ | refine d_no' rfl rfl rfl ?_ | (refine wq2 (fun hb => ?_) (fun hb => ?_) <;> (simp only [hb]; try simp only [hbs, ne_eq] at hb; try (exfalso; first | omega | exact hb trivial))) | fail)
 refine rq rfl ?_
 exact fnq
theorem lp_len {w : Wk} {o : List It} {q : Nat} (h : LpOk w o q) (hq : q ≤ 128) : o.length ≤ 900000000 := by
 have := h.told
 have := tri_le (n := q) hq
 omega
theorem run_len (j : Jb) : ∀ (n : Nat) (w : Wk) (i : Int) (x : It), WkOk w → HV w → ItV x → (wkRun j n w i x).told.length ≤ 900000000
 | 0, w, i, x, _, _, _ => by simp [wkRun, rnFail]
 | n + 1, w, i, x, hw, hv, hx => by
  have h := take_hd (jobOK j.g j.s j.d j.k j.fu j.li j.de j.id) j (grpV x.key.data.toList j.g) w i x hv hx
  have hlate : (tkJ j w i x).late.length ≤ 128 := late_le _ _ _ _ _ _
  simp only [wkRun, rnT]
  split
  ·simp [rnFail]
  by_cases hl : (tkJ j w i x).late = []
  ·rw [hl]
   have := h.told
   exact Nat.le_trans this (by decide)
  ·rcases loop_ok (tkJ j w i x).late (tkJ j w i x).w (tkJ j w i x).told 0 (start_ok hw hv hx hl) h.late (fun w i x a b c _ => run_ok j n w i x a b c) with ⟨_, h4⟩ | ⟨e, h3⟩
   ·exact lp_len h4 (by omega)
   ·rw [h3]; simp [rnFail]
set_option maxRecDepth 10000 in
theorem w_Run (j : Jb) (hg : -9223372036854775808 ≤ j.g ∧ j.g ≤ 9223372036854775807) : ∀ (n : Nat) (w : Wk) (input : Int) (x : It), WkOk w → HV w → ItV x → heldN w.al < n →
  PC Tryz.prog 14 [.agg j.av, .agg w.av, .v (.int .i64 input), .agg x.av] (wkRun j n w input x).av
 | 0, _, _, _, _, _, _, h => absurd h (Nat.not_lt_zero _)
 | n + 1, w, input, x, hw, hv, hx, hn => by
  have h2 : PC Tryz.prog 44 [.agg j.av, .agg w.av, .v (.int .i64 input), .agg x.av] (tkJ j w input x).av := w_Take j (grpV x.key.data.toList j.g) w input x hw (fun hk hx => p_rGrp x.key j.g (itR_key hx hk) hg)
  have hd : TkHd w (tkJ j w input x) := take_hd (jobOK j.g j.s j.d j.k j.fu j.li j.de j.id) j (grpV x.key.data.toList j.g) w input x hv hx
  have hs := start_ok (j := j) (i := input) hw hv hx
  have hlate : (tkJ j w input x).late.length ≤ 128 := late_le _ _ _ _ _ _
  simp only [wkRun, rnT]
  by_cases hl : (tkJ j w input x).late = []
  ·generalize tkJ j w input x = T at *
   obtain ⟨tw, tt, tl, te⟩ := T
   dsimp only at hl
   subst hl
   dsimp only
   by_cases he : te ≠ 0
   ·rw [if_pos he]
    simp only [RnW.av, rnFail, TkW.av, wkZ, List.map_nil, Jb.av, Wk.av] at h2 ⊢
    refine PC.mk (ac_body tab_ok Tryz.func14 rfl (by kernel_rfl) rfl ?_); intro w0 M μ0; simp only [Tryz.ntmps14, List.length_cons, List.length_nil, Nat.reduceAdd, Nat.reduceSub, numb]
    repeat' (first | ((first | apply o_do | apply d_do | apply d_yes rfl rfl rfl); first | exact lsc (h2) | exact lsq) | refine a_seq ?_ | refine a_region ?_ | refine o_nil ?_ | refine a_block ?_ | refine a_ret ?_ | refine a_exit ?_ | refine a_skip ?_ | refine a_draw mixed ?_ | refine d_nil (by kernel_rfl) ?_ | refine o_yes rfl rfl rfl ?_ | refine o_no rfl rfl rfl (by decide) ?_ | refine o_no' rfl rfl rfl ?_ | refine a_condT rfl ?_ | refine a_condF rfl ?_ | refine d_no rfl rfl rfl (by decide) ?_ | refine d_no' rfl rfl rfl ?_ | (refine wq2 (fun hb => ?_) (fun hb => ?_) <;> (simp only [hb]; try simp only [hbs, ne_eq] at hb; try (exfalso; first | omega | exact hb trivial))) | fail)
    refine rq rfl ?_
    exact fnq
   ·rw [if_neg he]
    have he : te = 0 := by omega
    subst he
    simp only [RnW.av, rnLoop, TkW.av, List.map_nil, Jb.av, Wk.av] at h2 ⊢
    refine PC.mk (ac_body tab_ok Tryz.func14 rfl (by kernel_rfl) rfl ?_); intro w0 M μ0; simp only [Tryz.ntmps14, List.length_cons, List.length_nil, Nat.reduceAdd, Nat.reduceSub, numb]
    repeat' (first | ((first | apply o_do | apply d_do | apply d_yes rfl rfl rfl); first | exact lsc (h2) | exact lsq) | refine a_seq ?_ | refine a_region ?_ | refine o_nil ?_ | refine a_block ?_ | refine a_ret ?_ | refine a_exit ?_ | refine a_skip ?_ | refine a_draw mixed ?_ | refine d_nil (by kernel_rfl) ?_ | refine o_yes rfl rfl rfl ?_ | refine o_no rfl rfl rfl (by decide) ?_ | refine o_no' rfl rfl rfl ?_ | refine a_condT rfl ?_ | refine a_condF rfl ?_ | refine d_no rfl rfl rfl (by decide) ?_ | refine d_no' rfl rfl rfl ?_ | (refine wq2 (fun hb => ?_) (fun hb => ?_) <;> (simp only [hb]; try simp only [hbs, ne_eq] at hb; try (exfalso; first | omega | exact hb trivial))) | fail)
    refine a_loop (X := Unit) (fun _ => ⟨[(5, .ref 1 0), (8, .ref 3 0), (11, .sl 11 (tt.map It.av)), (33, .sl 12 []), (34, .v (.int .i64 0)), (35, .v (.int .i64 0))], [(1, .box 42 (Wk.av tw)), (3, .box 42 [.v (.slice none 0 0), .v (.slice none 0 0), .v (.slice none 0 0), .v (.int .i64 0), .v (.int .i64 0), .v (.slice none 0 0), .v (.slice none 0 0), .v (.int .i64 0)])]⟩) (fun _ => 0) () ?_ ?_
    ·unfold Wk.av
     exact wkS
    rintro ⟨⟩
    unfold Wk.av
    repeat' (first | ((first | apply o_do | apply d_do | apply d_yes rfl rfl rfl); exact lsq) | refine a_seq ?_ | refine a_region ?_ | refine o_nil ?_ | refine a_block ?_ | refine a_ret ?_ | refine a_exit ?_ | refine a_skip ?_ | refine a_draw mixed ?_ | refine d_nil (by kernel_rfl) ?_ | refine o_yes rfl rfl rfl ?_ | refine o_no rfl rfl rfl (by decide) ?_ | refine o_no' rfl rfl rfl ?_ | refine a_condT rfl ?_ | refine a_condF rfl ?_ | refine d_no rfl rfl rfl (by decide) ?_ | refine d_no' rfl rfl rfl ?_ | (refine wq2 (fun hb => ?_) (fun hb => ?_) <;> (simp only [hb]; try simp only [hbs, ne_eq] at hb; try (exfalso; first | omega | exact hb trivial))) | fail)
    refine rq rfl ?_
    exact fnq
  ·have hs := hs hl
   have hV := hd.late
   have hall := (hd.all hl).2.1
   obtain ⟨e1, e2, e3, e4, e5⟩ := tk_late hl
   have hbar := w_Bar j w input x hw e1 e2 e3 e4
   have e5 : tkJ j w input x = _ := e5
   rw [e5] at hs hV hall hlate ⊢
   dsimp only at hs hV hall hlate ⊢
   clear h2 hd hl e5
   generalize barItem (alOffer w.al input x).done = bar at *
   generalize (alOffer w.al input x).late = L at *
   obtain ⟨W0, hW0⟩ : ∃ k : Wk, k = { w with al := (alOffer w.al input x).a } := ⟨_, rfl⟩
   rw [← hW0] at hs hbar ⊢
   rw [if_neg (by simp)]
   obtain ⟨Res, hRes⟩ : ∃ R, R = rnLoop (wkRun j n) L W0 [bar] := ⟨_, rfl⟩
   rw [← hRes]
   have hIH := w_Run j hg n
   have hRK := run_ok j n
   clear hW0 e1 e2 e3 e4
   have hN : L.length ≤ n := by omega
   simp only [RnW.av]
   simp only [Jb.av, Wk.av] at hbar hIH ⊢
   refine PC.mk (ac_body tab_ok Tryz.func14 rfl (by kernel_rfl) rfl ?_); intro w0 M μ0; simp only [Tryz.ntmps14, List.length_cons, List.length_nil, Nat.reduceAdd, Nat.reduceSub, numb]
   repeat' (first | ((first | apply o_do | apply d_do | apply d_yes rfl rfl rfl); first | exact lca [] 10 hbar | exact lsq) | refine a_seq ?_ | refine a_region ?_ | refine o_nil ?_ | refine a_block ?_ | refine a_ret ?_ | refine a_exit ?_ | refine a_skip ?_ | refine a_draw mixed ?_ | refine d_nil (by kernel_rfl) ?_ | refine o_yes rfl rfl rfl ?_ | refine o_no rfl rfl rfl (by decide) ?_ | refine o_no' rfl rfl rfl ?_ | refine a_condT rfl ?_ | refine a_condF rfl ?_ | refine d_no rfl rfl rfl (by decide) ?_ | refine d_no' rfl rfl rfl ?_ | (refine wq2 (fun hb => ?_) (fun hb => ?_) <;> (simp only [hb]; try simp only [hbs, ne_eq] at hb; try (exfalso; first | omega | exact hb trivial))) | fail)
   refine a_loop (X := {p : Nat × Wk × List It // p.1 ≤ L.length ∧ Res = rnLoop (wkRun j n) (L.drop p.1) p.2.1 p.2.2 ∧ LpOk p.2.1 p.2.2 p.1})
    (fun p => ⟨[(4, .ref 0 0), (5, .ref 1 0), (8, .ref 3 0), (11, .own 17 (p.1.2.2.map It.av).length), (33, .sl 12 (L.map Lt.av)), (34, .v (.int .i64 L.length)), (35, .v (.int .i64 p.1.1))], [(0, .box 23 (Jb.av j)), (1, .box 42 (Wk.av p.1.2.1)), (3, .box 42 [.v (.slice none 0 0), .v (.slice none 0 0), .v (.slice none 0 0), .v (.int .i64 0), .v (.int .i64 0), .v (.slice none 0 0), .v (.slice none 0 0), .v (.int .i64 0)]), (17, .row 63 11 (p.1.2.2.map It.av))]⟩) (fun p => L.length - p.1.1) ⟨(0, W0, [bar]), Nat.zero_le _, hRes, hs⟩ ?_ ?_
   ·unfold Wk.av Jb.av
    exact wkS
   rintro ⟨⟨q, wq, oq⟩, hq, hrun, hlp⟩
   dsimp only at hq hrun hlp ⊢
   unfold Wk.av Jb.av
   by_cases hlt : q < L.length
   ·have hel : (L.map Lt.av)[q]? = some (Lt.av L[q]) := by simp [hlt]
    rw [List.drop_eq_getElem_cons hlt] at hrun
    simp only [rnLoop] at hrun
    have hVq := hV L[q] (List.getElem_mem hlt)
    have hheld := hlp.n
    have hr := hIH wq L[q].input L[q].it hlp.ok hlp.hv hVq (by omega)
    have hrk := hRK wq L[q].input L[q].it hlp.ok hlp.hv hVq
    have hst := hlp.step hrk
    have hb1 := lp_len hst (by omega)
    generalize wkRun j n wq L[q].input L[q].it = R at *
    obtain ⟨rw', rt, re⟩ := R
    generalize L[q] = y at *
    simp only [RnW.av] at hr
    dsimp only at hrun hst hb1
    rw [List.length_append] at hb1
    have hb3 : (oq.map It.av).length = oq.length := List.length_map _
    have hb4 : (rt.map It.av).length = rt.length := List.length_map _
    by_cases he : re ≠ 0
    ·rw [if_pos he] at hrun
     subst hrun
     unfold rnFail wkZ
     simp only [It.av, Wk.av, List.map_nil] at hr ⊢
     repeat' (first | ((first | apply o_do | apply d_do | apply d_yes rfl rfl rfl); first | exact ls_indexAddr_sl tab_ok rfl rfl rfl rfl hel rfl | exact lsc (hr) | exact lsq) | refine a_seq ?_ | refine a_region ?_ | refine o_nil ?_ | refine a_block ?_ | refine a_ret ?_ | refine a_exit ?_ | refine a_skip ?_ | refine a_draw mixed ?_ | refine d_nil (by kernel_rfl) ?_ | refine o_yes rfl rfl rfl ?_ | refine o_no rfl rfl rfl (by decide) ?_ | refine o_no' rfl rfl rfl ?_ | refine a_condT rfl ?_ | refine a_condF rfl ?_ | refine d_no rfl rfl rfl (by decide) ?_ | refine d_no' rfl rfl rfl ?_ | (refine wq2 (fun hb => ?_) (fun hb => ?_) <;> (simp only [hb]; try simp only [hbs, ne_eq] at hb; try (exfalso; first | omega | exact hb trivial))) | fail)
     refine rq rfl ?_
     exact fnq
    ·rw [if_neg he] at hrun
     have he : re = 0 := by omega
     subst he
     simp only [It.av, Wk.av] at hr
     repeat' (first | ((first | apply o_do | apply d_do | apply d_yes rfl rfl rfl); first | exact ls_indexAddr_sl tab_ok rfl rfl rfl rfl hel rfl | exact lsc (hr) | focus (apply ls_append tab_ok rfl rfl ?hn rfl ?hsrc rfl ?hlen rfl rfl; (case hn => rfl); (case hsrc => first | exact SrcIs.sl | exact SrcIs.nil | exact SrcIs.own rfl rfl | fail); (case hlen => (try simp only [List.length_cons, List.length_nil]); omega); first | done | fail) | exact lsq) | refine a_seq ?_ | refine a_region ?_ | refine o_nil ?_ | refine a_block ?_ | refine a_ret ?_ | refine a_exit ?_ | refine a_skip ?_ | refine a_draw mixed ?_ | refine d_nil (by kernel_rfl) ?_ | refine o_yes rfl rfl rfl ?_ | refine o_no rfl rfl rfl (by decide) ?_ | refine o_no' rfl rfl rfl ?_ | refine a_condT rfl ?_ | refine a_condF rfl ?_ | refine d_no rfl rfl rfl (by decide) ?_ | refine d_no' rfl rfl rfl ?_ | (refine wq2 (fun hb => ?_) (fun hb => ?_) <;> (simp only [hb]; try simp only [hbs, ne_eq] at hb; try (exfalso; first | omega | exact hb trivial))) | fail)
     refine ⟨⟨(q + 1, rw', oq ++ rt), by dsimp only; omega, hrun, hst⟩, by dsimp only; omega, ?_⟩
     dsimp only [Wk.av, Jb.av]
     refine ⟨by repeat' (first | exact trivial | exact FinA.one (FinB.cell (FinC.same rfl)) | exact FinA.one (FinB.cell FinC.nil) | exact FinA.bound rfl | exact FinA.one (FinB.cell (FinC.own rfl rfl rfl rfl)) | exact FinA.one (FinB.cell (FinC.v (by first | rfl | ((first | (rw [List.map_append]; done) | (simp only [List.map_append]; done) | simp))))) | exact FinA.one (FinB.cell (FinC.ow rfl (by first | rfl | ((first | (rw [List.map_append]; done) | (simp only [List.map_append]; done) | simp))))) | exact FinA.one (FinB.agg' rfl rfl) | refine ⟨⟨_, rfl, ?_⟩, ?_⟩), by repeat' (first | exact trivial | refine ⟨⟨_, rfl, by first | rfl | ((first | (rw [List.map_append]; done) | (simp only [List.map_append]; done) | simp); done) | (simp [renO, *]; done)⟩, by first | rfl | assumption, ?_⟩), rfl⟩
   ·obtain rfl : q = L.length := by omega
    rw [List.drop_length] at hrun
    simp only [rnLoop] at hrun
    subst hrun
    repeat' (first | ((first | apply o_do | apply d_do | apply d_yes rfl rfl rfl); exact lsq) | refine a_seq ?_ | refine a_region ?_ | refine o_nil ?_ | refine a_block ?_ | refine a_ret ?_ | refine a_exit ?_ | refine a_skip ?_ | refine a_draw mixed ?_ | refine d_nil (by kernel_rfl) ?_ | refine o_yes rfl rfl rfl ?_ | refine o_no rfl rfl rfl (by decide) ?_ | refine o_no' rfl rfl rfl ?_ | refine a_condT rfl ?_ | refine a_condF rfl ?_ | refine d_no rfl rfl rfl (by decide) ?_ | refine d_no' rfl rfl rfl ?_ | (refine wq2 (fun hb => ?_) (fun hb => ?_) <;> (simp only [hb]; try simp only [hbs, ne_eq] at hb; try (exfalso; first | omega | exact hb trivial))) | fail)
    refine rq rfl ?_
    exact fnq
end Go.Proofs.YtilgagmfcdfjaaaGreat
