/-
  Windows, walked over abstract values: a row turned round.
-/
import Derived.Test.YtimlkhbedhjehaaWnA
namespace Go.Proofs.Ytimlkhbedhjehaa
open Go.RowKit
set_option linter.unusedSimpArgs false
set_option linter.unusedVariables false
/-- so many of either end have been turned round -/
def Rev (xs m : List Wn) (i : Nat) : Prop := m.length = xs.length ∧ ∀ p, p < xs.length → m[p]? = if p < i ∨ xs.length - i ≤ p then xs[xs.length - 1 - p]? else xs[p]?
theorem Rev.start (xs : List Wn) : Rev xs xs 0 := ⟨rfl, fun p hp => by rw [if_neg (by omega)]⟩
theorem Rev.done {xs m : List Wn} {i : Nat} (h : Rev xs m i) (hi : xs.length ≤ 2 * i + 1) : m = xs.reverse := by
  apply List.ext_getElem?
  intro p
  rcases Nat.lt_or_ge p xs.length with hp | hp
  · rw [List.getElem?_reverse hp, h.2 p hp]
    split
    · rfl
    · congr 1; omega
  · rw [List.getElem?_eq_none (by rw [h.1]; exact hp), List.getElem?_eq_none (by rw [List.length_reverse]; exact hp)]
theorem Rev.step {xs m : List Wn} {i j : Nat} {x y : Wn} (h : Rev xs m i) (hj : i + j + 1 = xs.length) (hij : i < j) (h1 : m[i]? = some x) (h2 : m[j]? = some y) : Rev xs ((m.set i y).set j x) (i + 1) := by
  refine ⟨by rw [List.length_set, List.length_set]; exact h.1, fun p hp => ?_⟩
  have e1 : xs[i]? = some x := by rw [← h1, h.2 i (by omega), if_neg (by omega)]
  have e2 : xs[j]? = some y := by rw [← h2, h.2 j (by omega), if_neg (by omega)]
  rw [List.getElem?_set, List.getElem?_set, List.length_set, h.1]
  by_cases hpj : j = p
  · subst hpj
    rw [if_pos rfl, if_pos (by omega), if_pos (by omega), show xs.length - 1 - j = i by omega, e1]
  · rw [if_neg hpj]
    by_cases hpi : i = p
    · subst hpi
      rw [if_pos rfl, if_pos (by omega), if_pos (by omega), show xs.length - 1 - i = j by omega, e2]
    · rw [if_neg hpi, h.2 p hp]
      by_cases hc : p < i ∨ xs.length - i ≤ p
      · rw [if_pos hc, if_pos (by omega)]
      · rw [if_neg hc, if_neg (by omega)]
set_option maxHeartbeats 4000000 in
theorem p_Rev (xs : List Wn) (hx : xs.length ≤ 1000000) :
    AC Try.prog 105 [.own 0 (xs.map Wn.av).length] [(0, .row 37 2 (xs.map Wn.av))] (.tup []) [(0, .row 37 2 (xs.reverse.map Wn.av))] := by
  have hn : (xs.map Wn.av).length = xs.length := List.length_map _
  refine (ac_body tab_ok Try.func105 rfl (by kernel_rfl) rfl ?_); intro w0 M μ0; simp only [Try.ntmps105, List.length_cons, List.length_nil, Nat.reduceAdd, Nat.reduceSub, numb]
  repeat' (first | ((first | apply o_do | apply d_do | apply d_yes rfl rfl rfl); exact lsq) | first | refine a_seq ?_ | refine a_region ?_ | refine o_nil ?_ | refine a_block ?_ | refine a_ret ?_ | refine a_exit ?_ | refine a_skip ?_ | refine a_draw mixed ?_ | refine d_nil (by kernel_rfl) ?_ | first | refine o_yes rfl rfl rfl ?_ | refine o_no rfl rfl rfl (by decide) ?_ | refine o_no' rfl rfl rfl ?_ | refine a_condT rfl ?_ | refine a_condF rfl ?_ | refine d_no rfl rfl rfl (by decide) ?_ | refine d_no' rfl rfl rfl ?_ | ((first | refine o_split_t rfl rfl rfl (fun hb => ?_) (fun hb => ?_) | refine o_split_f rfl rfl rfl (fun hb => ?_) (fun hb => ?_) | refine a_cond rfl (fun hb => ?_) (fun hb => ?_) | refine d_split rfl rfl (fun hb => ?_) (fun hb => ?_)) <;> (simp only [hb]; try simp only [decide_eq_true_eq, decide_eq_false_iff_not, Bool.not_eq_true', Bool.not_eq_false', Bool.not_eq_true, Bool.not_eq_false, ne_eq, Decidable.not_not] at hb; try (exfalso; first | omega | exact hb trivial))))
  refine a_loop (X := {x : Nat × List Wn // x.1 ≤ xs.length ∧ Rev xs x.2 x.1}) (fun x => ⟨[(0, .own 0 (x.1.2.map Wn.av).length), (2, .v (.int .i64 x.1.1)), (3, .v (.int .i64 (((xs.map Wn.av).length : Int) - 1 - (x.1.1 : Int))))], [(0, .row 37 2 (x.1.2.map Wn.av))]⟩) (fun x => xs.length - x.1.1) ⟨(0, xs), Nat.zero_le _, Rev.start xs⟩ ?_ ?_
  · refine ⟨by repeat' (first | exact trivial | exact FinA.one (FinB.cell (FinC.same rfl)) | exact FinA.one (FinB.cell FinC.nil) | exact FinA.one (FinB.cell (FinC.own rfl rfl rfl rfl)) | exact FinA.one (FinB.cell (FinC.v (by first | rfl | ((congr 1; simp))))) | exact FinA.one (FinB.cell (FinC.ow rfl (by first | rfl | ((congr 1; simp))))) | exact FinA.one (FinB.agg' rfl rfl) | refine ⟨⟨_, rfl, ?_⟩, ?_⟩), by repeat' (first | exact trivial | refine ⟨⟨_, rfl, by first | rfl | ((congr 1; simp); done) | (simp [renO, *]; done)⟩, by first | rfl | assumption, ?_⟩), rfl⟩
  rintro ⟨⟨i, m⟩, hi, hr⟩
  dsimp only at hi hr ⊢
  have hml := hr.1
  have hnm : (m.map Wn.av).length = m.length := List.length_map _
  by_cases hlt : 2 * i + 1 < xs.length
  · obtain ⟨j, hj⟩ : ∃ j : Nat, ((xs.map Wn.av).length : Int) - 1 - (i : Int) = (j : Int) := ⟨xs.length - 1 - i, by omega⟩
    have him : i < m.length := by omega
    have hjm : j < m.length := by omega
    have hst := fun x y => @Rev.step xs m i j x y hr (by omega) (by omega)
    have e1 : (m.map Wn.av)[j]? = some (Wn.av m[j]) := by simp [hjm]
    have e2 : (m.map Wn.av)[i]? = some (Wn.av m[i]) := by simp [him]
    have e3 : ((m.map Wn.av).set i (Wn.av m[j]))[j]? = some (Wn.av m[j]) := by
      rw [List.getElem?_set, if_neg (by omega), e1]
    have hr2 := hst m[i] m[j] (List.getElem?_eq_getElem him) (List.getElem?_eq_getElem hjm)
    have hN : (((m.set i m[j]).set j m[i]).map Wn.av) = ((m.map Wn.av).set i (Wn.av m[j])).set j (Wn.av m[i]) := by rw [List.map_set, List.map_set]
    have hjx : j < (m.map Wn.av).length := by omega
    have hix : i < (m.map Wn.av).length := by omega
    have hjz : ∀ z, j < ((m.map Wn.av).set i z).length := fun z => by rw [List.length_set]; omega
    have hsz : ∀ z, (m.map Wn.av).length = ((m.map Wn.av).set i z).length := fun z => by rw [List.length_set]
    have hsz2 : ((((m.set i m[j]).set j m[i]).map Wn.av)).length = (m.map Wn.av).length := by simp
    have hpu : ∀ y : Wn, ∀ (σ : Store) (μ : Nat → Value) (w : World) (A : Nat → Prop) (z : Value), rep σ μ w A (.agg (Wn.av y)) z → rep [] μ w A (.agg (Wn.av y)) z := fun y _ _ _ _ _ h => rep_pureB h rfl
    generalize m[j] = y at *
    generalize m[i] = x at *
    generalize ((m.set i y).set j x) = m' at *
    repeat' (first | ((first | apply o_do | apply d_do | apply d_yes rfl rfl rfl); first | exact ls_indexAddr_own tab_ok rfl rfl rfl rfl rfl hj hjx rfl | exact ls_indexAddr_own tab_ok rfl rfl rfl rfl rfl rfl hix rfl | exact ls_indexAddr_own tab_ok rfl rfl (hsz _) rfl rfl hj (hjz _) rfl | exact ls_load_eref tab_ok rfl rfl rfl e1 rfl rfl rfl rfl | exact ls_load_eref tab_ok rfl rfl rfl e2 rfl rfl rfl rfl | exact ls_store_eref (cs' := Wn.av y) tab_ok rfl rfl rfl rfl e2 rfl rfl (hpu _) rfl rfl rfl rfl | exact ls_store_eref (cs' := Wn.av x) tab_ok rfl rfl rfl (hsz _) e3 rfl rfl (hpu _) rfl rfl rfl rfl | exact lsq) | first | refine a_seq ?_ | refine a_region ?_ | refine o_nil ?_ | refine a_block ?_ | refine a_ret ?_ | refine a_exit ?_ | refine a_skip ?_ | refine a_draw mixed ?_ | refine d_nil (by kernel_rfl) ?_ | first | refine o_yes rfl rfl rfl ?_ | refine o_no rfl rfl rfl (by decide) ?_ | refine o_no' rfl rfl rfl ?_ | refine a_condT rfl ?_ | refine a_condF rfl ?_ | refine d_no rfl rfl rfl (by decide) ?_ | refine d_no' rfl rfl rfl ?_ | ((first | refine o_split_t rfl rfl rfl (fun hb => ?_) (fun hb => ?_) | refine o_split_f rfl rfl rfl (fun hb => ?_) (fun hb => ?_) | refine a_cond rfl (fun hb => ?_) (fun hb => ?_) | refine d_split rfl rfl (fun hb => ?_) (fun hb => ?_)) <;> (simp only [hb]; try simp only [decide_eq_true_eq, decide_eq_false_iff_not, Bool.not_eq_true', Bool.not_eq_false', Bool.not_eq_true, Bool.not_eq_false, ne_eq, Decidable.not_not] at hb; try (exfalso; first | omega | exact hb trivial))))
    refine ⟨⟨(i + 1, m'), by dsimp only; omega, hr2⟩, by dsimp only; omega, ?_⟩
    refine ⟨by repeat' (first | exact trivial | exact FinA.one (FinB.cell (FinC.same rfl)) | exact FinA.one (FinB.cell FinC.nil) | exact FinA.one (FinB.cell (FinC.own rfl rfl rfl rfl)) | exact FinA.one (FinB.cell (FinC.v (by first | rfl | ((first | (simp only [hN]; done) | (simp only [hN]; rfl) | (exact hsz2.symm) | (dsimp only; congr 1; omega)))))) | exact FinA.one (FinB.cell (FinC.ow rfl (by first | rfl | ((first | (simp only [hN]; done) | (simp only [hN]; rfl) | (exact hsz2.symm) | (dsimp only; congr 1; omega)))))) | exact FinA.one (FinB.agg' rfl rfl) | refine ⟨⟨_, rfl, ?_⟩, ?_⟩), by repeat' (first | exact trivial | refine ⟨⟨_, rfl, by first | rfl | ((first | (simp only [hN]; done) | (simp only [hN]; rfl) | (exact hsz2.symm) | (dsimp only; congr 1; omega)); done) | (simp [renO, *]; done)⟩, by first | rfl | assumption, ?_⟩), rfl⟩
  · obtain rfl := hr.done (by omega)
    repeat' (first | ((first | apply o_do | apply d_do | apply d_yes rfl rfl rfl); exact lsq) | first | refine a_seq ?_ | refine a_region ?_ | refine o_nil ?_ | refine a_block ?_ | refine a_ret ?_ | refine a_exit ?_ | refine a_skip ?_ | refine a_draw mixed ?_ | refine d_nil (by kernel_rfl) ?_ | first | refine o_yes rfl rfl rfl ?_ | refine o_no rfl rfl rfl (by decide) ?_ | refine o_no' rfl rfl rfl ?_ | refine a_condT rfl ?_ | refine a_condF rfl ?_ | refine d_no rfl rfl rfl (by decide) ?_ | refine d_no' rfl rfl rfl ?_ | ((first | refine o_split_t rfl rfl rfl (fun hb => ?_) (fun hb => ?_) | refine o_split_f rfl rfl rfl (fun hb => ?_) (fun hb => ?_) | refine a_cond rfl (fun hb => ?_) (fun hb => ?_) | refine d_split rfl rfl (fun hb => ?_) (fun hb => ?_)) <;> (simp only [hb]; try simp only [decide_eq_true_eq, decide_eq_false_iff_not, Bool.not_eq_true', Bool.not_eq_false', Bool.not_eq_true, Bool.not_eq_false, ne_eq, Decidable.not_not] at hb; try (exfalso; first | omega | exact hb trivial))))
    all_goals refine ⟨by first | exact .inr rfl | exact .inl rfl, _, rfl, ?_, by repeat' (first | exact trivial | refine ⟨⟨_, rfl, by first | rfl | (simp [renO, *]; done)⟩, by first | rfl | assumption, ?_⟩)⟩
    all_goals (first | refine FinA.tup ?_ | refine FinA.one ?_); repeat' (first | exact FinBs.nil | exact FinCs.nil | refine FinBs.cons ?_ ?_ | refine FinCs.cons ?_ ?_ | refine FinB.cell (FinC.v ?_) | refine FinB.cell (FinC.own rfl rfl rfl ?_) | exact FinB.cell FinC.nil | refine FinB.cell (FinC.sl ?_) | exact FinB.agg' rfl rfl | exact FinB.cell (FinC.same rfl) | refine FinB.agg ?_ | refine FinC.v ?_ | refine FinC.own rfl rfl rfl ?_ | exact FinC.nil | refine FinC.sl ?_ | exact FinC.same rfl); all_goals try rfl
end Go.Proofs.Ytimlkhbedhjehaa
