/-
  Panes, walked over abstract values: where one stands in a row.
-/
import Derived.Test.YtimlkhbedhjehaaPnE
import Derived.Test.YtimlkhbedhjehaaAvX
namespace Go.Proofs.Ytimlkhbedhjehaa
open Go.RowKit
set_option linter.unusedSimpArgs false
set_option linter.unusedVariables false
/-- how many stand ahead -/
def atL (xs : List Pn) (x : Pn) : Nat := (xs.takeWhile fun p => ahead p x).length
/-- is there one of the same place -/
def isL (xs : List Pn) (x : Pn) : Bool := match xs[atL xs x]? with
  | some p => decide (cmpP p x = 0)
  | none => false
theorem atL_le (xs : List Pn) (x : Pn) : atL xs x ≤ xs.length := (List.takeWhile_sublist _).length_le
theorem atL_cons (p x : Pn) (xs : List Pn) : atL (p :: xs) x = if ahead p x then atL xs x + 1 else 0 := by
  unfold atL
  rw [List.takeWhile_cons]
  split <;> simp
theorem atL_iff {xs : List Pn} {x : Pn} (hs : xs.Pairwise (fun p q => ahead p q = true)) : ∀ {q : Nat} (h : q < xs.length), (ahead xs[q] x = true ↔ q < atL xs x) := by
  induction xs with
  | nil => intro q h; simp at h
  | cons p l ih =>
    intro q h
    rw [List.pairwise_cons] at hs
    rw [atL_cons]
    cases q with
    | zero =>
      simp only [List.getElem_cons_zero]
      by_cases hp : ahead p x = true <;> simp [hp]
    | succ q =>
      simp only [List.length_cons] at h
      have hq : q < l.length := by omega
      simp only [List.getElem_cons_succ]
      rw [ih hs.2 hq]
      by_cases hp : ahead p x = true
      · simp [hp]
      · simp only [hp, if_false, Bool.false_eq_true]
        constructor
        · intro h2
          have h3 := (ih hs.2 hq).2 h2
          exact absurd (ahead_trans (hs.1 _ (List.getElem_mem hq)) h3) hp
        · intro h2; omega
theorem cmpP_zero {p q : Pn} : cmpP p q = 0 ↔ sameP p q := by
  unfold cmpP
  constructor
  · intro h
    cases h1 : ahead p q
    · cases h2 : ahead q p
      · exact ahead_total h1 h2
      · simp [h1, h2] at h
    · simp [h1] at h
  · intro h
    rw [same_ahead h, same_ahead h.symm]; simp
theorem isL_at {xs : List Pn} {x : Pn} {q : Nat} (h : q < xs.length) (hq : q = atL xs x) : isL xs x = decide (cmpP xs[q] x = 0) := by
  subst hq
  simp [isL, h]
theorem isL_none {xs : List Pn} {x : Pn} (h : atL xs x = xs.length) : isL xs x = false := by
  simp [isL, h]
set_option maxHeartbeats 1000000 in
theorem p_place (xs : List Pn) (lo hi : Int) (k : ByteArray) (n a b : Int) (hs : xs.Pairwise (fun p q => ahead p q = true)) (hx : xs.length ≤ 1000000) :
    PC Try.prog 123 [.sl 6 (xs.map Pn.av), .agg [.v (.int .i64 lo), .v (.int .i64 hi), .v (.string k), .v (.int .i64 n), .v (.int .i64 a), .v (.int .i64 b)], .clo (.func 92) [] []] (.tup [.v (.int .i64 (atL xs ⟨lo, hi, k, n, a, b⟩)), .v (.bool (isL xs ⟨lo, hi, k, n, a, b⟩))]) := by
  have hA := fun q h => @atL_iff xs ⟨lo, hi, k, n, a, b⟩ hs q h
  have hle := atL_le xs ⟨lo, hi, k, n, a, b⟩
  have hI := fun q h => @isL_at xs ⟨lo, hi, k, n, a, b⟩ q h
  have hN := @isL_none xs ⟨lo, hi, k, n, a, b⟩
  generalize atL xs ⟨lo, hi, k, n, a, b⟩ = at' at *
  generalize isL xs ⟨lo, hi, k, n, a, b⟩ = is' at *
  refine PC.mk (ac_body tab_ok Try.func123 rfl (by kernel_rfl) rfl ?_); intro w0 M μ0; simp only [Try.ntmps123, List.length_cons, List.length_nil, Nat.reduceAdd, Nat.reduceSub, numb]
  repeat' (first | ((first | apply o_do | apply d_do | apply d_yes rfl rfl rfl); exact lsq) | first | refine a_seq ?_ | refine a_region ?_ | refine o_nil ?_ | refine a_block ?_ | refine a_ret ?_ | refine a_exit ?_ | refine a_skip ?_ | refine a_draw mixed ?_ | refine d_nil (by kernel_rfl) ?_ | first | refine o_yes rfl rfl rfl ?_ | refine o_no rfl rfl rfl (by decide) ?_ | refine o_no' rfl rfl rfl ?_ | refine a_condT rfl ?_ | refine a_condF rfl ?_ | refine d_no rfl rfl rfl (by decide) ?_ | refine d_no' rfl rfl rfl ?_ | ((first | refine o_split_t rfl rfl rfl (fun hb => ?_) (fun hb => ?_) | refine o_split_f rfl rfl rfl (fun hb => ?_) (fun hb => ?_) | refine a_cond rfl (fun hb => ?_) (fun hb => ?_) | refine d_split rfl rfl (fun hb => ?_) (fun hb => ?_)) <;> (simp only [hb]; try simp only [decide_eq_true_eq, decide_eq_false_iff_not, Bool.not_eq_true', Bool.not_eq_false', Bool.not_eq_true, Bool.not_eq_false, ne_eq, Decidable.not_not] at hb; try (exfalso; first | omega | exact hb trivial))))
  refine a_loop (X := {q : Nat × Nat // q.1 ≤ at' ∧ at' ≤ q.2 ∧ q.2 ≤ xs.length}) (fun x => ⟨[(0, .sl 6 (xs.map Pn.av)), (2, .clo (.func 92) [] []), (4, .ref 0 0), (8, .v (.int .i64 x.1.1)), (9, .v (.int .i64 x.1.2))], [(0, .box 41 [.v (.int .i64 lo), .v (.int .i64 hi), .v (.string k), .v (.int .i64 n), .v (.int .i64 a), .v (.int .i64 b)])]⟩) (fun x => x.1.2 - x.1.1) ⟨(0, xs.length), Nat.zero_le _, hle, Nat.le_refl _⟩ ?_ ?_
  · refine ⟨by repeat' (first | exact trivial | exact FinA.one (FinB.cell (FinC.same rfl)) | exact FinA.one (FinB.cell FinC.nil) | exact FinA.bound rfl | exact FinA.one (FinB.cell (FinC.own rfl rfl rfl rfl)) | exact FinA.one (FinB.cell (FinC.v (by first | rfl | (simp)))) | exact FinA.one (FinB.cell (FinC.ow rfl (by first | rfl | (simp)))) | exact FinA.one (FinB.agg' rfl rfl) | refine ⟨⟨_, rfl, ?_⟩, ?_⟩), by repeat' (first | exact trivial | refine ⟨⟨_, rfl, by first | rfl | (simp; done) | (simp [renO, *]; done)⟩, by first | rfl | assumption, ?_⟩), rfl⟩
  rintro ⟨⟨l, h⟩, h1, h2, h3⟩
  dsimp only at h1 h2 h3 ⊢
  by_cases hlt : l < h
  · obtain ⟨m, hm⟩ : ∃ m, m = (l + h) / 2 := ⟨_, rfl⟩
    have hm2 : ((l : Int) + (h : Int)).tdiv 2 = (m : Int) := by rw [Int.tdiv_eq_ediv_of_nonneg (by omega)]; omega
    have hml : m < xs.length := by omega
    have hel : (xs.map Pn.av)[m]? = some (Pn.av xs[m]) := by simp [hml]
    have hAm := hA m hml
    generalize xs[m] = p at *
    repeat' (first | ((first | apply o_do | apply d_do | apply d_yes rfl rfl rfl); first | exact ls_indexAddr_sl tab_ok rfl rfl rfl rfl (by assumption) rfl | exact ls_quo64 hm2 rfl rfl (by decide) (by omega) rfl | exact lsc ((p_compare _ _ _ _ _ _ _ _ _ _ _ _)) | exact lsq) | first | refine a_seq ?_ | refine a_region ?_ | refine o_nil ?_ | refine a_block ?_ | refine a_ret ?_ | refine a_exit ?_ | refine a_skip ?_ | refine a_draw mixed ?_ | refine d_nil (by kernel_rfl) ?_ | first | refine o_yes rfl rfl rfl ?_ | refine o_no rfl rfl rfl (by decide) ?_ | refine o_no' rfl rfl rfl ?_ | refine a_condT rfl ?_ | refine a_condF rfl ?_ | refine d_no rfl rfl rfl (by decide) ?_ | refine d_no' rfl rfl rfl ?_ | ((first | refine o_split_t rfl rfl rfl (fun hb => ?_) (fun hb => ?_) | refine o_split_f rfl rfl rfl (fun hb => ?_) (fun hb => ?_) | refine a_cond rfl (fun hb => ?_) (fun hb => ?_) | refine d_split rfl rfl (fun hb => ?_) (fun hb => ?_)) <;> (simp only [hb]; try simp only [decide_eq_true_eq, decide_eq_false_iff_not, Bool.not_eq_true', Bool.not_eq_false', Bool.not_eq_true, Bool.not_eq_false, ne_eq, Decidable.not_not] at hb; try (exfalso; first | omega | exact hb trivial))))
    · have h5 := hAm.1 (cmpP_lt.1 hb)
      refine ⟨⟨(m + 1, h), by dsimp only; omega, by dsimp only; omega, by dsimp only; omega⟩, by dsimp only; omega, ?_⟩
      refine ⟨by repeat' (first | exact trivial | exact FinA.one (FinB.cell (FinC.same rfl)) | exact FinA.one (FinB.cell FinC.nil) | exact FinA.bound rfl | exact FinA.one (FinB.cell (FinC.own rfl rfl rfl rfl)) | exact FinA.one (FinB.cell (FinC.v (by first | rfl | (simp)))) | exact FinA.one (FinB.cell (FinC.ow rfl (by first | rfl | (simp)))) | exact FinA.one (FinB.agg' rfl rfl) | refine ⟨⟨_, rfl, ?_⟩, ?_⟩), by repeat' (first | exact trivial | refine ⟨⟨_, rfl, by first | rfl | (simp; done) | (simp [renO, *]; done)⟩, by first | rfl | assumption, ?_⟩), rfl⟩
    · have h5 : ¬ m < at' := fun h6 => hb (cmpP_lt.2 (hAm.2 h6))
      refine ⟨⟨(l, m), by dsimp only; omega, by dsimp only; omega, by dsimp only; omega⟩, by dsimp only; omega, ?_⟩
      refine ⟨by repeat' (first | exact trivial | exact FinA.one (FinB.cell (FinC.same rfl)) | exact FinA.one (FinB.cell FinC.nil) | exact FinA.bound rfl | exact FinA.one (FinB.cell (FinC.own rfl rfl rfl rfl)) | exact FinA.one (FinB.cell (FinC.v (by first | rfl | (simp)))) | exact FinA.one (FinB.cell (FinC.ow rfl (by first | rfl | (simp)))) | exact FinA.one (FinB.agg' rfl rfl) | refine ⟨⟨_, rfl, ?_⟩, ?_⟩), by repeat' (first | exact trivial | refine ⟨⟨_, rfl, by first | rfl | (simp; done) | (simp [renO, *]; done)⟩, by first | rfl | assumption, ?_⟩), rfl⟩
  · obtain rfl : l = at' := by omega
    have hml : (xs.map Pn.av).length = xs.length := List.length_map _
    by_cases hll : l < xs.length
    · have hel : (xs.map Pn.av)[l]? = some (Pn.av xs[l]) := by simp [hll]
      rw [hI l hll rfl]
      generalize xs[l] = p at *
      repeat' (first | ((first | apply o_do | apply d_do | apply d_yes rfl rfl rfl); first | exact ls_indexAddr_sl tab_ok rfl rfl rfl rfl (by assumption) rfl | exact lsc ((p_compare _ _ _ _ _ _ _ _ _ _ _ _)) | exact lsq) | first | refine a_seq ?_ | refine a_region ?_ | refine o_nil ?_ | refine a_block ?_ | refine a_ret ?_ | refine a_exit ?_ | refine a_skip ?_ | refine a_draw mixed ?_ | refine d_nil (by kernel_rfl) ?_ | first | refine o_yes rfl rfl rfl ?_ | refine o_no rfl rfl rfl (by decide) ?_ | refine o_no' rfl rfl rfl ?_ | refine a_condT rfl ?_ | refine a_condF rfl ?_ | refine d_no rfl rfl rfl (by decide) ?_ | refine d_no' rfl rfl rfl ?_ | ((first | refine o_split_t rfl rfl rfl (fun hb => ?_) (fun hb => ?_) | refine o_split_f rfl rfl rfl (fun hb => ?_) (fun hb => ?_) | refine a_cond rfl (fun hb => ?_) (fun hb => ?_) | refine d_split rfl rfl (fun hb => ?_) (fun hb => ?_)) <;> (simp only [hb]; try simp only [decide_eq_true_eq, decide_eq_false_iff_not, Bool.not_eq_true', Bool.not_eq_false', Bool.not_eq_true, Bool.not_eq_false, ne_eq, Decidable.not_not] at hb; try (exfalso; first | omega | exact hb trivial))))
      all_goals refine ⟨by first | exact .inr rfl | exact .inl rfl, _, rfl, ?_, by repeat' (first | exact trivial | refine ⟨⟨_, rfl, by first | rfl | (simp [renO, *]; done)⟩, by first | rfl | assumption, ?_⟩)⟩
      all_goals (first | refine FinA.tup ?_ | refine FinA.one ?_); repeat' (first | exact FinBs.nil | exact FinCs.nil | refine FinBs.cons ?_ ?_ | refine FinCs.cons ?_ ?_ | refine FinB.cell (FinC.v ?_) | refine FinB.cell (FinC.own rfl rfl rfl ?_) | exact FinB.cell FinC.nil | refine FinB.cell (FinC.sl ?_) | exact FinB.agg' rfl rfl | exact FinB.cell (FinC.same rfl) | refine FinB.agg ?_ | refine FinC.v ?_ | refine FinC.own rfl rfl rfl ?_ | exact FinC.nil | refine FinC.sl ?_ | exact FinC.same rfl); all_goals try rfl
    · rw [hN (by omega)]
      repeat' (first | ((first | apply o_do | apply d_do | apply d_yes rfl rfl rfl); exact lsq) | first | refine a_seq ?_ | refine a_region ?_ | refine o_nil ?_ | refine a_block ?_ | refine a_ret ?_ | refine a_exit ?_ | refine a_skip ?_ | refine a_draw mixed ?_ | refine d_nil (by kernel_rfl) ?_ | first | refine o_yes rfl rfl rfl ?_ | refine o_no rfl rfl rfl (by decide) ?_ | refine o_no' rfl rfl rfl ?_ | refine a_condT rfl ?_ | refine a_condF rfl ?_ | refine d_no rfl rfl rfl (by decide) ?_ | refine d_no' rfl rfl rfl ?_ | ((first | refine o_split_t rfl rfl rfl (fun hb => ?_) (fun hb => ?_) | refine o_split_f rfl rfl rfl (fun hb => ?_) (fun hb => ?_) | refine a_cond rfl (fun hb => ?_) (fun hb => ?_) | refine d_split rfl rfl (fun hb => ?_) (fun hb => ?_)) <;> (simp only [hb]; try simp only [decide_eq_true_eq, decide_eq_false_iff_not, Bool.not_eq_true', Bool.not_eq_false', Bool.not_eq_true, Bool.not_eq_false, ne_eq, Decidable.not_not] at hb; try (exfalso; first | omega | exact hb trivial))))
      all_goals refine ⟨by first | exact .inr rfl | exact .inl rfl, _, rfl, ?_, by repeat' (first | exact trivial | refine ⟨⟨_, rfl, by first | rfl | (simp [renO, *]; done)⟩, by first | rfl | assumption, ?_⟩)⟩
      all_goals (first | refine FinA.tup ?_ | refine FinA.one ?_); repeat' (first | exact FinBs.nil | exact FinCs.nil | refine FinBs.cons ?_ ?_ | refine FinCs.cons ?_ ?_ | refine FinB.cell (FinC.v ?_) | refine FinB.cell (FinC.own rfl rfl rfl ?_) | exact FinB.cell FinC.nil | refine FinB.cell (FinC.sl ?_) | exact FinB.agg' rfl rfl | exact FinB.cell (FinC.same rfl) | refine FinB.agg ?_ | refine FinC.v ?_ | refine FinC.own rfl rfl rfl ?_ | exact FinC.nil | refine FinC.sl ?_ | exact FinC.same rfl); all_goals try rfl
end Go.Proofs.Ytimlkhbedhjehaa
