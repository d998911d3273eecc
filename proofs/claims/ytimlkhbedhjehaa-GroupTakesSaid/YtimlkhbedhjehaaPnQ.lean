/-
  Panes, walked over abstract values: the document's way to put one more into a row.
-/
import Derived.Test.YtimlkhbedhjehaaPnP
namespace Go.Proofs.Ytimlkhbedhjehaa
open Go.RowKit
set_option linter.unusedSimpArgs false
set_option linter.unusedVariables false
section
variable {xs : List Pn} {x : Pn}
theorem at_lt (hs : xs.Pairwise (fun p q => ahead p q = true)) {q : Nat} (h : q < xs.length) (hq : q < atL xs x) : ahead x xs[q] = false ∧ ¬ sameP xs[q] x := by
  have h1 := (atL_iff hs h).2 hq
  exact ⟨ahead_asymm h1, fun h2 => by rw [same_ahead h2] at h1; cases h1⟩
theorem at_new (hs : xs.Pairwise (fun p q => ahead p q = true)) {q : Nat} (h : q < xs.length) (hq : q = atL xs x) (hi : isL xs x = false) : ahead x xs[q] = true ∧ ¬ sameP xs[q] x := by
  have h1 : ahead xs[q] x = false := by
    cases h2 : ahead xs[q] x
    · rfl
    · have := (atL_iff hs h).1 h2; omega
  rw [isL_at h hq] at hi
  have h3 : ¬ sameP xs[q] x := fun h4 => by simp [cmpP_zero.2 h4] at hi
  refine ⟨?_, h3⟩
  cases h5 : ahead x xs[q]
  · exact absurd (ahead_total h1 h5) h3
  · rfl
theorem at_is {q : Nat} (h : q < xs.length) (hq : q = atL xs x) (hi : isL xs x = true) : sameP xs[q] x := by
  rw [isL_at h hq] at hi
  exact cmpP_zero.1 (by simpa using hi)
theorem at_gt (hs : xs.Pairwise (fun p q => ahead p q = true)) {q : Nat} (h : q < xs.length) (hq : atL xs x < q) : ¬ sameP xs[q] x := by
  have hl : atL xs x < xs.length := by omega
  have h1 : ahead xs[atL xs x] xs[q] = true := List.pairwise_iff_getElem.1 hs _ _ hl h hq
  intro h2
  rw [sameP.right h2] at h1
  have := (atL_iff hs hl).1 h1
  omega
end
/-- what the loop has put, up to q -/
def outN (xs : List Pn) (x : Pn) (q : Nat) : List Pn := if q ≤ atL xs x then xs.take q else xs.take (atL xs x) ++ [x] ++ (xs.take q).drop (atL xs x)
theorem outN_le (xs : List Pn) (x : Pn) (q : Nat) : (outN xs x q).length ≤ xs.length + 1 := by
  unfold outN
  have := atL_le xs x
  split <;> simp only [List.length_append, List.length_take, List.length_drop, List.length_cons, List.length_nil] <;> omega
theorem outN_lt {xs : List Pn} {x : Pn} {q : Nat} (h : q < xs.length) (hq : q < atL xs x) : outN xs x (q + 1) = outN xs x q ++ [xs[q]] := by
  unfold outN
  rw [if_pos (by omega), if_pos (by omega), take_snoc xs q h]
theorem outN_at {xs : List Pn} {x : Pn} {q : Nat} (h : q < xs.length) (hq : q = atL xs x) : outN xs x (q + 1) = outN xs x q ++ [x] ++ [xs[q]] := by
  unfold outN
  rw [if_neg (by omega), if_pos (by omega), take_snoc xs q h, ← hq]
  rw [List.drop_append_of_le_length (by rw [List.length_take]; omega), List.drop_eq_nil_of_le (by rw [List.length_take]; omega)]
  simp
theorem outN_gt {xs : List Pn} {x : Pn} {q : Nat} (h : q < xs.length) (hq : atL xs x < q) : outN xs x (q + 1) = outN xs x q ++ [xs[q]] := by
  unfold outN
  rw [if_neg (by omega), if_neg (by omega), take_snoc xs q h]
  rw [List.drop_append_of_le_length (by rw [List.length_take]; omega)]
  simp
theorem outN_end (xs : List Pn) (x : Pn) : (if atL xs x < xs.length then outN xs x xs.length else outN xs x xs.length ++ [x]) = xs.take (atL xs x) ++ [x] ++ xs.drop (atL xs x) := by
  have := atL_le xs x
  unfold outN
  by_cases h : atL xs x < xs.length
  · rw [if_pos h, if_neg (by omega), List.take_length]
  · rw [if_neg h, if_pos (by omega), List.take_of_length_le (Nat.le_refl _), List.take_of_length_le (by omega), List.drop_eq_nil_of_le (by omega)]
    simp
section
variable (xs : List Pn) (k lo hi : Int) (key : ByteArray) (n a b : Int)
set_option maxHeartbeats 8000000 in
theorem w_new (hs : xs.Pairwise (fun p q => ahead p q = true)) (hx : xs.length ≤ 2000) (h1 : isL xs ⟨lo, hi, key, n, a, b⟩ = false) :
    PC Try.prog 91 [.sl 6 (xs.map Pn.av), .v (.int .i64 k), .agg [.v (.int .i64 lo), .v (.int .i64 hi), .v (.string key), .v (.int .i64 n), .v (.int .i64 a), .v (.int .i64 b)]] (PR.av (putR k xs ⟨lo, hi, key, n, a, b⟩)) := by
  have hle := atL_le xs ⟨lo, hi, key, n, a, b⟩
  have hE := outN_end xs ⟨lo, hi, key, n, a, b⟩
  have hlen : (xs.take (atL xs ⟨lo, hi, key, n, a, b⟩) ++ [Pn.mk lo hi key n a b] ++ xs.drop (atL xs ⟨lo, hi, key, n, a, b⟩)).length = xs.length + 1 := by
    simp only [List.length_append, List.length_take, List.length_drop, List.length_cons, List.length_nil]; omega
  rw [show putR k xs ⟨lo, hi, key, n, a, b⟩ = (if 2000 ≤ xs.length then ([], 3) else (xs.take (atL xs ⟨lo, hi, key, n, a, b⟩) ++ [Pn.mk lo hi key n a b] ++ xs.drop (atL xs ⟨lo, hi, key, n, a, b⟩), 0)) by simp only [putR, putL, h1]; by_cases hf : 2000 ≤ xs.length <;> simp [hf]]
  generalize hrs : xs.take (atL xs ⟨lo, hi, key, n, a, b⟩) ++ [Pn.mk lo hi key n a b] ++ xs.drop (atL xs ⟨lo, hi, key, n, a, b⟩) = rs at *
  refine PC.mk (ac_body tab_ok Try.func91 rfl (by kernel_rfl) rfl ?_); intro w0 M μ0; simp only [Try.ntmps91, List.length_cons, List.length_nil, Nat.reduceAdd, Nat.reduceSub, numb]
  repeat' (first | ((first | apply o_do | apply d_do | apply d_yes rfl rfl rfl); exact lsq) | first | refine a_seq ?_ | refine a_region ?_ | refine o_nil ?_ | refine a_block ?_ | refine a_ret ?_ | refine a_exit ?_ | refine a_skip ?_ | refine a_draw mixed ?_ | refine d_nil (by kernel_rfl) ?_ | first | refine o_yes rfl rfl rfl ?_ | refine o_no rfl rfl rfl (by decide) ?_ | refine o_no' rfl rfl rfl ?_ | refine a_condT rfl ?_ | refine a_condF rfl ?_ | refine d_no rfl rfl rfl (by decide) ?_ | refine d_no' rfl rfl rfl ?_ | ((first | refine o_split_t rfl rfl rfl (fun hb => ?_) (fun hb => ?_) | refine o_split_f rfl rfl rfl (fun hb => ?_) (fun hb => ?_) | refine a_cond rfl (fun hb => ?_) (fun hb => ?_) | refine d_split rfl rfl (fun hb => ?_) (fun hb => ?_)) <;> (simp only [hb]; try simp only [decide_eq_true_eq, decide_eq_false_iff_not, Bool.not_eq_true', Bool.not_eq_false', Bool.not_eq_true, Bool.not_eq_false, ne_eq, Decidable.not_not] at hb; try (exfalso; first | omega | exact hb trivial))))
  refine a_loop (X := {q : Nat // q ≤ xs.length}) (fun x => ⟨[(0, .sl 6 (xs.map Pn.av)), (1, .v (.int .i64 k)), (5, .ref 0 0), (8, .own 1 ((outN xs ⟨lo, hi, key, n, a, b⟩ x.1).map Pn.av).length), (9, .v (.bool (decide (atL xs ⟨lo, hi, key, n, a, b⟩ < x.1)))), (13, .sl 6 (xs.map Pn.av)), (14, .v (.int .i64 xs.length)), (15, .v (.int .i64 x.1))], [(0, .box 41 [.v (.int .i64 lo), .v (.int .i64 hi), .v (.string key), .v (.int .i64 n), .v (.int .i64 a), .v (.int .i64 b)]), (1, .row 41 6 ((outN xs ⟨lo, hi, key, n, a, b⟩ x.1).map Pn.av))]⟩) (fun x => xs.length - x.1) ⟨0, Nat.zero_le _⟩ ?_ ?_
  · refine ⟨by repeat' (first | exact trivial | exact FinA.one (FinB.cell (FinC.same rfl)) | exact FinA.one (FinB.cell (FinC.v (by first | rfl | (simp [outN])))) | exact FinA.one (FinB.cell (FinC.ow rfl (by first | rfl | (simp [outN])))) | exact FinA.one (FinB.agg' rfl rfl) | refine ⟨⟨_, rfl, ?_⟩, ?_⟩), by repeat' (first | exact trivial | refine ⟨⟨_, rfl, by first | rfl | (simp [outN]; done) | (simp [renO, *]; done)⟩, by first | rfl | assumption, ?_⟩), rfl⟩
  rintro ⟨q, hq⟩
  dsimp only
  have hol : ((outN xs ⟨lo, hi, key, n, a, b⟩ q).map Pn.av).length ≤ 2001 := by have := outN_le xs ⟨lo, hi, key, n, a, b⟩ q; rw [List.length_map]; omega
  have hol1 : (outN xs ⟨lo, hi, key, n, a, b⟩ q).length ≤ 2001 := by rw [← List.length_map (f := Pn.av)]; exact hol
  by_cases hlt : q < xs.length
  · have hel : (xs.map Pn.av)[q]? = some (Pn.av xs[q]) := by simp [hlt]
    have hS := p_same xs[q].lo xs[q].hi xs[q].key xs[q].n xs[q].a xs[q].b lo hi key n a b
    have hA := p_rAhead lo hi key n a b xs[q].lo xs[q].hi xs[q].key xs[q].n xs[q].a xs[q].b
    rcases Nat.lt_trichotomy q (atL xs ⟨lo, hi, key, n, a, b⟩) with h | h | h
    · obtain ⟨g1, g2⟩ := at_lt (x := ⟨lo, hi, key, n, a, b⟩) hs hlt h
      have hN := congrArg (List.map Pn.av) (outN_lt hlt h)
      rw [List.map_append] at hN
      rw [show decide (sameP ⟨xs[q].lo, xs[q].hi, xs[q].key, xs[q].n, xs[q].a, xs[q].b⟩ ⟨lo, hi, key, n, a, b⟩) = false from decide_eq_false g2] at hS
      rw [show ahead ⟨lo, hi, key, n, a, b⟩ ⟨xs[q].lo, xs[q].hi, xs[q].key, xs[q].n, xs[q].a, xs[q].b⟩ = false from g1] at hA
      have hd1 : decide (atL xs ⟨lo, hi, key, n, a, b⟩ < q) = false := by simp; omega
      have hd2 : decide (atL xs ⟨lo, hi, key, n, a, b⟩ < q + 1) = false := by simp; omega
      rw [hd1]
      generalize xs[q] = p at *
      generalize outN xs ⟨lo, hi, key, n, a, b⟩ q = o at *
      repeat' (first | ((first | apply o_do | apply d_do | apply d_yes rfl rfl rfl); first | exact ls_indexAddr_sl tab_ok rfl rfl rfl rfl (by assumption) rfl | exact lsc (hS) | exact lsc (hA) | exact ls_append tab_ok rfl rfl rfl rfl (by first | exact SrcIs.sl | exact SrcIs.nil | exact SrcIs.own rfl rfl) rfl (by (try simp only [List.length_cons, List.length_nil]); omega) rfl rfl | exact lsq) | first | refine a_seq ?_ | refine a_region ?_ | refine o_nil ?_ | refine a_block ?_ | refine a_ret ?_ | refine a_exit ?_ | refine a_skip ?_ | refine a_draw mixed ?_ | refine d_nil (by kernel_rfl) ?_ | first | refine o_yes rfl rfl rfl ?_ | refine o_no rfl rfl rfl (by decide) ?_ | refine o_no' rfl rfl rfl ?_ | refine a_condT rfl ?_ | refine a_condF rfl ?_ | refine d_no rfl rfl rfl (by decide) ?_ | refine d_no' rfl rfl rfl ?_ | ((first | refine o_split_t rfl rfl rfl (fun hb => ?_) (fun hb => ?_) | refine o_split_f rfl rfl rfl (fun hb => ?_) (fun hb => ?_) | refine a_cond rfl (fun hb => ?_) (fun hb => ?_) | refine d_split rfl rfl (fun hb => ?_) (fun hb => ?_)) <;> (simp only [hb]; try simp only [decide_eq_true_eq, decide_eq_false_iff_not, Bool.not_eq_true', Bool.not_eq_false', Bool.not_eq_true, Bool.not_eq_false, ne_eq, Decidable.not_not] at hb; try (exfalso; first | omega | exact hb trivial))))
      refine ⟨⟨q + 1, by omega⟩, by dsimp only; omega, ?_⟩
      refine ⟨by repeat' (first | exact trivial | exact FinA.one (FinB.cell (FinC.same rfl)) | exact FinA.one (FinB.cell (FinC.v (by first | rfl | ((first | (simp only [hN]; rfl) | (simp only [hd2]; done)))))) | exact FinA.one (FinB.cell (FinC.ow rfl (by first | rfl | ((first | (simp only [hN]; rfl) | (simp only [hd2]; done)))))) | exact FinA.one (FinB.agg' rfl rfl) | refine ⟨⟨_, rfl, ?_⟩, ?_⟩), by repeat' (first | exact trivial | refine ⟨⟨_, rfl, by first | rfl | ((first | (simp only [hN]; rfl) | (simp only [hd2]; done)); done) | (simp [renO, *]; done)⟩, by first | rfl | assumption, ?_⟩), rfl⟩
    · obtain ⟨g1, g2⟩ := at_new (x := ⟨lo, hi, key, n, a, b⟩) hs hlt h h1
      have hN := congrArg (List.map Pn.av) (outN_at hlt h)
      rw [List.map_append, List.map_append] at hN
      rw [show decide (sameP ⟨xs[q].lo, xs[q].hi, xs[q].key, xs[q].n, xs[q].a, xs[q].b⟩ ⟨lo, hi, key, n, a, b⟩) = false from decide_eq_false g2] at hS
      rw [show ahead ⟨lo, hi, key, n, a, b⟩ ⟨xs[q].lo, xs[q].hi, xs[q].key, xs[q].n, xs[q].a, xs[q].b⟩ = true from g1] at hA
      have hd1 : decide (atL xs ⟨lo, hi, key, n, a, b⟩ < q) = false := by simp; omega
      have hd2 : decide (atL xs ⟨lo, hi, key, n, a, b⟩ < q + 1) = true := by simp; omega
      rw [hd1]
      generalize xs[q] = p at *
      generalize outN xs ⟨lo, hi, key, n, a, b⟩ q = o at *
      repeat' (first | ((first | apply o_do | apply d_do | apply d_yes rfl rfl rfl); first | exact ls_indexAddr_sl tab_ok rfl rfl rfl rfl (by assumption) rfl | exact lsc (hS) | exact lsc (hA) | exact ls_append tab_ok rfl rfl rfl rfl (by first | exact SrcIs.sl | exact SrcIs.nil | exact SrcIs.own rfl rfl) rfl (by (try simp only [List.length_cons, List.length_nil]); (first | omega | (simp; omega))) rfl rfl | exact lsq) | first | refine a_seq ?_ | refine a_region ?_ | refine o_nil ?_ | refine a_block ?_ | refine a_ret ?_ | refine a_exit ?_ | refine a_skip ?_ | refine a_draw mixed ?_ | refine d_nil (by kernel_rfl) ?_ | first | refine o_yes rfl rfl rfl ?_ | refine o_no rfl rfl rfl (by decide) ?_ | refine o_no' rfl rfl rfl ?_ | refine a_condT rfl ?_ | refine a_condF rfl ?_ | refine d_no rfl rfl rfl (by decide) ?_ | refine d_no' rfl rfl rfl ?_ | ((first | refine o_split_t rfl rfl rfl (fun hb => ?_) (fun hb => ?_) | refine o_split_f rfl rfl rfl (fun hb => ?_) (fun hb => ?_) | refine a_cond rfl (fun hb => ?_) (fun hb => ?_) | refine d_split rfl rfl (fun hb => ?_) (fun hb => ?_)) <;> (simp only [hb]; try simp only [decide_eq_true_eq, decide_eq_false_iff_not, Bool.not_eq_true', Bool.not_eq_false', Bool.not_eq_true, Bool.not_eq_false, ne_eq, Decidable.not_not] at hb; try (exfalso; first | omega | exact hb trivial))))
      refine ⟨⟨q + 1, by omega⟩, by dsimp only; omega, ?_⟩
      refine ⟨by repeat' (first | exact trivial | exact FinA.one (FinB.cell (FinC.same rfl)) | exact FinA.one (FinB.cell (FinC.v (by first | rfl | ((first | (simp only [hN]; rfl) | (simp only [hd2]; done)))))) | exact FinA.one (FinB.cell (FinC.ow rfl (by first | rfl | ((first | (simp only [hN]; rfl) | (simp only [hd2]; done)))))) | exact FinA.one (FinB.agg' rfl rfl) | refine ⟨⟨_, rfl, ?_⟩, ?_⟩), by repeat' (first | exact trivial | refine ⟨⟨_, rfl, by first | rfl | ((first | (simp only [hN]; rfl) | (simp only [hd2]; done)); done) | (simp [renO, *]; done)⟩, by first | rfl | assumption, ?_⟩), rfl⟩
    · have g2 := at_gt (x := ⟨lo, hi, key, n, a, b⟩) hs hlt h
      have hN := congrArg (List.map Pn.av) (outN_gt hlt h)
      rw [List.map_append] at hN
      rw [show decide (sameP ⟨xs[q].lo, xs[q].hi, xs[q].key, xs[q].n, xs[q].a, xs[q].b⟩ ⟨lo, hi, key, n, a, b⟩) = false from decide_eq_false g2] at hS
      have hd1 : decide (atL xs ⟨lo, hi, key, n, a, b⟩ < q) = true := by simp; omega
      have hd2 : decide (atL xs ⟨lo, hi, key, n, a, b⟩ < q + 1) = true := by simp; omega
      rw [hd1]
      generalize xs[q] = p at *
      generalize outN xs ⟨lo, hi, key, n, a, b⟩ q = o at *
      repeat' (first | ((first | apply o_do | apply d_do | apply d_yes rfl rfl rfl); first | exact ls_indexAddr_sl tab_ok rfl rfl rfl rfl (by assumption) rfl | exact lsc (hS) | exact lsc (hA) | exact ls_append tab_ok rfl rfl rfl rfl (by first | exact SrcIs.sl | exact SrcIs.nil | exact SrcIs.own rfl rfl) rfl (by (try simp only [List.length_cons, List.length_nil]); omega) rfl rfl | exact lsq) | first | refine a_seq ?_ | refine a_region ?_ | refine o_nil ?_ | refine a_block ?_ | refine a_ret ?_ | refine a_exit ?_ | refine a_skip ?_ | refine a_draw mixed ?_ | refine d_nil (by kernel_rfl) ?_ | first | refine o_yes rfl rfl rfl ?_ | refine o_no rfl rfl rfl (by decide) ?_ | refine o_no' rfl rfl rfl ?_ | refine a_condT rfl ?_ | refine a_condF rfl ?_ | refine d_no rfl rfl rfl (by decide) ?_ | refine d_no' rfl rfl rfl ?_ | ((first | refine o_split_t rfl rfl rfl (fun hb => ?_) (fun hb => ?_) | refine o_split_f rfl rfl rfl (fun hb => ?_) (fun hb => ?_) | refine a_cond rfl (fun hb => ?_) (fun hb => ?_) | refine d_split rfl rfl (fun hb => ?_) (fun hb => ?_)) <;> (simp only [hb]; try simp only [decide_eq_true_eq, decide_eq_false_iff_not, Bool.not_eq_true', Bool.not_eq_false', Bool.not_eq_true, Bool.not_eq_false, ne_eq, Decidable.not_not] at hb; try (exfalso; first | omega | exact hb trivial))))
      refine ⟨⟨q + 1, by omega⟩, by dsimp only; omega, ?_⟩
      refine ⟨by repeat' (first | exact trivial | exact FinA.one (FinB.cell (FinC.same rfl)) | exact FinA.one (FinB.cell (FinC.v (by first | rfl | ((first | (simp only [hN]; rfl) | (simp only [hd2]; done)))))) | exact FinA.one (FinB.cell (FinC.ow rfl (by first | rfl | ((first | (simp only [hN]; rfl) | (simp only [hd2]; done)))))) | exact FinA.one (FinB.agg' rfl rfl) | refine ⟨⟨_, rfl, ?_⟩, ?_⟩), by repeat' (first | exact trivial | refine ⟨⟨_, rfl, by first | rfl | ((first | (simp only [hN]; rfl) | (simp only [hd2]; done)); done) | (simp [renO, *]; done)⟩, by first | rfl | assumption, ?_⟩), rfl⟩
  · obtain rfl : q = xs.length := by omega
    by_cases hat : atL xs ⟨lo, hi, key, n, a, b⟩ < xs.length
    · rw [if_pos hat] at hE
      rw [hE] at hol ⊢
      rw [decide_eq_true hat]
      have hol3 : (rs.map Pn.av).length = xs.length + 1 := by rw [List.length_map]; exact hlen
      by_cases hf : 2000 ≤ xs.length
      · rw [if_pos hf]
        repeat' (first | ((first | apply o_do | apply d_do | apply d_yes rfl rfl rfl); exact lsq) | first | refine a_seq ?_ | refine a_region ?_ | refine o_nil ?_ | refine a_block ?_ | refine a_ret ?_ | refine a_exit ?_ | refine a_skip ?_ | refine a_draw mixed ?_ | refine d_nil (by kernel_rfl) ?_ | first | refine o_yes rfl rfl rfl ?_ | refine o_no rfl rfl rfl (by decide) ?_ | refine o_no' rfl rfl rfl ?_ | refine a_condT rfl ?_ | refine a_condF rfl ?_ | refine d_no rfl rfl rfl (by decide) ?_ | refine d_no' rfl rfl rfl ?_ | ((first | refine o_split_t rfl rfl rfl (fun hb => ?_) (fun hb => ?_) | refine o_split_f rfl rfl rfl (fun hb => ?_) (fun hb => ?_) | refine a_cond rfl (fun hb => ?_) (fun hb => ?_) | refine d_split rfl rfl (fun hb => ?_) (fun hb => ?_)) <;> (simp only [hb]; try simp only [decide_eq_true_eq, decide_eq_false_iff_not, Bool.not_eq_true', Bool.not_eq_false', Bool.not_eq_true, Bool.not_eq_false, ne_eq, Decidable.not_not] at hb; try (exfalso; first | omega | exact hb trivial))))
        all_goals refine ⟨by first | exact .inr rfl | exact .inl rfl, _, rfl, ?_, by repeat' (first | exact trivial | refine ⟨⟨_, rfl, by first | rfl | (simp [renO, *]; done)⟩, by first | rfl | assumption, ?_⟩)⟩
        all_goals (first | refine FinA.tup ?_ | refine FinA.one ?_); repeat' (first | exact FinBs.nil | exact FinCs.nil | refine FinBs.cons ?_ ?_ | refine FinCs.cons ?_ ?_ | refine FinB.cell (FinC.v ?_) | refine FinB.cell (FinC.own rfl rfl rfl ?_) | exact FinB.cell FinC.nil | refine FinB.cell (FinC.sl ?_) | exact FinB.agg' rfl rfl | exact FinB.cell (FinC.same rfl) | refine FinB.agg ?_ | refine FinC.v ?_ | refine FinC.own rfl rfl rfl ?_ | exact FinC.nil | refine FinC.sl ?_ | exact FinC.same rfl); all_goals try rfl
      · rw [if_neg hf]
        repeat' (first | ((first | apply o_do | apply d_do | apply d_yes rfl rfl rfl); exact lsq) | first | refine a_seq ?_ | refine a_region ?_ | refine o_nil ?_ | refine a_block ?_ | refine a_ret ?_ | refine a_exit ?_ | refine a_skip ?_ | refine a_draw mixed ?_ | refine d_nil (by kernel_rfl) ?_ | first | refine o_yes rfl rfl rfl ?_ | refine o_no rfl rfl rfl (by decide) ?_ | refine o_no' rfl rfl rfl ?_ | refine a_condT rfl ?_ | refine a_condF rfl ?_ | refine d_no rfl rfl rfl (by decide) ?_ | refine d_no' rfl rfl rfl ?_ | ((first | refine o_split_t rfl rfl rfl (fun hb => ?_) (fun hb => ?_) | refine o_split_f rfl rfl rfl (fun hb => ?_) (fun hb => ?_) | refine a_cond rfl (fun hb => ?_) (fun hb => ?_) | refine d_split rfl rfl (fun hb => ?_) (fun hb => ?_)) <;> (simp only [hb]; try simp only [decide_eq_true_eq, decide_eq_false_iff_not, Bool.not_eq_true', Bool.not_eq_false', Bool.not_eq_true, Bool.not_eq_false, ne_eq, Decidable.not_not] at hb; try (exfalso; first | omega | exact hb trivial))))
        all_goals refine ⟨by first | exact .inr rfl | exact .inl rfl, _, rfl, ?_, by repeat' (first | exact trivial | refine ⟨⟨_, rfl, by first | rfl | (simp [renO, *]; done)⟩, by first | rfl | assumption, ?_⟩)⟩
        all_goals (first | refine FinA.tup ?_ | refine FinA.one ?_); repeat' (first | exact FinBs.nil | exact FinCs.nil | refine FinBs.cons ?_ ?_ | refine FinCs.cons ?_ ?_ | refine FinB.cell (FinC.v ?_) | refine FinB.cell (FinC.own rfl rfl rfl ?_) | exact FinB.cell FinC.nil | refine FinB.cell (FinC.sl ?_) | exact FinB.agg' rfl rfl | exact FinB.cell (FinC.same rfl) | refine FinB.agg ?_ | refine FinC.v ?_ | refine FinC.own rfl rfl rfl ?_ | exact FinC.nil | refine FinC.sl ?_ | exact FinC.same rfl); all_goals try rfl
    · rw [if_neg hat] at hE
      rw [decide_eq_false hat]
      have hol2 : ∀ y, ((outN xs ⟨lo, hi, key, n, a, b⟩ xs.length).map Pn.av ++ [y]).length = xs.length + 1 := by
        intro y
        rw [List.length_append, List.length_map]
        have := congrArg List.length hE
        rw [List.length_append] at this
        simp only [List.length_cons, List.length_nil] at this ⊢
        omega
      rw [← hE]
      generalize outN xs ⟨lo, hi, key, n, a, b⟩ xs.length = o at *
      by_cases hf : 2000 ≤ xs.length
      · rw [if_pos hf]
        repeat' (first | ((first | apply o_do | apply d_do | apply d_yes rfl rfl rfl); first | exact ls_append tab_ok rfl rfl rfl rfl (by first | exact SrcIs.sl | exact SrcIs.nil | exact SrcIs.own rfl rfl) rfl (by (try simp only [List.length_cons, List.length_nil]); omega) rfl rfl | exact lsq) | first | refine a_seq ?_ | refine a_region ?_ | refine o_nil ?_ | refine a_block ?_ | refine a_ret ?_ | refine a_exit ?_ | refine a_skip ?_ | refine a_draw mixed ?_ | refine d_nil (by kernel_rfl) ?_ | first | refine o_yes rfl rfl rfl ?_ | refine o_no rfl rfl rfl (by decide) ?_ | refine o_no' rfl rfl rfl ?_ | refine a_condT rfl ?_ | refine a_condF rfl ?_ | refine d_no rfl rfl rfl (by decide) ?_ | refine d_no' rfl rfl rfl ?_ | ((first | refine o_split_t rfl rfl rfl (fun hb => ?_) (fun hb => ?_) | refine o_split_f rfl rfl rfl (fun hb => ?_) (fun hb => ?_) | refine a_cond rfl (fun hb => ?_) (fun hb => ?_) | refine d_split rfl rfl (fun hb => ?_) (fun hb => ?_)) <;> (simp only [hb]; try simp only [decide_eq_true_eq, decide_eq_false_iff_not, Bool.not_eq_true', Bool.not_eq_false', Bool.not_eq_true, Bool.not_eq_false, ne_eq, Decidable.not_not] at hb; try (exfalso; first | omega | exact hb trivial))))
        · refine ⟨by first | exact .inr rfl | exact .inl rfl, _, rfl, ?_, by repeat' (first | exact trivial | refine ⟨⟨_, rfl, by first | rfl | (simp [renO, *]; done)⟩, by first | rfl | assumption, ?_⟩)⟩
          (first | refine FinA.tup ?_ | refine FinA.one ?_); repeat' (first | exact FinBs.nil | exact FinCs.nil | refine FinBs.cons ?_ ?_ | refine FinCs.cons ?_ ?_ | refine FinB.cell (FinC.v ?_) | refine FinB.cell (FinC.own rfl rfl rfl ?_) | exact FinB.cell FinC.nil | refine FinB.cell (FinC.sl ?_) | exact FinB.agg' rfl rfl | exact FinB.cell (FinC.same rfl) | refine FinB.agg ?_ | refine FinC.v ?_ | refine FinC.own rfl rfl rfl ?_ | exact FinC.nil | refine FinC.sl ?_ | exact FinC.same rfl); all_goals try rfl
        · exfalso; rw [hol2] at hb; omega
      · rw [if_neg hf]
        rw [show PR.av (o ++ [⟨lo, hi, key, n, a, b⟩], 0) = .tup [.sl 6 (o.map Pn.av ++ [Pn.av ⟨lo, hi, key, n, a, b⟩]), .v (.int .i64 0)] by simp [PR.av]]
        repeat' (first | ((first | apply o_do | apply d_do | apply d_yes rfl rfl rfl); first | exact ls_append tab_ok rfl rfl rfl rfl (by first | exact SrcIs.sl | exact SrcIs.nil | exact SrcIs.own rfl rfl) rfl (by (try simp only [List.length_cons, List.length_nil]); omega) rfl rfl | exact lsq) | first | refine a_seq ?_ | refine a_region ?_ | refine o_nil ?_ | refine a_block ?_ | refine a_ret ?_ | refine a_exit ?_ | refine a_skip ?_ | refine a_draw mixed ?_ | refine d_nil (by kernel_rfl) ?_ | first | refine o_yes rfl rfl rfl ?_ | refine o_no rfl rfl rfl (by decide) ?_ | refine o_no' rfl rfl rfl ?_ | refine a_condT rfl ?_ | refine a_condF rfl ?_ | refine d_no rfl rfl rfl (by decide) ?_ | refine d_no' rfl rfl rfl ?_ | ((first | refine o_split_t rfl rfl rfl (fun hb => ?_) (fun hb => ?_) | refine o_split_f rfl rfl rfl (fun hb => ?_) (fun hb => ?_) | refine a_cond rfl (fun hb => ?_) (fun hb => ?_) | refine d_split rfl rfl (fun hb => ?_) (fun hb => ?_)) <;> (simp only [hb]; try simp only [decide_eq_true_eq, decide_eq_false_iff_not, Bool.not_eq_true', Bool.not_eq_false', Bool.not_eq_true, Bool.not_eq_false, ne_eq, Decidable.not_not] at hb; try (exfalso; first | omega | exact hb trivial))))
        · exfalso; rw [hol2] at hb; omega
        · refine ⟨by first | exact .inr rfl | exact .inl rfl, _, rfl, ?_, by repeat' (first | exact trivial | refine ⟨⟨_, rfl, by first | rfl | (simp [renO, *]; done)⟩, by first | rfl | assumption, ?_⟩)⟩
          (first | refine FinA.tup ?_ | refine FinA.one ?_); repeat' (first | exact FinBs.nil | exact FinCs.nil | refine FinBs.cons ?_ ?_ | refine FinCs.cons ?_ ?_ | refine FinB.cell (FinC.v ?_) | refine FinB.cell (FinC.own rfl rfl rfl ?_) | exact FinB.cell FinC.nil | refine FinB.cell (FinC.sl ?_) | exact FinB.agg' rfl rfl | exact FinB.cell (FinC.same rfl) | refine FinB.agg ?_ | refine FinC.v ?_ | refine FinC.own rfl rfl rfl ?_ | exact FinC.nil | refine FinC.sl ?_ | exact FinC.same rfl); all_goals try rfl
end
end Go.Proofs.Ytimlkhbedhjehaa
