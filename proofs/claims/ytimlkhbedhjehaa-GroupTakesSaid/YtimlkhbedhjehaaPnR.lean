/-
  Panes, walked over abstract values: the document's way to put one more, where its like is.
-/
import Derived.Test.YtimlkhbedhjehaaPnQ
namespace Go.Proofs.Ytimlkhbedhjehaa
open Go.RowKit
set_option linter.unusedSimpArgs false
set_option linter.unusedVariables false
theorem set_take_lt {xs : List Pn} {at' q : Nat} (j : Pn) (h : q < xs.length) (hq : q ≠ at') : (xs.set at' j).take (q + 1) = (xs.set at' j).take q ++ [xs[q]] := by
  have h2 : q < (xs.set at' j).length := by rw [List.length_set]; exact h
  rw [take_snoc _ q h2, List.getElem_set_ne (by omega)]
theorem set_take_at {xs : List Pn} {q : Nat} (j : Pn) (h : q < xs.length) : (xs.set q j).take (q + 1) = (xs.set q j).take q ++ [j] := by
  have h2 : q < (xs.set q j).length := by rw [List.length_set]; exact h
  rw [take_snoc _ q h2, List.getElem_set_self]
section
variable (xs : List Pn) (k lo hi : Int) (key : ByteArray) (n a b : Int)
set_option maxHeartbeats 8000000 in
theorem w_join (hs : xs.Pairwise (fun p q => ahead p q = true)) (hx : xs.length ≤ 2000) (p0 : Pn) (h1 : isL xs ⟨lo, hi, key, n, a, b⟩ = true) (hp0 : xs[atL xs ⟨lo, hi, key, n, a, b⟩]? = some p0) (h2 : ¬ (joinP k p0 ⟨lo, hi, key, n, a, b⟩).n < 1) :
    PC Try.prog 91 [.sl 6 (xs.map Pn.av), .v (.int .i64 k), .agg [.v (.int .i64 lo), .v (.int .i64 hi), .v (.string key), .v (.int .i64 n), .v (.int .i64 a), .v (.int .i64 b)]] (PR.av (xs.set (atL xs ⟨lo, hi, key, n, a, b⟩) (joinP k p0 ⟨lo, hi, key, n, a, b⟩), 0)) := by
  have hat : atL xs ⟨lo, hi, key, n, a, b⟩ < xs.length := by
    rcases Nat.lt_or_ge (atL xs ⟨lo, hi, key, n, a, b⟩) xs.length with h | h
    · exact h
    · rw [List.getElem?_eq_none h] at hp0; cases hp0
  have hp1 : xs[atL xs ⟨lo, hi, key, n, a, b⟩] = p0 := by rw [List.getElem?_eq_getElem hat] at hp0; injection hp0
  have h3 : ¬ (fJoin k ⟨p0.n, p0.a, p0.b⟩ ⟨n, a, b⟩).n < 1 := h2
  have hsl : (xs.set (atL xs ⟨lo, hi, key, n, a, b⟩) (joinP k p0 ⟨lo, hi, key, n, a, b⟩)).length = xs.length := by rw [List.length_set]
  generalize hj : joinP k p0 ⟨lo, hi, key, n, a, b⟩ = j at *
  have hjv : Pn.av j = [.v (.int .i64 p0.lo), .v (.int .i64 p0.hi), .v (.string p0.key), .v (.int .i64 (fJoin k ⟨p0.n, p0.a, p0.b⟩ ⟨n, a, b⟩).n), .v (.int .i64 (fJoin k ⟨p0.n, p0.a, p0.b⟩ ⟨n, a, b⟩).a), .v (.int .i64 (fJoin k ⟨p0.n, p0.a, p0.b⟩ ⟨n, a, b⟩).b)] := by rw [← hj]; rfl
  refine PC.mk (ac_body tab_ok Try.func91 rfl (by kernel_rfl) rfl ?_); intro w0 M μ0; simp only [Try.ntmps91, List.length_cons, List.length_nil, Nat.reduceAdd, Nat.reduceSub, numb]
  repeat' (first | ((first | apply o_do | apply d_do | apply d_yes rfl rfl rfl); exact lsq) | first | refine a_seq ?_ | refine a_region ?_ | refine o_nil ?_ | refine a_block ?_ | refine a_ret ?_ | refine a_exit ?_ | refine a_skip ?_ | refine a_draw mixed ?_ | refine d_nil (by kernel_rfl) ?_ | first | refine o_yes rfl rfl rfl ?_ | refine o_no rfl rfl rfl (by decide) ?_ | refine o_no' rfl rfl rfl ?_ | refine a_condT rfl ?_ | refine a_condF rfl ?_ | refine d_no rfl rfl rfl (by decide) ?_ | refine d_no' rfl rfl rfl ?_ | ((first | refine o_split_t rfl rfl rfl (fun hb => ?_) (fun hb => ?_) | refine o_split_f rfl rfl rfl (fun hb => ?_) (fun hb => ?_) | refine a_cond rfl (fun hb => ?_) (fun hb => ?_) | refine d_split rfl rfl (fun hb => ?_) (fun hb => ?_)) <;> (simp only [hb]; try simp only [decide_eq_true_eq, decide_eq_false_iff_not, Bool.not_eq_true', Bool.not_eq_false', Bool.not_eq_true, Bool.not_eq_false, ne_eq, Decidable.not_not] at hb; try (exfalso; first | omega | exact hb trivial))))
  refine a_loop (X := {q : Nat // q ≤ xs.length}) (fun x => ⟨[(0, .sl 6 (xs.map Pn.av)), (1, .v (.int .i64 k)), (5, .ref 0 0), (8, .own 1 (((xs.set (atL xs ⟨lo, hi, key, n, a, b⟩) j).take x.1).map Pn.av).length), (9, .v (.bool (decide (atL xs ⟨lo, hi, key, n, a, b⟩ < x.1)))), (13, .sl 6 (xs.map Pn.av)), (14, .v (.int .i64 xs.length)), (15, .v (.int .i64 x.1))], [(0, .box 41 [.v (.int .i64 lo), .v (.int .i64 hi), .v (.string key), .v (.int .i64 n), .v (.int .i64 a), .v (.int .i64 b)]), (1, .row 41 6 (((xs.set (atL xs ⟨lo, hi, key, n, a, b⟩) j).take x.1).map Pn.av))]⟩) (fun x => xs.length - x.1) ⟨0, Nat.zero_le _⟩ ?_ ?_
  · refine ⟨by repeat' (first | exact trivial | exact FinA.one (FinB.cell (FinC.same rfl)) | exact FinA.one (FinB.cell (FinC.v (by first | rfl | (simp)))) | exact FinA.one (FinB.cell (FinC.ow rfl (by first | rfl | (simp)))) | exact FinA.one (FinB.agg' rfl rfl) | refine ⟨⟨_, rfl, ?_⟩, ?_⟩), by repeat' (first | exact trivial | refine ⟨⟨_, rfl, by first | rfl | (simp; done) | (simp [renO, *]; done)⟩, by first | rfl | assumption, ?_⟩), rfl⟩
  rintro ⟨q, hq⟩
  dsimp only
  have hol : (((xs.set (atL xs ⟨lo, hi, key, n, a, b⟩) j).take q).map Pn.av).length ≤ 2000 := by rw [List.length_map, List.length_take]; omega
  by_cases hlt : q < xs.length
  · have hel : (xs.map Pn.av)[q]? = some (Pn.av xs[q]) := by simp [hlt]
    have hS := p_same xs[q].lo xs[q].hi xs[q].key xs[q].n xs[q].a xs[q].b lo hi key n a b
    have hA := p_rAhead lo hi key n a b xs[q].lo xs[q].hi xs[q].key xs[q].n xs[q].a xs[q].b
    rcases Nat.lt_trichotomy q (atL xs ⟨lo, hi, key, n, a, b⟩) with h | h | h
    · obtain ⟨g1, g2⟩ := at_lt (x := ⟨lo, hi, key, n, a, b⟩) hs hlt h
      have hN := congrArg (List.map Pn.av) (set_take_lt j hlt (show q ≠ atL xs ⟨lo, hi, key, n, a, b⟩ by omega))
      rw [List.map_append] at hN
      rw [show decide (sameP ⟨xs[q].lo, xs[q].hi, xs[q].key, xs[q].n, xs[q].a, xs[q].b⟩ ⟨lo, hi, key, n, a, b⟩) = false from decide_eq_false g2] at hS
      rw [show ahead ⟨lo, hi, key, n, a, b⟩ ⟨xs[q].lo, xs[q].hi, xs[q].key, xs[q].n, xs[q].a, xs[q].b⟩ = false from g1] at hA
      have hd1 : decide (atL xs ⟨lo, hi, key, n, a, b⟩ < q) = false := by simp; omega
      have hd2 : decide (atL xs ⟨lo, hi, key, n, a, b⟩ < q + 1) = false := by simp; omega
      rw [hd1]
      generalize xs[q] = p at *
      generalize (xs.set (atL xs ⟨lo, hi, key, n, a, b⟩) j).take q = o at *
      repeat' (first | ((first | apply o_do | apply d_do | apply d_yes rfl rfl rfl); first | exact ls_indexAddr_sl tab_ok rfl rfl rfl rfl (by assumption) rfl | exact lsc (hS) | exact lsc (hA) | exact ls_append tab_ok rfl rfl rfl rfl (by first | exact SrcIs.sl | exact SrcIs.nil | exact SrcIs.own rfl rfl) rfl (by (try simp only [List.length_cons, List.length_nil]); omega) rfl rfl | exact lsq) | first | refine a_seq ?_ | refine a_region ?_ | refine o_nil ?_ | refine a_block ?_ | refine a_ret ?_ | refine a_exit ?_ | refine a_skip ?_ | refine a_draw mixed ?_ | refine d_nil (by kernel_rfl) ?_ | first | refine o_yes rfl rfl rfl ?_ | refine o_no rfl rfl rfl (by decide) ?_ | refine o_no' rfl rfl rfl ?_ | refine a_condT rfl ?_ | refine a_condF rfl ?_ | refine d_no rfl rfl rfl (by decide) ?_ | refine d_no' rfl rfl rfl ?_ | ((first | refine o_split_t rfl rfl rfl (fun hb => ?_) (fun hb => ?_) | refine o_split_f rfl rfl rfl (fun hb => ?_) (fun hb => ?_) | refine a_cond rfl (fun hb => ?_) (fun hb => ?_) | refine d_split rfl rfl (fun hb => ?_) (fun hb => ?_)) <;> (simp only [hb]; try simp only [decide_eq_true_eq, decide_eq_false_iff_not, Bool.not_eq_true', Bool.not_eq_false', Bool.not_eq_true, Bool.not_eq_false, ne_eq, Decidable.not_not] at hb; try (exfalso; first | omega | exact hb trivial))))
      refine ⟨⟨q + 1, by omega⟩, by dsimp only; omega, ?_⟩
      refine ⟨by repeat' (first | exact trivial | exact FinA.one (FinB.cell (FinC.same rfl)) | exact FinA.one (FinB.cell (FinC.v (by first | rfl | ((first | (simp only [hN]; rfl) | (simp only [hd2]; done)))))) | exact FinA.one (FinB.cell (FinC.ow rfl (by first | rfl | ((first | (simp only [hN]; rfl) | (simp only [hd2]; done)))))) | exact FinA.one (FinB.agg' rfl rfl) | refine ⟨⟨_, rfl, ?_⟩, ?_⟩), by repeat' (first | exact trivial | refine ⟨⟨_, rfl, by first | rfl | ((first | (simp only [hN]; rfl) | (simp only [hd2]; done)); done) | (simp [renO, *]; done)⟩, by first | rfl | assumption, ?_⟩), rfl⟩
    · have g2 := at_is (x := ⟨lo, hi, key, n, a, b⟩) hlt h h1
      subst h
      have hN := congrArg (List.map Pn.av) (set_take_at j hlt)
      rw [List.map_append, show List.map Pn.av [j] = [Pn.av j] from rfl, hjv] at hN
      rw [hp1] at hel hS hA g2
      rw [show decide (sameP ⟨p0.lo, p0.hi, p0.key, p0.n, p0.a, p0.b⟩ ⟨lo, hi, key, n, a, b⟩) = true from decide_eq_true g2] at hS
      have hd1 : decide (atL xs ⟨lo, hi, key, n, a, b⟩ < atL xs ⟨lo, hi, key, n, a, b⟩) = false := by simp
      have hd2 : decide (atL xs ⟨lo, hi, key, n, a, b⟩ < atL xs ⟨lo, hi, key, n, a, b⟩ + 1) = true := by simp
      rw [hd1]
      generalize (xs.set (atL xs ⟨lo, hi, key, n, a, b⟩) j).take (atL xs ⟨lo, hi, key, n, a, b⟩) = o at *
      have hJ := p_rJoin k p0.n p0.a p0.b n a b
      repeat' (first | ((first | apply o_do | apply d_do | apply d_yes rfl rfl rfl); first | exact ls_indexAddr_sl tab_ok rfl rfl rfl rfl (by assumption) rfl | exact lsc (hS) | exact lsc (hA) | exact lsc (hJ) | exact ls_append tab_ok rfl rfl rfl rfl (by first | exact SrcIs.sl | exact SrcIs.nil | exact SrcIs.own rfl rfl) rfl (by (try simp only [List.length_cons, List.length_nil]); omega) rfl rfl | exact lsq) | first | refine a_seq ?_ | refine a_region ?_ | refine o_nil ?_ | refine a_block ?_ | refine a_ret ?_ | refine a_exit ?_ | refine a_skip ?_ | refine a_draw mixed ?_ | refine d_nil (by kernel_rfl) ?_ | first | refine o_yes rfl rfl rfl ?_ | refine o_no rfl rfl rfl (by decide) ?_ | refine o_no' rfl rfl rfl ?_ | refine a_condT rfl ?_ | refine a_condF rfl ?_ | refine d_no rfl rfl rfl (by decide) ?_ | refine d_no' rfl rfl rfl ?_ | ((first | refine o_split_t rfl rfl rfl (fun hb => ?_) (fun hb => ?_) | refine o_split_f rfl rfl rfl (fun hb => ?_) (fun hb => ?_) | refine a_cond rfl (fun hb => ?_) (fun hb => ?_) | refine d_split rfl rfl (fun hb => ?_) (fun hb => ?_)) <;> (simp only [hb]; try simp only [decide_eq_true_eq, decide_eq_false_iff_not, Bool.not_eq_true', Bool.not_eq_false', Bool.not_eq_true, Bool.not_eq_false, ne_eq, Decidable.not_not] at hb; try (exfalso; first | omega | exact hb trivial))))
      refine ⟨⟨atL xs ⟨lo, hi, key, n, a, b⟩ + 1, by omega⟩, by dsimp only; omega, ?_⟩
      refine ⟨by repeat' (first | exact trivial | exact FinA.one (FinB.cell (FinC.same rfl)) | exact FinA.one (FinB.cell (FinC.v (by first | rfl | ((first | (simp only [hN]; rfl) | (simp only [hd2]; done)))))) | exact FinA.one (FinB.cell (FinC.ow rfl (by first | rfl | ((first | (simp only [hN]; rfl) | (simp only [hd2]; done)))))) | exact FinA.one (FinB.agg' rfl rfl) | refine ⟨⟨_, rfl, ?_⟩, ?_⟩), by repeat' (first | exact trivial | refine ⟨⟨_, rfl, by first | rfl | ((first | (simp only [hN]; rfl) | (simp only [hd2]; done)); done) | (simp [renO, *]; done)⟩, by first | rfl | assumption, ?_⟩), rfl⟩
    · have g2 := at_gt (x := ⟨lo, hi, key, n, a, b⟩) hs hlt h
      have hN := congrArg (List.map Pn.av) (set_take_lt j hlt (show q ≠ atL xs ⟨lo, hi, key, n, a, b⟩ by omega))
      rw [List.map_append] at hN
      rw [show decide (sameP ⟨xs[q].lo, xs[q].hi, xs[q].key, xs[q].n, xs[q].a, xs[q].b⟩ ⟨lo, hi, key, n, a, b⟩) = false from decide_eq_false g2] at hS
      have hd1 : decide (atL xs ⟨lo, hi, key, n, a, b⟩ < q) = true := by simp; omega
      have hd2 : decide (atL xs ⟨lo, hi, key, n, a, b⟩ < q + 1) = true := by simp; omega
      rw [hd1]
      generalize xs[q] = p at *
      generalize (xs.set (atL xs ⟨lo, hi, key, n, a, b⟩) j).take q = o at *
      repeat' (first | ((first | apply o_do | apply d_do | apply d_yes rfl rfl rfl); first | exact ls_indexAddr_sl tab_ok rfl rfl rfl rfl (by assumption) rfl | exact lsc (hS) | exact lsc (hA) | exact ls_append tab_ok rfl rfl rfl rfl (by first | exact SrcIs.sl | exact SrcIs.nil | exact SrcIs.own rfl rfl) rfl (by (try simp only [List.length_cons, List.length_nil]); omega) rfl rfl | exact lsq) | first | refine a_seq ?_ | refine a_region ?_ | refine o_nil ?_ | refine a_block ?_ | refine a_ret ?_ | refine a_exit ?_ | refine a_skip ?_ | refine a_draw mixed ?_ | refine d_nil (by kernel_rfl) ?_ | first | refine o_yes rfl rfl rfl ?_ | refine o_no rfl rfl rfl (by decide) ?_ | refine o_no' rfl rfl rfl ?_ | refine a_condT rfl ?_ | refine a_condF rfl ?_ | refine d_no rfl rfl rfl (by decide) ?_ | refine d_no' rfl rfl rfl ?_ | ((first | refine o_split_t rfl rfl rfl (fun hb => ?_) (fun hb => ?_) | refine o_split_f rfl rfl rfl (fun hb => ?_) (fun hb => ?_) | refine a_cond rfl (fun hb => ?_) (fun hb => ?_) | refine d_split rfl rfl (fun hb => ?_) (fun hb => ?_)) <;> (simp only [hb]; try simp only [decide_eq_true_eq, decide_eq_false_iff_not, Bool.not_eq_true', Bool.not_eq_false', Bool.not_eq_true, Bool.not_eq_false, ne_eq, Decidable.not_not] at hb; try (exfalso; first | omega | exact hb trivial))))
      refine ⟨⟨q + 1, by omega⟩, by dsimp only; omega, ?_⟩
      refine ⟨by repeat' (first | exact trivial | exact FinA.one (FinB.cell (FinC.same rfl)) | exact FinA.one (FinB.cell (FinC.v (by first | rfl | ((first | (simp only [hN]; rfl) | (simp only [hd2]; done)))))) | exact FinA.one (FinB.cell (FinC.ow rfl (by first | rfl | ((first | (simp only [hN]; rfl) | (simp only [hd2]; done)))))) | exact FinA.one (FinB.agg' rfl rfl) | refine ⟨⟨_, rfl, ?_⟩, ?_⟩), by repeat' (first | exact trivial | refine ⟨⟨_, rfl, by first | rfl | ((first | (simp only [hN]; rfl) | (simp only [hd2]; done)); done) | (simp [renO, *]; done)⟩, by first | rfl | assumption, ?_⟩), rfl⟩
  · obtain rfl : q = xs.length := by omega
    rw [decide_eq_true hat]
    rw [List.take_of_length_le (by omega)] at hol ⊢
    repeat' (first | ((first | apply o_do | apply d_do | apply d_yes rfl rfl rfl); exact lsq) | first | refine a_seq ?_ | refine a_region ?_ | refine o_nil ?_ | refine a_block ?_ | refine a_ret ?_ | refine a_exit ?_ | refine a_skip ?_ | refine a_draw mixed ?_ | refine d_nil (by kernel_rfl) ?_ | first | refine o_yes rfl rfl rfl ?_ | refine o_no rfl rfl rfl (by decide) ?_ | refine o_no' rfl rfl rfl ?_ | refine a_condT rfl ?_ | refine a_condF rfl ?_ | refine d_no rfl rfl rfl (by decide) ?_ | refine d_no' rfl rfl rfl ?_ | ((first | refine o_split_t rfl rfl rfl (fun hb => ?_) (fun hb => ?_) | refine o_split_f rfl rfl rfl (fun hb => ?_) (fun hb => ?_) | refine a_cond rfl (fun hb => ?_) (fun hb => ?_) | refine d_split rfl rfl (fun hb => ?_) (fun hb => ?_)) <;> (simp only [hb]; try simp only [decide_eq_true_eq, decide_eq_false_iff_not, Bool.not_eq_true', Bool.not_eq_false', Bool.not_eq_true, Bool.not_eq_false, ne_eq, Decidable.not_not] at hb; try (exfalso; first | omega | exact hb trivial))))
    all_goals refine ⟨by first | exact .inr rfl | exact .inl rfl, _, rfl, ?_, by repeat' (first | exact trivial | refine ⟨⟨_, rfl, by first | rfl | (simp [renO, *]; done)⟩, by first | rfl | assumption, ?_⟩)⟩
    all_goals (first | refine FinA.tup ?_ | refine FinA.one ?_); repeat' (first | exact FinBs.nil | exact FinCs.nil | refine FinBs.cons ?_ ?_ | refine FinCs.cons ?_ ?_ | refine FinB.cell (FinC.v ?_) | refine FinB.cell (FinC.own rfl rfl rfl ?_) | exact FinB.cell FinC.nil | refine FinB.cell (FinC.sl ?_) | exact FinB.agg' rfl rfl | exact FinB.cell (FinC.same rfl) | refine FinB.agg ?_ | refine FinC.v ?_ | refine FinC.own rfl rfl rfl ?_ | exact FinC.nil | refine FinC.sl ?_ | exact FinC.same rfl); all_goals try rfl
set_option maxHeartbeats 8000000 in
theorem w_over (hs : xs.Pairwise (fun p q => ahead p q = true)) (hx : xs.length ≤ 2000) (p0 : Pn) (h1 : isL xs ⟨lo, hi, key, n, a, b⟩ = true) (hp0 : xs[atL xs ⟨lo, hi, key, n, a, b⟩]? = some p0) (h2 : (joinP k p0 ⟨lo, hi, key, n, a, b⟩).n < 1) :
    PC Try.prog 91 [.sl 6 (xs.map Pn.av), .v (.int .i64 k), .agg [.v (.int .i64 lo), .v (.int .i64 hi), .v (.string key), .v (.int .i64 n), .v (.int .i64 a), .v (.int .i64 b)]] (PR.av ([], 3)) := by
  have hat : atL xs ⟨lo, hi, key, n, a, b⟩ < xs.length := by
    rcases Nat.lt_or_ge (atL xs ⟨lo, hi, key, n, a, b⟩) xs.length with h | h
    · exact h
    · rw [List.getElem?_eq_none h] at hp0; cases hp0
  have hp1 : xs[atL xs ⟨lo, hi, key, n, a, b⟩] = p0 := by rw [List.getElem?_eq_getElem hat] at hp0; injection hp0
  have h3 : (fJoin k ⟨p0.n, p0.a, p0.b⟩ ⟨n, a, b⟩).n < 1 := h2
  refine PC.mk (ac_body tab_ok Try.func91 rfl (by kernel_rfl) rfl ?_); intro w0 M μ0; simp only [Try.ntmps91, List.length_cons, List.length_nil, Nat.reduceAdd, Nat.reduceSub, numb]
  repeat' (first | ((first | apply o_do | apply d_do | apply d_yes rfl rfl rfl); exact lsq) | first | refine a_seq ?_ | refine a_region ?_ | refine o_nil ?_ | refine a_block ?_ | refine a_ret ?_ | refine a_exit ?_ | refine a_skip ?_ | refine a_draw mixed ?_ | refine d_nil (by kernel_rfl) ?_ | first | refine o_yes rfl rfl rfl ?_ | refine o_no rfl rfl rfl (by decide) ?_ | refine o_no' rfl rfl rfl ?_ | refine a_condT rfl ?_ | refine a_condF rfl ?_ | refine d_no rfl rfl rfl (by decide) ?_ | refine d_no' rfl rfl rfl ?_ | ((first | refine o_split_t rfl rfl rfl (fun hb => ?_) (fun hb => ?_) | refine o_split_f rfl rfl rfl (fun hb => ?_) (fun hb => ?_) | refine a_cond rfl (fun hb => ?_) (fun hb => ?_) | refine d_split rfl rfl (fun hb => ?_) (fun hb => ?_)) <;> (simp only [hb]; try simp only [decide_eq_true_eq, decide_eq_false_iff_not, Bool.not_eq_true', Bool.not_eq_false', Bool.not_eq_true, Bool.not_eq_false, ne_eq, Decidable.not_not] at hb; try (exfalso; first | omega | exact hb trivial))))
  refine a_loop (X := {q : Nat // q ≤ atL xs ⟨lo, hi, key, n, a, b⟩}) (fun x => ⟨[(0, .sl 6 (xs.map Pn.av)), (1, .v (.int .i64 k)), (5, .ref 0 0), (8, .own 1 ((xs.take x.1).map Pn.av).length), (9, .v (.bool false)), (13, .sl 6 (xs.map Pn.av)), (14, .v (.int .i64 xs.length)), (15, .v (.int .i64 x.1))], [(0, .box 41 [.v (.int .i64 lo), .v (.int .i64 hi), .v (.string key), .v (.int .i64 n), .v (.int .i64 a), .v (.int .i64 b)]), (1, .row 41 6 ((xs.take x.1).map Pn.av))]⟩) (fun x => xs.length - x.1) ⟨0, Nat.zero_le _⟩ ?_ ?_
  · refine ⟨by repeat' (first | exact trivial | exact FinA.one (FinB.cell (FinC.same rfl)) | exact FinA.one (FinB.cell (FinC.v (by first | rfl | (simp)))) | exact FinA.one (FinB.cell (FinC.ow rfl (by first | rfl | (simp)))) | exact FinA.one (FinB.agg' rfl rfl) | refine ⟨⟨_, rfl, ?_⟩, ?_⟩), by repeat' (first | exact trivial | refine ⟨⟨_, rfl, by first | rfl | (simp; done) | (simp [renO, *]; done)⟩, by first | rfl | assumption, ?_⟩), rfl⟩
  rintro ⟨q, hq⟩
  dsimp only
  have hol : ((xs.take q).map Pn.av).length ≤ 2000 := by rw [List.length_map, List.length_take]; omega
  have hlt : q < xs.length := by omega
  have hel : (xs.map Pn.av)[q]? = some (Pn.av xs[q]) := by simp [hlt]
  have hS := p_same xs[q].lo xs[q].hi xs[q].key xs[q].n xs[q].a xs[q].b lo hi key n a b
  have hA := p_rAhead lo hi key n a b xs[q].lo xs[q].hi xs[q].key xs[q].n xs[q].a xs[q].b
  rcases Nat.lt_or_eq_of_le hq with h | h
  · obtain ⟨g1, g2⟩ := at_lt (x := ⟨lo, hi, key, n, a, b⟩) hs hlt h
    have hN := congrArg (List.map Pn.av) (take_snoc xs q hlt)
    rw [List.map_append] at hN
    rw [show decide (sameP ⟨xs[q].lo, xs[q].hi, xs[q].key, xs[q].n, xs[q].a, xs[q].b⟩ ⟨lo, hi, key, n, a, b⟩) = false from decide_eq_false g2] at hS
    rw [show ahead ⟨lo, hi, key, n, a, b⟩ ⟨xs[q].lo, xs[q].hi, xs[q].key, xs[q].n, xs[q].a, xs[q].b⟩ = false from g1] at hA
    generalize xs[q] = p at *
    generalize xs.take q = o at *
    repeat' (first | ((first | apply o_do | apply d_do | apply d_yes rfl rfl rfl); first | exact ls_indexAddr_sl tab_ok rfl rfl rfl rfl (by assumption) rfl | exact lsc (hS) | exact lsc (hA) | exact ls_append tab_ok rfl rfl rfl rfl (by first | exact SrcIs.sl | exact SrcIs.nil | exact SrcIs.own rfl rfl) rfl (by (try simp only [List.length_cons, List.length_nil]); omega) rfl rfl | exact lsq) | first | refine a_seq ?_ | refine a_region ?_ | refine o_nil ?_ | refine a_block ?_ | refine a_ret ?_ | refine a_exit ?_ | refine a_skip ?_ | refine a_draw mixed ?_ | refine d_nil (by kernel_rfl) ?_ | first | refine o_yes rfl rfl rfl ?_ | refine o_no rfl rfl rfl (by decide) ?_ | refine o_no' rfl rfl rfl ?_ | refine a_condT rfl ?_ | refine a_condF rfl ?_ | refine d_no rfl rfl rfl (by decide) ?_ | refine d_no' rfl rfl rfl ?_ | ((first | refine o_split_t rfl rfl rfl (fun hb => ?_) (fun hb => ?_) | refine o_split_f rfl rfl rfl (fun hb => ?_) (fun hb => ?_) | refine a_cond rfl (fun hb => ?_) (fun hb => ?_) | refine d_split rfl rfl (fun hb => ?_) (fun hb => ?_)) <;> (simp only [hb]; try simp only [decide_eq_true_eq, decide_eq_false_iff_not, Bool.not_eq_true', Bool.not_eq_false', Bool.not_eq_true, Bool.not_eq_false, ne_eq, Decidable.not_not] at hb; try (exfalso; first | omega | exact hb trivial))))
    refine ⟨⟨q + 1, by omega⟩, by dsimp only; omega, ?_⟩
    refine ⟨by repeat' (first | exact trivial | exact FinA.one (FinB.cell (FinC.same rfl)) | exact FinA.one (FinB.cell (FinC.v (by first | rfl | ((simp only [hN]; rfl))))) | exact FinA.one (FinB.cell (FinC.ow rfl (by first | rfl | ((simp only [hN]; rfl))))) | exact FinA.one (FinB.agg' rfl rfl) | refine ⟨⟨_, rfl, ?_⟩, ?_⟩), by repeat' (first | exact trivial | refine ⟨⟨_, rfl, by first | rfl | ((simp only [hN]; rfl); done) | (simp [renO, *]; done)⟩, by first | rfl | assumption, ?_⟩), rfl⟩
  · have g2 := at_is (x := ⟨lo, hi, key, n, a, b⟩) hlt h h1
    have hp2 : xs[q] = p0 := by rw [← hp1]; congr 1
    rw [hp2] at hel hS hA g2
    rw [show decide (sameP ⟨p0.lo, p0.hi, p0.key, p0.n, p0.a, p0.b⟩ ⟨lo, hi, key, n, a, b⟩) = true from decide_eq_true g2] at hS
    have hJ := p_rJoin k p0.n p0.a p0.b n a b
    repeat' (first | ((first | apply o_do | apply d_do | apply d_yes rfl rfl rfl); first | exact ls_indexAddr_sl tab_ok rfl rfl rfl rfl (by assumption) rfl | exact lsc (hS) | exact lsc (hA) | exact lsc (hJ) | exact ls_append tab_ok rfl rfl rfl rfl (by first | exact SrcIs.sl | exact SrcIs.nil | exact SrcIs.own rfl rfl) rfl (by (try simp only [List.length_cons, List.length_nil]); omega) rfl rfl | exact lsq) | first | refine a_seq ?_ | refine a_region ?_ | refine o_nil ?_ | refine a_block ?_ | refine a_ret ?_ | refine a_exit ?_ | refine a_skip ?_ | refine a_draw mixed ?_ | refine d_nil (by kernel_rfl) ?_ | first | refine o_yes rfl rfl rfl ?_ | refine o_no rfl rfl rfl (by decide) ?_ | refine o_no' rfl rfl rfl ?_ | refine a_condT rfl ?_ | refine a_condF rfl ?_ | refine d_no rfl rfl rfl (by decide) ?_ | refine d_no' rfl rfl rfl ?_ | ((first | refine o_split_t rfl rfl rfl (fun hb => ?_) (fun hb => ?_) | refine o_split_f rfl rfl rfl (fun hb => ?_) (fun hb => ?_) | refine a_cond rfl (fun hb => ?_) (fun hb => ?_) | refine d_split rfl rfl (fun hb => ?_) (fun hb => ?_)) <;> (simp only [hb]; try simp only [decide_eq_true_eq, decide_eq_false_iff_not, Bool.not_eq_true', Bool.not_eq_false', Bool.not_eq_true, Bool.not_eq_false, ne_eq, Decidable.not_not] at hb; try (exfalso; first | omega | exact hb trivial))))
    all_goals refine ⟨by first | exact .inr rfl | exact .inl rfl, _, rfl, ?_, by repeat' (first | exact trivial | refine ⟨⟨_, rfl, by first | rfl | (simp [renO, *]; done)⟩, by first | rfl | assumption, ?_⟩)⟩
    all_goals (first | refine FinA.tup ?_ | refine FinA.one ?_); repeat' (first | exact FinBs.nil | exact FinCs.nil | refine FinBs.cons ?_ ?_ | refine FinCs.cons ?_ ?_ | refine FinB.cell (FinC.v ?_) | refine FinB.cell (FinC.own rfl rfl rfl ?_) | exact FinB.cell FinC.nil | refine FinB.cell (FinC.sl ?_) | exact FinB.agg' rfl rfl | exact FinB.cell (FinC.same rfl) | refine FinB.agg ?_ | refine FinC.v ?_ | refine FinC.own rfl rfl rfl ?_ | exact FinC.nil | refine FinC.sl ?_ | exact FinC.same rfl); all_goals try rfl
theorem p_With (hx : rightL xs = true) :
    PC Try.prog 91 [.sl 6 (xs.map Pn.av), .v (.int .i64 k), .agg [.v (.int .i64 lo), .v (.int .i64 hi), .v (.string key), .v (.int .i64 n), .v (.int .i64 a), .v (.int .i64 b)]] (PR.av (putR k xs ⟨lo, hi, key, n, a, b⟩)) := by
  obtain ⟨r1, r2, r3⟩ := rightL_ok hx
  cases hI : isL xs ⟨lo, hi, key, n, a, b⟩
  · exact w_new xs k lo hi key n a b r3 r1 hI
  · obtain ⟨p, hp, _⟩ := isL_some hI
    by_cases hover : (joinP k p ⟨lo, hi, key, n, a, b⟩).n < 1
    · rw [show putR k xs ⟨lo, hi, key, n, a, b⟩ = ([], 3) by simp [putR, putL, hI, hp, hover]]
      exact w_over xs k lo hi key n a b r3 r1 p hI hp hover
    · rw [show putR k xs ⟨lo, hi, key, n, a, b⟩ = (xs.set (atL xs ⟨lo, hi, key, n, a, b⟩) (joinP k p ⟨lo, hi, key, n, a, b⟩), 0) by simp [putR, putL, hI, hp, hover]]
      exact w_join xs k lo hi key n a b r3 r1 p hI hp hover
end
end Go.Proofs.Ytimlkhbedhjehaa
