/-
  The document's fold of many values, and its values of a key in a window, walked over abstract values.
  The document's run of a job and inputs, walked over abstract values.
  The law of what must come out, walked over abstract values.
-/
import Derived.Test.YtimlkhbedhjehaaMdP
import Derived.Test.YtimlkhbedhjehaaPnP
import Derived.Test.YtimlkhbedhjehaaMdN
namespace Go.Proofs.Ytimlkhbedhjehaa
open Go.RowKit
set_option linter.unusedSimpArgs false
set_option linter.unusedVariables false
def ivl (v : Int) : List AV := [.v (.int .i64 v)]
theorem fAllV_n {k : Int} (hk : fRight k = true) : ∀ vs : List Int, vs.length ≤ 1000000 → (fAllV k vs).n = vs.length := by
  intro vs
  refine snoc_ind (p := fun vs => vs.length ≤ 1000000 → (fAllV k vs).n = vs.length) (fun _ => rfl) ?_ vs
  intro vs v ih hl
  rw [List.length_append, List.length_cons, List.length_nil] at hl
  have ih := ih (by omega)
  rw [fAllV_snoc]
  cases vs with
  | nil => rw [show fAllV k [] = ⟨0, 0, 0⟩ from rfl, fJoin_zero hk, fOne_n hk]; rfl
  | cons x xs =>
    rw [fJoin_full hk (by rw [ih]; simp; omega) (by rw [fOne_n hk]; omega)]
    dsimp only
    rw [ih, fOne_n hk]
    have : (((x :: xs).length : Int) + 1) ≤ 1000001 := by omega
    simp [wrap64] at *
    omega
theorem fAllV_ab {k : Int} (hk : fRight k = true) : ∀ vs : List Int, (k ≠ 5 → (fAllV k vs).b = 0) ∧ (k = 1 → (fAllV k vs).a = 0) := by
  intro vs
  refine snoc_ind (p := fun vs => (k ≠ 5 → (fAllV k vs).b = 0) ∧ (k = 1 → (fAllV k vs).a = 0)) ⟨fun _ => rfl, fun _ => rfl⟩ ?_ vs
  intro vs v ih
  rw [fAllV_snoc]
  obtain ⟨n, a, b⟩ := fAllV k vs
  rcases right_cases hk with rfl | rfl | rfl | rfl | rfl
  all_goals
    by_cases hn : n = 0
    · subst hn
      simp [fJoin, fRight, fOne]
    · rw [fJoin_full hk hn (by rw [fOne_n hk]; omega)]
      simp [joinA, joinB]
theorem acc_next {k n a b v : Int} (hk : fRight k = true) (h1 : 1 ≤ n) (h2 : n ≤ 1000000) : fJoin k ⟨n, a, b⟩ (fOne k v) = ⟨n + 1, joinA k a (fOne k v).a, joinB k b (fOne k v).b⟩ := by
  rw [fJoin_full hk (by dsimp only; omega) (by rw [fOne_n hk]; omega)]
  rw [fOne_n hk]
  have : wrap64 (n + 1) = n + 1 := by unfold wrap64; omega
  rw [this]
section
variable (xs : List Int)
set_option maxHeartbeats 8000000 in
theorem p_rAllN (k : Int) (hk : fRight k = true) (hv : ∀ v ∈ xs, -9223372036854775808 ≤ v ∧ v ≤ 9223372036854775807) (hl : xs.length ≤ 1000000) :
    PC Try.prog 88 [.v (.int .i64 k), .sl 1 (xs.map ivl)] (.agg [.v (.int .i64 (fAllV k xs).n), .v (.int .i64 (fAllV k xs).a), .v (.int .i64 (fAllV k xs).b)]) := by
  have hk' := hk
  rcases right_cases hk with rfl | rfl | rfl | rfl | rfl
  · refine PC.mk (ac_body tab_ok Try.func88 rfl (by kernel_rfl) rfl ?_); intro w0 M μ0; simp only [Try.ntmps88, List.length_cons, List.length_nil, Nat.reduceAdd, Nat.reduceSub, numb]
    repeat' (first | ((first | apply o_do | apply d_do | apply d_yes rfl rfl rfl); exact lsq) | first | refine a_seq ?_ | refine a_region ?_ | refine o_nil ?_ | refine a_block ?_ | refine a_ret ?_ | refine a_exit ?_ | refine a_skip ?_ | refine a_draw mixed ?_ | refine d_nil (by kernel_rfl) ?_ | first | refine o_yes rfl rfl rfl ?_ | refine o_no rfl rfl rfl (by decide) ?_ | refine o_no' rfl rfl rfl ?_ | refine a_condT rfl ?_ | refine a_condF rfl ?_ | refine d_no rfl rfl rfl (by decide) ?_ | refine d_no' rfl rfl rfl ?_ | ((first | refine o_split_t rfl rfl rfl (fun hb => ?_) (fun hb => ?_) | refine o_split_f rfl rfl rfl (fun hb => ?_) (fun hb => ?_) | refine a_cond rfl (fun hb => ?_) (fun hb => ?_) | refine d_split rfl rfl (fun hb => ?_) (fun hb => ?_)) <;> (simp only [hb]; try simp only [decide_eq_true_eq, decide_eq_false_iff_not, Bool.not_eq_true', Bool.not_eq_false', Bool.not_eq_true, Bool.not_eq_false, ne_eq, Decidable.not_not] at hb; try (exfalso; first | omega | exact hb trivial))))
    refine a_loop (X := {q : Nat // q ≤ xs.length}) (fun x => ⟨[(0, .v (.int .i64 1)), (4, .ref 0 0), (5, .ref 1 0), (16, .sl 1 (xs.map ivl)), (17, .v (.int .i64 xs.length)), (18, .v (.int .i64 x.1))], [(0, .box 39 [.v (.int .i64 0), .v (.int .i64 0), .v (.int .i64 0)]), (1, .box 39 [.v (.int .i64 (fAllV 1 (xs.take x.1)).n), .v (.int .i64 (fAllV 1 (xs.take x.1)).a), .v (.int .i64 (fAllV 1 (xs.take x.1)).b)])]⟩) (fun x => xs.length - x.1) ⟨0, Nat.zero_le _⟩ ?_ ?_
    · refine ⟨by repeat' (first | exact trivial | exact FinA.one (FinB.cell (FinC.same rfl)) | exact FinA.one (FinB.cell FinC.nil) | exact FinA.bound rfl | exact FinA.one (FinB.cell (FinC.own rfl rfl rfl rfl)) | exact FinA.one (FinB.cell (FinC.v (by first | rfl | (simp)))) | exact FinA.one (FinB.cell (FinC.ow rfl (by first | rfl | (simp)))) | exact FinA.one (FinB.agg' rfl rfl) | refine ⟨⟨_, rfl, ?_⟩, ?_⟩), by repeat' (first | exact trivial | refine ⟨⟨_, rfl, by first | rfl | (simp; done) | (simp [renO, *]; done)⟩, by first | rfl | assumption, ?_⟩), rfl⟩
    rintro ⟨q, hq⟩
    dsimp only
    by_cases hlt : q < xs.length
    · have hel : (xs.map ivl)[q]? = some (ivl xs[q]) := by simp [hlt]
      have hvr := hv _ (List.getElem_mem hlt)
      have hN := fAllV_n hk (xs.take q) (by rw [List.length_take]; omega)
      rw [List.length_take, Nat.min_eq_left hq] at hN
      have hE : fAllV 1 (xs.take (q + 1)) = fJoin 1 (fAllV 1 (xs.take q)) (fOne 1 xs[q]) := by rw [take_snoc xs q hlt, fAllV_snoc]
      generalize xs[q] = v at *
      by_cases hq0 : q = 0
      · subst hq0
        rw [show fAllV 1 (xs.take 0) = ⟨0, 0, 0⟩ from rfl, fJoin_zero hk] at hE
        rw [show fAllV 1 (xs.take 0) = ⟨0, 0, 0⟩ from rfl]
        have e1 : (fAllV 1 (xs.take (0 + 1))).n = (fOne 1 v).n := by rw [hE]
        have e2 : (fAllV 1 (xs.take (0 + 1))).a = (fOne 1 v).a := by rw [hE]
        have e3 : (fAllV 1 (xs.take (0 + 1))).b = (fOne 1 v).b := by rw [hE]
        have hw := IntWalk.i64_in v hvr
        dsimp only
        repeat' (first | ((first | apply o_do | apply d_do | apply d_yes rfl rfl rfl); first | exact ls_indexAddr_sl tab_ok rfl rfl rfl rfl hel rfl | exact lsq) | first | refine a_seq ?_ | refine a_region ?_ | refine o_nil ?_ | refine a_block ?_ | refine a_ret ?_ | refine a_exit ?_ | refine a_skip ?_ | refine a_draw mixed ?_ | refine d_nil (by kernel_rfl) ?_ | first | refine o_yes rfl rfl rfl ?_ | refine o_no rfl rfl rfl (by decide) ?_ | refine o_no' rfl rfl rfl ?_ | refine a_condT rfl ?_ | refine a_condF rfl ?_ | refine d_no rfl rfl rfl (by decide) ?_ | refine d_no' rfl rfl rfl ?_ | ((first | refine o_split_t rfl rfl rfl (fun hb => ?_) (fun hb => ?_) | refine o_split_f rfl rfl rfl (fun hb => ?_) (fun hb => ?_) | refine a_cond rfl (fun hb => ?_) (fun hb => ?_) | refine d_split rfl rfl (fun hb => ?_) (fun hb => ?_)) <;> (simp only [hb]; try simp only [decide_eq_true_eq, decide_eq_false_iff_not, Bool.not_eq_true', Bool.not_eq_false', Bool.not_eq_true, Bool.not_eq_false, ne_eq, Decidable.not_not] at hb; try (exfalso; first | omega | exact hb trivial))))
        all_goals refine ⟨⟨0 + 1, by omega⟩, by dsimp only; omega, ?_⟩
        all_goals refine ⟨by repeat' (first | exact trivial | exact FinA.one (FinB.cell (FinC.same rfl)) | exact FinA.one (FinB.cell FinC.nil) | exact FinA.bound rfl | exact FinA.one (FinB.cell (FinC.own rfl rfl rfl rfl)) | exact FinA.one (FinB.cell (FinC.v (by first | rfl | ((first | (simp; done) | (simp only [e1, e2, e3]; simp [fOne, hw]; done)))))) | exact FinA.one (FinB.cell (FinC.ow rfl (by first | rfl | ((first | (simp; done) | (simp only [e1, e2, e3]; simp [fOne, hw]; done)))))) | exact FinA.one (FinB.agg' rfl rfl) | refine ⟨⟨_, rfl, ?_⟩, ?_⟩), by repeat' (first | exact trivial | refine ⟨⟨_, rfl, by first | rfl | ((first | (simp; done) | (simp only [e1, e2, e3]; simp [fOne, hw]; done)); done) | (simp [renO, *]; done)⟩, by first | rfl | assumption, ?_⟩), rfl⟩
      · generalize hA : fAllV 1 (xs.take q) = A at *
        obtain ⟨n, a, b⟩ := A
        dsimp only at hN
        subst hN
        rw [acc_next hk (by omega) (by omega)] at hE
        have e1 : (fAllV 1 (xs.take (q + 1))).n = (q : Int) + 1 := by rw [hE]
        have e2 : (fAllV 1 (xs.take (q + 1))).a = 0 := by rw [hE]; first | rfl | simp [joinA, joinB]
        have e3 : (fAllV 1 (xs.take (q + 1))).b = 0 := by rw [hE]; first | rfl | simp [joinA, joinB]
        have z := fAllV_ab hk (xs.take q)
        rw [hA] at z
        have z1 : b = 0 := z.1 (by decide)
        subst z1
        have z2 : a = 0 := z.2 rfl
        subst z2
        dsimp only
        repeat' (first | ((first | apply o_do | apply d_do | apply d_yes rfl rfl rfl); first | exact ls_indexAddr_sl tab_ok rfl rfl rfl rfl hel rfl | exact lsq) | first | refine a_seq ?_ | refine a_region ?_ | refine o_nil ?_ | refine a_block ?_ | refine a_ret ?_ | refine a_exit ?_ | refine a_skip ?_ | refine a_draw mixed ?_ | refine d_nil (by kernel_rfl) ?_ | first | refine o_yes rfl rfl rfl ?_ | refine o_no rfl rfl rfl (by decide) ?_ | refine o_no' rfl rfl rfl ?_ | refine a_condT rfl ?_ | refine a_condF rfl ?_ | refine d_no rfl rfl rfl (by decide) ?_ | refine d_no' rfl rfl rfl ?_ | ((first | refine o_split_t rfl rfl rfl (fun hb => ?_) (fun hb => ?_) | refine o_split_f rfl rfl rfl (fun hb => ?_) (fun hb => ?_) | refine a_cond rfl (fun hb => ?_) (fun hb => ?_) | refine d_split rfl rfl (fun hb => ?_) (fun hb => ?_)) <;> (simp only [hb]; try simp only [decide_eq_true_eq, decide_eq_false_iff_not, Bool.not_eq_true', Bool.not_eq_false', Bool.not_eq_true, Bool.not_eq_false, ne_eq, Decidable.not_not] at hb; try (exfalso; first | omega | exact hb trivial))))
        all_goals refine ⟨⟨q + 1, by omega⟩, by dsimp only; omega, ?_⟩
        all_goals refine ⟨by repeat' (first | exact trivial | exact FinA.one (FinB.cell (FinC.same rfl)) | exact FinA.one (FinB.cell FinC.nil) | exact FinA.bound rfl | exact FinA.one (FinB.cell (FinC.own rfl rfl rfl rfl)) | exact FinA.one (FinB.cell (FinC.v (by first | rfl | ((first | (simp; done) | (simp [hE, joinA, joinB, fOne]; done) | (simp only [e1, e2, e3]; simp [IntKind.wrap_i64, wrap64]; done) | (simp only [e1, e2, e3]; simp; omega)))))) | exact FinA.one (FinB.cell (FinC.ow rfl (by first | rfl | ((first | (simp; done) | (simp [hE, joinA, joinB, fOne]; done) | (simp only [e1, e2, e3]; simp [IntKind.wrap_i64, wrap64]; done) | (simp only [e1, e2, e3]; simp; omega)))))) | exact FinA.one (FinB.agg' rfl rfl) | refine ⟨⟨_, rfl, ?_⟩, ?_⟩), by repeat' (first | exact trivial | refine ⟨⟨_, rfl, by first | rfl | ((first | (simp; done) | (simp [hE, joinA, joinB, fOne]; done) | (simp only [e1, e2, e3]; simp [IntKind.wrap_i64, wrap64]; done) | (simp only [e1, e2, e3]; simp; omega)); done) | (simp [renO, *]; done)⟩, by first | rfl | assumption, ?_⟩), rfl⟩
    · obtain rfl : q = xs.length := by omega
      rw [List.take_length]
      repeat' (first | ((first | apply o_do | apply d_do | apply d_yes rfl rfl rfl); exact lsq) | first | refine a_seq ?_ | refine a_region ?_ | refine o_nil ?_ | refine a_block ?_ | refine a_ret ?_ | refine a_exit ?_ | refine a_skip ?_ | refine a_draw mixed ?_ | refine d_nil (by kernel_rfl) ?_ | first | refine o_yes rfl rfl rfl ?_ | refine o_no rfl rfl rfl (by decide) ?_ | refine o_no' rfl rfl rfl ?_ | refine a_condT rfl ?_ | refine a_condF rfl ?_ | refine d_no rfl rfl rfl (by decide) ?_ | refine d_no' rfl rfl rfl ?_ | ((first | refine o_split_t rfl rfl rfl (fun hb => ?_) (fun hb => ?_) | refine o_split_f rfl rfl rfl (fun hb => ?_) (fun hb => ?_) | refine a_cond rfl (fun hb => ?_) (fun hb => ?_) | refine d_split rfl rfl (fun hb => ?_) (fun hb => ?_)) <;> (simp only [hb]; try simp only [decide_eq_true_eq, decide_eq_false_iff_not, Bool.not_eq_true', Bool.not_eq_false', Bool.not_eq_true, Bool.not_eq_false, ne_eq, Decidable.not_not] at hb; try (exfalso; first | omega | exact hb trivial))))
      all_goals refine ⟨by first | exact .inr rfl | exact .inl rfl, _, rfl, ?_, by repeat' (first | exact trivial | refine ⟨⟨_, rfl, by first | rfl | (simp [renO, *]; done)⟩, by first | rfl | assumption, ?_⟩)⟩
      all_goals (first | refine FinA.tup ?_ | refine FinA.one ?_); repeat' (first | exact FinBs.nil | exact FinCs.nil | refine FinBs.cons ?_ ?_ | refine FinCs.cons ?_ ?_ | refine FinB.cell (FinC.v ?_) | refine FinB.cell (FinC.own rfl rfl rfl ?_) | exact FinB.cell FinC.nil | refine FinB.cell (FinC.sl ?_) | exact FinB.agg' rfl rfl | exact FinB.cell (FinC.same rfl) | refine FinB.agg ?_ | refine FinC.v ?_ | refine FinC.own rfl rfl rfl ?_ | exact FinC.nil | refine FinC.sl ?_ | exact FinC.same rfl); all_goals try rfl
  · refine PC.mk (ac_body tab_ok Try.func88 rfl (by kernel_rfl) rfl ?_); intro w0 M μ0; simp only [Try.ntmps88, List.length_cons, List.length_nil, Nat.reduceAdd, Nat.reduceSub, numb]
    repeat' (first | ((first | apply o_do | apply d_do | apply d_yes rfl rfl rfl); exact lsq) | first | refine a_seq ?_ | refine a_region ?_ | refine o_nil ?_ | refine a_block ?_ | refine a_ret ?_ | refine a_exit ?_ | refine a_skip ?_ | refine a_draw mixed ?_ | refine d_nil (by kernel_rfl) ?_ | first | refine o_yes rfl rfl rfl ?_ | refine o_no rfl rfl rfl (by decide) ?_ | refine o_no' rfl rfl rfl ?_ | refine a_condT rfl ?_ | refine a_condF rfl ?_ | refine d_no rfl rfl rfl (by decide) ?_ | refine d_no' rfl rfl rfl ?_ | ((first | refine o_split_t rfl rfl rfl (fun hb => ?_) (fun hb => ?_) | refine o_split_f rfl rfl rfl (fun hb => ?_) (fun hb => ?_) | refine a_cond rfl (fun hb => ?_) (fun hb => ?_) | refine d_split rfl rfl (fun hb => ?_) (fun hb => ?_)) <;> (simp only [hb]; try simp only [decide_eq_true_eq, decide_eq_false_iff_not, Bool.not_eq_true', Bool.not_eq_false', Bool.not_eq_true, Bool.not_eq_false, ne_eq, Decidable.not_not] at hb; try (exfalso; first | omega | exact hb trivial))))
    refine a_loop (X := {q : Nat // q ≤ xs.length}) (fun x => ⟨[(0, .v (.int .i64 2)), (4, .ref 0 0), (5, .ref 1 0), (16, .sl 1 (xs.map ivl)), (17, .v (.int .i64 xs.length)), (18, .v (.int .i64 x.1))], [(0, .box 39 [.v (.int .i64 0), .v (.int .i64 0), .v (.int .i64 0)]), (1, .box 39 [.v (.int .i64 (fAllV 2 (xs.take x.1)).n), .v (.int .i64 (fAllV 2 (xs.take x.1)).a), .v (.int .i64 (fAllV 2 (xs.take x.1)).b)])]⟩) (fun x => xs.length - x.1) ⟨0, Nat.zero_le _⟩ ?_ ?_
    · refine ⟨by repeat' (first | exact trivial | exact FinA.one (FinB.cell (FinC.same rfl)) | exact FinA.one (FinB.cell FinC.nil) | exact FinA.bound rfl | exact FinA.one (FinB.cell (FinC.own rfl rfl rfl rfl)) | exact FinA.one (FinB.cell (FinC.v (by first | rfl | (simp)))) | exact FinA.one (FinB.cell (FinC.ow rfl (by first | rfl | (simp)))) | exact FinA.one (FinB.agg' rfl rfl) | refine ⟨⟨_, rfl, ?_⟩, ?_⟩), by repeat' (first | exact trivial | refine ⟨⟨_, rfl, by first | rfl | (simp; done) | (simp [renO, *]; done)⟩, by first | rfl | assumption, ?_⟩), rfl⟩
    rintro ⟨q, hq⟩
    dsimp only
    by_cases hlt : q < xs.length
    · have hel : (xs.map ivl)[q]? = some (ivl xs[q]) := by simp [hlt]
      have hvr := hv _ (List.getElem_mem hlt)
      have hN := fAllV_n hk (xs.take q) (by rw [List.length_take]; omega)
      rw [List.length_take, Nat.min_eq_left hq] at hN
      have hE : fAllV 2 (xs.take (q + 1)) = fJoin 2 (fAllV 2 (xs.take q)) (fOne 2 xs[q]) := by rw [take_snoc xs q hlt, fAllV_snoc]
      generalize xs[q] = v at *
      by_cases hq0 : q = 0
      · subst hq0
        rw [show fAllV 2 (xs.take 0) = ⟨0, 0, 0⟩ from rfl, fJoin_zero hk] at hE
        rw [show fAllV 2 (xs.take 0) = ⟨0, 0, 0⟩ from rfl]
        have e1 : (fAllV 2 (xs.take (0 + 1))).n = (fOne 2 v).n := by rw [hE]
        have e2 : (fAllV 2 (xs.take (0 + 1))).a = (fOne 2 v).a := by rw [hE]
        have e3 : (fAllV 2 (xs.take (0 + 1))).b = (fOne 2 v).b := by rw [hE]
        have hw := IntWalk.i64_in v hvr
        dsimp only
        repeat' (first | ((first | apply o_do | apply d_do | apply d_yes rfl rfl rfl); first | exact ls_indexAddr_sl tab_ok rfl rfl rfl rfl hel rfl | exact lsq) | first | refine a_seq ?_ | refine a_region ?_ | refine o_nil ?_ | refine a_block ?_ | refine a_ret ?_ | refine a_exit ?_ | refine a_skip ?_ | refine a_draw mixed ?_ | refine d_nil (by kernel_rfl) ?_ | first | refine o_yes rfl rfl rfl ?_ | refine o_no rfl rfl rfl (by decide) ?_ | refine o_no' rfl rfl rfl ?_ | refine a_condT rfl ?_ | refine a_condF rfl ?_ | refine d_no rfl rfl rfl (by decide) ?_ | refine d_no' rfl rfl rfl ?_ | ((first | refine o_split_t rfl rfl rfl (fun hb => ?_) (fun hb => ?_) | refine o_split_f rfl rfl rfl (fun hb => ?_) (fun hb => ?_) | refine a_cond rfl (fun hb => ?_) (fun hb => ?_) | refine d_split rfl rfl (fun hb => ?_) (fun hb => ?_)) <;> (simp only [hb]; try simp only [decide_eq_true_eq, decide_eq_false_iff_not, Bool.not_eq_true', Bool.not_eq_false', Bool.not_eq_true, Bool.not_eq_false, ne_eq, Decidable.not_not] at hb; try (exfalso; first | omega | exact hb trivial))))
        all_goals refine ⟨⟨0 + 1, by omega⟩, by dsimp only; omega, ?_⟩
        all_goals refine ⟨by repeat' (first | exact trivial | exact FinA.one (FinB.cell (FinC.same rfl)) | exact FinA.one (FinB.cell FinC.nil) | exact FinA.bound rfl | exact FinA.one (FinB.cell (FinC.own rfl rfl rfl rfl)) | exact FinA.one (FinB.cell (FinC.v (by first | rfl | ((first | (simp; done) | (simp only [e1, e2, e3]; simp [fOne, hw]; done)))))) | exact FinA.one (FinB.cell (FinC.ow rfl (by first | rfl | ((first | (simp; done) | (simp only [e1, e2, e3]; simp [fOne, hw]; done)))))) | exact FinA.one (FinB.agg' rfl rfl) | refine ⟨⟨_, rfl, ?_⟩, ?_⟩), by repeat' (first | exact trivial | refine ⟨⟨_, rfl, by first | rfl | ((first | (simp; done) | (simp only [e1, e2, e3]; simp [fOne, hw]; done)); done) | (simp [renO, *]; done)⟩, by first | rfl | assumption, ?_⟩), rfl⟩
      · generalize hA : fAllV 2 (xs.take q) = A at *
        obtain ⟨n, a, b⟩ := A
        dsimp only at hN
        subst hN
        rw [acc_next hk (by omega) (by omega)] at hE
        have e1 : (fAllV 2 (xs.take (q + 1))).n = (q : Int) + 1 := by rw [hE]
        have e2 : (fAllV 2 (xs.take (q + 1))).a = wrap64 (a + v) := by rw [hE]; first | rfl | simp [joinA, joinB]
        have e3 : (fAllV 2 (xs.take (q + 1))).b = 0 := by rw [hE]; first | rfl | simp [joinA, joinB]
        have z := fAllV_ab hk (xs.take q)
        rw [hA] at z
        have z1 : b = 0 := z.1 (by decide)
        subst z1
        dsimp only
        repeat' (first | ((first | apply o_do | apply d_do | apply d_yes rfl rfl rfl); first | exact ls_indexAddr_sl tab_ok rfl rfl rfl rfl hel rfl | exact lsq) | first | refine a_seq ?_ | refine a_region ?_ | refine o_nil ?_ | refine a_block ?_ | refine a_ret ?_ | refine a_exit ?_ | refine a_skip ?_ | refine a_draw mixed ?_ | refine d_nil (by kernel_rfl) ?_ | first | refine o_yes rfl rfl rfl ?_ | refine o_no rfl rfl rfl (by decide) ?_ | refine o_no' rfl rfl rfl ?_ | refine a_condT rfl ?_ | refine a_condF rfl ?_ | refine d_no rfl rfl rfl (by decide) ?_ | refine d_no' rfl rfl rfl ?_ | ((first | refine o_split_t rfl rfl rfl (fun hb => ?_) (fun hb => ?_) | refine o_split_f rfl rfl rfl (fun hb => ?_) (fun hb => ?_) | refine a_cond rfl (fun hb => ?_) (fun hb => ?_) | refine d_split rfl rfl (fun hb => ?_) (fun hb => ?_)) <;> (simp only [hb]; try simp only [decide_eq_true_eq, decide_eq_false_iff_not, Bool.not_eq_true', Bool.not_eq_false', Bool.not_eq_true, Bool.not_eq_false, ne_eq, Decidable.not_not] at hb; try (exfalso; first | omega | exact hb trivial))))
        all_goals refine ⟨⟨q + 1, by omega⟩, by dsimp only; omega, ?_⟩
        all_goals refine ⟨by repeat' (first | exact trivial | exact FinA.one (FinB.cell (FinC.same rfl)) | exact FinA.one (FinB.cell FinC.nil) | exact FinA.bound rfl | exact FinA.one (FinB.cell (FinC.own rfl rfl rfl rfl)) | exact FinA.one (FinB.cell (FinC.v (by first | rfl | ((first | (simp; done) | (simp only [e1, e2, e3]; simp [IntKind.wrap_i64, wrap64]; done) | (simp only [e1, e2, e3]; simp; omega)))))) | exact FinA.one (FinB.cell (FinC.ow rfl (by first | rfl | ((first | (simp; done) | (simp only [e1, e2, e3]; simp [IntKind.wrap_i64, wrap64]; done) | (simp only [e1, e2, e3]; simp; omega)))))) | exact FinA.one (FinB.agg' rfl rfl) | refine ⟨⟨_, rfl, ?_⟩, ?_⟩), by repeat' (first | exact trivial | refine ⟨⟨_, rfl, by first | rfl | ((first | (simp; done) | (simp only [e1, e2, e3]; simp [IntKind.wrap_i64, wrap64]; done) | (simp only [e1, e2, e3]; simp; omega)); done) | (simp [renO, *]; done)⟩, by first | rfl | assumption, ?_⟩), rfl⟩
    · obtain rfl : q = xs.length := by omega
      rw [List.take_length]
      repeat' (first | ((first | apply o_do | apply d_do | apply d_yes rfl rfl rfl); exact lsq) | first | refine a_seq ?_ | refine a_region ?_ | refine o_nil ?_ | refine a_block ?_ | refine a_ret ?_ | refine a_exit ?_ | refine a_skip ?_ | refine a_draw mixed ?_ | refine d_nil (by kernel_rfl) ?_ | first | refine o_yes rfl rfl rfl ?_ | refine o_no rfl rfl rfl (by decide) ?_ | refine o_no' rfl rfl rfl ?_ | refine a_condT rfl ?_ | refine a_condF rfl ?_ | refine d_no rfl rfl rfl (by decide) ?_ | refine d_no' rfl rfl rfl ?_ | ((first | refine o_split_t rfl rfl rfl (fun hb => ?_) (fun hb => ?_) | refine o_split_f rfl rfl rfl (fun hb => ?_) (fun hb => ?_) | refine a_cond rfl (fun hb => ?_) (fun hb => ?_) | refine d_split rfl rfl (fun hb => ?_) (fun hb => ?_)) <;> (simp only [hb]; try simp only [decide_eq_true_eq, decide_eq_false_iff_not, Bool.not_eq_true', Bool.not_eq_false', Bool.not_eq_true, Bool.not_eq_false, ne_eq, Decidable.not_not] at hb; try (exfalso; first | omega | exact hb trivial))))
      all_goals refine ⟨by first | exact .inr rfl | exact .inl rfl, _, rfl, ?_, by repeat' (first | exact trivial | refine ⟨⟨_, rfl, by first | rfl | (simp [renO, *]; done)⟩, by first | rfl | assumption, ?_⟩)⟩
      all_goals (first | refine FinA.tup ?_ | refine FinA.one ?_); repeat' (first | exact FinBs.nil | exact FinCs.nil | refine FinBs.cons ?_ ?_ | refine FinCs.cons ?_ ?_ | refine FinB.cell (FinC.v ?_) | refine FinB.cell (FinC.own rfl rfl rfl ?_) | exact FinB.cell FinC.nil | refine FinB.cell (FinC.sl ?_) | exact FinB.agg' rfl rfl | exact FinB.cell (FinC.same rfl) | refine FinB.agg ?_ | refine FinC.v ?_ | refine FinC.own rfl rfl rfl ?_ | exact FinC.nil | refine FinC.sl ?_ | exact FinC.same rfl); all_goals try rfl
  · refine PC.mk (ac_body tab_ok Try.func88 rfl (by kernel_rfl) rfl ?_); intro w0 M μ0; simp only [Try.ntmps88, List.length_cons, List.length_nil, Nat.reduceAdd, Nat.reduceSub, numb]
    repeat' (first | ((first | apply o_do | apply d_do | apply d_yes rfl rfl rfl); exact lsq) | first | refine a_seq ?_ | refine a_region ?_ | refine o_nil ?_ | refine a_block ?_ | refine a_ret ?_ | refine a_exit ?_ | refine a_skip ?_ | refine a_draw mixed ?_ | refine d_nil (by kernel_rfl) ?_ | first | refine o_yes rfl rfl rfl ?_ | refine o_no rfl rfl rfl (by decide) ?_ | refine o_no' rfl rfl rfl ?_ | refine a_condT rfl ?_ | refine a_condF rfl ?_ | refine d_no rfl rfl rfl (by decide) ?_ | refine d_no' rfl rfl rfl ?_ | ((first | refine o_split_t rfl rfl rfl (fun hb => ?_) (fun hb => ?_) | refine o_split_f rfl rfl rfl (fun hb => ?_) (fun hb => ?_) | refine a_cond rfl (fun hb => ?_) (fun hb => ?_) | refine d_split rfl rfl (fun hb => ?_) (fun hb => ?_)) <;> (simp only [hb]; try simp only [decide_eq_true_eq, decide_eq_false_iff_not, Bool.not_eq_true', Bool.not_eq_false', Bool.not_eq_true, Bool.not_eq_false, ne_eq, Decidable.not_not] at hb; try (exfalso; first | omega | exact hb trivial))))
    refine a_loop (X := {q : Nat // q ≤ xs.length}) (fun x => ⟨[(0, .v (.int .i64 3)), (4, .ref 0 0), (5, .ref 1 0), (16, .sl 1 (xs.map ivl)), (17, .v (.int .i64 xs.length)), (18, .v (.int .i64 x.1))], [(0, .box 39 [.v (.int .i64 0), .v (.int .i64 0), .v (.int .i64 0)]), (1, .box 39 [.v (.int .i64 (fAllV 3 (xs.take x.1)).n), .v (.int .i64 (fAllV 3 (xs.take x.1)).a), .v (.int .i64 (fAllV 3 (xs.take x.1)).b)])]⟩) (fun x => xs.length - x.1) ⟨0, Nat.zero_le _⟩ ?_ ?_
    · refine ⟨by repeat' (first | exact trivial | exact FinA.one (FinB.cell (FinC.same rfl)) | exact FinA.one (FinB.cell FinC.nil) | exact FinA.bound rfl | exact FinA.one (FinB.cell (FinC.own rfl rfl rfl rfl)) | exact FinA.one (FinB.cell (FinC.v (by first | rfl | (simp)))) | exact FinA.one (FinB.cell (FinC.ow rfl (by first | rfl | (simp)))) | exact FinA.one (FinB.agg' rfl rfl) | refine ⟨⟨_, rfl, ?_⟩, ?_⟩), by repeat' (first | exact trivial | refine ⟨⟨_, rfl, by first | rfl | (simp; done) | (simp [renO, *]; done)⟩, by first | rfl | assumption, ?_⟩), rfl⟩
    rintro ⟨q, hq⟩
    dsimp only
    by_cases hlt : q < xs.length
    · have hel : (xs.map ivl)[q]? = some (ivl xs[q]) := by simp [hlt]
      have hvr := hv _ (List.getElem_mem hlt)
      have hN := fAllV_n hk (xs.take q) (by rw [List.length_take]; omega)
      rw [List.length_take, Nat.min_eq_left hq] at hN
      have hE : fAllV 3 (xs.take (q + 1)) = fJoin 3 (fAllV 3 (xs.take q)) (fOne 3 xs[q]) := by rw [take_snoc xs q hlt, fAllV_snoc]
      generalize xs[q] = v at *
      by_cases hq0 : q = 0
      · subst hq0
        rw [show fAllV 3 (xs.take 0) = ⟨0, 0, 0⟩ from rfl, fJoin_zero hk] at hE
        rw [show fAllV 3 (xs.take 0) = ⟨0, 0, 0⟩ from rfl]
        have e1 : (fAllV 3 (xs.take (0 + 1))).n = (fOne 3 v).n := by rw [hE]
        have e2 : (fAllV 3 (xs.take (0 + 1))).a = (fOne 3 v).a := by rw [hE]
        have e3 : (fAllV 3 (xs.take (0 + 1))).b = (fOne 3 v).b := by rw [hE]
        have hw := IntWalk.i64_in v hvr
        dsimp only
        repeat' (first | ((first | apply o_do | apply d_do | apply d_yes rfl rfl rfl); first | exact ls_indexAddr_sl tab_ok rfl rfl rfl rfl hel rfl | exact lsq) | first | refine a_seq ?_ | refine a_region ?_ | refine o_nil ?_ | refine a_block ?_ | refine a_ret ?_ | refine a_exit ?_ | refine a_skip ?_ | refine a_draw mixed ?_ | refine d_nil (by kernel_rfl) ?_ | first | refine o_yes rfl rfl rfl ?_ | refine o_no rfl rfl rfl (by decide) ?_ | refine o_no' rfl rfl rfl ?_ | refine a_condT rfl ?_ | refine a_condF rfl ?_ | refine d_no rfl rfl rfl (by decide) ?_ | refine d_no' rfl rfl rfl ?_ | ((first | refine o_split_t rfl rfl rfl (fun hb => ?_) (fun hb => ?_) | refine o_split_f rfl rfl rfl (fun hb => ?_) (fun hb => ?_) | refine a_cond rfl (fun hb => ?_) (fun hb => ?_) | refine d_split rfl rfl (fun hb => ?_) (fun hb => ?_)) <;> (simp only [hb]; try simp only [decide_eq_true_eq, decide_eq_false_iff_not, Bool.not_eq_true', Bool.not_eq_false', Bool.not_eq_true, Bool.not_eq_false, ne_eq, Decidable.not_not] at hb; try (exfalso; first | omega | exact hb trivial))))
        all_goals refine ⟨⟨0 + 1, by omega⟩, by dsimp only; omega, ?_⟩
        all_goals refine ⟨by repeat' (first | exact trivial | exact FinA.one (FinB.cell (FinC.same rfl)) | exact FinA.one (FinB.cell FinC.nil) | exact FinA.bound rfl | exact FinA.one (FinB.cell (FinC.own rfl rfl rfl rfl)) | exact FinA.one (FinB.cell (FinC.v (by first | rfl | ((first | (simp; done) | (simp only [e1, e2, e3]; simp [fOne, hw]; done)))))) | exact FinA.one (FinB.cell (FinC.ow rfl (by first | rfl | ((first | (simp; done) | (simp only [e1, e2, e3]; simp [fOne, hw]; done)))))) | exact FinA.one (FinB.agg' rfl rfl) | refine ⟨⟨_, rfl, ?_⟩, ?_⟩), by repeat' (first | exact trivial | refine ⟨⟨_, rfl, by first | rfl | ((first | (simp; done) | (simp only [e1, e2, e3]; simp [fOne, hw]; done)); done) | (simp [renO, *]; done)⟩, by first | rfl | assumption, ?_⟩), rfl⟩
      · generalize hA : fAllV 3 (xs.take q) = A at *
        obtain ⟨n, a, b⟩ := A
        dsimp only at hN
        subst hN
        rw [acc_next hk (by omega) (by omega)] at hE
        have e1 : (fAllV 3 (xs.take (q + 1))).n = (q : Int) + 1 := by rw [hE]
        have e2 : (fAllV 3 (xs.take (q + 1))).a = min a v := by rw [hE]; first | rfl | simp [joinA, joinB]
        have e3 : (fAllV 3 (xs.take (q + 1))).b = 0 := by rw [hE]; first | rfl | simp [joinA, joinB]
        have z := fAllV_ab hk (xs.take q)
        rw [hA] at z
        have z1 : b = 0 := z.1 (by decide)
        subst z1
        dsimp only
        by_cases c1 : v < a
        · repeat' (first | ((first | apply o_do | apply d_do | apply d_yes rfl rfl rfl); first | exact ls_indexAddr_sl tab_ok rfl rfl rfl rfl hel rfl | exact lsq) | first | refine a_seq ?_ | refine a_region ?_ | refine o_nil ?_ | refine a_block ?_ | refine a_ret ?_ | refine a_exit ?_ | refine a_skip ?_ | refine a_draw mixed ?_ | refine d_nil (by kernel_rfl) ?_ | first | refine o_yes rfl rfl rfl ?_ | refine o_no rfl rfl rfl (by decide) ?_ | refine o_no' rfl rfl rfl ?_ | refine a_condT rfl ?_ | refine a_condF rfl ?_ | refine d_no rfl rfl rfl (by decide) ?_ | refine d_no' rfl rfl rfl ?_ | ((first | refine o_split_t rfl rfl rfl (fun hb => ?_) (fun hb => ?_) | refine o_split_f rfl rfl rfl (fun hb => ?_) (fun hb => ?_) | refine a_cond rfl (fun hb => ?_) (fun hb => ?_) | refine d_split rfl rfl (fun hb => ?_) (fun hb => ?_)) <;> (simp only [hb]; try simp only [decide_eq_true_eq, decide_eq_false_iff_not, Bool.not_eq_true', Bool.not_eq_false', Bool.not_eq_true, Bool.not_eq_false, ne_eq, Decidable.not_not] at hb; try (exfalso; first | omega | exact hb trivial))))
          all_goals refine ⟨⟨q + 1, by omega⟩, by dsimp only; omega, ?_⟩
          all_goals refine ⟨by repeat' (first | exact trivial | exact FinA.one (FinB.cell (FinC.same rfl)) | exact FinA.one (FinB.cell FinC.nil) | exact FinA.bound rfl | exact FinA.one (FinB.cell (FinC.own rfl rfl rfl rfl)) | exact FinA.one (FinB.cell (FinC.v (by first | rfl | ((first | (simp; done) | (simp only [e1, e2, e3]; simp [IntKind.wrap_i64, wrap64]; done) | (simp only [e1, e2, e3]; simp; omega)))))) | exact FinA.one (FinB.cell (FinC.ow rfl (by first | rfl | ((first | (simp; done) | (simp only [e1, e2, e3]; simp [IntKind.wrap_i64, wrap64]; done) | (simp only [e1, e2, e3]; simp; omega)))))) | exact FinA.one (FinB.agg' rfl rfl) | refine ⟨⟨_, rfl, ?_⟩, ?_⟩), by repeat' (first | exact trivial | refine ⟨⟨_, rfl, by first | rfl | ((first | (simp; done) | (simp only [e1, e2, e3]; simp [IntKind.wrap_i64, wrap64]; done) | (simp only [e1, e2, e3]; simp; omega)); done) | (simp [renO, *]; done)⟩, by first | rfl | assumption, ?_⟩), rfl⟩
        · repeat' (first | ((first | apply o_do | apply d_do | apply d_yes rfl rfl rfl); first | exact ls_indexAddr_sl tab_ok rfl rfl rfl rfl hel rfl | exact lsq) | first | refine a_seq ?_ | refine a_region ?_ | refine o_nil ?_ | refine a_block ?_ | refine a_ret ?_ | refine a_exit ?_ | refine a_skip ?_ | refine a_draw mixed ?_ | refine d_nil (by kernel_rfl) ?_ | first | refine o_yes rfl rfl rfl ?_ | refine o_no rfl rfl rfl (by decide) ?_ | refine o_no' rfl rfl rfl ?_ | refine a_condT rfl ?_ | refine a_condF rfl ?_ | refine d_no rfl rfl rfl (by decide) ?_ | refine d_no' rfl rfl rfl ?_ | ((first | refine o_split_t rfl rfl rfl (fun hb => ?_) (fun hb => ?_) | refine o_split_f rfl rfl rfl (fun hb => ?_) (fun hb => ?_) | refine a_cond rfl (fun hb => ?_) (fun hb => ?_) | refine d_split rfl rfl (fun hb => ?_) (fun hb => ?_)) <;> (simp only [hb]; try simp only [decide_eq_true_eq, decide_eq_false_iff_not, Bool.not_eq_true', Bool.not_eq_false', Bool.not_eq_true, Bool.not_eq_false, ne_eq, Decidable.not_not] at hb; try (exfalso; first | omega | exact hb trivial))))
          all_goals refine ⟨⟨q + 1, by omega⟩, by dsimp only; omega, ?_⟩
          all_goals refine ⟨by repeat' (first | exact trivial | exact FinA.one (FinB.cell (FinC.same rfl)) | exact FinA.one (FinB.cell FinC.nil) | exact FinA.bound rfl | exact FinA.one (FinB.cell (FinC.own rfl rfl rfl rfl)) | exact FinA.one (FinB.cell (FinC.v (by first | rfl | ((first | (simp; done) | (simp only [e1, e2, e3]; simp [IntKind.wrap_i64, wrap64]; done) | (simp only [e1, e2, e3]; simp; omega)))))) | exact FinA.one (FinB.cell (FinC.ow rfl (by first | rfl | ((first | (simp; done) | (simp only [e1, e2, e3]; simp [IntKind.wrap_i64, wrap64]; done) | (simp only [e1, e2, e3]; simp; omega)))))) | exact FinA.one (FinB.agg' rfl rfl) | refine ⟨⟨_, rfl, ?_⟩, ?_⟩), by repeat' (first | exact trivial | refine ⟨⟨_, rfl, by first | rfl | ((first | (simp; done) | (simp only [e1, e2, e3]; simp [IntKind.wrap_i64, wrap64]; done) | (simp only [e1, e2, e3]; simp; omega)); done) | (simp [renO, *]; done)⟩, by first | rfl | assumption, ?_⟩), rfl⟩
    · obtain rfl : q = xs.length := by omega
      rw [List.take_length]
      repeat' (first | ((first | apply o_do | apply d_do | apply d_yes rfl rfl rfl); exact lsq) | first | refine a_seq ?_ | refine a_region ?_ | refine o_nil ?_ | refine a_block ?_ | refine a_ret ?_ | refine a_exit ?_ | refine a_skip ?_ | refine a_draw mixed ?_ | refine d_nil (by kernel_rfl) ?_ | first | refine o_yes rfl rfl rfl ?_ | refine o_no rfl rfl rfl (by decide) ?_ | refine o_no' rfl rfl rfl ?_ | refine a_condT rfl ?_ | refine a_condF rfl ?_ | refine d_no rfl rfl rfl (by decide) ?_ | refine d_no' rfl rfl rfl ?_ | ((first | refine o_split_t rfl rfl rfl (fun hb => ?_) (fun hb => ?_) | refine o_split_f rfl rfl rfl (fun hb => ?_) (fun hb => ?_) | refine a_cond rfl (fun hb => ?_) (fun hb => ?_) | refine d_split rfl rfl (fun hb => ?_) (fun hb => ?_)) <;> (simp only [hb]; try simp only [decide_eq_true_eq, decide_eq_false_iff_not, Bool.not_eq_true', Bool.not_eq_false', Bool.not_eq_true, Bool.not_eq_false, ne_eq, Decidable.not_not] at hb; try (exfalso; first | omega | exact hb trivial))))
      all_goals refine ⟨by first | exact .inr rfl | exact .inl rfl, _, rfl, ?_, by repeat' (first | exact trivial | refine ⟨⟨_, rfl, by first | rfl | (simp [renO, *]; done)⟩, by first | rfl | assumption, ?_⟩)⟩
      all_goals (first | refine FinA.tup ?_ | refine FinA.one ?_); repeat' (first | exact FinBs.nil | exact FinCs.nil | refine FinBs.cons ?_ ?_ | refine FinCs.cons ?_ ?_ | refine FinB.cell (FinC.v ?_) | refine FinB.cell (FinC.own rfl rfl rfl ?_) | exact FinB.cell FinC.nil | refine FinB.cell (FinC.sl ?_) | exact FinB.agg' rfl rfl | exact FinB.cell (FinC.same rfl) | refine FinB.agg ?_ | refine FinC.v ?_ | refine FinC.own rfl rfl rfl ?_ | exact FinC.nil | refine FinC.sl ?_ | exact FinC.same rfl); all_goals try rfl
  · refine PC.mk (ac_body tab_ok Try.func88 rfl (by kernel_rfl) rfl ?_); intro w0 M μ0; simp only [Try.ntmps88, List.length_cons, List.length_nil, Nat.reduceAdd, Nat.reduceSub, numb]
    repeat' (first | ((first | apply o_do | apply d_do | apply d_yes rfl rfl rfl); exact lsq) | first | refine a_seq ?_ | refine a_region ?_ | refine o_nil ?_ | refine a_block ?_ | refine a_ret ?_ | refine a_exit ?_ | refine a_skip ?_ | refine a_draw mixed ?_ | refine d_nil (by kernel_rfl) ?_ | first | refine o_yes rfl rfl rfl ?_ | refine o_no rfl rfl rfl (by decide) ?_ | refine o_no' rfl rfl rfl ?_ | refine a_condT rfl ?_ | refine a_condF rfl ?_ | refine d_no rfl rfl rfl (by decide) ?_ | refine d_no' rfl rfl rfl ?_ | ((first | refine o_split_t rfl rfl rfl (fun hb => ?_) (fun hb => ?_) | refine o_split_f rfl rfl rfl (fun hb => ?_) (fun hb => ?_) | refine a_cond rfl (fun hb => ?_) (fun hb => ?_) | refine d_split rfl rfl (fun hb => ?_) (fun hb => ?_)) <;> (simp only [hb]; try simp only [decide_eq_true_eq, decide_eq_false_iff_not, Bool.not_eq_true', Bool.not_eq_false', Bool.not_eq_true, Bool.not_eq_false, ne_eq, Decidable.not_not] at hb; try (exfalso; first | omega | exact hb trivial))))
    refine a_loop (X := {q : Nat // q ≤ xs.length}) (fun x => ⟨[(0, .v (.int .i64 4)), (4, .ref 0 0), (5, .ref 1 0), (16, .sl 1 (xs.map ivl)), (17, .v (.int .i64 xs.length)), (18, .v (.int .i64 x.1))], [(0, .box 39 [.v (.int .i64 0), .v (.int .i64 0), .v (.int .i64 0)]), (1, .box 39 [.v (.int .i64 (fAllV 4 (xs.take x.1)).n), .v (.int .i64 (fAllV 4 (xs.take x.1)).a), .v (.int .i64 (fAllV 4 (xs.take x.1)).b)])]⟩) (fun x => xs.length - x.1) ⟨0, Nat.zero_le _⟩ ?_ ?_
    · refine ⟨by repeat' (first | exact trivial | exact FinA.one (FinB.cell (FinC.same rfl)) | exact FinA.one (FinB.cell FinC.nil) | exact FinA.bound rfl | exact FinA.one (FinB.cell (FinC.own rfl rfl rfl rfl)) | exact FinA.one (FinB.cell (FinC.v (by first | rfl | (simp)))) | exact FinA.one (FinB.cell (FinC.ow rfl (by first | rfl | (simp)))) | exact FinA.one (FinB.agg' rfl rfl) | refine ⟨⟨_, rfl, ?_⟩, ?_⟩), by repeat' (first | exact trivial | refine ⟨⟨_, rfl, by first | rfl | (simp; done) | (simp [renO, *]; done)⟩, by first | rfl | assumption, ?_⟩), rfl⟩
    rintro ⟨q, hq⟩
    dsimp only
    by_cases hlt : q < xs.length
    · have hel : (xs.map ivl)[q]? = some (ivl xs[q]) := by simp [hlt]
      have hvr := hv _ (List.getElem_mem hlt)
      have hN := fAllV_n hk (xs.take q) (by rw [List.length_take]; omega)
      rw [List.length_take, Nat.min_eq_left hq] at hN
      have hE : fAllV 4 (xs.take (q + 1)) = fJoin 4 (fAllV 4 (xs.take q)) (fOne 4 xs[q]) := by rw [take_snoc xs q hlt, fAllV_snoc]
      generalize xs[q] = v at *
      by_cases hq0 : q = 0
      · subst hq0
        rw [show fAllV 4 (xs.take 0) = ⟨0, 0, 0⟩ from rfl, fJoin_zero hk] at hE
        rw [show fAllV 4 (xs.take 0) = ⟨0, 0, 0⟩ from rfl]
        have e1 : (fAllV 4 (xs.take (0 + 1))).n = (fOne 4 v).n := by rw [hE]
        have e2 : (fAllV 4 (xs.take (0 + 1))).a = (fOne 4 v).a := by rw [hE]
        have e3 : (fAllV 4 (xs.take (0 + 1))).b = (fOne 4 v).b := by rw [hE]
        have hw := IntWalk.i64_in v hvr
        dsimp only
        repeat' (first | ((first | apply o_do | apply d_do | apply d_yes rfl rfl rfl); first | exact ls_indexAddr_sl tab_ok rfl rfl rfl rfl hel rfl | exact lsq) | first | refine a_seq ?_ | refine a_region ?_ | refine o_nil ?_ | refine a_block ?_ | refine a_ret ?_ | refine a_exit ?_ | refine a_skip ?_ | refine a_draw mixed ?_ | refine d_nil (by kernel_rfl) ?_ | first | refine o_yes rfl rfl rfl ?_ | refine o_no rfl rfl rfl (by decide) ?_ | refine o_no' rfl rfl rfl ?_ | refine a_condT rfl ?_ | refine a_condF rfl ?_ | refine d_no rfl rfl rfl (by decide) ?_ | refine d_no' rfl rfl rfl ?_ | ((first | refine o_split_t rfl rfl rfl (fun hb => ?_) (fun hb => ?_) | refine o_split_f rfl rfl rfl (fun hb => ?_) (fun hb => ?_) | refine a_cond rfl (fun hb => ?_) (fun hb => ?_) | refine d_split rfl rfl (fun hb => ?_) (fun hb => ?_)) <;> (simp only [hb]; try simp only [decide_eq_true_eq, decide_eq_false_iff_not, Bool.not_eq_true', Bool.not_eq_false', Bool.not_eq_true, Bool.not_eq_false, ne_eq, Decidable.not_not] at hb; try (exfalso; first | omega | exact hb trivial))))
        all_goals refine ⟨⟨0 + 1, by omega⟩, by dsimp only; omega, ?_⟩
        all_goals refine ⟨by repeat' (first | exact trivial | exact FinA.one (FinB.cell (FinC.same rfl)) | exact FinA.one (FinB.cell FinC.nil) | exact FinA.bound rfl | exact FinA.one (FinB.cell (FinC.own rfl rfl rfl rfl)) | exact FinA.one (FinB.cell (FinC.v (by first | rfl | ((first | (simp; done) | (simp only [e1, e2, e3]; simp [fOne, hw]; done)))))) | exact FinA.one (FinB.cell (FinC.ow rfl (by first | rfl | ((first | (simp; done) | (simp only [e1, e2, e3]; simp [fOne, hw]; done)))))) | exact FinA.one (FinB.agg' rfl rfl) | refine ⟨⟨_, rfl, ?_⟩, ?_⟩), by repeat' (first | exact trivial | refine ⟨⟨_, rfl, by first | rfl | ((first | (simp; done) | (simp only [e1, e2, e3]; simp [fOne, hw]; done)); done) | (simp [renO, *]; done)⟩, by first | rfl | assumption, ?_⟩), rfl⟩
      · generalize hA : fAllV 4 (xs.take q) = A at *
        obtain ⟨n, a, b⟩ := A
        dsimp only at hN
        subst hN
        rw [acc_next hk (by omega) (by omega)] at hE
        have e1 : (fAllV 4 (xs.take (q + 1))).n = (q : Int) + 1 := by rw [hE]
        have e2 : (fAllV 4 (xs.take (q + 1))).a = max a v := by rw [hE]; first | rfl | simp [joinA, joinB]
        have e3 : (fAllV 4 (xs.take (q + 1))).b = 0 := by rw [hE]; first | rfl | simp [joinA, joinB]
        have z := fAllV_ab hk (xs.take q)
        rw [hA] at z
        have z1 : b = 0 := z.1 (by decide)
        subst z1
        dsimp only
        by_cases c1 : a < v
        · repeat' (first | ((first | apply o_do | apply d_do | apply d_yes rfl rfl rfl); first | exact ls_indexAddr_sl tab_ok rfl rfl rfl rfl hel rfl | exact lsq) | first | refine a_seq ?_ | refine a_region ?_ | refine o_nil ?_ | refine a_block ?_ | refine a_ret ?_ | refine a_exit ?_ | refine a_skip ?_ | refine a_draw mixed ?_ | refine d_nil (by kernel_rfl) ?_ | first | refine o_yes rfl rfl rfl ?_ | refine o_no rfl rfl rfl (by decide) ?_ | refine o_no' rfl rfl rfl ?_ | refine a_condT rfl ?_ | refine a_condF rfl ?_ | refine d_no rfl rfl rfl (by decide) ?_ | refine d_no' rfl rfl rfl ?_ | ((first | refine o_split_t rfl rfl rfl (fun hb => ?_) (fun hb => ?_) | refine o_split_f rfl rfl rfl (fun hb => ?_) (fun hb => ?_) | refine a_cond rfl (fun hb => ?_) (fun hb => ?_) | refine d_split rfl rfl (fun hb => ?_) (fun hb => ?_)) <;> (simp only [hb]; try simp only [decide_eq_true_eq, decide_eq_false_iff_not, Bool.not_eq_true', Bool.not_eq_false', Bool.not_eq_true, Bool.not_eq_false, ne_eq, Decidable.not_not] at hb; try (exfalso; first | omega | exact hb trivial))))
          all_goals refine ⟨⟨q + 1, by omega⟩, by dsimp only; omega, ?_⟩
          all_goals refine ⟨by repeat' (first | exact trivial | exact FinA.one (FinB.cell (FinC.same rfl)) | exact FinA.one (FinB.cell FinC.nil) | exact FinA.bound rfl | exact FinA.one (FinB.cell (FinC.own rfl rfl rfl rfl)) | exact FinA.one (FinB.cell (FinC.v (by first | rfl | ((first | (simp; done) | (simp only [e1, e2, e3]; simp [IntKind.wrap_i64, wrap64]; done) | (simp only [e1, e2, e3]; simp; omega)))))) | exact FinA.one (FinB.cell (FinC.ow rfl (by first | rfl | ((first | (simp; done) | (simp only [e1, e2, e3]; simp [IntKind.wrap_i64, wrap64]; done) | (simp only [e1, e2, e3]; simp; omega)))))) | exact FinA.one (FinB.agg' rfl rfl) | refine ⟨⟨_, rfl, ?_⟩, ?_⟩), by repeat' (first | exact trivial | refine ⟨⟨_, rfl, by first | rfl | ((first | (simp; done) | (simp only [e1, e2, e3]; simp [IntKind.wrap_i64, wrap64]; done) | (simp only [e1, e2, e3]; simp; omega)); done) | (simp [renO, *]; done)⟩, by first | rfl | assumption, ?_⟩), rfl⟩
        · repeat' (first | ((first | apply o_do | apply d_do | apply d_yes rfl rfl rfl); first | exact ls_indexAddr_sl tab_ok rfl rfl rfl rfl hel rfl | exact lsq) | first | refine a_seq ?_ | refine a_region ?_ | refine o_nil ?_ | refine a_block ?_ | refine a_ret ?_ | refine a_exit ?_ | refine a_skip ?_ | refine a_draw mixed ?_ | refine d_nil (by kernel_rfl) ?_ | first | refine o_yes rfl rfl rfl ?_ | refine o_no rfl rfl rfl (by decide) ?_ | refine o_no' rfl rfl rfl ?_ | refine a_condT rfl ?_ | refine a_condF rfl ?_ | refine d_no rfl rfl rfl (by decide) ?_ | refine d_no' rfl rfl rfl ?_ | ((first | refine o_split_t rfl rfl rfl (fun hb => ?_) (fun hb => ?_) | refine o_split_f rfl rfl rfl (fun hb => ?_) (fun hb => ?_) | refine a_cond rfl (fun hb => ?_) (fun hb => ?_) | refine d_split rfl rfl (fun hb => ?_) (fun hb => ?_)) <;> (simp only [hb]; try simp only [decide_eq_true_eq, decide_eq_false_iff_not, Bool.not_eq_true', Bool.not_eq_false', Bool.not_eq_true, Bool.not_eq_false, ne_eq, Decidable.not_not] at hb; try (exfalso; first | omega | exact hb trivial))))
          all_goals refine ⟨⟨q + 1, by omega⟩, by dsimp only; omega, ?_⟩
          all_goals refine ⟨by repeat' (first | exact trivial | exact FinA.one (FinB.cell (FinC.same rfl)) | exact FinA.one (FinB.cell FinC.nil) | exact FinA.bound rfl | exact FinA.one (FinB.cell (FinC.own rfl rfl rfl rfl)) | exact FinA.one (FinB.cell (FinC.v (by first | rfl | ((first | (simp; done) | (simp only [e1, e2, e3]; simp [IntKind.wrap_i64, wrap64]; done) | (simp only [e1, e2, e3]; simp; omega)))))) | exact FinA.one (FinB.cell (FinC.ow rfl (by first | rfl | ((first | (simp; done) | (simp only [e1, e2, e3]; simp [IntKind.wrap_i64, wrap64]; done) | (simp only [e1, e2, e3]; simp; omega)))))) | exact FinA.one (FinB.agg' rfl rfl) | refine ⟨⟨_, rfl, ?_⟩, ?_⟩), by repeat' (first | exact trivial | refine ⟨⟨_, rfl, by first | rfl | ((first | (simp; done) | (simp only [e1, e2, e3]; simp [IntKind.wrap_i64, wrap64]; done) | (simp only [e1, e2, e3]; simp; omega)); done) | (simp [renO, *]; done)⟩, by first | rfl | assumption, ?_⟩), rfl⟩
    · obtain rfl : q = xs.length := by omega
      rw [List.take_length]
      repeat' (first | ((first | apply o_do | apply d_do | apply d_yes rfl rfl rfl); exact lsq) | first | refine a_seq ?_ | refine a_region ?_ | refine o_nil ?_ | refine a_block ?_ | refine a_ret ?_ | refine a_exit ?_ | refine a_skip ?_ | refine a_draw mixed ?_ | refine d_nil (by kernel_rfl) ?_ | first | refine o_yes rfl rfl rfl ?_ | refine o_no rfl rfl rfl (by decide) ?_ | refine o_no' rfl rfl rfl ?_ | refine a_condT rfl ?_ | refine a_condF rfl ?_ | refine d_no rfl rfl rfl (by decide) ?_ | refine d_no' rfl rfl rfl ?_ | ((first | refine o_split_t rfl rfl rfl (fun hb => ?_) (fun hb => ?_) | refine o_split_f rfl rfl rfl (fun hb => ?_) (fun hb => ?_) | refine a_cond rfl (fun hb => ?_) (fun hb => ?_) | refine d_split rfl rfl (fun hb => ?_) (fun hb => ?_)) <;> (simp only [hb]; try simp only [decide_eq_true_eq, decide_eq_false_iff_not, Bool.not_eq_true', Bool.not_eq_false', Bool.not_eq_true, Bool.not_eq_false, ne_eq, Decidable.not_not] at hb; try (exfalso; first | omega | exact hb trivial))))
      all_goals refine ⟨by first | exact .inr rfl | exact .inl rfl, _, rfl, ?_, by repeat' (first | exact trivial | refine ⟨⟨_, rfl, by first | rfl | (simp [renO, *]; done)⟩, by first | rfl | assumption, ?_⟩)⟩
      all_goals (first | refine FinA.tup ?_ | refine FinA.one ?_); repeat' (first | exact FinBs.nil | exact FinCs.nil | refine FinBs.cons ?_ ?_ | refine FinCs.cons ?_ ?_ | refine FinB.cell (FinC.v ?_) | refine FinB.cell (FinC.own rfl rfl rfl ?_) | exact FinB.cell FinC.nil | refine FinB.cell (FinC.sl ?_) | exact FinB.agg' rfl rfl | exact FinB.cell (FinC.same rfl) | refine FinB.agg ?_ | refine FinC.v ?_ | refine FinC.own rfl rfl rfl ?_ | exact FinC.nil | refine FinC.sl ?_ | exact FinC.same rfl); all_goals try rfl
  · refine PC.mk (ac_body tab_ok Try.func88 rfl (by kernel_rfl) rfl ?_); intro w0 M μ0; simp only [Try.ntmps88, List.length_cons, List.length_nil, Nat.reduceAdd, Nat.reduceSub, numb]
    repeat' (first | ((first | apply o_do | apply d_do | apply d_yes rfl rfl rfl); exact lsq) | first | refine a_seq ?_ | refine a_region ?_ | refine o_nil ?_ | refine a_block ?_ | refine a_ret ?_ | refine a_exit ?_ | refine a_skip ?_ | refine a_draw mixed ?_ | refine d_nil (by kernel_rfl) ?_ | first | refine o_yes rfl rfl rfl ?_ | refine o_no rfl rfl rfl (by decide) ?_ | refine o_no' rfl rfl rfl ?_ | refine a_condT rfl ?_ | refine a_condF rfl ?_ | refine d_no rfl rfl rfl (by decide) ?_ | refine d_no' rfl rfl rfl ?_ | ((first | refine o_split_t rfl rfl rfl (fun hb => ?_) (fun hb => ?_) | refine o_split_f rfl rfl rfl (fun hb => ?_) (fun hb => ?_) | refine a_cond rfl (fun hb => ?_) (fun hb => ?_) | refine d_split rfl rfl (fun hb => ?_) (fun hb => ?_)) <;> (simp only [hb]; try simp only [decide_eq_true_eq, decide_eq_false_iff_not, Bool.not_eq_true', Bool.not_eq_false', Bool.not_eq_true, Bool.not_eq_false, ne_eq, Decidable.not_not] at hb; try (exfalso; first | omega | exact hb trivial))))
    refine a_loop (X := {q : Nat // q ≤ xs.length}) (fun x => ⟨[(0, .v (.int .i64 5)), (4, .ref 0 0), (5, .ref 1 0), (16, .sl 1 (xs.map ivl)), (17, .v (.int .i64 xs.length)), (18, .v (.int .i64 x.1))], [(0, .box 39 [.v (.int .i64 0), .v (.int .i64 0), .v (.int .i64 0)]), (1, .box 39 [.v (.int .i64 (fAllV 5 (xs.take x.1)).n), .v (.int .i64 (fAllV 5 (xs.take x.1)).a), .v (.int .i64 (fAllV 5 (xs.take x.1)).b)])]⟩) (fun x => xs.length - x.1) ⟨0, Nat.zero_le _⟩ ?_ ?_
    · refine ⟨by repeat' (first | exact trivial | exact FinA.one (FinB.cell (FinC.same rfl)) | exact FinA.one (FinB.cell FinC.nil) | exact FinA.bound rfl | exact FinA.one (FinB.cell (FinC.own rfl rfl rfl rfl)) | exact FinA.one (FinB.cell (FinC.v (by first | rfl | (simp)))) | exact FinA.one (FinB.cell (FinC.ow rfl (by first | rfl | (simp)))) | exact FinA.one (FinB.agg' rfl rfl) | refine ⟨⟨_, rfl, ?_⟩, ?_⟩), by repeat' (first | exact trivial | refine ⟨⟨_, rfl, by first | rfl | (simp; done) | (simp [renO, *]; done)⟩, by first | rfl | assumption, ?_⟩), rfl⟩
    rintro ⟨q, hq⟩
    dsimp only
    by_cases hlt : q < xs.length
    · have hel : (xs.map ivl)[q]? = some (ivl xs[q]) := by simp [hlt]
      have hvr := hv _ (List.getElem_mem hlt)
      have hN := fAllV_n hk (xs.take q) (by rw [List.length_take]; omega)
      rw [List.length_take, Nat.min_eq_left hq] at hN
      have hE : fAllV 5 (xs.take (q + 1)) = fJoin 5 (fAllV 5 (xs.take q)) (fOne 5 xs[q]) := by rw [take_snoc xs q hlt, fAllV_snoc]
      generalize xs[q] = v at *
      by_cases hq0 : q = 0
      · subst hq0
        rw [show fAllV 5 (xs.take 0) = ⟨0, 0, 0⟩ from rfl, fJoin_zero hk] at hE
        rw [show fAllV 5 (xs.take 0) = ⟨0, 0, 0⟩ from rfl]
        have e1 : (fAllV 5 (xs.take (0 + 1))).n = (fOne 5 v).n := by rw [hE]
        have e2 : (fAllV 5 (xs.take (0 + 1))).a = (fOne 5 v).a := by rw [hE]
        have e3 : (fAllV 5 (xs.take (0 + 1))).b = (fOne 5 v).b := by rw [hE]
        have hw := IntWalk.i64_in v hvr
        dsimp only
        repeat' (first | ((first | apply o_do | apply d_do | apply d_yes rfl rfl rfl); first | exact ls_indexAddr_sl tab_ok rfl rfl rfl rfl hel rfl | exact lsq) | first | refine a_seq ?_ | refine a_region ?_ | refine o_nil ?_ | refine a_block ?_ | refine a_ret ?_ | refine a_exit ?_ | refine a_skip ?_ | refine a_draw mixed ?_ | refine d_nil (by kernel_rfl) ?_ | first | refine o_yes rfl rfl rfl ?_ | refine o_no rfl rfl rfl (by decide) ?_ | refine o_no' rfl rfl rfl ?_ | refine a_condT rfl ?_ | refine a_condF rfl ?_ | refine d_no rfl rfl rfl (by decide) ?_ | refine d_no' rfl rfl rfl ?_ | ((first | refine o_split_t rfl rfl rfl (fun hb => ?_) (fun hb => ?_) | refine o_split_f rfl rfl rfl (fun hb => ?_) (fun hb => ?_) | refine a_cond rfl (fun hb => ?_) (fun hb => ?_) | refine d_split rfl rfl (fun hb => ?_) (fun hb => ?_)) <;> (simp only [hb]; try simp only [decide_eq_true_eq, decide_eq_false_iff_not, Bool.not_eq_true', Bool.not_eq_false', Bool.not_eq_true, Bool.not_eq_false, ne_eq, Decidable.not_not] at hb; try (exfalso; first | omega | exact hb trivial))))
        all_goals refine ⟨⟨0 + 1, by omega⟩, by dsimp only; omega, ?_⟩
        all_goals refine ⟨by repeat' (first | exact trivial | exact FinA.one (FinB.cell (FinC.same rfl)) | exact FinA.one (FinB.cell FinC.nil) | exact FinA.bound rfl | exact FinA.one (FinB.cell (FinC.own rfl rfl rfl rfl)) | exact FinA.one (FinB.cell (FinC.v (by first | rfl | ((first | (simp; done) | (simp only [e1, e2, e3]; simp [fOne, hw]; done)))))) | exact FinA.one (FinB.cell (FinC.ow rfl (by first | rfl | ((first | (simp; done) | (simp only [e1, e2, e3]; simp [fOne, hw]; done)))))) | exact FinA.one (FinB.agg' rfl rfl) | refine ⟨⟨_, rfl, ?_⟩, ?_⟩), by repeat' (first | exact trivial | refine ⟨⟨_, rfl, by first | rfl | ((first | (simp; done) | (simp only [e1, e2, e3]; simp [fOne, hw]; done)); done) | (simp [renO, *]; done)⟩, by first | rfl | assumption, ?_⟩), rfl⟩
      · generalize hA : fAllV 5 (xs.take q) = A at *
        obtain ⟨n, a, b⟩ := A
        dsimp only at hN
        subst hN
        rw [acc_next hk (by omega) (by omega)] at hE
        have e1 : (fAllV 5 (xs.take (q + 1))).n = (q : Int) + 1 := by rw [hE]
        have e2 : (fAllV 5 (xs.take (q + 1))).a = min a v := by rw [hE]; first | rfl | simp [joinA, joinB]
        have e3 : (fAllV 5 (xs.take (q + 1))).b = max b v := by rw [hE]; first | rfl | simp [joinA, joinB]
        have z := fAllV_ab hk (xs.take q)
        rw [hA] at z
        dsimp only
        by_cases c1 : v < a
        all_goals by_cases c2 : b < v
        all_goals
          repeat' (first | ((first | apply o_do | apply d_do | apply d_yes rfl rfl rfl); first | exact ls_indexAddr_sl tab_ok rfl rfl rfl rfl hel rfl | exact lsq) | first | refine a_seq ?_ | refine a_region ?_ | refine o_nil ?_ | refine a_block ?_ | refine a_ret ?_ | refine a_exit ?_ | refine a_skip ?_ | refine a_draw mixed ?_ | refine d_nil (by kernel_rfl) ?_ | first | refine o_yes rfl rfl rfl ?_ | refine o_no rfl rfl rfl (by decide) ?_ | refine o_no' rfl rfl rfl ?_ | refine a_condT rfl ?_ | refine a_condF rfl ?_ | refine d_no rfl rfl rfl (by decide) ?_ | refine d_no' rfl rfl rfl ?_ | ((first | refine o_split_t rfl rfl rfl (fun hb => ?_) (fun hb => ?_) | refine o_split_f rfl rfl rfl (fun hb => ?_) (fun hb => ?_) | refine a_cond rfl (fun hb => ?_) (fun hb => ?_) | refine d_split rfl rfl (fun hb => ?_) (fun hb => ?_)) <;> (simp only [hb]; try simp only [decide_eq_true_eq, decide_eq_false_iff_not, Bool.not_eq_true', Bool.not_eq_false', Bool.not_eq_true, Bool.not_eq_false, ne_eq, Decidable.not_not] at hb; try (exfalso; first | omega | exact hb trivial))))
          all_goals refine ⟨⟨q + 1, by omega⟩, by dsimp only; omega, ?_⟩
          all_goals refine ⟨by repeat' (first | exact trivial | exact FinA.one (FinB.cell (FinC.same rfl)) | exact FinA.one (FinB.cell FinC.nil) | exact FinA.bound rfl | exact FinA.one (FinB.cell (FinC.own rfl rfl rfl rfl)) | exact FinA.one (FinB.cell (FinC.v (by first | rfl | ((first | (simp; done) | (simp only [e1, e2, e3]; simp [IntKind.wrap_i64, wrap64]; done) | (simp only [e1, e2, e3]; simp; omega)))))) | exact FinA.one (FinB.cell (FinC.ow rfl (by first | rfl | ((first | (simp; done) | (simp only [e1, e2, e3]; simp [IntKind.wrap_i64, wrap64]; done) | (simp only [e1, e2, e3]; simp; omega)))))) | exact FinA.one (FinB.agg' rfl rfl) | refine ⟨⟨_, rfl, ?_⟩, ?_⟩), by repeat' (first | exact trivial | refine ⟨⟨_, rfl, by first | rfl | ((first | (simp; done) | (simp only [e1, e2, e3]; simp [IntKind.wrap_i64, wrap64]; done) | (simp only [e1, e2, e3]; simp; omega)); done) | (simp [renO, *]; done)⟩, by first | rfl | assumption, ?_⟩), rfl⟩
    · obtain rfl : q = xs.length := by omega
      rw [List.take_length]
      repeat' (first | ((first | apply o_do | apply d_do | apply d_yes rfl rfl rfl); exact lsq) | first | refine a_seq ?_ | refine a_region ?_ | refine o_nil ?_ | refine a_block ?_ | refine a_ret ?_ | refine a_exit ?_ | refine a_skip ?_ | refine a_draw mixed ?_ | refine d_nil (by kernel_rfl) ?_ | first | refine o_yes rfl rfl rfl ?_ | refine o_no rfl rfl rfl (by decide) ?_ | refine o_no' rfl rfl rfl ?_ | refine a_condT rfl ?_ | refine a_condF rfl ?_ | refine d_no rfl rfl rfl (by decide) ?_ | refine d_no' rfl rfl rfl ?_ | ((first | refine o_split_t rfl rfl rfl (fun hb => ?_) (fun hb => ?_) | refine o_split_f rfl rfl rfl (fun hb => ?_) (fun hb => ?_) | refine a_cond rfl (fun hb => ?_) (fun hb => ?_) | refine d_split rfl rfl (fun hb => ?_) (fun hb => ?_)) <;> (simp only [hb]; try simp only [decide_eq_true_eq, decide_eq_false_iff_not, Bool.not_eq_true', Bool.not_eq_false', Bool.not_eq_true, Bool.not_eq_false, ne_eq, Decidable.not_not] at hb; try (exfalso; first | omega | exact hb trivial))))
      all_goals refine ⟨by first | exact .inr rfl | exact .inl rfl, _, rfl, ?_, by repeat' (first | exact trivial | refine ⟨⟨_, rfl, by first | rfl | (simp [renO, *]; done)⟩, by first | rfl | assumption, ?_⟩)⟩
      all_goals (first | refine FinA.tup ?_ | refine FinA.one ?_); repeat' (first | exact FinBs.nil | exact FinCs.nil | refine FinBs.cons ?_ ?_ | refine FinCs.cons ?_ ?_ | refine FinB.cell (FinC.v ?_) | refine FinB.cell (FinC.own rfl rfl rfl ?_) | exact FinB.cell FinC.nil | refine FinB.cell (FinC.sl ?_) | exact FinB.agg' rfl rfl | exact FinB.cell (FinC.same rfl) | refine FinB.agg ?_ | refine FinC.v ?_ | refine FinC.own rfl rfl rfl ?_ | exact FinC.nil | refine FinC.sl ?_ | exact FinC.same rfl); all_goals try rfl
end
theorem valsR_snoc {key : ByteArray} {lo hi : Int} {es : List Et} {e : Et} : valsR key lo hi (es ++ [e]) = valsR key lo hi es ++ (if inWin key lo hi e then [e.v] else []) := by
  unfold valsR
  rw [List.filter_append, List.map_append]
  congr 1
  simp only [List.filter_cons, List.filter_nil]
  split <;> rfl
theorem valsR_len {key : ByteArray} {lo hi : Int} {es : List Et} : (valsR key lo hi es).length ≤ es.length := by
  unfold valsR
  rw [List.length_map]
  exact List.length_filter_le _ _
set_option maxHeartbeats 4000000 in
theorem m_rvals (es : List Et) (key : ByteArray) (lo hi : Int) (hl : es.length ≤ 1000000) :
    PC Try.prog 112 [.sl 3 (es.map Et.av), .v (.string key), .agg [.v (.int .i64 lo), .v (.int .i64 hi)]] (.sl 1 ((valsR key lo hi es).map ivl)) := by
  refine PC.mk (ac_body tab_ok Try.func112 rfl (by kernel_rfl) rfl ?_); intro w0 M μ0; simp only [Try.ntmps112, List.length_cons, List.length_nil, Nat.reduceAdd, Nat.reduceSub, numb]
  repeat' (first | ((first | apply o_do | apply d_do | apply d_yes rfl rfl rfl); exact lsq) | first | refine a_seq ?_ | refine a_region ?_ | refine o_nil ?_ | refine a_block ?_ | refine a_ret ?_ | refine a_exit ?_ | refine a_skip ?_ | refine a_draw mixed ?_ | refine d_nil (by kernel_rfl) ?_ | first | refine o_yes rfl rfl rfl ?_ | refine o_no rfl rfl rfl (by decide) ?_ | refine o_no' rfl rfl rfl ?_ | refine a_condT rfl ?_ | refine a_condF rfl ?_ | refine d_no rfl rfl rfl (by decide) ?_ | refine d_no' rfl rfl rfl ?_ | ((first | refine o_split_t rfl rfl rfl (fun hb => ?_) (fun hb => ?_) | refine o_split_f rfl rfl rfl (fun hb => ?_) (fun hb => ?_) | refine a_cond rfl (fun hb => ?_) (fun hb => ?_) | refine d_split rfl rfl (fun hb => ?_) (fun hb => ?_)) <;> (simp only [hb]; try simp only [decide_eq_true_eq, decide_eq_false_iff_not, Bool.not_eq_true', Bool.not_eq_false', Bool.not_eq_true, Bool.not_eq_false, ne_eq, Decidable.not_not] at hb; try (exfalso; first | omega | exact hb trivial))))
  refine a_loop (X := {q : Nat // q ≤ es.length}) (fun x => ⟨[(0, .sl 3 (es.map Et.av)), (1, .v (.string key)), (5, .ref 0 0), (7, .own 1 ((valsR key lo hi (es.take x.1)).map ivl).length), (11, .sl 3 (es.map Et.av)), (12, .v (.int .i64 es.length)), (13, .v (.int .i64 x.1))], [(0, .box 37 [.v (.int .i64 lo), .v (.int .i64 hi)]), (1, .row 2 1 ((valsR key lo hi (es.take x.1)).map ivl))]⟩) (fun x => es.length - x.1) ⟨0, Nat.zero_le _⟩ ?_ ?_
  · refine ⟨by repeat' (first | exact trivial | exact FinA.one (FinB.cell (FinC.same rfl)) | exact FinA.one (FinB.cell FinC.nil) | exact FinA.bound rfl | exact FinA.one (FinB.cell (FinC.own rfl rfl rfl rfl)) | exact FinA.one (FinB.cell (FinC.v (by first | rfl | (simp)))) | exact FinA.one (FinB.cell (FinC.ow rfl (by first | rfl | (simp)))) | exact FinA.one (FinB.agg' rfl rfl) | refine ⟨⟨_, rfl, ?_⟩, ?_⟩), by repeat' (first | exact trivial | refine ⟨⟨_, rfl, by first | rfl | (simp; done) | (simp [renO, *]; done)⟩, by first | rfl | assumption, ?_⟩), rfl⟩
  rintro ⟨q, hq⟩
  dsimp only
  by_cases hlt : q < es.length
  · have hel : (es.map Et.av)[q]? = some (Et.av es[q]) := by simp [hlt]
    have hsn : (valsR key lo hi (es.take (q + 1))).map ivl = (valsR key lo hi (es.take q)).map ivl ++ (if inWin key lo hi es[q] then [ivl es[q].v] else []) := by
      rw [take_snoc es q hlt, valsR_snoc, List.map_append]
      congr 1
      split <;> rfl
    have hTl : ((valsR key lo hi (es.take q)).map ivl).length ≤ q := by
      have := valsR_len (key := key) (lo := lo) (hi := hi) (es := es.take q)
      rw [List.length_take] at this
      rw [List.length_map]; omega
    generalize (valsR key lo hi (es.take q)).map ivl = T at *
    generalize es[q] = e at *
    repeat' (first | ((first | apply o_do | apply d_do | apply d_yes rfl rfl rfl); first | exact ls_indexAddr_sl tab_ok rfl rfl rfl rfl hel rfl | exact ls_append tab_ok rfl rfl rfl rfl (by first | exact SrcIs.sl | exact SrcIs.nil | exact SrcIs.own rfl rfl) rfl (by (try simp only [List.length_cons, List.length_nil]); (omega)) rfl rfl | exact lsq) | first | refine a_seq ?_ | refine a_region ?_ | refine o_nil ?_ | refine a_block ?_ | refine a_ret ?_ | refine a_exit ?_ | refine a_skip ?_ | refine a_draw mixed ?_ | refine d_nil (by kernel_rfl) ?_ | first | refine o_yes rfl rfl rfl ?_ | refine o_no rfl rfl rfl (by decide) ?_ | refine o_no' rfl rfl rfl ?_ | refine a_condT rfl ?_ | refine a_condF rfl ?_ | refine d_no rfl rfl rfl (by decide) ?_ | refine d_no' rfl rfl rfl ?_ | ((first | refine o_split_t rfl rfl rfl (fun hb => ?_) (fun hb => ?_) | refine o_split_f rfl rfl rfl (fun hb => ?_) (fun hb => ?_) | refine a_cond rfl (fun hb => ?_) (fun hb => ?_) | refine d_split rfl rfl (fun hb => ?_) (fun hb => ?_)) <;> (simp only [hb]; try simp only [decide_eq_true_eq, decide_eq_false_iff_not, Bool.not_eq_true', Bool.not_eq_false', Bool.not_eq_true, Bool.not_eq_false, ne_eq, Decidable.not_not] at hb; try (exfalso; first | omega | exact hb trivial))))
    all_goals refine ⟨⟨q + 1, by omega⟩, by dsimp only; omega, ?_⟩
    all_goals refine ⟨by repeat' (first | exact trivial | exact FinA.one (FinB.cell (FinC.same rfl)) | exact FinA.one (FinB.cell FinC.nil) | exact FinA.bound rfl | exact FinA.one (FinB.cell (FinC.own rfl rfl rfl rfl)) | exact FinA.one (FinB.cell (FinC.v (by first | rfl | ((first | (simp; done) | (rw [hsn]; simp [inWin, ivl, acells, *]; done)))))) | exact FinA.one (FinB.cell (FinC.ow rfl (by first | rfl | ((first | (simp; done) | (rw [hsn]; simp [inWin, ivl, acells, *]; done)))))) | exact FinA.one (FinB.agg' rfl rfl) | refine ⟨⟨_, rfl, ?_⟩, ?_⟩), by repeat' (first | exact trivial | refine ⟨⟨_, rfl, by first | rfl | ((first | (simp; done) | (rw [hsn]; simp [inWin, ivl, acells, *]; done)); done) | (simp [renO, *]; done)⟩, by first | rfl | assumption, ?_⟩), rfl⟩
  · obtain rfl : q = es.length := by omega
    rw [List.take_length]
    repeat' (first | ((first | apply o_do | apply d_do | apply d_yes rfl rfl rfl); exact lsq) | first | refine a_seq ?_ | refine a_region ?_ | refine o_nil ?_ | refine a_block ?_ | refine a_ret ?_ | refine a_exit ?_ | refine a_skip ?_ | refine a_draw mixed ?_ | refine d_nil (by kernel_rfl) ?_ | first | refine o_yes rfl rfl rfl ?_ | refine o_no rfl rfl rfl (by decide) ?_ | refine o_no' rfl rfl rfl ?_ | refine a_condT rfl ?_ | refine a_condF rfl ?_ | refine d_no rfl rfl rfl (by decide) ?_ | refine d_no' rfl rfl rfl ?_ | ((first | refine o_split_t rfl rfl rfl (fun hb => ?_) (fun hb => ?_) | refine o_split_f rfl rfl rfl (fun hb => ?_) (fun hb => ?_) | refine a_cond rfl (fun hb => ?_) (fun hb => ?_) | refine d_split rfl rfl (fun hb => ?_) (fun hb => ?_)) <;> (simp only [hb]; try simp only [decide_eq_true_eq, decide_eq_false_iff_not, Bool.not_eq_true', Bool.not_eq_false', Bool.not_eq_true, Bool.not_eq_false, ne_eq, Decidable.not_not] at hb; try (exfalso; first | omega | exact hb trivial))))
    all_goals refine ⟨by first | exact .inr rfl | exact .inl rfl, _, rfl, ?_, by repeat' (first | exact trivial | refine ⟨⟨_, rfl, by first | rfl | (simp [renO, *]; done)⟩, by first | rfl | assumption, ?_⟩)⟩
    all_goals (first | refine FinA.tup ?_ | refine FinA.one ?_); repeat' (first | exact FinBs.nil | exact FinCs.nil | refine FinBs.cons ?_ ?_ | refine FinCs.cons ?_ ?_ | refine FinB.cell (FinC.v ?_) | refine FinB.cell (FinC.own rfl rfl rfl ?_) | exact FinB.cell FinC.nil | refine FinB.cell (FinC.sl ?_) | exact FinB.agg' rfl rfl | exact FinB.cell (FinC.same rfl) | refine FinB.agg ?_ | refine FinC.v ?_ | refine FinC.own rfl rfl rfl ?_ | exact FinC.nil | refine FinC.sl ?_ | exact FinC.same rfl); all_goals try rfl
end Go.Proofs.Ytimlkhbedhjehaa
namespace Go.Proofs.Ytimlkhbedhjehaa
open Go.RowKit
set_option linter.unusedSimpArgs false
set_option linter.unusedVariables false
theorem goV_range (lim : Int) : ∀ (f : Nat) (v : Int) (n : Nat), (-9223372036854775808 ≤ v ∧ v ≤ 9223372036854775807) → (-9223372036854775808 ≤ (goV lim f v n).1 ∧ (goV lim f v n).1 ≤ 9223372036854775807)
  | 0, v, n, h => h
  | f + 1, v, n, h => by
    unfold goV
    split
    · exact h
    · exact goV_range lim f _ _ (halfI_range h)
theorem keptE_range {li fu de : Int} : ∀ {es : List Et} {m : Int}, (∀ e ∈ es, -9223372036854775808 ≤ e.v ∧ e.v ≤ 9223372036854775807) → ∀ e ∈ keptE li fu de m es, -9223372036854775808 ≤ e.v ∧ e.v ≤ 9223372036854775807
  | [], m, _ => by simp [keptE]
  | e :: es, m, h => by
    intro x hx
    simp only [keptE, List.mem_append] at hx
    rcases hx with hx | hx
    · split at hx
      · simp at hx
      · simp only [List.mem_singleton] at hx; subst hx; exact goV_range _ _ _ _ (h e (by simp))
    · exact keptE_range (fun y hy => h y (by simp [hy])) x hx
theorem allK_range {li fu de : Int} {ls : List (List Et)} (h : ∀ es ∈ ls, ∀ e ∈ es, -9223372036854775808 ≤ e.v ∧ e.v ≤ 9223372036854775807) : ∀ e ∈ allK li fu de ls, -9223372036854775808 ≤ e.v ∧ e.v ≤ 9223372036854775807 := by
  intro e he
  obtain ⟨es, h1, h2⟩ := List.mem_flatMap.1 he
  exact keptE_range (h es h1) e h2
/-- a pane put where none of its place is -/
theorem put_lay {k : Int} {R : List Pn} {x : Vl} {vs : List Int} (hR : R.length ≤ 2000) (hno : R.any (plP x) = false) :
    putR k R (paneOf k x vs) = if (insP k R (paneOf k x vs)).length ≤ 2000 then (insP k R (paneOf k x vs), 0) else ([], 3) := by
  have hok : okN k R (paneOf k x vs) := by
    refine okN_iff.2 fun hI => ?_
    obtain ⟨p, hp, hs⟩ := isL_some hI
    have := List.any_eq_false.1 hno p (List.mem_of_getElem? hp)
    exact absurd (plP_iff.2 ⟨hs.2.2, hs.2.1, hs.1⟩) this
  unfold putR
  split
  · rename_i l hl
    obtain ⟨rfl, _, h2⟩ := (putL_iff hR).1 hl
    rw [if_pos h2]
  · rename_i hl
    rw [if_neg]
    intro h
    rw [(putL_iff hR).2 ⟨rfl, hok, h⟩] at hl
    cases hl
theorem any_snoc {α : Type} {p : α → Bool} {l : List α} {m : Nat} (h : m < l.length) : (l.take (m + 1)).any p = ((l.take m).any p || p l[m]) := by
  rw [take_snoc l m h, List.any_append]; simp
section
variable (g s d k fu li de id : Int) (ls : List (List Et))
set_option maxHeartbeats 16000000 in
set_option maxRecDepth 20000 in
theorem m_rRun (hfr : fRight k = true) (hw : winB s d = true) (hl4 : ls.length ≤ 4) (hes : ∀ es ∈ ls, es.length ≤ 200 ∧ ∀ e ∈ es, evR e.key e.at' = true) (hls : ∀ es ∈ ls, ∀ e ∈ es, -9223372036854775808 ≤ e.v ∧ e.v ≤ 9223372036854775807) (hli : li ≤ 9223372036854775807) :
    PC Try.prog 61 [.agg [.v (.int .i64 g), .v (.int .i64 s), .v (.int .i64 d), .v (.int .i64 k), .v (.int .i64 fu), .v (.int .i64 li), .v (.int .i64 de), .v (.int .i64 id)], .sl 1 (ls.map inAv)] (RR.av (outR k (allVals s d (allK li fu de ls)))) := by
  have hKl := allK_len (li := li) (fu := fu) (de := de) (ls := ls) fun es he => (hes es he).1
  have hKo := allK_ok (li := li) (fu := fu) (de := de) (ls := ls) fun es he => (hes es he).2
  have hKv := allK_range (li := li) (fu := fu) (de := de) (ls := ls) hls
  refine PC.mk (ac_body tab_ok Try.func61 rfl (by kernel_rfl) rfl ?_); intro w0 M μ0; simp only [Try.ntmps61, List.length_cons, List.length_nil, Nat.reduceAdd, Nat.reduceSub, numb]
  repeat' (first | ((first | apply o_do | apply d_do | apply d_yes rfl rfl rfl); exact lsq) | first | refine a_seq ?_ | refine a_region ?_ | refine o_nil ?_ | refine a_block ?_ | refine a_ret ?_ | refine a_exit ?_ | refine a_skip ?_ | refine a_draw mixed ?_ | refine d_nil (by kernel_rfl) ?_ | first | refine o_yes rfl rfl rfl ?_ | refine o_no rfl rfl rfl (by decide) ?_ | refine o_no' rfl rfl rfl ?_ | refine a_condT rfl ?_ | refine a_condF rfl ?_ | refine d_no rfl rfl rfl (by decide) ?_ | refine d_no' rfl rfl rfl ?_ | ((first | refine o_split_t rfl rfl rfl (fun hb => ?_) (fun hb => ?_) | refine o_split_f rfl rfl rfl (fun hb => ?_) (fun hb => ?_) | refine a_cond rfl (fun hb => ?_) (fun hb => ?_) | refine d_split rfl rfl (fun hb => ?_) (fun hb => ?_)) <;> (simp only [hb]; try simp only [decide_eq_true_eq, decide_eq_false_iff_not, Bool.not_eq_true', Bool.not_eq_false', Bool.not_eq_true, Bool.not_eq_false, ne_eq, Decidable.not_not] at hb; try (exfalso; first | omega | exact hb trivial))))
  refine a_loop (X := {q : Nat // q ≤ ls.length}) (fun x => ⟨[(1, .sl 1 (ls.map inAv)), (2, .ref 0 0), (6, .own 1 ((allK li fu de (ls.take x.1)).map Et.av).length), (21, .sl 1 (ls.map inAv)), (22, .v (.int .i64 ls.length)), (23, .v (.int .i64 x.1))], [(0, .box 23 [.v (.int .i64 g), .v (.int .i64 s), .v (.int .i64 d), .v (.int .i64 k), .v (.int .i64 fu), .v (.int .i64 li), .v (.int .i64 de), .v (.int .i64 id)]), (1, .row 79 3 ((allK li fu de (ls.take x.1)).map Et.av))]⟩) (fun x => ls.length - x.1) ⟨0, Nat.zero_le _⟩ ?_ ?_
  · refine ⟨by repeat' (first | exact trivial | exact FinA.one (FinB.cell (FinC.same rfl)) | exact FinA.one (FinB.cell FinC.nil) | exact FinA.bound rfl | exact FinA.one (FinB.cell (FinC.own rfl rfl rfl rfl)) | exact FinA.one (FinB.cell (FinC.v (by first | rfl | (simp)))) | exact FinA.one (FinB.cell (FinC.ow rfl (by first | rfl | (simp)))) | exact FinA.one (FinB.agg' rfl rfl) | refine ⟨⟨_, rfl, ?_⟩, ?_⟩), by repeat' (first | exact trivial | refine ⟨⟨_, rfl, by first | rfl | (simp; done) | (simp [renO, *]; done)⟩, by first | rfl | assumption, ?_⟩), rfl⟩
  rintro ⟨q, hq⟩
  dsimp only
  by_cases hlt : q < ls.length
  · have hel : (ls.map inAv)[q]? = some (inAv ls[q]) := by simp [hlt]
    have hm := List.getElem_mem hlt
    have hRK := m_rKept g s d k fu li de id ls[q] (hls _ hm) hli (by have := (hes _ hm).1; omega)
    have hsn : (allK li fu de (ls.take (q + 1))).map Et.av = (allK li fu de (ls.take q)).map Et.av ++ (keptE li fu de 0 ls[q]).map Et.av := by
      rw [take_snoc ls q hlt]
      unfold allK
      rw [List.flatMap_append, List.map_append]
      simp only [List.flatMap_cons, List.flatMap_nil, List.append_nil]
    have hTl := allK_len (li := li) (fu := fu) (de := de) (ls := ls.take q) fun es he => (hes es (List.mem_of_mem_take he)).1
    rw [List.length_take, Nat.min_eq_left hq, ← List.length_map (f := Et.av)] at hTl
    have hEl := keptE_len (li := li) (fu := fu) (de := de) (es := ls[q]) (m := 0)
    have hE2 := (hes _ hm).1
    rw [← List.length_map (f := Et.av)] at hEl
    generalize (allK li fu de (ls.take q)).map Et.av = T at *
    generalize (keptE li fu de 0 ls[q]).map Et.av = U at *
    generalize ls[q] = es at *
    repeat' (first | ((first | apply o_do | apply d_do | apply d_yes rfl rfl rfl); first | exact ls_indexAddr_sl tab_ok rfl rfl rfl rfl hel rfl | exact lsc (hRK) | exact ls_append tab_ok rfl rfl rfl rfl (by first | exact SrcIs.sl | exact SrcIs.nil | exact SrcIs.own rfl rfl) rfl (by (try simp only [List.length_cons, List.length_nil]); (omega)) rfl rfl | exact lsq) | first | refine a_seq ?_ | refine a_region ?_ | refine o_nil ?_ | refine a_block ?_ | refine a_ret ?_ | refine a_exit ?_ | refine a_skip ?_ | refine a_draw mixed ?_ | refine d_nil (by kernel_rfl) ?_ | first | refine o_yes rfl rfl rfl ?_ | refine o_no rfl rfl rfl (by decide) ?_ | refine o_no' rfl rfl rfl ?_ | refine a_condT rfl ?_ | refine a_condF rfl ?_ | refine d_no rfl rfl rfl (by decide) ?_ | refine d_no' rfl rfl rfl ?_ | ((first | refine o_split_t rfl rfl rfl (fun hb => ?_) (fun hb => ?_) | refine o_split_f rfl rfl rfl (fun hb => ?_) (fun hb => ?_) | refine a_cond rfl (fun hb => ?_) (fun hb => ?_) | refine d_split rfl rfl (fun hb => ?_) (fun hb => ?_)) <;> (simp only [hb]; try simp only [decide_eq_true_eq, decide_eq_false_iff_not, Bool.not_eq_true', Bool.not_eq_false', Bool.not_eq_true, Bool.not_eq_false, ne_eq, Decidable.not_not] at hb; try (exfalso; first | omega | exact hb trivial))))
    refine ⟨⟨q + 1, by omega⟩, by dsimp only; omega, ?_⟩
    refine ⟨by repeat' (first | exact trivial | exact FinA.one (FinB.cell (FinC.same rfl)) | exact FinA.one (FinB.cell FinC.nil) | exact FinA.bound rfl | exact FinA.one (FinB.cell (FinC.own rfl rfl rfl rfl)) | exact FinA.one (FinB.cell (FinC.v (by first | rfl | ((first | (simp; done) | (simp only [hsn]; rfl) | (simp only [hsn]; done)))))) | exact FinA.one (FinB.cell (FinC.ow rfl (by first | rfl | ((first | (simp; done) | (simp only [hsn]; rfl) | (simp only [hsn]; done)))))) | exact FinA.one (FinB.agg' rfl rfl) | refine ⟨⟨_, rfl, ?_⟩, ?_⟩), by repeat' (first | exact trivial | refine ⟨⟨_, rfl, by first | rfl | ((first | (simp; done) | (simp only [hsn]; rfl) | (simp only [hsn]; done)); done) | (simp [renO, *]; done)⟩, by first | rfl | assumption, ?_⟩), rfl⟩
  · obtain rfl : q = ls.length := by omega
    rw [List.take_length]
    generalize allK li fu de ls = K at *
    have hVl := allVals_len (s := s) (d := d) (es := K)
    have hVok := allVals_ok hfr hw hKo
    obtain ⟨full, hfull⟩ : ∃ full, allVals s d K = full := ⟨_, rfl⟩
    rw [hfull] at hVl hVok ⊢
    repeat' (first | ((first | apply o_do | apply d_do | apply d_yes rfl rfl rfl); exact lsq) | first | refine a_seq ?_ | refine a_region ?_ | refine o_nil ?_ | refine a_block ?_ | refine a_ret ?_ | refine a_exit ?_ | refine a_skip ?_ | refine a_draw mixed ?_ | refine d_nil (by kernel_rfl) ?_ | first | refine o_yes rfl rfl rfl ?_ | refine o_no rfl rfl rfl (by decide) ?_ | refine o_no' rfl rfl rfl ?_ | refine a_condT rfl ?_ | refine a_condF rfl ?_ | refine d_no rfl rfl rfl (by decide) ?_ | refine d_no' rfl rfl rfl ?_ | ((first | refine o_split_t rfl rfl rfl (fun hb => ?_) (fun hb => ?_) | refine o_split_f rfl rfl rfl (fun hb => ?_) (fun hb => ?_) | refine a_cond rfl (fun hb => ?_) (fun hb => ?_) | refine d_split rfl rfl (fun hb => ?_) (fun hb => ?_)) <;> (simp only [hb]; try simp only [decide_eq_true_eq, decide_eq_false_iff_not, Bool.not_eq_true', Bool.not_eq_false', Bool.not_eq_true, Bool.not_eq_false, ne_eq, Decidable.not_not] at hb; try (exfalso; first | omega | exact hb trivial))))
    refine a_loop (X := {x : Nat × List Pn // x.1 ≤ K.length ∧ x.2 = rowV k (full.filter (seenV (allVals s d (K.take x.1)))) ∧ x.2.length ≤ 2000}) (fun x => ⟨[(2, .ref 0 0), (6, .sl 3 (K.map Et.av)), (9, .sl 6 (x.1.2.map Pn.av)), (34, .sl 3 (K.map Et.av)), (35, .v (.int .i64 K.length)), (36, .v (.int .i64 x.1.1))], [(0, .box 23 [.v (.int .i64 g), .v (.int .i64 s), .v (.int .i64 d), .v (.int .i64 k), .v (.int .i64 fu), .v (.int .i64 li), .v (.int .i64 de), .v (.int .i64 id)])]⟩) (fun x => K.length - x.1.1) ⟨(0, []), Nat.zero_le _, by rw [show allVals s d (K.take 0) = [] from rfl, seen_none]; rfl, by simp⟩ ?_ ?_
    · refine ⟨by repeat' (first | exact trivial | exact FinA.one (FinB.cell (FinC.same rfl)) | exact FinA.one (FinB.cell FinC.nil) | exact FinA.bound rfl | exact FinA.one (FinB.cell (FinC.own rfl rfl rfl rfl)) | exact FinA.one (FinB.cell (FinC.v (by first | rfl | (simp)))) | exact FinA.one (FinB.cell (FinC.ow rfl (by first | rfl | (simp)))) | exact FinA.one (FinB.agg' rfl rfl) | refine ⟨⟨_, rfl, ?_⟩, ?_⟩), by repeat' (first | exact trivial | refine ⟨⟨_, rfl, by first | rfl | (simp; done) | (simp [renO, *]; done)⟩, by first | rfl | assumption, ?_⟩), rfl⟩
    rintro ⟨⟨i, R⟩, hi, hR, hRl⟩
    dsimp only at hi hR hRl ⊢
    by_cases hil : i < K.length
    · have hel : (K.map Et.av)[i]? = some (Et.av K[i]) := by simp [hil]
      have hKm := List.getElem_mem hil
      have hOf := p_rOf s d K[i].at'
      have hev := hKo _ hKm
      have hwl := winL_len s d K[i].at'
      have hpre : allVals s d (K.take (i + 1)) = allVals s d (K.take i) ++ valsV s d K[i] := by rw [take_snoc K i hil, allVals_snoc]
      have hfm : ∀ x ∈ valsV s d K[i], x ∈ full := fun x hx => by rw [← hfull]; exact List.mem_flatMap.2 ⟨_, hKm, hx⟩
      have hvals : ∀ w ∈ winL s d K[i].at', ∀ v0, valsR K[i].key w.lo w.hi K = (full.filter (plB ⟨K[i].key, w.lo, w.hi, v0⟩)).map Vl.v := fun w hwm v0 => by rw [← hfull]; exact vals_eq hw (okT_of hw hev) hwm _ _ hKo
      have hVw : valsV s d K[i] = (winL s d K[i].at').map fun w => ⟨K[i].key, w.lo, w.hi, K[i].v⟩ := rfl
      generalize allVals s d (K.take i) = pre at *
      generalize K[i] = e at *
      generalize winL s d e.at' = ws at *
      rw [hVw] at hpre hfm
      clear hVw hKm hev
      repeat' (first | ((first | apply o_do | apply d_do | apply d_yes rfl rfl rfl); first | exact ls_indexAddr_sl tab_ok rfl rfl rfl rfl hel rfl | exact lsc (hOf) | exact lsq) | first | refine a_seq ?_ | refine a_region ?_ | refine o_nil ?_ | refine a_block ?_ | refine a_ret ?_ | refine a_exit ?_ | refine a_skip ?_ | refine a_draw mixed ?_ | refine d_nil (by kernel_rfl) ?_ | first | refine o_yes rfl rfl rfl ?_ | refine o_no rfl rfl rfl (by decide) ?_ | refine o_no' rfl rfl rfl ?_ | refine a_condT rfl ?_ | refine a_condF rfl ?_ | refine d_no rfl rfl rfl (by decide) ?_ | refine d_no' rfl rfl rfl ?_ | ((first | refine o_split_t rfl rfl rfl (fun hb => ?_) (fun hb => ?_) | refine o_split_f rfl rfl rfl (fun hb => ?_) (fun hb => ?_) | refine a_cond rfl (fun hb => ?_) (fun hb => ?_) | refine d_split rfl rfl (fun hb => ?_) (fun hb => ?_)) <;> (simp only [hb]; try simp only [decide_eq_true_eq, decide_eq_false_iff_not, Bool.not_eq_true', Bool.not_eq_false', Bool.not_eq_true, Bool.not_eq_false, ne_eq, Decidable.not_not] at hb; try (exfalso; first | omega | exact hb trivial))))
      refine a_loop (X := {x : Nat × List Pn // x.1 ≤ ws.length ∧ x.2 = rowV k (full.filter (seenV (pre ++ (ws.map fun w => (⟨e.key, w.lo, w.hi, e.v⟩ : Vl)).take x.1))) ∧ x.2.length ≤ 2000}) (fun x => ⟨[(2, .ref 0 0), (6, .sl 3 (K.map Et.av)), (9, .sl 6 (x.1.2.map Pn.av)), (11, .ref 1 0), (34, .sl 3 (K.map Et.av)), (35, .v (.int .i64 K.length)), (36, .v (.int .i64 i)), (46, .sl 2 (ws.map Wn.av)), (47, .v (.int .i64 ws.length)), (48, .v (.int .i64 x.1.1))], [(0, .box 23 [.v (.int .i64 g), .v (.int .i64 s), .v (.int .i64 d), .v (.int .i64 k), .v (.int .i64 fu), .v (.int .i64 li), .v (.int .i64 de), .v (.int .i64 id)]), (1, .box 79 [.v (.string e.key), .v (.int .i64 e.at'), .v (.int .i64 e.v)])]⟩) (fun x => ws.length - x.1.1) ⟨(0, R), Nat.zero_le _, by simpa using hR, hRl⟩ ?_ ?_
      · refine ⟨by repeat' (first | exact trivial | exact FinA.one (FinB.cell (FinC.same rfl)) | exact FinA.one (FinB.cell FinC.nil) | exact FinA.bound rfl | exact FinA.one (FinB.cell (FinC.own rfl rfl rfl rfl)) | exact FinA.one (FinB.cell (FinC.v (by first | rfl | (simp)))) | exact FinA.one (FinB.cell (FinC.ow rfl (by first | rfl | (simp)))) | exact FinA.one (FinB.agg' rfl rfl) | refine ⟨⟨_, rfl, ?_⟩, ?_⟩), by repeat' (first | exact trivial | refine ⟨⟨_, rfl, by first | rfl | (simp; done) | (simp [renO, *]; done)⟩, by first | rfl | assumption, ?_⟩), rfl⟩
      rintro ⟨⟨j, R1⟩, hj, hR1, hR1l⟩
      dsimp only at hj hR1 hR1l ⊢
      by_cases hjl : j < ws.length
      · have hel2 : (ws.map Wn.av)[j]? = some (Wn.av ws[j]) := by simp [hjl]
        have hwm := List.getElem_mem hjl
        obtain ⟨x, hx⟩ : ∃ x : Vl, x = ⟨e.key, ws[j].lo, ws[j].hi, e.v⟩ := ⟨_, rfl⟩
        have hjm : j < (ws.map fun w => (⟨e.key, w.lo, w.hi, e.v⟩ : Vl)).length := by rw [List.length_map]; exact hjl
        have hxj : (ws.map fun w => (⟨e.key, w.lo, w.hi, e.v⟩ : Vl))[j] = x := by rw [List.getElem_map, hx]
        have hstep := lay_step hfr hVok (by omega) (pre := pre ++ (ws.map fun w => (⟨e.key, w.lo, w.hi, e.v⟩ : Vl)).take j) (hfm x (by rw [← hxj]; exact List.getElem_mem hjm))
        have hnext : pre ++ (ws.map fun w => (⟨e.key, w.lo, w.hi, e.v⟩ : Vl)).take (j + 1) = (pre ++ (ws.map fun w => (⟨e.key, w.lo, w.hi, e.v⟩ : Vl)).take j) ++ [x] := by rw [take_snoc _ j hjm, hxj, List.append_assoc]
        have hright : rightL R1 = true := by
          rw [hR1]
          refine rowM_right (fun y hy => hVok y (List.mem_filter.1 hy).1) (Nat.le_trans (List.length_filter_le _ _) (by omega)) (by rw [← hR1]; exact hR1l)
        have hmono := seen_mono (k := k) (full := full) (pre := pre ++ (ws.map fun w => (⟨e.key, w.lo, w.hi, e.v⟩ : Vl)).take (j + 1)) (by omega) hVok
        rw [← hR1, ← hnext, hx, ← hvals _ hwm e.v, ← hx] at hstep
        have hV := m_rvals K e.key ws[j].lo ws[j].hi (by omega)
        have hAll := p_rAllN (valsR e.key ws[j].lo ws[j].hi K) k hfr (fun v hv => by obtain ⟨y, hy, rfl⟩ := List.mem_map.1 hv; exact hKv y (List.mem_filter.1 hy).1) (Nat.le_trans valsR_len (by omega))
        have hput := fun h => put_lay (x := x) (vs := valsR e.key ws[j].lo ws[j].hi K) hR1l h (k := k)
        generalize valsR e.key ws[j].lo ws[j].hi K = vs at *
        have hWith := p_With R1 k ws[j].lo ws[j].hi e.key (fAllV k vs).n (fAllV k vs).a (fAllV k vs).b hright
        have hpo : paneOf k x vs = ⟨ws[j].lo, ws[j].hi, e.key, (fAllV k vs).n, (fAllV k vs).a, (fAllV k vs).b⟩ := by rw [hx]; rfl
        rw [← hpo] at hWith
        generalize ws[j] = w at *
        generalize fAllV k vs = acc at *
        repeat' (first | ((first | apply o_do | apply d_do | apply d_yes rfl rfl rfl); first | exact ls_indexAddr_sl tab_ok rfl rfl rfl rfl hel2 rfl | exact lsc (hV) | exact lsc (hAll) | exact lsq) | first | refine a_seq ?_ | refine a_region ?_ | refine o_nil ?_ | refine a_block ?_ | refine a_ret ?_ | refine a_exit ?_ | refine a_skip ?_ | refine a_draw mixed ?_ | refine d_nil (by kernel_rfl) ?_ | first | refine o_yes rfl rfl rfl ?_ | refine o_no rfl rfl rfl (by decide) ?_ | refine o_no' rfl rfl rfl ?_ | refine a_condT rfl ?_ | refine a_condF rfl ?_ | refine d_no rfl rfl rfl (by decide) ?_ | refine d_no' rfl rfl rfl ?_ | ((first | refine o_split_t rfl rfl rfl (fun hb => ?_) (fun hb => ?_) | refine o_split_f rfl rfl rfl (fun hb => ?_) (fun hb => ?_) | refine a_cond rfl (fun hb => ?_) (fun hb => ?_) | refine d_split rfl rfl (fun hb => ?_) (fun hb => ?_)) <;> (simp only [hb]; try simp only [decide_eq_true_eq, decide_eq_false_iff_not, Bool.not_eq_true', Bool.not_eq_false', Bool.not_eq_true, Bool.not_eq_false, ne_eq, Decidable.not_not] at hb; try (exfalso; first | omega | exact hb trivial))))
        refine a_loop (X := {m : Nat // m ≤ R1.length}) (fun y => ⟨[(2, .ref 0 0), (6, .sl 3 (K.map Et.av)), (9, .sl 6 (R1.map Pn.av)), (11, .ref 1 0), (13, .ref 2 0), (14, .ref 3 0), (15, .v (.bool ((R1.take y.1).any (plP x)))), (34, .sl 3 (K.map Et.av)), (35, .v (.int .i64 K.length)), (36, .v (.int .i64 i)), (46, .sl 2 (ws.map Wn.av)), (47, .v (.int .i64 ws.length)), (48, .v (.int .i64 j)), (64, .sl 6 (R1.map Pn.av)), (65, .v (.int .i64 R1.length)), (66, .v (.int .i64 y.1))], [(0, .box 23 [.v (.int .i64 g), .v (.int .i64 s), .v (.int .i64 d), .v (.int .i64 k), .v (.int .i64 fu), .v (.int .i64 li), .v (.int .i64 de), .v (.int .i64 id)]), (1, .box 79 [.v (.string e.key), .v (.int .i64 e.at'), .v (.int .i64 e.v)]), (2, .box 37 [.v (.int .i64 w.lo), .v (.int .i64 w.hi)]), (3, .box 41 [.v (.int .i64 w.lo), .v (.int .i64 w.hi), .v (.string e.key), .v (.int .i64 acc.n), .v (.int .i64 acc.a), .v (.int .i64 acc.b)])]⟩) (fun y => R1.length - y.1) ⟨0, Nat.zero_le _⟩ ?_ ?_
        · refine ⟨by repeat' (first | exact trivial | exact FinA.one (FinB.cell (FinC.same rfl)) | exact FinA.one (FinB.cell FinC.nil) | exact FinA.bound rfl | exact FinA.one (FinB.cell (FinC.own rfl rfl rfl rfl)) | exact FinA.one (FinB.cell (FinC.v (by first | rfl | (simp)))) | exact FinA.one (FinB.cell (FinC.ow rfl (by first | rfl | (simp)))) | exact FinA.one (FinB.agg' rfl rfl) | refine ⟨⟨_, rfl, ?_⟩, ?_⟩), by repeat' (first | exact trivial | refine ⟨⟨_, rfl, by first | rfl | (simp; done) | (simp [renO, *]; done)⟩, by first | rfl | assumption, ?_⟩), rfl⟩
        rintro ⟨m, hm⟩
        dsimp only
        by_cases hml : m < R1.length
        · have hel3 : (R1.map Pn.av)[m]? = some (Pn.av R1[m]) := by simp [hml]
          have hany := any_snoc (p := plP x) hml
          generalize (R1.take m).any (plP x) = tb at *
          generalize R1[m] = y at *
          have hy : plP x y = ((y.key.toList == e.key.toList) && (decide (y.lo = w.lo) && decide (y.hi = w.hi))) := by rw [hx]; rfl
          rw [hy] at hany
          cases tb
          · repeat' (first | ((first | apply o_do | apply d_do | apply d_yes rfl rfl rfl); first | exact ls_indexAddr_sl tab_ok rfl rfl rfl rfl hel3 rfl | exact ls_eqWin y.lo y.hi w.lo w.hi rfl rfl rfl | exact lsq) | first | refine a_seq ?_ | refine a_region ?_ | refine o_nil ?_ | refine a_block ?_ | refine a_ret ?_ | refine a_exit ?_ | refine a_skip ?_ | refine a_draw mixed ?_ | refine d_nil (by kernel_rfl) ?_ | first | refine o_yes rfl rfl rfl ?_ | refine o_no rfl rfl rfl (by decide) ?_ | refine o_no' rfl rfl rfl ?_ | refine a_condT rfl ?_ | refine a_condF rfl ?_ | refine d_no rfl rfl rfl (by decide) ?_ | refine d_no' rfl rfl rfl ?_ | ((first | refine o_split_t rfl rfl rfl (fun hb => ?_) (fun hb => ?_) | refine o_split_f rfl rfl rfl (fun hb => ?_) (fun hb => ?_) | refine a_cond rfl (fun hb => ?_) (fun hb => ?_) | refine d_split rfl rfl (fun hb => ?_) (fun hb => ?_)) <;> (simp only [hb]; try simp only [decide_eq_true_eq, decide_eq_false_iff_not, Bool.not_eq_true', Bool.not_eq_false', Bool.not_eq_true, Bool.not_eq_false, ne_eq, Decidable.not_not] at hb; try (exfalso; first | omega | exact hb trivial))))
            all_goals refine ⟨⟨m + 1, by omega⟩, by dsimp only; omega, ?_⟩
            all_goals refine ⟨by repeat' (first | exact trivial | exact FinA.one (FinB.cell (FinC.same rfl)) | exact FinA.one (FinB.cell FinC.nil) | exact FinA.bound rfl | exact FinA.one (FinB.cell (FinC.own rfl rfl rfl rfl)) | exact FinA.one (FinB.cell (FinC.v (by first | rfl | ((first | (simp; done) | (simp only [hany]; simp [*]; done) | (simp only [hany]; simp_all; done)))))) | exact FinA.one (FinB.cell (FinC.ow rfl (by first | rfl | ((first | (simp; done) | (simp only [hany]; simp [*]; done) | (simp only [hany]; simp_all; done)))))) | exact FinA.one (FinB.agg' rfl rfl) | refine ⟨⟨_, rfl, ?_⟩, ?_⟩), by repeat' (first | exact trivial | refine ⟨⟨_, rfl, by first | rfl | ((first | (simp; done) | (simp only [hany]; simp [*]; done) | (simp only [hany]; simp_all; done)); done) | (simp [renO, *]; done)⟩, by first | rfl | assumption, ?_⟩), rfl⟩
          · repeat' (first | ((first | apply o_do | apply d_do | apply d_yes rfl rfl rfl); first | exact ls_indexAddr_sl tab_ok rfl rfl rfl rfl hel3 rfl | exact ls_eqWin y.lo y.hi w.lo w.hi rfl rfl rfl | exact lsq) | first | refine a_seq ?_ | refine a_region ?_ | refine o_nil ?_ | refine a_block ?_ | refine a_ret ?_ | refine a_exit ?_ | refine a_skip ?_ | refine a_draw mixed ?_ | refine d_nil (by kernel_rfl) ?_ | first | refine o_yes rfl rfl rfl ?_ | refine o_no rfl rfl rfl (by decide) ?_ | refine o_no' rfl rfl rfl ?_ | refine a_condT rfl ?_ | refine a_condF rfl ?_ | refine d_no rfl rfl rfl (by decide) ?_ | refine d_no' rfl rfl rfl ?_ | ((first | refine o_split_t rfl rfl rfl (fun hb => ?_) (fun hb => ?_) | refine o_split_f rfl rfl rfl (fun hb => ?_) (fun hb => ?_) | refine a_cond rfl (fun hb => ?_) (fun hb => ?_) | refine d_split rfl rfl (fun hb => ?_) (fun hb => ?_)) <;> (simp only [hb]; try simp only [decide_eq_true_eq, decide_eq_false_iff_not, Bool.not_eq_true', Bool.not_eq_false', Bool.not_eq_true, Bool.not_eq_false, ne_eq, Decidable.not_not] at hb; try (exfalso; first | omega | exact hb trivial))))
            all_goals refine ⟨⟨m + 1, by omega⟩, by dsimp only; omega, ?_⟩
            all_goals refine ⟨by repeat' (first | exact trivial | exact FinA.one (FinB.cell (FinC.same rfl)) | exact FinA.one (FinB.cell FinC.nil) | exact FinA.bound rfl | exact FinA.one (FinB.cell (FinC.own rfl rfl rfl rfl)) | exact FinA.one (FinB.cell (FinC.v (by first | rfl | ((first | (simp; done) | (simp only [hany]; simp [*]; done)))))) | exact FinA.one (FinB.cell (FinC.ow rfl (by first | rfl | ((first | (simp; done) | (simp only [hany]; simp [*]; done)))))) | exact FinA.one (FinB.agg' rfl rfl) | refine ⟨⟨_, rfl, ?_⟩, ?_⟩), by repeat' (first | exact trivial | refine ⟨⟨_, rfl, by first | rfl | ((first | (simp; done) | (simp only [hany]; simp [*]; done)); done) | (simp [renO, *]; done)⟩, by first | rfl | assumption, ?_⟩), rfl⟩
        · obtain rfl : m = R1.length := by omega
          rw [List.take_length]
          cases hany : R1.any (plP x)
          · have hput := hput hany
            rw [hput] at hWith
            simp only [hany, Bool.false_eq_true, if_false] at hstep
            rw [hpo] at hWith hstep
            rw [← hstep] at hmono
            by_cases h2 : (insP k R1 ⟨w.lo, w.hi, e.key, acc.n, acc.a, acc.b⟩).length ≤ 2000
            · rw [if_pos h2] at hWith
              dsimp only [PR.av] at hWith
              generalize insP k R1 ⟨w.lo, w.hi, e.key, acc.n, acc.a, acc.b⟩ = R2 at *
              repeat' (first | ((first | apply o_do | apply d_do | apply d_yes rfl rfl rfl); first | exact lsc (hWith) | exact lsq) | first | refine a_seq ?_ | refine a_region ?_ | refine o_nil ?_ | refine a_block ?_ | refine a_ret ?_ | refine a_exit ?_ | refine a_skip ?_ | refine a_draw mixed ?_ | refine d_nil (by kernel_rfl) ?_ | first | refine o_yes rfl rfl rfl ?_ | refine o_no rfl rfl rfl (by decide) ?_ | refine o_no' rfl rfl rfl ?_ | refine a_condT rfl ?_ | refine a_condF rfl ?_ | refine d_no rfl rfl rfl (by decide) ?_ | refine d_no' rfl rfl rfl ?_ | ((first | refine o_split_t rfl rfl rfl (fun hb => ?_) (fun hb => ?_) | refine o_split_f rfl rfl rfl (fun hb => ?_) (fun hb => ?_) | refine a_cond rfl (fun hb => ?_) (fun hb => ?_) | refine d_split rfl rfl (fun hb => ?_) (fun hb => ?_)) <;> (simp only [hb]; try simp only [decide_eq_true_eq, decide_eq_false_iff_not, Bool.not_eq_true', Bool.not_eq_false', Bool.not_eq_true, Bool.not_eq_false, ne_eq, Decidable.not_not] at hb; try (exfalso; first | omega | exact hb trivial))))
              refine ⟨⟨(j + 1, R2), by dsimp only; omega, hstep, h2⟩, by dsimp only; omega, ?_⟩
              refine ⟨by repeat' (first | exact trivial | exact FinA.one (FinB.cell (FinC.same rfl)) | exact FinA.one (FinB.cell FinC.nil) | exact FinA.bound rfl | exact FinA.one (FinB.cell (FinC.own rfl rfl rfl rfl)) | exact FinA.one (FinB.cell (FinC.v (by first | rfl | (simp)))) | exact FinA.one (FinB.cell (FinC.ow rfl (by first | rfl | (simp)))) | exact FinA.one (FinB.agg' rfl rfl) | refine ⟨⟨_, rfl, ?_⟩, ?_⟩), by repeat' (first | exact trivial | refine ⟨⟨_, rfl, by first | rfl | (simp; done) | (simp [renO, *]; done)⟩, by first | rfl | assumption, ?_⟩), rfl⟩
            · rw [if_neg h2] at hWith
              dsimp only [PR.av, List.map_nil] at hWith
              have hout : outR k full = ([], 3) := by unfold outR; rw [if_neg (by omega)]
              rw [hout]
              repeat' (first | ((first | apply o_do | apply d_do | apply d_yes rfl rfl rfl); first | exact lsc (hWith) | exact lsq) | first | refine a_seq ?_ | refine a_region ?_ | refine o_nil ?_ | refine a_block ?_ | refine a_ret ?_ | refine a_exit ?_ | refine a_skip ?_ | refine a_draw mixed ?_ | refine d_nil (by kernel_rfl) ?_ | first | refine o_yes rfl rfl rfl ?_ | refine o_no rfl rfl rfl (by decide) ?_ | refine o_no' rfl rfl rfl ?_ | refine a_condT rfl ?_ | refine a_condF rfl ?_ | refine d_no rfl rfl rfl (by decide) ?_ | refine d_no' rfl rfl rfl ?_ | ((first | refine o_split_t rfl rfl rfl (fun hb => ?_) (fun hb => ?_) | refine o_split_f rfl rfl rfl (fun hb => ?_) (fun hb => ?_) | refine a_cond rfl (fun hb => ?_) (fun hb => ?_) | refine d_split rfl rfl (fun hb => ?_) (fun hb => ?_)) <;> (simp only [hb]; try simp only [decide_eq_true_eq, decide_eq_false_iff_not, Bool.not_eq_true', Bool.not_eq_false', Bool.not_eq_true, Bool.not_eq_false, ne_eq, Decidable.not_not] at hb; try (exfalso; first | omega | exact hb trivial))))
              all_goals refine ⟨by first | exact .inr rfl | exact .inl rfl, _, rfl, ?_, by repeat' (first | exact trivial | refine ⟨⟨_, rfl, by first | rfl | (simp [renO, *]; done)⟩, by first | rfl | assumption, ?_⟩)⟩
              all_goals (first | refine FinA.tup ?_ | refine FinA.one ?_); repeat' (first | exact FinBs.nil | exact FinCs.nil | refine FinBs.cons ?_ ?_ | refine FinCs.cons ?_ ?_ | refine FinB.cell (FinC.v ?_) | refine FinB.cell (FinC.own rfl rfl rfl ?_) | exact FinB.cell FinC.nil | refine FinB.cell (FinC.sl ?_) | exact FinB.agg' rfl rfl | exact FinB.cell (FinC.same rfl) | refine FinB.agg ?_ | refine FinC.v ?_ | refine FinC.own rfl rfl rfl ?_ | exact FinC.nil | refine FinC.sl ?_ | exact FinC.same rfl); all_goals try rfl
          · simp only [hany, if_true] at hstep
            repeat' (first | ((first | apply o_do | apply d_do | apply d_yes rfl rfl rfl); exact lsq) | first | refine a_seq ?_ | refine a_region ?_ | refine o_nil ?_ | refine a_block ?_ | refine a_ret ?_ | refine a_exit ?_ | refine a_skip ?_ | refine a_draw mixed ?_ | refine d_nil (by kernel_rfl) ?_ | first | refine o_yes rfl rfl rfl ?_ | refine o_no rfl rfl rfl (by decide) ?_ | refine o_no' rfl rfl rfl ?_ | refine a_condT rfl ?_ | refine a_condF rfl ?_ | refine d_no rfl rfl rfl (by decide) ?_ | refine d_no' rfl rfl rfl ?_ | ((first | refine o_split_t rfl rfl rfl (fun hb => ?_) (fun hb => ?_) | refine o_split_f rfl rfl rfl (fun hb => ?_) (fun hb => ?_) | refine a_cond rfl (fun hb => ?_) (fun hb => ?_) | refine d_split rfl rfl (fun hb => ?_) (fun hb => ?_)) <;> (simp only [hb]; try simp only [decide_eq_true_eq, decide_eq_false_iff_not, Bool.not_eq_true', Bool.not_eq_false', Bool.not_eq_true, Bool.not_eq_false, ne_eq, Decidable.not_not] at hb; try (exfalso; first | omega | exact hb trivial))))
            refine ⟨⟨(j + 1, R1), by dsimp only; omega, hstep, hR1l⟩, by dsimp only; omega, ?_⟩
            refine ⟨by repeat' (first | exact trivial | exact FinA.one (FinB.cell (FinC.same rfl)) | exact FinA.one (FinB.cell FinC.nil) | exact FinA.bound rfl | exact FinA.one (FinB.cell (FinC.own rfl rfl rfl rfl)) | exact FinA.one (FinB.cell (FinC.v (by first | rfl | (simp)))) | exact FinA.one (FinB.cell (FinC.ow rfl (by first | rfl | (simp)))) | exact FinA.one (FinB.agg' rfl rfl) | refine ⟨⟨_, rfl, ?_⟩, ?_⟩), by repeat' (first | exact trivial | refine ⟨⟨_, rfl, by first | rfl | (simp; done) | (simp [renO, *]; done)⟩, by first | rfl | assumption, ?_⟩), rfl⟩
      · obtain rfl : j = ws.length := by omega
        rw [List.take_of_length_le (by simp), ← hpre] at hR1
        repeat' (first | ((first | apply o_do | apply d_do | apply d_yes rfl rfl rfl); exact lsq) | first | refine a_seq ?_ | refine a_region ?_ | refine o_nil ?_ | refine a_block ?_ | refine a_ret ?_ | refine a_exit ?_ | refine a_skip ?_ | refine a_draw mixed ?_ | refine d_nil (by kernel_rfl) ?_ | first | refine o_yes rfl rfl rfl ?_ | refine o_no rfl rfl rfl (by decide) ?_ | refine o_no' rfl rfl rfl ?_ | refine a_condT rfl ?_ | refine a_condF rfl ?_ | refine d_no rfl rfl rfl (by decide) ?_ | refine d_no' rfl rfl rfl ?_ | ((first | refine o_split_t rfl rfl rfl (fun hb => ?_) (fun hb => ?_) | refine o_split_f rfl rfl rfl (fun hb => ?_) (fun hb => ?_) | refine a_cond rfl (fun hb => ?_) (fun hb => ?_) | refine d_split rfl rfl (fun hb => ?_) (fun hb => ?_)) <;> (simp only [hb]; try simp only [decide_eq_true_eq, decide_eq_false_iff_not, Bool.not_eq_true', Bool.not_eq_false', Bool.not_eq_true, Bool.not_eq_false, ne_eq, Decidable.not_not] at hb; try (exfalso; first | omega | exact hb trivial))))
        refine ⟨⟨(i + 1, R1), by dsimp only; omega, hR1, hR1l⟩, by dsimp only; omega, ?_⟩
        refine ⟨by repeat' (first | exact trivial | exact FinA.one (FinB.cell (FinC.same rfl)) | exact FinA.one (FinB.cell FinC.nil) | exact FinA.bound rfl | exact FinA.one (FinB.cell (FinC.own rfl rfl rfl rfl)) | exact FinA.one (FinB.cell (FinC.v (by first | rfl | (simp)))) | exact FinA.one (FinB.cell (FinC.ow rfl (by first | rfl | (simp)))) | exact FinA.one (FinB.agg' rfl rfl) | refine ⟨⟨_, rfl, ?_⟩, ?_⟩), by repeat' (first | exact trivial | refine ⟨⟨_, rfl, by first | rfl | (simp; done) | (simp [renO, *]; done)⟩, by first | rfl | assumption, ?_⟩), rfl⟩
    · obtain rfl : i = K.length := by omega
      rw [List.take_length, hfull, seen_all] at hR
      have hout : outR k full = (resultsL k R, 0) := by unfold outR; rw [← hR, if_pos hRl]
      have hRes := p_rResults k R (by omega)
      rw [hout]
      clear hR hout
      generalize resultsL k R = U at *
      repeat' (first | ((first | apply o_do | apply d_do | apply d_yes rfl rfl rfl); first | exact lsc (hRes) | exact lsq) | first | refine a_seq ?_ | refine a_region ?_ | refine o_nil ?_ | refine a_block ?_ | refine a_ret ?_ | refine a_exit ?_ | refine a_skip ?_ | refine a_draw mixed ?_ | refine d_nil (by kernel_rfl) ?_ | first | refine o_yes rfl rfl rfl ?_ | refine o_no rfl rfl rfl (by decide) ?_ | refine o_no' rfl rfl rfl ?_ | refine a_condT rfl ?_ | refine a_condF rfl ?_ | refine d_no rfl rfl rfl (by decide) ?_ | refine d_no' rfl rfl rfl ?_ | ((first | refine o_split_t rfl rfl rfl (fun hb => ?_) (fun hb => ?_) | refine o_split_f rfl rfl rfl (fun hb => ?_) (fun hb => ?_) | refine a_cond rfl (fun hb => ?_) (fun hb => ?_) | refine d_split rfl rfl (fun hb => ?_) (fun hb => ?_)) <;> (simp only [hb]; try simp only [decide_eq_true_eq, decide_eq_false_iff_not, Bool.not_eq_true', Bool.not_eq_false', Bool.not_eq_true, Bool.not_eq_false, ne_eq, Decidable.not_not] at hb; try (exfalso; first | omega | exact hb trivial))))
      all_goals refine ⟨by first | exact .inr rfl | exact .inl rfl, _, rfl, ?_, by repeat' (first | exact trivial | refine ⟨⟨_, rfl, by first | rfl | (simp [renO, *]; done)⟩, by first | rfl | assumption, ?_⟩)⟩
      all_goals (first | refine FinA.tup ?_ | refine FinA.one ?_); repeat' (first | exact FinBs.nil | exact FinCs.nil | refine FinBs.cons ?_ ?_ | refine FinCs.cons ?_ ?_ | refine FinB.cell (FinC.v ?_) | refine FinB.cell (FinC.own rfl rfl rfl ?_) | exact FinB.cell FinC.nil | refine FinB.cell (FinC.sl ?_) | exact FinB.agg' rfl rfl | exact FinB.cell (FinC.same rfl) | refine FinB.agg ?_ | refine FinC.v ?_ | refine FinC.own rfl rfl rfl ?_ | exact FinC.nil | refine FinC.sl ?_ | exact FinC.same rfl); all_goals try rfl
end
end Go.Proofs.Ytimlkhbedhjehaa
namespace Go.Proofs.Ytimlkhbedhjehaa
open Go.RowKit
set_option linter.unusedSimpArgs false
set_option linter.unusedVariables false
set_option maxHeartbeats 8000000 in
set_option maxRecDepth 20000 in
theorem m_runs (g s d k fu li de id : Int) (ls : List (List Et)) (hx : Small ls) (hls : ∀ es ∈ ls, ∀ e ∈ es, -9223372036854775808 ≤ e.v ∧ e.v ≤ 9223372036854775807) (hli : li ≤ 9223372036854775807) :
    PC Try.prog 17 [.agg [.v (.int .i64 g), .v (.int .i64 s), .v (.int .i64 d), .v (.int .i64 k), .v (.int .i64 fu), .v (.int .i64 li), .v (.int .i64 de), .v (.int .i64 id)], .sl 1 (ls.map inAv)] (.v (.bool true)) := by
  have hF := m_few ls hx
  have hA := m_alive
  have hsm := fewI_small hx
  have hrg := fewI_range hls
  generalize fewI ls = fs at *
  have hR := m_Run g s d k fu li de id fs hsm hrg hli
  have hC := m_rCheck g s d k fu li de id fs hsm
  unfold runN at hR
  by_cases h0 : checkN g s d k fu li de id fs = 0
  · obtain ⟨hfr, hw, hl4, hes⟩ := check_parts h0
    have hRR := m_rRun g s d k fu li de id fs hfr hw hl4 hes hrg hli
    rw [if_pos h0] at hR
    rw [h0] at hC
    rcases outR_form k (allVals s d (allK li fu de fs)) with ⟨U, hU, hUl⟩ | hU
    · rw [hU] at hR hRR
      dsimp only [RR.av] at hR hRR
      have hL := p_LikeResults U (by omega)
      refine PC.mk (ac_body tab_ok Try.func17 rfl (by kernel_rfl) rfl ?_); intro w0 M μ0; simp only [Try.ntmps17, List.length_cons, List.length_nil, Nat.reduceAdd, Nat.reduceSub, numb]
      repeat' (first | ((first | apply o_do | apply d_do | apply d_yes rfl rfl rfl); first | exact lsc (hF) | exact lsc (hA) | exact lsc (hR) | exact lsc (hC) | exact lsc (hRR) | exact lsc (hL) | exact lsq) | first | refine a_seq ?_ | refine a_region ?_ | refine o_nil ?_ | refine a_block ?_ | refine a_ret ?_ | refine a_exit ?_ | refine a_skip ?_ | refine a_draw mixed ?_ | refine d_nil (by kernel_rfl) ?_ | first | refine o_yes rfl rfl rfl ?_ | refine o_no rfl rfl rfl (by decide) ?_ | refine o_no' rfl rfl rfl ?_ | refine a_condT rfl ?_ | refine a_condF rfl ?_ | refine d_no rfl rfl rfl (by decide) ?_ | refine d_no' rfl rfl rfl ?_ | ((first | refine o_split_t rfl rfl rfl (fun hb => ?_) (fun hb => ?_) | refine o_split_f rfl rfl rfl (fun hb => ?_) (fun hb => ?_) | refine a_cond rfl (fun hb => ?_) (fun hb => ?_) | refine d_split rfl rfl (fun hb => ?_) (fun hb => ?_)) <;> (simp only [hb]; try simp only [decide_eq_true_eq, decide_eq_false_iff_not, Bool.not_eq_true', Bool.not_eq_false', Bool.not_eq_true, Bool.not_eq_false, ne_eq, Decidable.not_not] at hb; try (exfalso; first | omega | exact hb trivial))))
      all_goals refine ⟨by first | exact .inr rfl | exact .inl rfl, _, rfl, ?_, by repeat' (first | exact trivial | refine ⟨⟨_, rfl, by first | rfl | (simp [renO, *]; done)⟩, by first | rfl | assumption, ?_⟩)⟩
      all_goals (first | refine FinA.tup ?_ | refine FinA.one ?_); repeat' (first | exact FinBs.nil | exact FinCs.nil | refine FinBs.cons ?_ ?_ | refine FinCs.cons ?_ ?_ | refine FinB.cell (FinC.v ?_) | refine FinB.cell (FinC.own rfl rfl rfl ?_) | exact FinB.cell FinC.nil | refine FinB.cell (FinC.sl ?_) | exact FinB.agg' rfl rfl | exact FinB.cell (FinC.same rfl) | refine FinB.agg ?_ | refine FinC.v ?_ | refine FinC.own rfl rfl rfl ?_ | exact FinC.nil | refine FinC.sl ?_ | exact FinC.same rfl); all_goals try rfl
      all_goals simp
    · rw [hU] at hR hRR
      dsimp only [RR.av, List.map_nil] at hR hRR
      have hL : PC Try.prog 29 [.sl 5 [], .sl 5 []] (.v (.bool true)) := p_LikeResults [] (by simp)
      refine PC.mk (ac_body tab_ok Try.func17 rfl (by kernel_rfl) rfl ?_); intro w0 M μ0; simp only [Try.ntmps17, List.length_cons, List.length_nil, Nat.reduceAdd, Nat.reduceSub, numb]
      repeat' (first | ((first | apply o_do | apply d_do | apply d_yes rfl rfl rfl); first | exact lsc (hF) | exact lsc (hA) | exact lsc (hR) | exact lsc (hC) | exact lsc (hRR) | exact lsc (hL) | exact lsq) | first | refine a_seq ?_ | refine a_region ?_ | refine o_nil ?_ | refine a_block ?_ | refine a_ret ?_ | refine a_exit ?_ | refine a_skip ?_ | refine a_draw mixed ?_ | refine d_nil (by kernel_rfl) ?_ | first | refine o_yes rfl rfl rfl ?_ | refine o_no rfl rfl rfl (by decide) ?_ | refine o_no' rfl rfl rfl ?_ | refine a_condT rfl ?_ | refine a_condF rfl ?_ | refine d_no rfl rfl rfl (by decide) ?_ | refine d_no' rfl rfl rfl ?_ | ((first | refine o_split_t rfl rfl rfl (fun hb => ?_) (fun hb => ?_) | refine o_split_f rfl rfl rfl (fun hb => ?_) (fun hb => ?_) | refine a_cond rfl (fun hb => ?_) (fun hb => ?_) | refine d_split rfl rfl (fun hb => ?_) (fun hb => ?_)) <;> (simp only [hb]; try simp only [decide_eq_true_eq, decide_eq_false_iff_not, Bool.not_eq_true', Bool.not_eq_false', Bool.not_eq_true, Bool.not_eq_false, ne_eq, Decidable.not_not] at hb; try (exfalso; first | omega | exact hb trivial))))
      all_goals refine ⟨by first | exact .inr rfl | exact .inl rfl, _, rfl, ?_, by repeat' (first | exact trivial | refine ⟨⟨_, rfl, by first | rfl | (simp [renO, *]; done)⟩, by first | rfl | assumption, ?_⟩)⟩
      all_goals (first | refine FinA.tup ?_ | refine FinA.one ?_); repeat' (first | exact FinBs.nil | exact FinCs.nil | refine FinBs.cons ?_ ?_ | refine FinCs.cons ?_ ?_ | refine FinB.cell (FinC.v ?_) | refine FinB.cell (FinC.own rfl rfl rfl ?_) | exact FinB.cell FinC.nil | refine FinB.cell (FinC.sl ?_) | exact FinB.agg' rfl rfl | exact FinB.cell (FinC.same rfl) | refine FinB.agg ?_ | refine FinC.v ?_ | refine FinC.own rfl rfl rfl ?_ | exact FinC.nil | refine FinC.sl ?_ | exact FinC.same rfl); all_goals try rfl
      all_goals simp
  · rw [if_neg h0] at hR
    dsimp only [RR.av, List.map_nil] at hR
    generalize checkN g s d k fu li de id fs = r at *
    refine PC.mk (ac_body tab_ok Try.func17 rfl (by kernel_rfl) rfl ?_); intro w0 M μ0; simp only [Try.ntmps17, List.length_cons, List.length_nil, Nat.reduceAdd, Nat.reduceSub, numb]
    repeat' (first | ((first | apply o_do | apply d_do | apply d_yes rfl rfl rfl); first | exact lsc (hF) | exact lsc (hA) | exact lsc (hR) | exact lsc (hC) | exact lsq) | first | refine a_seq ?_ | refine a_region ?_ | refine o_nil ?_ | refine a_block ?_ | refine a_ret ?_ | refine a_exit ?_ | refine a_skip ?_ | refine a_draw mixed ?_ | refine d_nil (by kernel_rfl) ?_ | first | refine o_yes rfl rfl rfl ?_ | refine o_no rfl rfl rfl (by decide) ?_ | refine o_no' rfl rfl rfl ?_ | refine a_condT rfl ?_ | refine a_condF rfl ?_ | refine d_no rfl rfl rfl (by decide) ?_ | refine d_no' rfl rfl rfl ?_ | ((first | refine o_split_t rfl rfl rfl (fun hb => ?_) (fun hb => ?_) | refine o_split_f rfl rfl rfl (fun hb => ?_) (fun hb => ?_) | refine a_cond rfl (fun hb => ?_) (fun hb => ?_) | refine d_split rfl rfl (fun hb => ?_) (fun hb => ?_)) <;> (simp only [hb]; try simp only [decide_eq_true_eq, decide_eq_false_iff_not, Bool.not_eq_true', Bool.not_eq_false', Bool.not_eq_true, Bool.not_eq_false, ne_eq, Decidable.not_not] at hb; try (exfalso; first | omega | exact hb trivial))))
    all_goals refine ⟨by first | exact .inr rfl | exact .inl rfl, _, rfl, ?_, by repeat' (first | exact trivial | refine ⟨⟨_, rfl, by first | rfl | (simp [renO, *]; done)⟩, by first | rfl | assumption, ?_⟩)⟩
    all_goals (first | refine FinA.tup ?_ | refine FinA.one ?_); repeat' (first | exact FinBs.nil | exact FinCs.nil | refine FinBs.cons ?_ ?_ | refine FinCs.cons ?_ ?_ | refine FinB.cell (FinC.v ?_) | refine FinB.cell (FinC.own rfl rfl rfl ?_) | exact FinB.cell FinC.nil | refine FinB.cell (FinC.sl ?_) | exact FinB.agg' rfl rfl | exact FinB.cell (FinC.same rfl) | refine FinB.agg ?_ | refine FinC.v ?_ | refine FinC.own rfl rfl rfl ?_ | exact FinC.nil | refine FinC.sl ?_ | exact FinC.same rfl); all_goals try rfl
    all_goals simp
end Go.Proofs.Ytimlkhbedhjehaa
