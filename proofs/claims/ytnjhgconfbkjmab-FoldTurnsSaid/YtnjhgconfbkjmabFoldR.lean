/-
  Walks of the reference of layer fold: each function's contract.
-/
import Derived.Test.YtnjhgconfbkjmabFoldW
namespace Go.Proofs.Ytnjhgconfbkjmab
open Go.RowKit
set_option linter.unusedSimpArgs false
set_option linter.unusedVariables false
attribute [local go_sem ↓] Go.wp_at_zero Go.wp_at_succ

theorem ref06_least (a b : Int) (w : World) :
    Calls Try.prog 20 #[.int .i64 a, .int .i64 b] w fun e w' => e = .returned (.int .i64 (min a b)) ∧ w = w' := by
  by_cases h : b < a
  all_goals
    go_enter Try.func20, Try.ntmps20
    go_wp2
    go_ret
    simp
    omega
theorem ref06_most (a b : Int) (w : World) :
    Calls Try.prog 21 #[.int .i64 a, .int .i64 b] w fun e w' => e = .returned (.int .i64 (max a b)) ∧ w = w' := by
  by_cases h : a < b
  all_goals
    go_enter Try.func21, Try.ntmps21
    go_wp2
    go_ret
    simp
    omega

set_option maxHeartbeats 1000000 in
theorem ref06_Join (k n a b n' a' b' : Int) (w : World) :
    Calls Try.prog 11 #[.int .i64 k, .agg #[.int .i64 n, .int .i64 a, .int .i64 b], .agg #[.int .i64 n', .int .i64 a', .int .i64 b']] w fun e w' => ∃ x : Acc, Hid (x = fJoin k ⟨n, a, b⟩ ⟨n', a', b'⟩) ∧ e = .returned (.agg #[.int .i64 x.n, .int .i64 x.a, .int .i64 x.b]) ∧ Below w.heap.size w w' := by
  by_cases hr : fRight k = false
  · rw [fJoin_not hr]
    rcases right_not hr with h | h
    · go_enter Try.func11, Try.ntmps11
      go_wp2
      refine bodyPost_ret (v := .agg #[.int .i64 0, .int .i64 0, .int .i64 0]) (by simp [results, Try.results11, go_sem]) rfl ⟨_, hide rfl, rfl, ?_⟩
      repeat (first | assumption | exact Below.refl _ _ | refine Gr.drew ?_ | refine Gr.drewN ?_ _ | refine Gr.alloc ?_ _ | refine Gr.set_ ?_ (by first | simp | (simp; omega) | omega) _)
    · have h1 : ¬ k < 1 := by omega
      go_enter Try.func11, Try.ntmps11
      go_wp2
      refine bodyPost_ret (v := .agg #[.int .i64 0, .int .i64 0, .int .i64 0]) (by simp [results, Try.results11, go_sem]) rfl ⟨_, hide rfl, rfl, ?_⟩
      repeat (first | assumption | exact Below.refl _ _ | refine Gr.drew ?_ | refine Gr.drewN ?_ _ | refine Gr.alloc ?_ _ | refine Gr.set_ ?_ (by first | simp | (simp; omega) | omega) _)
  · have hr : fRight k = true := by simpa using hr
    by_cases h0 : n = 0
    · have e : fJoin k ⟨n, a, b⟩ ⟨n', a', b'⟩ = ⟨n', a', b'⟩ := by simp [fJoin, hr, h0]
      subst h0
      rw [e]; clear e
      rcases right_cases hr with rfl | rfl | rfl | rfl | rfl
      all_goals
        go_enter Try.func11, Try.ntmps11
        go_wp2
        refine bodyPost_ret (v := .agg #[.int .i64 n', .int .i64 a', .int .i64 b']) (by simp [results, Try.results11, go_sem]) rfl ⟨_, hide rfl, rfl, ?_⟩
        repeat (first | assumption | exact Below.refl _ _ | refine Gr.drew ?_ | refine Gr.drewN ?_ _ | refine Gr.alloc ?_ _ | refine Gr.set_ ?_ (by first | simp | (simp; omega) | omega) _)
    · by_cases h1 : n' = 0
      · have e : fJoin k ⟨n, a, b⟩ ⟨n', a', b'⟩ = ⟨n, a, b⟩ := by simp [fJoin, hr, h0, h1]
        subst h1
        rw [e]; clear e
        rcases right_cases hr with rfl | rfl | rfl | rfl | rfl
        all_goals
          go_enter Try.func11, Try.ntmps11
          go_wp2
          refine bodyPost_ret (v := .agg #[.int .i64 n, .int .i64 a, .int .i64 b]) (by simp [results, Try.results11, go_sem]) rfl ⟨_, hide rfl, rfl, ?_⟩
          repeat (first | assumption | exact Below.refl _ _ | refine Gr.drew ?_ | refine Gr.drewN ?_ _ | refine Gr.alloc ?_ _ | refine Gr.set_ ?_ (by first | simp | (simp; omega) | omega) _)
      · have e : fJoin k ⟨n, a, b⟩ ⟨n', a', b'⟩ = ⟨wrap64 (n + n'), joinA k a a', joinB k b b'⟩ := by simp [fJoin, hr, h0, h1]
        rw [e]; clear e
        rcases right_cases hr with rfl | rfl | rfl | rfl | rfl
        all_goals
          go_enter Try.func11, Try.ntmps11
          go_wp2_with (first | (go_at_call 20; refine (ref06_least _ _ _).mono ?_; rintro e w' ⟨rfl, rfl⟩) | (go_at_call 21; refine (ref06_most _ _ _).mono ?_; rintro e w' ⟨rfl, rfl⟩))
          refine bodyPost_ret ?_ rfl ⟨_, hide rfl, rfl, ?_⟩
          · simp [results, Try.results11, go_sem, wrap64, IntKind.wrap_i64, joinA, joinB]
          · repeat (first | assumption | exact Below.refl _ _ | refine Gr.drew ?_ | refine Gr.drewN ?_ _ | refine Gr.alloc ?_ _ | refine Gr.set_ ?_ (by first | simp | (simp; omega) | omega) _)

theorem ref06_Val (k n a b : Int) (w : World) :
    Calls Try.prog 13 #[.int .i64 k, .agg #[.int .i64 n, .int .i64 a, .int .i64 b]] w fun e w' => e = .returned (.int .i64 (fVal k ⟨n, a, b⟩)) ∧ Below w.heap.size w w' := by
  by_cases h0 : n = 0
  · subst h0
    have e : fVal k ⟨0, a, b⟩ = 0 := by simp [fVal]
    rw [e]; clear e
    go_enter Try.func13, Try.ntmps13
    go_wp2
    go_ret
    refine ⟨rfl, ?_⟩
    repeat (first | assumption | exact Below.refl _ _ | refine Gr.drew ?_ | refine Gr.drewN ?_ _ | refine Gr.alloc ?_ _ | refine Gr.set_ ?_ (by first | simp | (simp; omega) | omega) _)
  · by_cases hr : fRight k = false
    · have e : fVal k ⟨n, a, b⟩ = 0 := by simp [fVal, hr]
      rw [e]; clear e
      have h' := right_not hr
      have e1 : (k == 1) = false := by simp; omega
      have e2 : (k == 2) = false := by simp; omega
      have e3 : (k == 3) = false := by simp; omega
      have e4 : (k == 4) = false := by simp; omega
      have e5 : (k == 5) = false := by simp; omega
      go_enter Try.func13, Try.ntmps13
      go_wp2
      go_ret
      refine ⟨rfl, ?_⟩
      repeat (first | assumption | exact Below.refl _ _ | refine Gr.drew ?_ | refine Gr.drewN ?_ _ | refine Gr.alloc ?_ _ | refine Gr.set_ ?_ (by first | simp | (simp; omega) | omega) _)
    · have hr : fRight k = true := by simpa using hr
      have e : fVal k ⟨n, a, b⟩ = if k = 1 then n else if k = 5 then wrap64 (b - a) else a := by simp [fVal, hr, h0]
      rw [e]; clear e
      rcases right_cases hr with rfl | rfl | rfl | rfl | rfl
      all_goals
        go_enter Try.func13, Try.ntmps13
        go_wp2
        go_ret
        refine ⟨rfl, ?_⟩
        repeat (first | assumption | exact Below.refl _ _ | refine Gr.drew ?_ | refine Gr.drewN ?_ _ | refine Gr.alloc ?_ _ | refine Gr.set_ ?_ (by first | simp | (simp; omega) | omega) _)

theorem law06_short (A : Option Addr) (c n : Nat) (xs : List Int) (B : Nat) (w : World) (HN : Hid (n = xs.length)) (hr : Reads w B 1 A n (xs.map (Value.int .i64))) (hn : n ≤ c) (hc : c ≤ 9223372036854775807) :
    Calls Try.prog 14 #[.slice A n c] w fun e w' => ∃ (n' : Nat) (xs' : List Int), Hid (n' = xs'.length) ∧ Hid (xs' = xs.take 2000) ∧ n' ≤ 2000 ∧ e = .returned (.slice A n' c) ∧ Reads w B 1 A n' (xs'.map (Value.int .i64)) ∧ n' ≤ c ∧ w = w' := by
  have hc' : (c : Int) ≤ 9223372036854775807 := by omega
  have hn' : (n : Int) ≤ c := by omega
  by_cases hl : 2000 < n
  · have h1 : (2000 : Int) < n := by omega
    have h2 : (2000 : Int) ≤ c := by omega
    obtain ⟨b, off, rfl, _⟩ := hr.2 (by omega)
    go_enter Try.func14, Try.ntmps14
    go_wp2
    go_ret
    have h := hr.take (k := 2000) (by omega)
    refine ⟨2000, xs.take 2000, hide ?_, hide rfl, by omega, by simp, ?_, by omega, rfl⟩
    · have := HN.out; simp; omega
    · simpa using h
  · go_enter Try.func14, Try.ntmps14
    go_wp2
    go_ret
    refine ⟨n, xs, HN, hide ?_, by omega, rfl, hr, hn, rfl⟩
    have := HN.out
    exact (List.take_of_length_le (by omega)).symm

end Go.Proofs.Ytnjhgconfbkjmab
