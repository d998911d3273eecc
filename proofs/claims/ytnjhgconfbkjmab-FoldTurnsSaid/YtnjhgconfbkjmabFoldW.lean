/-
  Walks of layer fold and of its reference: each function's contract, for every input. No condition but on lengths.
-/
import Derived.Test.YtnjhgconfbkjmabRows
import Derived.Test.YtnjhgconfbkjmabLib
import Derived.Test.YtnjhgconfbkjmabFoldS
namespace Go.Proofs.Ytnjhgconfbkjmab
open Go.RowKit
set_option linter.unusedSimpArgs false
set_option linter.unusedVariables false
attribute [local go_sem ↓] Go.wp_at_zero Go.wp_at_succ

theorem fold_Right (k : Int) (w : World) :
    Calls Try.prog 9 #[.int .i64 k] w fun e w' => e = .returned (.bool (fRight k)) ∧ w = w' := by
  unfold fRight
  by_cases h1 : 1 ≤ k <;> by_cases h2 : k ≤ 5
  all_goals
    go_enter Try.func9, Try.ntmps9
    go_wp2
    go_ret
    simp [*]

theorem value_plus (a b : Int) (w : World) :
    Calls Try.prog 22 #[.int .i64 a, .int .i64 b] w fun e w' => e = .returned (.int .i64 (wrap64 (a + b))) ∧ w = w' := by
  go_enter Try.func22, Try.ntmps22
  go_wp2
  go_ret
  exact ⟨rfl, rfl⟩
theorem value_none (a b : Int) (w : World) :
    Calls Try.prog 23 #[.int .i64 a, .int .i64 b] w fun e w' => e = .returned (.int .i64 0) ∧ w = w' := by
  go_enter Try.func23, Try.ntmps23
  go_wp2
  go_ret
  exact ⟨rfl, rfl⟩
theorem value_least (a b : Int) (w : World) :
    Calls Try.prog 24 #[.int .i64 a, .int .i64 b] w fun e w' => e = .returned (.int .i64 (min a b)) ∧ w = w' := by
  by_cases h : b < a
  all_goals
    go_enter Try.func24, Try.ntmps24
    go_wp2
    go_ret
    simp
    omega
theorem value_most (a b : Int) (w : World) :
    Calls Try.prog 25 #[.int .i64 a, .int .i64 b] w fun e w' => e = .returned (.int .i64 (max a b)) ∧ w = w' := by
  by_cases h : a < b
  all_goals
    go_enter Try.func25, Try.ntmps25
    go_wp2
    go_ret
    simp
    omega

def fieldsA (k : Int) : Nat := if k = 2 then 22 else if k = 3 then 24 else if k = 4 then 25 else if k = 5 then 24 else 23
def fieldsB (k : Int) : Nat := if k = 5 then 25 else 23
theorem fold_fields (k : Int) (w : World) (h : fRight k = true) :
    Calls Try.prog 19 #[.int .i64 k] w fun e w' => e = .returned (.tuple #[.func (.func (fieldsA k)) #[] #[], .func (.func (fieldsB k)) #[] #[]]) ∧ w = w' := by
  rcases right_cases h with rfl | rfl | rfl | rfl | rfl
  all_goals
    go_enter Try.func19, Try.ntmps19
    go_wp2
    go_ret2
    exact ⟨rfl, rfl⟩

theorem fa_any (k a b : Int) (w : World) (h : fRight k = true) :
    Calls Try.prog (fieldsA k) #[.int .i64 a, .int .i64 b] w fun e w' => e = .returned (.int .i64 (joinA k a b)) ∧ w = w' := by
  rcases right_cases h with rfl | rfl | rfl | rfl | rfl
  · exact value_none a b w
  · exact value_plus a b w
  · exact value_least a b w
  · exact value_most a b w
  · exact value_least a b w
theorem fb_any (k a b : Int) (w : World) (h : fRight k = true) :
    Calls Try.prog (fieldsB k) #[.int .i64 a, .int .i64 b] w fun e w' => e = .returned (.int .i64 (joinB k a b)) ∧ w = w' := by
  rcases right_cases h with rfl | rfl | rfl | rfl | rfl
  · exact value_none a b w
  · exact value_none a b w
  · exact value_none a b w
  · exact value_none a b w
  · exact value_most a b w
theorem run_fa {k : Int} (h : fRight k = true) : ∀ (x : Array Value) (W : World), Sem.run Try.prog (callFunc (fieldsA k) x) W = .ok (.enter (fieldsA k) x) W := by
  rcases right_cases h with rfl | rfl | rfl | rfl | rfl
  all_goals intro x W; simp [fieldsA, go_sem]
theorem run_fb {k : Int} (h : fRight k = true) : ∀ (x : Array Value) (W : World), Sem.run Try.prog (callFunc (fieldsB k) x) W = .ok (.enter (fieldsB k) x) W := by
  rcases right_cases h with rfl | rfl | rfl | rfl | rfl
  all_goals intro x W; simp [fieldsB, go_sem]

theorem fold_One (k v : Int) (w : World) :
    Calls Try.prog 18 #[.int .i64 k, .int .i64 v] w fun e w' => ∃ x : Acc, Hid (x = fOne k v) ∧ e = .returned (.agg #[.int .i64 x.n, .int .i64 x.a, .int .i64 x.b]) ∧ Below w.heap.size w w' := by
  by_cases h : fRight k = true
  · rcases right_cases h with rfl | rfl | rfl | rfl | rfl
    all_goals
      go_enter Try.func18, Try.ntmps18
      go_wp2
      refine bodyPost_ret (v := .agg #[.int .i64 (fOne _ v).n, .int .i64 (fOne _ v).a, .int .i64 (fOne _ v).b]) (by simp [results, Try.results18, go_sem, fOne]) rfl ⟨_, hide rfl, rfl, ?_⟩
      repeat (first | assumption | exact Below.refl _ _ | refine Gr.drew ?_ | refine Gr.drewN ?_ _ | refine Gr.alloc ?_ _ | refine Gr.set_ ?_ (by first | simp | (simp; omega) | omega) _)
  · have h : fRight k = false := by simpa using h
    have h' := right_not h
    have e1 : (k == 1) = false := by simp; omega
    have e2 : (k == 2) = false := by simp; omega
    have e3 : (k == 3) = false := by simp; omega
    have e4 : (k == 4) = false := by simp; omega
    have e5 : (k == 5) = false := by simp; omega
    rw [fOne_not h]
    go_enter Try.func18, Try.ntmps18
    go_wp2
    refine bodyPost_ret (v := .agg #[.int .i64 0, .int .i64 0, .int .i64 0]) (by simp [results, Try.results18, go_sem]) rfl ⟨_, hide rfl, rfl, ?_⟩
    repeat (first | assumption | exact Below.refl _ _ | refine Gr.drew ?_ | refine Gr.drewN ?_ _ | refine Gr.alloc ?_ _ | refine Gr.set_ ?_ (by first | simp | (simp; omega) | omega) _)

set_option maxHeartbeats 400000 in
theorem fold_Join (k n a b n' a' b' : Int) (w : World) :
    Calls Try.prog 10 #[.int .i64 k, .agg #[.int .i64 n, .int .i64 a, .int .i64 b], .agg #[.int .i64 n', .int .i64 a', .int .i64 b']] w fun e w' => ∃ x : Acc, Hid (x = fJoin k ⟨n, a, b⟩ ⟨n', a', b'⟩) ∧ e = .returned (.agg #[.int .i64 x.n, .int .i64 x.a, .int .i64 x.b]) ∧ Below w.heap.size w w' := by
  by_cases hr : fRight k = false
  · rw [fJoin_not hr]
    go_enter Try.func10, Try.ntmps10
    go_wp2_with (go_at_call 9; refine (fold_Right _ _).mono ?_; rintro e w' ⟨rfl, rfl⟩)
    refine bodyPost_ret (v := .agg #[.int .i64 0, .int .i64 0, .int .i64 0]) (by simp [results, Try.results10, go_sem]) rfl ⟨_, hide rfl, rfl, ?_⟩
    repeat (first | assumption | exact Below.refl _ _ | refine Gr.drew ?_ | refine Gr.drewN ?_ _ | refine Gr.alloc ?_ _ | refine Gr.set_ ?_ (by first | simp | (simp; omega) | omega) _)
  · have hr : fRight k = true := by simpa using hr
    by_cases h0 : n = 0
    · have e : fJoin k ⟨n, a, b⟩ ⟨n', a', b'⟩ = ⟨n', a', b'⟩ := by simp [fJoin, hr, h0]
      subst h0
      rw [e]; clear e
      go_enter Try.func10, Try.ntmps10
      go_wp2_with (go_at_call 9; refine (fold_Right _ _).mono ?_; rintro e w' ⟨rfl, rfl⟩)
      refine bodyPost_ret (v := .agg #[.int .i64 n', .int .i64 a', .int .i64 b']) (by simp [results, Try.results10, go_sem]) rfl ⟨_, hide rfl, rfl, ?_⟩
      repeat (first | assumption | exact Below.refl _ _ | refine Gr.drew ?_ | refine Gr.drewN ?_ _ | refine Gr.alloc ?_ _ | refine Gr.set_ ?_ (by first | simp | (simp; omega) | omega) _)
    · by_cases h1 : n' = 0
      · have e : fJoin k ⟨n, a, b⟩ ⟨n', a', b'⟩ = ⟨n, a, b⟩ := by simp [fJoin, hr, h0, h1]
        subst h1
        rw [e]; clear e
        go_enter Try.func10, Try.ntmps10
        go_wp2_with (go_at_call 9; refine (fold_Right _ _).mono ?_; rintro e w' ⟨rfl, rfl⟩)
        refine bodyPost_ret (v := .agg #[.int .i64 n, .int .i64 a, .int .i64 b]) (by simp [results, Try.results10, go_sem]) rfl ⟨_, hide rfl, rfl, ?_⟩
        repeat (first | assumption | exact Below.refl _ _ | refine Gr.drew ?_ | refine Gr.drewN ?_ _ | refine Gr.alloc ?_ _ | refine Gr.set_ ?_ (by first | simp | (simp; omega) | omega) _)
      · have e : fJoin k ⟨n, a, b⟩ ⟨n', a', b'⟩ = ⟨wrap64 (n + n'), joinA k a a', joinB k b b'⟩ := by simp [fJoin, hr, h0, h1]
        rw [e]; clear e
        have hA := run_fa hr
        have hB := run_fb hr
        go_enter Try.func10, Try.ntmps10
        go_wp2_with (first | (go_at_call 9; refine (fold_Right _ _).mono ?_; rintro e w' ⟨rfl, rfl⟩) | (go_at_call 19; refine (fold_fields _ _ hr).mono ?_; rintro e w' ⟨rfl, rfl⟩))
        go_region_held3 (fun w' => w'.cell? ⟨w.heap.size, 0, none⟩ = some (.int .i64 n) ∧ w'.cell? ⟨w.heap.size, 1, none⟩ = some (.int .i64 a) ∧ w'.cell? ⟨w.heap.size, 2, none⟩ = some (.int .i64 b) ∧ w'.cell? ⟨w.heap.size+1, 0, none⟩ = some (.int .i64 n') ∧ w'.cell? ⟨w.heap.size+1, 1, none⟩ = some (.int .i64 a') ∧ w'.cell? ⟨w.heap.size+1, 2, none⟩ = some (.int .i64 b')) (go_keep) (first | ((with_reducible refine (fa_any _ _ _ _ hr).mono ?_); rintro e w' ⟨rfl, rfl⟩) | ((with_reducible refine (fb_any _ _ _ _ hr).mono ?_); rintro e w' ⟨rfl, rfl⟩))
        go_wp2
        refine bodyPost_ret (v := .agg #[.int .i64 (wrap64 (n + n')), .int .i64 (joinA k a a'), .int .i64 (joinB k b b')]) (by simp [results, Try.results10, go_sem, wrap64, IntKind.wrap_i64]) rfl ⟨_, hide rfl, rfl, ?_⟩
        repeat (first | assumption | exact Below.refl _ _ | refine Gr.drew ?_ | refine Gr.drewN ?_ _ | refine Gr.alloc ?_ _ | refine Gr.set_ ?_ (by first | simp | (simp; omega) | omega) _)

theorem fold_Val (k n a b : Int) (w : World) :
    Calls Try.prog 12 #[.int .i64 k, .agg #[.int .i64 n, .int .i64 a, .int .i64 b]] w fun e w' => e = .returned (.int .i64 (fVal k ⟨n, a, b⟩)) ∧ Below w.heap.size w w' := by
  by_cases h0 : n = 0
  · subst h0
    have e : fVal k ⟨0, a, b⟩ = 0 := by simp [fVal]
    rw [e]; clear e
    go_enter Try.func12, Try.ntmps12
    go_wp2
    go_ret
    refine ⟨rfl, ?_⟩
    repeat (first | assumption | exact Below.refl _ _ | refine Gr.drew ?_ | refine Gr.drewN ?_ _ | refine Gr.alloc ?_ _ | refine Gr.set_ ?_ (by first | simp | (simp; omega) | omega) _)
  · by_cases hr : fRight k = false
    · have e : fVal k ⟨n, a, b⟩ = 0 := by simp [fVal, hr]
      rw [e]; clear e
      go_enter Try.func12, Try.ntmps12
      go_wp2_with (go_at_call 9; refine (fold_Right _ _).mono ?_; rintro e w' ⟨rfl, rfl⟩)
      go_ret
      refine ⟨rfl, ?_⟩
      repeat (first | assumption | exact Below.refl _ _ | refine Gr.drew ?_ | refine Gr.drewN ?_ _ | refine Gr.alloc ?_ _ | refine Gr.set_ ?_ (by first | simp | (simp; omega) | omega) _)
    · have hr : fRight k = true := by simpa using hr
      have e : fVal k ⟨n, a, b⟩ = if k = 1 then n else if k = 5 then wrap64 (b - a) else a := by simp [fVal, hr, h0]
      rw [e]; clear e
      rcases right_cases hr with rfl | rfl | rfl | rfl | rfl
      all_goals
        go_enter Try.func12, Try.ntmps12
        go_wp2_with (go_at_call 9; refine (fold_Right _ _).mono ?_; rintro e w' ⟨rfl, rfl⟩)
        go_ret
        refine ⟨rfl, ?_⟩
        repeat (first | assumption | exact Below.refl _ _ | refine Gr.drew ?_ | refine Gr.drewN ?_ _ | refine Gr.alloc ?_ _ | refine Gr.set_ ?_ (by first | simp | (simp; omega) | omega) _)

set_option maxHeartbeats 400000 in
theorem fold_All (k : Int) (A : Option Addr) (c n : Nat) (xs : List Int) (B : Nat) (w : World) (HN : Hid (n = xs.length)) (hr : Reads w B 1 A n (xs.map (Value.int .i64))) (hB : B ≤ w.heap.size) (hn : n ≤ 1000000) :
    Calls Try.prog 15 #[.int .i64 k, .slice A n c] w fun e w' => ∃ x : Acc, Hid (x = allL k xs) ∧ e = .returned (.agg #[.int .i64 x.n, .int .i64 x.a, .int .i64 x.b]) ∧ Below w.heap.size w w' := by
  have hn' : (n : Int) ≤ 1000000 := by omega
  go_enter Try.func15, Try.ntmps15
  go_wp2
  go_loopw [10] (fun i wr => ∃ (q : Nat) (x : Acc), Hid (x = allL k (xs.take q)) ∧ q ≤ n ∧ i = .int .i64 q ∧ Below w.heap.size w wr ∧ Blk wr w.heap.size 23 #[.int .i64 0, .int .i64 0, .int .i64 0] ∧ Blk wr (w.heap.size + 1) 23 #[.int .i64 x.n, .int .i64 x.a, .int .i64 x.b]) (fun i _ => n - (intOf i).toNat)
  case atStart =>
    refine ⟨0, ⟨0, 0, 0⟩, hide rfl, Nat.zero_le _, rfl, ?_, ?_, ?_⟩
    · repeat (first | assumption | exact Below.refl _ _ | refine Gr.drew ?_ | refine Gr.drewN ?_ _ | refine Gr.alloc ?_ _ | refine Gr.set_ ?_ (by first | simp | (simp; omega) | omega) _)
    · exact (Blk.new _ _ _).alloc _
    · exact Blk.new_at (by simp)
  case round =>
    obtain ⟨q, x, HX, hq, rfl, hb, B0, B1⟩ := hrel
    obtain ⟨c0, f0⟩ := B0.facts
    obtain ⟨c1, f1⟩ := B1.facts
    have hsz := B1.lt
    by_cases hlt : q < n
    · obtain ⟨b, off, rfl, hbB, hcell⟩ := hr.2 (by omega)
      have hxq : q < xs.length := by rw [← HN.out]; exact hlt
      have hx : wr.cell? ⟨b, off + q, none⟩ = some (.int .i64 xs[q]) := by
        rw [hb.cell (p := ⟨b, off + q, none⟩) (Nat.lt_of_lt_of_le hbB hB)]; exact hcell q _ (by simp [hxq])
      have hlt' : (q : Int) < n := by omega
      have hq0 : (0 : Int) ≤ q := by omega
      generalize hv : xs[q] = v at hx
      have HV := hide hv
      clear hv hcell
      go_wp2
      go_region_with (first | (go_at_call 18; refine (fold_One _ _ _).mono ?_; rintro e w1 ⟨x1, HX1, rfl, hb1⟩; have B1' := B1.on hb1 rfl rfl; obtain ⟨c1', f1'⟩ := B1'.facts) | (go_at_call 10; refine (fold_Join _ _ _ _ _ _ _ _).mono ?_; rintro e w2 ⟨x2, HX2, rfl, hb2⟩; have B1'' := B1'.on hb2 rfl rfl; obtain ⟨c1'', f1''⟩ := B1''.facts))
      all_goals
        go_wp2
        go_roundw
        case rel =>
          refine ⟨q + 1, x2, ?_, by omega, by go_num, ?_, ?_, ?_⟩
          · have h1 := HX.out; have h2 := HX1.out; have h3 := HX2.out; have h4 := HV.out
            rw [take_snoc _ _ hxq, allL_snoc, ← h1, h4, ← h2]; exact h3
          · exact Gr.set_ (Gr.set_ (Gr.set_ (Gr.on (Gr.on hb hb1 rfl rfl rfl rfl rfl) hb2 rfl rfl rfl rfl rfl) (by simp) _) (by simp) _) (by simp) _
          · exact Blk.far (Blk.far (Blk.far ((B0.on hb1 rfl rfl).on hb2 rfl rfl) (by simp) _) (by simp) _) (by simp) _
          · exact B1''.set3
        case measure => simp [intOf]; omega
    · go_wp2
      refine bodyPost_ret (v := .agg #[.int .i64 x.n, .int .i64 x.a, .int .i64 x.b]) (by simp [results, Try.results15, go_sem, c0]) rfl ⟨x, ?_, rfl, ?_⟩
      · have : q = xs.length := by have := HN.out; omega
        rw [this, List.take_length] at HX
        exact HX
      · repeat (first | assumption | exact Below.refl _ _ | refine Gr.drew ?_ | refine Gr.drewN ?_ _ | refine Gr.alloc ?_ _ | refine Gr.set_ ?_ (by first | simp | (simp; omega) | omega) _)
end Go.Proofs.Ytnjhgconfbkjmab
