/-
  Small contracts that many layers use: which windows, folds, keys and events may be. No condition.
-/
import Derived.Test.YtbhblhcgfenobaaDoorRows
import Derived.Test.YtbhblhcgfenobaaDoorLib
namespace Go.Proofs.YtbhblhcgfenobaaDoor
open Go.RowKit
set_option linter.unusedSimpArgs false
set_option linter.unusedVariables false
attribute [local go_sem ↓] Go.wp_at_zero Go.wp_at_succ

/-- which windows may be -/
def winB (s d : Int) : Bool := decide (1 ≤ d) && decide (d ≤ s) && decide (s ≤ 1048576) && decide (s ≤ 16 * d)
def kindB (k : Int) : Bool := decide (1 ≤ k) && decide (k ≤ 5)
def keyB (s : ByteArray) : Bool := decide (1 ≤ s.size) && decide (s.size ≤ 16)
/-- an event's cells -/
structure Ev where
  key : ByteArray
  at_ : Int
  val : Int
def Ev.cells (e : Ev) : List Value := [.string e.key, .int .i64 e.at_, .int .i64 e.val]
def evB (e : Ev) : Bool := keyB e.key && decide (0 ≤ e.at_) && decide (e.at_ < 1099511627776)

theorem window_Right (s d : Int) (w : World) :
    Calls Tryd.prog 42 #[.int .i64 s, .int .i64 d] w fun e w' => e = .returned (.bool (winB s d)) ∧ w = w' := by
  unfold winB
  by_cases h1 : 1 ≤ d <;> by_cases h2 : d ≤ s <;> by_cases h3 : s ≤ 1048576 <;> by_cases h4 : s ≤ 16 * d
  all_goals
    go_enter Tryd.func42, Tryd.ntmps42
    go_wp2
    go_ret
    simp [*]
theorem ref05_Right (s d : Int) (w : World) :
    Calls Tryd.prog 55 #[.int .i64 s, .int .i64 d] w fun e w' => e = .returned (.bool (winB s d)) ∧ w = w' := by
  unfold winB
  by_cases h1 : 1 ≤ d <;> by_cases h2 : d ≤ s <;> by_cases h3 : s ≤ 1048576 <;> by_cases h4 : s ≤ 16 * d
  all_goals
    have h5 : (s + 15).tdiv 16 = (s + 15) / 16 ∨ s + 15 < 0 := by
      by_cases h : s + 15 < 0
      · exact .inr h
      · exact .inl (Int.tdiv_eq_ediv_of_nonneg (by omega))
    go_enter Tryd.func55, Tryd.ntmps55
    go_wp2
    go_ret
    simp [*]
    all_goals (rcases h5 with h5 | h5)
    all_goals (first | omega | (rw [h5]; omega))
theorem right_fold (k : Int) (w : World) :
    Calls Tryd.prog 43 #[.int .i64 k] w fun e w' => e = .returned (.bool (kindB k)) ∧ w = w' := by
  unfold kindB
  by_cases h1 : 1 ≤ k <;> by_cases h2 : k ≤ 5
  all_goals
    go_enter Tryd.func43, Tryd.ntmps43
    go_wp2
    go_ret
    simp [*]
theorem ref07_Fold (k : Int) (w : World) :
    Calls Tryd.prog 56 #[.int .i64 k] w fun e w' => e = .returned (.bool (kindB k)) ∧ w = w' := by
  unfold kindB
  by_cases h1 : 1 ≤ k <;> by_cases h2 : k ≤ 5
  all_goals
    go_enter Tryd.func56, Tryd.ntmps56
    go_wp2
    go_ret
    simp [*]
theorem bytes_nil (s : ByteArray) : s.toList = [] ↔ s.size = 0 := by
  rw [ByteArray.toList_eq, ← List.length_eq_zero_iff]
  rfl
theorem bytes_empty (s : ByteArray) : s = ByteArray.empty ↔ s.size = 0 := ByteArray.size_eq_zero_iff.symm
theorem item_key (s : ByteArray) (w : World) :
    Calls Tryd.prog 59 #[.string s] w fun e w' => e = .returned (.bool (keyB s)) ∧ w = w' := by
  have hs := bytes_nil s
  have hs2 := bytes_empty s
  have key : keyB s = (!s.toList.isEmpty && decide ((s.size : Int) ≤ 16)) := by
    unfold keyB
    by_cases h : s.size = 0
    · have h1 := hs.2 h
      simp [h, h1]
    · have h1 : s.toList.isEmpty = false := by
        cases h2 : s.toList with
        | nil => exact absurd (hs.1 h2) h
        | cons a l => rfl
      have h3 : 1 ≤ s.size := by omega
      rw [h1]
      by_cases h4 : s.size ≤ 16
      · simp [h3, h4]; omega
      · simp [h3, h4]; omega
  rw [key]
  by_cases h : s.size = 0
  · have h1 := hs.2 h
    have h2 := hs2.2 h
    clear hs hs2 key
    go_enter Tryd.func59, Tryd.ntmps59
    go_wp2
    go_ret
    simp [*]
  · have h1 : ¬ s.toList = [] := fun h1 => h (hs.1 h1)
    have h2 : ¬ s = ByteArray.empty := fun h1 => h (hs2.1 h1)
    clear hs hs2 key
    go_enter Tryd.func59, Tryd.ntmps59
    go_wp2
    go_ret
    exact ⟨rfl, rfl⟩
theorem ref04_Key (s : ByteArray) (w : World) :
    Calls Tryd.prog 57 #[.string s] w fun e w' => e = .returned (.bool (keyB s)) ∧ w = w' := by
  unfold keyB
  by_cases h1 : 1 ≤ s.size <;> by_cases h2 : s.size ≤ 16
  all_goals first | (exfalso; omega) | skip
  all_goals
    have h3 := h1
    go_enter Tryd.func57, Tryd.ntmps57
    go_wp2
    go_ret
    simp [*]
    try omega
theorem item_Event (s : ByteArray) (t v : Int) (w : World) :
    Calls Tryd.prog 47 #[.agg #[.string s, .int .i64 t, .int .i64 v]] w fun e w' => e = .returned (.bool (evB ⟨s, t, v⟩)) ∧ Below w.heap.size w w' := by
  unfold evB
  cases hk : keyB s <;> by_cases h1 : 0 ≤ t <;> by_cases h2 : t < 1099511627776
  all_goals first | (exfalso; omega) | skip
  all_goals
    go_enter Tryd.func47, Tryd.ntmps47
    go_wp2_with (go_at_call 59; refine (item_key _ _).mono ?_; rintro e w1 ⟨rfl, rfl⟩; rw [hk])
    go_wp2
    go_ret
    refine ⟨by simp [*], by repeat (first | assumption | exact Below.refl _ _ | refine Gr.drew ?_ | refine Gr.drewN ?_ _ | refine Gr.alloc ?_ _ | refine Gr.set_ ?_ (by first | (simp; done) | assumption | omega | (simp; omega)) _)⟩
theorem ref04_Event (s : ByteArray) (t v : Int) (w : World) :
    Calls Tryd.prog 41 #[.agg #[.string s, .int .i64 t, .int .i64 v]] w fun e w' => e = .returned (.bool (evB ⟨s, t, v⟩)) ∧ Below w.heap.size w w' := by
  unfold evB
  cases hk : keyB s <;> by_cases h1 : 0 ≤ t <;> by_cases h2 : t < 1099511627776
  all_goals first | (exfalso; omega) | skip
  all_goals
    go_enter Tryd.func41, Tryd.ntmps41
    go_wp2_with (go_at_call 57; refine (ref04_Key _ _).mono ?_; rintro e w1 ⟨rfl, rfl⟩; rw [hk])
    go_wp2
    go_ret
    refine ⟨by simp [*], by repeat (first | assumption | exact Below.refl _ _ | refine Gr.drew ?_ | refine Gr.drewN ?_ _ | refine Gr.alloc ?_ _ | refine Gr.set_ ?_ (by first | (simp; done) | assumption | omega | (simp; omega)) _)⟩
end Go.Proofs.YtbhblhcgfenobaaDoor
