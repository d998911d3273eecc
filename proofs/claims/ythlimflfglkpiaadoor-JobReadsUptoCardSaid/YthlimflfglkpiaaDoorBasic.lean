/-
  Small contracts that many layers use: which windows, folds, keys and events may be. No condition.
-/
import Derived.Test.YthlimflfglkpiaaDoorRows
import Derived.Test.YthlimflfglkpiaaDoorLib
namespace Go.Proofs.YthlimflfglkpiaaDoor
open Go.RowKit
set_option linter.unusedSimpArgs false
set_option linter.unusedVariables false
attribute [local go_sem ↓] Go.wp_at_zero Go.wp_at_succ

/-- which windows may be -/
def winB (s d : Int) : Bool := decide (1 ≤ d) && decide (d ≤ s) && decide (s ≤ 1048576) && decide (s ≤ 16 * d)
def kindB (k : Int) : Bool := decide (1 ≤ k) && decide (k ≤ 5)
def keyB (s : ByteArray) : Bool := decide (1 ≤ s.size) && decide (s.size ≤ 16)
/-- an event's cells -/
structure Ev where
  key : ByteArray
  at_ : Int
  val : Int
def Ev.cells (e : Ev) : List Value := [.string e.key, .int .i64 e.at_, .int .i64 e.val]
def evB (e : Ev) : Bool := keyB e.key && decide (0 ≤ e.at_) && decide (e.at_ < 1099511627776)

theorem window_Right (s d : Int) (w : World) :
    Calls Tryd.prog 44 #[.int .i64 s, .int .i64 d] w fun e w' => e = .returned (.bool (winB s d)) ∧ w = w' := by
  unfold winB
  by_cases h1 : 1 ≤ d <;> by_cases h2 : d ≤ s <;> by_cases h3 : s ≤ 1048576 <;> by_cases h4 : s ≤ 16 * d
  all_goals
    go_enter Tryd.func44, Tryd.ntmps44
    go_wp2
    go_ret
    simp [*]
theorem ref05_Right (s d : Int) (w : World) :
    Calls Tryd.prog 51 #[.int .i64 s, .int .i64 d] w fun e w' => e = .returned (.bool (winB s d)) ∧ w = w' := by
  unfold winB
  by_cases h1 : 1 ≤ d <;> by_cases h2 : d ≤ s <;> by_cases h3 : s ≤ 1048576 <;> by_cases h4 : s ≤ 16 * d
  all_goals
    have h5 : (s + 15).tdiv 16 = (s + 15) / 16 ∨ s + 15 < 0 := by
      by_cases h : s + 15 < 0
      · exact .inr h
      · exact .inl (Int.tdiv_eq_ediv_of_nonneg (by omega))
    go_enter Tryd.func51, Tryd.ntmps51
    go_wp2
    go_ret
    simp [*]
    all_goals (rcases h5 with h5 | h5)
    all_goals (first | omega | (rw [h5]; omega))
theorem right_fold (k : Int) (w : World) :
    Calls Tryd.prog 45 #[.int .i64 k] w fun e w' => e = .returned (.bool (kindB k)) ∧ w = w' := by
  unfold kindB
  by_cases h1 : 1 ≤ k <;> by_cases h2 : k ≤ 5
  all_goals
    go_enter Tryd.func45, Tryd.ntmps45
    go_wp2
    go_ret
    simp [*]
theorem ref07_Fold (k : Int) (w : World) :
    Calls Tryd.prog 52 #[.int .i64 k] w fun e w' => e = .returned (.bool (kindB k)) ∧ w = w' := by
  unfold kindB
  by_cases h1 : 1 ≤ k <;> by_cases h2 : k ≤ 5
  all_goals
    go_enter Tryd.func52, Tryd.ntmps52
    go_wp2
    go_ret
    simp [*]
theorem bytes_nil (s : ByteArray) : s.toList = [] ↔ s.size = 0 := by
  rw [ByteArray.toList_eq, ← List.length_eq_zero_iff]
  rfl
theorem bytes_empty (s : ByteArray) : s = ByteArray.empty ↔ s.size = 0 := ByteArray.size_eq_zero_iff.symm
end Go.Proofs.YthlimflfglkpiaaDoor
