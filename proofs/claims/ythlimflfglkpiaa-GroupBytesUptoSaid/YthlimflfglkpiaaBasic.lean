/-
  Small contracts that many layers use: which windows, folds, keys and events may be. No condition.
-/
import Derived.Test.YthlimflfglkpiaaRows
import Derived.Test.YthlimflfglkpiaaLib
namespace Go.Proofs.Ythlimflfglkpiaa
open Go.RowKit
set_option linter.unusedSimpArgs false
set_option linter.unusedVariables false
attribute [local go_sem ↓] Go.wp_at_zero Go.wp_at_succ

/-- which windows may be -/
def winB (s d : Int) : Bool := decide (1 ≤ d) && decide (d ≤ s) && decide (s ≤ 1048576) && decide (s ≤ 16 * d)
def kindB (k : Int) : Bool := decide (1 ≤ k) && decide (k ≤ 5)
def keyB (s : ByteArray) : Bool := decide (1 ≤ s.size) && decide (s.size ≤ 16)
/-- an event's cells -/
structure Ev where
  key : ByteArray
  at_ : Int
  val : Int
def Ev.cells (e : Ev) : List Value := [.string e.key, .int .i64 e.at_, .int .i64 e.val]
def evB (e : Ev) : Bool := keyB e.key && decide (0 ≤ e.at_) && decide (e.at_ < 1099511627776)

theorem window_Right (s d : Int) (w : World) :
    Calls Try.prog 40 #[.int .i64 s, .int .i64 d] w fun e w' => e = .returned (.bool (winB s d)) ∧ w = w' := by
  unfold winB
  by_cases h1 : 1 ≤ d <;> by_cases h2 : d ≤ s <;> by_cases h3 : s ≤ 1048576 <;> by_cases h4 : s ≤ 16 * d
  all_goals
    go_enter Try.func40, Try.ntmps40
    go_wp2
    go_ret
    simp [*]
theorem right_fold (k : Int) (w : World) :
    Calls Try.prog 41 #[.int .i64 k] w fun e w' => e = .returned (.bool (kindB k)) ∧ w = w' := by
  unfold kindB
  by_cases h1 : 1 ≤ k <;> by_cases h2 : k ≤ 5
  all_goals
    go_enter Try.func41, Try.ntmps41
    go_wp2
    go_ret
    simp [*]
theorem bytes_nil (s : ByteArray) : s.toList = [] ↔ s.size = 0 := by
  rw [ByteArray.toList_eq, ← List.length_eq_zero_iff]
  rfl
theorem bytes_empty (s : ByteArray) : s = ByteArray.empty ↔ s.size = 0 := ByteArray.size_eq_zero_iff.symm
theorem ref04_Key (s : ByteArray) (w : World) :
    Calls Try.prog 54 #[.string s] w fun e w' => e = .returned (.bool (keyB s)) ∧ w = w' := by
  unfold keyB
  by_cases h1 : 1 ≤ s.size <;> by_cases h2 : s.size ≤ 16
  all_goals first | (exfalso; omega) | skip
  all_goals
    have h3 := h1
    go_enter Try.func54, Try.ntmps54
    go_wp2
    go_ret
    simp [*]
    try omega
end Go.Proofs.Ythlimflfglkpiaa
