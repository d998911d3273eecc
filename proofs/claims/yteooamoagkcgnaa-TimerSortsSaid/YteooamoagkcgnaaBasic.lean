/-
  Small contracts that many layers use: which windows, folds, keys and events may be. No condition.
-/
import Derived.Test.YteooamoagkcgnaaRows
import Derived.Test.YteooamoagkcgnaaLib
namespace Go.Proofs.Yteooamoagkcgnaa
open Go.RowKit
set_option linter.unusedSimpArgs false
set_option linter.unusedVariables false
attribute [local go_sem ↓] Go.wp_at_zero Go.wp_at_succ

/-- which windows may be -/
def winB (s d : Int) : Bool := decide (1 ≤ d) && decide (d ≤ s) && decide (s ≤ 1048576) && decide (s ≤ 16 * d)
def kindB (k : Int) : Bool := decide (1 ≤ k) && decide (k ≤ 5)
def keyB (s : ByteArray) : Bool := decide (1 ≤ s.size) && decide (s.size ≤ 16)
/-- an event's cells -/
structure Ev where
  key : ByteArray
  at_ : Int
  val : Int
def Ev.cells (e : Ev) : List Value := [.string e.key, .int .i64 e.at_, .int .i64 e.val]
def evB (e : Ev) : Bool := keyB e.key && decide (0 ≤ e.at_) && decide (e.at_ < 1099511627776)

theorem bytes_nil (s : ByteArray) : s.toList = [] ↔ s.size = 0 := by
  rw [ByteArray.toList_eq, ← List.length_eq_zero_iff]
  rfl
theorem bytes_empty (s : ByteArray) : s = ByteArray.empty ↔ s.size = 0 := ByteArray.size_eq_zero_iff.symm
end Go.Proofs.Yteooamoagkcgnaa
