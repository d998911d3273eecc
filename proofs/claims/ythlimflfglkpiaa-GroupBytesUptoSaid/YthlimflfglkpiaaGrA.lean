/-
  Groups, walked over abstract values: which may be; time that goes on.
-/
import Derived.Test.YthlimflfglkpiaaPnH
namespace Go.Proofs.Ythlimflfglkpiaa
open Go.RowKit
set_option linter.unusedSimpArgs false
set_option linter.unusedVariables false
def grR (no mark : Int) (ps : List Pn) : Bool := decide (0 ≤ no) && (decide (no < 32) && (decide (0 ≤ mark) && (decide (mark ≤ 1099511627776) && (rightL ps && ps.all fun p => decide (mark < p.hi)))))
def closed (mark : Int) (p : Pn) : Bool := decide (p.hi ≤ mark)
theorem ok_wRight : CallOK Try.prog 40 := ⟨_, Try.func40, by kernel_rfl, rfl⟩
theorem p_wRight (s d : Int) : PC Try.prog 40 [.v (.int .i64 s), .v (.int .i64 d)] (.v (.bool (winB s d))) :=
  pc_of_calls (xs := [.int .i64 s, .int .i64 d]) ok_wRight (fun w => (window_Right s d w).mono fun e w' ⟨h1, h2⟩ => ⟨h1, by rw [← h2]; exact Below.refl _ _⟩) rfl
def jobR (s d k : Int) : Bool := winB s d && fRight k
end Go.Proofs.Ythlimflfglkpiaa
