/-
  The reference's reading of jobs: a number as a plain function.
-/
import Derived.Test.YthlimflfglkpiaaDoorJrE
namespace Go.Proofs.YthlimflfglkpiaaDoor
open Go.RowKit
set_option linter.unusedSimpArgs false
set_option linter.unusedVariables false
noncomputable def dgD (s : ByteArray) : List UInt8 := Classical.choose (dg_ex s)
noncomputable def dgR (s : ByteArray) : List UInt8 := Classical.choose (Classical.choose_spec (dg_ex s))
theorem dg_of (s : ByteArray) : Dg s (dgD s) (dgR s) := Classical.choose_spec (Classical.choose_spec (dg_ex s))
open Classical in
noncomputable def numS (s : ByteArray) : Int × ByteArray × Bool := if badN (dgD s) then (0, s, false) else (((valF 0 (dgD s) : Nat) : Int), mkB (dgR s), true)
theorem p_Number (s : ByteArray) (hs : Sm s) : PC Tryd.prog 67 [.v (.string s)] (.tup [.v (.int .i64 (numS s).1), .v (.string (numS s).2.1), .v (.bool (numS s).2.2)]) := by
  by_cases h : badN (dgD s)
  · have e : numS s = (0, s, false) := by unfold numS; rw [if_pos h]
    rw [e]; exact p_NumN s _ _ (dg_of s) h hs
  · have e : numS s = (((valF 0 (dgD s) : Nat) : Int), mkB (dgR s), true) := by unfold numS; rw [if_neg h]
    rw [e]; exact p_NumY s _ _ (dg_of s) h hs
theorem numS_sm {s : ByteArray} (hs : Sm s) : Sm (numS s).2.1 := by
  unfold numS
  split
  · exact hs
  · have : (mkB (dgR s)).size ≤ s.size := by rw [← size_list, ← size_list, (dg_of s).eq, mkB_list, List.length_append]; omega
    unfold Sm at *; dsimp only; omega
end Go.Proofs.YthlimflfglkpiaaDoor
