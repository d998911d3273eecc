/-
  The reference's reading of jobs: a beginning and a number, each as a plain function.
-/
import Derived.Test.YthlimflfglkpiaaDoorJrD
namespace Go.Proofs.YthlimflfglkpiaaDoor
open Go.RowKit
set_option linter.unusedSimpArgs false
set_option linter.unusedVariables false
open Classical in
noncomputable def aftS (s b : ByteArray) : ByteArray × Bool := if h : ∃ r, s.data.toList = b.data.toList ++ r then (mkB (Classical.choose h), true) else (s, false)
theorem aftS_yes {s b : ByteArray} {r : List UInt8} (h : s.data.toList = b.data.toList ++ r) : aftS s b = (mkB r, true) := by
  have hx : ∃ r, s.data.toList = b.data.toList ++ r := ⟨r, h⟩
  have e2 : r = Classical.choose hx := List.append_cancel_left (h.symm.trans (Classical.choose_spec hx))
  unfold aftS
  rw [dif_pos hx, ← e2]
theorem aftS_no {s b : ByteArray} (h : ¬ ∃ r, s.data.toList = b.data.toList ++ r) : aftS s b = (s, false) := by
  unfold aftS; rw [dif_neg h]
theorem p_after (s b : ByteArray) (hs : Sm s) : PC Tryd.prog 66 [.v (.string s), .v (.string b)] (.tup [.v (.string (aftS s b).1), .v (.bool (aftS s b).2)]) := by
  by_cases h : ∃ r, s.data.toList = b.data.toList ++ r
  · obtain ⟨r, h⟩ := h
    rw [aftS_yes h]; exact p_afterY s b r h hs
  · rw [aftS_no h]; exact p_afterN s b h hs
theorem aftS_sm {s b : ByteArray} (hs : Sm s) : Sm (aftS s b).1 := by
  by_cases h : ∃ r, s.data.toList = b.data.toList ++ r
  · obtain ⟨r, h⟩ := h
    rw [aftS_yes h]
    have : (mkB r).size ≤ s.size := by rw [← size_list, ← size_list, h, mkB_list, List.length_append]; omega
    unfold Sm at *; dsimp only; omega
  · rw [aftS_no h]; exact hs
end Go.Proofs.YthlimflfglkpiaaDoor
