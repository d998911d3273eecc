/-
  Panes, walked over abstract values: the document's way to add a value; the law.
-/
import Derived.Test.YtagfjnjpgphnjaaPnP
import Derived.Test.YtagfjnjpgphnjaaPnU
namespace Go.Proofs.Ytagfjnjpgphnjaa
open Go.RowKit
set_option linter.unusedSimpArgs false
set_option linter.unusedVariables false
theorem putR_le {k : Int} {xs : List Pn} {x : Pn} (h : rightL xs = true) : (putR k xs x).1.length ≤ 2000 := by
  unfold putR
  split
  · rename_i l h1
    exact putL_len h1 (rightL_ok h).1
  · simp
theorem addR_le (k : Int) (xs : List Pn) (x : Pn) : (addR k xs x).1.length ≤ 2000 := by
  unfold addR
  split
  · rename_i h
    simp only [Bool.and_eq_true] at h
    exact putR_le h.1.1
  · simp
end Go.Proofs.Ytagfjnjpgphnjaa
