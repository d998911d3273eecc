/-
  How rows of timers read, and what their parts may be.
-/
import Derived.Test.YteooamoagkcgnaaRdT
import Derived.Test.YteooamoagkcgnaaTmV
namespace Go.Proofs.Yteooamoagkcgnaa
open Go.RowKit Go.WideShapes Go.ChangeShapes Go.ChangeAt
set_option linter.unusedSimpArgs false
set_option linter.unusedVariables false
theorem el_Tm2 {H : Type} {enc : TypeId × Value → H} {w : World} (m : Nat) (cs : List Value) (y : DataW H × List MemPlace) (hl : cs.length = 2) (ht : DataW.trod enc Try.prog w 0 (fun _ => true) true m 27 cs = some y) : ∃ x : Tm, cs = x.vals ∧ x.right := by
  obtain ⟨a, k, rfl, hf⟩ := rd_Tm ht
  exact ⟨⟨a, k⟩, rfl, hf.1, hf.2⟩
set_option maxRecDepth 100000 in
theorem open_tms_arg2 {H : Type} {enc : TypeId × Value → H} {w : World} {b0 : Nat} {v : Value} {d : DataW H} {ps : List MemPlace} (hv : Value.okWide Try.prog w .any b0 22 v) (h : DataW.Trod enc Try.prog w 0 (fun _ => true) true 22 v d ps) :
    ∃ xs : List Tm, xs.length ≤ 9223372036854775807 ∧ (∀ x ∈ xs, x.right) ∧ rep [] (fun _ => undef) w (fun _ => False) (.sl 2 (xs.map Tm.av)) v := by
  obtain ⟨A, n, c, xs, rfl, h2, h3, h4, h5, h6⟩ := open_rows_arg Tm.vals Tm.right Try.underlying22 (by kernel_rfl : Try.prog.cellsOf 27 = 2) (by omega) el_Tm2 hv h
  exact ⟨xs, by omega, h6, rep_sl Tm.vals Tm.av h5 h4 h2 h3 (fun _ => rfl) (fun x _ => repC_con (cs := Tm.vals x) rfl)⟩
end Go.Proofs.Yteooamoagkcgnaa
