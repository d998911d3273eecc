/-
  How rows of acts on timers read.
-/
import Derived.Test.YteooamoagkcgnaaRdT
import Derived.Test.YteooamoagkcgnaaTmPl
namespace Go.Proofs.Yteooamoagkcgnaa
open Go.RowKit Go.WideShapes Go.ChangeShapes Go.ChangeAt
set_option linter.unusedSimpArgs false
set_option linter.unusedVariables false
theorem rd_Ac {H : Type} {enc : TypeId × Value → H} {w : World} {base : Nat} {spare : Nat → Bool} {held : Bool} {fuel : Nat} {cs : List Value} {x : DataW H × List MemPlace} (h : DataW.trod enc Try.prog w base spare held fuel 42 cs = some x) :
    ∃ (w : Int) (a : Int) (k : ByteArray), cs = [.int .i64 w, .int .i64 a, .string k] ∧ (-9223372036854775808 ≤ w ∧ w ≤ 9223372036854775807) ∧ (-9223372036854775808 ≤ a ∧ a ≤ 9223372036854775807) ∧ k.size ≤ maxLen := by
  have hl := rd_len Try.underlying42 h
  have hl2 : cs.length = 3 := hl.trans (by kernel_rfl)
  obtain ⟨c0, c1, c2, rfl⟩ : ∃ c0 c1 c2, cs = [c0, c1, c2] := by
    match cs, hl2 with
    | [c0, c1, c2], _ => exact ⟨c0, c1, c2, rfl⟩
  clear hl hl2
  have hc0 : Try.prog.cellsOf 3 = 1 := by kernel_rfl
  have hc1 : Try.prog.cellsOf 27 = 2 := by kernel_rfl
  obtain ⟨n0, y0, g0⟩ := rd_field Try.underlying42 h 0 _ rfl
  obtain ⟨x0, e0, _, w0⟩ := DataW.trod_int Try.underlying3 g0
  simp [hc0] at e0
  subst e0
  obtain ⟨n1, y1, g1⟩ := rd_field Try.underlying42 h 1 _ rfl
  obtain ⟨x1_0, x1_1, e1, w1_0, w1_1⟩ := rd_Tm g1
  simp [hc1] at e1
  obtain ⟨rfl, rfl⟩ := e1
  exact ⟨x0, x1_0, x1_1, rfl, wf_i64 w0, w1_0, w1_1⟩
theorem el_Ac {H : Type} {enc : TypeId × Value → H} {w : World} (m : Nat) (cs : List Value) (y : DataW H × List MemPlace) (hl : cs.length = 3) (ht : DataW.trod enc Try.prog w 0 (fun _ => true) true m 42 cs = some y) : ∃ x : Ac, cs = x.vals ∧ True := by
  obtain ⟨q, a, k, rfl, _⟩ := rd_Ac ht
  exact ⟨⟨q, ⟨a, k⟩⟩, rfl, trivial⟩
set_option maxRecDepth 100000 in
theorem open_acs_arg {H : Type} {enc : TypeId × Value → H} {w : World} {b0 : Nat} {v : Value} {d : DataW H} {ps : List MemPlace} (hv : Value.okWide Try.prog w .any b0 40 v) (h : DataW.Trod enc Try.prog w 0 (fun _ => true) true 40 v d ps) :
    ∃ xs : List Ac, xs.length ≤ 9223372036854775807 ∧ rep [] (fun _ => undef) w (fun _ => False) (.sl 3 (xs.map Ac.av)) v := by
  obtain ⟨A, n, c, xs, rfl, h2, h3, h4, h5, h6⟩ := open_rows_arg Ac.vals (fun _ => True) Try.underlying40 (by kernel_rfl : Try.prog.cellsOf 42 = 3) (by omega) el_Ac hv h
  exact ⟨xs, by omega, rep_sl Ac.vals Ac.av h5 h4 h2 h3 (fun _ => rfl) (fun x _ => repC_con (cs := Ac.vals x) rfl)⟩
end Go.Proofs.Yteooamoagkcgnaa
