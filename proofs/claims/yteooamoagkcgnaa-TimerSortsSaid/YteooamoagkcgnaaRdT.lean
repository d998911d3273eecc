/-
  How rows of timers read.
-/
import Derived.Test.YteooamoagkcgnaaRd
import Derived.Test.YteooamoagkcgnaaTmQ
namespace Go.Proofs.Yteooamoagkcgnaa
open Go.RowKit Go.WideShapes Go.ChangeShapes Go.ChangeAt
set_option linter.unusedSimpArgs false
set_option linter.unusedVariables false
theorem rd_Tm {H : Type} {enc : TypeId × Value → H} {w : World} {base : Nat} {spare : Nat → Bool} {held : Bool} {fuel : Nat} {cs : List Value} {x : DataW H × List MemPlace} (h : DataW.trod enc Try.prog w base spare held fuel 27 cs = some x) :
    ∃ (a : Int) (k : ByteArray), cs = [.int .i64 a, .string k] ∧ (-9223372036854775808 ≤ a ∧ a ≤ 9223372036854775807) ∧ k.size ≤ maxLen := by
  have hl := rd_len Try.underlying27 h
  have hl2 : cs.length = 2 := hl.trans (by kernel_rfl)
  obtain ⟨c0, c1, rfl⟩ : ∃ c0 c1, cs = [c0, c1] := by
    match cs, hl2 with
    | [c0, c1], _ => exact ⟨c0, c1, rfl⟩
  clear hl hl2
  have hc0 : Try.prog.cellsOf 2 = 1 := by kernel_rfl
  have hc1 : Try.prog.cellsOf 9 = 1 := by kernel_rfl
  obtain ⟨n0, y0, g0⟩ := rd_field Try.underlying27 h 0 _ rfl
  obtain ⟨x0, e0, _, w0⟩ := DataW.trod_int Try.underlying2 g0
  simp [hc0] at e0
  subst e0
  obtain ⟨n1, y1, g1⟩ := rd_field Try.underlying27 h 1 _ rfl
  obtain ⟨x1, e1, _, w1⟩ := DataW.trod_string Try.underlying9 g1
  simp [hc1] at e1
  subst e1
  exact ⟨x0, x1, rfl, wf_i64 w0, w1⟩
theorem el_Tm {H : Type} {enc : TypeId × Value → H} {w : World} (m : Nat) (cs : List Value) (y : DataW H × List MemPlace) (hl : cs.length = 2) (ht : DataW.trod enc Try.prog w 0 (fun _ => true) true m 27 cs = some y) : ∃ x : Tm, cs = x.vals ∧ True := by
  obtain ⟨a, k, rfl, _⟩ := rd_Tm ht
  exact ⟨⟨a, k⟩, rfl, trivial⟩
set_option maxRecDepth 100000 in
theorem open_tms_arg {H : Type} {enc : TypeId × Value → H} {w : World} {b0 : Nat} {v : Value} {d : DataW H} {ps : List MemPlace} (hv : Value.okWide Try.prog w .any b0 22 v) (h : DataW.Trod enc Try.prog w 0 (fun _ => true) true 22 v d ps) :
    ∃ xs : List Tm, xs.length ≤ 9223372036854775807 ∧ rep [] (fun _ => undef) w (fun _ => False) (.sl 2 (xs.map Tm.av)) v := by
  obtain ⟨A, n, c, xs, rfl, h2, h3, h4, h5, h6⟩ := open_rows_arg Tm.vals (fun _ => True) Try.underlying22 (by kernel_rfl : Try.prog.cellsOf 27 = 2) (by omega) el_Tm hv h
  exact ⟨xs, by omega, rep_sl Tm.vals Tm.av h5 h4 h2 h3 (fun _ => rfl) (fun x _ => repC_con (cs := Tm.vals x) rfl)⟩
end Go.Proofs.Yteooamoagkcgnaa
