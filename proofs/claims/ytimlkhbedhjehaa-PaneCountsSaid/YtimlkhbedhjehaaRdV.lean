/-
  How rows of values, and of numbers, read.
-/
import Derived.Test.YtimlkhbedhjehaaRd
import Derived.Test.YtimlkhbedhjehaaPnX
namespace Go.Proofs.Ytimlkhbedhjehaa
open Go.RowKit Go.WideShapes Go.ChangeShapes Go.ChangeAt
set_option linter.unusedSimpArgs false
set_option linter.unusedVariables false
theorem rd_Vl {H : Type} {enc : TypeId × Value → H} {w : World} {base : Nat} {spare : Nat → Bool} {held : Bool} {fuel : Nat} {cs : List Value} {x : DataW H × List MemPlace} (h : DataW.trod enc Try.prog w base spare held fuel 60 cs = some x) :
    ∃ (key : ByteArray) (lo : Int) (hi : Int) (v : Int), cs = [.string key, .int .i64 lo, .int .i64 hi, .int .i64 v] ∧ key.size ≤ maxLen ∧ (-9223372036854775808 ≤ lo ∧ lo ≤ 9223372036854775807) ∧ (-9223372036854775808 ≤ hi ∧ hi ≤ 9223372036854775807) ∧ (-9223372036854775808 ≤ v ∧ v ≤ 9223372036854775807) := by
  have hl := rd_len Try.underlying60 h
  have hl2 : cs.length = 4 := hl.trans (by kernel_rfl)
  obtain ⟨c0, c1, c2, c3, rfl⟩ : ∃ c0 c1 c2 c3, cs = [c0, c1, c2, c3] := by
    match cs, hl2 with
    | [c0, c1, c2, c3], _ => exact ⟨c0, c1, c2, c3, rfl⟩
  clear hl hl2
  have hc0 : Try.prog.cellsOf 9 = 1 := by kernel_rfl
  have hc1 : Try.prog.cellsOf 37 = 2 := by kernel_rfl
  have hc2 : Try.prog.cellsOf 2 = 1 := by kernel_rfl
  obtain ⟨n0, y0, g0⟩ := rd_field Try.underlying60 h 0 _ rfl
  obtain ⟨x0, e0, _, w0⟩ := DataW.trod_string Try.underlying9 g0
  simp [hc0] at e0
  subst e0
  obtain ⟨n1, y1, g1⟩ := rd_field Try.underlying60 h 1 _ rfl
  obtain ⟨x1_0, x1_1, e1, w1_0, w1_1⟩ := rd_Win g1
  simp [hc1] at e1
  obtain ⟨rfl, rfl⟩ := e1
  obtain ⟨n2, y2, g2⟩ := rd_field Try.underlying60 h 2 _ rfl
  obtain ⟨x2, e2, _, w2⟩ := DataW.trod_int Try.underlying2 g2
  simp [hc2] at e2
  subst e2
  exact ⟨x0, x1_0, x1_1, x2, rfl, w0, w1_0, w1_1, wf_i64 w2⟩
theorem el_Vl {H : Type} {enc : TypeId × Value → H} {w : World} (m : Nat) (cs : List Value) (y : DataW H × List MemPlace) (hl : cs.length = 4) (ht : DataW.trod enc Try.prog w 0 (fun _ => true) true m 60 cs = some y) : ∃ x : Vl, cs = x.cells ∧ True := by
  obtain ⟨key, lo, hi, v, rfl, _⟩ := rd_Vl ht
  exact ⟨⟨key, lo, hi, v⟩, rfl, trivial⟩
set_option maxRecDepth 100000 in
theorem open_vls_arg {H : Type} {enc : TypeId × Value → H} {w : World} {b0 : Nat} {v : Value} {d : DataW H} {ps : List MemPlace} (hv : Value.okWide Try.prog w .any b0 57 v) (h : DataW.Trod enc Try.prog w 0 (fun _ => true) true 57 v d ps) :
    ∃ xs : List Vl, xs.length ≤ 9223372036854775807 ∧ rep [] (fun _ => undef) w (fun _ => False) (.sl 4 (xs.map Vl.av)) v := by
  obtain ⟨A, n, c, xs, rfl, h2, h3, h4, h5, h6⟩ := open_rows_arg Vl.cells (fun _ => True) Try.underlying57 (by kernel_rfl : Try.prog.cellsOf 60 = 4) (by omega) el_Vl hv h
  exact ⟨xs, by omega, rep_sl Vl.cells Vl.av h5 h4 h2 h3 (fun _ => rfl) (fun x _ => repC_con (cs := Vl.cells x) rfl)⟩
def iav (s : Int) : List AV := [.v (.int .i64 s)]
set_option maxRecDepth 100000 in
theorem open_intsI_arg {H : Type} {enc : TypeId × Value → H} {w : World} {b0 : Nat} {v : Value} {d : DataW H} {ps : List MemPlace} (hv : Value.okWide Try.prog w .any b0 58 v) (h : DataW.Trod enc Try.prog w 0 (fun _ => true) true 58 v d ps) :
    ∃ xs : List Int, xs.length ≤ 9223372036854775807 ∧ rep [] (fun _ => undef) w (fun _ => False) (.sl 1 (xs.map iav)) v := by
  obtain ⟨A, n, c, xs, rfl, h2, h3, h4, h5, h6⟩ := open_rows_arg (fun x : Int => [Value.int .i64 x]) (fun x => (-9223372036854775808 ≤ x ∧ x ≤ 9223372036854775807)) Try.underlying58 (by kernel_rfl : Try.prog.cellsOf 3 = 1) (by omega) (el_i64 Try.underlying3) hv h
  exact ⟨xs, by omega, rep_sl (fun x : Int => [Value.int .i64 x]) iav h5 h4 h2 h3 (fun _ => rfl) (fun x _ => repC_con (cs := [Value.int .i64 x]) rfl)⟩
end Go.Proofs.Ytimlkhbedhjehaa
