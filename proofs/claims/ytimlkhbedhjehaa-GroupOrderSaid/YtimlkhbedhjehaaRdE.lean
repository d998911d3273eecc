/-
  How events read.
-/
import Derived.Test.YtimlkhbedhjehaaRd
namespace Go.Proofs.Ytimlkhbedhjehaa
open Go.RowKit Go.WideShapes Go.ChangeShapes Go.ChangeAt
set_option linter.unusedSimpArgs false
set_option linter.unusedVariables false
theorem rd_Ev {H : Type} {enc : TypeId × Value → H} {w : World} {base : Nat} {spare : Nat → Bool} {held : Bool} {fuel : Nat} {cs : List Value} {x : DataW H × List MemPlace} (h : DataW.trod enc Try.prog w base spare held fuel 79 cs = some x) :
    ∃ (k : ByteArray) (a : Int) (v : Int), cs = [.string k, .int .i64 a, .int .i64 v] ∧ k.size ≤ maxLen ∧ (-9223372036854775808 ≤ a ∧ a ≤ 9223372036854775807) ∧ (-9223372036854775808 ≤ v ∧ v ≤ 9223372036854775807) := by
  have hl := rd_len Try.underlying79 h
  have hl2 : cs.length = 3 := hl.trans (by kernel_rfl)
  obtain ⟨c0, c1, c2, rfl⟩ : ∃ c0 c1 c2, cs = [c0, c1, c2] := by
    match cs, hl2 with
    | [c0, c1, c2], _ => exact ⟨c0, c1, c2, rfl⟩
  clear hl hl2
  have hc0 : Try.prog.cellsOf 9 = 1 := by kernel_rfl
  have hc1 : Try.prog.cellsOf 2 = 1 := by kernel_rfl
  obtain ⟨n0, y0, g0⟩ := rd_field Try.underlying79 h 0 _ rfl
  obtain ⟨x0, e0, _, w0⟩ := DataW.trod_string Try.underlying9 g0
  simp [hc0] at e0
  subst e0
  obtain ⟨n1, y1, g1⟩ := rd_field Try.underlying79 h 1 _ rfl
  obtain ⟨x1, e1, _, w1⟩ := DataW.trod_int Try.underlying2 g1
  simp [hc1] at e1
  subst e1
  obtain ⟨n2, y2, g2⟩ := rd_field Try.underlying79 h 2 _ rfl
  obtain ⟨x2, e2, _, w2⟩ := DataW.trod_int Try.underlying2 g2
  simp [hc1] at e2
  subst e2
  exact ⟨x0, x1, x2, rfl, w0, wf_i64 w1, wf_i64 w2⟩
theorem rep_Ev {w : World} {k : ByteArray} {a v : Int} : rep [] (fun _ => undef) w (fun _ => False) (.agg [.v (.string k), .v (.int .i64 a), .v (.int .i64 v)]) (.agg #[.string k, .int .i64 a, .int .i64 v]) := by
  simp only [rep]
  exact ⟨_, rfl, repC_con (cs := [.string k, .int .i64 a, .int .i64 v]) rfl⟩
end Go.Proofs.Ytimlkhbedhjehaa
