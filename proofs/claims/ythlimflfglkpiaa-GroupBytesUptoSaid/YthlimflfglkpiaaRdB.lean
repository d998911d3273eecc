/-
  How a group reads, with its numbers' ranges.
-/
import Derived.Test.YthlimflfglkpiaaRd
import Derived.Test.YthlimflfglkpiaaBtH
namespace Go.Proofs.Ythlimflfglkpiaa
open Go.RowKit Go.WideShapes Go.ChangeShapes Go.ChangeAt
set_option linter.unusedSimpArgs false
set_option linter.unusedVariables false
theorem el_PnI {H : Type} {enc : TypeId × Value → H} {w : World} (m : Nat) (cs : List Value) (y : DataW H × List MemPlace) (hl : cs.length = 6) (ht : DataW.trod enc Try.prog w 0 (fun _ => true) true m 45 cs = some y) : ∃ x : Pn, cs = x.cells ∧ PI x := by
  obtain ⟨lo, hi, key, n, a, b, rfl, h1, h2, h3, h4, h5, h6⟩ := rd_Pane ht
  exact ⟨⟨lo, hi, key, n, a, b⟩, rfl, ⟨h1, h2, h4, h5, h6⟩⟩
set_option maxRecDepth 100000 in
theorem rd_GroupI {H : Type} {enc : TypeId × Value → H} {w : World} {fuel : Nat} {cs : List Value} {x : DataW H × List MemPlace} (h : DataW.trod enc Try.prog w 0 (fun _ => true) true fuel 24 cs = some x) :
    ∃ (no mark : Int) (v : Value) (xs : List Pn), cs = [.int .i64 no, .int .i64 mark, v] ∧ v.oneCell' = true ∧ PnsRd w v xs ∧ i64P no ∧ i64P mark ∧ ∀ p ∈ xs, PI p := by
  have hl := rd_len Try.underlying24 h
  have hl2 : cs.length = 3 := hl.trans (by kernel_rfl)
  obtain ⟨c0, c1, c2, rfl⟩ := len3 hl2
  clear hl hl2
  have hc0 : Try.prog.cellsOf 3 = 1 := by kernel_rfl
  have hc1 : Try.prog.cellsOf 2 = 1 := by kernel_rfl
  have hc2 : Try.prog.cellsOf 22 = 1 := by kernel_rfl
  obtain ⟨n0, y0, g0⟩ := rd_field Try.underlying24 h 0 _ rfl
  obtain ⟨x0, e0, _, w0⟩ := DataW.trod_int Try.underlying3 g0
  simp [hc0] at e0
  subst e0
  obtain ⟨n1, y1, g1⟩ := rd_field Try.underlying24 h 1 _ rfl
  obtain ⟨x1, e1, _, w1⟩ := DataW.trod_int Try.underlying2 g1
  simp [hc1] at e1
  subst e1
  obtain ⟨n2, y2, g2⟩ := rd_field Try.underlying24 h 2 _ rfl
  obtain ⟨A, n, c, xs, e2, h2, h3, h4, h5, h6⟩ := open_rows Pn.cells PI Try.underlying22 (by kernel_rfl : Try.prog.cellsOf 45 = 6) (by omega) el_PnI g2
  simp [hc2] at e2
  subst e2
  exact ⟨x0, x1, _, xs, rfl, rfl, pnsRd h2 h3 h4 h5, wf_i64 w0, wf_i64 w1, h6⟩
end Go.Proofs.Ythlimflfglkpiaa
