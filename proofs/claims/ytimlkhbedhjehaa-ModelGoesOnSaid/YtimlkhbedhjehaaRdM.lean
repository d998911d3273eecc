/-
  How rows of events, and rows of such rows, read.
-/
import Derived.Test.YtimlkhbedhjehaaRd
import Derived.Test.YtimlkhbedhjehaaMdC
namespace Go.Proofs.Ytimlkhbedhjehaa
open Go.RowKit Go.WideShapes Go.ChangeShapes Go.ChangeAt
set_option linter.unusedSimpArgs false
set_option linter.unusedVariables false
set_option maxRecDepth 100000
theorem el_EtR {H : Type} {enc : TypeId × Value → H} {w : World} (m : Nat) (cs : List Value) (y : DataW H × List MemPlace) (hl : cs.length = 3) (ht : DataW.trod enc Try.prog w 0 (fun _ => true) true m 79 cs = some y) : ∃ x : Et, cs = x.cells ∧ (-9223372036854775808 ≤ x.v ∧ x.v ≤ 9223372036854775807) := by
  obtain ⟨key, a, v, rfl, h⟩ := rd_Ev ht
  exact ⟨⟨key, a, v⟩, rfl, h.2.2⟩
theorem open_etsR_arg {H : Type} {enc : TypeId × Value → H} {w : World} {b0 : Nat} {v : Value} {d : DataW H} {ps : List MemPlace} (hv : Value.okWide Try.prog w .any b0 86 v) (h : DataW.Trod enc Try.prog w 0 (fun _ => true) true 86 v d ps) :
    ∃ xs : List Et, xs.length ≤ 9223372036854775807 ∧ (∀ e ∈ xs, -9223372036854775808 ≤ e.v ∧ e.v ≤ 9223372036854775807) ∧ rep [] (fun _ => undef) w (fun _ => False) (.sl 3 (xs.map Et.av)) v := by
  obtain ⟨A, n, c, xs, rfl, h2, h3, h4, h5, h6⟩ := open_rows_arg Et.cells (fun x => -9223372036854775808 ≤ x.v ∧ x.v ≤ 9223372036854775807) Try.underlying86 (by kernel_rfl : Try.prog.cellsOf 79 = 3) (by omega) el_EtR hv h
  exact ⟨xs, by omega, h6, rep_sl Et.cells Et.av h5 h4 h2 h3 (fun _ => rfl) (fun x _ => repC_con (cs := Et.cells x) rfl)⟩
/-- a row of events as it reads -/
def InOk (w : World) (x : Value × List Et) : Prop := x.2.length ≤ 9223372036854775807 ∧ (∀ e ∈ x.2, -9223372036854775808 ≤ e.v ∧ e.v ≤ 9223372036854775807) ∧ x.1.oneCell' = true ∧ rep [] (fun _ => undef) w (fun _ => False) (.sl 3 (x.2.map Et.av)) x.1
theorem el_In {H : Type} {enc : TypeId × Value → H} {w : World} (m : Nat) (cs : List Value) (y : DataW H × List MemPlace) (hl : cs.length = 1) (ht : DataW.trod enc Try.prog w 0 (fun _ => true) true m 86 cs = some y) : ∃ x : Value × List Et, cs = [x.1] ∧ InOk w x := by
  obtain ⟨A, n, c, xs, h1, h2, h3, h4, h5, h6⟩ := open_rows Et.cells (fun x => -9223372036854775808 ≤ x.v ∧ x.v ≤ 9223372036854775807) Try.underlying86 (by kernel_rfl : Try.prog.cellsOf 79 = 3) (by omega) el_EtR ht
  exact ⟨(.slice A n c, xs), h1, by dsimp only; omega, h6, rfl, rep_sl Et.cells Et.av h5 h4 h2 h3 (fun _ => rfl) (fun x _ => repC_con (cs := Et.cells x) rfl)⟩
theorem open_ins_arg {H : Type} {enc : TypeId × Value → H} {w : World} {b0 : Nat} {v : Value} {d : DataW H} {ps : List MemPlace} (hv : Value.okWide Try.prog w .any b0 90 v) (h : DataW.Trod enc Try.prog w 0 (fun _ => true) true 90 v d ps) :
    ∃ ls : List (List Et), Small ls ∧ (∀ es ∈ ls, ∀ e ∈ es, -9223372036854775808 ≤ e.v ∧ e.v ≤ 9223372036854775807) ∧ rep [] (fun _ => undef) w (fun _ => False) (.sl 1 (ls.map inAv)) v := by
  obtain ⟨A, n, c, xs, rfl, h2, h3, h4, h5, h6⟩ := open_rows_arg (fun x : Value × List Et => [x.1]) (InOk w) Try.underlying90 (by kernel_rfl : Try.prog.cellsOf 86 = 1) (by omega) el_In hv h
  refine ⟨xs.map Prod.snd, ⟨by rw [List.length_map]; omega, fun es he => ?_⟩, fun es he => ?_, ?_⟩
  · obtain ⟨x, h7, rfl⟩ := List.mem_map.1 he; exact (h6 x h7).1
  · obtain ⟨x, h7, rfl⟩ := List.mem_map.1 he; exact (h6 x h7).2.1
  · rw [List.map_map]
    refine rep_sl (fun x : Value × List Et => [x.1]) (inAv ∘ Prod.snd) h5 h4 h2 h3 (fun _ => rfl) (fun x hx => ?_)
    obtain ⟨_, _, h7, h8⟩ := h6 x hx
    simp only [Function.comp, inAv, repC]
    exact ⟨_, _, rfl, h7, h8, rfl⟩
theorem rep_int64 {w : World} {x : Int} : rep [] (fun _ => undef) w (fun _ => False) (.v (.int .i64 x)) (.int .i64 x) := by simp [rep, scal]
end Go.Proofs.Ytimlkhbedhjehaa
