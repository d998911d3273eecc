/-
  How the arguments of layer ring's laws read.
-/
import Derived.Test.YtnjhgconfbkjmaaRingM
import Derived.Test.YtnjhgconfbkjmaaBulk
namespace Go.Proofs.Ytnjhgconfbkjmaa
open Go.RowKit Go.WideShapes Go.ChangeShapes Go.ChangeAt

theorem A_laidOut : laidOutB Try.prog = true := by kernel_rfl
theorem open_intsI_arg {H : Type} {enc : TypeId × Value → H} {w : World} {b0 : Nat} {v : Value} {d : DataW H} {ps : List MemPlace} (hv : Value.okWide Try.prog w .any b0 22 v) (h : DataW.Trod enc Try.prog w 0 (fun _ => true) true 22 v d ps) :
    ∃ (A : Option Addr) (n c : Nat) (xs : List Int), v = .slice A n c ∧ n ≤ c ∧ c ≤ Rows.uptoBulk d ∧ Hid (n = xs.length) ∧ Reads w w.heap.size 1 A n (xs.map (Value.int .i64)) ∧ ∀ x ∈ xs, (-9223372036854775808 ≤ x ∧ x ≤ 9223372036854775807) := by
  obtain ⟨A, n, c, xs, rfl, h2, h3, h4, h5, h6⟩ := open_rows_arg (fun x : Int => [Value.int .i64 x]) (fun x => (-9223372036854775808 ≤ x ∧ x ≤ 9223372036854775807)) Try.underlying22 (by kernel_rfl : Try.prog.cellsOf 3 = 1) (by omega) (el_i64 Try.underlying3) hv h
  exact ⟨A, n, c, xs, rfl, h2, bulk_cap_arg Try.underlying22 h, hide h4, by rw [List.map_eq_flatMap]; exact h5, h6⟩

end Go.Proofs.Ytnjhgconfbkjmaa
