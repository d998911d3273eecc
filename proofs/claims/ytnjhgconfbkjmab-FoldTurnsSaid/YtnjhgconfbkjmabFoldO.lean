/-
  How the arguments of layer fold's laws read.
-/
import Derived.Test.YtnjhgconfbkjmabFoldR2
import Derived.Test.YtnjhgconfbkjmabLaw
namespace Go.Proofs.Ytnjhgconfbkjmab
open Go.RowKit Go.WideShapes Go.ChangeShapes Go.ChangeAt
set_option linter.unusedSimpArgs false
set_option linter.unusedVariables false

theorem A_laidOut : laidOutB Try.prog = true := by kernel_rfl

theorem rd_Acc {H : Type} {enc : TypeId × Value → H} {w : World} {base : Nat} {spare : Nat → Bool} {held : Bool} {fuel : Nat} {cs : List Value} {x : DataW H × List MemPlace} (h : DataW.trod enc Try.prog w base spare held fuel 23 cs = some x) :
    ∃ n a b : Int, cs = [.int .i64 n, .int .i64 a, .int .i64 b] ∧ I64 n ∧ I64 a ∧ I64 b := by
  have hl := rd_len Try.underlying23 h
  obtain ⟨c0, c1, c2, rfl⟩ := len3 (hl.trans (by kernel_rfl))
  obtain ⟨n0, y0, g0⟩ := rd_field Try.underlying23 h 0 _ rfl
  obtain ⟨n1, y1, g1⟩ := rd_field Try.underlying23 h 1 _ rfl
  obtain ⟨n2, y2, g2⟩ := rd_field Try.underlying23 h 2 _ rfl
  obtain ⟨x0, e0, _, w0⟩ := DataW.trod_int Try.underlying2 g0
  obtain ⟨x1, e1, _, w1⟩ := DataW.trod_int Try.underlying2 g1
  obtain ⟨x2, e2, _, w2⟩ := DataW.trod_int Try.underlying2 g2
  have hc : Try.prog.cellsOf 2 = 1 := by kernel_rfl
  simp [hc] at e0 e1 e2
  subst e0 e1 e2
  exact ⟨x0, x1, x2, rfl, wf_i64 w0, wf_i64 w1, wf_i64 w2⟩

/-- A row that the call itself has just made. -/
theorem Reads.row1 {w : World} {g : Nat} {t : TypeId} {u : Value} (h : Blk w g t #[u]) : Reads w (g + 1) 1 (some ⟨g, 0, none⟩) 1 [u] := by
  refine ⟨rfl, fun _ => ⟨g, 0, rfl, by omega, fun j x hx => ?_⟩⟩
  rw [h.cell]
  match j, hx with
  | 0, hx => simpa using hx

theorem open_ints_arg {H : Type} {enc : TypeId × Value → H} {w : World} {b0 : Nat} {v : Value} {d : DataW H} {ps : List MemPlace} (hv : Value.okWide Try.prog w .any b0 28 v) (h : DataW.Trod enc Try.prog w 0 (fun _ => true) true 28 v d ps) :
    ∃ (A : Option Addr) (n c : Nat) (xs : List Int), v = .slice A n c ∧ n ≤ c ∧ c ≤ 9223372036854775807 ∧ Hid (n = xs.length) ∧ Reads w w.heap.size 1 A n (xs.map (Value.int .i64)) ∧ ∀ x ∈ xs, I64 x := by
  obtain ⟨A, n, c, xs, h1, h2, h3, h4, h5, h6⟩ := open_rows_arg (fun x : Int => [Value.int .i64 x]) (fun x => I64 x) Try.underlying28 (by kernel_rfl : Try.prog.cellsOf 2 = 1) (by omega) (el_i64 Try.underlying2) hv h
  exact ⟨A, n, c, xs, h1, h2, h3, hide h4, by rw [List.map_eq_flatMap]; exact h5, h6⟩
end Go.Proofs.Ytnjhgconfbkjmab
