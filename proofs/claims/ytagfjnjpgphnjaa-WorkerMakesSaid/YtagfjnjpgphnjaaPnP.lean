/-
  Panes, walked over abstract values: the document's way to put one more.
  Panes, walked over abstract values: the document's way to add a value.
  Panes, walked over abstract values: the document's way to put one more into a row.
  Panes, walked over abstract values: the document's way to put one more, where its like is.
-/
import Derived.Test.YtagfjnjpgphnjaaPnM
namespace Go.Proofs.Ytagfjnjpgphnjaa
open Go.RowKit
set_option linter.unusedSimpArgs false
set_option linter.unusedVariables false
theorem run_eq_Win (x y : Operand) (lo hi lo' hi' : Int) (w : World) : (do eqGuard .eql 75 x y (.agg [Value.int .i64 lo, .int .i64 hi].toArray) (.agg [Value.int .i64 lo', .int .i64 hi'].toArray); binOp .eql 75 (.agg [Value.int .i64 lo, .int .i64 hi].toArray) (.agg [Value.int .i64 lo', .int .i64 hi'].toArray) : Sem Value).run Try.prog w = .ok (.bool (decide (lo = lo') && decide (hi = hi'))) w := by
  go_simp
  by_cases h1 : lo = lo' <;> by_cases h2 : hi = hi' <;> simp [h1, h2]
section
variable {Γ : Ctx} {s : ASt} {dst : Option Tmp} {ty yt : TypeId} {pos : String} {after : Array Edge} {x y : Operand}
theorem ls_eqWin (lo hi lo' hi' : Int) (hx : ev s x = some (.agg [.v (.int .i64 lo), .v (.int .i64 hi)])) (hy : ev s y = some (.agg [.v (.int .i64 lo'), .v (.int .i64 hi')])) (hd : okDst Γ.n dst = true) : LS Try.prog Γ ⟨dst, .binOp .eql 75 x y yt, ty, pos, after, none⟩ s (rd x (rd y [])) (dst1 dst (.v (.bool (decide (lo = lo') && decide (hi = hi'))))) [] :=
  ls_eqA [Value.int .i64 lo, .int .i64 hi] [Value.int .i64 lo', .int .i64 hi'] (run_eq_Win x y lo hi lo' hi') hx hy rfl rfl hd
end
end Go.Proofs.Ytagfjnjpgphnjaa
namespace Go.Proofs.Ytagfjnjpgphnjaa
open Go.RowKit
set_option linter.unusedSimpArgs false
set_option linter.unusedVariables false
end Go.Proofs.Ytagfjnjpgphnjaa
namespace Go.Proofs.Ytagfjnjpgphnjaa
open Go.RowKit
set_option linter.unusedSimpArgs false
set_option linter.unusedVariables false
section
variable {xs : List Pn} {x : Pn}
theorem at_lt (hs : xs.Pairwise (fun p q => ahead p q = true)) {q : Nat} (h : q < xs.length) (hq : q < atL xs x) : ahead x xs[q] = false ∧ ¬ sameP xs[q] x := by
  have h1 := (atL_iff hs h).2 hq
  exact ⟨ahead_asymm h1, fun h2 => by rw [same_ahead h2] at h1; cases h1⟩
theorem at_new (hs : xs.Pairwise (fun p q => ahead p q = true)) {q : Nat} (h : q < xs.length) (hq : q = atL xs x) (hi : isL xs x = false) : ahead x xs[q] = true ∧ ¬ sameP xs[q] x := by
  have h1 : ahead xs[q] x = false := by
    cases h2 : ahead xs[q] x
    · rfl
    · have := (atL_iff hs h).1 h2; omega
  rw [isL_at h hq] at hi
  have h3 : ¬ sameP xs[q] x := fun h4 => by simp [cmpP_zero.2 h4] at hi
  refine ⟨?_, h3⟩
  cases h5 : ahead x xs[q]
  · exact absurd (ahead_total h1 h5) h3
  · rfl
theorem at_is {q : Nat} (h : q < xs.length) (hq : q = atL xs x) (hi : isL xs x = true) : sameP xs[q] x := by
  rw [isL_at h hq] at hi
  exact cmpP_zero.1 (by simpa using hi)
theorem at_gt (hs : xs.Pairwise (fun p q => ahead p q = true)) {q : Nat} (h : q < xs.length) (hq : atL xs x < q) : ¬ sameP xs[q] x := by
  have hl : atL xs x < xs.length := by omega
  have h1 : ahead xs[atL xs x] xs[q] = true := List.pairwise_iff_getElem.1 hs _ _ hl h hq
  intro h2
  rw [sameP.right h2] at h1
  have := (atL_iff hs hl).1 h1
  omega
end
/-- what the loop has put, up to q -/
def outN (xs : List Pn) (x : Pn) (q : Nat) : List Pn := if q ≤ atL xs x then xs.take q else xs.take (atL xs x) ++ [x] ++ (xs.take q).drop (atL xs x)
theorem outN_le (xs : List Pn) (x : Pn) (q : Nat) : (outN xs x q).length ≤ xs.length + 1 := by
  unfold outN
  have := atL_le xs x
  split <;> simp only [List.length_append, List.length_take, List.length_drop, List.length_cons, List.length_nil] <;> omega
theorem outN_lt {xs : List Pn} {x : Pn} {q : Nat} (h : q < xs.length) (hq : q < atL xs x) : outN xs x (q + 1) = outN xs x q ++ [xs[q]] := by
  unfold outN
  rw [if_pos (by omega), if_pos (by omega), take_snoc xs q h]
theorem outN_at {xs : List Pn} {x : Pn} {q : Nat} (h : q < xs.length) (hq : q = atL xs x) : outN xs x (q + 1) = outN xs x q ++ [x] ++ [xs[q]] := by
  unfold outN
  rw [if_neg (by omega), if_pos (by omega), take_snoc xs q h, ← hq]
  rw [List.drop_append_of_le_length (by rw [List.length_take]; omega), List.drop_eq_nil_of_le (by rw [List.length_take]; omega)]
  simp
theorem outN_gt {xs : List Pn} {x : Pn} {q : Nat} (h : q < xs.length) (hq : atL xs x < q) : outN xs x (q + 1) = outN xs x q ++ [xs[q]] := by
  unfold outN
  rw [if_neg (by omega), if_neg (by omega), take_snoc xs q h]
  rw [List.drop_append_of_le_length (by rw [List.length_take]; omega)]
  simp
theorem outN_end (xs : List Pn) (x : Pn) : (if atL xs x < xs.length then outN xs x xs.length else outN xs x xs.length ++ [x]) = xs.take (atL xs x) ++ [x] ++ xs.drop (atL xs x) := by
  have := atL_le xs x
  unfold outN
  by_cases h : atL xs x < xs.length
  · rw [if_pos h, if_neg (by omega), List.take_length]
  · rw [if_neg h, if_pos (by omega), List.take_of_length_le (Nat.le_refl _), List.take_of_length_le (by omega), List.drop_eq_nil_of_le (by omega)]
    simp
section
variable (xs : List Pn) (k lo hi : Int) (key : ByteArray) (n a b : Int)
end
end Go.Proofs.Ytagfjnjpgphnjaa
namespace Go.Proofs.Ytagfjnjpgphnjaa
open Go.RowKit
set_option linter.unusedSimpArgs false
set_option linter.unusedVariables false
theorem set_take_lt {xs : List Pn} {at' q : Nat} (j : Pn) (h : q < xs.length) (hq : q ≠ at') : (xs.set at' j).take (q + 1) = (xs.set at' j).take q ++ [xs[q]] := by
  have h2 : q < (xs.set at' j).length := by rw [List.length_set]; exact h
  rw [take_snoc _ q h2, List.getElem_set_ne (by omega)]
theorem set_take_at {xs : List Pn} {q : Nat} (j : Pn) (h : q < xs.length) : (xs.set q j).take (q + 1) = (xs.set q j).take q ++ [j] := by
  have h2 : q < (xs.set q j).length := by rw [List.length_set]; exact h
  rw [take_snoc _ q h2, List.getElem_set_self]
section
variable (xs : List Pn) (k lo hi : Int) (key : ByteArray) (n a b : Int)
end
end Go.Proofs.Ytagfjnjpgphnjaa
