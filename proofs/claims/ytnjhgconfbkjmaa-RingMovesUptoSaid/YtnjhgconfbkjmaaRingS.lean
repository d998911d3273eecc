/-
  Layer ring in plain Lean: a text's hash, moves between owners; no program in sight. No condition.
-/
import Derived.RowKit
namespace Go.Proofs.Ytnjhgconfbkjmaa
open Go.RowKit

def hStep (h : Nat) (b : UInt8) : Nat := ((h ^^^ b.toNat) * 16777619) % 4294967296
def hBase : Nat := 2166136261
def hashN (l : List UInt8) : Nat := l.foldl hStep hBase
theorem hashN_nil : hashN [] = hBase := rfl
theorem hashN_snoc (l : List UInt8) (b : UInt8) : hashN (l ++ [b]) = hStep (hashN l) b := by unfold hashN; rw [List.foldl_append, List.foldl_cons, List.foldl_nil]
theorem hStep_lt (h : Nat) (b : UInt8) : hStep h b < 4294967296 := Nat.mod_lt _ (by omega)
theorem hashN_lt (l : List UInt8) : hashN l < 4294967296 := by
  rcases List.eq_nil_or_concat l with rfl | ⟨m, x, rfl⟩
  · rw [hashN_nil]; unfold hBase; omega
  · rw [List.concat_eq_append, hashN_snoc]; exact hStep_lt _ _

/-- the group of a text -/
def grpV (l : List UInt8) (g : Int) : Int := if g < 1 then 0 else (hashN l : Int) % g
theorem grpV_low {l : List UInt8} {g : Int} (h : g < 1) : grpV l g = 0 := if_pos h
theorem grpV_high {l : List UInt8} {g : Int} (h : ¬ g < 1) : grpV l g = (hashN l : Int) % g := if_neg h

structure Mv where
  g : Int
  f : Int
  t : Int
def mvCells (m : Mv) : List Value := [.int .i64 m.g, .int .i64 m.f, .int .i64 m.t]
/-- the moves of the first k groups -/
def movesTo (old now : List Int) : Nat → List Mv
  | 0 => []
  | k + 1 => movesTo old now k ++ (if old.getD k 0 = now.getD k 0 then [] else [⟨k, old.getD k 0, now.getD k 0⟩])
theorem movesTo_len (old now : List Int) (k : Nat) : (movesTo old now k).length ≤ k := by
  induction k with
  | zero => simp [movesTo]
  | succ k ih => simp only [movesTo, List.length_append]; split <;> simp <;> omega

/-- workers that may be -/
def okTo (l : List Int) : Nat → Bool
  | 0 => true
  | k + 1 => okTo l k && (decide (1 ≤ l.getD k 0) && decide (l.getD k 0 ≤ 99) && (decide (k = 0) || decide (l.getD (k - 1) 0 < l.getD k 0)))
def rightW (l : List Int) : Bool := decide (1 ≤ l.length) && decide (l.length ≤ 8) && okTo l l.length
theorem okTo_succ (l : List Int) (k : Nat) (h : k < l.length) : okTo l (k + 1) = (okTo l k && (decide (1 ≤ l[k]) && decide (l[k] ≤ 99) && (decide (k = 0) || decide (l[k - 1] < l[k])))) := by
  simp only [okTo, List.getD_eq_getElem?_getD, List.getElem?_eq_getElem h, List.getElem?_eq_getElem (show k - 1 < l.length by omega), Option.getD_some]
theorem okTo_false (l : List Int) {k n : Nat} (h : k ≤ n) (hf : okTo l k = false) : okTo l n = false := by
  induction n with
  | zero => obtain rfl : k = 0 := by omega
            exact hf
  | succ n ih =>
    by_cases e : k = n + 1
    · rw [← e]; exact hf
    · simp only [okTo, ih (by omega), Bool.false_and]
end Go.Proofs.Ytnjhgconfbkjmaa
