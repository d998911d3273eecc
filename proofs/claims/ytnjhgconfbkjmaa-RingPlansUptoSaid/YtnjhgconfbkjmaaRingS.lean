/-
  Layer ring in plain Lean: a text's hash, moves between owners; no program in sight. No condition.
-/
import Derived.RowKit
namespace Go.Proofs.Ytnjhgconfbkjmaa
open Go.RowKit
set_option linter.unusedSimpArgs false
set_option linter.unusedVariables false

def hStep (h : Nat) (b : UInt8) : Nat := ((h ^^^ b.toNat) * 16777619) % 4294967296
def hBase : Nat := 2166136261
def hashN (l : List UInt8) : Nat := l.foldl hStep hBase
theorem hashN_nil : hashN [] = hBase := rfl
theorem hashN_snoc (l : List UInt8) (b : UInt8) : hashN (l ++ [b]) = hStep (hashN l) b := by unfold hashN; rw [List.foldl_append, List.foldl_cons, List.foldl_nil]
theorem hStep_lt (h : Nat) (b : UInt8) : hStep h b < 4294967296 := Nat.mod_lt _ (by omega)
theorem hashN_lt (l : List UInt8) : hashN l < 4294967296 := by
  rcases List.eq_nil_or_concat l with rfl | ⟨m, x, rfl⟩
  · rw [hashN_nil]; unfold hBase; omega
  · rw [List.concat_eq_append, hashN_snoc]; exact hStep_lt _ _

/-- the group of a text -/
def grpV (l : List UInt8) (g : Int) : Int := if g < 1 then 0 else (hashN l : Int) % g
theorem grpV_low {l : List UInt8} {g : Int} (h : g < 1) : grpV l g = 0 := if_pos h
theorem grpV_high {l : List UInt8} {g : Int} (h : ¬ g < 1) : grpV l g = (hashN l : Int) % g := if_neg h

structure Mv where
  g : Int
  f : Int
  t : Int
def mvCells (m : Mv) : List Value := [.int .i64 m.g, .int .i64 m.f, .int .i64 m.t]
/-- the moves of the first k groups -/
def movesTo (old now : List Int) : Nat → List Mv
  | 0 => []
  | k + 1 => movesTo old now k ++ (if old.getD k 0 = now.getD k 0 then [] else [⟨k, old.getD k 0, now.getD k 0⟩])
theorem movesTo_len (old now : List Int) (k : Nat) : (movesTo old now k).length ≤ k := by
  induction k with
  | zero => simp [movesTo]
  | succ k ih => simp only [movesTo, List.length_append]; split <;> simp <;> omega

theorem movesTo_len_le (old now : List Int) {a b : Nat} (h : a ≤ b) : (movesTo old now a).length ≤ (movesTo old now b).length := by
  induction b with
  | zero => obtain rfl : a = 0 := by omega
            exact Nat.le_refl _
  | succ b ih =>
    by_cases e : a = b + 1
    · rw [e]; exact Nat.le_refl _
    · have := ih (by omega)
      simp only [movesTo, List.length_append]
      omega
theorem movesTo_get (old now : List Int) (N q : Nat) (h : q < (movesTo old now N).length) :
    ∃ g, g < N ∧ (movesTo old now N)[q] = ⟨g, old.getD g 0, now.getD g 0⟩ ∧ old.getD g 0 ≠ now.getD g 0 ∧ movesTo old now g = (movesTo old now N).take q := by
  induction N with
  | zero => simp [movesTo] at h
  | succ N ih =>
    by_cases hq : q < (movesTo old now N).length
    · obtain ⟨g, h1, h2, h3, h4⟩ := ih hq
      refine ⟨g, by omega, ?_, h3, ?_⟩
      · simp only [movesTo]
        rw [List.getElem_append_left hq]; exact h2
      · simp only [movesTo]
        rw [List.take_append_of_le_length (by omega)]; exact h4
    · by_cases e : old.getD N 0 = now.getD N 0
      · simp only [movesTo, if_pos e, List.append_nil] at h
        exact absurd h hq
      · simp only [movesTo, if_neg e, List.length_append, List.length_cons, List.length_nil] at h
        have hq' : q = (movesTo old now N).length := by omega
        subst hq'
        refine ⟨N, by omega, ?_, e, ?_⟩
        · have e' : ¬ old[N]?.getD 0 = now[N]?.getD 0 := e
          simp [movesTo, e']
        · simp [movesTo]
theorem movesTo_gap (old now : List Int) {a b : Nat} (h : a ≤ b) (he : (movesTo old now a).length = (movesTo old now b).length) : ∀ i, a ≤ i → i < b → old.getD i 0 = now.getD i 0 := by
  induction b with
  | zero => intro i h1 h2; omega
  | succ b ih =>
    intro i h1 h2
    have l1 := movesTo_len_le old now (a := a) (b := b) (by omega)
    have l2 : (movesTo old now (b + 1)).length = (movesTo old now b).length + (if old.getD b 0 = now.getD b 0 then 0 else 1) := by
      simp only [movesTo, List.length_append]; split <;> rfl
    by_cases e : old.getD b 0 = now.getD b 0
    · by_cases hi : i = b
      · rw [hi]; exact e
      · rw [if_pos e] at l2
        exact ih (by omega) (by omega) i h1 (by omega)
    · rw [if_neg e] at l2; omega

/-- the owners behind the first moves: the new ones up to p, the old ones from there on -/
def mixed (old now : List Int) (n p : Nat) : List Int := now.take p ++ (old.take n).drop p
theorem mixed_len {old now : List Int} {n p : Nat} (hp : p ≤ n) (ho : n ≤ old.length) (hn : n ≤ now.length) : (mixed old now n p).length = n := by
  simp [mixed]; omega
theorem mixed_at {old now : List Int} {n p i : Nat} (hp : p ≤ n) (ho : n ≤ old.length) (hn : n ≤ now.length) (hi : i < n) : (mixed old now n p).getD i 0 = if i < p then now.getD i 0 else old.getD i 0 := by
  unfold mixed
  simp only [List.getD_eq_getElem?_getD]
  by_cases h : i < p
  · rw [if_pos h, List.getElem?_append_left (by simp; omega), List.getElem?_take, if_pos h]
  · rw [if_neg h, List.getElem?_append_right (by simp; omega), List.getElem?_drop, List.getElem?_take, List.length_take]
    rw [show p + (i - min p now.length) = i from by omega, if_pos hi]
theorem mixed_set {old now : List Int} {n p g : Nat} (hpg : p ≤ g) (hg : g < n) (ho : n ≤ old.length) (hn : n ≤ now.length) (hgap : ∀ i, p ≤ i → i < g → old.getD i 0 = now.getD i 0) :
    (mixed old now n p).set g (now.getD g 0) = mixed old now n (g + 1) := by
  apply List.ext_getElem?
  intro i
  by_cases hi : i < n
  · have l1 : i < ((mixed old now n p).set g (now.getD g 0)).length := by rw [List.length_set, mixed_len (by omega) ho hn]; exact hi
    have l2 : i < (mixed old now n (g + 1)).length := by rw [mixed_len (by omega) ho hn]; exact hi
    have e1 := mixed_at (old := old) (now := now) (n := n) (p := p) (by omega) ho hn hi
    have e2 := mixed_at (old := old) (now := now) (n := n) (p := g + 1) (by omega) ho hn hi
    rw [List.getElem?_eq_getElem l1, List.getElem?_eq_getElem l2, List.getElem_set]
    have l3 : i < (mixed old now n p).length := by rw [mixed_len (by omega) ho hn]; exact hi
    rw [List.getD_eq_getElem?_getD, List.getElem?_eq_getElem l3, Option.getD_some] at e1
    rw [List.getD_eq_getElem?_getD, List.getElem?_eq_getElem l2, Option.getD_some] at e2
    rw [e1, e2]
    by_cases h1 : g = i
    · subst h1; rw [if_pos rfl, if_pos (by omega)]
    · rw [if_neg h1]
      by_cases h2 : i < p
      · rw [if_pos h2, if_pos (by omega)]
      · rw [if_neg h2]
        by_cases h3 : i < g + 1
        · rw [if_pos h3, hgap i (by omega) (by omega)]
        · rw [if_neg h3]
  · rw [List.getElem?_eq_none, List.getElem?_eq_none]
    · rw [mixed_len (by omega) ho hn]; omega
    · rw [List.length_set, mixed_len (by omega) ho hn]; omega
theorem mixed_end {old now : List Int} {n p : Nat} (hp : p ≤ n) (ho : n ≤ old.length) (hn : n ≤ now.length) (hgap : ∀ i, p ≤ i → i < n → old.getD i 0 = now.getD i 0) : mixed old now n p = now.take n := by
  apply List.ext_getElem?
  intro i
  by_cases hi : i < n
  · have l2 : i < (mixed old now n p).length := by rw [mixed_len hp ho hn]; exact hi
    have e2 := mixed_at (old := old) (now := now) (n := n) (p := p) hp ho hn hi
    rw [List.getElem?_eq_getElem l2]
    rw [List.getD_eq_getElem?_getD, List.getElem?_eq_getElem l2, Option.getD_some] at e2
    rw [e2, List.getElem?_take, if_pos hi, List.getElem?_eq_getElem (by omega : i < now.length)]
    have e3 : now.getD i 0 = now[i] := by rw [List.getD_eq_getElem?_getD, List.getElem?_eq_getElem (by omega : i < now.length), Option.getD_some]
    by_cases h : i < p
    · rw [if_pos h, e3]
    · rw [if_neg h, hgap i (by omega) hi, e3]
  · rw [List.getElem?_eq_none, List.getElem?_eq_none]
    · simp; omega
    · rw [mixed_len hp ho hn]; omega

/-- workers that may be -/
def okTo (l : List Int) : Nat → Bool
  | 0 => true
  | k + 1 => okTo l k && (decide (1 ≤ l.getD k 0) && decide (l.getD k 0 ≤ 99) && (decide (k = 0) || decide (l.getD (k - 1) 0 < l.getD k 0)))
def rightW (l : List Int) : Bool := decide (1 ≤ l.length) && decide (l.length ≤ 8) && okTo l l.length
theorem okTo_succ (l : List Int) (k : Nat) (h : k < l.length) : okTo l (k + 1) = (okTo l k && (decide (1 ≤ l[k]) && decide (l[k] ≤ 99) && (decide (k = 0) || decide (l[k - 1] < l[k])))) := by
  simp only [okTo, List.getD_eq_getElem?_getD, List.getElem?_eq_getElem h, List.getElem?_eq_getElem (show k - 1 < l.length by omega), Option.getD_some]
theorem okTo_false (l : List Int) {k n : Nat} (h : k ≤ n) (hf : okTo l k = false) : okTo l n = false := by
  induction n with
  | zero => obtain rfl : k = 0 := by omega
            exact hf
  | succ n ih =>
    by_cases e : k = n + 1
    · rw [← e]; exact hf
    · simp only [okTo, ih (by omega), Bool.false_and]
end Go.Proofs.Ytnjhgconfbkjmaa
