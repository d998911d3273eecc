/-
  Panes, walked over abstract values: where one stands in a row.
-/
import Derived.Test.YtagfjnjpgphnjaaPnE
import Derived.Test.YtagfjnjpgphnjaaAvX
namespace Go.Proofs.Ytagfjnjpgphnjaa
open Go.RowKit
set_option linter.unusedSimpArgs false
set_option linter.unusedVariables false
/-- how many stand ahead -/
def atL (xs : List Pn) (x : Pn) : Nat := (xs.takeWhile fun p => ahead p x).length
/-- is there one of the same place -/
def isL (xs : List Pn) (x : Pn) : Bool := match xs[atL xs x]? with
  | some p => decide (cmpP p x = 0)
  | none => false
theorem atL_le (xs : List Pn) (x : Pn) : atL xs x ≤ xs.length := (List.takeWhile_sublist _).length_le
theorem atL_cons (p x : Pn) (xs : List Pn) : atL (p :: xs) x = if ahead p x then atL xs x + 1 else 0 := by
  unfold atL
  rw [List.takeWhile_cons]
  split <;> simp
theorem atL_iff {xs : List Pn} {x : Pn} (hs : xs.Pairwise (fun p q => ahead p q = true)) : ∀ {q : Nat} (h : q < xs.length), (ahead xs[q] x = true ↔ q < atL xs x) := by
  induction xs with
  | nil => intro q h; simp at h
  | cons p l ih =>
    intro q h
    rw [List.pairwise_cons] at hs
    rw [atL_cons]
    cases q with
    | zero =>
      simp only [List.getElem_cons_zero]
      by_cases hp : ahead p x = true <;> simp [hp]
    | succ q =>
      simp only [List.length_cons] at h
      have hq : q < l.length := by omega
      simp only [List.getElem_cons_succ]
      rw [ih hs.2 hq]
      by_cases hp : ahead p x = true
      · simp [hp]
      · simp only [hp, if_false, Bool.false_eq_true]
        constructor
        · intro h2
          have h3 := (ih hs.2 hq).2 h2
          exact absurd (ahead_trans (hs.1 _ (List.getElem_mem hq)) h3) hp
        · intro h2; omega
theorem cmpP_zero {p q : Pn} : cmpP p q = 0 ↔ sameP p q := by
  unfold cmpP
  constructor
  · intro h
    cases h1 : ahead p q
    · cases h2 : ahead q p
      · exact ahead_total h1 h2
      · simp [h1, h2] at h
    · simp [h1] at h
  · intro h
    rw [same_ahead h, same_ahead h.symm]; simp
theorem isL_at {xs : List Pn} {x : Pn} {q : Nat} (h : q < xs.length) (hq : q = atL xs x) : isL xs x = decide (cmpP xs[q] x = 0) := by
  subst hq
  simp [isL, h]
theorem isL_none {xs : List Pn} {x : Pn} (h : atL xs x = xs.length) : isL xs x = false := by
  simp [isL, h]
end Go.Proofs.Ytagfjnjpgphnjaa
