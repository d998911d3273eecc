/-
  Panes, walked over abstract values: what is due.
-/
import Derived.Test.YtbhblhcgfenobaaDoorPnE
namespace Go.Proofs.YtbhblhcgfenobaaDoor
open Go.RowKit
set_option linter.unusedSimpArgs false
set_option linter.unusedVariables false
def dueA (l : List Pn) (m : Int) : List Pn := l.filter fun p => decide (p.hi ≤ m)
def dueB (l : List Pn) (m : Int) : List Pn := l.filter fun p => !decide (p.hi ≤ m)
theorem ahead_hi {p q : Pn} (h : ahead p q = true) : p.hi ≤ q.hi := by
  rcases ahead_iff.1 h with h | ⟨h, _⟩ <;> omega
def notDue (m : Int) (p : Pn) : Bool := !decide (p.hi ≤ m)
theorem due_parts (l : List Pn) (m : Int) (h : l.Pairwise (fun p q => ahead p q = true)) : l.take (fidx (notDue m) l) = dueA l m ∧ l.drop (fidx (notDue m) l) = dueB l m := by
  induction l with
  | nil => simp [fidx, dueA, dueB]
  | cons p l ih =>
    rw [List.pairwise_cons] at h
    obtain ⟨h1, h2⟩ := h
    obtain ⟨ih1, ih2⟩ := ih h2
    by_cases hp : p.hi ≤ m
    · have e : fidx (notDue m) (p :: l) = fidx (notDue m) l + 1 := by simp [fidx, notDue, List.takeWhile_cons, hp]
      rw [e]
      simp only [List.take_succ_cons, List.drop_succ_cons, ih1, ih2, dueA, dueB, List.filter_cons, hp, decide_true, Bool.not_true, if_true, Bool.false_eq_true, if_false]
      exact ⟨trivial, trivial⟩
    · have e : fidx (notDue m) (p :: l) = 0 := by simp [fidx, notDue, List.takeWhile_cons, hp]
      rw [e]
      have ha : l.filter (fun q => decide (q.hi ≤ m)) = [] := by
        rw [List.filter_eq_nil_iff]
        intro q hq
        have := ahead_hi (h1 q hq)
        simp; omega
      have hb : l.filter (fun q => !decide (q.hi ≤ m)) = l := by
        rw [List.filter_eq_self]
        intro q hq
        have := ahead_hi (h1 q hq)
        simp; omega
      simp only [List.take_zero, List.drop_zero, dueA, dueB, List.filter_cons, hp, decide_false, Bool.not_false, if_true, Bool.false_eq_true, if_false, ha, hb]
      exact ⟨trivial, trivial⟩
def dueRA (l : List Pn) (m : Int) : List Pn := if rightL l then dueA l m else []
def dueRB (l : List Pn) (m : Int) : List Pn := if rightL l then dueB l m else []
theorem rightL_ok {l : List Pn} (h : rightL l = true) : l.length ≤ 2000 ∧ (∀ p ∈ l, mayB p = true) ∧ l.Pairwise (fun p q => ahead p q = true) := by
  simp only [rightL, Bool.and_eq_true, decide_eq_true_eq] at h
  exact ⟨h.1, (okPn_iff l).1 h.2⟩
end Go.Proofs.YtbhblhcgfenobaaDoor
