/-
  Groups in plain Lean: two steps are one.
-/
import Derived.Test.YtimlkhbedhjehaaGrB
namespace Go.Proofs.Ytimlkhbedhjehaa
open Go.RowKit
set_option linter.unusedSimpArgs false
set_option linter.unusedVariables false
theorem grR_iff {no mark : Int} {ps : List Pn} : grR no mark ps = true ↔ 0 ≤ no ∧ no < 32 ∧ 0 ≤ mark ∧ mark ≤ 1099511627776 ∧ rightL ps = true ∧ ∀ p ∈ ps, mark < p.hi := by
  simp [grR]
theorem dueB_dueB (ps : List Pn) {m1 m2 : Int} (h : m1 ≤ m2) : dueB (dueB ps m1) m2 = dueB ps m2 := by
  unfold dueB
  rw [List.filter_filter]
  congr 1
  funext p
  by_cases h1 : p.hi ≤ m2
  · simp [h1]
  · have : ¬ p.hi ≤ m1 := by omega
    simp [h1, this]
theorem dueA_none {ps : List Pn} {m : Int} (h : ∀ p ∈ ps, ¬ p.hi ≤ m) : dueA ps m = [] := by
  unfold dueA
  rw [List.filter_eq_nil_iff]
  intro p hp
  simp [h p hp]
theorem dueB_all {ps : List Pn} {m : Int} (h : ∀ p ∈ ps, ¬ p.hi ≤ m) : dueB ps m = ps := by
  unfold dueB
  rw [List.filter_eq_self]
  intro p hp
  simp [h p hp]
theorem dueA_steps {m1 m2 : Int} (h : m1 ≤ m2) : ∀ (ps : List Pn), ps.Pairwise (fun p q => ahead p q = true) → dueA ps m1 ++ dueA (dueB ps m1) m2 = dueA ps m2 := by
  intro ps
  induction ps with
  | nil => intro _; rfl
  | cons p l ih =>
    intro hp
    rw [List.pairwise_cons] at hp
    by_cases h1 : p.hi ≤ m1
    · have h2 : p.hi ≤ m2 := by omega
      have := ih hp.2
      unfold dueA dueB at this ⊢
      simp only [List.filter_cons, h1, h2, decide_true, if_true, Bool.not_true, Bool.false_eq_true, if_false, List.cons_append, this]
    · have hall : ∀ q ∈ p :: l, ¬ q.hi ≤ m1 := by
        intro q hq
        rcases List.mem_cons.1 hq with rfl | hq
        · exact h1
        · have := ahead_hi (hp.1 q hq); omega
      rw [dueA_none hall, dueB_all hall, List.nil_append]
theorem resultsL_app {k : Int} {a b c : List Pn} (ha : rightL a = true) (hb : rightL b = true) (hc : rightL c = true) (h : a ++ b = c) : resultsL k a ++ resultsL k b = resultsL k c := by
  subst h
  unfold resultsL
  rw [ha, hb, hc]
  cases fRight k <;> simp
theorem dueA_sub (ps : List Pn) (m : Int) : (dueA ps m).Sublist ps := List.filter_sublist
theorem dueB_sub (ps : List Pn) (m : Int) : (dueB ps m).Sublist ps := List.filter_sublist
theorem resultsL_nil (k : Int) : resultsL k [] = [] := by unfold resultsL; split <;> rfl
structure StepsOk (no mark l : Int) (a b c : AdvR) : Prop where
  e1 : a.e = 0
  bc : b = ⟨c.no, c.mark, c.ps, b.rs, 0⟩
  ce : c.e = 0
  rs : a.rs ++ b.rs = c.rs
  n1 : a.rs.length ≤ 2000
  n2 : b.rs.length ≤ 2000
  hi : ∀ p ∈ c.ps, l < p.hi
  mrk : mark ≤ c.mark
  gr : grR c.no c.mark c.ps = true
  np : a.ps.length ≤ 2000
  nc : c.ps.length ≤ 2000
theorem adv_steps {s d k no mark : Int} {ps : List Pn} {m l : Int} (hlm : m ≤ l) (hj : jobR s d k = true) (hg : grR no mark ps = true) :
    StepsOk no mark l (adv s d k no mark ps m) (adv s d k (adv s d k no mark ps m).no (adv s d k no mark ps m).mark (adv s d k no mark ps m).ps l) (adv s d k no mark ps l) := by
  have hg' := hg
  obtain ⟨g1, g2, g3, g4, g5, g6⟩ := grR_iff.1 hg
  obtain ⟨r1, r2, r3⟩ := rightL_ok g5
  have rA : ∀ m, dueRA ps m = dueA ps m := fun m => by rw [dueRA, if_pos g5]
  have rB : ∀ m, dueRB ps m = dueB ps m := fun m => by rw [dueRB, if_pos g5]
  have lA : ∀ m, (resultsL k (dueA ps m)).length ≤ 2000 := fun m => by have := resultsL_le k (dueA ps m); have := (dueA_sub ps m).length_le; omega
  have lB : ∀ m, (dueB ps m).length ≤ 2000 := fun m => by have := (dueB_sub ps m).length_le; omega
  have hB : ∀ {m'}, mark ≤ m' → m' ≤ 1099511627776 → grR no m' (dueB ps m') = true := fun {m'} h1 h2 => grR_iff.2 ⟨g1, g2, by omega, h2, rightL_sub (dueB_sub _ _) g5, fun p hp => by
    have := (List.mem_filter.1 hp).2
    simp at this
    exact this⟩
  have hhi : ∀ p ∈ dueB ps (min l 1099511627776), l < p.hi := fun p hp => by
    obtain ⟨h1, h2⟩ := List.mem_filter.1 hp
    simp at h2
    have h3 := r2 p h1
    simp only [mayB, Bool.and_eq_true, decide_eq_true_eq] at h3
    omega
  have gen : ∀ ps' m', grR no m' ps' = true → adv s d k no m' ps' l = if l ≤ m' then ⟨no, m', ps', [], 0⟩ else ⟨no, min l 1099511627776, dueB ps' (min l 1099511627776), resultsL k (dueA ps' (min l 1099511627776)), 0⟩ := fun ps' m' h => by
    obtain ⟨_, _, _, _, h5, _⟩ := grR_iff.1 h
    simp only [adv, hj, h, dueRA, dueRB, h5, Bool.true_eq_false, if_false, if_true]
  by_cases hm : m ≤ mark
  · have e1 : adv s d k no mark ps m = ⟨no, mark, ps, [], 0⟩ := by simp [adv, hj, hg, hm]
    rw [e1, gen ps mark hg]
    by_cases hl : l ≤ mark
    · rw [if_pos hl]
      exact ⟨rfl, rfl, rfl, rfl, by simp, by simp, fun p hp => by have := g6 p hp; show l < p.hi; omega, Int.le_refl _, hg, r1, r1⟩
    · rw [if_neg hl]
      exact ⟨rfl, rfl, rfl, rfl, by simp, lA _, hhi, by show mark ≤ min l _; omega, hB (m' := min l 1099511627776) (by omega) (by omega), r1, lB _⟩
  · have e1 : adv s d k no mark ps m = ⟨no, min m 1099511627776, dueB ps (min m 1099511627776), resultsL k (dueA ps (min m 1099511627776)), 0⟩ := by simp [adv, hj, hg, hm, rA, rB]
    have hl : ¬ l ≤ mark := by omega
    rw [e1, gen ps mark hg, if_neg hl]
    have hgB := hB (m' := min m 1099511627776) (by omega) (by omega)
    dsimp only
    rw [gen _ _ hgB]
    have h12 : min m 1099511627776 ≤ min l 1099511627776 := by omega
    by_cases h2 : l ≤ min m 1099511627776
    · rw [if_pos h2]
      have e2 : min m 1099511627776 = min l 1099511627776 := by omega
      rw [e2]
      exact ⟨rfl, rfl, rfl, by simp, lA _, by simp, hhi, by show mark ≤ min l _; omega, hB (m' := min l 1099511627776) (by omega) (by omega), lB _, lB _⟩
    · rw [if_neg h2]
      have rB1 : rightL (dueB ps (min m 1099511627776)) = true := rightL_sub (dueB_sub _ _) g5
      refine ⟨rfl, by rw [dueB_dueB ps h12], rfl, ?_, lA _, ?_, hhi, by show mark ≤ min l _; omega, hB (m' := min l 1099511627776) (by omega) (by omega), lB _, lB _⟩
      · exact resultsL_app (rightL_sub (dueA_sub _ _) g5) (rightL_sub (dueA_sub _ _) rB1) (rightL_sub (dueA_sub _ _) g5) (dueA_steps h12 ps r3)
      · show (resultsL k (dueA (dueB ps (min m 1099511627776)) (min l 1099511627776))).length ≤ 2000
        have a1 := resultsL_le k (dueA (dueB ps (min m 1099511627776)) (min l 1099511627776))
        have a2 := (dueA_sub (dueB ps (min m 1099511627776)) (min l 1099511627776)).length_le
        have a3 := lB (min m 1099511627776)
        omega
end Go.Proofs.Ytimlkhbedhjehaa
