/-
  Timers: how many of each there are, counted in a map. Plain.
-/
import Derived.Test.YteooamoagkcgnaaTmQ
namespace Go.Proofs.Yteooamoagkcgnaa
open Go.RowKit
set_option linter.unusedSimpArgs false
set_option linter.unusedVariables false
deriving instance DecidableEq for Tm
abbrev Cnt := List (Tm × Int)
/-- how many -/
def cAt (ms : Cnt) (t : Tm) : Int := match ms.find? (fun p => decide (p.1 = t)) with
  | some p => p.2
  | none => 0
def cIdx (ms : Cnt) (t : Tm) : Nat := ms.findIdx fun p => decide (p.1 = t)
/-- the entry is there, or is made -/
def cMake (ms : Cnt) (t : Tm) : Cnt := if cIdx ms t < ms.length then ms else ms ++ [(t, 0)]
def cSet (ms : Cnt) (t : Tm) (n : Int) : Cnt := (cMake ms t).set (cIdx ms t) (t, n)
theorem idx_none {ms : Cnt} {t : Tm} : (∀ p ∈ ms, p.1 ≠ t) ↔ cIdx ms t = ms.length := by
  unfold cIdx
  rw [List.findIdx_eq_length]
  simp
theorem idx_le (ms : Cnt) (t : Tm) : cIdx ms t ≤ ms.length := List.findIdx_le_length
theorem idx_at {ms : Cnt} {t : Tm} (h : cIdx ms t < ms.length) : ms[cIdx ms t].1 = t := by
  have h' : ms.findIdx (fun p : Tm × Int => decide (p.1 = t)) < ms.length := h
  have := List.findIdx_getElem (xs := ms) (p := fun p : Tm × Int => decide (p.1 = t)) (w := h')
  exact of_decide_eq_true this
theorem at_idx {ms : Cnt} {t : Tm} (h : cIdx ms t < ms.length) : cAt ms t = ms[cIdx ms t].2 := by
  unfold cAt
  rw [List.find?_eq_getElem?_findIdx]
  have : ms[ms.findIdx fun p => decide (p.1 = t)]? = some ms[cIdx ms t] := List.getElem?_eq_getElem h
  rw [this]
theorem at_none {ms : Cnt} {t : Tm} (h : ∀ p ∈ ms, p.1 ≠ t) : cAt ms t = 0 := by
  unfold cAt
  rw [List.find?_eq_none.2 (by simpa using h)]
/-- keys stand once each -/
def cUniq (ms : Cnt) : Prop := ∀ (i j : Nat) (p q : Tm × Int), ms[i]? = some p → ms[j]? = some q → p.1 = q.1 → i = j
theorem uniq_idx {ms : Cnt} (hu : cUniq ms) {i : Nat} {p : Tm × Int} (h : ms[i]? = some p) : cIdx ms p.1 = i := by
  have hlt : cIdx ms p.1 < ms.length := by
    rcases Nat.lt_or_ge (cIdx ms p.1) ms.length with h1 | h1
    · exact h1
    · have h2 : cIdx ms p.1 = ms.length := Nat.le_antisymm (idx_le _ _) h1
      exact absurd rfl (idx_none.2 h2 p (List.mem_of_getElem? h))
  exact hu _ _ _ _ (List.getElem?_eq_getElem hlt) h (idx_at hlt)
theorem make_len (ms : Cnt) (t : Tm) : cIdx ms t < (cMake ms t).length := by
  unfold cMake
  have := idx_le ms t
  split
  · assumption
  · rw [List.length_append]; simp only [List.length_cons, List.length_nil]; omega
theorem make_at (ms : Cnt) (t : Tm) : (cMake ms t)[cIdx ms t]? = some (t, cAt ms t) := by
  unfold cMake
  split
  · rename_i h
    rw [List.getElem?_eq_getElem h, at_idx h]
    exact congrArg some (Prod.ext (idx_at h) rfl)
  · rename_i h
    have e : cIdx ms t = ms.length := Nat.le_antisymm (idx_le _ _) (Nat.le_of_not_lt h)
    rw [e, at_none (idx_none.2 e)]
    simp
theorem set_len (ms : Cnt) (t : Tm) (n : Int) : (cSet ms t n).length ≤ ms.length + 1 := by
  unfold cSet cMake
  split <;> simp
theorem set_get (ms : Cnt) (t : Tm) (n : Int) (i : Nat) : (cSet ms t n)[i]? = if i = cIdx ms t then some (t, n) else ms[i]? := by
  unfold cSet
  rw [List.getElem?_set]
  have h1 := make_len ms t
  by_cases h : cIdx ms t = i
  · subst h; rw [if_pos rfl, if_pos h1, if_pos rfl]
  · rw [if_neg h, if_neg (Ne.symm h)]
    unfold cMake
    split
    · rfl
    · rename_i h2
      have e : cIdx ms t = ms.length := Nat.le_antisymm (idx_le _ _) (Nat.le_of_not_lt h2)
      rcases Nat.lt_or_ge i ms.length with h3 | h3
      · rw [List.getElem?_append_left h3]
      · rw [List.getElem?_eq_none (by rw [List.length_append]; simp; omega), List.getElem?_eq_none h3]
theorem set_uniq {ms : Cnt} (hu : cUniq ms) (t : Tm) (n : Int) : cUniq (cSet ms t n) := by
  intro i j p q hi hj he
  rw [set_get] at hi hj
  split at hi
  · rename_i h1
    injection hi with hi; subst hi
    split at hj
    · rename_i h2; rw [h1, h2]
    · have := uniq_idx hu hj
      rw [← he] at this
      dsimp only at this
      omega
  · rename_i h1
    split at hj
    · rename_i h2
      injection hj with hj; subst hj
      have := uniq_idx hu hi
      rw [he] at this
      dsimp only at this
      omega
    · exact hu _ _ _ _ hi hj he
theorem uniq_at {ms : Cnt} (hu : cUniq ms) {i : Nat} {p : Tm × Int} (h : ms[i]? = some p) : cAt ms p.1 = p.2 := by
  have h1 := uniq_idx hu h
  have h2 : cIdx ms p.1 < ms.length := by rw [h1]; exact (List.getElem?_eq_some_iff.1 h).1
  rw [at_idx h2]
  have h3 : ms[cIdx ms p.1]? = some p := by rw [h1]; exact h
  rw [List.getElem?_eq_getElem h2] at h3
  injection h3 with h3; rw [h3]
theorem set_at {ms : Cnt} (hu : cUniq ms) (t : Tm) (n : Int) (x : Tm) : cAt (cSet ms t n) x = if x = t then n else cAt ms x := by
  have hs := set_uniq hu t n
  by_cases h : x = t
  · subst h
    rw [if_pos rfl]
    exact uniq_at hs (i := cIdx ms x) (p := (x, n)) (by rw [set_get, if_pos rfl])
  · rw [if_neg h]
    by_cases h2 : cIdx ms x < ms.length
    · have h3 : (cSet ms t n)[cIdx ms x]? = some ms[cIdx ms x] := by
        rw [set_get, if_neg, List.getElem?_eq_getElem h2]
        intro e
        have e1 := idx_at h2
        have h4 : cIdx ms t < ms.length := by omega
        have e2 := idx_at h4
        simp only [e] at e1
        exact h (e1.symm.trans e2)
      have := uniq_at hs h3
      rw [idx_at h2] at this
      rw [this, at_idx h2]
    · have e : cIdx ms x = ms.length := Nat.le_antisymm (idx_le _ _) (Nat.le_of_not_lt h2)
      rw [at_none (idx_none.2 e)]
      refine at_none fun p hp => ?_
      obtain ⟨i, hi, rfl⟩ := List.getElem_of_mem hp
      have h3 : (cSet ms t n)[i]? = some (cSet ms t n)[i] := List.getElem?_eq_getElem hi
      rw [set_get] at h3
      split at h3
      · injection h3 with h3; rw [← h3]; exact fun e => h e.symm
      · exact idx_none.2 e _ (List.mem_of_getElem? h3)
theorem uniq_nil : cUniq [] := fun i j p q h _ _ => by simp at h
/-- the map counts a row -/
structure Counts (ms : Cnt) (l : List Tm) : Prop where
  uniq : cUniq ms
  at' : ∀ t, cAt ms t = (l.count t : Int)
  len : ms.length ≤ 300
theorem counts_nil : Counts [] [] := ⟨uniq_nil, fun t => by simp [cAt], by simp⟩
theorem Counts.up {ms : Cnt} {l : List Tm} (h : Counts ms l) (t : Tm) (hl : ms.length < 300) : Counts (cSet ms t (cAt ms t + 1)) (l ++ [t]) := by
  refine ⟨set_uniq h.uniq _ _, fun x => ?_, by have := set_len ms t (cAt ms t + 1); omega⟩
  rw [set_at h.uniq, List.count_append]
  by_cases e : x = t
  · subst e; rw [if_pos rfl, h.at']; simp
  · rw [if_neg e, h.at']
    have : List.count x [t] = 0 := List.count_eq_zero.2 (by simp [e])
    rw [this]; simp
theorem Counts.down {ms : Cnt} {t : Tm} {l : List Tm} (h : Counts ms (t :: l)) (hl : (cSet ms t (cAt ms t - 1)).length ≤ 300) : Counts (cSet ms t (cAt ms t - 1)) l := by
  refine ⟨set_uniq h.uniq _ _, fun x => ?_, hl⟩
  rw [set_at h.uniq]
  by_cases e : x = t
  · subst e; rw [if_pos rfl, h.at']; simp
  · rw [if_neg e, h.at', List.count_cons_of_ne (fun h => e h.symm)]
theorem Counts.there {ms : Cnt} {t : Tm} {l : List Tm} (h : Counts ms (t :: l)) : cIdx ms t < ms.length ∧ 1 ≤ cAt ms t := by
  have h1 := h.at' t
  rw [List.count_cons_self] at h1
  refine ⟨?_, by omega⟩
  rcases Nat.lt_or_ge (cIdx ms t) ms.length with h2 | h2
  · exact h2
  · have := at_none (idx_none.2 (Nat.le_antisymm (idx_le ms t) h2))
    omega
theorem Counts.perm {ms : Cnt} {l m : List Tm} (h : Counts ms l) (hp : l.Perm m) : Counts ms m := ⟨h.uniq, fun t => by rw [h.at', hp.count_eq], h.len⟩
/-! laws -/
theorem due_app {mark later : Int} (hm : mark ≤ later) : ∀ {l : List Tm}, TSorted l → dueP mark l ++ dueP later (restP mark l) = dueP later l
  | [], _ => rfl
  | a :: l, h => by
    by_cases ha : a.at' ≤ mark
    · have e1 : dueP mark (a :: l) = a :: dueP mark l := by simp [dueP, ha]
      have e2 : restP mark (a :: l) = restP mark l := by simp [restP, ha]
      have e3 : dueP later (a :: l) = a :: dueP later l := by simp [dueP, show a.at' ≤ later by omega]
      rw [e1, e2, e3, List.cons_append, due_app hm (List.pairwise_cons.1 h).2]
    · have hall : ∀ t ∈ a :: l, ¬ t.at' ≤ mark := by
        intro t ht
        rcases List.mem_cons.1 ht with rfl | ht
        · exact ha
        · have := (tLt_not.1 ((List.pairwise_cons.1 h).1 t ht)).1
          omega
      have e1 : dueP mark (a :: l) = [] := List.filter_eq_nil_iff.2 fun t ht => by simpa using hall t ht
      have e2 : restP mark (a :: l) = a :: l := List.filter_eq_self.2 fun t ht => by simpa using hall t ht
      rw [e1, e2]; rfl
theorem rest_rest {mark later : Int} (hm : mark ≤ later) (l : List Tm) : restP later (restP mark l) = restP later l := by
  unfold restP
  rw [List.filter_filter]
  refine List.filter_congr fun t _ => ?_
  by_cases h : t.at' ≤ mark
  · have : t.at' ≤ later := by omega
    simp [h, this]
  · simp [h]
def tSort (l : List Tm) : List Tm := l.foldl (fun s x => tIns x s) []
theorem tSort_snoc (l : List Tm) (x : Tm) : tSort (l ++ [x]) = tIns x (tSort l) := by simp [tSort]
theorem tSort_sorted (l : List Tm) : TSorted (tSort l) ∧ (tSort l).Perm l := by
  have key : ∀ (l s : List Tm), TSorted s → TSorted (l.foldl (fun s x => tIns x s) s) ∧ (l.foldl (fun s x => tIns x s) s).Perm (s ++ l) := by
    intro l
    induction l with
    | nil => intro s h; exact ⟨h, by simp⟩
    | cons x l ih =>
      intro s h
      obtain ⟨h1, h2⟩ := ih (tIns x s) (tIns_sorted x h)
      refine ⟨h1, h2.trans ?_⟩
      have h3 : (tIns x s ++ l).Perm ((x :: s) ++ l) := (tIns_perm x s).append_right l
      exact h3.trans (List.perm_middle.symm)
  have := key l [] List.Pairwise.nil
  simpa [tSort] using this
theorem tSort_len (l : List Tm) : (tSort l).length = l.length := (tSort_sorted l).2.length_eq
theorem tSort_out (l : List Tm) (name : ByteArray) : outP name (tSort l) = tSort (outP name l) :=
  sorted_eq ((tSort_sorted l).1.filter _) (tSort_sorted _).1 (((tSort_sorted l).2.filter _).trans (tSort_sorted _).2.symm)
theorem out_out (l : List Tm) (name : ByteArray) : outP name (outP name l) = outP name l := by
  unfold outP; rw [List.filter_filter]; simp
end Go.Proofs.Yteooamoagkcgnaa
