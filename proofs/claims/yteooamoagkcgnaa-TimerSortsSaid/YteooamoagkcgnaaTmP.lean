/-
  Heaps in rows: pushed, popped, made. Plain.
-/
import Derived.Test.YteooamoagkcgnaaApp
namespace Go.Proofs.Yteooamoagkcgnaa
open Go.RowKit
set_option linter.unusedSimpArgs false
set_option linter.unusedVariables false
section
variable {α : Type} (lt : α → α → Bool) (d : α)
def swp (l : List α) (i j : Nat) : List α := (l.set i (l.getD j d)).set j (l.getD i d)
def hup : Nat → List α → Nat → List α
  | 0, l, _ => l
  | f + 1, l, j => if (j - 1) / 2 = j ∨ lt (l.getD j d) (l.getD ((j - 1) / 2) d) = false then l else hup f (swp d l ((j - 1) / 2) j) ((j - 1) / 2)
def hkid (l : List α) (i n : Nat) : Nat := if 2 * i + 2 < n ∧ lt (l.getD (2 * i + 2) d) (l.getD (2 * i + 1) d) = true then 2 * i + 2 else 2 * i + 1
def hdown : Nat → List α → Nat → Nat → List α
  | 0, l, _, _ => l
  | f + 1, l, i, n => if n ≤ 2 * i + 1 then l else if lt (l.getD (hkid lt d l i n) d) (l.getD i d) = false then l else hdown f (swp d l i (hkid lt d l i n)) (hkid lt d l i n) n
def hpush (l : List α) (x : α) : List α := hup lt d (l.length + 1) (l ++ [x]) l.length
def hpopL (l : List α) : List α := hdown lt d l.length (swp d l 0 (l.length - 1)) 0 (l.length - 1)
def hpop (l : List α) : List α := (hpopL lt d l).take (l.length - 1)
def hinitN (l : List α) : Nat → List α → List α
  | 0, r => r
  | k + 1, r => hinitN l k (hdown lt d r.length r k r.length)
def hinit (l : List α) : List α := hinitN lt d l (l.length / 2) l
/-- a heap, as far as n, its parents from i on -/
def HP (l : List α) (n i : Nat) : Prop := ∀ k, 0 < k → k < n → i ≤ (k - 1) / 2 → lt (l.getD k d) (l.getD ((k - 1) / 2) d) = false
end
section
variable {α : Type} {lt : α → α → Bool} {d : α}
theorem swp_len (l : List α) (i j : Nat) : (swp d l i j).length = l.length := by simp [swp]
theorem swp_at {l : List α} {i j : Nat} (hi : i < l.length) (hj : j < l.length) (k : Nat) : (swp d l i j).getD k d = if k = j then l.getD i d else if k = i then l.getD j d else l.getD k d := by
  unfold swp
  simp only [List.getD_eq_getElem?_getD, List.getElem?_set, List.length_set]
  by_cases h1 : j = k
  · subst h1; simp [hj]
  · have h1' : ¬ k = j := fun h => h1 h.symm
    by_cases h2 : i = k
    · subst h2; simp [h1, h1', hi]
    · have h2' : ¬ k = i := fun h => h2 h.symm
      simp [h1, h1', h2, h2']
theorem swp_perm {l : List α} {i j : Nat} (hi : i < l.length) (hj : j < l.length) : (swp d l i j).Perm l := by
  unfold swp
  by_cases h : i = j
  · subst h
    have : l.getD i d = l[i] := by simp [List.getD, hi]
    rw [this]; simp
  · have e1 : l.getD i d = l[i] := by simp [List.getD, hi]
    have e2 : l.getD j d = l[j] := by simp [List.getD, hj]
    rw [e1, e2]
    exact List.set_set_perm hi hj
theorem hup_len : ∀ (f : Nat) (l : List α) (j : Nat), (hup lt d f l j).length = l.length
  | 0, l, j => rfl
  | f + 1, l, j => by
    simp only [hup]
    split
    · rfl
    · rw [hup_len, swp_len]
theorem hup_perm : ∀ (f : Nat) (l : List α) (j : Nat), j < l.length → (hup lt d f l j).Perm l
  | 0, l, j, _ => List.Perm.refl _
  | f + 1, l, j, h => by
    simp only [hup]
    split
    · exact List.Perm.refl _
    · have hi : (j - 1) / 2 < l.length := by omega
      exact (hup_perm f _ _ (by rw [swp_len]; omega)).trans (swp_perm hi h)
theorem hkid_lt {l : List α} {i n : Nat} (h : ¬ n ≤ 2 * i + 1) : hkid lt d l i n < n ∧ (hkid lt d l i n = 2 * i + 1 ∨ hkid lt d l i n = 2 * i + 2) := by
  unfold hkid
  split
  · omega
  · omega
theorem hdown_len : ∀ (f : Nat) (l : List α) (i n : Nat), (hdown lt d f l i n).length = l.length
  | 0, l, i, n => rfl
  | f + 1, l, i, n => by
    simp only [hdown]
    split
    · rfl
    split
    · rfl
    · rw [hdown_len, swp_len]
theorem hdown_perm : ∀ (f : Nat) (l : List α) (i n : Nat), n ≤ l.length → (hdown lt d f l i n).Perm l
  | 0, l, i, n, _ => List.Perm.refl _
  | f + 1, l, i, n, hn => by
    simp only [hdown]
    split
    · exact List.Perm.refl _
    rename_i h
    obtain ⟨h1, h2⟩ := hkid_lt (lt := lt) (d := d) (l := l) h
    split
    · exact List.Perm.refl _
    · exact (hdown_perm f _ _ n (by rw [swp_len]; exact hn)).trans (swp_perm (by omega) (by omega))
/-- what stands behind the end is not touched -/
theorem hdown_out : ∀ (f : Nat) (l : List α) (i n k : Nat), n ≤ l.length → n ≤ k → (hdown lt d f l i n).getD k d = l.getD k d
  | 0, l, i, n, k, _, _ => rfl
  | f + 1, l, i, n, k, hn, hk => by
    simp only [hdown]
    split
    · rfl
    rename_i h
    obtain ⟨h1, h2⟩ := hkid_lt (lt := lt) (d := d) (l := l) h
    split
    · rfl
    · rw [hdown_out f _ _ n k (by rw [swp_len]; exact hn) hk, swp_at (by omega) (by omega), if_neg (by omega), if_neg (by omega)]
variable (h1 : ∀ a b, lt a b = true → lt b a = false) (h2 : ∀ a b c, lt b a = false → lt c b = false → lt c a = false)
include h1 h2
theorem hup_heap : ∀ (f : Nat) (l : List α) (j : Nat), j < l.length → j ≤ f →
    (∀ k, 0 < k → k < l.length → k ≠ j → lt (l.getD k d) (l.getD ((k - 1) / 2) d) = false) →
    (∀ k, 0 < k → k < l.length → (k - 1) / 2 = j → 0 < j → lt (l.getD k d) (l.getD ((j - 1) / 2) d) = false) → HP lt d (hup lt d f l j) l.length 0
  | 0, l, j, hj, hf, ha, _ => by
    intro k hk hkl _
    exact ha k hk hkl (by omega)
  | f + 1, l, j, hj, hf, ha, hb => by
    simp only [hup]
    split
    · rename_i h
      intro k hk hkl _
      by_cases e : k = j
      · subst e
        rcases h with h | h
        · omega
        · exact h
      · exact ha k hk hkl e
    · rename_i h
      obtain ⟨h3, h4⟩ : ¬ (j - 1) / 2 = j ∧ lt (l.getD j d) (l.getD ((j - 1) / 2) d) = true := by
        refine ⟨fun e => h (.inl e), ?_⟩
        cases h5 : lt (l.getD j d) (l.getD ((j - 1) / 2) d)
        · exact absurd (.inr h5) h
        · rfl
      have hsw := fun k => swp_at (d := d) (l := l) (i := (j - 1) / 2) (j := j) (by omega) hj k
      rw [← swp_len (d := d) l ((j - 1) / 2) j]
      refine hup_heap f _ ((j - 1) / 2) (by rw [swp_len]; omega) (by omega) (fun k hk hkl hne => ?_) (fun k hk hkl hp h0 => ?_)
      · rw [swp_len] at hkl
        rw [hsw, hsw]
        by_cases e : k = j
        · subst e
          rw [if_pos rfl, if_neg (by omega), if_pos rfl]
          exact h1 _ _ h4
        · rw [if_neg e, if_neg hne]
          by_cases e2 : (k - 1) / 2 = j
          · rw [if_pos e2]
            exact hb k hk hkl e2 (by omega)
          · rw [if_neg e2]
            by_cases e3 : (k - 1) / 2 = (j - 1) / 2
            · rw [if_pos e3]
              have := ha k hk hkl e
              rw [e3] at this
              exact h2 _ _ _ (h1 _ _ h4) this
            · rw [if_neg e3]
              exact ha k hk hkl e
      · rw [swp_len] at hkl
        rw [hsw, hsw]
        have hpp := ha ((j - 1) / 2) h0 (by omega) (by omega)
        rw [if_neg (show ¬ ((j - 1) / 2 - 1) / 2 = j by omega), if_neg (show ¬ ((j - 1) / 2 - 1) / 2 = (j - 1) / 2 by omega)]
        by_cases e : k = j
        · rw [if_pos e]; exact hpp
        · rw [if_neg e, if_neg (by omega)]
          have := ha k hk hkl e
          rw [hp] at this
          exact h2 _ _ _ hpp this
omit h2 in
theorem hkid_min {l : List α} {i n : Nat} (h : ¬ n ≤ 2 * i + 1) {k : Nat} (hk : 0 < k) (hkn : k < n) (hp : (k - 1) / 2 = i) : lt (l.getD k d) (l.getD (hkid lt d l i n) d) = false := by
  have hirr : ∀ a, lt a a = false := fun a => by
    cases e : lt a a
    · rfl
    · exact (h1 a a e).symm.trans e |>.symm
  have hk2 : k = 2 * i + 1 ∨ k = 2 * i + 2 := by omega
  unfold hkid
  split
  · rename_i hc
    rcases hk2 with rfl | rfl
    · exact h1 _ _ hc.2
    · exact hirr _
  · rename_i hc
    rcases hk2 with rfl | rfl
    · exact hirr _
    · cases e : lt (l.getD (2 * i + 2) d) (l.getD (2 * i + 1) d)
      · rfl
      · exact absurd ⟨hkn, e⟩ hc
theorem hdown_heap : ∀ (f : Nat) (l : List α) (i n i0 : Nat), n ≤ l.length → i0 ≤ i → n ≤ i + f →
    (∀ k, 0 < k → k < n → i0 ≤ (k - 1) / 2 → (k - 1) / 2 ≠ i → lt (l.getD k d) (l.getD ((k - 1) / 2) d) = false) →
    (∀ k, 0 < k → k < n → (k - 1) / 2 = i → 0 < i → i0 ≤ (i - 1) / 2 → lt (l.getD k d) (l.getD ((i - 1) / 2) d) = false) → HP lt d (hdown lt d f l i n) n i0
  | 0, l, i, n, i0, hn, hi, hf, ha, _ => by
    intro k hk hkn hp
    exact ha k hk hkn hp (by omega)
  | f + 1, l, i, n, i0, hn, hi, hf, ha, hb => by
    simp only [hdown]
    split
    · intro k hk hkn hp
      exact ha k hk hkn hp (by omega)
    rename_i hlt
    obtain ⟨h3, h4⟩ := hkid_lt (lt := lt) (d := d) (l := l) hlt
    have hmin := fun k a b c => hkid_min (lt := lt) (d := d) (l := l) h1 (i := i) (n := n) hlt (k := k) a b c
    generalize hkid lt d l i n = j at *
    have hpj : (j - 1) / 2 = i := by omega
    split
    · rename_i hc
      intro k hk hkn hp
      by_cases e : (k - 1) / 2 = i
      · rw [e]; exact h2 _ _ _ hc (hmin k hk hkn e)
      · exact ha k hk hkn hp e
    · rename_i hc
      have hc : lt (l.getD j d) (l.getD i d) = true := by
        cases e : lt (l.getD j d) (l.getD i d)
        · exact absurd e hc
        · rfl
      have hsw := fun k => swp_at (d := d) (l := l) (i := i) (j := j) (by omega) (by omega) k
      refine hdown_heap f _ j n i0 (by rw [swp_len]; exact hn) (by omega) (by omega) (fun k hk hkn hp hne => ?_) (fun k hk hkn hp h0 h5 => ?_)
      · rw [hsw, hsw]
        by_cases e : k = j
        · subst e
          rw [if_pos rfl, hpj, if_neg (by omega), if_pos rfl]
          exact h1 _ _ hc
        · rw [if_neg e, if_neg hne]
          by_cases e2 : k = i
          · subst e2
            rw [if_pos rfl, if_neg (show ¬ (k - 1) / 2 = k by omega)]
            exact hb j (by omega) h3 hpj hk hp
          · rw [if_neg e2]
            by_cases e3 : (k - 1) / 2 = i
            · rw [if_pos e3]; exact hmin k hk hkn e3
            · rw [if_neg e3]; exact ha k hk hkn hp e3
      · rw [hsw, hsw, hpj, if_neg (show ¬ k = j by omega), if_neg (show ¬ k = i by omega), if_neg (show ¬ i = j by omega), if_pos rfl]
        have := ha k hk hkn (by omega) (by omega)
        rw [hp] at this
        exact this
/-- the first one stands behind none -/
theorem hp_min {l : List α} {n : Nat} (h : HP lt d l n 0) : ∀ k, k < n → lt (l.getD k d) (l.getD 0 d) = false := by
  intro k
  induction k using Nat.strongRecOn with
  | ind k ih =>
    intro hk
    rcases Nat.eq_zero_or_pos k with rfl | h0
    · cases e : lt (l.getD 0 d) (l.getD 0 d)
      · rfl
      · exact (h1 _ _ e).symm.trans e |>.symm
    · exact h2 _ _ _ (ih ((k - 1) / 2) (by omega) (by omega)) (h k h0 hk (Nat.zero_le _))
theorem hpush_heap {l : List α} {x : α} (h : HP lt d l l.length 0) : HP lt d (hpush lt d l x) (l.length + 1) 0 := by
  have := hup_heap h1 h2 (d := d) (l.length + 1) (l ++ [x]) l.length (by simp) (by omega) (fun k hk hkl hne => ?_) (fun k hk hkl hp h0 => ?_)
  · simpa [hpush] using this
  · simp only [List.length_append, List.length_cons, List.length_nil] at hkl
    have := h k hk (by omega) (Nat.zero_le _)
    have e : ∀ q, q < l.length → (l ++ [x]).getD q d = l.getD q d := fun q hq => by simp [List.getD, List.getElem?_append_left hq]
    rw [e k (by omega), e _ (by omega)]
    exact this
  · simp only [List.length_append, List.length_cons, List.length_nil] at hkl
    omega
theorem hpopL_heap {l : List α} (h : HP lt d l l.length 0) : HP lt d (hpopL lt d l) (l.length - 1) 0 := by
  rcases Nat.eq_zero_or_pos l.length with h0 | h0
  · intro k hk hkn _; omega
  have hsw := fun k => swp_at (d := d) (l := l) (i := 0) (j := l.length - 1) (by omega) (by omega) k
  refine hdown_heap h1 h2 l.length _ 0 (l.length - 1) 0 (by rw [swp_len]; omega) (Nat.le_refl _) (by omega) (fun k hk hkn _ hne => ?_) (fun k hk hkn hp h3 _ => absurd h3 (by omega))
  rw [hsw, hsw, if_neg (by omega), if_neg (by omega), if_neg (by omega), if_neg (by omega)]
  exact h k hk (by omega) (Nat.zero_le _)
theorem hinitN_heap (l : List α) : ∀ (k : Nat) (r : List α), r.length = l.length → HP lt d r l.length k → HP lt d (hinitN lt d l k r) l.length 0
  | 0, r, _, h => h
  | k + 1, r, hr, h => by
    simp only [hinitN]
    refine hinitN_heap l k _ (by rw [hdown_len, hr]) ?_
    rw [hr]
    refine hdown_heap h1 h2 l.length r k l.length k (by omega) (Nat.le_refl _) (by omega) (fun k' hk hkn hp hne => h k' hk hkn (by omega)) (fun k' hk hkn hp h0 h5 => by omega)
theorem hinit_heap (l : List α) : HP lt d (hinit lt d l) l.length 0 :=
  hinitN_heap h1 h2 l (l.length / 2) l rfl fun k hk hkn hp => by omega
end
section
variable {α : Type} {lt : α → α → Bool} {d : α}
theorem hpush_perm (l : List α) (x : α) : (hpush lt d l x).Perm (x :: l) :=
  (hup_perm _ _ _ (by simp)).trans (by
    have : (l ++ [x]).Perm ([x] ++ l) := List.perm_append_comm
    exact this)
theorem hpush_len (l : List α) (x : α) : (hpush lt d l x).length = l.length + 1 := by simp [hpush, hup_len]
theorem hpopL_len (l : List α) : (hpopL lt d l).length = l.length := by simp [hpopL, hdown_len, swp_len]
theorem hpop_len (l : List α) : (hpop lt d l).length = l.length - 1 := by simp [hpop, hpopL_len]
theorem hpopL_perm {l : List α} (h : 0 < l.length) : (hpopL lt d l).Perm l :=
  (hdown_perm _ _ _ _ (by rw [swp_len]; omega)).trans (swp_perm (by omega) (by omega))
theorem hpopL_last {l : List α} (h : 0 < l.length) : (hpopL lt d l).getD (l.length - 1) d = l.getD 0 d := by
  unfold hpopL
  rw [hdown_out _ _ _ _ _ (by rw [swp_len]; omega) (Nat.le_refl _), swp_at (by omega) (by omega), if_pos rfl]
theorem hpopL_eq {l : List α} (h : 0 < l.length) : hpopL lt d l = hpop lt d l ++ [l.getD 0 d] := by
  have h1 := hpopL_last (lt := lt) (d := d) h
  have h2 := hpopL_len (lt := lt) (d := d) l
  have h3 : (hpopL lt d l).getD (l.length - 1) d = (hpopL lt d l)[l.length - 1]'(by omega) := by
    rw [List.getD_eq_getElem?_getD, List.getElem?_eq_getElem (by omega)]; rfl
  have h4 : (hpopL lt d l).drop (l.length - 1) = [l.getD 0 d] := by
    rw [List.drop_eq_getElem_cons (by omega), ← h3, h1]
    congr 1
    exact List.drop_of_length_le (by omega)
  unfold hpop
  rw [← h4, List.take_append_drop]
theorem hpop_perm {l : List α} (h : 0 < l.length) : (l.getD 0 d :: hpop lt d l).Perm l := by
  refine List.Perm.trans ?_ (hpopL_perm (lt := lt) (d := d) h)
  rw [hpopL_eq h]
  have : (hpop lt d l ++ [l.getD 0 d]).Perm ([l.getD 0 d] ++ hpop lt d l) := List.perm_append_comm
  exact this.symm
theorem hp_take {l : List α} {m n : Nat} (hm : m ≤ n) (h : HP lt d l n 0) : HP lt d (l.take m) m 0 := by
  intro k hk hkm hp
  have h1 := h k hk (by omega) hp
  have e : ∀ q, q < m → (l.take m).getD q d = l.getD q d := fun q hq => by simp [List.getD, List.getElem?_take, hq]
  rw [e k hkm, e _ (by omega)]
  exact h1
theorem hinitN_len (l : List α) : ∀ (k : Nat) (r : List α), (hinitN lt d l k r).length = r.length
  | 0, r => rfl
  | k + 1, r => by simp only [hinitN]; rw [hinitN_len l k, hdown_len]
theorem hinitN_perm (l : List α) : ∀ (k : Nat) (r : List α), (hinitN lt d l k r).Perm r
  | 0, r => List.Perm.refl _
  | k + 1, r => by simp only [hinitN]; exact (hinitN_perm l k _).trans (hdown_perm _ _ _ _ (Nat.le_refl _))
theorem hinit_len (l : List α) : (hinit lt d l).length = l.length := hinitN_len l _ _
theorem hinit_perm (l : List α) : (hinit lt d l).Perm l := hinitN_perm l _ _
end
end Go.Proofs.Yteooamoagkcgnaa
