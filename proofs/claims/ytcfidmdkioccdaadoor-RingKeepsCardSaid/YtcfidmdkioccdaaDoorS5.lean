/-
  Sorting by swaps: what pdqsort makes of a row. Plain.
  Sorting by swaps: partitions, and the whole of pdqsort. Plain.
  slices.Sort at uint32, walked over abstract values: which of two is less, insertion.
-/
import Derived.Test.YtcfidmdkioccdaaDoorS4
set_option linter.unusedSimpArgs false
set_option linter.unusedVariables false
set_option maxHeartbeats 20000000
namespace Go.Proofs.YtcfidmdkioccdaaDoor
open Go.RowKit
inductive Sw (a b : Nat) : List Nat → List Nat → Prop
 | refl (l : List Nat) : Sw a b l l
 | step {l l' : List Nat} {i j : Nat} : Sw a b l l' → a ≤ i → i < b → a ≤ j → j < b → Sw a b l (swp 0 l' i j)
theorem Sw.trans {a b : Nat} {l m k : List Nat} (h1 : Sw a b l m) (h2 : Sw a b m k) : Sw a b l k := by
 induction h2 with
 | refl => exact h1
 | step _ q1 q2 q3 q4 ih => exact .step ih q1 q2 q3 q4
theorem Sw.one {a b i j : Nat} (l : List Nat) (q1 : a ≤ i) (q2 : i < b) (q3 : a ≤ j) (q4 : j < b) : Sw a b l (swp 0 l i j) := .step (.refl l) q1 q2 q3 q4
theorem Sw.wide {a b a' b' : Nat} {l m : List Nat} (h : Sw a b l m) (ha : a' ≤ a) (hb : b ≤ b') : Sw a' b' l m := by
 induction h with
 | refl => exact .refl _
 | step _ q1 q2 q3 q4 ih => exact .step ih (by omega) (by omega) (by omega) (by omega)
theorem Sw.len {a b : Nat} {l m : List Nat} (h : Sw a b l m) : m.length = l.length := by
 induction h with
 | refl => rfl
 | step _ q1 q2 q3 q4 ih => rw [swp_len, ih]
theorem Sw.perm {a b : Nat} {l m : List Nat} (h : Sw a b l m) (hb : b ≤ l.length) : m.Perm l := by
 induction h with
 | refl => exact .refl _
 | step h q1 q2 q3 q4 ih => exact (swp_perm (by rw [h.len]; omega) (by rw [h.len]; omega)).trans ih
theorem Sw.out {a b : Nat} {l m : List Nat} (h : Sw a b l m) (hb : b ≤ l.length) {k : Nat} (hk : k < a ∨ b ≤ k) : m.getD k 0 = l.getD k 0 := by
 induction h with
 | refl => rfl
 | step h q1 q2 q3 q4 ih => rw [swp_at (by rw [h.len]; omega) (by rw [h.len]; omega), if_neg (by omega), if_neg (by omega), ih]
theorem Sw.all {a b : Nat} {l m : List Nat} (h : Sw a b l m) (hb : b ≤ l.length) {P : Nat → Prop} (hP : ∀ k, a ≤ k → k < b → P (l.getD k 0)) : ∀ k, a ≤ k → k < b → P (m.getD k 0) := by
 induction h with
 | refl => exact hP
 | step h q1 q2 q3 q4 ih =>
  intro k h1 h2
  rw [swp_at (by rw [h.len]; omega) (by rw [h.len]; omega)]
  split
  ·exact ih _ q1 q2
  split
  ·exact ih _ q3 q4
  ·exact ih _ h1 h2
theorem nodup_ne {l : List Nat} (h : l.Nodup) {i j : Nat} (hi : i < l.length) (hj : j < l.length) (hne : i ≠ j) : l.getD i 0 ≠ l.getD j 0 := by
 intro e
 have e1 : l.getD i 0 = l[i] := by simp [List.getD, hi]
 have e2 : l.getD j 0 = l[j] := by simp [List.getD, hj]
 rw [e1, e2] at e
 have hp := List.pairwise_iff_getElem.1 h
 rcases Nat.lt_or_gt_of_ne hne with h1 | h1
 ·exact hp i j hi hj h1 e
 ·exact hp j i hj hi h1 e.symm
def Srt (l : List Nat) (a b : Nat) : Prop := ∀ p q, a ≤ p → p < q → q < b → l.getD p 0 ≤ l.getD q 0
def Fl (l : List Nat) (a b : Nat) : Prop := 0 < a → ∀ k, a ≤ k → k < b → l.getD (a - 1) 0 < l.getD k 0
theorem Fl.sw {a b : Nat} {l m : List Nat} (h : Fl l a b) (hs : Sw a b l m) (hb : b ≤ l.length) : Fl m a b := by
 intro h0
 rw [hs.out hb (k := a - 1) (by omega)]
 exact hs.all hb (h h0)
def insJ (a : Nat) : Nat → List Nat → List Nat
 | 0, l => l
 | j + 1, l => if a < j + 1 ∧ l.getD (j + 1) 0 < l.getD j 0 then insJ a j (swp 0 l (j + 1) j) else l
theorem insJ_sw {a b : Nat} : ∀ (j : Nat) (l : List Nat), j < b → Sw a b l (insJ a j l)
 | 0, l, _ => .refl l
 | j + 1, l, hj => by
  simp only [insJ]
  split
  ·rename_i h
   exact (Sw.one l (by omega) hj (by omega) (by omega)).trans (insJ_sw j _ (by omega))
  ·exact .refl l
theorem insJ_srt {a : Nat} : ∀ (j i : Nat) (l : List Nat), a ≤ j → j ≤ i → i < l.length → (∀ p q, a ≤ p → p < q → q ≤ i → q ≠ j → l.getD p 0 ≤ l.getD q 0) → Srt (insJ a j l) a (i + 1)
 | 0, i, l, ha, hj, hi, h => fun p q h1 h2 h3 => h p q h1 h2 (by omega) (by omega)
 | j + 1, i, l, ha, hj, hi, h => by
  simp only [insJ]
  split
  ·rename_i hc
   have hsw := fun k => swp_at (d := 0) (l := l) (i := j + 1) (j := j) (by omega) (by omega) k
   refine insJ_srt j i _ (by omega) (by omega) (by rw [swp_len]; exact hi) fun p q h1 h2 h3 h4 => ?_
   rw [hsw, hsw, if_neg h4]
   by_cases e1 : q = j + 1
   ·rw [if_pos e1]
    by_cases e2 : p = j
    ·rw [if_pos e2]; omega
    ·rw [if_neg e2, if_neg (by omega)]; exact h p j h1 (by omega) (by omega) (by omega)
   ·rw [if_neg e1]
    by_cases e2 : p = j
    ·rw [if_pos e2]; exact h (j + 1) q (by omega) (by omega) h3 e1
    ·rw [if_neg e2]
     by_cases e3 : p = j + 1
     ·rw [if_pos e3]; exact h j q (by omega) (by omega) h3 e1
     ·rw [if_neg e3]; exact h p q h1 h2 h3 e1
  ·rename_i hc
   intro p q h1 h2 h3
   by_cases e : q = j + 1
   ·subst e
    have h4 : l.getD j 0 ≤ l.getD (j + 1) 0 := by
     by_cases h5 : a < j + 1
     ·have : ¬ l.getD (j + 1) 0 < l.getD j 0 := fun h6 => hc ⟨h5, h6⟩
      omega
     ·omega
    rcases Nat.lt_or_ge p j with h5 | h5
    ·exact Nat.le_trans (h p j h1 h5 (by omega) (by omega)) h4
    ·obtain rfl : p = j := by omega
     exact h4
   ·exact h p q h1 h2 (by omega) e
def insN (a : Nat) : Nat → Nat → List Nat → List Nat
 | 0, _, l => l
 | n + 1, i, l => insN a n (i + 1) (insJ a i l)
def insS (l : List Nat) (a b : Nat) : List Nat := insN a (b - (a + 1)) (a + 1) l
theorem insN_sw {a b : Nat} : ∀ (n i : Nat) (l : List Nat), i + n ≤ b → Sw a b l (insN a n i l)
 | 0, _, l, _ => .refl l
 | n + 1, i, l, h => by
  simp only [insN]
  exact (insJ_sw i l (by omega)).trans (insN_sw n (i + 1) _ (by omega))
theorem insN_srt {a : Nat} : ∀ (n i : Nat) (l : List Nat), a ≤ i → i + n ≤ l.length → Srt l a i → Srt (insN a n i l) a (i + n)
 | 0, _, l, _, _, h => h
 | n + 1, i, l, ha, hl, h => by
  simp only [insN]
  have h1 := insJ_srt i i l ha (Nat.le_refl _) (by omega) (fun p q h1 h2 h3 h4 => h p q h1 h2 (by omega))
  have h2 := insN_srt n (i + 1) _ (by omega) (by rw [(insJ_sw (a := a) (b := i + 1) i l (by omega)).len]; omega) h1
  rw [show i + (n + 1) = i + 1 + n by omega]
  exact h2
theorem insS_sw {a b : Nat} (l : List Nat) (hab : a < b) : Sw a b l (insS l a b) := insN_sw _ _ _ (by omega)
theorem insS_eq {a b : Nat} (l : List Nat) (hab : b ≤ a) : insS l a b = l := by
 unfold insS
 rw [show b - (a + 1) = 0 by omega]; rfl
theorem insS_srt {a b : Nat} (l : List Nat) (hab : a ≤ b) (hb : b ≤ l.length) : Srt (insS l a b) a b := by
 rcases Nat.lt_or_ge a b with h | h
 ·have := insN_srt (a := a) (b - (a + 1)) (a + 1) l (by omega) (by omega) (fun p q h1 h2 h3 => by omega)
  rw [show a + 1 + (b - (a + 1)) = b by omega] at this
  exact this
 ·intro p q h1 h2 h3; omega
def skid (l : List Nat) (i n f : Nat) : Nat := if 2 * i + 2 < n ∧ l.getD (f + (2 * i + 1)) 0 < l.getD (f + (2 * i + 2)) 0 then 2 * i + 2 else 2 * i + 1
def sift : Nat → List Nat → Nat → Nat → Nat → List Nat
 | 0, l, _, _, _ => l
 | u + 1, l, i, n, f => if n ≤ 2 * i + 1 then l else if l.getD (f + i) 0 < l.getD (f + skid l i n f) 0 then sift u (swp 0 l (f + i) (f + skid l i n f)) (skid l i n f) n f else l
def gtB (x y : Nat) : Bool := decide (y < x)
theorem drop_swp (l : List Nat) (f i j : Nat) : (swp 0 l (f + i) (f + j)).drop f = swp 0 (l.drop f) i j := by
 unfold swp
 rw [List.drop_set, if_neg (by omega), List.drop_set, if_neg (by omega)]
 simp only [Nat.add_sub_cancel_left, List.getD_eq_getElem?_getD, List.getElem?_drop]
theorem drop_at (l : List Nat) (f i : Nat) : (l.drop f).getD i 0 = l.getD (f + i) 0 := by
 simp only [List.getD_eq_getElem?_getD, List.getElem?_drop]
theorem skid_eq (l : List Nat) (i n f : Nat) : hkid gtB 0 (l.drop f) i n = skid l i n f := by
 unfold hkid skid gtB
 simp only [drop_at, decide_eq_true_eq]
theorem skid_lt {l : List Nat} {i n f : Nat} (h : ¬ n ≤ 2 * i + 1) : skid l i n f < n ∧ i < skid l i n f := by
 unfold skid
 split <;> omega
theorem sift_drop : ∀ (u : Nat) (l : List Nat) (i n f : Nat), (sift u l i n f).drop f = hdown gtB 0 u (l.drop f) i n
 | 0, l, i, n, f => rfl
 | u + 1, l, i, n, f => by
  simp only [sift, hdown]
  split
  ·rfl
  ·have e : (gtB ((l.drop f).getD (skid l i n f) 0) ((l.drop f).getD i 0) = false) ↔ ¬ l.getD (f + i) 0 < l.getD (f + skid l i n f) 0 := by
    simp [gtB, drop_at]
   rw [skid_eq]
   by_cases h : l.getD (f + i) 0 < l.getD (f + skid l i n f) 0
   ·rw [if_pos h, if_neg (fun h' => (e.1 h') h), sift_drop, drop_swp]
   ·rw [if_neg h, if_pos (e.2 h)]
theorem sift_sw {f n : Nat} : ∀ (u : Nat) (l : List Nat) (i : Nat), Sw f (f + n) l (sift u l i n f)
 | 0, l, i => .refl l
 | u + 1, l, i => by
  simp only [sift]
  split
  ·exact .refl l
  ·rename_i h
   have := skid_lt (l := l) (f := f) h
   split
   ·exact (Sw.one l (by omega) (by omega) (by omega) (by omega)).trans (sift_sw u _ _)
   ·exact .refl l
theorem gt1 (a b : Nat) (h : gtB a b = true) : gtB b a = false := by simp [gtB] at h ⊢; omega
theorem gt2 (a b c : Nat) (h1 : gtB b a = false) (h2 : gtB c b = false) : gtB c a = false := by simp [gtB] at *; omega
def hsB (n f : Nat) : Nat → List Nat → List Nat
 | 0, l => l
 | k + 1, l => hsB n f k (sift n l k n f)
def hsP (f : Nat) : Nat → List Nat → List Nat
 | 0, l => l
 | k + 1, l => hsP f k (sift k (swp 0 l f (f + k)) 0 k f)
def heapS (l : List Nat) (a b : Nat) : List Nat := hsP a (b - a) (hsB (b - a) a ((b - a - 1) / 2 + 1) l)
theorem hsB_sw {n f : Nat} : ∀ (k : Nat) (l : List Nat), Sw f (f + n) l (hsB n f k l)
 | 0, l => .refl l
 | k + 1, l => by
  simp only [hsB]
  exact (sift_sw n l k).trans (hsB_sw k _)
theorem hsP_sw {n f : Nat} : ∀ (k : Nat) (l : List Nat), k ≤ n → Sw f (f + n) l (hsP f k l)
 | 0, l, _ => .refl l
 | k + 1, l, h => by
  simp only [hsP]
  exact ((Sw.one l (by omega) (by omega) (by omega) (by omega)).trans ((sift_sw k _ 0).wide (by omega) (by omega))).trans (hsP_sw k _ (by omega))
theorem heapS_sw {a b : Nat} (l : List Nat) (hab : a ≤ b) : Sw a b l (heapS l a b) := by
 have h1 := hsB_sw (n := b - a) (f := a) ((b - a - 1) / 2 + 1) l
 have h2 := hsP_sw (n := b - a) (f := a) (b - a) (hsB (b - a) a ((b - a - 1) / 2 + 1) l) (Nat.le_refl _)
 rw [show a + (b - a) = b by omega] at h1 h2
 exact h1.trans h2
theorem hsB_heap {n f : Nat} : ∀ (k : Nat) (l : List Nat), f + n ≤ l.length → HpT gtB 0 (l.drop f) n k → HpT gtB 0 ((hsB n f k l).drop f) n 0
 | 0, l, _, h => h
 | k + 1, l, hl, h => by
  simp only [hsB]
  refine hsB_heap k _ (by rw [(sift_sw (f := f) (n := n) n l k).len]; exact hl) ?_
  rw [sift_drop]
  exact hdown_heap gt1 gt2 n (l.drop f) k n k (by rw [List.length_drop]; omega) (Nat.le_refl _) (by omega) (fun k' hk hkn hp hne => h k' hk hkn (by omega)) (fun k' hk hkn hp h0 h5 => by omega)
theorem hsP_srt {n f : Nat} : ∀ (k : Nat) (l : List Nat), k ≤ n → f + n ≤ l.length → HpT gtB 0 (l.drop f) k 0 → Srt l (f + k) (f + n) → (∀ p q, f ≤ p → p < f + k → f + k ≤ q → q < f + n → l.getD p 0 ≤ l.getD q 0) → Srt (hsP f k l) f (f + n)
 | 0, l, _, _, _, h, _ => h
 | k + 1, l, hk, hl, hh, hs, hx => by
  simp only [hsP]
  have hroot : ∀ p, f ≤ p → p < f + (k + 1) → l.getD p 0 ≤ l.getD f 0 := fun p h1 h2 => by
   have := hp_min gt1 gt2 hh (p - f) (by omega)
   rw [drop_at, drop_at, show f + (p - f) = p by omega] at this
   simpa [gtB] using this
  have hsw := fun j => swp_at (d := 0) (l := l) (i := f) (j := f + k) (by omega) (by omega) j
  have hl1 : (swp 0 l f (f + k)).length = l.length := swp_len _ _ _
  have hout := fun j hj => (sift_sw (f := f) (n := k) k (swp 0 l f (f + k)) 0).out (by rw [hl1]; omega) (k := j) hj
  have hall := (sift_sw (f := f) (n := k) k (swp 0 l f (f + k)) 0).all (by rw [hl1]; omega) (P := fun x => ∀ q, f + k ≤ q → q < f + n → x ≤ (swp 0 l f (f + k)).getD q 0) (fun j h1 h2 q h3 h4 => by
   rw [hsw, hsw, if_neg (by omega)]
   have e1 : (if j = f then l.getD (f + k) 0 else l.getD j 0) ≤ l.getD f 0 := by
    split
    ·exact hroot _ (by omega) (by omega)
    ·exact hroot _ (by omega) (by omega)
   refine Nat.le_trans e1 ?_
   split
   ·exact Nat.le_refl _
   ·rw [if_neg (by omega)]
    exact hx f q (by omega) (by omega) (by omega) h4)
  refine hsP_srt k _ (by omega) (by rw [(sift_sw (f := f) (n := k) k _ 0).len, hl1]; exact hl) ?_ ?_ ?_
  ·rw [sift_drop, show swp 0 l f (f + k) = swp 0 l (f + 0) (f + k) by rfl, drop_swp]
   have hdl : (l.drop f).length = l.length - f := List.length_drop ..
   refine hdown_heap gt1 gt2 k _ 0 k 0 (by rw [swp_len, hdl]; omega) (Nat.le_refl _) (by omega) (fun j hj hjn _ hne => ?_) (fun j hj hjn hp h3 _ => absurd h3 (by omega))
   have hsd := fun i => swp_at (d := 0) (l := l.drop f) (i := 0) (j := k) (by rw [hdl]; omega) (by rw [hdl]; omega) i
   rw [hsd, hsd, if_neg (by omega), if_neg (by omega), if_neg (by omega), if_neg (by omega)]
   exact hh j hj (by omega) (Nat.zero_le _)
  ·intro p q h1 h2 h3
   rw [hout p (by omega), hout q (by omega), hsw, hsw]
   have hq : ¬ q = f + k := by omega
   rw [if_neg hq, if_neg (show ¬ q = f by omega)]
   split
   ·exact hx f q (by omega) (by omega) (by omega) h3
   ·rw [if_neg (by omega)]
    exact hs p q (by omega) h2 h3
  ·intro p q h1 h2 h3 h4
   rw [hout q (by omega)]
   exact hall p h1 h2 q h3 h4
theorem heapS_srt {a b : Nat} (l : List Nat) (hab : a ≤ b) (hb : b ≤ l.length) : Srt (heapS l a b) a b := by
 have h1 := hsB_sw (n := b - a) (f := a) ((b - a - 1) / 2 + 1) l
 have h2 := hsB_heap (n := b - a) (f := a) ((b - a - 1) / 2 + 1) l (by omega) (fun k hk hkn hp => by omega)
 have h3 := hsP_srt (n := b - a) (f := a) (b - a) _ (Nat.le_refl _) (by rw [h1.len]; omega) h2 (fun p q _ _ _ => by omega) (fun p q _ _ _ _ => by omega)
 rw [show a + (b - a) = b by omega] at h3
 exact h3
def scI (l : List Nat) (a j : Nat) : Nat → Nat → Nat
 | 0, i => i
 | n + 1, i => if i ≤ j ∧ l.getD i 0 < l.getD a 0 then scI l a j n (i + 1) else i
def scJ (l : List Nat) (a i : Nat) : Nat → Nat
 | 0 => 0
 | j + 1 => if i ≤ j + 1 ∧ ¬ l.getD (j + 1) 0 < l.getD a 0 then scJ l a i j else j + 1
theorem scI_ok {l : List Nat} {a j : Nat} : ∀ (n i : Nat), j + 1 ≤ i + n → i ≤ j + 1 → i ≤ scI l a j n i ∧ scI l a j n i ≤ j + 1 ∧ (∀ k, i ≤ k → k < scI l a j n i → l.getD k 0 < l.getD a 0) ∧ (scI l a j n i ≤ j → l.getD a 0 ≤ l.getD (scI l a j n i) 0)
 | 0, i, h, h2 => ⟨Nat.le_refl _, h2, fun k h1 h2 => by simp only [scI] at h2; omega, fun h3 => by simp only [scI] at h3; omega⟩
 | n + 1, i, h, h2 => by
  simp only [scI]
  by_cases hc : i ≤ j ∧ l.getD i 0 < l.getD a 0
  ·rw [if_pos hc]
   obtain ⟨q1, q2, q3, q4⟩ := scI_ok (l := l) (a := a) (j := j) n (i + 1) (by omega) (by omega)
   refine ⟨by omega, q2, fun k h3 h4 => ?_, q4⟩
   by_cases e : k = i
   ·rw [e]; exact hc.2
   ·exact q3 k (by omega) h4
  ·rw [if_neg hc]
   exact ⟨Nat.le_refl _, h2, fun k _ _ => by omega, fun h3 => by omega⟩
theorem scJ_ok {l : List Nat} {a i : Nat} : ∀ (j : Nat), 1 ≤ i → i ≤ j + 1 → scJ l a i j ≤ j ∧ i ≤ scJ l a i j + 1 ∧ (∀ k, scJ l a i j < k → k ≤ j → l.getD a 0 ≤ l.getD k 0) ∧ (i ≤ scJ l a i j → l.getD (scJ l a i j) 0 < l.getD a 0)
 | 0, h1, h2 => ⟨Nat.le_refl _, by simp only [scJ]; omega, fun k _ _ => by simp only [scJ] at *; omega, fun h => by simp only [scJ] at h; omega⟩
 | j + 1, h1, h2 => by
  simp only [scJ]
  by_cases hc : i ≤ j + 1 ∧ ¬ l.getD (j + 1) 0 < l.getD a 0
  ·rw [if_pos hc]
   obtain ⟨q1, q2, q3, q4⟩ := scJ_ok (l := l) (a := a) j h1 (by omega)
   refine ⟨by omega, q2, fun k h3 h4 => ?_, q4⟩
   by_cases e : k = j + 1
   ·rw [e]; omega
   ·exact q3 k h3 (by omega)
  ·rw [if_neg hc]
   exact ⟨Nat.le_refl _, by omega, fun k _ _ => by omega, fun h3 => by omega⟩
def parL (a : Nat) : Nat → List Nat → Nat → Nat → List Nat × Nat
 | 0, l, _, j => (l, j)
 | u + 1, l, i, j => if scJ l a (scI l a j (j + 1 - i) i) j < scI l a j (j + 1 - i) i then (l, scJ l a (scI l a j (j + 1 - i) i) j)
  else parL a u (swp 0 l (scI l a j (j + 1 - i) i) (scJ l a (scI l a j (j + 1 - i) i) j)) (scI l a j (j + 1 - i) i + 1) (scJ l a (scI l a j (j + 1 - i) i) j - 1)
structure Par (a b : Nat) (l : List Nat) (i j : Nat) : Prop where
 ai : a < i
 ij : i ≤ j + 1
 jb : j < b
 aj : a ≤ j
 lo : ∀ k, a < k → k < i → l.getD k 0 < l.getD a 0
 hi : ∀ k, j < k → k < b → l.getD a 0 ≤ l.getD k 0
theorem Par.scan {a b : Nat} {l : List Nat} {i j : Nat} (h : Par a b l i j) {i' j' : Nat} (hi' : i' = scI l a j (j + 1 - i) i) (hj' : j' = scJ l a i' j) : Par a b l i' j' ∧ i ≤ i' ∧ j' ≤ j ∧ (i' ≤ j' → l.getD a 0 ≤ l.getD i' 0 ∧ l.getD j' 0 < l.getD a 0) := by
 obtain ⟨q1, q2, q3, q4⟩ := scI_ok (l := l) (a := a) (j := j) (j + 1 - i) i (by have := h.ij; omega) h.ij
 rw [← hi'] at q1 q2 q3 q4
 have hai := h.ai
 obtain ⟨r1, r2, r3, r4⟩ := scJ_ok (l := l) (a := a) (i := i') j (by omega) q2
 rw [← hj'] at r1 r2 r3 r4
 have := h.jb
 refine ⟨⟨by omega, r2, by omega, by omega, fun k h1 h2 => ?_, fun k h1 h2 => ?_⟩, q1, r1, fun h1 => ⟨q4 (by omega), r4 h1⟩⟩
 ·rcases Nat.lt_or_ge k i with h3 | h3
  ·exact h.lo k h1 h3
  ·exact q3 k h3 h2
 ·rcases Nat.lt_or_ge j k with h3 | h3
  ·exact h.hi k h3 h2
  ·exact r3 k h1 h3
theorem Par.swap {a b : Nat} {l : List Nat} {i j : Nat} (h : Par a b l i j) (hb : b ≤ l.length) (hij : i ≤ j) (h1 : l.getD a 0 ≤ l.getD i 0) (h2 : l.getD j 0 < l.getD a 0) : Par a b (swp 0 l i j) (i + 1) (j - 1) ∧ i < j := by
 have hai := h.ai
 have hjb := h.jb
 have hlt : i < j := by
  rcases Nat.lt_or_ge i j with h3 | h3
  ·exact h3
  ·obtain rfl : i = j := by omega
   omega
 have hsw := fun k => swp_at (d := 0) (l := l) (i := i) (j := j) (by omega) (by omega) k
 refine ⟨⟨by omega, by omega, by omega, by omega, fun k h3 h4 => ?_, fun k h3 h4 => ?_⟩, hlt⟩
 ·rw [hsw, hsw, if_neg (show ¬ a = j by omega), if_neg (show ¬ a = i by omega), if_neg (show ¬ k = j by omega)]
  split
  ·exact h2
  ·exact h.lo k h3 (by omega)
 ·rw [hsw, hsw, if_neg (show ¬ a = j by omega), if_neg (show ¬ a = i by omega)]
  split
  ·exact h1
  ·rw [if_neg (show ¬ k = i by omega)]
   exact h.hi k (by omega) h4
theorem parL_ok {a b : Nat} : ∀ (u : Nat) (l : List Nat) (i j : Nat), j + 1 ≤ i + u → b ≤ l.length → Par a b l i j → Sw (a + 1) b l (parL a u l i j).1 ∧ (parL a u l i j).1.getD a 0 = l.getD a 0 ∧ (parL a u l i j).2 ≤ j ∧ Par a b (parL a u l i j).1 ((parL a u l i j).2 + 1) (parL a u l i j).2
 | 0, l, i, j, hu, hb, h => by
  obtain rfl : i = j + 1 := by have := h.ij; omega
  exact ⟨.refl l, rfl, Nat.le_refl _, h⟩
 | u + 1, l, i, j, hu, hb, h => by
  simp only [parL]
  obtain ⟨q1, q2, q3, q4⟩ := h.scan rfl rfl
  generalize scI l a j (j + 1 - i) i = i' at *
  generalize scJ l a i' j = j' at *
  have hij := q1.ij
  have hai := q1.ai
  have hjb := q1.jb
  by_cases hc : j' < i'
  ·rw [if_pos hc]
   obtain rfl : i' = j' + 1 := by omega
   exact ⟨.refl l, rfl, q3, q1⟩
  ·rw [if_neg hc]
   obtain ⟨h1, h2⟩ := q4 (by omega)
   obtain ⟨h3, h4⟩ := q1.swap hb (by omega) h1 h2
   obtain ⟨r1, r2, r3, r4⟩ := parL_ok u (swp 0 l i' j') (i' + 1) (j' - 1) (by omega) (by rw [swp_len]; exact hb) h3
   refine ⟨(Sw.one l (by omega) (by omega) (by omega) (by omega)).trans r1, ?_, by omega, r4⟩
   rw [r2, swp_at (by omega) (by omega), if_neg (by omega), if_neg (by omega)]
def part (l : List Nat) (a b p : Nat) : List Nat × Nat × Bool :=
 if scJ (swp 0 l a p) a (scI (swp 0 l a p) a (b - 1) (b - 1 - a) (a + 1)) (b - 1) < scI (swp 0 l a p) a (b - 1) (b - 1 - a) (a + 1) then
  (swp 0 (swp 0 l a p) (scJ (swp 0 l a p) a (scI (swp 0 l a p) a (b - 1) (b - 1 - a) (a + 1)) (b - 1)) a, scJ (swp 0 l a p) a (scI (swp 0 l a p) a (b - 1) (b - 1 - a) (a + 1)) (b - 1), true)
 else
  (swp 0 (parL a (b - a) (swp 0 (swp 0 l a p) (scI (swp 0 l a p) a (b - 1) (b - 1 - a) (a + 1)) (scJ (swp 0 l a p) a (scI (swp 0 l a p) a (b - 1) (b - 1 - a) (a + 1)) (b - 1))) (scI (swp 0 l a p) a (b - 1) (b - 1 - a) (a + 1) + 1) (scJ (swp 0 l a p) a (scI (swp 0 l a p) a (b - 1) (b - 1 - a) (a + 1)) (b - 1) - 1)).1
   (parL a (b - a) (swp 0 (swp 0 l a p) (scI (swp 0 l a p) a (b - 1) (b - 1 - a) (a + 1)) (scJ (swp 0 l a p) a (scI (swp 0 l a p) a (b - 1) (b - 1 - a) (a + 1)) (b - 1))) (scI (swp 0 l a p) a (b - 1) (b - 1 - a) (a + 1) + 1) (scJ (swp 0 l a p) a (scI (swp 0 l a p) a (b - 1) (b - 1 - a) (a + 1)) (b - 1) - 1)).2 a,
   (parL a (b - a) (swp 0 (swp 0 l a p) (scI (swp 0 l a p) a (b - 1) (b - 1 - a) (a + 1)) (scJ (swp 0 l a p) a (scI (swp 0 l a p) a (b - 1) (b - 1 - a) (a + 1)) (b - 1))) (scI (swp 0 l a p) a (b - 1) (b - 1 - a) (a + 1) + 1) (scJ (swp 0 l a p) a (scI (swp 0 l a p) a (b - 1) (b - 1 - a) (a + 1)) (b - 1) - 1)).2, false)
structure Parted (a b : Nat) (l : List Nat) (m : Nat) : Prop where
 am : a ≤ m
 mb : m < b
 lo : ∀ k, a ≤ k → k < m → l.getD k 0 < l.getD m 0
 hi : ∀ k, m < k → k < b → l.getD m 0 ≤ l.getD k 0
theorem Par.last {a b : Nat} {l : List Nat} {j : Nat} (h : Par a b l (j + 1) j) (hb : b ≤ l.length) : Parted a b (swp 0 l j a) j := by
 have h1 := h.aj
 have h2 := h.jb
 have hsw := fun k => swp_at (d := 0) (l := l) (i := j) (j := a) (by omega) (by omega) k
 refine ⟨h1, h2, fun k h3 h4 => ?_, fun k h3 h4 => ?_⟩
 ·rw [hsw, hsw]
  by_cases e : k = a
  ·subst e
   rw [if_pos rfl, if_neg (by omega), if_pos rfl]
   exact h.lo j (by omega) (by omega)
  ·rw [if_neg e, if_neg (by omega), if_neg (by omega), if_pos rfl]
   exact h.lo k (by omega) (by omega)
 ·rw [hsw, hsw, if_neg (show ¬ k = a by omega), if_neg (show ¬ k = j by omega)]
  by_cases e : j = a
  ·subst e
   rw [if_pos rfl]
   exact h.hi k h3 h4
  ·rw [if_neg e, if_pos rfl]
   exact h.hi k h3 h4
theorem part_ok {a b p : Nat} {l : List Nat} (hap : a ≤ p) (hpb : p < b) (hb : b ≤ l.length) : Sw a b l (part l a b p).1 ∧ Parted a b (part l a b p).1 (part l a b p).2.1 := by
 unfold part
 have hs0 : Sw a b l (swp 0 l a p) := .one l (Nat.le_refl _) (by omega) hap hpb
 have hb1 : b ≤ (swp 0 l a p).length := by rw [swp_len]; exact hb
 generalize swp 0 l a p = l1 at *
 have h0 : Par a b l1 (a + 1) (b - 1) := ⟨by omega, by omega, by omega, by omega, fun k _ _ => by omega, fun k _ _ => by omega⟩
 have hsc := h0.scan rfl rfl
 rw [show b - 1 + 1 - (a + 1) = b - 1 - a by omega] at hsc
 obtain ⟨q1, q2, q3, q4⟩ := hsc
 generalize scI l1 a (b - 1) (b - 1 - a) (a + 1) = i at *
 generalize scJ l1 a i (b - 1) = j at *
 have hij := q1.ij
 have hai := q1.ai
 have haj := q1.aj
 have hjb := q1.jb
 by_cases hc : j < i
 ·rw [if_pos hc]
  obtain rfl : i = j + 1 := by omega
  exact ⟨hs0.trans (.one _ haj hjb (Nat.le_refl _) (by omega)), q1.last hb1⟩
 ·rw [if_neg hc]
  obtain ⟨h1, h2⟩ := q4 (by omega)
  obtain ⟨h3, h4⟩ := q1.swap hb1 (by omega) h1 h2
  have hb2 : b ≤ (swp 0 l1 i j).length := by rw [swp_len]; exact hb1
  obtain ⟨r1, r2, r3, r4⟩ := parL_ok (a := a) (b := b) (b - a) (swp 0 l1 i j) (i + 1) (j - 1) (by omega) hb2 h3
  generalize parL a (b - a) (swp 0 l1 i j) (i + 1) (j - 1) = r at *
  have := r4.aj
  have := r4.jb
  refine ⟨(((hs0.trans (.one _ (by omega) (by omega) (by omega) (by omega))).trans (r1.wide (by omega) (Nat.le_refl _)))).trans (.one _ (by omega) (by omega) (Nat.le_refl _) (by omega)), r4.last (by rw [r1.len]; exact hb2)⟩
def revL : Nat → List Nat → Nat → Nat → List Nat
 | 0, l, _, _ => l
 | u + 1, l, i, j => if i < j then revL u (swp 0 l i j) (i + 1) (j - 1) else l
theorem revL_sw {a b : Nat} : ∀ (u : Nat) (l : List Nat) (i j : Nat), a ≤ i → j < b → Sw a b l (revL u l i j)
 | 0, l, _, _, _, _ => .refl l
 | u + 1, l, i, j, h1, h2 => by
  simp only [revL]
  split
  ·exact (Sw.one l (by omega) (by omega) (by omega) (by omega)).trans (revL_sw u _ _ _ (by omega) (by omega))
  ·exact .refl l
def piI (l : List Nat) (b : Nat) : Nat → Nat → Nat
 | 0, i => i
 | n + 1, i => if i < b ∧ ¬ l.getD i 0 < l.getD (i - 1) 0 then piI l b n (i + 1) else i
theorem piI_ok {l : List Nat} {a b : Nat} : ∀ (n i : Nat), a < i → b ≤ i + n → i ≤ b → Srt l a i → i ≤ piI l b n i ∧ piI l b n i ≤ b ∧ Srt l a (piI l b n i) ∧ (piI l b n i < b → l.getD (piI l b n i) 0 < l.getD (piI l b n i - 1) 0)
 | 0, i, _, h, h2, hs => by
  simp only [piI]
  exact ⟨Nat.le_refl _, h2, hs, fun h => by omega⟩
 | n + 1, i, ha, h, h2, hs => by
  simp only [piI]
  by_cases hc : i < b ∧ ¬ l.getD i 0 < l.getD (i - 1) 0
  ·rw [if_pos hc]
   obtain ⟨q1, q2, q3, q4⟩ := piI_ok (l := l) (a := a) (b := b) n (i + 1) (by omega) (by omega) (by omega) (fun p q h3 h4 h5 => by
    by_cases e : q = i
    ·subst e
     have h6 := hc.2
     by_cases e2 : p = q - 1
     ·rw [e2]; omega
     ·exact Nat.le_trans (hs p (q - 1) h3 (by omega) (by omega)) (by omega)
    ·exact hs p q h3 h4 (by omega))
   exact ⟨by omega, q2, q3, q4⟩
  ·rw [if_neg hc]
   exact ⟨Nat.le_refl _, h2, hs, fun h3 => by
    by_cases h4 : l.getD i 0 < l.getD (i - 1) 0
    ·exact h4
    ·exact absurd ⟨h3, h4⟩ hc⟩
def shR (b : Nat) : Nat → Nat → List Nat → List Nat
 | 0, _, l => l
 | n + 1, j, l => if j < b ∧ l.getD j 0 < l.getD (j - 1) 0 then shR b n (j + 1) (swp 0 l j (j - 1)) else l
theorem shR_sw {c b : Nat} : ∀ (n j : Nat) (l : List Nat), c < j → Sw c b l (shR b n j l)
 | 0, _, l, _ => .refl l
 | n + 1, j, l, h => by
  simp only [shR]
  split
  ·rename_i hc
   exact (Sw.one l (by omega) (by omega) (by omega) (by omega)).trans (shR_sw n (j + 1) _ (by omega))
  ·exact .refl l
def piT (l : List Nat) (a b i : Nat) : List Nat :=
 if 2 ≤ b - i then shR b (b - (i + 1)) (i + 1) (if 2 ≤ i - a then insJ 0 (i - 1) (swp 0 l i (i - 1)) else swp 0 l i (i - 1)) else if 2 ≤ i - a then insJ 0 (i - 1) (swp 0 l i (i - 1)) else swp 0 l i (i - 1)
def pis (a b : Nat) : Nat → List Nat → Nat → List Nat × Bool
 | 0, l, _ => (l, false)
 | n + 1, l, i => if piI l b (b - i) i = b then (l, true) else if b - a < 50 then (l, false) else pis a b n (piT l a b (piI l b (b - i) i)) (piI l b (b - i) i)
theorem insJ_floor {a : Nat} : ∀ (j : Nat) (l : List Nat), a ≤ j → j < l.length → (0 < a → ∀ k, a ≤ k → k ≤ j → l.getD (a - 1) 0 < l.getD k 0) → insJ 0 j l = insJ a j l
 | 0, l, _, _, _ => rfl
 | j + 1, l, ha, hl, hf => by
  simp only [insJ]
  by_cases e : a = j + 1
  ·subst e
   have := hf (by omega) (j + 1) (Nat.le_refl _) (Nat.le_refl _)
   rw [Nat.add_sub_cancel] at this
   rw [if_neg (by omega), if_neg (by omega)]
  ·by_cases hc : l.getD (j + 1) 0 < l.getD j 0
   ·rw [if_pos ⟨by omega, hc⟩, if_pos ⟨by omega, hc⟩]
    have hsw := fun k => swp_at (d := 0) (l := l) (i := j + 1) (j := j) (by omega) (by omega) k
    refine insJ_floor j _ (by omega) (by rw [swp_len]; omega) fun h0 k h1 h2 => ?_
    rw [hsw, hsw, if_neg (show ¬ a - 1 = j by omega), if_neg (show ¬ a - 1 = j + 1 by omega)]
    split
    ·exact hf h0 (j + 1) (by omega) (Nat.le_refl _)
    ·rw [if_neg (by omega)]; exact hf h0 k h1 (by omega)
   ·rw [if_neg (fun h => hc h.2), if_neg (fun h => hc h.2)]
theorem piT_ok {l : List Nat} {a b i : Nat} (hai : a < i) (hib : i < b) (hb : b ≤ l.length) (hf : Fl l a b) (hs : Srt l a i) (hlt : l.getD i 0 < l.getD (i - 1) 0) : Sw a b l (piT l a b i) ∧ Srt (piT l a b i) a i := by
 have hsw := fun k => swp_at (d := 0) (l := l) (i := i) (j := i - 1) (by omega) (by omega) k
 have hl1 : (swp 0 l i (i - 1)).length = l.length := swp_len _ _ _
 have h1 : Sw a b l (swp 0 l i (i - 1)) := .one l (by omega) hib (by omega) (by omega)
 have hf1 := hf.sw h1 hb
 have key : Sw a b l (if 2 ≤ i - a then insJ 0 (i - 1) (swp 0 l i (i - 1)) else swp 0 l i (i - 1)) ∧ Srt (if 2 ≤ i - a then insJ 0 (i - 1) (swp 0 l i (i - 1)) else swp 0 l i (i - 1)) a i := by
  split
  ·have e := insJ_floor (a := a) (i - 1) (swp 0 l i (i - 1)) (by omega) (by rw [hl1]; omega) (fun h0 k h2 h3 => hf1 h0 k h2 (by omega))
   rw [e]
   refine ⟨h1.trans (insJ_sw _ _ (by omega)), ?_⟩
   have := insJ_srt (a := a) (i - 1) (i - 1) (swp 0 l i (i - 1)) (by omega) (Nat.le_refl _) (by rw [hl1]; omega) (fun p q h2 h3 h4 h5 => by
    rw [hsw, hsw, if_neg (show ¬ p = i - 1 by omega), if_neg (show ¬ p = i by omega), if_neg h5, if_neg (show ¬ q = i by omega)]
    exact hs p q h2 h3 (by omega))
   rw [show i - 1 + 1 = i by omega] at this
   exact this
  ·exact ⟨h1, fun p q _ _ _ => by omega⟩
 unfold piT
 generalize (if 2 ≤ i - a then insJ 0 (i - 1) (swp 0 l i (i - 1)) else swp 0 l i (i - 1)) = m at *
 obtain ⟨k1, k2⟩ := key
 split
 ·have h2 := shR_sw (c := i) (b := b) (b - (i + 1)) (i + 1) m (by omega)
  refine ⟨k1.trans (h2.wide (by omega) (Nat.le_refl _)), fun p q h3 h4 h5 => ?_⟩
  rw [h2.out (by rw [k1.len]; exact hb) (.inl (by omega)), h2.out (by rw [k1.len]; exact hb) (.inl (by omega))]
  exact k2 p q h3 h4 h5
 ·exact ⟨k1, k2⟩
theorem pis_ok {a b : Nat} : ∀ (n : Nat) (l : List Nat) (i : Nat), a < i → i ≤ b → b ≤ l.length → Fl l a b → Srt l a i → Sw a b l (pis a b n l i).1 ∧ ((pis a b n l i).2 = true → Srt (pis a b n l i).1 a b)
 | 0, l, _, _, _, _, _, _ => ⟨.refl l, fun h => by simp [pis] at h⟩
 | n + 1, l, i, ha, hi, hb, hf, hs => by
  simp only [pis]
  obtain ⟨q1, q2, q3, q4⟩ := piI_ok (l := l) (a := a) (b := b) (b - i) i ha (by omega) hi hs
  generalize piI l b (b - i) i = i' at *
  by_cases e : i' = b
  ·rw [if_pos e]
   exact ⟨.refl l, fun _ => by rw [← e]; exact q3⟩
  rw [if_neg e]
  by_cases e2 : b - a < 50
  ·rw [if_pos e2]
   exact ⟨.refl l, fun h => by simp at h⟩
  rw [if_neg e2]
  obtain ⟨r1, r2⟩ := piT_ok (l := l) (a := a) (b := b) (i := i') (by omega) (by omega) hb hf q3 (q4 (by omega))
  obtain ⟨s1, s2⟩ := pis_ok n (piT l a b i') i' (by omega) (by omega) (by rw [r1.len]; exact hb) (hf.sw r1 hb) r2
  exact ⟨r1.trans s1, s2⟩
def o2 (l : List Nat) (a b s : Nat) : Nat × Nat × Nat := if l.getD b 0 < l.getD a 0 then (b, a, s + 1) else (a, b, s)
def med (l : List Nat) (a b c s : Nat) : Nat × Nat :=
 ((o2 l (o2 l a b s).1 (o2 l (o2 l a b s).2.1 c (o2 l a b s).2.2).1 (o2 l (o2 l a b s).2.1 c (o2 l a b s).2.2).2.2).2.1,
  (o2 l (o2 l a b s).1 (o2 l (o2 l a b s).2.1 c (o2 l a b s).2.2).1 (o2 l (o2 l a b s).2.1 c (o2 l a b s).2.2).2.2).2.2)
theorem o2_mem (l : List Nat) (a b s : Nat) {P : Nat → Prop} (ha : P a) (hb : P b) : P (o2 l a b s).1 ∧ P (o2 l a b s).2.1 := by
 unfold o2
 split
 ·exact ⟨hb, ha⟩
 ·exact ⟨ha, hb⟩
theorem o2_s (l : List Nat) (a b s : Nat) : (o2 l a b s).2.2 ≤ s + 1 := by
 unfold o2
 split <;> simp
theorem med_mem (l : List Nat) (a b c s : Nat) {P : Nat → Prop} (ha : P a) (hb : P b) (hc : P c) : P (med l a b c s).1 := by
 unfold med
 have h1 := o2_mem l a b s ha hb
 have h2 := o2_mem l (o2 l a b s).2.1 c (o2 l a b s).2.2 h1.2 hc
 exact (o2_mem l _ _ _ h1.1 h2.1).2
theorem med_s (l : List Nat) (a b c s : Nat) : (med l a b c s).2 ≤ s + 3 := by
 unfold med
 have h1 := o2_s l a b s
 have h2 := o2_s l (o2 l a b s).2.1 c (o2 l a b s).2.2
 exact Nat.le_trans (o2_s l _ _ _) (by omega)
def hintN (s : Nat) : Nat := if s = 0 then 1 else if s = 12 then 2 else 0
def chP (l : List Nat) (a b : Nat) : Nat × Nat :=
 if 8 ≤ b - a then
  if 50 ≤ b - a then
   med l (med l (a + (b - a) / 4 - 1) (a + (b - a) / 4) (a + (b - a) / 4 + 1) 0).1
    (med l (a + (b - a) / 4 * 2 - 1) (a + (b - a) / 4 * 2) (a + (b - a) / 4 * 2 + 1) (med l (a + (b - a) / 4 - 1) (a + (b - a) / 4) (a + (b - a) / 4 + 1) 0).2).1
    (med l (a + (b - a) / 4 * 3 - 1) (a + (b - a) / 4 * 3) (a + (b - a) / 4 * 3 + 1) (med l (a + (b - a) / 4 * 2 - 1) (a + (b - a) / 4 * 2) (a + (b - a) / 4 * 2 + 1) (med l (a + (b - a) / 4 - 1) (a + (b - a) / 4) (a + (b - a) / 4 + 1) 0).2).2).1
    (med l (a + (b - a) / 4 * 3 - 1) (a + (b - a) / 4 * 3) (a + (b - a) / 4 * 3 + 1) (med l (a + (b - a) / 4 * 2 - 1) (a + (b - a) / 4 * 2) (a + (b - a) / 4 * 2 + 1) (med l (a + (b - a) / 4 - 1) (a + (b - a) / 4) (a + (b - a) / 4 + 1) 0).2).2).2
  else med l (a + (b - a) / 4) (a + (b - a) / 4 * 2) (a + (b - a) / 4 * 3) 0
 else (a + (b - a) / 4 * 2, 0)
theorem chP_in {l : List Nat} {a b : Nat} (h : a < b) : a ≤ (chP l a b).1 ∧ (chP l a b).1 < b := by
 unfold chP
 split
 ·split
  ·exact med_mem (P := fun x => a ≤ x ∧ x < b) _ _ _ _ _ (med_mem (P := fun x => a ≤ x ∧ x < b) _ _ _ _ _ ⟨by omega, by omega⟩ ⟨by omega, by omega⟩ ⟨by omega, by omega⟩) (med_mem (P := fun x => a ≤ x ∧ x < b) _ _ _ _ _ ⟨by omega, by omega⟩ ⟨by omega, by omega⟩ ⟨by omega, by omega⟩) (med_mem (P := fun x => a ≤ x ∧ x < b) _ _ _ _ _ ⟨by omega, by omega⟩ ⟨by omega, by omega⟩ ⟨by omega, by omega⟩)
  ·exact med_mem (P := fun x => a ≤ x ∧ x < b) _ _ _ _ _ ⟨by omega, by omega⟩ ⟨by omega, by omega⟩ ⟨by omega, by omega⟩
 ·exact ⟨by omega, by omega⟩
def rndI (rnd : Nat → Nat → Nat) (a b k : Nat) : Nat := a + rnd (b - a) k
def brk (rnd : Nat → Nat → Nat) (l : List Nat) (a b : Nat) : List Nat :=
 if 8 ≤ b - a then swp 0 (swp 0 (swp 0 l (a + (b - a) / 4 * 2 - 1) (rndI rnd a b 0)) (a + (b - a) / 4 * 2) (rndI rnd a b 1)) (a + (b - a) / 4 * 2 + 1) (rndI rnd a b 2) else l
theorem brk_sw {rnd : Nat → Nat → Nat} (hr : ∀ n k, 0 < n → rnd n k < n) (l : List Nat) (a b : Nat) : Sw a b l (brk rnd l a b) := by
 unfold brk rndI
 split
 ·have h0 := hr (b - a) 0 (by omega)
  have h1 := hr (b - a) 1 (by omega)
  have h2 := hr (b - a) 2 (by omega)
  exact ((Sw.one l (by omega) (by omega) (by omega) (by omega)).trans (.one _ (by omega) (by omega) (by omega) (by omega))).trans (.one _ (by omega) (by omega) (by omega) (by omega))
 ·exact .refl l
def pdA (rnd : Nat → Nat → Nat) (l : List Nat) (a b : Nat) (wb : Bool) : List Nat := if wb = true then l else brk rnd l a b
def pdB (l : List Nat) (a b : Nat) : List Nat := if (chP l a b).2 = 12 then revL (b - a) l a (b - 1) else l
def pdV (l : List Nat) (a b : Nat) : Nat := if (chP l a b).2 = 12 then b - 1 - ((chP l a b).1 - a) else (chP l a b).1
def pdH (l : List Nat) (a b : Nat) (wb wp : Bool) : Bool := wb && wp && decide ((chP l a b).2 = 0 ∨ (chP l a b).2 = 12)
def pdC (l : List Nat) (a b : Nat) : List Nat × Bool := pis a b 5 l (a + 1)
def pdq (rnd : Nat → Nat → Nat) : Nat → List Nat → Nat → Nat → Nat → Bool → Bool → List Nat
 | 0, l, a, b, _, _, _ => insS l a b
 | u + 1, l, a, b, lim, wb, wp =>
  if b - a ≤ 12 then insS l a b
  else if lim = 0 then heapS l a b
  else
   let l1 := pdA rnd l a b wb
   let lim1 := if wb = true then lim else lim - 1
   let l2 := pdB l1 a b
   let v := pdV l1 a b
   let h := pdH l1 a b wb wp
   let c := pdC l2 a b
   if h = true ∧ c.2 = true then c.1
   else
    let l3 := if h = true then c.1 else l2
    let r := part l3 a b v
    if r.2.1 - a < b - r.2.1 then pdq rnd u (pdq rnd u r.1 a r.2.1 lim1 true true) (r.2.1 + 1) b lim1 (decide ((b - a) / 8 ≤ r.2.1 - a)) r.2.2
    else pdq rnd u (pdq rnd u r.1 (r.2.1 + 1) b lim1 true true) a r.2.1 lim1 (decide ((b - a) / 8 ≤ b - r.2.1)) r.2.2
theorem pdB_sw {l : List Nat} {a b : Nat} : Sw a b l (pdB l a b) := by
 unfold pdB
 split
 ·rcases Nat.lt_or_ge 0 b with h | h
  ·exact revL_sw _ _ _ _ (Nat.le_refl _) (by omega)
  ·rw [show b - a = 0 by omega]; exact .refl l
 ·exact .refl l
theorem pdV_in {l : List Nat} {a b : Nat} (h : a < b) : a ≤ pdV l a b ∧ pdV l a b < b := by
 unfold pdV
 have := chP_in (l := l) h
 split <;> omega
theorem pdA_sw {rnd : Nat → Nat → Nat} (hr : ∀ n k, 0 < n → rnd n k < n) (l : List Nat) (a b : Nat) (wb : Bool) : Sw a b l (pdA rnd l a b wb) := by
 unfold pdA
 split
 ·exact .refl l
 ·exact brk_sw hr l a b
theorem nodup_sw {l m : List Nat} {a b : Nat} (h : Sw a b l m) (hb : b ≤ l.length) (hn : l.Nodup) : m.Nodup := (h.perm hb).nodup_iff.2 hn
theorem Parted.join {l m : List Nat} {a b c : Nat} (h : Parted a b l c) (hb : b ≤ l.length) (h1 : ∃ k, Sw a c l k ∧ Sw (c + 1) b k m ∨ Sw (c + 1) b l k ∧ Sw a c k m) (hs1 : Srt m a c) (hs2 : Srt m (c + 1) b) : Srt m a b := by
 have hc := h.am
 have hcb := h.mb
 have hmid : m.getD c 0 = l.getD c 0 := by
  rcases h1 with ⟨k, ⟨h1, h2⟩ | ⟨h1, h2⟩⟩
  ·rw [h2.out (by rw [h1.len]; exact hb) (.inl (by omega)), h1.out (by omega) (.inr (by omega))]
  ·rw [h2.out (by rw [h1.len]; omega) (.inr (by omega)), h1.out hb (.inl (by omega))]
 have hlo : ∀ k, a ≤ k → k < c → m.getD k 0 < m.getD c 0 := by
  rw [hmid]
  rcases h1 with ⟨k, ⟨h1, h2⟩ | ⟨h1, h2⟩⟩
  ·intro j h3 h4
   rw [h2.out (by rw [h1.len]; exact hb) (.inl (by omega))]
   exact h1.all (by omega) (P := fun x => x < l.getD c 0) h.lo j h3 h4
  ·refine h2.all (by rw [h1.len]; omega) (P := fun x => x < l.getD c 0) fun j h3 h4 => ?_
   rw [h1.out hb (.inl (by omega))]
   exact h.lo j h3 h4
 have hhi : ∀ k, c < k → k < b → m.getD c 0 ≤ m.getD k 0 := by
  rw [hmid]
  rcases h1 with ⟨k, ⟨h1, h2⟩ | ⟨h1, h2⟩⟩
  ·intro j h3 h4
   refine h2.all (by rw [h1.len]; exact hb) (P := fun x => l.getD c 0 ≤ x) (fun j h3 h4 => ?_) j (by omega) h4
   rw [h1.out (by omega) (.inr (by omega))]
   exact h.hi j (by omega) h4
  ·intro j h3 h4
   rw [h2.out (by rw [h1.len]; omega) (.inr (by omega))]
   exact h1.all hb (P := fun x => l.getD c 0 ≤ x) (fun j h3 h4 => h.hi j (by omega) h4) j (by omega) h4
 intro p q h3 h4 h5
 rcases Nat.lt_trichotomy q c with h6 | h6 | h6
 ·exact hs1 p q h3 h4 h6
 ·subst h6; exact Nat.le_of_lt (hlo p h3 h4)
 ·rcases Nat.lt_trichotomy p c with h7 | h7 | h7
  ·exact Nat.le_trans (Nat.le_of_lt (hlo p h3 h7)) (hhi q h6 h5)
  ·subst h7; exact hhi q h6 h5
  ·exact hs2 p q (by omega) h4 h5
theorem Fl.left {l : List Nat} {a b c : Nat} (h : Fl l a b) (hc : c ≤ b) : Fl l a c := fun h0 k h1 h2 => h h0 k h1 (by omega)
theorem Parted.floor {l : List Nat} {a b c : Nat} (h : Parted a b l c) (hb : b ≤ l.length) (hn : l.Nodup) : Fl l (c + 1) b := fun _ k h1 h2 => by
 have := h.hi k (by omega) h2
 have := nodup_ne hn (i := c) (j := k) (by have := h.mb; omega) (by omega) (by omega)
 rw [Nat.add_sub_cancel]
 omega
theorem Fl.far {l m : List Nat} {a b c d : Nat} (h : Fl l a b) (hs : Sw c d l m) (hd : d ≤ l.length) (hx : b ≤ c ∨ d < a) : Fl m a b := fun h0 k h1 h2 => by
 rw [hs.out hd (k := a - 1) (by omega), hs.out hd (k := k) (by omega)]
 exact h h0 k h1 h2
theorem srt_far {l m : List Nat} {a b c d : Nat} (h : Srt l a b) (hs : Sw c d l m) (hd : d ≤ l.length) (hx : b ≤ c ∨ d ≤ a) : Srt m a b := fun p q h1 h2 h3 => by
 rw [hs.out hd (k := p) (by omega), hs.out hd (k := q) (by omega)]
 exact h p q h1 h2 h3
theorem pdq_ok {rnd : Nat → Nat → Nat} (hr : ∀ n k, 0 < n → rnd n k < n) : ∀ (u : Nat) (l : List Nat) (a b lim : Nat) (wb wp : Bool), a ≤ b → b ≤ l.length → l.Nodup → Fl l a b → Sw a b l (pdq rnd u l a b lim wb wp) ∧ Srt (pdq rnd u l a b lim wb wp) a b
 | 0, l, a, b, lim, wb, wp, hab, hb, hn, hf => by
  simp only [pdq]
  refine ⟨?_, insS_srt l hab hb⟩
  rcases Nat.lt_or_ge a b with h | h
  ·exact insS_sw l h
  ·rw [insS_eq l h]; exact .refl l
 | u + 1, l, a, b, lim, wb, wp, hab, hb, hn, hf => by
  simp only [pdq]
  split
  ·refine ⟨?_, insS_srt l hab hb⟩
   rcases Nat.lt_or_ge a b with h | h
   ·exact insS_sw l h
   ·rw [insS_eq l h]; exact .refl l
  rename_i hlen
  split
  ·exact ⟨heapS_sw l hab, heapS_srt l hab hb⟩
  have a1 := pdA_sw hr l a b wb
  generalize pdA rnd l a b wb = l1 at *
  have hv := pdV_in (l := l1) (a := a) (b := b) (by omega)
  have a2 := a1.trans (pdB_sw (l := l1) (a := a) (b := b))
  generalize pdB l1 a b = l2 at *
  generalize pdV l1 a b = v at *
  generalize pdH l1 a b wb wp = h at *
  have hf2 := hf.sw a2 hb
  have hb2 : b ≤ l2.length := by rw [a2.len]; exact hb
  obtain ⟨c1, c2⟩ := pis_ok (a := a) (b := b) 5 l2 (a + 1) (by omega) (by omega) hb2 hf2 (fun p q h1 h2 h3 => by omega)
  change Sw a b l2 (pdC l2 a b).1 at c1
  change (pdC l2 a b).2 = true → Srt (pdC l2 a b).1 a b at c2
  generalize pdC l2 a b = c at *
  split
  ·rename_i hc
   exact ⟨a2.trans c1, c2 hc.2⟩
  have a3 : Sw a b l (if h = true then c.1 else l2) := by
   split
   ·exact a2.trans c1
   ·exact a2
  generalize (if h = true then c.1 else l2) = l3 at *
  obtain ⟨d1, d2⟩ := part_ok (l := l3) hv.1 hv.2 (by rw [a3.len]; exact hb)
  have a4 := a3.trans d1
  generalize part l3 a b v = r at *
  have hf4 := hf.sw a4 hb
  have hn4 := nodup_sw a4 hb hn
  have hb4 : b ≤ r.1.length := by rw [a4.len]; exact hb
  have hfl := d2.floor hb4 hn4
  have hma := d2.am
  have hmb := d2.mb
  generalize (if wb = true then lim else lim - 1) = lim1 at *
  split
  ·obtain ⟨e1, e2⟩ := pdq_ok hr u r.1 a r.2.1 lim1 true true hma (by omega) hn4 (hf4.left (by omega))
   generalize pdq rnd u r.1 a r.2.1 lim1 true true = l5 at *
   have hb5 : b ≤ l5.length := by rw [e1.len]; exact hb4
   have hfl5 : Fl l5 (r.2.1 + 1) b := fun _ k h1 h2 => by
    rw [Nat.add_sub_cancel, e1.out (by omega) (k := r.2.1) (.inr (by omega)), e1.out (by omega) (k := k) (.inr (by omega))]
    exact hfl (by omega) k h1 h2
   obtain ⟨f1, f2⟩ := pdq_ok hr u l5 (r.2.1 + 1) b lim1 (decide ((b - a) / 8 ≤ r.2.1 - a)) r.2.2 (by omega) hb5 (nodup_sw e1 (by omega) hn4) hfl5
   generalize pdq rnd u l5 (r.2.1 + 1) b lim1 (decide ((b - a) / 8 ≤ r.2.1 - a)) r.2.2 = l6 at *
   refine ⟨a4.trans ((e1.wide (Nat.le_refl _) (by omega)).trans (f1.wide (by omega) (Nat.le_refl _))), d2.join hb4 ⟨l5, .inl ⟨e1, f1⟩⟩ (srt_far e2 f1 hb5 (.inl (by omega))) f2⟩
  ·obtain ⟨e1, e2⟩ := pdq_ok hr u r.1 (r.2.1 + 1) b lim1 true true (by omega) hb4 hn4 hfl
   generalize pdq rnd u r.1 (r.2.1 + 1) b lim1 true true = l5 at *
   have hb5 : b ≤ l5.length := by rw [e1.len]; exact hb4
   have hfl5 : Fl l5 a r.2.1 := (hf4.left (c := r.2.1) (by omega)).far e1 hb4 (.inl (by omega))
   obtain ⟨f1, f2⟩ := pdq_ok hr u l5 a r.2.1 lim1 (decide ((b - a) / 8 ≤ b - r.2.1)) r.2.2 hma (by omega) (nodup_sw e1 hb4 hn4) hfl5
   generalize pdq rnd u l5 a r.2.1 lim1 (decide ((b - a) / 8 ≤ b - r.2.1)) r.2.2 = l6 at *
   refine ⟨a4.trans ((e1.wide (by omega) (Nat.le_refl _)).trans (f1.wide (Nat.le_refl _) (by omega))), d2.join hb4 ⟨l5, .inr ⟨e1, f1⟩⟩ f2 (srt_far e2 f1 (by omega) (.inr (by omega)))⟩
abbrev uV (x : Nat) : AV := .v (.int .u32 x)
def uv (x : Nat) : List AV := [uV x]
abbrev NS (l : List Nat) : Store := [(0, .row 46 1 (l.map uv))]
theorem uv_at {l : List Nat} {i : Nat} (h : i < l.length) : (l.map uv)[i]? = some (uv (l.getD i 0)) := by
 rw [List.getElem?_map, List.getElem?_eq_getElem h, List.getD_eq_getElem?_getD, List.getElem?_eq_getElem h]; rfl
theorem swp_uv {l : List Nat} (i j : Nat) : ((l.map uv).set i (uv (l.getD j 0))).set j (uv (l.getD i 0)) = (swp 0 l i j).map uv := by
 unfold swp; rw [List.map_set, List.map_set]
theorem uv_set {l : List Nat} {i j x : Nat} (hj : j < l.length) : ∃ y, ((l.map uv).set i (uv x))[j]? = some (uv y) := by
 by_cases e : i = j
 ·subst e
  exact ⟨x, by rw [List.getElem?_set, if_pos rfl, if_pos (by simpa using hj)]⟩
 ·exact ⟨_, by rw [List.getElem?_set, if_neg e]; exact uv_at hj⟩
theorem pureU (x : Nat) : ∀ σ μ w A y, rep σ μ w A (uV x) y → rep [] μ w A (uV x) y := fun σ μ w A y h => rep_pureB (μ' := μ) h rfl
theorem p_isNaN (x : Nat) : PC Tryd.prog 41 [uV x] (.v (.bool false)) := by
 refine PC.mk (ac_body tab_ok Tryd.func41 rfl (by kernel_rfl) rfl ?_); intro w0 M μ0; simp only [Tryd.ntmps41, List.length_cons, List.length_nil, Nat.reduceAdd, Nat.reduceSub, numb]
 repeat' (first | ((first | apply o_do | apply d_do | apply d_yes rfl rfl rfl); exact lsq) | refine a_seq ?_ | refine a_region ?_ | refine o_nil ?_ | refine a_block ?_ | refine a_ret ?_ | refine a_exit ?_ | refine a_skip ?_ | refine a_draw mixed ?_ | refine d_nil (by kernel_rfl) ?_ | refine o_yes rfl rfl rfl ?_ | refine o_no rfl rfl rfl (by decide) ?_ | refine o_no' rfl rfl rfl ?_ | refine a_condT rfl ?_ | refine a_condF rfl ?_ | refine d_no rfl rfl rfl (by decide) ?_ | refine d_no' rfl rfl rfl ?_ | (refine wq2 (fun hb => ?_) (fun hb => ?_) <;> (simp only [hb]; try simp only [hbs, ne_eq] at hb; try (exfalso; first | omega | exact hb trivial))) | fail)
 all_goals refine rq rfl ?_
 all_goals (first | refine FinA.tup ?_ | refine FinA.one ?_); repeat' (first | exact FinBs.nil | exact FinCs.nil | refine FinBs.cons ?_ ?_ | refine FinCs.cons ?_ ?_ | refine FinB.cell (FinC.v ?_) | refine FinB.cell (FinC.own rfl rfl rfl ?_) | exact FinB.cell FinC.nil | refine FinB.cell (FinC.sl ?_) | exact FinB.agg' rfl rfl | exact FinB.cell (FinC.same rfl) | refine FinB.agg ?_ | refine FinC.v ?_ | refine FinC.own rfl rfl rfl ?_ | exact FinC.nil | refine FinC.sl ?_ | exact FinC.same rfl); all_goals try rfl
 all_goals simp
theorem p_sNaN (x : Nat) : PC Tryd.prog 29 [uV x] (.v (.bool false)) := by
 refine PC.mk (ac_body tab_ok Tryd.func29 rfl (by kernel_rfl) rfl ?_); intro w0 M μ0; simp only [Tryd.ntmps29, List.length_cons, List.length_nil, Nat.reduceAdd, Nat.reduceSub, numb]
 repeat' (first | ((first | apply o_do | apply d_do | apply d_yes rfl rfl rfl); exact lsq) | refine a_seq ?_ | refine a_region ?_ | refine o_nil ?_ | refine a_block ?_ | refine a_ret ?_ | refine a_exit ?_ | refine a_skip ?_ | refine a_draw mixed ?_ | refine d_nil (by kernel_rfl) ?_ | refine o_yes rfl rfl rfl ?_ | refine o_no rfl rfl rfl (by decide) ?_ | refine o_no' rfl rfl rfl ?_ | refine a_condT rfl ?_ | refine a_condF rfl ?_ | refine d_no rfl rfl rfl (by decide) ?_ | refine d_no' rfl rfl rfl ?_ | (refine wq2 (fun hb => ?_) (fun hb => ?_) <;> (simp only [hb]; try simp only [hbs, ne_eq] at hb; try (exfalso; first | omega | exact hb trivial))) | fail)
 all_goals refine rq rfl ?_
 all_goals (first | refine FinA.tup ?_ | refine FinA.one ?_); repeat' (first | exact FinBs.nil | exact FinCs.nil | refine FinBs.cons ?_ ?_ | refine FinCs.cons ?_ ?_ | refine FinB.cell (FinC.v ?_) | refine FinB.cell (FinC.own rfl rfl rfl ?_) | exact FinB.cell FinC.nil | refine FinB.cell (FinC.sl ?_) | exact FinB.agg' rfl rfl | exact FinB.cell (FinC.same rfl) | refine FinB.agg ?_ | refine FinC.v ?_ | refine FinC.own rfl rfl rfl ?_ | exact FinC.nil | refine FinC.sl ?_ | exact FinC.same rfl); all_goals try rfl
 all_goals simp
theorem p_Less (x y : Nat) : PC Tryd.prog 28 [uV x, uV y] (.v (.bool (decide (x < y)))) := by
 have h1 := p_isNaN x
 have h2 := p_isNaN y
 rw [show decide (x < y) = decide ((x : Int) < (y : Int)) from decide_eq_decide.2 (by omega)]
 refine PC.mk (ac_body tab_ok Tryd.func28 rfl (by kernel_rfl) rfl ?_); intro w0 M μ0; simp only [Tryd.ntmps28, List.length_cons, List.length_nil, Nat.reduceAdd, Nat.reduceSub, numb]
 repeat' (first | ((first | apply o_do | apply d_do | apply d_yes rfl rfl rfl); first | exact lsc (h1) | exact lsc (h2) | exact lsq) | refine a_seq ?_ | refine a_region ?_ | refine o_nil ?_ | refine a_block ?_ | refine a_ret ?_ | refine a_exit ?_ | refine a_skip ?_ | refine a_draw mixed ?_ | refine d_nil (by kernel_rfl) ?_ | refine o_yes rfl rfl rfl ?_ | refine o_no rfl rfl rfl (by decide) ?_ | refine o_no' rfl rfl rfl ?_ | refine a_condT rfl ?_ | refine a_condF rfl ?_ | refine d_no rfl rfl rfl (by decide) ?_ | refine d_no' rfl rfl rfl ?_ | (refine wq2 (fun hb => ?_) (fun hb => ?_) <;> (simp only [hb]; try simp only [hbs, ne_eq] at hb; try (exfalso; first | omega | exact hb trivial))) | fail)
 all_goals refine rq rfl ?_
 all_goals exact fnq
set_option maxRecDepth 10000 in
theorem a_ins (l : List Nat) (a b : Nat) (hb : b ≤ l.length) (hm : l.length ≤ 1000) (ha : a ≤ 1000) : AC Tryd.prog 31 [.own 0 l.length, .v (.int .i64 a), .v (.int .i64 b)] (NS l) (.tup []) (NS (insS l a b)) := by
 unfold insS NS
 obtain ⟨R, hR⟩ : ∃ R, R = insN a (b - (a + 1)) (a + 1) l := ⟨_, rfl⟩
 rw [← hR]
 have hll : l.length = (l.map uv).length := by simp
 have hw : R.length = l.length := by
  rw [hR]
  rcases Nat.lt_or_ge a b with h | h
  ·exact (insS_sw l h).len
  ·exact congrArg List.length (insS_eq l h)
 have w1 : ((a + 1 : Nat) : Int) = (a : Int) + 1 := by omega
 refine (ac_body tab_ok Tryd.func31 rfl (by kernel_rfl) rfl ?_); intro w0 M μ0; simp only [Tryd.ntmps31, List.length_cons, List.length_nil, Nat.reduceAdd, Nat.reduceSub, numb]
 repeat' (first | ((first | apply o_do | apply d_do | apply d_yes rfl rfl rfl); exact lsq) | refine a_seq ?_ | refine a_region ?_ | refine o_nil ?_ | refine a_block ?_ | refine a_ret ?_ | refine a_exit ?_ | refine a_skip ?_ | refine a_draw mixed ?_ | refine d_nil (by kernel_rfl) ?_ | refine o_yes rfl rfl rfl ?_ | refine o_no rfl rfl rfl (by decide) ?_ | refine o_no' rfl rfl rfl ?_ | refine a_condT rfl ?_ | refine a_condF rfl ?_ | refine d_no rfl rfl rfl (by decide) ?_ | refine d_no' rfl rfl rfl ?_ | (refine wq2 (fun hb => ?_) (fun hb => ?_) <;> (simp only [hb]; try simp only [hbs, ne_eq] at hb; try (exfalso; first | omega | exact hb trivial))) | fail)
 refine a_loop (X := {p : Nat × Nat × List Nat // R = insN a p.1 p.2.1 p.2.2 ∧ p.2.2.length = l.length ∧ p.1 = b - p.2.1 ∧ a < p.2.1 ∧ (p.2.1 ≤ b ∨ p.2.1 = a + 1)})
  (fun p => ⟨[(0, .own 0 l.length), (1, .v (.int .i64 a)), (2, .v (.int .i64 b)), (6, .v (.int .i64 p.1.2.1))], [(0, .row 46 1 (p.1.2.2.map uv))]⟩) (fun p => p.1.1) ⟨(b - (a + 1), a + 1, l), hR, rfl, rfl, by dsimp only; omega, .inr rfl⟩ ?_ ?_
 ·refine ⟨by repeat' (first | exact trivial | exact FinA.one (FinB.cell (FinC.same rfl)) | exact FinA.one (FinB.cell FinC.nil) | exact FinA.bound rfl | exact FinA.one (FinB.cell (FinC.own rfl rfl rfl rfl)) | exact FinA.one (FinB.cell (FinC.v (by first | rfl | (((try dsimp only); first | omega | (rw [h8]; done) | (congr 1 <;> omega)))))) | exact FinA.one (FinB.cell (FinC.ow rfl (by first | rfl | (((try dsimp only); first | omega | (rw [h8]; done) | (congr 1 <;> omega)))))) | exact FinA.one (FinB.agg' rfl rfl) | refine ⟨⟨_, rfl, ?_⟩, ?_⟩), by repeat' (first | exact trivial | refine ⟨⟨_, rfl, by first | rfl | (((try dsimp only); first | omega | (rw [h8]; done) | (congr 1 <;> omega)); done) | (simp [renO, *]; done)⟩, by first | rfl | assumption, ?_⟩), rfl⟩
 rintro ⟨⟨n, i, c⟩, hc, hcl, hn, hai, hib⟩
 dsimp only at hc hcl hn hai hib ⊢
 have hcm : l.length = (c.map uv).length := by simp [hcl]
 by_cases hlt : i < b
 ·obtain ⟨n', rfl⟩ : ∃ n', n = n' + 1 := ⟨n - 1, by omega⟩
  simp only [insN] at hc
  have hlt' : (i : Int) < b := by omega
  repeat' (first | ((first | apply o_do | apply d_do | apply d_yes rfl rfl rfl); exact lsq) | refine a_seq ?_ | refine a_region ?_ | refine o_nil ?_ | refine a_block ?_ | refine a_ret ?_ | refine a_exit ?_ | refine a_skip ?_ | refine a_draw mixed ?_ | refine d_nil (by kernel_rfl) ?_ | refine o_yes rfl rfl rfl ?_ | refine o_no rfl rfl rfl (by decide) ?_ | refine o_no' rfl rfl rfl ?_ | refine a_condT rfl ?_ | refine a_condF rfl ?_ | refine d_no rfl rfl rfl (by decide) ?_ | refine d_no' rfl rfl rfl ?_ | (refine wq2 (fun hb => ?_) (fun hb => ?_) <;> (simp only [hb]; try simp only [hbs, ne_eq] at hb; try (exfalso; first | omega | exact hb trivial))) | fail)
  refine a_loop (X := {p : Nat × List Nat // R = insN a n' (i + 1) (insJ a p.1 p.2) ∧ p.2.length = l.length ∧ p.1 ≤ i ∧ a ≤ p.1})
   (fun p => ⟨[(0, .own 0 l.length), (1, .v (.int .i64 a)), (2, .v (.int .i64 b)), (6, .v (.int .i64 i)), (7, .v (.int .i64 p.1.1))], [(0, .row 46 1 (p.1.2.map uv))]⟩) (fun p => p.1.1) ⟨(i, c), hc, hcl, Nat.le_refl _, by dsimp only; omega⟩ ?_ ?_
  ·refine ⟨by repeat' (first | exact trivial | exact FinA.one (FinB.cell (FinC.same rfl)) | exact FinA.one (FinB.cell FinC.nil) | exact FinA.bound rfl | exact FinA.one (FinB.cell (FinC.own rfl rfl rfl rfl)) | exact FinA.one (FinB.cell (FinC.v (by first | rfl | (((try dsimp only); first | omega | (rw [h8]; done) | (congr 1 <;> omega)))))) | exact FinA.one (FinB.cell (FinC.ow rfl (by first | rfl | (((try dsimp only); first | omega | (rw [h8]; done) | (congr 1 <;> omega)))))) | exact FinA.one (FinB.agg' rfl rfl) | refine ⟨⟨_, rfl, ?_⟩, ?_⟩), by repeat' (first | exact trivial | refine ⟨⟨_, rfl, by first | rfl | (((try dsimp only); first | omega | (rw [h8]; done) | (congr 1 <;> omega)); done) | (simp [renO, *]; done)⟩, by first | rfl | assumption, ?_⟩), rfl⟩
  rintro ⟨⟨j, d⟩, hd, hdl, hji, haj⟩
  dsimp only at hd hdl hji haj ⊢
  have hdm : l.length = (d.map uv).length := by simp [hdl]
  by_cases hgt : a < j
  ·obtain ⟨j', rfl⟩ : ∃ j', j = j' + 1 := ⟨j - 1, by omega⟩
   have h1 := uv_at (l := d) (i := j' + 1) (by omega)
   have h2 := uv_at (l := d) (i := j') (by omega)
   have hgt' : (a : Int) < ((j' + 1 : Nat) : Int) := by omega
   have hL := p_Less (d.getD (j' + 1) 0) (d.getD j' 0)
   have q1 : j' + 1 < (d.map uv).length := by simp; omega
   have q2 : j' < (d.map uv).length := by simp; omega
   have k1 : ((j' + 1 : Nat) : Int) = ((j' + 1 : Nat) : Int) := rfl
   have k2 : ((j' + 1 : Nat) : Int) - 1 = ((j' : Nat) : Int) := by omega
   simp only [insJ] at hd
   have h8 := swp_uv (l := d) (j' + 1) j'
   have s1 : ∃ y, ((d.map uv).set (j' + 1) (uv (d.getD j' 0)))[j']? = some (uv y) := uv_set (by omega)
   obtain ⟨y, h6⟩ := s1
   have h5 : l.length = ((d.map uv).set (j' + 1) (uv (d.getD j' 0))).length := by simp [hdl]
   have q3 : j' < ((d.map uv).set (j' + 1) (uv (d.getD j' 0))).length := by simp; omega
   have hsl : (swp 0 d (j' + 1) j').length = l.length := by rw [swp_len, hdl]
   generalize hx : d.getD (j' + 1) 0 = x at *
   generalize hz : d.getD j' 0 = z at *
   have pz := pureU z
   have px := pureU x
   by_cases hxz : x < z
   ·rw [if_pos ⟨hgt, hxz⟩] at hd
    generalize swp 0 d (j' + 1) j' = D at *
    rw [decide_eq_true hxz] at hL
    repeat' (first | ((first | apply o_do | apply d_do | apply d_yes rfl rfl rfl); first | exact ls_indexAddr_own tab_ok rfl rfl hdm rfl rfl k1 q1 rfl | exact ls_indexAddr_own tab_ok rfl rfl hdm rfl rfl k2 q2 rfl | exact ls_load_eref tab_ok rfl rfl hdm h1 rfl rfl rfl rfl | exact ls_load_eref tab_ok rfl rfl hdm h2 rfl rfl rfl rfl | exact lsc (hL) | exact ls_store_eref (cs' := uv z) tab_ok rfl rfl rfl hdm h1 rfl rfl pz rfl rfl rfl rfl | exact ls_indexAddr_own tab_ok rfl rfl h5 rfl rfl k2 q3 rfl | exact ls_store_eref (cs' := uv x) tab_ok rfl rfl rfl h5 h6 rfl rfl px rfl rfl rfl rfl | exact lsq) | refine a_seq ?_ | refine a_region ?_ | refine o_nil ?_ | refine a_block ?_ | refine a_ret ?_ | refine a_exit ?_ | refine a_skip ?_ | refine a_draw mixed ?_ | refine d_nil (by kernel_rfl) ?_ | refine o_yes rfl rfl rfl ?_ | refine o_no rfl rfl rfl (by decide) ?_ | refine o_no' rfl rfl rfl ?_ | refine a_condT rfl ?_ | refine a_condF rfl ?_ | refine d_no rfl rfl rfl (by decide) ?_ | refine d_no' rfl rfl rfl ?_ | (refine wq2 (fun hb => ?_) (fun hb => ?_) <;> (simp only [hb]; try simp only [hbs, ne_eq] at hb; try (exfalso; first | omega | exact hb trivial))) | fail)
    refine ⟨⟨(j', D), hd, hsl, by dsimp only; omega, by dsimp only; omega⟩, by dsimp only; omega, ?_⟩
    refine ⟨by repeat' (first | exact trivial | exact FinA.one (FinB.cell (FinC.same rfl)) | exact FinA.one (FinB.cell FinC.nil) | exact FinA.bound rfl | exact FinA.one (FinB.cell (FinC.own rfl rfl rfl rfl)) | exact FinA.one (FinB.cell (FinC.v (by first | rfl | ((dsimp only; first | (rw [h8]; done) | (congr 1 <;> omega)))))) | exact FinA.one (FinB.cell (FinC.ow rfl (by first | rfl | ((dsimp only; first | (rw [h8]; done) | (congr 1 <;> omega)))))) | exact FinA.one (FinB.agg' rfl rfl) | refine ⟨⟨_, rfl, ?_⟩, ?_⟩), by repeat' (first | exact trivial | refine ⟨⟨_, rfl, by first | rfl | ((dsimp only; first | (rw [h8]; done) | (congr 1 <;> omega)); done) | (simp [renO, *]; done)⟩, by first | rfl | assumption, ?_⟩), rfl⟩
   ·rw [if_neg (fun h => hxz h.2)] at hd
    rw [decide_eq_false hxz] at hL
    repeat' (first | ((first | apply o_do | apply d_do | apply d_yes rfl rfl rfl); first | exact ls_indexAddr_own tab_ok rfl rfl hdm rfl rfl k1 q1 rfl | exact ls_indexAddr_own tab_ok rfl rfl hdm rfl rfl k2 q2 rfl | exact ls_load_eref tab_ok rfl rfl hdm h1 rfl rfl rfl rfl | exact ls_load_eref tab_ok rfl rfl hdm h2 rfl rfl rfl rfl | exact lsc (hL) | exact lsq) | refine a_seq ?_ | refine a_region ?_ | refine o_nil ?_ | refine a_block ?_ | refine a_ret ?_ | refine a_exit ?_ | refine a_skip ?_ | refine a_draw mixed ?_ | refine d_nil (by kernel_rfl) ?_ | refine o_yes rfl rfl rfl ?_ | refine o_no rfl rfl rfl (by decide) ?_ | refine o_no' rfl rfl rfl ?_ | refine a_condT rfl ?_ | refine a_condF rfl ?_ | refine d_no rfl rfl rfl (by decide) ?_ | refine d_no' rfl rfl rfl ?_ | (refine wq2 (fun hb => ?_) (fun hb => ?_) <;> (simp only [hb]; try simp only [hbs, ne_eq] at hb; try (exfalso; first | omega | exact hb trivial))) | fail)
    refine ⟨⟨(n', i + 1, d), hd, hdl, by dsimp only; omega, by dsimp only; omega, .inl (by dsimp only; omega)⟩, by dsimp only; omega, ?_⟩
    refine ⟨by repeat' (first | exact trivial | exact FinA.one (FinB.cell (FinC.same rfl)) | exact FinA.one (FinB.cell FinC.nil) | exact FinA.bound rfl | exact FinA.one (FinB.cell (FinC.own rfl rfl rfl rfl)) | exact FinA.one (FinB.cell (FinC.v (by first | rfl | (((try dsimp only); first | omega | (rw [h8]; done) | (congr 1 <;> omega)))))) | exact FinA.one (FinB.cell (FinC.ow rfl (by first | rfl | (((try dsimp only); first | omega | (rw [h8]; done) | (congr 1 <;> omega)))))) | exact FinA.one (FinB.agg' rfl rfl) | refine ⟨⟨_, rfl, ?_⟩, ?_⟩), by repeat' (first | exact trivial | refine ⟨⟨_, rfl, by first | rfl | (((try dsimp only); first | omega | (rw [h8]; done) | (congr 1 <;> omega)); done) | (simp [renO, *]; done)⟩, by first | rfl | assumption, ?_⟩), rfl⟩
  ·obtain rfl : j = a := by omega
   have hd2 : R = insN j n' (i + 1) d := by
    rw [hd]
    cases j with
    | zero => rfl
    | succ j => simp only [insJ]; rw [if_neg (fun h => absurd h.1 (by omega))]
   have hgt' : ¬ (j : Int) < (j : Int) := by omega
   repeat' (first | ((first | apply o_do | apply d_do | apply d_yes rfl rfl rfl); exact lsq) | refine a_seq ?_ | refine a_region ?_ | refine o_nil ?_ | refine a_block ?_ | refine a_ret ?_ | refine a_exit ?_ | refine a_skip ?_ | refine a_draw mixed ?_ | refine d_nil (by kernel_rfl) ?_ | refine o_yes rfl rfl rfl ?_ | refine o_no rfl rfl rfl (by decide) ?_ | refine o_no' rfl rfl rfl ?_ | refine a_condT rfl ?_ | refine a_condF rfl ?_ | refine d_no rfl rfl rfl (by decide) ?_ | refine d_no' rfl rfl rfl ?_ | (refine wq2 (fun hb => ?_) (fun hb => ?_) <;> (simp only [hb]; try simp only [hbs, ne_eq] at hb; try (exfalso; first | omega | exact hb trivial))) | fail)
   refine ⟨⟨(n', i + 1, d), hd2, hdl, by dsimp only; omega, by dsimp only; omega, .inl (by dsimp only; omega)⟩, by dsimp only; omega, ?_⟩
   refine ⟨by repeat' (first | exact trivial | exact FinA.one (FinB.cell (FinC.same rfl)) | exact FinA.one (FinB.cell FinC.nil) | exact FinA.bound rfl | exact FinA.one (FinB.cell (FinC.own rfl rfl rfl rfl)) | exact FinA.one (FinB.cell (FinC.v (by first | rfl | (((try dsimp only); first | omega | (rw [h8]; done) | (congr 1 <;> omega)))))) | exact FinA.one (FinB.cell (FinC.ow rfl (by first | rfl | (((try dsimp only); first | omega | (rw [h8]; done) | (congr 1 <;> omega)))))) | exact FinA.one (FinB.agg' rfl rfl) | refine ⟨⟨_, rfl, ?_⟩, ?_⟩), by repeat' (first | exact trivial | refine ⟨⟨_, rfl, by first | rfl | (((try dsimp only); first | omega | (rw [h8]; done) | (congr 1 <;> omega)); done) | (simp [renO, *]; done)⟩, by first | rfl | assumption, ?_⟩), rfl⟩
 ·obtain rfl : n = 0 := by omega
  simp only [insN] at hc
  subst hc
  have hlt' : ¬ (i : Int) < b := by omega
  repeat' (first | ((first | apply o_do | apply d_do | apply d_yes rfl rfl rfl); exact lsq) | refine a_seq ?_ | refine a_region ?_ | refine o_nil ?_ | refine a_block ?_ | refine a_ret ?_ | refine a_exit ?_ | refine a_skip ?_ | refine a_draw mixed ?_ | refine d_nil (by kernel_rfl) ?_ | refine o_yes rfl rfl rfl ?_ | refine o_no rfl rfl rfl (by decide) ?_ | refine o_no' rfl rfl rfl ?_ | refine a_condT rfl ?_ | refine a_condF rfl ?_ | refine d_no rfl rfl rfl (by decide) ?_ | refine d_no' rfl rfl rfl ?_ | (refine wq2 (fun hb => ?_) (fun hb => ?_) <;> (simp only [hb]; try simp only [hbs, ne_eq] at hb; try (exfalso; first | omega | exact hb trivial))) | fail)
  refine rq rfl ?_
  exact fnq
end Go.Proofs.YtcfidmdkioccdaaDoor
