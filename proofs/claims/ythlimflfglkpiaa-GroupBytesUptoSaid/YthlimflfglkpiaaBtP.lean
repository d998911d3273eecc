/-
  Numbers as bytes, the highest digits first: written and read. Plain.
-/
import Derived.RowKit
namespace Go.Proofs.Ythlimflfglkpiaa
set_option linter.unusedSimpArgs false
set_option linter.unusedVariables false
/-- the digits ahead of the last one, each with its mark -/
def dgC (m : Nat) : List UInt8 := if h : m = 0 then [] else dgC (m / 128) ++ [UInt8.ofNat (m % 128 + 128)]
termination_by m
decreasing_by omega
def dg (n : Nat) : List UInt8 := dgC (n / 128) ++ [UInt8.ofNat (n % 128)]
theorem dgC_zero : dgC 0 = [] := by rw [dgC]; rfl
theorem dgC_pos {m : Nat} (h : m ≠ 0) : dgC m = dgC (m / 128) ++ [UInt8.ofNat (m % 128 + 128)] := by rw [dgC]; simp [h]
theorem dg_ne (n : Nat) : dg n ≠ [] := by unfold dg; simp
theorem u8_nat {n : Nat} (h : n < 256) : (UInt8.ofNat n).toNat = n := by rw [UInt8.toNat_ofNat']; omega
theorem dgC_len : ∀ (k m : Nat), m < 128 ^ k → (dgC m).length ≤ k := by
  intro k
  induction k with
  | zero => intro m h; simp at h; subst h; rw [dgC_zero]; simp
  | succ k ih =>
    intro m h
    by_cases h0 : m = 0
    · subst h0; rw [dgC_zero]; simp
    · rw [dgC_pos h0, List.length_append]
      rw [Nat.pow_succ] at h
      have := ih (m / 128) (by omega)
      simp; omega
theorem dg_len {n : Nat} (h : n < 18446744073709551616) : (dg n).length ≤ 10 := by
  unfold dg
  rw [List.length_append]
  have := dgC_len 9 (n / 128) (by have : (128 : Nat) ^ 9 = 9223372036854775808 := by decide
                                  omega)
  simp; omega
/-- a number read: it, the place behind, why not; `f`: no byte yet -/
def rdV (most : Nat) : Bool → Nat → List UInt8 → Nat → Nat × Int × Int
  | _, _, [], _ => (0, 0, 20)
  | f, n, c :: l, i =>
    if (f = true ∧ c.toNat = 128) ∨ most < n * 128 + c.toNat % 128 then (0, 0, 21)
    else if c.toNat < 128 then (n * 128 + c.toNat % 128, (i : Int) + 1, 0)
    else rdV most false (n * 128 + c.toNat % 128) l (i + 1)
theorem rdV_le {most : Nat} : ∀ (l : List UInt8) (f : Bool) (n i : Nat), (rdV most f n l i).1 ≤ most
  | [], _, _, _ => Nat.zero_le _
  | c :: l, f, n, i => by
    unfold rdV
    split
    · exact Nat.zero_le _
    · rename_i h
      split
      · dsimp only; omega
      · exact rdV_le l false _ _
theorem rdV_to {most : Nat} : ∀ (l : List UInt8) (f : Bool) (n i : Nat), 0 ≤ (rdV most f n l i).2.1 ∧ (rdV most f n l i).2.1 ≤ (i : Int) + l.length
  | [], _, _, i => ⟨Int.le_refl _, by unfold rdV; dsimp only; omega⟩
  | c :: l, f, n, i => by
    have ih := rdV_to (most := most) l false (n * 128 + c.toNat % 128) (i + 1)
    unfold rdV
    split
    · exact ⟨Int.le_refl _, by dsimp only; omega⟩
    · split
      · simp only [List.length_cons]; exact ⟨by omega, by omega⟩
      · simp only [List.length_cons]; exact ⟨ih.1, by have := ih.2; omega⟩
/-- what is read was written so -/
theorem rdV_out {most : Nat} : ∀ (l : List UInt8) (f : Bool) (n i : Nat), (rdV most f n l i).2.2 = 0 → (f = true → n = 0) → (f = false → n ≠ 0) →
    ∃ (v : Nat) (u r : List UInt8), rdV most f n l i = (v, (i : Int) + u.length, 0) ∧ l = u ++ r ∧ v ≤ most ∧ 0 < u.length ∧ dg v = dgC n ++ u
  | [], f, n, i, h, _, _ => by simp [rdV] at h
  | c :: l, f, n, i, h, hf, hf' => by
    unfold rdV at h ⊢
    split at h
    · exact absurd h (by decide)
    · rename_i h1
      rw [if_neg h1]
      have hc := c.toNat_lt
      split at h
      · rename_i h2
        rw [if_pos h2]
        refine ⟨n * 128 + c.toNat % 128, [c], l, ?_, rfl, by omega, by simp, ?_⟩
        · simp
        · unfold dg
          have e1 : (n * 128 + c.toNat % 128) / 128 = n := by omega
          have e2 : (n * 128 + c.toNat % 128) % 128 = c.toNat := by omega
          rw [e1, e2]
          congr 2
          exact UInt8.ofNat_toNat
      · rename_i h2
        rw [if_neg h2]
        have hne : n * 128 + c.toNat % 128 ≠ 0 := by
          cases f with
          | true =>
            have := hf rfl
            intro e
            refine h1 (.inl ⟨rfl, ?_⟩)
            omega
          | false => have := hf' rfl; omega
        obtain ⟨v, u, r, e1, e2, e3, e4, e5⟩ := rdV_out l false (n * 128 + c.toNat % 128) (i + 1) h (fun h => nomatch h) (fun _ => hne)
        refine ⟨v, c :: u, r, ?_, by rw [e2]; rfl, e3, by simp, ?_⟩
        · rw [e1]
          simp only [List.length_cons]
          congr 2
          omega
        · rw [e5, dgC_pos hne]
          have e6 : (n * 128 + c.toNat % 128) / 128 = n := by omega
          have e7 : (n * 128 + c.toNat % 128) % 128 + 128 = c.toNat := by omega
          rw [e6, e7, UInt8.ofNat_toNat, List.append_assoc]; rfl
/-- what is written is read so -/
theorem rdV_digits {most : Nat} : ∀ (k m : Nat), m < 128 ^ k → ∀ (f : Bool) (l : List UInt8) (i : Nat), m ≤ most → 
    rdV most true 0 (dgC m ++ l) i = if m = 0 then rdV most true 0 l i else rdV most false m l (i + (dgC m).length) := by
  intro k
  induction k with
  | zero => intro m h f l i _; simp at h; subst h; rw [dgC_zero]; rfl
  | succ k ih =>
    intro m h f l i hm
    by_cases h0 : m = 0
    · subst h0; rw [dgC_zero]; rfl
    rw [if_neg h0, dgC_pos h0, List.append_assoc]
    rw [Nat.pow_succ] at h
    rw [ih (m / 128) (by omega) f _ i (by omega)]
    have hb : (UInt8.ofNat (m % 128 + 128)).toNat = m % 128 + 128 := u8_nat (by omega)
    by_cases h1 : m / 128 = 0
    · rw [if_pos h1, h1, dgC_zero]
      simp only [List.cons_append, List.nil_append, List.length_singleton]
      rw [rdV, hb]
      have e1 : 0 * 128 + (m % 128 + 128) % 128 = m := by omega
      rw [e1, if_neg (by omega), if_neg (by omega)]
    · rw [if_neg h1]
      simp only [List.cons_append, List.nil_append, List.length_append, List.length_singleton]
      rw [rdV, hb]
      have e1 : m / 128 * 128 + (m % 128 + 128) % 128 = m := by omega
      rw [e1, if_neg (by simp; omega), if_neg (by omega)]
      rfl
theorem rdV_in {most n : Nat} (h : n ≤ most) (h2 : n < 18446744073709551616) (l : List UInt8) (i : Nat) : rdV most true 0 (dg n ++ l) i = (n, (i : Int) + (dg n).length, 0) := by
  unfold dg
  rw [List.append_assoc, rdV_digits 9 (n / 128) (by have : (128 : Nat) ^ 9 = 9223372036854775808 := by decide
                                                    omega) true _ i (by omega)]
  have hb : (UInt8.ofNat (n % 128)).toNat = n % 128 := u8_nat (by omega)
  by_cases h1 : n / 128 = 0
  · rw [if_pos h1, h1, dgC_zero]
    simp only [List.cons_append, List.nil_append]
    rw [rdV, hb]
    have e1 : 0 * 128 + n % 128 % 128 = n := by omega
    rw [e1, if_neg (by omega), if_pos (by omega)]
    rfl
  · rw [if_neg h1]
    simp only [List.cons_append, List.nil_append]
    rw [rdV, hb]
    have e1 : n / 128 * 128 + n % 128 % 128 = n := by omega
    rw [e1, if_neg (by simp; omega), if_pos (by omega)]
    simp only [List.length_append, List.length_singleton]
    congr 2
end Go.Proofs.Ythlimflfglkpiaa
