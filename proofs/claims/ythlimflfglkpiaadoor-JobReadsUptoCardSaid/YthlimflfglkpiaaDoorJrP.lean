/-
  Numbers by their first digits: which rows of digits are a number's own. Plain.
-/
import Derived.Test.YthlimflfglkpiaaDoorJpS
namespace Go.Proofs.YthlimflfglkpiaaDoor
open Go.RowKit
set_option linter.unusedSimpArgs false
set_option linter.unusedVariables false
def isD (c : UInt8) : Bool := decide (48 ≤ c.toNat) && decide (c.toNat ≤ 57)
theorem isD_iff {c : UInt8} : isD c = true ↔ 48 ≤ c.toNat ∧ c.toNat ≤ 57 := by simp [isD]
def valF (n : Nat) (l : List UInt8) : Nat := l.foldl (fun a c => a * 10 + (c.toNat - 48)) n
theorem valF_snoc (n : Nat) (l : List UInt8) (c : UInt8) : valF n (l ++ [c]) = valF n l * 10 + (c.toNat - 48) := by simp [valF]
theorem valF_app (n : Nat) (l m : List UInt8) : valF n (l ++ m) = valF (valF n l) m := by simp [valF]
theorem valF_ge : ∀ (l : List UInt8) (n : Nat), n ≤ valF n l
  | [], n => Nat.le_refl _
  | c :: l, n => by
    have := valF_ge l (n * 10 + (c.toNat - 48))
    simp only [valF, List.foldl_cons] at this ⊢
    omega
theorem valF_acc : ∀ (l : List UInt8) (n : Nat), valF n l = n * 10 ^ l.length + valF 0 l
  | [], n => by simp [valF]
  | c :: l, n => by
    have h1 := valF_acc l (n * 10 + (c.toNat - 48))
    have h2 := valF_acc l (0 * 10 + (c.toNat - 48))
    simp only [valF, List.foldl_cons, List.length_cons] at h1 h2 ⊢
    rw [h1, h2, Nat.pow_succ]
    rw [Nat.add_mul, Nat.zero_mul, Nat.zero_add, Nat.mul_assoc, Nat.mul_comm 10, Nat.add_assoc]
theorem valF_lt : ∀ (l : List UInt8), (∀ c ∈ l, isD c = true) → valF 0 l < 10 ^ l.length
  | [], _ => by simp [valF]
  | c :: l, h => by
    have h1 := valF_lt l fun x hx => h x (by simp [hx])
    have h2 := isD_iff.1 (h c (by simp))
    have h3 := valF_acc l (0 * 10 + (c.toNat - 48))
    have e : valF 0 (c :: l) = valF (0 * 10 + (c.toNat - 48)) l := rfl
    rw [e, h3, List.length_cons, Nat.pow_succ]
    have h4 : (0 * 10 + (c.toNat - 48)) * 10 ^ l.length ≤ 9 * 10 ^ l.length := Nat.mul_le_mul_right _ (by omega)
    omega
theorem val_dig : ∀ (u : Nat), valF 0 (Lib.decDigits u) = u := by
  intro u
  induction u using Nat.strongRecOn with
  | _ u ih =>
    rw [Lib.decDigits]
    split
    · rename_i h
      have := dig_one u h
      simp only [valF, List.foldl_cons, List.foldl_nil, this]; omega
    · rename_i h
      rw [valF_snoc, ih (u / 10) (by omega), dig_one (u % 10) (by omega)]; omega
theorem dig_back {c : UInt8} (h : isD c = true) : UInt8.ofNat (48 + (c.toNat - 48)) = c := by
  have := isD_iff.1 h
  rw [show 48 + (c.toNat - 48) = c.toNat by omega]
  exact UInt8.ofNat_toNat
/-- digits without a zero ahead are those of what they spell -/
theorem canon : ∀ (n : Nat) (d : List UInt8), d.length = n → d ≠ [] → (∀ c ∈ d, isD c = true) → (1 < d.length → d.head? ≠ some 48) → Lib.decDigits (valF 0 d) = d := by
  intro n
  induction n with
  | zero => intro d h hne _ _; exact absurd (List.eq_nil_of_length_eq_zero h) hne
  | succ n ih =>
    intro d h hne hall hz
    rcases List.eq_nil_or_concat d with rfl | ⟨e, c, rfl⟩
    · exact absurd rfl hne
    rw [List.concat_eq_append] at *
    have hc : isD c = true := hall c (by simp)
    have hc2 := isD_iff.1 hc
    have he : ∀ x ∈ e, isD x = true := fun x hx => hall x (by simp [hx])
    by_cases h0 : e = []
    · subst h0
      have e1 : valF 0 ([] ++ [c]) = c.toNat - 48 := by simp [valF]
      rw [e1, Lib.decDigits, dif_pos (by omega), dig_back hc]; rfl
    · have hl : e.length = n := by simpa using h
      obtain ⟨a, t, rfl⟩ : ∃ a t, e = a :: t := by
        cases e with
        | nil => exact absurd rfl h0
        | cons a t => exact ⟨a, t, rfl⟩
      have ha : a ≠ 48 := fun e => hz (by simp) (by simp [e])
      have ha2 := isD_iff.1 (he a (by simp))
      have ha3 : a.toNat ≠ 48 := fun e => ha (by
        have : UInt8.ofNat a.toNat = UInt8.ofNat 48 := by rw [e]
        rw [UInt8.ofNat_toNat] at this; exact this)
      have hv : 1 ≤ valF 0 (a :: t) := by
        have := valF_ge t (0 * 10 + (a.toNat - 48))
        have e2 : valF 0 (a :: t) = valF (0 * 10 + (a.toNat - 48)) t := rfl
        omega
      have hi := ih (a :: t) hl (by simp) he (fun h => by simpa using ha)
      rw [valF_snoc, Lib.decDigits, dif_neg (by omega)]
      have q1 : (valF 0 (a :: t) * 10 + (c.toNat - 48)) / 10 = valF 0 (a :: t) := by omega
      have q2 : (valF 0 (a :: t) * 10 + (c.toNat - 48)) % 10 = c.toNat - 48 := by omega
      rw [q1, q2, hi, dig_back hc]
/-- rows of digits of one length stand in order as what they spell -/
theorem less_val : ∀ (a b : List UInt8), a.length = b.length → (∀ c ∈ a, isD c = true) → (∀ c ∈ b, isD c = true) → (Op.bytesLess a b = true ↔ valF 0 a < valF 0 b)
  | [], [], _, _, _ => by simp [valF, Op.bytesLess]
  | [], b :: l, h, _, _ => by simp at h
  | a :: l, [], h, _, _ => by simp at h
  | a :: l, b :: m, h, ha, hb => by
    have hl : l.length = m.length := by simpa using h
    have ih := less_val l m hl (fun c hc => ha c (by simp [hc])) (fun c hc => hb c (by simp [hc]))
    have h1 := isD_iff.1 (ha a (by simp))
    have h2 := isD_iff.1 (hb b (by simp))
    have l1 := valF_lt l fun c hc => ha c (by simp [hc])
    have l2 := valF_lt m fun c hc => hb c (by simp [hc])
    have e1 : valF 0 (a :: l) = (0 * 10 + (a.toNat - 48)) * 10 ^ l.length + valF 0 l := valF_acc l _
    have e2 : valF 0 (b :: m) = (0 * 10 + (b.toNat - 48)) * 10 ^ l.length + valF 0 m := by rw [hl]; exact valF_acc m _
    rw [← hl] at l2
    rw [e1, e2]
    generalize 10 ^ l.length = K at *
    have hlt : a < b ↔ a.toNat < b.toNat := UInt8.lt_iff_toNat_lt
    have heq : a = b ↔ a.toNat = b.toNat := UInt8.toNat_inj.symm
    rcases Nat.lt_trichotomy a.toNat b.toNat with hc | hc | hc
    · have : Op.bytesLess (a :: l) (b :: m) = true := by simp [Op.bytesLess, hlt.2 hc]
      rw [this]
      simp only [true_iff]
      have : (0 * 10 + (a.toNat - 48) + 1) * K ≤ (0 * 10 + (b.toNat - 48)) * K := Nat.mul_le_mul_right _ (by omega)
      rw [Nat.add_mul] at this
      omega
    · have he : a = b := heq.2 hc
      subst he
      have : Op.bytesLess (a :: l) (a :: m) = Op.bytesLess l m := by simp [Op.bytesLess]
      rw [this, ih]; omega
    · have : Op.bytesLess (a :: l) (b :: m) = false := by
        have n1 : ¬ a < b := fun h => by have := hlt.1 h; omega
        have n2 : ¬ a = b := fun h => by have := heq.1 h; omega
        simp [Op.bytesLess, n1, n2]
      rw [this]
      simp only [Bool.false_eq_true, false_iff]
      have : (0 * 10 + (b.toNat - 48) + 1) * K ≤ (0 * 10 + (a.toNat - 48)) * K := Nat.mul_le_mul_right _ (by omega)
      rw [Nat.add_mul] at this
      omega
end Go.Proofs.YthlimflfglkpiaaDoor
