/-
  Panes, in plain Lean: which may be, which stands ahead, which rows may be. No condition.
-/
import Derived.Test.YtbhblhcgfenobaaDoorBasic
namespace Go.Proofs.YtbhblhcgfenobaaDoor
open Go.RowKit
set_option linter.unusedSimpArgs false
set_option linter.unusedVariables false

/-- a pane's cells, one by one -/
structure Pn where
  lo : Int
  hi : Int
  key : ByteArray
  n : Int
  a : Int
  b : Int
def Pn.cells (p : Pn) : List Value := [.int .i64 p.lo, .int .i64 p.hi, .string p.key, .int .i64 p.n, .int .i64 p.a, .int .i64 p.b]
def mayB (p : Pn) : Bool := keyB p.key && decide (0 ≤ p.lo) && decide (p.lo < p.hi) && decide (p.hi ≤ 1099511627776) && decide (1 ≤ p.n)

/-- the order of strings -/
def sless (s t : ByteArray) : Bool := Op.bytesLess s.toList t.toList
theorem bless_irrefl : ∀ l, Op.bytesLess l l = false
  | [] => rfl
  | a :: l => by
    have := bless_irrefl l
    simp [Op.bytesLess, this]
theorem bless_trans : ∀ a b c, Op.bytesLess a b = true → Op.bytesLess b c = true → Op.bytesLess a c = true
  | _, _, [] => by intro _ h; simp [Op.bytesLess] at h
  | _, [], _ :: _ => by intro h; simp [Op.bytesLess] at h
  | [], _ :: _, _ :: _ => by intro _ _; rfl
  | x :: a, y :: b, z :: c => by
    have ih := bless_trans a b c
    simp only [Op.bytesLess, Bool.or_eq_true, Bool.and_eq_true, decide_eq_true_eq, beq_iff_eq]
    rintro (h1 | ⟨rfl, h1⟩) (h2 | ⟨rfl, h2⟩)
    · exact .inl (UInt8.lt_trans h1 h2)
    · exact .inl h1
    · exact .inl h2
    · exact .inr ⟨rfl, ih h1 h2⟩
theorem bless_total : ∀ a b, Op.bytesLess a b = false → Op.bytesLess b a = false → a = b
  | [], [] => fun _ _ => rfl
  | [], _ :: _ => by intro h; simp [Op.bytesLess] at h
  | _ :: _, [] => by intro _ h; simp [Op.bytesLess] at h
  | x :: a, y :: b => by
    have ih := bless_total a b
    simp only [Op.bytesLess, Bool.or_eq_false_iff, Bool.and_eq_false_imp, decide_eq_false_iff_not, beq_iff_eq]
    rintro ⟨h1, h2⟩ ⟨h3, h4⟩
    have hxy : x = y := by
      apply UInt8.toNat_inj.1
      have h5 : ¬ x.toNat < y.toNat := h1
      have h6 : ¬ y.toNat < x.toNat := h3
      omega
    subst hxy
    rw [ih (h2 rfl) (h4 rfl)]
theorem bytes_ext {s t : ByteArray} (h : s.toList = t.toList) : s = t := by
  rw [ByteArray.toList_eq, ByteArray.toList_eq] at h
  cases s; cases t
  simpa using h
theorem sless_irrefl (s : ByteArray) : sless s s = false := bless_irrefl _
theorem sless_trans {a b c : ByteArray} (h : sless a b = true) (h2 : sless b c = true) : sless a c = true := bless_trans _ _ _ h h2
theorem sless_total {a b : ByteArray} (h : sless a b = false) (h2 : sless b a = false) : a = b := bytes_ext (bless_total _ _ h h2)

/-- the places of panes, in order -/
def ahead (p q : Pn) : Bool := if p.hi ≠ q.hi then decide (p.hi < q.hi) else if p.lo ≠ q.lo then decide (p.lo < q.lo) else sless p.key q.key
def sameP (p q : Pn) : Prop := p.hi = q.hi ∧ p.lo = q.lo ∧ p.key = q.key
instance (p q : Pn) : Decidable (sameP p q) := by unfold sameP; exact inferInstance
theorem ahead_irrefl (p : Pn) : ahead p p = false := by simp [ahead, sless_irrefl]
theorem ahead_iff {p q : Pn} : ahead p q = true ↔ p.hi < q.hi ∨ (p.hi = q.hi ∧ (p.lo < q.lo ∨ (p.lo = q.lo ∧ sless p.key q.key = true))) := by
  unfold ahead
  by_cases h1 : p.hi = q.hi
  · by_cases h2 : p.lo = q.lo
    · simp [h1, h2]
    · simp [h1, h2]
  · simp [h1]
theorem ahead_trans {p q r : Pn} (h : ahead p q = true) (h2 : ahead q r = true) : ahead p r = true := by
  rw [ahead_iff] at *
  rcases h with h | ⟨e1, h | ⟨e2, h⟩⟩ <;> rcases h2 with h2 | ⟨f1, h2 | ⟨f2, h2⟩⟩
  · left; omega
  · left; omega
  · left; omega
  · left; omega
  · right; exact ⟨by omega, .inl (by omega)⟩
  · right; exact ⟨by omega, .inl (by omega)⟩
  · left; omega
  · right; exact ⟨by omega, .inl (by omega)⟩
  · right; exact ⟨by omega, .inr ⟨by omega, sless_trans h h2⟩⟩
theorem ahead_total {p q : Pn} (h : ahead p q = false) (h2 : ahead q p = false) : sameP p q := by
  have h3 : ¬ ahead p q = true := by simp [h]
  have h4 : ¬ ahead q p = true := by simp [h2]
  rw [ahead_iff] at h3 h4
  have e1 : p.hi = q.hi := by
    by_cases h5 : p.hi < q.hi
    · exact absurd (.inl h5) h3
    · by_cases h6 : q.hi < p.hi
      · exact absurd (.inl h6) h4
      · omega
  have e2 : p.lo = q.lo := by
    by_cases h5 : p.lo < q.lo
    · exact absurd (.inr ⟨e1, .inl h5⟩) h3
    · by_cases h6 : q.lo < p.lo
      · exact absurd (.inr ⟨e1.symm, .inl h6⟩) h4
      · omega
  refine ⟨e1, e2, sless_total ?_ ?_⟩
  · cases h5 : sless p.key q.key
    · rfl
    · exact absurd (.inr ⟨e1, .inr ⟨e2, h5⟩⟩) h3
  · cases h5 : sless q.key p.key
    · rfl
    · exact absurd (.inr ⟨e1.symm, .inr ⟨e2.symm, h5⟩⟩) h4
theorem same_ahead {p q : Pn} (h : sameP p q) : ahead p q = false := by
  obtain ⟨h1, h2, h3⟩ := h
  simp [ahead, h1, h2, h3, sless_irrefl]
theorem sameP.symm {p q : Pn} (h : sameP p q) : sameP q p := ⟨h.1.symm, h.2.1.symm, h.2.2.symm⟩
theorem sameP.left {p q r : Pn} (h : sameP p q) : ahead p r = ahead q r := by
  obtain ⟨h1, h2, h3⟩ := h
  simp [ahead, h1, h2, h3]
theorem sameP.right {p q r : Pn} (h : sameP p q) : ahead r p = ahead r q := by
  obtain ⟨h1, h2, h3⟩ := h
  simp [ahead, h1, h2, h3]
theorem ahead_asymm {p q : Pn} (h : ahead p q = true) : ahead q p = false := by
  cases h2 : ahead q p
  · rfl
  · have := ahead_trans h h2
    rw [ahead_irrefl] at this; cases this
/-- what 'compare' says -/
def cmpP (p q : Pn) : Int := if ahead p q then -1 else if ahead q p then 1 else 0

/-- up to k: each may be, each behind the one ahead of it -/
def okPn (l : List Pn) : Nat → Bool
  | 0 => true
  | k + 1 => okPn l k && match l[k]? with
    | none => true
    | some p => mayB p && (match k with | 0 => true | j + 1 => match l[j]? with | none => true | some q => ahead q p)
def rightL (l : List Pn) : Bool := decide (l.length ≤ 2000) && okPn l l.length
theorem okPn_one (l : List Pn) (h : 0 < l.length) : okPn l 1 = mayB l[0] := by
  simp [okPn, h]
theorem okPn_succ (l : List Pn) (j : Nat) (h : j + 1 < l.length) : okPn l (j + 1 + 1) = (okPn l (j + 1) && (mayB l[j + 1] && ahead l[j] l[j + 1])) := by
  show (okPn l (j + 1) && _) = _
  rw [List.getElem?_eq_getElem h]
  simp only [List.getElem?_eq_getElem (show j < l.length by omega)]
theorem okPn_false (l : List Pn) {k n : Nat} (h : k ≤ n) (hf : okPn l k = false) : okPn l n = false := by
  induction n with
  | zero => obtain rfl : k = 0 := (by omega); exact hf
  | succ n ih =>
    rcases Nat.lt_or_ge k (n + 1) with h1 | h1
    · show (okPn l n && _) = false
      rw [ih (by omega), Bool.false_and]
    · obtain rfl : k = n + 1 := (by omega)
      exact hf
/-- in plain words -/
theorem okPn_iff (l : List Pn) : okPn l l.length = true ↔ (∀ p ∈ l, mayB p = true) ∧ l.Pairwise (fun p q => ahead p q = true) := by
  have key : ∀ k, k ≤ l.length → (okPn l k = true ↔ (∀ p ∈ l.take k, mayB p = true) ∧ (l.take k).Pairwise (fun p q => ahead p q = true)) := by
    intro k
    induction k with
    | zero => intro _; simp [okPn]
    | succ k ih =>
      intro hk
      have hsn : l.take (k + 1) = l.take k ++ [l[k]] := take_snoc l _ (by omega)
      rw [hsn, List.pairwise_append]
      cases k with
      | zero =>
        rw [okPn_one l (by omega)]
        simp
      | succ j =>
        rw [okPn_succ l j (by omega), Bool.and_eq_true, Bool.and_eq_true, ih (by omega)]
        have hsn2 : l.take (j + 1) = l.take j ++ [l[j]] := take_snoc l _ (by omega)
        constructor
        · rintro ⟨⟨h1, h2⟩, h3, h4⟩
          refine ⟨?_, h2, by simp, ?_⟩
          · intro p hp
            simp only [List.mem_append, List.mem_singleton] at hp
            rcases hp with hp | rfl
            · exact h1 p hp
            · exact h3
          · intro p hp q hq
            simp only [List.mem_singleton] at hq
            subst hq
            rw [hsn2] at hp h2
            simp only [List.mem_append, List.mem_singleton] at hp
            rcases hp with hp | rfl
            · exact ahead_trans ((List.pairwise_append.1 h2).2.2 p hp _ (by simp)) h4
            · exact h4
        · rintro ⟨h1, h2, _, h3⟩
          refine ⟨⟨fun p hp => h1 p (List.mem_append_left _ hp), h2⟩, h1 _ (List.mem_append_right _ (List.mem_singleton.2 rfl)), h3 _ (by rw [hsn2]; exact List.mem_append_right _ (List.mem_singleton.2 rfl)) _ (List.mem_singleton.2 rfl)⟩
  have := key l.length (Nat.le_refl _)
  rw [List.take_length] at this
  exact this
end Go.Proofs.YtbhblhcgfenobaaDoor
