/-
  Jobs' text in plain words: what is written is read again; what is read, written, is the text. Plain.
-/
import Derived.Test.YthlimflfglkpiaaDoorJpG
namespace Go.Proofs.YthlimflfglkpiaaDoor
open Go.RowKit
set_option linter.unusedSimpArgs false
set_option linter.unusedVariables false
/-! digits -/
theorem dig_one (u : Nat) (h : u < 10) : (UInt8.ofNat (48 + u)).toNat = 48 + u := by
  rw [UInt8.toNat_ofNat']; omega
theorem dig_all : ∀ (u : Nat), ∀ c ∈ Lib.decDigits u, 48 ≤ c.toNat ∧ c.toNat ≤ 57 := by
  intro u
  induction u using Nat.strongRecOn with
  | _ u ih =>
    intro c hc
    rw [Lib.decDigits] at hc
    split at hc
    · rename_i h
      rw [List.mem_singleton] at hc
      subst hc
      rw [dig_one u h]; omega
    · rename_i h
      rcases List.mem_append.1 hc with hc | hc
      · exact ih (u / 10) (by omega) c hc
      · rw [List.mem_singleton] at hc
        subst hc
        rw [dig_one (u % 10) (by omega)]; omega
theorem dig_ne (u : Nat) : Lib.decDigits u ≠ [] := by
  rw [Lib.decDigits]
  split <;> simp
theorem parse_dig (M : Nat) (hM : 9223372036854775807 ≤ M) : ∀ (u : Nat), u ≤ 9223372036854775807 → ∀ r, Lib.parseUintM M 0 (Lib.decDigits u ++ r) = Lib.parseUintM M u r := by
  intro u
  induction u using Nat.strongRecOn with
  | _ u ih =>
    intro hu r
    rw [Lib.decDigits]
    split
    · rename_i h
      have h1 := dig_one u h
      simp only [List.cons_append, List.nil_append, Lib.parseUintM, h1]
      rw [if_pos (by omega), if_neg (by omega), if_neg (by omega)]
      congr 1
      omega
    · rename_i h
      have h1 := dig_one (u % 10) (by omega)
      rw [List.append_assoc, ih (u / 10) (by omega) (by omega)]
      simp only [List.cons_append, List.nil_append, Lib.parseUintM, h1]
      rw [if_pos (by omega), if_neg (by omega), if_neg (by omega)]
      congr 1
      omega
theorem parse_itoa (n : Int) (h0 : 0 ≤ n) (h1 : n ≤ 9223372036854775807) : Lib.parseIntB 64 (itoB n).data.toList = .ok n := by
  obtain ⟨u, rfl⟩ : ∃ u : Nat, n = u := ⟨n.toNat, by omega⟩
  have e : (itoB (u : Int)).data.toList = Lib.decDigits u := by unfold itoB; rw [Lib.itoa_nonneg]
  rw [e]
  have hne := dig_ne u
  have hall := dig_all u
  have hp := parse_dig (2 ^ 64 - 1) (by decide) u (by omega) []
  rw [List.append_nil] at hp
  cases hd : Lib.decDigits u with
  | nil => exact absurd hd hne
  | cons c r =>
    rw [hd] at hall hp
    have hc := hall c (by simp)
    unfold Lib.parseIntB
    have h43 : ¬ (c.toNat = 43 ∨ c.toNat = 45) := by omega
    dsimp only
    rw [if_neg h43]
    have h2 : Lib.parseUintB 64 (c :: r) = .ok u := by
      unfold Lib.parseUintB
      rw [if_neg (by simp), hp]
      rfl
    rw [h2]
    dsimp only
    have h45 : ¬ c.toNat = 45 := by omega
    have e2 : (2 : Nat) ^ (64 - 1) = 9223372036854775808 := by decide
    rw [e2, if_neg (by omega), if_neg (by omega), if_neg h45]
theorem num_back {n : Int} (h0 : 0 ≤ n) (h1 : n ≤ 9223372036854775807) : numV (itoB n) = n ∧ numB (itoB n) = true := by
  have h := parse_itoa n h0 h1
  unfold numV numB
  rw [h]
  refine ⟨rfl, ?_⟩
  simp [h0]
theorem num_once {s : ByteArray} (h : numB s = true) : 0 ≤ numV s ∧ numV s ≤ 9223372036854775807 ∧ s = itoB (numV s) := by
  unfold numB at h
  unfold numV
  cases hp : Lib.parseIntB 64 s.data.toList with
  | ok v =>
    rw [hp] at h
    simp only [Bool.and_eq_true, decide_eq_true_eq, beq_iff_eq] at h
    have hb := Lib.parseIntB_bounds hp
    have e2 : ((2 ^ (64 - 1) : Nat) : Int) = 9223372036854775808 := by decide
    rw [e2] at hb
    refine ⟨h.1, by dsimp only; omega, (bytes_ext h.2).symm⟩
  | _ => rw [hp] at h; cases h
/-! where a byte stands -/
theorem ib_at (c : UInt8) : ∀ (l r : List UInt8), c ∉ l → Lib.indexByte (l ++ c :: r) c = (l.length : Int)
  | [], r, _ => by simp [Lib.indexByte]
  | b :: l, r, h => by
    have h1 : (b == c) = false := by simpa using fun e : b = c => h (by simp [e])
    have h2 := ib_at c l r fun hc => h (by simp [hc])
    simp only [List.cons_append, Lib.indexByte, h1, h2]
    rw [if_neg (by simp), if_neg (by first | (simp; done) | (simp; omega))]
    simp
theorem ib_no (c : UInt8) : ∀ (l : List UInt8), c ∉ l → Lib.indexByte l c = -1
  | [], _ => rfl
  | b :: l, h => by
    have h1 : (b == c) = false := by simpa using fun e : b = c => h (by simp [e])
    have h2 := ib_no c l fun hc => h (by simp [hc])
    simp [Lib.indexByte, h1, h2]
theorem mem_split (c : UInt8) : ∀ (s : List UInt8), c ∈ s → ∃ l r, s = l ++ c :: r ∧ c ∉ l
  | [], h => by cases h
  | b :: s, h => by
    by_cases e : b = c
    · exact ⟨[], s, by rw [e]; rfl, by simp⟩
    · obtain ⟨l, r, h1, h2⟩ := mem_split c s (by simpa [Ne.symm e] using h)
      exact ⟨b :: l, r, by rw [h1, List.cons_append], by simp [Ne.symm e, h2]⟩
def mkB (l : List UInt8) : ByteArray := ⟨l.toArray⟩
theorem mkB_self (s : ByteArray) : mkB s.data.toList = s := rfl
theorem mkB_list (l : List UInt8) : (mkB l).data.toList = l := rfl
theorem cut_at {s : ByteArray} {l r : List UInt8} (hs : s.data.toList = l ++ 10 :: r) (h : 10 ∉ l) : cutC s nl1 = true ∧ cutA s nl1 = mkB l ∧ cutB s nl1 = mkB r := by
  have e : nl1.data.toList = [10] := rfl
  have hi : Lib.index s.data.toList nl1.data.toList = (l.length : Int) := by rw [hs, e, Lib.index_one, ib_at 10 l r h]
  unfold cutC cutA cutB Lib.cut
  rw [hi, if_pos (by omega), e, hs]
  refine ⟨rfl, ?_, ?_⟩
  · simp [mkB]
  · simp [mkB]
theorem cut_yes {s : ByteArray} (h : cutC s nl1 = true) : s.data.toList = (cutA s nl1).data.toList ++ 10 :: (cutB s nl1).data.toList := by
  by_cases hm : (10 : UInt8) ∈ s.data.toList
  · obtain ⟨l, r, e, hl⟩ := mem_split 10 _ hm
    obtain ⟨_, h1, h2⟩ := cut_at e hl
    rw [h1, h2, e, mkB_list, mkB_list]
  · exfalso
    have e : nl1.data.toList = [10] := rfl
    have hi : Lib.index s.data.toList nl1.data.toList = -1 := by rw [e, Lib.index_one, ib_no 10 _ hm]
    unfold cutC Lib.cut at h
    rw [hi, if_neg (by omega)] at h
    cases h
theorem idx_sp (s : ByteArray) : Lib.indexB s sp1 = Lib.indexByte s.data.toList 32 := by
  rw [← Lib.index_one]; rfl
theorem ext_take (s : ByteArray) (i : Nat) : (s.extract 0 i).data.toList = s.data.toList.take i := by
  simp [ByteArray.data_extract]
theorem ext_drop (s : ByteArray) (i : Nat) : (s.extract i s.size).data.toList = s.data.toList.drop i := by
  have : s.size = s.data.toList.length := Array.length_toList.symm
  simp only [ByteArray.data_extract, Array.toList_extract, List.extract_eq_take_drop]
  exact List.take_of_length_le (by rw [List.length_drop, this]; exact Nat.le_refl _)
theorem spl_at {s : ByteArray} {l r : List UInt8} (hs : s.data.toList = l ++ 32 :: r) (h : 32 ∉ l) : spl s sp1 = mkB l :: spl (mkB r) sp1 := by
  have hi : Lib.indexB s sp1 = (l.length : Int) := by rw [idx_sp, hs, ib_at 32 l r h]
  have hc := Lib.countB_hit s sp1 l.length (by decide) hi
  have e1 : s.extract 0 l.length = mkB l := by
    apply bytes_ext2
    rw [ext_take, hs, mkB_list]
    simp
  have e2 : s.extract (l.length + 1) s.size = mkB r := by
    apply bytes_ext2
    rw [ext_drop, hs, mkB_list]
    simp
  have hsz : sp1.size = 1 := rfl
  unfold spl
  rw [hc, hsz, e2, Nat.add_comm 1, Lib.splitB_hit sp1 0 _ s l.length hi, hsz, e2, Nat.add_zero, e1]
theorem spl_no {s : ByteArray} (h : 32 ∉ s.data.toList) : spl s sp1 = [s] := by
  have hi : Lib.indexB s sp1 = -1 := by rw [idx_sp, ib_no 32 _ h]
  unfold spl
  exact Lib.splitB_miss sp1 0 _ s hi
/-- the text of which these are the pieces -/
def glue : List ByteArray → List UInt8
  | [] => []
  | [w] => w.data.toList
  | w :: r => w.data.toList ++ 32 :: glue r
theorem spl_glue : ∀ (n : Nat) (s : ByteArray), s.data.toList.length ≤ n → glue (spl s sp1) = s.data.toList := by
  intro n
  induction n with
  | zero =>
    intro s hn
    have : s.data.toList = [] := List.eq_nil_of_length_eq_zero (by omega)
    rw [spl_no (by rw [this]; simp)]; rfl
  | succ n ih =>
    intro s hn
    by_cases hm : (32 : UInt8) ∈ s.data.toList
    · obtain ⟨l, r, e, hl⟩ := mem_split 32 _ hm
      rw [spl_at e hl]
      have h1 := ih (mkB r) (by rw [mkB_list]; rw [e] at hn; simp at hn; omega)
      obtain ⟨w, t, h2⟩ := spl_ne (mkB r)
      rw [h2] at h1 ⊢
      simp only [glue]
      rw [h1, e]; rfl
    · rw [spl_no hm]; rfl
theorem fld_glue {word s : ByteArray} {many : Nat} {r : List ByteArray} (h : fld word many s = some r) : s.data.toList = glue (word :: r) := by
  have hg := spl_glue _ s (Nat.le_refl _)
  unfold fld at h
  split at h
  · cases h
  · rename_i w r' e
    split at h
    · rename_i hc
      injection h with h; subst h
      have hw : w = word := bytes_ext (by simpa using hc.1)
      subst hw
      rw [e] at hg
      exact hg.symm
    · cases h
theorem fld_one {word a : ByteArray} (hw : 32 ∉ word.data.toList) (ha : 32 ∉ a.data.toList) : fld word 1 (mkB (word.data.toList ++ 32 :: a.data.toList)) = some [a] := by
  unfold fld
  rw [spl_at (mkB_list _) hw, mkB_self, mkB_self, spl_no ha]
  simp
theorem fld_two {word a b : ByteArray} (hw : 32 ∉ word.data.toList) (ha : 32 ∉ a.data.toList) (hb : 32 ∉ b.data.toList) : fld word 2 (mkB (word.data.toList ++ 32 :: (a.data.toList ++ 32 :: b.data.toList))) = some [a, b] := by
  unfold fld
  rw [spl_at (mkB_list _) hw, mkB_self, spl_at (mkB_list _) ha, mkB_self, mkB_self, spl_no hb]
  simp
theorem ito_no (n : Int) (h0 : 0 ≤ n) (c : UInt8) (hc : c.toNat < 48) : c ∉ (itoB n).data.toList := by
  obtain ⟨u, rfl⟩ : ∃ u : Nat, n = u := ⟨n.toNat, by omega⟩
  have e : (itoB (u : Int)).data.toList = Lib.decDigits u := by unfold itoB; rw [Lib.itoa_nonneg]
  rw [e]
  intro h
  have := dig_all u c h
  omega
theorem nm_no (q : Nat) (h : q < 5) : 32 ∉ (nmQ q).data.toList ∧ 10 ∉ (nmQ q).data.toList ∧ nmIx (nmQ q) = q := by
  rcases q with _ | _ | _ | _ | _ | q
  · exact ⟨by decide, by decide, by unfold nmIx; simp only [ByteArray.toList_eq]; decide⟩
  · exact ⟨by decide, by decide, by unfold nmIx; simp only [ByteArray.toList_eq]; decide⟩
  · exact ⟨by decide, by decide, by unfold nmIx; simp only [ByteArray.toList_eq]; decide⟩
  · exact ⟨by decide, by decide, by unfold nmIx; simp only [ByteArray.toList_eq]; decide⟩
  · exact ⟨by decide, by decide, by unfold nmIx; simp only [ByteArray.toList_eq]; decide⟩
  · omega
theorem pars_next {n k : Nat} {j j' : J8} {l r : List UInt8} (hl : 10 ∉ l) (h : step k (mkB l) j = (j', true)) : pars (n + 1) k j (mkB (l ++ 10 :: r)) = pars n (k + 1) j' (mkB r) := by
  obtain ⟨h1, h2, h3⟩ := cut_at (mkB_list (l ++ 10 :: r)) hl
  unfold pars
  rw [h1, h2, h3, h, if_pos ⟨rfl, rfl⟩]
  cases n <;> rfl
end Go.Proofs.YthlimflfglkpiaaDoor
