/-
  Jobs' text in plain words: a job's text is read as that job; a text that is read is the job's. Plain.
-/
import Derived.Test.YthlimflfglkpiaaDoorJpP
namespace Go.Proofs.YthlimflfglkpiaaDoor
open Go.RowKit
set_option linter.unusedSimpArgs false
set_option linter.unusedVariables false
set_option maxRecDepth 10000
def nn (n : Int) : Prop := 0 ≤ n ∧ n ≤ 9223372036854775807
theorem no32 {n : Int} (h : nn n) : 32 ∉ (itoB n).data.toList := ito_no n h.1 32 (by decide)
theorem no10 {n : Int} (h : nn n) : 10 ∉ (itoB n).data.toList := ito_no n h.1 10 (by decide)
def l1 (k : Nat) (a : ByteArray) : List UInt8 := (wordK k).data.toList ++ 32 :: a.data.toList
def l2 (k : Nat) (a b : ByteArray) : List UInt8 := (wordK k).data.toList ++ 32 :: (a.data.toList ++ 32 :: b.data.toList)
theorem wd (k : Nat) : 32 ∉ (wordK k).data.toList ∧ 10 ∉ (wordK k).data.toList := by
  unfold wordK
  split <;> exact ⟨by decide, by decide⟩
theorem l1_no {k : Nat} {a : ByteArray} (h : 10 ∉ a.data.toList) : 10 ∉ l1 k a := by
  unfold l1
  intro hm
  rcases List.mem_append.1 hm with hm | hm
  · exact (wd k).2 hm
  · rcases List.mem_cons.1 hm with hm | hm
    · exact absurd hm (by decide)
    · exact h hm
theorem l2_no {k : Nat} {a b : ByteArray} (h : 10 ∉ a.data.toList) (h2 : 10 ∉ b.data.toList) : 10 ∉ l2 k a b := by
  unfold l2
  intro hm
  rcases List.mem_append.1 hm with hm | hm
  · exact (wd k).2 hm
  · rcases List.mem_cons.1 hm with hm | hm
    · exact absurd hm (by decide)
    · rcases List.mem_append.1 hm with hm | hm
      · exact h hm
      · rcases List.mem_cons.1 hm with hm | hm
        · exact absurd hm (by decide)
        · exact h2 hm
theorem f1 (k : Nat) {a : ByteArray} (h : 32 ∉ a.data.toList) : fld (wordK k) 1 (mkB (l1 k a)) = some [a] := fld_one (wd k).1 h
theorem f2 (k : Nat) {a b : ByteArray} (h : 32 ∉ a.data.toList) (h2 : 32 ∉ b.data.toList) : fld (wordK k) 2 (mkB (l2 k a b)) = some [a, b] := fld_two (wd k).1 h h2
/-- a job's text, line by line -/
def tx (j : J8) (nm : ByteArray) : List UInt8 := l1 1 (itoB j.g) ++ 10 :: (l2 2 (itoB j.s) (itoB j.d) ++ 10 :: (l1 3 nm ++ 10 :: (l2 4 (itoB j.li) (itoB j.fu) ++ 10 :: (l1 5 (itoB j.de) ++ 10 :: (l1 6 (itoB j.id) ++ 10 :: [])))))
theorem tx_eq (j : J8) (nm : ByteArray) : jobT (itoB j.g) (itoB j.s) (itoB j.d) nm (itoB j.li) (itoB j.fu) (itoB j.de) (itoB j.id) = mkB (tx j nm) := by
  apply bytes_ext2
  rw [mkB_list]
  unfold tx l1 l2 jobT wordK
  simp [ByteArray.data_append, List.append_assoc]
theorem ok_parts {j : J8} (h : j.ok = true) (hi : JI j.g j.s j.d j.k j.fu j.li j.de j.id) : (1 ≤ j.g ∧ j.g ≤ 32) ∧ nn j.s ∧ nn j.d ∧ fRight j.k = true ∧ (0 ≤ j.fu ∧ j.fu ≤ 40) ∧ nn j.li ∧ nn j.de ∧ (0 ≤ j.id ∧ j.id ≤ 1048576) := by
  unfold J8.ok jobOK at h
  simp only [Bool.and_eq_true, decide_eq_true_eq, winB] at h
  obtain ⟨a1, a2, a3, a4, a5, a6, a7, a8, a9, a10, a11⟩ := h
  obtain ⟨b1, b2, b3, b4, b5, b6, b7⟩ := hi
  unfold i64 at *
  unfold nn
  refine ⟨⟨a1, a2⟩, ⟨?_, by omega⟩, ⟨?_, by omega⟩, a4, ⟨a5, a6⟩, ⟨by omega, by omega⟩, ⟨by omega, by omega⟩, ⟨by omega, by omega⟩⟩
  · omega
  · omega
theorem small_id {n : Int} (h : n ≤ 1048576) : smallV n = n := by unfold smallV; omega
/-- what is written is read again -/
theorem back (j : J8) (q : Nat) (hq : q < 5) (hk : j.k = (q : Int) + 1) (hi : JI j.g j.s j.d j.k j.fu j.li j.de j.id) (h : j.ok = true) : pars 6 1 zJ (mkB (tx j (nmQ q))) = (j, 0, 0) := by
  obtain ⟨hg, hs, hd, _, hfu, hli, hde, hid⟩ := ok_parts h hi
  have ng : nn j.g := ⟨by omega, by omega⟩
  have nf : nn j.fu := ⟨by omega, by omega⟩
  have nid : nn j.id := ⟨by omega, by omega⟩
  obtain ⟨m1, m2, m3⟩ := nm_no q hq
  have b := fun {n : Int} (h : nn n) => num_back h.1 h.2
  obtain ⟨g, s, d, k, fu, li, de, id⟩ := j
  dsimp only at *
  unfold tx
  dsimp only
  rw [pars_next (j' := { zJ with g := g }) (l1_no (no10 ng)) (by simp only [step]; rw [f1 1 (no32 ng)]; dsimp only; rw [(b ng).1, (b ng).2, small_id (by omega)])]
  rw [pars_next (j' := { zJ with g := g, s := s, d := d }) (l2_no (no10 hs) (no10 hd)) (by simp only [step]; rw [f2 2 (no32 hs) (no32 hd)]; dsimp only; rw [(b hs).1, (b hs).2, (b hd).1, (b hd).2]; try rfl)]
  rw [pars_next (j' := { zJ with g := g, s := s, d := d, k := k }) (l1_no m2) (by simp only [step]; rw [f1 3 m1]; dsimp only; rw [m3, hk, decide_eq_true (by omega)])]
  rw [pars_next (j' := { zJ with g := g, s := s, d := d, k := k, li := li, fu := fu }) (l2_no (no10 hli) (no10 nf)) (by simp only [step]; rw [f2 4 (no32 hli) (no32 nf)]; dsimp only; rw [(b hli).1, (b hli).2, (b nf).1, (b nf).2, small_id (by omega)]; try rfl)]
  rw [pars_next (j' := { zJ with g := g, s := s, d := d, k := k, li := li, fu := fu, de := de }) (l1_no (no10 hde)) (by simp only [step]; rw [f1 5 (no32 hde)]; dsimp only; rw [(b hde).1, (b hde).2])]
  rw [pars_next (j' := ⟨g, s, d, k, fu, li, de, id⟩) (l1_no (no10 nid)) (by simp only [step]; rw [f1 6 (no32 nid)]; dsimp only; rw [(b nid).1, (b nid).2, small_id (by omega)]; try rfl)]
  unfold pars
  have e : ((mkB []).toList == em.toList) = true := by simp [mkB, em]
  rw [e, if_neg (by simp), h, if_neg (by simp)]
/-! what is read is the text -/
theorem pars_no : ∀ (n k : Nat) (j : J8) (s : ByteArray), k + n = 7 → (pars n k j s).2.1 ≠ 0 → (pars n k j s).1 = zJ ∧ 0 ≤ (pars n k j s).2.2 ∧ (pars n k j s).2.2 ≤ 7 := by
  intro n
  induction n with
  | zero =>
    intro k j s _ h
    unfold pars at h ⊢
    split
    · exact ⟨rfl, by dsimp only; omega, by dsimp only; omega⟩
    · rename_i h1
      rw [if_neg h1] at h
      split
      · exact ⟨rfl, by dsimp only; omega, by dsimp only; omega⟩
      · rename_i h2
        rw [if_neg h2] at h
        exact absurd rfl h
  | succ n ih =>
    intro k j s hk h
    unfold pars at h ⊢
    split
    · rename_i h1
      rw [if_pos h1] at h
      exact ih (k + 1) _ _ (by omega) h
    · exact ⟨rfl, by dsimp only; omega, by dsimp only; omega⟩
theorem pars_in {n k : Nat} {j : J8} {s : ByteArray} (h : (pars (n + 1) k j s).2.1 = 0) : cutC s nl1 = true ∧ (step k (cutA s nl1) j).2 = true ∧ pars (n + 1) k j s = pars n (k + 1) (step k (cutA s nl1) j).1 (cutB s nl1) := by
  by_cases hc : cutC s nl1 = true ∧ (step k (cutA s nl1) j).2 = true
  · refine ⟨hc.1, hc.2, ?_⟩
    conv => lhs; unfold pars
    rw [if_pos hc]
  · exfalso
    unfold pars at h
    rw [if_neg hc] at h
    exact absurd h (show ¬ ((131 : Int) = 0) by decide)
theorem pars_end {k : Nat} {j : J8} {s : ByteArray} (h : (pars 0 k j s).2.1 = 0) : s = em ∧ j.ok = true ∧ pars 0 k j s = (j, 0, 0) := by
  unfold pars at h ⊢
  split at h
  · exact absurd h (by decide)
  · rename_i h1
    split at h
    · exact absurd h (by decide)
    · rename_i h2
      rw [if_neg h1, if_neg h2]
      exact ⟨bytes_ext (by simpa using h1), by simpa using h2, rfl⟩
theorem one_in {k : Nat} {s : ByteArray} {r : List ByteArray} (h : fld (wordK k) 1 s = some r) : ∃ a, r = [a] ∧ s.data.toList = l1 k a := by
  have hl := fld_len h
  match r, hl with
  | [a], _ => exact ⟨a, rfl, fld_glue h⟩
theorem two_in {k : Nat} {s : ByteArray} {r : List ByteArray} (h : fld (wordK k) 2 s = some r) : ∃ a b, r = [a, b] ∧ s.data.toList = l2 k a b := by
  have hl := fld_len h
  match r, hl with
  | [a, b], _ => exact ⟨a, b, rfl, fld_glue h⟩
theorem ix_in {a : ByteArray} (h : nmIx a + 1 > 0) : ∃ q : Nat, q < 5 ∧ nmIx a = q ∧ a = nmQ q := by
  unfold nmIx at h ⊢
  cases hf : (List.range 5).find? fun q => a.toList == (nmQ q).toList with
  | none => rw [hf] at h; exact absurd h (by decide)
  | some q => exact ⟨q, List.mem_range.1 (List.mem_of_find?_eq_some hf), rfl, bytes_ext (by simpa using List.find?_some hf)⟩
end Go.Proofs.YthlimflfglkpiaaDoor
