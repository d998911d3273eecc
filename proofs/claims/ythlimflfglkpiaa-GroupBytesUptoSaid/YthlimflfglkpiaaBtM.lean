/-
  A group's bytes in plain words: what is written is read again; what is read, written, is the bytes. Plain.
-/
import Derived.Test.YthlimflfglkpiaaBtJ
namespace Go.Proofs.Ythlimflfglkpiaa
open Go.RowKit
set_option linter.unusedSimpArgs false
set_option linter.unusedVariables false
/-- from i to j a text's bytes are these -/
def Rd (s : ByteArray) (i j : Nat) (u : List UInt8) : Prop := i ≤ s.size ∧ j = i + u.length ∧ ∃ r, s.data.toList.drop i = u ++ r
theorem Rd.le {s : ByteArray} {i j : Nat} {u : List UInt8} (h : Rd s i j u) : j ≤ s.size := by
  obtain ⟨h1, h2, r, h3⟩ := h
  have h4 : (s.data.toList.drop i).length = s.size - i := by rw [List.length_drop, Array.length_toList]; rfl
  rw [h3, List.length_append] at h4
  omega
theorem Rd.next {s : ByteArray} {i j : Nat} {u : List UInt8} (h : Rd s i j u) : ∀ r, s.data.toList.drop i = u ++ r → s.data.toList.drop j = r := by
  intro r h3
  rw [h.2.1, ← List.drop_drop, h3, List.drop_left]
theorem Rd.app {s : ByteArray} {i j k : Nat} {u v : List UInt8} (h : Rd s i j u) (g : Rd s j k v) : Rd s i k (u ++ v) := by
  obtain ⟨r, h3⟩ := h.2.2
  obtain ⟨r', g3⟩ := g.2.2
  have h4 := h.next r h3
  refine ⟨h.1, by rw [g.2.1, h.2.1, List.length_append]; omega, r', ?_⟩
  rw [h3, ← h4, g3, List.append_assoc]
theorem Rd.part {s : ByteArray} {i k : Nat} {u v : List UInt8} (h : Rd s i k (u ++ v)) : ∃ j, Rd s i j u ∧ Rd s j k v := by
  have hle := h.le
  obtain ⟨h1, h2, r, h3⟩ := h
  rw [List.append_assoc] at h3
  have h4 : Rd s i (i + u.length) u := ⟨h1, rfl, v ++ r, h3⟩
  rw [List.length_append] at h2
  exact ⟨_, h4, by omega, by omega, r, h4.next _ h3⟩
theorem Rd.refl {s : ByteArray} {i : Nat} (h : i ≤ s.size) : Rd s i i [] := ⟨h, rfl, _, rfl⟩
theorem vrd_in {most n : Nat} {s : ByteArray} {i j : Nat} (h : Rd s i j (dg n)) (hn : n ≤ most) (h2 : n < 18446744073709551616) : vrd most s i = (n, (j : Int), 0) := by
  obtain ⟨h1, h3, r, h4⟩ := h
  unfold vrd
  rw [if_neg (by omega), Int.toNat_natCast, h4, rdV_in hn h2]
  congr 2
  omega
theorem vrd_out {most n : Nat} {s : ByteArray} {i : Nat} {j : Int} (h : vrd most s i = (n, j, 0)) : ∃ k : Nat, j = k ∧ Rd s i k (dg n) ∧ n ≤ most := by
  unfold vrd at h
  split at h
  · injection h with _ h; injection h with _ h; exact absurd h (by decide)
  · rename_i hb
    rw [Int.toNat_natCast] at h
    obtain ⟨v, u, r, e1, e2, e3, e4, e5⟩ := rdV_out (most := most) (s.data.toList.drop i) true 0 i (by rw [h]) (fun _ => rfl) (fun h => nomatch h)
    rw [h] at e1
    injection e1 with e6 e7
    injection e7 with e7 _
    subst e6
    rw [dgC_zero, List.nil_append] at e5
    exact ⟨i + u.length, by omega, ⟨by omega, by rw [e5], r, by rw [e5]; exact e2⟩, e3⟩
theorem rdN_in {n : Int} {s : ByteArray} {i j : Nat} (h0 : 0 ≤ n) (h1 : n ≤ 9223372036854775807) (h : Rd s i j (nb n)) : rdN s i 0 = (n, (j : Int), 0) := by
  unfold nb at h
  rw [if_pos h0] at h
  have := vrd_in (most := 9223372036854775807) h (by omega) (by omega)
  unfold rdN
  rw [if_pos rfl, this]
  congr 1
  omega
theorem rdN_out {n : Int} {s : ByteArray} {i : Nat} {j b : Int} (h : rdN s i b = (n, j, 0)) : b = 0 ∧ ∃ k : Nat, j = k ∧ Rd s i k (nb n) ∧ 0 ≤ n ∧ n ≤ 9223372036854775807 := by
  unfold rdN at h
  split at h
  · rename_i hb
    obtain ⟨v, j', b', e⟩ : ∃ v j' b', vrd 9223372036854775807 s i = (v, j', b') := ⟨_, _, _, rfl⟩
    rw [e] at h
    injection h with h1 h2
    injection h2 with h2 h3
    subst h3
    obtain ⟨k, h4, h5, h6⟩ := vrd_out e
    refine ⟨hb, k, by rw [← h2]; exact h4, ?_, by omega, by omega⟩
    unfold nb
    rw [if_pos (by omega), ← h1, Int.toNat_natCast]
    exact h5
  · rename_i hb
    injection h with h1 h2
    injection h2 with h2 h3
    exact absurd h3 hb
theorem rdZ_in {n : Int} {s : ByteArray} {i j : Nat} (h1 : i64P n) (h : Rd s i j (dg (foldZ n))) : rdZ s i 0 = (n, (j : Int), 0) := by
  have hl := foldZ_lt h1.1 h1.2
  have := vrd_in (most := 18446744073709551615) h (by omega) hl
  unfold rdZ
  rw [if_pos rfl, this]
  dsimp only
  rw [unf_fold]
theorem rdZ_out {n : Int} {s : ByteArray} {i : Nat} {j b : Int} (h : rdZ s i b = (n, j, 0)) : b = 0 ∧ ∃ k : Nat, j = k ∧ Rd s i k (dg (foldZ n)) ∧ i64P n := by
  unfold rdZ at h
  split at h
  · rename_i hb
    obtain ⟨v, j', b', e⟩ : ∃ v j' b', vrd 18446744073709551615 s i = (v, j', b') := ⟨_, _, _, rfl⟩
    rw [e] at h
    injection h with h1 h2
    injection h2 with h2 h3
    subst h3
    obtain ⟨k, h4, h5, h6⟩ := vrd_out e
    refine ⟨hb, k, by rw [← h2]; exact h4, ?_, ?_⟩
    · rw [← h1, fold_unf]; exact h5
    · rw [← h1]; exact unf_in h6
  · rename_i hb
    injection h with h1 h2
    injection h2 with h2 h3
    exact absurd h3 hb
theorem ext_of {s : ByteArray} {i j : Nat} {k : ByteArray} (h : Rd s i j k.data.toList) : s.extract i (i + k.size) = k := by
  obtain ⟨h1, h2, r, h3⟩ := h
  apply ByteArray.ext
  apply Array.ext'
  have hk : k.data.toList.length = k.size := Array.length_toList
  rw [ByteArray.data_extract, Array.toList_extract, List.extract_eq_take_drop, h3, show i + k.size - i = k.data.toList.length by omega]
  exact List.take_left
theorem of_ext {s : ByteArray} {i n : Nat} (h : i + n ≤ s.size) : Rd s i (i + n) (s.extract i (i + n)).data.toList ∧ (s.extract i (i + n)).size = n := by
  have hs : (s.extract i (i + n)).size = n := by
    rw [ByteArray.size_extract]; omega
  have hl : (s.extract i (i + n)).data.toList = (s.data.toList.drop i).take n := by
    rw [ByteArray.data_extract, Array.toList_extract, List.extract_eq_take_drop, show i + n - i = n by omega]
  refine ⟨⟨by omega, ?_, (s.data.toList.drop i).drop n, ?_⟩, hs⟩
  · have : (s.extract i (i + n)).data.toList.length = (s.extract i (i + n)).size := Array.length_toList
    rw [this, hs]
  · rw [hl, List.take_append_drop]
theorem rdX_in {k : ByteArray} {s : ByteArray} {i j : Nat} (hk : k.size ≤ 4096) (h : Rd s i j (dg k.size ++ k.data.toList)) : rdX s i 0 = (k, (j : Int), 0) := by
  obtain ⟨m, h1, h2⟩ := h.part
  have h3 := vrd_in (most := 9223372036854775807) h1 (by omega) (by omega)
  have hj : j = m + k.size := by rw [h2.2.1, Array.length_toList]; rfl
  have hle := h2.le
  have hx := ext_of h2
  unfold rdX gtx
  rw [if_pos rfl, h3]
  dsimp only
  rw [if_neg (by simp), if_neg (by omega), if_neg (by omega), Int.toNat_natCast, hx]
  congr 2
  omega
theorem rdX_out {k : ByteArray} {s : ByteArray} {i : Nat} {j b : Int} (h : rdX s i b = (k, j, 0)) : b = 0 ∧ ∃ m : Nat, j = m ∧ Rd s i m (dg k.size ++ k.data.toList) ∧ k.size ≤ 4096 := by
  unfold rdX at h
  split at h
  · rename_i hb
    unfold gtx at h
    obtain ⟨v, j', b', e⟩ : ∃ v j' b', vrd 9223372036854775807 s i = (v, j', b') := ⟨_, _, _, rfl⟩
    rw [e] at h
    dsimp only at h
    split at h
    · rename_i h1
      injection h with _ h2; injection h2 with _ h2
      exact absurd h2 h1
    rename_i h1
    have h1 : b' = 0 := by omega
    subst h1
    obtain ⟨m, rfl, h5, h6⟩ := vrd_out e
    split at h
    · injection h with _ h2; injection h2 with _ h2; exact absurd h2 (by decide)
    rename_i h7
    split at h
    · injection h with _ h2; injection h2 with _ h2; exact absurd h2 (by decide)
    rename_i h8
    injection h with h2 h3
    injection h3 with h3 _
    rw [Int.toNat_natCast] at h2
    obtain ⟨g1, g2⟩ := of_ext (s := s) (i := m) (n := v) (by omega)
    rw [h2] at g1 g2
    refine ⟨hb, m + v, by omega, ?_, by omega⟩
    rw [g2]
    exact h5.app g1
  · rename_i hb
    injection h with _ h2; injection h2 with _ h2
    exact absurd h2 hb
theorem nbs3 (a b c : Int) : nbs [a, b, c] = nb a ++ (nb b ++ nb c) := by simp [nbs]
theorem rdP_in {p : Pn} {s : ByteArray} {i j : Nat} (hm : mayB p = true) (hI : PI p) (h : Rd s i j (pnB p)) : rdP s i = (p, (j : Int), 0) := by
  have hk := may_key hm
  unfold pnB at h
  rw [nbs3] at h
  obtain ⟨i3, h, hab⟩ := h.part
  obtain ⟨i1, hx, h⟩ := h.part
  obtain ⟨i2, h2, h⟩ := h.part
  obtain ⟨i4, h3, h4⟩ := h.part
  obtain ⟨i5, h5, h6⟩ := hab.part
  have e1 := rdX_in (by omega) hx
  have e2 := rdN_in (by omega) hI.lo.2 h2
  have e3 := rdN_in (by omega) hI.hi.2 h3
  have e4 := rdN_in (by omega) hI.n.2 h4
  have e5 := rdZ_in hI.a h5
  have e6 := rdZ_in hI.b h6
  simp only [rdP, e1, e2, e3, e4, e5, e6]
theorem rdP_out {p : Pn} {s : ByteArray} {i : Nat} {j : Int} (h : rdP s i = (p, j, 0)) : ∃ k : Nat, j = k ∧ Rd s i k (pnB p) ∧ PI p := by
  obtain ⟨k, i1, b1, e1⟩ : ∃ n a b, rdX s i 0 = (n, a, b) := ⟨_, _, _, rfl⟩
  obtain ⟨lo, i2, b2, e2⟩ : ∃ n a b, rdN s i1 b1 = (n, a, b) := ⟨_, _, _, rfl⟩
  obtain ⟨hi, i3, b3, e3⟩ : ∃ n a b, rdN s i2 b2 = (n, a, b) := ⟨_, _, _, rfl⟩
  obtain ⟨n, i4, b4, e4⟩ : ∃ n a b, rdN s i3 b3 = (n, a, b) := ⟨_, _, _, rfl⟩
  obtain ⟨x, i5, b5, e5⟩ : ∃ n a b, rdZ s i4 b4 = (n, a, b) := ⟨_, _, _, rfl⟩
  obtain ⟨y, i6, b6, e6⟩ : ∃ n a b, rdZ s i5 b5 = (n, a, b) := ⟨_, _, _, rfl⟩
  simp only [rdP, e1, e2, e3, e4, e5, e6] at h
  injection h with hp h
  injection h with hj hb
  subst hb
  have back : ∀ {α : Type} (b : Int) (i : Int), b ≠ 0 → rdZ s i b = (0, i, b) := fun b i h => by unfold rdZ; rw [if_neg h]
  have backN : ∀ (b : Int) (i : Int), b ≠ 0 → rdN s i b = (0, i, b) := fun b i h => by unfold rdN; rw [if_neg h]
  have c5 : b5 = 0 := by
    by_cases h : b5 = 0
    · exact h
    · rw [back (α := Unit) b5 i5 h] at e6
      injection e6 with _ e; injection e with _ e
  have c4 : b4 = 0 := by
    by_cases h : b4 = 0
    · exact h
    · rw [back (α := Unit) b4 i4 h, c5] at e5
      injection e5 with _ e; injection e with _ e
  have c3 : b3 = 0 := by
    by_cases h : b3 = 0
    · exact h
    · rw [backN b3 i3 h, c4] at e4
      injection e4 with _ e; injection e with _ e
  have c2 : b2 = 0 := by
    by_cases h : b2 = 0
    · exact h
    · rw [backN b2 i2 h, c3] at e3
      injection e3 with _ e; injection e with _ e
  have c1 : b1 = 0 := by
    by_cases h : b1 = 0
    · exact h
    · rw [backN b1 i1 h, c2] at e2
      injection e2 with _ e; injection e with _ e
  subst c1 c2 c3 c4 c5
  obtain ⟨_, k1, rfl, r1, q1⟩ := rdX_out e1
  obtain ⟨_, k2, rfl, r2, q2⟩ := rdN_out e2
  obtain ⟨_, k3, rfl, r3, q3⟩ := rdN_out e3
  obtain ⟨_, k4, rfl, r4, q4⟩ := rdN_out e4
  obtain ⟨_, k5, rfl, r5, q5⟩ := rdZ_out e5
  obtain ⟨_, k6, rfl, r6, q6⟩ := rdZ_out e6
  refine ⟨k6, hj.symm, ?_, ?_⟩
  · rw [← hp]
    unfold pnB
    rw [nbs3]
    exact (r1.app (r2.app (r3.app r4))).app (r5.app r6)
  · rw [← hp]
    unfold i64P at *
    exact ⟨⟨by dsimp only; omega, by dsimp only; omega⟩, ⟨by dsimp only; omega, by dsimp only; omega⟩, ⟨by dsimp only; omega, by dsimp only; omega⟩, q5, q6⟩
theorem rdPs_in {s : ByteArray} : ∀ (ps : List Pn) (i j : Nat) (qs : List Pn), (∀ p ∈ ps, mayB p = true ∧ PI p) → Rd s i j (psB ps) → rdPs s ps.length i qs = (qs ++ ps, (j : Int), 0)
  | [], i, j, qs, _, h => by
    have : j = i := h.2.1
    subst this
    simp [rdPs]
  | p :: ps, i, j, qs, hp, h => by
    have e : psB (p :: ps) = pnB p ++ psB ps := by simp [psB]
    rw [e] at h
    obtain ⟨k, h1, h2⟩ := h.part
    have h3 := rdP_in (hp p (by simp)).1 (hp p (by simp)).2 h1
    have h4 := rdPs_in ps k j (qs ++ [p]) (fun x hx => hp x (by simp [hx])) h2
    simp only [List.length_cons, rdPs, h3, if_true]
    rw [h4, List.append_assoc]; rfl
theorem rdPs_out {s : ByteArray} : ∀ (m : Nat) (i : Nat) (qs ps : List Pn) (j : Int), rdPs s m i qs = (ps, j, 0) → i ≤ s.size → ∃ (l : List Pn) (k : Nat), ps = qs ++ l ∧ l.length = m ∧ j = k ∧ Rd s i k (psB l) ∧ ∀ p ∈ l, PI p
  | 0, i, qs, ps, j, h, hi => by
    simp only [rdPs] at h
    injection h with h1 h
    injection h with h2 _
    exact ⟨[], i, by rw [← h1]; simp, rfl, h2.symm, Rd.refl hi, by simp⟩
  | m + 1, i, qs, ps, j, h, hi => by
    simp only [rdPs] at h
    split at h
    · rename_i hb
      obtain ⟨p, i1, b1, e⟩ : ∃ p a b, rdP s i = (p, a, b) := ⟨_, _, _, rfl⟩
      rw [e] at h hb
      dsimp only at h hb
      subst hb
      obtain ⟨k, rfl, r1, q1⟩ := rdP_out e
      obtain ⟨l, k2, h1, h2, h3, h4, h5⟩ := rdPs_out m k _ _ _ h r1.le
      refine ⟨p :: l, k2, by rw [h1, List.append_assoc]; rfl, by simp [h2], h3, ?_, fun x hx => ?_⟩
      · have e2 : psB (p :: l) = pnB p ++ psB l := by simp [psB]
        rw [e2]
        exact r1.app h4
      · rcases List.mem_cons.1 hx with rfl | hx
        · exact q1
        · exact h5 x hx
    · rename_i hb
      injection h with _ h
      injection h with _ h
      exact absurd h hb
end Go.Proofs.Ythlimflfglkpiaa
