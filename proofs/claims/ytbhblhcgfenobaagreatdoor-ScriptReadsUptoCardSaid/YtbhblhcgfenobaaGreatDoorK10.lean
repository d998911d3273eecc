/-
  The reference's reading of jobs: a word and its numbers, as plain functions. Plain.
-/
import Derived.Test.YtbhblhcgfenobaaGreatDoorK4
import Derived.Test.YtbhblhcgfenobaaGreatDoorK9
namespace Go.Proofs.YtbhblhcgfenobaaGreatDoor
open Go.RowKit
set_option linter.unusedSimpArgs false
set_option linter.unusedVariables false
def spR : ByteArray := ⟨#[32]⟩
def nlB : ByteArray := ⟨#[10]⟩
/-- one round: the number, what is left, does it stand -/
noncomputable def rdS (s : ByteArray) : Int × ByteArray × Bool := ((numS (aftS s spR).1).1, (numS (aftS s spR).1).2.1, (aftS s spR).2 && (numS (aftS s spR).1).2.2)
theorem aftS_out {s b : ByteArray} (h : (aftS s b).2 = true) : ∃ r, s.data.toList = b.data.toList ++ r ∧ aftS s b = (mkB r, true) := by
  by_cases hx : ∃ r, s.data.toList = b.data.toList ++ r
  · obtain ⟨r, hr⟩ := hx
    exact ⟨r, hr, aftS_yes hr⟩
  · rw [aftS_no hx] at h; cases h
theorem dg_uniq : ∀ (d d' r r' : List UInt8), d ++ r = d' ++ r' → (∀ c ∈ d, isD c = true) → (∀ c ∈ d', isD c = true) → (∀ c t, r = c :: t → isD c = false) → (∀ c t, r' = c :: t → isD c = false) → d = d' ∧ r = r'
  | [], [], r, r', h, _, _, _, _ => ⟨rfl, h⟩
  | [], c :: d', r, r', h, _, h2, h3, _ => by
    have := h3 c (d' ++ r') h
    rw [h2 c (by simp)] at this; cases this
  | c :: d, [], r, r', h, h1, _, _, h4 => by
    have := h4 c (d ++ r) h.symm
    rw [h1 c (by simp)] at this; cases this
  | a :: d, b :: d', r, r', h, h1, h2, h3, h4 => by
    injection h with e h
    obtain ⟨e1, e2⟩ := dg_uniq d d' r r' h (fun c hc => h1 c (by simp [hc])) (fun c hc => h2 c (by simp [hc])) h3 h4
    exact ⟨by rw [e, e1], e2⟩
theorem itoB_nat (u : Nat) : (itoB (u : Int)).data.toList = Lib.decDigits u := by unfold itoB; rw [Lib.itoa_nonneg]
theorem isD_dig {u : Nat} : ∀ c ∈ Lib.decDigits u, isD c = true := fun c hc => isD_iff.2 (dig_all u c hc)
theorem head_dig : ∀ (u : Nat), 1 < (Lib.decDigits u).length → (Lib.decDigits u).head? ≠ some 48 := by
  intro u
  induction u using Nat.strongRecOn with
  | _ u ih =>
    intro h
    rw [Lib.decDigits] at h ⊢
    split at h
    · simp at h
    · rename_i hu
      rw [dif_neg hu]
      by_cases h1 : u / 10 < 10
      · rw [Lib.decDigits, dif_pos h1]
        simp only [List.cons_append, List.head?_cons, ne_eq, Option.some.injEq]
        intro e
        have := dig_one (u / 10) h1
        rw [e] at this
        have e2 : (48 : UInt8).toNat = 48 := rfl
        omega
      · have hlen : 1 < (Lib.decDigits (u / 10)).length := by
          rw [Lib.decDigits, dif_neg h1, List.length_append]
          have := dig_ne (u / 10 / 10)
          have : (Lib.decDigits (u / 10 / 10)).length ≠ 0 := fun e => this (List.eq_nil_of_length_eq_zero e)
          simp; omega
        have := ih (u / 10) (by omega) hlen
        cases hd : Lib.decDigits (u / 10) with
        | nil => exact absurd hd (dig_ne _)
        | cons a t => rw [hd] at this; simpa using this
theorem len_dig : ∀ (k u : Nat), u < 10 ^ k → 0 < k → (Lib.decDigits u).length ≤ k := by
  intro k
  induction k with
  | zero => intro u _ h; omega
  | succ k ih =>
    intro u hu _
    rw [Lib.decDigits]
    split
    · simp
    · rename_i h
      rw [Nat.pow_succ] at hu
      have hk : 0 < k := by
        rcases Nat.eq_zero_or_pos k with rfl | h
        · simp at hu; omega
        · exact h
      have := ih (u / 10) (by omega) hk
      simp; omega
theorem good_dig {u : Nat} (h : u ≤ 9223372036854775807) : ¬ badN (Lib.decDigits u) := by
  rintro (hb | ⟨h1, h2⟩ | hb | ⟨h1, h2⟩)
  · exact dig_ne u hb
  · exact head_dig u h1 h2
  · have := len_dig 19 u (by have : (10 : Nat) ^ 19 = 10000000000000000000 := by decide
                             omega) (by omega)
    omega
  · have h3 := less_val maxB.data.toList (Lib.decDigits u) (by rw [h1]; rfl) maxB_dig isD_dig
    rw [maxB_val, val_dig] at h3
    have := h3.1 h2
    omega
theorem bad_canon {d : List UInt8} (hall : ∀ c ∈ d, isD c = true) (h : ¬ badN d) : Lib.decDigits (valF 0 d) = d := by
  refine canon _ d rfl (fun e => h (.inl e)) hall fun h1 h2 => h (.inr (.inl ⟨h1, h2⟩))
theorem rdS_out {s : ByteArray} (h : (rdS s).2.2 = true) : ∃ n r, nn n ∧ s.data.toList = 32 :: ((itoB n).data.toList ++ r) ∧ rdS s = (n, mkB r, true) ∧ ∀ c t, r = c :: t → isD c = false := by
  have h' := h
  unfold rdS at h'
  simp only [Bool.and_eq_true] at h'
  obtain ⟨h1, h2⟩ := h'
  obtain ⟨r, hr, e⟩ := aftS_out h1
  rw [e] at h2
  unfold numS at h2
  split at h2
  · cases h2
  rename_i hb
  have hD := dg_of (mkB r)
  have hv := good_le hD.dig hb
  refine ⟨((valF 0 (dgD (mkB r)) : Nat) : Int), dgR (mkB r), ⟨by omega, by omega⟩, ?_, ?_, hD.stop⟩
  · rw [itoB_nat, bad_canon hD.dig hb, ← hD.eq, mkB_list, hr]; rfl
  · unfold rdS
    rw [e]
    dsimp only
    unfold numS
    rw [if_neg hb]; rfl
theorem rdS_in {n : Int} {r : List UInt8} (hn : nn n) (hr : ∀ c t, r = c :: t → isD c = false) : rdS (mkB (32 :: ((itoB n).data.toList ++ r))) = (n, mkB r, true) := by
  obtain ⟨u, rfl⟩ : ∃ u : Nat, n = u := ⟨n.toNat, by have := hn.1; omega⟩
  have e := aftS_yes (s := mkB (32 :: ((itoB (u : Int)).data.toList ++ r))) (b := spR) (r := (itoB (u : Int)).data.toList ++ r) rfl
  unfold rdS
  rw [e]
  dsimp only
  rw [itoB_nat]
  have hD := dg_of (mkB (Lib.decDigits u ++ r))
  obtain ⟨e1, e2⟩ := dg_uniq _ _ _ _ hD.eq.symm hD.dig isD_dig hD.stop hr
  have hu : u ≤ 9223372036854775807 := by have := hn.2; omega
  unfold numS
  rw [e1, e2, if_neg (good_dig hu), val_dig]; rfl
/-- so many numbers, or none -/
noncomputable def nsG : Nat → ByteArray → List Int → Option (List Int × ByteArray)
  | 0, s, out => some (out, s)
  | m + 1, s, out => if (rdS s).2.2 = true then nsG m (rdS s).2.1 (out ++ [(rdS s).1]) else none
noncomputable def nsT (s w : ByteArray) (m : Nat) : Option (List Int × ByteArray) := if (aftS s w).2 = true then nsG m (aftS s w).1 [] else none
noncomputable def nsR (s w : ByteArray) (m : Nat) : List Int × ByteArray × Bool := match nsT s w m with
  | none => ([], s, false)
  | some p => (p.1, (aftS p.2 nlB).1, (aftS p.2 nlB).2)
theorem ns1_out {k : Nat} {s : ByteArray} (h : (nsR s (wordK k) 1).2.2 = true) : ∃ n r, nn n ∧ s.data.toList = l1 k (itoB n) ++ 10 :: r ∧ nsR s (wordK k) 1 = ([n], mkB r, true) := by
  have h' := h
  unfold nsR nsT at h'
  split at h'
  · cases h'
  rename_i p hp
  split at hp
  · rename_i ha
    obtain ⟨r0, hr0, e0⟩ := aftS_out ha
    rw [e0] at hp
    simp only [nsG] at hp
    split at hp
    · rename_i h1
      obtain ⟨n, r1, hn, hr1, e1, _⟩ := rdS_out h1
      rw [e1] at hp
      injection hp with hp
      subst hp
      obtain ⟨r2, hr2, e2⟩ := aftS_out h'
      rw [mkB_list] at hr1 hr2
      refine ⟨n, r2, hn, ?_, ?_⟩
      · rw [hr0, hr1, hr2]
        have e3 : nlB.data.toList = [10] := rfl
        rw [e3]
        unfold l1
        simp
      · unfold nsR nsT
        rw [if_pos ha, e0]
        simp only [nsG, e1, if_true]
        dsimp only at e2 ⊢
        rw [List.nil_append, e2]
    · cases hp
  · cases hp
theorem ns1_in {k : Nat} {n : Int} {r : List UInt8} (hn : nn n) : nsR (mkB (l1 k (itoB n) ++ 10 :: r)) (wordK k) 1 = ([n], mkB r, true) := by
  have e0 := aftS_yes (s := mkB (l1 k (itoB n) ++ 10 :: r)) (b := wordK k) (r := 32 :: ((itoB n).data.toList ++ 10 :: r)) (by rw [mkB_list]; unfold l1; simp)
  have e1 := rdS_in (r := 10 :: r) hn fun c t h => by injection h with h _; rw [← h]; decide
  have e2 := aftS_yes (s := mkB (10 :: r)) (b := nlB) (r := r) rfl
  unfold nsR nsT
  rw [e0]
  simp only [nsG, e1, if_true]
  rw [List.nil_append, e2]
theorem ns2_out {k : Nat} {s : ByteArray} (h : (nsR s (wordK k) 2).2.2 = true) : ∃ n m r, nn n ∧ nn m ∧ s.data.toList = l2 k (itoB n) (itoB m) ++ 10 :: r ∧ nsR s (wordK k) 2 = ([n, m], mkB r, true) := by
  have h' := h
  unfold nsR nsT at h'
  split at h'
  · cases h'
  rename_i p hp
  split at hp
  · rename_i ha
    obtain ⟨r0, hr0, e0⟩ := aftS_out ha
    rw [e0] at hp
    simp only [nsG] at hp
    split at hp
    · rename_i h1
      obtain ⟨n, r1, hn, hr1, e1, _⟩ := rdS_out h1
      rw [e1] at hp
      dsimp only at hp
      split at hp
      · rename_i h2
        obtain ⟨m, r3, hm, hr3, e3, _⟩ := rdS_out h2
        rw [e3] at hp
        injection hp with hp
        subst hp
        obtain ⟨r2, hr2, e2⟩ := aftS_out h'
        rw [mkB_list] at hr1 hr2 hr3
        refine ⟨n, m, r2, hn, hm, ?_, ?_⟩
        · rw [hr0, hr1, hr3, hr2]
          have e3 : nlB.data.toList = [10] := rfl
          rw [e3]
          unfold l2
          simp
        · unfold nsR nsT
          rw [if_pos ha, e0]
          simp only [nsG, e1, e3, if_true]
          dsimp only at e2 ⊢
          rw [List.nil_append, e2]; rfl
      · cases hp
    · cases hp
  · cases hp
theorem ns2_in {k : Nat} {n m : Int} {r : List UInt8} (hn : nn n) (hm : nn m) : nsR (mkB (l2 k (itoB n) (itoB m) ++ 10 :: r)) (wordK k) 2 = ([n, m], mkB r, true) := by
  have e0 := aftS_yes (s := mkB (l2 k (itoB n) (itoB m) ++ 10 :: r)) (b := wordK k) (r := 32 :: ((itoB n).data.toList ++ 32 :: ((itoB m).data.toList ++ 10 :: r))) (by rw [mkB_list]; unfold l2; simp)
  have e1 := rdS_in (r := 32 :: ((itoB m).data.toList ++ 10 :: r)) hn fun c t h => by injection h with h _; rw [← h]; decide
  have e3 := rdS_in (r := 10 :: r) hm fun c t h => by injection h with h _; rw [← h]; decide
  have e2 := aftS_yes (s := mkB (10 :: r)) (b := nlB) (r := r) rfl
  unfold nsR nsT
  rw [e0]
  simp only [nsG, e1, e3, if_true]
  rw [List.nil_append, e2]; rfl
/-- the third line -/
def foW : ByteArray := ⟨#[102, 111, 108, 100, 32]⟩
def foB (q : Nat) : ByteArray := (foW ++ nmQ q) ++ nlB
theorem foB_list (q : Nat) : (foB q).data.toList = l1 3 (nmQ q) ++ [10] := by
  have e3 : nlB.data.toList = [10] := rfl
  have e4 : (wordK 3).data.toList = [102, 111, 108, 100] := rfl
  have e5 : foW.data.toList = [102, 111, 108, 100, 32] := rfl
  unfold foB l1
  simp only [ByteArray.data_append, Array.toList_append, e3, e4, e5]
  simp
noncomputable def foS (s : ByteArray) : Int × ByteArray × Bool :=
  if (aftS s (foB 0)).2 = true then (1, (aftS s (foB 0)).1, true) else
  if (aftS s (foB 1)).2 = true then (2, (aftS s (foB 1)).1, true) else
  if (aftS s (foB 2)).2 = true then (3, (aftS s (foB 2)).1, true) else
  if (aftS s (foB 3)).2 = true then (4, (aftS s (foB 3)).1, true) else
  if (aftS s (foB 4)).2 = true then (5, (aftS s (foB 4)).1, true) else (0, s, false)
theorem fo_apart {q q' : Nat} {r r' : List UInt8} (hq : q < 5) (hq' : q' < 5) (hne : q' ≠ q) : (mkB (l1 3 (nmQ q) ++ 10 :: r)).data.toList ≠ (foB q').data.toList ++ r' := by
  rw [mkB_list, foB_list]
  intro h
  have e4 : (wordK 3).data.toList = [102, 111, 108, 100] := rfl
  have e0 : (nmQ 0).data.toList = [99, 111, 117, 110, 116] := rfl
  have e1 : (nmQ 1).data.toList = [115, 117, 109] := rfl
  have e2 : (nmQ 2).data.toList = [108, 101, 97, 115, 116] := rfl
  have e3 : (nmQ 3).data.toList = [103, 114, 101, 97, 116, 101, 115, 116] := rfl
  have e5 : (nmQ 4).data.toList = [115, 112, 114, 101, 97, 100] := rfl
  unfold l1 at h
  rcases q with _ | _ | _ | _ | _ | q <;> rcases q' with _ | _ | _ | _ | _ | q' <;> first | omega | (simp only [Nat.zero_add, Nat.reduceAdd, e0, e1, e2, e3, e4, e5] at h; revert h; simp)
theorem fo_in {q : Nat} {r : List UInt8} (hq : q < 5) : foS (mkB (l1 3 (nmQ q) ++ 10 :: r)) = ((q : Int) + 1, mkB r, true) := by
  have hy : aftS (mkB (l1 3 (nmQ q) ++ 10 :: r)) (foB q) = (mkB r, true) := aftS_yes (by rw [mkB_list, foB_list]; simp)
  have hn : ∀ q', q' < 5 → q' ≠ q → aftS (mkB (l1 3 (nmQ q) ++ 10 :: r)) (foB q') = (mkB (l1 3 (nmQ q) ++ 10 :: r), false) := fun q' h1 h2 => aftS_no fun ⟨r', h⟩ => fo_apart hq h1 h2 h
  unfold foS
  rcases q with _ | _ | _ | _ | _ | q
  · rw [hy]; rfl
  · rw [hn 0 (by omega) (by omega), hy]; rfl
  · rw [hn 0 (by omega) (by omega), hn 1 (by omega) (by omega), hy]; rfl
  · rw [hn 0 (by omega) (by omega), hn 1 (by omega) (by omega), hn 2 (by omega) (by omega), hy]; rfl
  · rw [hn 0 (by omega) (by omega), hn 1 (by omega) (by omega), hn 2 (by omega) (by omega), hn 3 (by omega) (by omega), hy]; rfl
  · omega
theorem fo_hit {q : Nat} {s : ByteArray} (h : (aftS s (foB q)).2 = true) : ∃ r, s.data.toList = l1 3 (nmQ q) ++ 10 :: r := by
  obtain ⟨r, hr, _⟩ := aftS_out h
  exact ⟨r, by rw [hr, foB_list]; simp⟩
theorem fo_out {s : ByteArray} (h : (foS s).2.2 = true) : ∃ (q : Nat) (r : List UInt8), q < 5 ∧ s.data.toList = l1 3 (nmQ q) ++ 10 :: r ∧ foS s = ((q : Int) + 1, mkB r, true) := by
  have key : ∃ (q : Nat) (r : List UInt8), q < 5 ∧ s.data.toList = l1 3 (nmQ q) ++ 10 :: r := by
    by_cases h0 : (aftS s (foB 0)).2 = true
    · obtain ⟨r, hr⟩ := fo_hit h0; exact ⟨0, r, by omega, hr⟩
    by_cases h1 : (aftS s (foB 1)).2 = true
    · obtain ⟨r, hr⟩ := fo_hit h1; exact ⟨1, r, by omega, hr⟩
    by_cases h2 : (aftS s (foB 2)).2 = true
    · obtain ⟨r, hr⟩ := fo_hit h2; exact ⟨2, r, by omega, hr⟩
    by_cases h3 : (aftS s (foB 3)).2 = true
    · obtain ⟨r, hr⟩ := fo_hit h3; exact ⟨3, r, by omega, hr⟩
    by_cases h4 : (aftS s (foB 4)).2 = true
    · obtain ⟨r, hr⟩ := fo_hit h4; exact ⟨4, r, by omega, hr⟩
    unfold foS at h
    rw [if_neg h0, if_neg h1, if_neg h2, if_neg h3, if_neg h4] at h
    cases h
  obtain ⟨q, r, hq, hs⟩ := key
  have e : s = mkB (l1 3 (nmQ q) ++ 10 :: r) := by rw [← hs]; rfl
  refine ⟨q, r, hq, hs, ?_⟩
  rw [e]; exact fo_in hq
/-! each line: both sides say the same -/
theorem back_s {s : ByteArray} {l : List UInt8} (h : s.data.toList = l) : s = mkB l := by rw [← h]; rfl
theorem pars_miss {n k : Nat} {j : J8} {s : ByteArray} (h : ¬ (cutC s nl1 = true ∧ (step k (cutA s nl1) j).2 = true)) : pars (n + 1) k j s = (zJ, 131, (k : Int)) := by
  unfold pars; rw [if_neg h]
theorem hit1 {s : ByteArray} {j : J8} (h : cutC s nl1 = true ∧ (step 1 (cutA s nl1) j).2 = true) : (nsR s (wordK 1) 1).2.2 = true := by
  obtain ⟨n, hn, e, _⟩ := in_groups h.2
  have := cut_yes h.1
  rw [e] at this
  rw [back_s this, ns1_in hn]
theorem hit2 {s : ByteArray} {j : J8} (h : cutC s nl1 = true ∧ (step 2 (cutA s nl1) j).2 = true) : (nsR s (wordK 2) 2).2.2 = true := by
  obtain ⟨n, m, hn, hm, e, _⟩ := in_window h.2
  have := cut_yes h.1
  rw [e] at this
  rw [back_s this, ns2_in hn hm]
theorem hit3 {s : ByteArray} {j : J8} (h : cutC s nl1 = true ∧ (step 3 (cutA s nl1) j).2 = true) : (foS s).2.2 = true := by
  obtain ⟨q, hq, e, _⟩ := in_fold h.2
  have := cut_yes h.1
  rw [e] at this
  rw [back_s this, fo_in hq]
theorem hit4 {s : ByteArray} {j : J8} (h : cutC s nl1 = true ∧ (step 4 (cutA s nl1) j).2 = true) : (nsR s (wordK 4) 2).2.2 = true := by
  obtain ⟨n, m, hn, hm, e, _⟩ := in_loop h.2
  have := cut_yes h.1
  rw [e] at this
  rw [back_s this, ns2_in hn hm]
theorem hit5 {s : ByteArray} {j : J8} (h : cutC s nl1 = true ∧ (step 5 (cutA s nl1) j).2 = true) : (nsR s (wordK 5) 1).2.2 = true := by
  obtain ⟨n, hn, e, _⟩ := in_delay h.2
  have := cut_yes h.1
  rw [e] at this
  rw [back_s this, ns1_in hn]
theorem hit6 {s : ByteArray} {j : J8} (h : cutC s nl1 = true ∧ (step 6 (cutA s nl1) j).2 = true) : (nsR s (wordK 6) 1).2.2 = true := by
  obtain ⟨n, hn, e, _⟩ := in_idle h.2
  have := cut_yes h.1
  rw [e] at this
  rw [back_s this, ns1_in hn]
theorem go1 {N : Nat} {j : J8} {n : Int} {r : List UInt8} (hn : nn n) : pars (N + 1) 1 j (mkB (l1 1 (itoB n) ++ 10 :: r)) = pars N 2 { j with g := smallV n } (mkB r) := by
  have b := num_back hn.1 hn.2
  exact pars_next (l1_no (no10 hn)) (by simp only [step]; rw [f1 1 (no32 hn)]; dsimp only; rw [b.1, b.2])
theorem go2 {N : Nat} {j : J8} {n m : Int} {r : List UInt8} (hn : nn n) (hm : nn m) : pars (N + 1) 2 j (mkB (l2 2 (itoB n) (itoB m) ++ 10 :: r)) = pars N 3 { j with s := n, d := m } (mkB r) := by
  have b := num_back hn.1 hn.2
  have c := num_back hm.1 hm.2
  exact pars_next (l2_no (no10 hn) (no10 hm)) (by simp only [step]; rw [f2 2 (no32 hn) (no32 hm)]; dsimp only; rw [b.1, b.2, c.1, c.2]; rfl)
theorem go3 {N : Nat} {j : J8} {q : Nat} {r : List UInt8} (hq : q < 5) : pars (N + 1) 3 j (mkB (l1 3 (nmQ q) ++ 10 :: r)) = pars N 4 { j with k := (q : Int) + 1 } (mkB r) := by
  obtain ⟨m1, m2, m3⟩ := nm_no q hq
  exact pars_next (l1_no m2) (by simp only [step]; rw [f1 3 m1]; dsimp only; rw [m3, decide_eq_true (by omega)])
theorem go4 {N : Nat} {j : J8} {n m : Int} {r : List UInt8} (hn : nn n) (hm : nn m) : pars (N + 1) 4 j (mkB (l2 4 (itoB n) (itoB m) ++ 10 :: r)) = pars N 5 { j with li := n, fu := smallV m } (mkB r) := by
  have b := num_back hn.1 hn.2
  have c := num_back hm.1 hm.2
  exact pars_next (l2_no (no10 hn) (no10 hm)) (by simp only [step]; rw [f2 4 (no32 hn) (no32 hm)]; dsimp only; rw [b.1, b.2, c.1, c.2]; rfl)
theorem go5 {N : Nat} {j : J8} {n : Int} {r : List UInt8} (hn : nn n) : pars (N + 1) 5 j (mkB (l1 5 (itoB n) ++ 10 :: r)) = pars N 6 { j with de := n } (mkB r) := by
  have b := num_back hn.1 hn.2
  exact pars_next (l1_no (no10 hn)) (by simp only [step]; rw [f1 5 (no32 hn)]; dsimp only; rw [b.1, b.2])
theorem go6 {N : Nat} {j : J8} {n : Int} {r : List UInt8} (hn : nn n) : pars (N + 1) 6 j (mkB (l1 6 (itoB n) ++ 10 :: r)) = pars N 7 { j with id := smallV n } (mkB r) := by
  have b := num_back hn.1 hn.2
  exact pars_next (l1_no (no10 hn)) (by simp only [step]; rw [f1 6 (no32 hn)]; dsimp only; rw [b.1, b.2])
end Go.Proofs.YtbhblhcgfenobaaGreatDoor
