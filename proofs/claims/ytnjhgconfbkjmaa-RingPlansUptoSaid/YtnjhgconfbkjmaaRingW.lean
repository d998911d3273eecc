/-
  Walks of layer ring (its part without the library) and of its reference.
-/
import Derived.Test.YtnjhgconfbkjmaaRows
import Derived.Test.YtnjhgconfbkjmaaApp
import Derived.Test.YtnjhgconfbkjmaaRingS
import Derived.Laws.BitsAllLaws
namespace Go.Proofs.Ytnjhgconfbkjmaa
open Go.RowKit
set_option linter.unusedSimpArgs false
set_option linter.unusedVariables false
attribute [local go_sem ↓] Go.wp_at_zero Go.wp_at_succ

theorem bytes_snoc (s : ByteArray) (k : Nat) (h : k < s.size) : s.data.toList.take (k + 1) = s.data.toList.take k ++ [s[k]] := by
  rw [List.take_succ_eq_append_getElem (by simpa using h)]; rfl
theorem h32 (q : Nat) (b : UInt8) (hq : q < 4294967296) : bits .xor .u32 (q : Int) ((b.toNat : Int) % 4294967296) * 16777619 % 4294967296 = ((hStep q b : Nat) : Int) := by
  have hb : b.toNat < 256 := b.toNat_lt
  rw [show ((b.toNat : Int) % 4294967296) = (b.toNat : Int) from by omega, u32_xor_nat q b.toNat hq (by omega)]
  unfold hStep
  omega

theorem h64 (q : Nat) (b : UInt8) (hq : q < 4294967296) : (IntKind.u64.wrap (bits .xor .u64 (q : Int) (IntKind.u64.wrap (b.toNat : Int)) * 16777619)).tmod 4294967296 = ((hStep q b : Nat) : Int) := by
  have hb : b.toNat < 256 := b.toNat_lt
  have hx : q ^^^ b.toNat < 2 ^ 32 := Nat.xor_lt_two_pow (by omega) (by omega)
  rw [show IntKind.u64.wrap (b.toNat : Int) = (b.toNat : Int) from by rw [IntKind.wrap_u64]; omega, u64_xor_nat q b.toNat (by omega) (by omega)]
  rw [show IntKind.u64.wrap (((q ^^^ b.toNat : Nat) : Int) * 16777619) = ((q ^^^ b.toNat : Nat) : Int) * 16777619 from by rw [IntKind.wrap_u64]; omega]
  rw [Int.tmod_eq_emod_of_nonneg (by omega)]
  unfold hStep
  omega

theorem ring_Hash (s : ByteArray) (w : World) (hs : s.size ≤ 1000000) :
    Calls Try.prog 11 #[.string s] w fun e w' => ∃ q : Nat, Hid (q = hashN s.data.toList) ∧ e = .returned (.int .u32 q) ∧ w = w' := by
  have hs' : (s.size : Int) ≤ 1000000 := by omega
  go_enter Try.func11, Try.ntmps11
  go_wp2
  go_loop [3, 7] (fun h i => ∃ (k q : Nat), k ≤ s.size ∧ i = .int .i64 k ∧ h = .int .u32 q ∧ Hid (q = hashN (s.data.toList.take k)) ∧ q < 4294967296) (fun _ i => s.size - (intOf i).toNat)
  case atStart => exact ⟨0, 2166136261, Nat.zero_le _, rfl, rfl, hide rfl, by omega⟩
  case round =>
    obtain ⟨k, q, hk, rfl, rfl, HQ, hq⟩ := hrel
    by_cases hlt : k < s.size
    · have hlt' : (k : Int) < s.size := by omega
      go_wp2
      go_round
      case rel =>
        refine ⟨k + 1, hStep q s[k], by omega, by go_num, ?_, hide ?_, hStep_lt _ _⟩
        · rw [h32 q s[k] hq]
        · rw [bytes_snoc s k hlt, hashN_snoc, ← HQ.out]
      case measure => simp [intOf]; omega
    · have hk' : k = s.size := by omega
      go_wp2
      go_ret
      refine ⟨q, ?_, rfl, rfl⟩
      subst hk'
      rw [List.take_of_length_le (by simp)] at HQ
      exact HQ

theorem ref11_Hash (s : ByteArray) (w : World) (hs : s.size ≤ 1000000) :
    Calls Try.prog 12 #[.string s] w fun e w' => ∃ q : Nat, Hid (q = hashN s.data.toList) ∧ e = .returned (.int .u32 q) ∧ w = w' := by
  have hs' : (s.size : Int) ≤ 1000000 := by omega
  go_enter Try.func12, Try.ntmps12
  go_wp2
  go_loop [3, 4] (fun h i => ∃ (k q : Nat), k ≤ s.size ∧ i = .int .i64 k ∧ h = .int .u64 q ∧ Hid (q = hashN (s.data.toList.take k)) ∧ q < 4294967296) (fun _ i => s.size - (intOf i).toNat)
  case atStart => exact ⟨0, 2166136261, Nat.zero_le _, rfl, rfl, hide rfl, by omega⟩
  case round =>
    obtain ⟨k, q, hk, rfl, rfl, HQ, hq⟩ := hrel
    by_cases hlt : k < s.size
    · have hlt' : (k : Int) < s.size := by omega
      go_wp2
      go_round
      case rel =>
        refine ⟨k + 1, hStep q s[k], by omega, by go_num, ?_, hide ?_, hStep_lt _ _⟩
        · rw [h64 q s[k] hq]
        · rw [bytes_snoc s k hlt, hashN_snoc, ← HQ.out]
      case measure => simp [intOf]; omega
    · have hk' : k = s.size := by omega
      have hq' : (q : Int) < 4294967296 := by omega
      go_wp2
      go_ret
      refine ⟨q, ?_, rfl, rfl⟩
      subst hk'
      rw [List.take_of_length_le (by simp)] at HQ
      exact HQ

theorem ring_Group (s : ByteArray) (g : Int) (w : World) (hs : s.size ≤ 1000000) (hg : -9223372036854775808 ≤ g ∧ g ≤ 9223372036854775807) :
    Calls Try.prog 13 #[.string s, .int .i64 g] w fun e w' => e = .returned (.int .i64 (grpV s.data.toList g)) ∧ w = w' := by
  by_cases h1 : g < 1
  · rw [grpV_low h1]
    go_enter Try.func13, Try.ntmps13
    go_wp2
    go_ret
    exact ⟨rfl, rfl⟩
  · rw [grpV_high h1]
    have h2 : 1 ≤ g := by omega
    have h3 := hg.2
    go_enter Try.func13, Try.ntmps13
    go_wp2_with fail
    refine (ring_Hash s _ hs).mono ?_
    rintro e w' ⟨q, HQ, rfl, rfl⟩
    have hq : (q : Int) < 4294967296 := by have := hashN_lt s.data.toList; have := HQ.out; omega
    have hq0 : 0 ≤ (q : Int) := by omega
    have z : (g == 0) = false := by simp; omega
    have hm0 : 0 ≤ (q : Int) % g := Int.emod_nonneg _ (by omega)
    have hm1 : (q : Int) % g < g := Int.emod_lt_of_pos _ (by omega)
    go_wp2
    go_ret
    refine ⟨?_, rfl⟩
    rw [HQ.out]; rfl

theorem ref11_Group (s : ByteArray) (g : Int) (w : World) (hs : s.size ≤ 1000000) (hg : -9223372036854775808 ≤ g ∧ g ≤ 9223372036854775807) :
    Calls Try.prog 14 #[.string s, .int .i64 g] w fun e w' => e = .returned (.int .i64 (grpV s.data.toList g)) ∧ w = w' := by
  by_cases h1 : g < 1
  · rw [grpV_low h1]
    go_enter Try.func14, Try.ntmps14
    go_wp2
    go_ret
    exact ⟨rfl, rfl⟩
  · rw [grpV_high h1]
    have h2 : 1 ≤ g := by omega
    have h3 := hg.2
    go_enter Try.func14, Try.ntmps14
    go_wp2_with fail
    refine (ref11_Hash s _ hs).mono ?_
    rintro e w' ⟨q, HQ, rfl, rfl⟩
    have hq : (q : Int) < 4294967296 := by have := hashN_lt s.data.toList; have := HQ.out; omega
    have hq0 : 0 ≤ (q : Int) := by omega
    have z : (g == 0) = false := by simp; omega
    have hm0 : 0 ≤ (q : Int) % g := Int.emod_nonneg _ (by omega)
    have hm1 : (q : Int) % g < g := Int.emod_lt_of_pos _ (by omega)
    go_wp2
    go_ret
    refine ⟨?_, rfl⟩
    rw [HQ.out]; rfl

theorem ring_Right (A : Option Addr) (n c : Nat) (xs : List Int) (B : Nat) (w : World) (HN : Hid (n = xs.length)) (hr : Reads w B 1 A n (xs.map (Value.int .i64))) (hn : n ≤ 1000000000) :
    Calls Try.prog 15 #[.slice A n c] w fun e w' => e = .returned (.bool (rightW xs)) ∧ w = w' := by
  have hn' : (n : Int) ≤ 1000000000 := by omega
  by_cases h1 : n < 1
  · have e : rightW xs = false := by unfold rightW; rw [← HN.out]; simp; omega
    rw [e]; clear e
    have h1' : (n : Int) < 1 := by omega
    go_enter Try.func15, Try.ntmps15
    go_wp2
    go_ret
    exact ⟨rfl, rfl⟩
  · by_cases h8 : 8 < n
    · have e : rightW xs = false := by unfold rightW; rw [← HN.out]; simp; omega
      rw [e]; clear e
      have h1' : ¬ (n : Int) < 1 := by omega
      have h8' : (8 : Int) < n := by omega
      go_enter Try.func15, Try.ntmps15
      go_wp2
      go_ret
      exact ⟨rfl, rfl⟩
    · have e : rightW xs = okTo xs n := by unfold rightW; rw [← HN.out]; have a1 : 1 ≤ n := (by omega); have a2 : n ≤ 8 := (by omega); simp [a1, a2]
      rw [e]; clear e
      have h1' : ¬ (n : Int) < 1 := by omega
      have h8' : ¬ (8 : Int) < n := by omega
      obtain ⟨b, off, rfl, hbB, hcell⟩ := hr.2 (by omega)
      go_enter Try.func15, Try.ntmps15
      go_wp2
      go_loop [15] (fun i => ∃ (k : Nat), k ≤ n ∧ i = .int .i64 k ∧ Hid (okTo xs k = true)) (fun i => n - (intOf i).toNat)
      case atStart => exact ⟨0, Nat.zero_le _, rfl, hide rfl⟩
      case round =>
        obtain ⟨k, hk, rfl, HK⟩ := hrel
        by_cases hlt : k < n
        · have hxk : k < xs.length := by rw [← HN.out]; exact hlt
          have hx : w.cell? ⟨b, off + k, none⟩ = some (.int .i64 xs[k]) := hcell k _ (by simp [hxk])
          have hlt' : (k : Int) < n := by omega
          have hk0 : (0 : Int) ≤ k := by omega
          have hs := okTo_succ xs k hxk
          rw [HK.out, Bool.true_and] at hs
          by_cases hv1 : xs[k] < 1
          · have HF := hide (okTo_false xs (k := k + 1) (n := n) (by omega) (by rw [hs]; simp; omega))
            generalize xs[k] = v at hx hv1
            clear hs hcell
            go_wp2
            go_ret
            rw [HF.out]
            exact ⟨rfl, rfl⟩
          · by_cases hv2 : 99 < xs[k]
            · have HF := hide (okTo_false xs (k := k + 1) (n := n) (by omega) (by rw [hs]; simp; omega))
              generalize xs[k] = v at hx hv1 hv2
              clear hs hcell
              go_wp2
              go_ret
              rw [HF.out]
              exact ⟨rfl, rfl⟩
            · by_cases hk1 : k = 0
              · have HT : Hid (okTo xs (k + 1) = true) := hide (by rw [hs]; simp; omega)
                subst hk1
                generalize xs[0] = v at hx hv1 hv2
                simp only [Nat.add_zero] at hx
                clear hs hcell
                go_wp2
                go_round
                case rel => exact ⟨1, by omega, by go_num, HT⟩
                case measure => simp [intOf]; omega
              · have hkp : (0 : Int) < k := by omega
                have hp : w.cell? ⟨b, off + (k - 1), none⟩ = some (.int .i64 xs[k - 1]) := hcell (k - 1) _ (by simp [show k - 1 < xs.length by omega])
                have et : ((k : Int) - 1).toNat = k - 1 := by omega
                by_cases hpv : xs[k] ≤ xs[k - 1]
                · have HF := hide (okTo_false xs (k := k + 1) (n := n) (by omega) (by rw [hs]; simp; omega))
                  generalize xs[k] = v at hx hv1 hv2 hpv
                  generalize xs[k - 1] = p at hp hpv
                  clear hs hcell
                  go_wp2
                  go_ret
                  rw [HF.out]
                  exact ⟨rfl, rfl⟩
                · have HT : Hid (okTo xs (k + 1) = true) := hide (by rw [hs]; simp; omega)
                  generalize xs[k] = v at hx hv1 hv2 hpv
                  generalize xs[k - 1] = p at hp hpv
                  clear hs hcell
                  go_wp2
                  go_round
                  case rel => exact ⟨k + 1, by omega, by go_num, HT⟩
                  case measure => simp [intOf]; omega
        · go_wp2
          go_ret
          have hkn : k = n := by omega
          subst hkn
          rw [HK.out]
          exact ⟨rfl, rfl⟩

theorem law11_alive (w : World) : Calls Try.prog 6 #[] w fun e w' => e = .returned (.bool true) ∧ Below w.heap.size w w' := by
  go_enter Try.func6, Try.ntmps6
  go_wp2_with fail
  refine (ring_Right _ 1 1 [1] _ _ (hide rfl) (Reads.made (Blk.new _ _ _) rfl) (by omega)).mono ?_
  rintro e w' ⟨rfl, rfl⟩
  go_wp2
  go_ret
  refine ⟨rfl, ?_⟩
  repeat (first | assumption | exact Below.refl _ _ | refine Gr.drew ?_ | refine Gr.drewN ?_ _ | refine Gr.alloc ?_ _ | refine Gr.set_ ?_ (by first | (simp; done) | assumption | omega | (simp; omega)) _)
end Go.Proofs.Ytnjhgconfbkjmaa
