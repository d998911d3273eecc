/-
  Timers: slices.SortFunc over a row of them, by the library's own contract.
-/
import Derived.Test.YteooamoagkcgnaaTmH
import Derived.Laws.Cover1
import Derived.Shelf.SlSortCmp.NoneTotal
namespace Go.Proofs.Yteooamoagkcgnaa
open Go.RowKit
set_option linter.unusedSimpArgs false
set_option linter.unusedVariables false
section
attribute [local go_sem ↓] Go.wp_at_zero Go.wp_at_succ
theorem k_int (x y : Int) (w : World) : Calls Try.prog 34 #[.int .i64 x, .int .i64 y] w fun e w' => e = .returned (.int .i64 (cmpI x y)) ∧ w = w' := by
  unfold cmpI
  by_cases h1 : x < y <;> by_cases h2 : y < x
  all_goals first | (exfalso; omega) | skip
  all_goals
    go_enter Try.func34, Try.ntmps34
    go_wp2
    go_ret
    simp [*]
theorem k_string (x y : ByteArray) (w : World) : Calls Try.prog 35 #[.string x, .string y] w fun e w' => e = .returned (.int .i64 (cmpT x y)) ∧ w = w' := by
  unfold cmpT sless
  cases h1 : Op.bytesLess x.toList y.toList
  · by_cases h2 : x = y
    · subst h2
      go_enter Try.func35, Try.ntmps35
      go_wp2
      go_ret
      simp [*]
    · have h3 : (x.toList == y.toList) = false := by
        cases h : x.toList == y.toList
        · rfl
        · exact absurd (bytes_ext (by simpa using h)) h2
      have h4 : Op.bytesLess y.toList x.toList = true := by
        cases h : Op.bytesLess y.toList x.toList
        · have := bless_total _ _ h1 h
          rw [this] at h3; simp at h3
        · rfl
      go_enter Try.func35, Try.ntmps35
      go_wp2
      go_ret
      simp [*]
  · go_enter Try.func35, Try.ntmps35
    go_wp2
    go_ret
    simp [*]
theorem k_Or (A : Option Addr) (n c : Nat) (xs : List Int) (w : World) (HN : Hid (n = xs.length)) (hr : Reads w w.heap.size 1 A n (xs.map (Value.int .i64))) (hn : n ≤ 2000000) :
    Calls Try.prog 33 #[.slice A n c] w fun e w' => e = .returned (.int .i64 (orI xs)) ∧ w = w' := by
  have bn : (n : Int) ≤ 2000000 := by omega
  go_enter Try.func33, Try.ntmps33
  go_wp2
  go_loopw [8] (fun i wr => ∃ (q : Nat), q ≤ n ∧ i = .int .i64 q ∧ Hid (orI xs = orI (xs.drop q)) ∧ w = wr) (fun i _ => 2000000 - (intOf i).toNat)
  case atStart => exact ⟨0, Nat.zero_le _, rfl, hide (by simp), rfl⟩
  case round =>
    obtain ⟨q, hq, rfl, HF, rfl⟩ := hrel
    by_cases hlt : q < n
    · have hxq : q < xs.length := by rw [← HN.out]; omega
      obtain ⟨b, off, rfl, hbB, hcell⟩ := hr.2 (by omega)
      have l1 : (q : Int) < n := by omega
      have hq0 : (0 : Int) ≤ q := by omega
      have k0 := hcell q (.int .i64 xs[q]) (by simp [hxq])
      have HS := hide (List.drop_eq_getElem_cons hxq)
      generalize xs[q] = x0 at *
      clear hcell
      by_cases h0 : x0 = 0
      · go_wp2
        go_roundw
        case rel => exact ⟨q + 1, by omega, by go_num, hide (by rw [HF.out, HS.out]; simp [orI, h0]), by trivial⟩
        case measure => simp [intOf]; omega
      · go_wp2
        go_ret
        refine ⟨?_, rfl⟩
        rw [HF.out, HS.out]
        simp [orI, h0]
    · have hge : ¬ (q : Int) < n := by omega
      go_wp2
      go_ret
      refine ⟨?_, rfl⟩
      rw [HF.out, List.drop_eq_nil_of_le (by rw [← HN.out]; omega)]
      simp [orI]
theorem k_blk {w : World} {g size n : Nat} {t : TypeId} {cs : Array Value} (h : Blk w g t cs) (hs : cs.size = n * size) : Reads w w.heap.size size (some ⟨g, 0, none⟩) n cs.toList := by
  refine ⟨by simpa using hs, fun _ => ⟨g, 0, rfl, h.lt, fun j u hu => ?_⟩⟩
  rw [Nat.zero_add, h.cell]
  simpa using hu

theorem tm_compare (p q : Tm) (w : World) :
    Calls Try.prog 25 #[.agg #[.int .i64 p.at', .string p.name], .agg #[.int .i64 q.at', .string q.name]] w fun e w' => e = .returned (.int .i64 (tCmp p q)) ∧ ∃ n os, w' = Sort.grow (w.drewN n) os := by
  obtain ⟨a, k⟩ := p
  obtain ⟨a', k'⟩ := q
  unfold tCmp
  simp only
  go_enter Try.func25, Try.ntmps25
  go_wp2_with fail
  refine wp_gen (fun W => Blk W w.heap.size 27 #[.int .i64 a, .string k] ∧ Blk W (w.heap.size + 1) 27 #[.int .i64 a', .string k'] ∧ Hid (∃ n os, W = Sort.grow (w.drewN n) os)) ⟨(Blk.new _ _ _).alloc _, Blk.new_at (by simp), hide ⟨0, _, by rw [Sort.alloc_eq_grow, Sort.alloc_eq_grow, Sort.grow_grow]; rfl⟩⟩ ?_
  rintro W ⟨B0, B1, hW⟩
  have c0 := B0.cell
  have c1 := B1.cell
  go_region_held3 (fun w' => (∀ i, w'.cell? ⟨w.heap.size, i, none⟩ = (#[.int .i64 a, .string k] : Array Value)[i]?) ∧ (∀ i, w'.cell? ⟨w.heap.size + 1, i, none⟩ = (#[.int .i64 a', .string k'] : Array Value)[i]?)) (first | exact ⟨c0, c1⟩ | exact ⟨(B0.alloc _).cell, (B1.alloc _).cell⟩) (first
    | (go_at_call 34; refine (k_int _ _ _).mono ?_; rintro e w' ⟨rfl, rfl⟩)
    | (go_at_call 35; refine (k_string _ _ _).mono ?_; rintro e w' ⟨rfl, rfl⟩)
    | (go_at_call 33; have h3 : (2 : Nat) ≤ 2000000 := Nat.le_of_ble_eq_true rfl; refine (k_Or _ _ _ [cmpI a a', cmpT k k'] _ ?_ ?_ h3).mono ?_; exact (hide rfl); exact k_blk (Blk.new W 3 #[.int .i64 (cmpI a a'), .int .i64 (cmpT k k')]) rfl; rintro e w' ⟨rfl, rfl⟩))
  go_wp2
  go_ret
  refine ⟨rfl, ?_⟩
  obtain ⟨n, os, hW⟩ := hW.out
  subst hW
  exact ⟨n + 1, os ++ #[.cells #[.int .i64 (cmpI a a'), .int .i64 (cmpT k k')] 3], by rw [Sort.alloc_eq_grow, Sort.grow_grow]; rfl⟩
end
def laySort_ren : Go.Shelf.Ren := ⟨fun | 6 => 24 | 15 => 32 | 14 => 31 | 28 => 45 | 29 => 46 | 20 => 37 | 21 => 38 | 22 => 39 | 23 => 40 | 24 => 41 | 25 => 42 | 26 => 43 | 27 => 44 | 46 => 49 | 47 => 50 | 48 => 51 | 49 => 52 | 50 => 53 | 57 => 54 | n => n, fun | 22 => 22 | 24 => 27 | 25 => 56 | 3 => 3 | 39 => 69 | 0 => 0 | 53 => 84 | 55 => 86 | 4 => 4 | 46 => 77 | 45 => 76 | 50 => 81 | 5 => 5 | 9 => 9 | 66 => 90 | 70 => 94 | 76 => 96 | 77 => 97 | n => n, fun | n => n⟩
theorem laySort : Go.Proofs.SlLaysF0.n6 Try.prog laySort_ren := {
  mixed := by kernel_rfl
  f6 := ⟨Try.f24.name, by decide, Try.func24.trans (congrArg some (by kernel_rfl))⟩
  f14 := ⟨Try.f31.name, by decide, Try.func31.trans (congrArg some (by kernel_rfl))⟩
  f15 := Try.func32.trans (congrArg some (by kernel_rfl))
  f20 := ⟨Try.f37.name, by decide, Try.func37.trans (congrArg some (by kernel_rfl))⟩
  f21 := ⟨Try.f38.name, by decide, Try.func38.trans (congrArg some (by kernel_rfl))⟩
  f22 := ⟨Try.f39.name, by decide, Try.func39.trans (congrArg some (by kernel_rfl))⟩
  f23 := ⟨Try.f40.name, by decide, Try.func40.trans (congrArg some (by kernel_rfl))⟩
  f24 := ⟨Try.f41.name, by decide, Try.func41.trans (congrArg some (by kernel_rfl))⟩
  f25 := ⟨Try.f42.name, by decide, Try.func42.trans (congrArg some (by kernel_rfl))⟩
  f26 := ⟨Try.f43.name, by decide, Try.func43.trans (congrArg some (by kernel_rfl))⟩
  f27 := ⟨Try.f44.name, by decide, Try.func44.trans (congrArg some (by kernel_rfl))⟩
  f28 := Try.func45.trans (congrArg some (by kernel_rfl))
  f29 := Try.func46.trans (congrArg some (by kernel_rfl))
  f46 := ⟨Try.f49.name, by decide, Try.func49.trans (congrArg some (by kernel_rfl))⟩
  f47 := Try.func50.trans (congrArg some (by kernel_rfl))
  f48 := Try.func51.trans (congrArg some (by kernel_rfl))
  f49 := ⟨Try.f52.name, by decide, Try.func52.trans (congrArg some (by kernel_rfl))⟩
  f50 := ⟨Try.f53.name, by decide, Try.func53.trans (congrArg some (by kernel_rfl))⟩
  f57 := ⟨Try.f54.name, by decide, Try.func54.trans (congrArg some (by kernel_rfl))⟩
  t0 := Try.underlying0
  a0 := Try.isAgg0
  z0 := Try.sizeOf0
  v0 := Try.zeroValue0
  t3 := Try.underlying3
  a3 := Try.isAgg3
  z3 := Try.sizeOf3
  v3 := Try.zeroValue3
  t4 := Try.underlying4
  a4 := Try.isAgg4
  z4 := Try.sizeOf4
  v4 := Try.zeroValue4
  t5 := Try.underlying5
  a5 := Try.isAgg5
  z5 := Try.sizeOf5
  v5 := Try.zeroValue5
  t9 := Try.underlying9
  a9 := Try.isAgg9
  z9 := Try.sizeOf9
  v9 := Try.zeroValue9
  t22 := Try.underlying22
  a22 := Try.isAgg22
  z22 := Try.sizeOf22
  v22 := Try.zeroValue22
  t25 := Try.underlying56
  a25 := Try.isAgg56
  z25 := Try.sizeOf56
  v25 := Try.zeroValue56
  t39 := Try.underlying69
  a39 := Try.isAgg69
  z39 := Try.sizeOf69
  v39 := Try.zeroValue69
  t45 := Try.underlying76
  a45 := Try.isAgg76
  z45 := Try.sizeOf76
  v45 := Try.zeroValue76
  t46 := Try.underlying77
  a46 := Try.isAgg77
  z46 := Try.sizeOf77
  v46 := Try.zeroValue77
  t50 := Try.underlying81
  a50 := Try.isAgg81
  z50 := Try.sizeOf81
  v50 := Try.zeroValue81
  t53 := Try.underlying84
  a53 := Try.isAgg84
  z53 := Try.sizeOf84
  v53 := Try.zeroValue84
  t55 := Try.underlying86
  a55 := Try.isAgg86
  z55 := Try.sizeOf86
  v55 := Try.zeroValue86
  t66 := Try.underlying90
  a66 := Try.isAgg90
  z66 := Try.sizeOf90
  v66 := Try.zeroValue90
  t70 := Try.underlying94
  a70 := Try.isAgg94
  z70 := Try.sizeOf94
  v70 := Try.zeroValue94
  t76 := Try.underlying96
  a76 := Try.isAgg96
  z76 := Try.sizeOf96
  v76 := Try.zeroValue96
  t77 := Try.underlying97
  a77 := Try.isAgg97
  z77 := Try.sizeOf97
  v77 := Try.zeroValue97 }
end Go.Proofs.Yteooamoagkcgnaa
