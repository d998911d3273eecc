/-
  Walks of the reference of layer fold: each function's contract.
-/
import Derived.Test.YtnjhgconfbkjmabFoldR
namespace Go.Proofs.Ytnjhgconfbkjmab
open Go.RowKit
set_option linter.unusedSimpArgs false
set_option linter.unusedVariables false
attribute [local go_sem ↓] Go.wp_at_zero Go.wp_at_succ


set_option maxHeartbeats 4000000 in
theorem ref06_All (k : Int) (A : Option Addr) (c n : Nat) (xs : List Int) (B : Nat) (w : World) (HN : Hid (n = xs.length)) (hrd : Reads w B 1 A n (xs.map (Value.int .i64))) (hB : B ≤ w.heap.size) (hn : n ≤ 1000000) (hI : ∀ v ∈ xs, I64 v) :
    Calls Try.prog 17 #[.int .i64 k, .slice A n c] w fun e w' => ∃ x : Acc, Hid (x = allL k xs) ∧ e = .returned (.agg #[.int .i64 x.n, .int .i64 x.a, .int .i64 x.b]) ∧ Below w.heap.size w w' := by
  have hn' : (n : Int) ≤ 1000000 := by omega
  by_cases hr : fRight k = false
  · rw [allL_not hr]
    rcases right_not hr with h | h
    · go_enter Try.func17, Try.ntmps17
      go_wp2
      refine bodyPost_ret (v := .agg #[.int .i64 0, .int .i64 0, .int .i64 0]) (by simp [results, Try.results17, go_sem]) rfl ⟨_, hide rfl, rfl, ?_⟩
      repeat (first | assumption | exact Below.refl _ _ | refine Gr.drew ?_ | refine Gr.drewN ?_ _ | refine Gr.alloc ?_ _ | refine Gr.set_ ?_ (by first | simp | (simp; omega) | omega) _)
    · have h1 : ¬ k < 1 := by omega
      go_enter Try.func17, Try.ntmps17
      go_wp2
      refine bodyPost_ret (v := .agg #[.int .i64 0, .int .i64 0, .int .i64 0]) (by simp [results, Try.results17, go_sem]) rfl ⟨_, hide rfl, rfl, ?_⟩
      repeat (first | assumption | exact Below.refl _ _ | refine Gr.drew ?_ | refine Gr.drewN ?_ _ | refine Gr.alloc ?_ _ | refine Gr.set_ ?_ (by first | simp | (simp; omega) | omega) _)
  · have hk : fRight k = true := by simpa using hr
    have hk1 : ¬ k < 1 := by rcases right_cases hk with rfl | rfl | rfl | rfl | rfl <;> omega
    have hk2 : ¬ 5 < k := by rcases right_cases hk with rfl | rfl | rfl | rfl | rfl <;> omega
    have HK := hide hk
    clear hk hr
    go_enter Try.func17, Try.ntmps17
    go_wp2
    go_loopw [18] (fun i wr => ∃ (q : Nat) (xn xa xb : Int), Hid ((⟨xn, xa, xb⟩ : Acc) = allL k (xs.take q)) ∧ q ≤ n ∧ i = .int .i64 q ∧ Below w.heap.size w wr ∧ Blk wr w.heap.size 23 #[.int .i64 0, .int .i64 0, .int .i64 0] ∧ Blk wr (w.heap.size + 1) 23 #[.int .i64 xn, .int .i64 xa, .int .i64 xb]) (fun i _ => n - (intOf i).toNat)
    case atStart =>
      refine ⟨0, 0, 0, 0, hide rfl, Nat.zero_le _, rfl, ?_, ?_, ?_⟩
      · repeat (first | assumption | exact Below.refl _ _ | refine Gr.drew ?_ | refine Gr.drewN ?_ _ | refine Gr.alloc ?_ _ | refine Gr.set_ ?_ (by first | simp | (simp; omega) | omega) _)
      · exact (Blk.new _ _ _).alloc _
      · exact Blk.new_at (by simp)
    case round =>
      obtain ⟨q, xn, xa, xb, HX, hq, rfl, hb, B0, B1⟩ := hrel
      obtain ⟨c0, f0⟩ := B0.facts
      obtain ⟨c1, f1⟩ := B1.facts
      have hsz := B1.lt
      by_cases hlt : q < n
      · obtain ⟨b, off, rfl, hbB, hcell⟩ := hrd.2 (by omega)
        have hxq : q < xs.length := by rw [← HN.out]; exact hlt
        have hx : wr.cell? ⟨b, off + q, none⟩ = some (.int .i64 xs[q]) := by
          rw [hb.cell (p := ⟨b, off + q, none⟩) (by omega : b < w.heap.size)]; exact hcell q _ (by simp [hxq])
        have hlt' : (q : Int) < n := by omega
        have hq0 : (0 : Int) ≤ q := by omega
        have hv : I64 xs[q] := hI _ (List.getElem_mem hxq)
        have hl : (xs.take q).length = q := by rw [List.length_take]; omega
        have hst := refStep_eq HK.out (xs.take q) xs[q] (by omega) hv
        rw [← take_snoc _ _ hxq, ← HX.out, hl] at hst
        have hxn : (⟨xn, xa, xb⟩ : Acc).n = q := by rw [HX.out, (allL_n_good HK.out _ (by omega)).1, hl]
        have hsh := allL_shape HK.out (xs.take q) (by omega)
        rw [← HX.out] at hsh
        generalize xs[q] = v at hx hst
        simp only at hxn hsh
        have hb0 : 0 ≤ xn := by omega
        have hb1 : xn ≤ 1000000 := by omega
        have HST := hide hst
        have HXN := hide hxn
        have HSH := hide hsh
        clear hst hxn hsh hl hv hcell
        rcases right_cases HK.out with rfl | rfl | rfl | rfl | rfl
        all_goals
          go_wp2
          all_goals
            go_roundw
            case rel =>
              refine ⟨q + 1, ?_⟩
              apply Exists.intro
              apply Exists.intro
              apply Exists.intro
              refine ⟨hide (Eq.trans ?eq HST.out), by omega, by go_num, ?bel, ?bl0, ?bl1⟩
              case bl1 => repeat (first | exact B1 | apply Blk.s30 | apply Blk.s31 | apply Blk.s32)
              case bel => repeat (first | assumption | exact Below.refl _ _ | refine Gr.drew ?_ | refine Gr.drewN ?_ _ | refine Gr.alloc ?_ _ | refine Gr.set_ ?_ (by first | simp | (simp; omega) | omega) _)
              case bl0 => repeat (first | exact B0 | refine Blk.far ?_ (by simp) _)
              case eq =>
                have h := HSH.out
                simp [Shape] at h
                simp_all [refStep, wrap64, IntKind.wrap_i64] <;> omega
            case measure => simp [intOf]; omega
      · go_wp2
        refine bodyPost_ret (v := .agg #[.int .i64 xn, .int .i64 xa, .int .i64 xb]) (by simp [results, Try.results17, go_sem, c0]) rfl ⟨⟨xn, xa, xb⟩, ?_, rfl, ?_⟩
        · have : q = xs.length := by have := HN.out; omega
          rw [this, List.take_length] at HX
          exact HX
        · repeat (first | assumption | exact Below.refl _ _ | refine Gr.drew ?_ | refine Gr.drewN ?_ _ | refine Gr.alloc ?_ _ | refine Gr.set_ ?_ (by first | simp | (simp; omega) | omega) _)
end Go.Proofs.Ytnjhgconfbkjmab
