/-
  'clepsydralaw06.FoldAll' returns true for every input.
-/
import Derived.Test.YtnjhgconfbkjmabFoldO
import Derived.Deep.DeepMust
namespace Go.Proofs.Ytnjhgconfbkjmab
open Go.RowKit Go.WideShapes Go.ChangeShapes Go.ChangeAt
set_option linter.unusedSimpArgs false
set_option linter.unusedVariables false
attribute [local go_sem ↓] Go.wp_at_zero Go.wp_at_succ

set_option maxHeartbeats 1000000 in
theorem FoldAll_walk (k : Int) (A : Option Addr) (n c : Nat) (xs : List Int) (v : Int) (w : World) (HN : Hid (n = xs.length)) (hr : Reads w w.heap.size 1 A n (xs.map (Value.int .i64))) (hn : n ≤ c) (hc : c ≤ 9223372036854775807) (hI : ∀ x ∈ xs, I64 x) (hv : I64 v) :
    Calls Try.prog 7 #[.int .i64 k, .slice A n c, .int .i64 v] w fun e w' => e = .returned (.bool true) ∧ Below w.heap.size w w' := by
  have hk : (k < 1 ∧ fRight k = false) ∨ (1 ≤ k ∧ k ≤ 5 ∧ fRight k = true) ∨ (1 ≤ k ∧ 5 < k ∧ fRight k = false) := by
    unfold fRight
    simp only [Bool.and_eq_true, Bool.and_eq_false_iff, decide_eq_true_eq, decide_eq_false_iff_not]
    omega
  have hb : Below w.heap.size w w := Below.refl _ _
  go_enter Try.func7, Try.ntmps7
  go_wp2_with (first
    | (go_at_call 14; refine (law06_short _ _ _ xs w.heap.size _ HN hr hn hc).mono ?_; rintro e w0 ⟨n', xs', HN', HX', hn2, rfl, hr', hnc', rfl⟩)
    | (go_at_call 15; refine (fold_All _ _ _ _ xs' w.heap.size _ HN' hr' (Nat.le_refl _) (by omega)).mono ?_; rintro e w1 ⟨x1, HX1, rfl, hb1⟩; have hb := Gr.on hb hb1 rfl rfl rfl rfl rfl; have hg1 : w.heap.size ≤ w1.heap.size := hb.size)
    | (go_at_call 17; refine (ref06_All _ _ _ _ xs' w.heap.size _ HN' (hr'.below_le (by repeat (first | assumption | exact Below.refl _ _ | refine Gr.drew ?_ | refine Gr.drewN ?_ _ | refine Gr.alloc ?_ _ | refine Gr.set_ ?_ (by first | simp | (simp; omega) | omega) _)) (Nat.le_refl _)) (by first | omega | (simp; omega)) (by omega) (fun x hx => hI x (List.mem_of_mem_take (HX'.out ▸ hx)))).mono ?_; rintro e w2 ⟨x2, HX2, rfl, hb2⟩; have B7 := (Blk.new w1 23 #[.int .i64 x1.n, .int .i64 x1.a, .int .i64 x1.b]).on hb2 rfl rfl; have hb := Gr.call (Gr.alloc hb _) hb2; have HX : Hid (x2 = x1) := hide (HX2.out.trans HX1.out.symm)))
  obtain rfl : x2 = x1 := HX.out
  refine wp_gen (fun W => Blk W w1.heap.size 23 #[.int .i64 x2.n, .int .i64 x2.a, .int .i64 x2.b] ∧ Blk W w2.heap.size 23 #[.int .i64 x2.n, .int .i64 x2.a, .int .i64 x2.b] ∧ Below w.heap.size w W) ⟨B7.alloc _, Blk.new _ _ _, hb.alloc hb.size _⟩ ?_
  clear B7 hb hb2
  rintro W ⟨B7, B8, hb⟩
  rcases hk with ⟨h1, hR⟩ | ⟨h1, h2, hR⟩ | ⟨h1, h2, hR⟩
  · have d1 : decide (1 ≤ k) = false := by simp; omega
    refine wp_region_held_drew (S := (fun w' => (∀ i, w'.cell? ⟨w1.heap.size, i, none⟩ = (#[.int .i64 x2.n, .int .i64 x2.a, .int .i64 x2.b] : Array Value)[i]?) ∧ (∀ i, w'.cell? ⟨w2.heap.size, i, none⟩ = (#[.int .i64 x2.n, .int .i64 x2.a, .int .i64 x2.b] : Array Value)[i]?))) (by kernel_rfl) (by exact ⟨(B7.call (by repeat (first | assumption | exact Below.refl _ _ | refine Gr.drew ?_ | refine Gr.drewN ?_ _ | refine Gr.alloc ?_ _ | refine Gr.set_ ?_ (by first | simp | (simp; omega) | omega) _))).cell, (B8.call (by repeat (first | assumption | exact Below.refl _ _ | refine Gr.drew ?_ | refine Gr.drewN ?_ _ | refine Gr.alloc ?_ _ | refine Gr.set_ ?_ (by first | simp | (simp; omega) | omega) _))).cell⟩) (fun hHeld => ?_)
    refine wpAnyH_ready (rs := [0]) (by kernel_rfl) (by simp) ?_
    refine AllReadyH.cons rfl (fun K hK => ?_) AllReadyH.nil
    go_simp
    (refine (fold_Right _ _).mono ?_; rintro e w' ⟨rfl, rfl⟩)
    try go_wp2_with fail
    refine hK.out _ _ ?_ (fun hHeld => ?_)
    · exact ⟨(B7.call (by repeat (first | assumption | exact Below.refl _ _ | refine Gr.drew ?_ | refine Gr.drewN ?_ _ | refine Gr.alloc ?_ _ | refine Gr.set_ ?_ (by first | simp | (simp; omega) | omega) _))).cell, (B8.call (by repeat (first | assumption | exact Below.refl _ _ | refine Gr.drew ?_ | refine Gr.drewN ?_ _ | refine Gr.alloc ?_ _ | refine Gr.set_ ?_ (by first | simp | (simp; omega) | omega) _))).cell⟩
    clear hK K
    try simp only [Act.put, List.setIfInBounds_toArray, List.set_cons_zero, List.set_cons_succ, List.getElem_toArray, List.getElem_cons_zero, List.getElem_cons_succ]
    refine wpAnyH_take (i := 1) (v := ?_) rfl (by kernel_rfl) (by kernel_rfl) (by kernel_rfl) (fun _ _ _ h => h) (Or.inl ⟨by rfl, ?_⟩) hHeld ?_
    rotate_left 1
    · (intro w hSw; (try dsimp only at hSw); go_simp; try with_reducible rfl)
    simp only [Act.put, List.setIfInBounds_toArray, List.set_cons_zero, List.set_cons_succ, List.getElem_toArray, List.getElem_cons_zero, List.getElem_cons_succ]
    refine wpAnyH_take (i := 2) (v := ?_) rfl (by kernel_rfl) (by kernel_rfl) (by kernel_rfl) (fun _ _ _ h => h) (Or.inl ⟨by rfl, ?_⟩) hHeld ?_
    rotate_left 1
    · (intro w hSw; (try dsimp only at hSw); go_simp; try with_reducible rfl)
    simp only [Act.put, List.setIfInBounds_toArray, List.set_cons_zero, List.set_cons_succ, List.getElem_toArray, List.getElem_cons_zero, List.getElem_cons_succ]
    refine wpAnyH_take (i := 4) (v := ?_) rfl (by kernel_rfl) (by kernel_rfl) (by kernel_rfl) (fun _ _ _ h => h) (Or.inl ⟨by rfl, ?_⟩) hHeld ?_
    rotate_left 1
    · (intro w hSw; (try dsimp only at hSw); go_simp; try with_reducible rfl)
    simp only [Act.put, List.setIfInBounds_toArray, List.set_cons_zero, List.set_cons_succ, List.getElem_toArray, List.getElem_cons_zero, List.getElem_cons_succ]
    refine wpAnyH_take (i := 5) (v := ?_) rfl (by kernel_rfl) (by kernel_rfl) (by kernel_rfl) (fun _ _ _ h => h) (Or.inl ⟨by rfl, ?_⟩) hHeld ?_
    rotate_left 1
    · (intro w hSw; (try dsimp only at hSw); go_simp; try with_reducible rfl)
    simp only [Act.put, List.setIfInBounds_toArray, List.set_cons_zero, List.set_cons_succ, List.getElem_toArray, List.getElem_cons_zero, List.getElem_cons_succ]
    refine wpAnyH_ready (rs := [3]) (by kernel_rfl) (by simp) ?_
    refine AllReadyH.cons rfl (fun K hK => ?_) AllReadyH.nil
    go_simp
    (refine (fold_Right _ _).mono ?_; rintro e w' ⟨rfl, rfl⟩)
    try go_wp2_with fail
    refine hK.out _ _ ?_ (fun hHeld => ?_)
    · exact ⟨(B7.call (by repeat (first | assumption | exact Below.refl _ _ | refine Gr.drew ?_ | refine Gr.drewN ?_ _ | refine Gr.alloc ?_ _ | refine Gr.set_ ?_ (by first | simp | (simp; omega) | omega) _))).cell, (B8.call (by repeat (first | assumption | exact Below.refl _ _ | refine Gr.drew ?_ | refine Gr.drewN ?_ _ | refine Gr.alloc ?_ _ | refine Gr.set_ ?_ (by first | simp | (simp; omega) | omega) _))).cell⟩
    clear hK K
    try simp only [Act.put, List.setIfInBounds_toArray, List.set_cons_zero, List.set_cons_succ, List.getElem_toArray, List.getElem_cons_zero, List.getElem_cons_succ]
    refine wpAnyH_take (i := 6) (v := ?_) rfl (by kernel_rfl) (by kernel_rfl) (by kernel_rfl) (fun _ _ _ h => h) (Or.inl ⟨by rfl, ?_⟩) hHeld ?_
    rotate_left 1
    · (intro w hSw; (try dsimp only at hSw); go_simp; try with_reducible rfl)
    simp only [Act.put, List.setIfInBounds_toArray, List.set_cons_zero, List.set_cons_succ, List.getElem_toArray, List.getElem_cons_zero, List.getElem_cons_succ]
    refine wpAnyH_take (i := 7) (v := undef) rfl (by kernel_rfl) (by kernel_rfl) (by kernel_rfl) (fun _ _ _ h => h) (Or.inr ⟨by rfl, rfl⟩) hHeld ?_
    simp only [Act.put, List.setIfInBounds_toArray, List.set_cons_zero, List.set_cons_succ, List.getElem_toArray, List.getElem_cons_zero, List.getElem_cons_succ]
    refine wpAnyH_take (i := 8) (v := undef) rfl (by kernel_rfl) (by kernel_rfl) (by kernel_rfl) (fun _ _ _ h => h) (Or.inr ⟨by rfl, rfl⟩) hHeld ?_
    simp only [Act.put, List.setIfInBounds_toArray, List.set_cons_zero, List.set_cons_succ, List.getElem_toArray, List.getElem_cons_zero, List.getElem_cons_succ]
    refine wpAnyH_take (i := 9) (v := ?_) rfl (by kernel_rfl) (by kernel_rfl) (by kernel_rfl) (fun _ _ _ h => h) (Or.inl ⟨by rfl, ?_⟩) hHeld ?_
    rotate_left 1
    · (intro w hSw; (try dsimp only at hSw); go_simp; try with_reducible rfl)
    simp only [Act.put, List.setIfInBounds_toArray, List.set_cons_zero, List.set_cons_succ, List.getElem_toArray, List.getElem_cons_zero, List.getElem_cons_succ]
    refine wpAnyH_take (i := 10) (v := ?_) rfl (by kernel_rfl) (by kernel_rfl) (by kernel_rfl) (fun _ _ _ h => h) (Or.inl ⟨by rfl, ?_⟩) hHeld ?_
    rotate_left 1
    · (intro w hSw; (try dsimp only at hSw); go_simp; try with_reducible rfl)
    simp only [Act.put, List.setIfInBounds_toArray, List.set_cons_zero, List.set_cons_succ, List.getElem_toArray, List.getElem_cons_zero, List.getElem_cons_succ]
    refine wpAnyH_take (i := 11) (v := ?_) rfl (by kernel_rfl) (by kernel_rfl) (by kernel_rfl) (fun _ _ _ h => h) (Or.inl ⟨by rfl, ?_⟩) hHeld ?_
    rotate_left 1
    · (intro w hSw; (try dsimp only at hSw); go_simp; try with_reducible rfl)
    simp only [Act.put, List.setIfInBounds_toArray, List.set_cons_zero, List.set_cons_succ, List.getElem_toArray, List.getElem_cons_zero, List.getElem_cons_succ]
    refine wpAnyH_take (i := 12) (v := ?_) rfl (by kernel_rfl) (by kernel_rfl) (by kernel_rfl) (fun _ _ _ h => h) (Or.inl ⟨by rfl, ?_⟩) hHeld ?_
    rotate_left 1
    · (intro w hSw; (try dsimp only at hSw); go_simp; try with_reducible rfl)
    simp only [Act.put, List.setIfInBounds_toArray, List.set_cons_zero, List.set_cons_succ, List.getElem_toArray, List.getElem_cons_zero, List.getElem_cons_succ]
    refine wpAnyH_take (i := 13) (v := ?_) rfl (by kernel_rfl) (by kernel_rfl) (by kernel_rfl) (fun _ _ _ h => h) (Or.inl ⟨by rfl, ?_⟩) hHeld ?_
    rotate_left 1
    · (intro w hSw; (try dsimp only at hSw); go_simp; try with_reducible rfl)
    simp only [Act.put, List.setIfInBounds_toArray, List.set_cons_zero, List.set_cons_succ, List.getElem_toArray, List.getElem_cons_zero, List.getElem_cons_succ]
    refine wpAnyH_take (i := 14) (v := ?_) rfl (by kernel_rfl) (by kernel_rfl) (by kernel_rfl) (fun _ _ _ h => h) (Or.inl ⟨by rfl, ?_⟩) hHeld ?_
    rotate_left 1
    · (intro w hSw; (try dsimp only at hSw); go_simp; try with_reducible rfl)
    simp only [Act.put, List.setIfInBounds_toArray, List.set_cons_zero, List.set_cons_succ, List.getElem_toArray, List.getElem_cons_zero, List.getElem_cons_succ]
    refine wpAnyH_take (i := 15) (v := ?_) rfl (by kernel_rfl) (by kernel_rfl) (by kernel_rfl) (fun _ _ _ h => h) (Or.inl ⟨by rfl, ?_⟩) hHeld ?_
    rotate_left 1
    · (intro w hSw; (try dsimp only at hSw); go_simp; try with_reducible rfl)
    simp only [Act.put, List.setIfInBounds_toArray, List.set_cons_zero, List.set_cons_succ, List.getElem_toArray, List.getElem_cons_zero, List.getElem_cons_succ]
    refine wpAnyH_take (i := 16) (v := ?_) rfl (by kernel_rfl) (by kernel_rfl) (by kernel_rfl) (fun _ _ _ h => h) (Or.inl ⟨by rfl, ?_⟩) hHeld ?_
    rotate_left 1
    · (intro w hSw; (try dsimp only at hSw); go_simp; try with_reducible rfl)
    simp only [Act.put, List.setIfInBounds_toArray, List.set_cons_zero, List.set_cons_succ, List.getElem_toArray, List.getElem_cons_zero, List.getElem_cons_succ]
    refine wpAnyH_take (i := 17) (v := ?_) rfl (by kernel_rfl) (by kernel_rfl) (by kernel_rfl) (fun _ _ _ h => h) (Or.inl ⟨by rfl, ?_⟩) hHeld ?_
    rotate_left 1
    · (intro w hSw; (try dsimp only at hSw); go_simp; try with_reducible rfl)
    simp only [Act.put, List.setIfInBounds_toArray, List.set_cons_zero, List.set_cons_succ, List.getElem_toArray, List.getElem_cons_zero, List.getElem_cons_succ]
    refine wpAnyH_take (i := 18) (v := ?_) rfl (by kernel_rfl) (by kernel_rfl) (by kernel_rfl) (fun _ _ _ h => h) (Or.inl ⟨by rfl, ?_⟩) hHeld ?_
    rotate_left 1
    · (intro w hSw; (try dsimp only at hSw); go_simp; try with_reducible rfl)
    simp only [Act.put, List.setIfInBounds_toArray, List.set_cons_zero, List.set_cons_succ, List.getElem_toArray, List.getElem_cons_zero, List.getElem_cons_succ]
    refine wpAnyH_take (i := 19) (v := ?_) rfl (by kernel_rfl) (by kernel_rfl) (by kernel_rfl) (fun _ _ _ h => h) (Or.inl ⟨by rfl, ?_⟩) hHeld ?_
    rotate_left 1
    · (intro w hSw; (try dsimp only at hSw); go_simp; try with_reducible rfl)
    simp only [Act.put, List.setIfInBounds_toArray, List.set_cons_zero, List.set_cons_succ, List.getElem_toArray, List.getElem_cons_zero, List.getElem_cons_succ]
    refine wpAnyH_take (i := 21) (v := ?_) rfl (by kernel_rfl) (by kernel_rfl) (by kernel_rfl) (fun _ _ _ h => h) (Or.inl ⟨by rfl, ?_⟩) hHeld ?_
    rotate_left 1
    · (intro w hSw; (try dsimp only at hSw); go_simp; try with_reducible rfl)
    simp only [Act.put, List.setIfInBounds_toArray, List.set_cons_zero, List.set_cons_succ, List.getElem_toArray, List.getElem_cons_zero, List.getElem_cons_succ]
    refine wpAnyH_take (i := 22) (v := ?_) rfl (by kernel_rfl) (by kernel_rfl) (by kernel_rfl) (fun _ _ _ h => h) (Or.inl ⟨by rfl, ?_⟩) hHeld ?_
    rotate_left 1
    · (intro w hSw; (try dsimp only at hSw); go_simp; try with_reducible rfl)
    simp only [Act.put, List.setIfInBounds_toArray, List.set_cons_zero, List.set_cons_succ, List.getElem_toArray, List.getElem_cons_zero, List.getElem_cons_succ]
    refine wpAnyH_ready (rs := [20, 23]) (by kernel_rfl) (by simp) ?_
    refine AllReadyH.cons rfl (fun K hK => ?_) (AllReadyH.cons rfl (fun K hK => ?_) AllReadyH.nil)
    · skip
      go_simp
      (refine (fold_One _ _ _).mono ?_; rintro e w3 ⟨x3, HX3, rfl, hb3⟩; have hch := Gr.call (a := W) (by repeat (first | assumption | exact Below.refl _ _ | refine Gr.drew ?_ | refine Gr.drewN ?_ _ | refine Gr.alloc ?_ _ | refine Gr.set_ ?_ (by first | simp | (simp; omega) | omega) _)) hb3; first | have B9 := (Blk.new _ _ _).call hb3 | have B9 := (Blk.new _ _ _).drew.call hb3 | skip)
      try go_wp2_with fail
      refine hK.out _ _ ?_ (fun hHeld => ?_)
      · exact ⟨(B7.call (by repeat (first | assumption | exact Below.refl _ _ | refine Gr.drew ?_ | refine Gr.drewN ?_ _ | refine Gr.alloc ?_ _ | refine Gr.set_ ?_ (by first | simp | (simp; omega) | omega) _))).cell, (B8.call (by repeat (first | assumption | exact Below.refl _ _ | refine Gr.drew ?_ | refine Gr.drewN ?_ _ | refine Gr.alloc ?_ _ | refine Gr.set_ ?_ (by first | simp | (simp; omega) | omega) _))).cell⟩
      clear hK K
      try simp only [Act.put, List.setIfInBounds_toArray, List.set_cons_zero, List.set_cons_succ, List.getElem_toArray, List.getElem_cons_zero, List.getElem_cons_succ]
      refine wpAnyH_ready (rs := [23]) (by kernel_rfl) (by simp) ?_
      refine AllReadyH.cons rfl (fun K hK => ?_) AllReadyH.nil
      go_simp
      refine hK.out _ _ ?_ (fun hHeld => ?_)
      · exact ⟨(B7.call (by repeat (first | assumption | exact Below.refl _ _ | refine Gr.drew ?_ | refine Gr.drewN ?_ _ | refine Gr.alloc ?_ _ | refine Gr.set_ ?_ (by first | simp | (simp; omega) | omega) _))).cell, (B8.call (by repeat (first | assumption | exact Below.refl _ _ | refine Gr.drew ?_ | refine Gr.drewN ?_ _ | refine Gr.alloc ?_ _ | refine Gr.set_ ?_ (by first | simp | (simp; omega) | omega) _))).cell⟩
      clear hK K
      try simp only [Act.put, List.setIfInBounds_toArray, List.set_cons_zero, List.set_cons_succ, List.getElem_toArray, List.getElem_cons_zero, List.getElem_cons_succ]
      refine wpAnyH_ready (rs := [24]) (by kernel_rfl) (by simp) ?_
      refine AllReadyH.cons rfl (fun K hK => ?_) AllReadyH.nil
      go_simp
      (refine (ref06_All _ _ _ _ [v] _ _ (hide rfl) (by first | exact Reads.row1 (Blk.new _ _ _) | exact Reads.row1 B9) (by first | (simp; done) | exact Nat.succ_le_of_lt B9.lt) (by simp) (by simpa using hv)).mono ?_; rintro e w4 ⟨x4, HX4, rfl, hb4⟩; have hch := Gr.call (a := W) (by repeat (first | assumption | exact Below.refl _ _ | refine Gr.drew ?_ | refine Gr.drewN ?_ _ | refine Gr.alloc ?_ _ | refine Gr.set_ ?_ (by first | simp | (simp; omega) | omega) _)) hb4; obtain rfl : x4 = x3 := (HX4.out.trans (allL_one k v)).trans HX3.out.symm)
      try go_wp2_with fail
      refine hK.out _ _ ?_ (fun hHeld => ?_)
      · exact ⟨(B7.call (by repeat (first | assumption | exact Below.refl _ _ | refine Gr.drew ?_ | refine Gr.drewN ?_ _ | refine Gr.alloc ?_ _ | refine Gr.set_ ?_ (by first | simp | (simp; omega) | omega) _))).cell, (B8.call (by repeat (first | assumption | exact Below.refl _ _ | refine Gr.drew ?_ | refine Gr.drewN ?_ _ | refine Gr.alloc ?_ _ | refine Gr.set_ ?_ (by first | simp | (simp; omega) | omega) _))).cell⟩
      clear hK K
      try simp only [Act.put, List.setIfInBounds_toArray, List.set_cons_zero, List.set_cons_succ, List.getElem_toArray, List.getElem_cons_zero, List.getElem_cons_succ]
      refine wpAnyH_take (i := 25) (v := ?_) rfl (by kernel_rfl) (by kernel_rfl) (by kernel_rfl) (fun _ _ _ h => h) (Or.inl ⟨by rfl, ?_⟩) hHeld ?_
      rotate_left 1
      · (intro w hSw; (try dsimp only at hSw); go_simp; try with_reducible rfl)
      simp only [Act.put, List.setIfInBounds_toArray, List.set_cons_zero, List.set_cons_succ, List.getElem_toArray, List.getElem_cons_zero, List.getElem_cons_succ]
      refine wpAnyH_take (i := 26) (v := ?_) rfl (by kernel_rfl) (by kernel_rfl) (by kernel_rfl) (fun _ _ _ h => h) (Or.inl ⟨by rfl, ?_⟩) hHeld ?_
      rotate_left 1
      · (intro w hSw; (try dsimp only at hSw); go_simp; try with_reducible rfl)
      simp only [Act.put, List.setIfInBounds_toArray, List.set_cons_zero, List.set_cons_succ, List.getElem_toArray, List.getElem_cons_zero, List.getElem_cons_succ]
      refine wpAnyH_take (i := 27) (v := ?_) rfl (by kernel_rfl) (by kernel_rfl) (by kernel_rfl) (fun _ _ _ h => h) (Or.inl ⟨by rfl, ?_⟩) hHeld ?_
      rotate_left 1
      · (intro w hSw; (try dsimp only at hSw); go_simp; try with_reducible rfl)
      simp only [Act.put, List.setIfInBounds_toArray, List.set_cons_zero, List.set_cons_succ, List.getElem_toArray, List.getElem_cons_zero, List.getElem_cons_succ]
      refine wpAnyH_take (i := 28) (v := ?_) rfl (by kernel_rfl) (by kernel_rfl) (by kernel_rfl) (fun _ _ _ h => h) (Or.inl ⟨by rfl, ?_⟩) hHeld ?_
      rotate_left 1
      · (intro w hSw; (try dsimp only at hSw); go_simp; try with_reducible rfl)
      simp only [Act.put, List.setIfInBounds_toArray, List.set_cons_zero, List.set_cons_succ, List.getElem_toArray, List.getElem_cons_zero, List.getElem_cons_succ]
      refine wpAnyH_take (i := 29) (v := ?_) rfl (by kernel_rfl) (by kernel_rfl) (by kernel_rfl) (fun _ _ _ h => h) (Or.inl ⟨by rfl, ?_⟩) hHeld ?_
      rotate_left 1
      · (intro w hSw; (try dsimp only at hSw); go_simp; try with_reducible rfl)
      simp only [Act.put, List.setIfInBounds_toArray, List.set_cons_zero, List.set_cons_succ, List.getElem_toArray, List.getElem_cons_zero, List.getElem_cons_succ]
      refine wpAnyH_take (i := 31) (v := ?_) rfl (by kernel_rfl) (by kernel_rfl) (by kernel_rfl) (fun _ _ _ h => h) (Or.inl ⟨by rfl, ?_⟩) hHeld ?_
      rotate_left 1
      · (intro w hSw; (try dsimp only at hSw); go_simp; try with_reducible rfl)
      simp only [Act.put, List.setIfInBounds_toArray, List.set_cons_zero, List.set_cons_succ, List.getElem_toArray, List.getElem_cons_zero, List.getElem_cons_succ]
      refine wpAnyH_take (i := 32) (v := ?_) rfl (by kernel_rfl) (by kernel_rfl) (by kernel_rfl) (fun _ _ _ h => h) (Or.inl ⟨by rfl, ?_⟩) hHeld ?_
      rotate_left 1
      · (intro w hSw; (try dsimp only at hSw); go_simp; try with_reducible rfl)
      simp only [Act.put, List.setIfInBounds_toArray, List.set_cons_zero, List.set_cons_succ, List.getElem_toArray, List.getElem_cons_zero, List.getElem_cons_succ]
      refine wpAnyH_ready (rs := [30]) (by kernel_rfl) (by simp) ?_
      refine AllReadyH.cons rfl (fun K hK => ?_) AllReadyH.nil
      go_simp
      (refine (fold_Val _ _ _ _ _).mono ?_; rintro e w5 ⟨rfl, hb5⟩; have hch := Gr.call (a := W) (by repeat (first | assumption | exact Below.refl _ _ | refine Gr.drew ?_ | refine Gr.drewN ?_ _ | refine Gr.alloc ?_ _ | refine Gr.set_ ?_ (by first | simp | (simp; omega) | omega) _)) hb5)
      try go_wp2_with fail
      refine hK.out _ _ ?_ (fun hHeld => ?_)
      · exact ⟨(B7.call (by repeat (first | assumption | exact Below.refl _ _ | refine Gr.drew ?_ | refine Gr.drewN ?_ _ | refine Gr.alloc ?_ _ | refine Gr.set_ ?_ (by first | simp | (simp; omega) | omega) _))).cell, (B8.call (by repeat (first | assumption | exact Below.refl _ _ | refine Gr.drew ?_ | refine Gr.drewN ?_ _ | refine Gr.alloc ?_ _ | refine Gr.set_ ?_ (by first | simp | (simp; omega) | omega) _))).cell⟩
      clear hK K
      try simp only [Act.put, List.setIfInBounds_toArray, List.set_cons_zero, List.set_cons_succ, List.getElem_toArray, List.getElem_cons_zero, List.getElem_cons_succ]
      refine wpAnyH_ready (rs := [33]) (by kernel_rfl) (by simp) ?_
      refine AllReadyH.cons rfl (fun K hK => ?_) AllReadyH.nil
      go_simp
      (refine (ref06_Val _ _ _ _ _).mono ?_; rintro e w6 ⟨rfl, hb6⟩; have hch := Gr.call (a := W) (by repeat (first | assumption | exact Below.refl _ _ | refine Gr.drew ?_ | refine Gr.drewN ?_ _ | refine Gr.alloc ?_ _ | refine Gr.set_ ?_ (by first | simp | (simp; omega) | omega) _)) hb6)
      try go_wp2_with fail
      refine hK.out _ _ ?_ (fun hHeld => ?_)
      · exact ⟨(B7.call (by repeat (first | assumption | exact Below.refl _ _ | refine Gr.drew ?_ | refine Gr.drewN ?_ _ | refine Gr.alloc ?_ _ | refine Gr.set_ ?_ (by first | simp | (simp; omega) | omega) _))).cell, (B8.call (by repeat (first | assumption | exact Below.refl _ _ | refine Gr.drew ?_ | refine Gr.drewN ?_ _ | refine Gr.alloc ?_ _ | refine Gr.set_ ?_ (by first | simp | (simp; omega) | omega) _))).cell⟩
      clear hK K
      try simp only [Act.put, List.setIfInBounds_toArray, List.set_cons_zero, List.set_cons_succ, List.getElem_toArray, List.getElem_cons_zero, List.getElem_cons_succ]
      refine wpAnyH_take (i := 34) (v := ?_) rfl (by kernel_rfl) (by kernel_rfl) (by kernel_rfl) (fun _ _ _ h => h) (Or.inl ⟨by rfl, ?_⟩) hHeld ?_
      rotate_left 1
      · (intro w hSw; (try dsimp only at hSw); go_simp; try with_reducible rfl)
      simp only [Act.put, List.setIfInBounds_toArray, List.set_cons_zero, List.set_cons_succ, List.getElem_toArray, List.getElem_cons_zero, List.getElem_cons_succ]
      refine wpAnyH_take (i := 35) (v := ?_) rfl (by kernel_rfl) (by kernel_rfl) (by kernel_rfl) (fun _ _ _ h => h) (Or.inl ⟨by rfl, ?_⟩) hHeld ?_
      rotate_left 1
      · (intro w hSw; (try dsimp only at hSw); go_simp; try with_reducible rfl)
      simp only [Act.put, List.setIfInBounds_toArray, List.set_cons_zero, List.set_cons_succ, List.getElem_toArray, List.getElem_cons_zero, List.getElem_cons_succ]
      refine wpAnyH_take (i := 36) (v := ?_) rfl (by kernel_rfl) (by kernel_rfl) (by kernel_rfl) (fun _ _ _ h => h) (Or.inl ⟨by rfl, ?_⟩) hHeld ?_
      rotate_left 1
      · (intro w hSw; (try dsimp only at hSw); go_simp; try with_reducible rfl)
      simp only [Act.put, List.setIfInBounds_toArray, List.set_cons_zero, List.set_cons_succ, List.getElem_toArray, List.getElem_cons_zero, List.getElem_cons_succ]
      refine wpAnyH_done (by kernel_rfl) ?_ _
      (go_wp2; go_ret; exact ⟨rfl, Gr.call hb hch⟩)
    · skip
      go_simp
      refine hK.out _ _ ?_ (fun hHeld => ?_)
      · exact ⟨(B7.call (by repeat (first | assumption | exact Below.refl _ _ | refine Gr.drew ?_ | refine Gr.drewN ?_ _ | refine Gr.alloc ?_ _ | refine Gr.set_ ?_ (by first | simp | (simp; omega) | omega) _))).cell, (B8.call (by repeat (first | assumption | exact Below.refl _ _ | refine Gr.drew ?_ | refine Gr.drewN ?_ _ | refine Gr.alloc ?_ _ | refine Gr.set_ ?_ (by first | simp | (simp; omega) | omega) _))).cell⟩
      clear hK K
      try simp only [Act.put, List.setIfInBounds_toArray, List.set_cons_zero, List.set_cons_succ, List.getElem_toArray, List.getElem_cons_zero, List.getElem_cons_succ]
      refine wpAnyH_ready (rs := [20]) (by kernel_rfl) (by simp) ?_
      refine AllReadyH.cons rfl (fun K hK => ?_) AllReadyH.nil
      go_simp
      (refine (fold_One _ _ _).mono ?_; rintro e w3 ⟨x3, HX3, rfl, hb3⟩; have hch := Gr.call (a := W) (by repeat (first | assumption | exact Below.refl _ _ | refine Gr.drew ?_ | refine Gr.drewN ?_ _ | refine Gr.alloc ?_ _ | refine Gr.set_ ?_ (by first | simp | (simp; omega) | omega) _)) hb3; first | have B9 := (Blk.new _ _ _).call hb3 | have B9 := (Blk.new _ _ _).drew.call hb3 | skip)
      try go_wp2_with fail
      refine hK.out _ _ ?_ (fun hHeld => ?_)
      · exact ⟨(B7.call (by repeat (first | assumption | exact Below.refl _ _ | refine Gr.drew ?_ | refine Gr.drewN ?_ _ | refine Gr.alloc ?_ _ | refine Gr.set_ ?_ (by first | simp | (simp; omega) | omega) _))).cell, (B8.call (by repeat (first | assumption | exact Below.refl _ _ | refine Gr.drew ?_ | refine Gr.drewN ?_ _ | refine Gr.alloc ?_ _ | refine Gr.set_ ?_ (by first | simp | (simp; omega) | omega) _))).cell⟩
      clear hK K
      try simp only [Act.put, List.setIfInBounds_toArray, List.set_cons_zero, List.set_cons_succ, List.getElem_toArray, List.getElem_cons_zero, List.getElem_cons_succ]
      refine wpAnyH_ready (rs := [24]) (by kernel_rfl) (by simp) ?_
      refine AllReadyH.cons rfl (fun K hK => ?_) AllReadyH.nil
      go_simp
      (refine (ref06_All _ _ _ _ [v] _ _ (hide rfl) (by first | exact Reads.row1 (Blk.new _ _ _) | exact Reads.row1 B9) (by first | (simp; done) | exact Nat.succ_le_of_lt B9.lt) (by simp) (by simpa using hv)).mono ?_; rintro e w4 ⟨x4, HX4, rfl, hb4⟩; have hch := Gr.call (a := W) (by repeat (first | assumption | exact Below.refl _ _ | refine Gr.drew ?_ | refine Gr.drewN ?_ _ | refine Gr.alloc ?_ _ | refine Gr.set_ ?_ (by first | simp | (simp; omega) | omega) _)) hb4; obtain rfl : x4 = x3 := (HX4.out.trans (allL_one k v)).trans HX3.out.symm)
      try go_wp2_with fail
      refine hK.out _ _ ?_ (fun hHeld => ?_)
      · exact ⟨(B7.call (by repeat (first | assumption | exact Below.refl _ _ | refine Gr.drew ?_ | refine Gr.drewN ?_ _ | refine Gr.alloc ?_ _ | refine Gr.set_ ?_ (by first | simp | (simp; omega) | omega) _))).cell, (B8.call (by repeat (first | assumption | exact Below.refl _ _ | refine Gr.drew ?_ | refine Gr.drewN ?_ _ | refine Gr.alloc ?_ _ | refine Gr.set_ ?_ (by first | simp | (simp; omega) | omega) _))).cell⟩
      clear hK K
      try simp only [Act.put, List.setIfInBounds_toArray, List.set_cons_zero, List.set_cons_succ, List.getElem_toArray, List.getElem_cons_zero, List.getElem_cons_succ]
      refine wpAnyH_take (i := 25) (v := ?_) rfl (by kernel_rfl) (by kernel_rfl) (by kernel_rfl) (fun _ _ _ h => h) (Or.inl ⟨by rfl, ?_⟩) hHeld ?_
      rotate_left 1
      · (intro w hSw; (try dsimp only at hSw); go_simp; try with_reducible rfl)
      simp only [Act.put, List.setIfInBounds_toArray, List.set_cons_zero, List.set_cons_succ, List.getElem_toArray, List.getElem_cons_zero, List.getElem_cons_succ]
      refine wpAnyH_take (i := 26) (v := ?_) rfl (by kernel_rfl) (by kernel_rfl) (by kernel_rfl) (fun _ _ _ h => h) (Or.inl ⟨by rfl, ?_⟩) hHeld ?_
      rotate_left 1
      · (intro w hSw; (try dsimp only at hSw); go_simp; try with_reducible rfl)
      simp only [Act.put, List.setIfInBounds_toArray, List.set_cons_zero, List.set_cons_succ, List.getElem_toArray, List.getElem_cons_zero, List.getElem_cons_succ]
      refine wpAnyH_take (i := 27) (v := ?_) rfl (by kernel_rfl) (by kernel_rfl) (by kernel_rfl) (fun _ _ _ h => h) (Or.inl ⟨by rfl, ?_⟩) hHeld ?_
      rotate_left 1
      · (intro w hSw; (try dsimp only at hSw); go_simp; try with_reducible rfl)
      simp only [Act.put, List.setIfInBounds_toArray, List.set_cons_zero, List.set_cons_succ, List.getElem_toArray, List.getElem_cons_zero, List.getElem_cons_succ]
      refine wpAnyH_take (i := 28) (v := ?_) rfl (by kernel_rfl) (by kernel_rfl) (by kernel_rfl) (fun _ _ _ h => h) (Or.inl ⟨by rfl, ?_⟩) hHeld ?_
      rotate_left 1
      · (intro w hSw; (try dsimp only at hSw); go_simp; try with_reducible rfl)
      simp only [Act.put, List.setIfInBounds_toArray, List.set_cons_zero, List.set_cons_succ, List.getElem_toArray, List.getElem_cons_zero, List.getElem_cons_succ]
      refine wpAnyH_take (i := 29) (v := ?_) rfl (by kernel_rfl) (by kernel_rfl) (by kernel_rfl) (fun _ _ _ h => h) (Or.inl ⟨by rfl, ?_⟩) hHeld ?_
      rotate_left 1
      · (intro w hSw; (try dsimp only at hSw); go_simp; try with_reducible rfl)
      simp only [Act.put, List.setIfInBounds_toArray, List.set_cons_zero, List.set_cons_succ, List.getElem_toArray, List.getElem_cons_zero, List.getElem_cons_succ]
      refine wpAnyH_take (i := 31) (v := ?_) rfl (by kernel_rfl) (by kernel_rfl) (by kernel_rfl) (fun _ _ _ h => h) (Or.inl ⟨by rfl, ?_⟩) hHeld ?_
      rotate_left 1
      · (intro w hSw; (try dsimp only at hSw); go_simp; try with_reducible rfl)
      simp only [Act.put, List.setIfInBounds_toArray, List.set_cons_zero, List.set_cons_succ, List.getElem_toArray, List.getElem_cons_zero, List.getElem_cons_succ]
      refine wpAnyH_take (i := 32) (v := ?_) rfl (by kernel_rfl) (by kernel_rfl) (by kernel_rfl) (fun _ _ _ h => h) (Or.inl ⟨by rfl, ?_⟩) hHeld ?_
      rotate_left 1
      · (intro w hSw; (try dsimp only at hSw); go_simp; try with_reducible rfl)
      simp only [Act.put, List.setIfInBounds_toArray, List.set_cons_zero, List.set_cons_succ, List.getElem_toArray, List.getElem_cons_zero, List.getElem_cons_succ]
      refine wpAnyH_ready (rs := [30]) (by kernel_rfl) (by simp) ?_
      refine AllReadyH.cons rfl (fun K hK => ?_) AllReadyH.nil
      go_simp
      (refine (fold_Val _ _ _ _ _).mono ?_; rintro e w5 ⟨rfl, hb5⟩; have hch := Gr.call (a := W) (by repeat (first | assumption | exact Below.refl _ _ | refine Gr.drew ?_ | refine Gr.drewN ?_ _ | refine Gr.alloc ?_ _ | refine Gr.set_ ?_ (by first | simp | (simp; omega) | omega) _)) hb5)
      try go_wp2_with fail
      refine hK.out _ _ ?_ (fun hHeld => ?_)
      · exact ⟨(B7.call (by repeat (first | assumption | exact Below.refl _ _ | refine Gr.drew ?_ | refine Gr.drewN ?_ _ | refine Gr.alloc ?_ _ | refine Gr.set_ ?_ (by first | simp | (simp; omega) | omega) _))).cell, (B8.call (by repeat (first | assumption | exact Below.refl _ _ | refine Gr.drew ?_ | refine Gr.drewN ?_ _ | refine Gr.alloc ?_ _ | refine Gr.set_ ?_ (by first | simp | (simp; omega) | omega) _))).cell⟩
      clear hK K
      try simp only [Act.put, List.setIfInBounds_toArray, List.set_cons_zero, List.set_cons_succ, List.getElem_toArray, List.getElem_cons_zero, List.getElem_cons_succ]
      refine wpAnyH_ready (rs := [33]) (by kernel_rfl) (by simp) ?_
      refine AllReadyH.cons rfl (fun K hK => ?_) AllReadyH.nil
      go_simp
      (refine (ref06_Val _ _ _ _ _).mono ?_; rintro e w6 ⟨rfl, hb6⟩; have hch := Gr.call (a := W) (by repeat (first | assumption | exact Below.refl _ _ | refine Gr.drew ?_ | refine Gr.drewN ?_ _ | refine Gr.alloc ?_ _ | refine Gr.set_ ?_ (by first | simp | (simp; omega) | omega) _)) hb6)
      try go_wp2_with fail
      refine hK.out _ _ ?_ (fun hHeld => ?_)
      · exact ⟨(B7.call (by repeat (first | assumption | exact Below.refl _ _ | refine Gr.drew ?_ | refine Gr.drewN ?_ _ | refine Gr.alloc ?_ _ | refine Gr.set_ ?_ (by first | simp | (simp; omega) | omega) _))).cell, (B8.call (by repeat (first | assumption | exact Below.refl _ _ | refine Gr.drew ?_ | refine Gr.drewN ?_ _ | refine Gr.alloc ?_ _ | refine Gr.set_ ?_ (by first | simp | (simp; omega) | omega) _))).cell⟩
      clear hK K
      try simp only [Act.put, List.setIfInBounds_toArray, List.set_cons_zero, List.set_cons_succ, List.getElem_toArray, List.getElem_cons_zero, List.getElem_cons_succ]
      refine wpAnyH_take (i := 34) (v := ?_) rfl (by kernel_rfl) (by kernel_rfl) (by kernel_rfl) (fun _ _ _ h => h) (Or.inl ⟨by rfl, ?_⟩) hHeld ?_
      rotate_left 1
      · (intro w hSw; (try dsimp only at hSw); go_simp; try with_reducible rfl)
      simp only [Act.put, List.setIfInBounds_toArray, List.set_cons_zero, List.set_cons_succ, List.getElem_toArray, List.getElem_cons_zero, List.getElem_cons_succ]
      refine wpAnyH_take (i := 35) (v := ?_) rfl (by kernel_rfl) (by kernel_rfl) (by kernel_rfl) (fun _ _ _ h => h) (Or.inl ⟨by rfl, ?_⟩) hHeld ?_
      rotate_left 1
      · (intro w hSw; (try dsimp only at hSw); go_simp; try with_reducible rfl)
      simp only [Act.put, List.setIfInBounds_toArray, List.set_cons_zero, List.set_cons_succ, List.getElem_toArray, List.getElem_cons_zero, List.getElem_cons_succ]
      refine wpAnyH_take (i := 36) (v := ?_) rfl (by kernel_rfl) (by kernel_rfl) (by kernel_rfl) (fun _ _ _ h => h) (Or.inl ⟨by rfl, ?_⟩) hHeld ?_
      rotate_left 1
      · (intro w hSw; (try dsimp only at hSw); go_simp; try with_reducible rfl)
      simp only [Act.put, List.setIfInBounds_toArray, List.set_cons_zero, List.set_cons_succ, List.getElem_toArray, List.getElem_cons_zero, List.getElem_cons_succ]
      refine wpAnyH_done (by kernel_rfl) ?_ _
      (go_wp2; go_ret; exact ⟨rfl, Gr.call hb hch⟩)
  · have d1 : decide (1 ≤ k) = true := by simp; omega
    have d2 : decide (k ≤ 5) = true := by simp; omega
    refine wp_region_held_drew (S := (fun w' => (∀ i, w'.cell? ⟨w1.heap.size, i, none⟩ = (#[.int .i64 x2.n, .int .i64 x2.a, .int .i64 x2.b] : Array Value)[i]?) ∧ (∀ i, w'.cell? ⟨w2.heap.size, i, none⟩ = (#[.int .i64 x2.n, .int .i64 x2.a, .int .i64 x2.b] : Array Value)[i]?))) (by kernel_rfl) (by exact ⟨(B7.call (by repeat (first | assumption | exact Below.refl _ _ | refine Gr.drew ?_ | refine Gr.drewN ?_ _ | refine Gr.alloc ?_ _ | refine Gr.set_ ?_ (by first | simp | (simp; omega) | omega) _))).cell, (B8.call (by repeat (first | assumption | exact Below.refl _ _ | refine Gr.drew ?_ | refine Gr.drewN ?_ _ | refine Gr.alloc ?_ _ | refine Gr.set_ ?_ (by first | simp | (simp; omega) | omega) _))).cell⟩) (fun hHeld => ?_)
    refine wpAnyH_ready (rs := [0]) (by kernel_rfl) (by simp) ?_
    refine AllReadyH.cons rfl (fun K hK => ?_) AllReadyH.nil
    go_simp
    (refine (fold_Right _ _).mono ?_; rintro e w' ⟨rfl, rfl⟩)
    try go_wp2_with fail
    refine hK.out _ _ ?_ (fun hHeld => ?_)
    · exact ⟨(B7.call (by repeat (first | assumption | exact Below.refl _ _ | refine Gr.drew ?_ | refine Gr.drewN ?_ _ | refine Gr.alloc ?_ _ | refine Gr.set_ ?_ (by first | simp | (simp; omega) | omega) _))).cell, (B8.call (by repeat (first | assumption | exact Below.refl _ _ | refine Gr.drew ?_ | refine Gr.drewN ?_ _ | refine Gr.alloc ?_ _ | refine Gr.set_ ?_ (by first | simp | (simp; omega) | omega) _))).cell⟩
    clear hK K
    try simp only [Act.put, List.setIfInBounds_toArray, List.set_cons_zero, List.set_cons_succ, List.getElem_toArray, List.getElem_cons_zero, List.getElem_cons_succ]
    refine wpAnyH_take (i := 1) (v := ?_) rfl (by kernel_rfl) (by kernel_rfl) (by kernel_rfl) (fun _ _ _ h => h) (Or.inl ⟨by rfl, ?_⟩) hHeld ?_
    rotate_left 1
    · (intro w hSw; (try dsimp only at hSw); go_simp; try with_reducible rfl)
    simp only [Act.put, List.setIfInBounds_toArray, List.set_cons_zero, List.set_cons_succ, List.getElem_toArray, List.getElem_cons_zero, List.getElem_cons_succ]
    refine wpAnyH_take (i := 2) (v := ?_) rfl (by kernel_rfl) (by kernel_rfl) (by kernel_rfl) (fun _ _ _ h => h) (Or.inl ⟨by rfl, ?_⟩) hHeld ?_
    rotate_left 1
    · (intro w hSw; (try dsimp only at hSw); go_simp; try with_reducible rfl)
    simp only [Act.put, List.setIfInBounds_toArray, List.set_cons_zero, List.set_cons_succ, List.getElem_toArray, List.getElem_cons_zero, List.getElem_cons_succ]
    refine wpAnyH_take (i := 4) (v := ?_) rfl (by kernel_rfl) (by kernel_rfl) (by kernel_rfl) (fun _ _ _ h => h) (Or.inl ⟨by rfl, ?_⟩) hHeld ?_
    rotate_left 1
    · (intro w hSw; (try dsimp only at hSw); go_simp; try with_reducible rfl)
    simp only [Act.put, List.setIfInBounds_toArray, List.set_cons_zero, List.set_cons_succ, List.getElem_toArray, List.getElem_cons_zero, List.getElem_cons_succ]
    refine wpAnyH_take (i := 5) (v := ?_) rfl (by kernel_rfl) (by kernel_rfl) (by kernel_rfl) (fun _ _ _ h => h) (Or.inl ⟨by rfl, ?_⟩) hHeld ?_
    rotate_left 1
    · (intro w hSw; (try dsimp only at hSw); go_simp; try with_reducible rfl)
    simp only [Act.put, List.setIfInBounds_toArray, List.set_cons_zero, List.set_cons_succ, List.getElem_toArray, List.getElem_cons_zero, List.getElem_cons_succ]
    refine wpAnyH_ready (rs := [3]) (by kernel_rfl) (by simp) ?_
    refine AllReadyH.cons rfl (fun K hK => ?_) AllReadyH.nil
    go_simp
    (refine (fold_Right _ _).mono ?_; rintro e w' ⟨rfl, rfl⟩)
    try go_wp2_with fail
    refine hK.out _ _ ?_ (fun hHeld => ?_)
    · exact ⟨(B7.call (by repeat (first | assumption | exact Below.refl _ _ | refine Gr.drew ?_ | refine Gr.drewN ?_ _ | refine Gr.alloc ?_ _ | refine Gr.set_ ?_ (by first | simp | (simp; omega) | omega) _))).cell, (B8.call (by repeat (first | assumption | exact Below.refl _ _ | refine Gr.drew ?_ | refine Gr.drewN ?_ _ | refine Gr.alloc ?_ _ | refine Gr.set_ ?_ (by first | simp | (simp; omega) | omega) _))).cell⟩
    clear hK K
    try simp only [Act.put, List.setIfInBounds_toArray, List.set_cons_zero, List.set_cons_succ, List.getElem_toArray, List.getElem_cons_zero, List.getElem_cons_succ]
    refine wpAnyH_take (i := 6) (v := ?_) rfl (by kernel_rfl) (by kernel_rfl) (by kernel_rfl) (fun _ _ _ h => h) (Or.inl ⟨by rfl, ?_⟩) hHeld ?_
    rotate_left 1
    · (intro w hSw; (try dsimp only at hSw); go_simp; try with_reducible rfl)
    simp only [Act.put, List.setIfInBounds_toArray, List.set_cons_zero, List.set_cons_succ, List.getElem_toArray, List.getElem_cons_zero, List.getElem_cons_succ]
    refine wpAnyH_take (i := 7) (v := ?_) rfl (by kernel_rfl) (by kernel_rfl) (by kernel_rfl) (fun _ _ _ h => h) (Or.inl ⟨by rfl, ?_⟩) hHeld ?_
    rotate_left 1
    · (intro w hSw; (try dsimp only at hSw); go_simp; try with_reducible rfl)
    simp only [Act.put, List.setIfInBounds_toArray, List.set_cons_zero, List.set_cons_succ, List.getElem_toArray, List.getElem_cons_zero, List.getElem_cons_succ]
    refine wpAnyH_take (i := 8) (v := ?_) rfl (by kernel_rfl) (by kernel_rfl) (by kernel_rfl) (fun _ _ _ h => h) (Or.inl ⟨by rfl, ?_⟩) hHeld ?_
    rotate_left 1
    · (intro w hSw; (try dsimp only at hSw); go_simp; try with_reducible rfl)
    simp only [Act.put, List.setIfInBounds_toArray, List.set_cons_zero, List.set_cons_succ, List.getElem_toArray, List.getElem_cons_zero, List.getElem_cons_succ]
    refine wpAnyH_take (i := 9) (v := ?_) rfl (by kernel_rfl) (by kernel_rfl) (by kernel_rfl) (fun _ _ _ h => h) (Or.inl ⟨by rfl, ?_⟩) hHeld ?_
    rotate_left 1
    · (intro w hSw; (try dsimp only at hSw); go_simp; try with_reducible rfl)
    simp only [Act.put, List.setIfInBounds_toArray, List.set_cons_zero, List.set_cons_succ, List.getElem_toArray, List.getElem_cons_zero, List.getElem_cons_succ]
    refine wpAnyH_take (i := 10) (v := ?_) rfl (by kernel_rfl) (by kernel_rfl) (by kernel_rfl) (fun _ _ _ h => h) (Or.inl ⟨by rfl, ?_⟩) hHeld ?_
    rotate_left 1
    · (intro w hSw; (try dsimp only at hSw); go_simp; try with_reducible rfl)
    simp only [Act.put, List.setIfInBounds_toArray, List.set_cons_zero, List.set_cons_succ, List.getElem_toArray, List.getElem_cons_zero, List.getElem_cons_succ]
    refine wpAnyH_take (i := 11) (v := ?_) rfl (by kernel_rfl) (by kernel_rfl) (by kernel_rfl) (fun _ _ _ h => h) (Or.inl ⟨by rfl, ?_⟩) hHeld ?_
    rotate_left 1
    · (intro w hSw; (try dsimp only at hSw); go_simp; try with_reducible rfl)
    simp only [Act.put, List.setIfInBounds_toArray, List.set_cons_zero, List.set_cons_succ, List.getElem_toArray, List.getElem_cons_zero, List.getElem_cons_succ]
    refine wpAnyH_take (i := 12) (v := ?_) rfl (by kernel_rfl) (by kernel_rfl) (by kernel_rfl) (fun _ _ _ h => h) (Or.inl ⟨by rfl, ?_⟩) hHeld ?_
    rotate_left 1
    · (intro w hSw; (try dsimp only at hSw); go_simp; try with_reducible rfl)
    simp only [Act.put, List.setIfInBounds_toArray, List.set_cons_zero, List.set_cons_succ, List.getElem_toArray, List.getElem_cons_zero, List.getElem_cons_succ]
    refine wpAnyH_take (i := 13) (v := ?_) rfl (by kernel_rfl) (by kernel_rfl) (by kernel_rfl) (fun _ _ _ h => h) (Or.inl ⟨by rfl, ?_⟩) hHeld ?_
    rotate_left 1
    · (intro w hSw; (try dsimp only at hSw); go_simp; try with_reducible rfl)
    simp only [Act.put, List.setIfInBounds_toArray, List.set_cons_zero, List.set_cons_succ, List.getElem_toArray, List.getElem_cons_zero, List.getElem_cons_succ]
    refine wpAnyH_take (i := 14) (v := ?_) rfl (by kernel_rfl) (by kernel_rfl) (by kernel_rfl) (fun _ _ _ h => h) (Or.inl ⟨by rfl, ?_⟩) hHeld ?_
    rotate_left 1
    · (intro w hSw; (try dsimp only at hSw); go_simp; try with_reducible rfl)
    simp only [Act.put, List.setIfInBounds_toArray, List.set_cons_zero, List.set_cons_succ, List.getElem_toArray, List.getElem_cons_zero, List.getElem_cons_succ]
    refine wpAnyH_take (i := 15) (v := ?_) rfl (by kernel_rfl) (by kernel_rfl) (by kernel_rfl) (fun _ _ _ h => h) (Or.inl ⟨by rfl, ?_⟩) hHeld ?_
    rotate_left 1
    · (intro w hSw; (try dsimp only at hSw); go_simp; try with_reducible rfl)
    simp only [Act.put, List.setIfInBounds_toArray, List.set_cons_zero, List.set_cons_succ, List.getElem_toArray, List.getElem_cons_zero, List.getElem_cons_succ]
    refine wpAnyH_take (i := 16) (v := ?_) rfl (by kernel_rfl) (by kernel_rfl) (by kernel_rfl) (fun _ _ _ h => h) (Or.inl ⟨by rfl, ?_⟩) hHeld ?_
    rotate_left 1
    · (intro w hSw; (try dsimp only at hSw); go_simp; try with_reducible rfl)
    simp only [Act.put, List.setIfInBounds_toArray, List.set_cons_zero, List.set_cons_succ, List.getElem_toArray, List.getElem_cons_zero, List.getElem_cons_succ]
    refine wpAnyH_take (i := 17) (v := ?_) rfl (by kernel_rfl) (by kernel_rfl) (by kernel_rfl) (fun _ _ _ h => h) (Or.inl ⟨by rfl, ?_⟩) hHeld ?_
    rotate_left 1
    · (intro w hSw; (try dsimp only at hSw); go_simp; try with_reducible rfl)
    simp only [Act.put, List.setIfInBounds_toArray, List.set_cons_zero, List.set_cons_succ, List.getElem_toArray, List.getElem_cons_zero, List.getElem_cons_succ]
    refine wpAnyH_take (i := 18) (v := ?_) rfl (by kernel_rfl) (by kernel_rfl) (by kernel_rfl) (fun _ _ _ h => h) (Or.inl ⟨by rfl, ?_⟩) hHeld ?_
    rotate_left 1
    · (intro w hSw; (try dsimp only at hSw); go_simp; try with_reducible rfl)
    simp only [Act.put, List.setIfInBounds_toArray, List.set_cons_zero, List.set_cons_succ, List.getElem_toArray, List.getElem_cons_zero, List.getElem_cons_succ]
    refine wpAnyH_take (i := 19) (v := ?_) rfl (by kernel_rfl) (by kernel_rfl) (by kernel_rfl) (fun _ _ _ h => h) (Or.inl ⟨by rfl, ?_⟩) hHeld ?_
    rotate_left 1
    · (intro w hSw; (try dsimp only at hSw); go_simp; try with_reducible rfl)
    simp only [Act.put, List.setIfInBounds_toArray, List.set_cons_zero, List.set_cons_succ, List.getElem_toArray, List.getElem_cons_zero, List.getElem_cons_succ]
    refine wpAnyH_take (i := 21) (v := ?_) rfl (by kernel_rfl) (by kernel_rfl) (by kernel_rfl) (fun _ _ _ h => h) (Or.inl ⟨by rfl, ?_⟩) hHeld ?_
    rotate_left 1
    · (intro w hSw; (try dsimp only at hSw); go_simp; try with_reducible rfl)
    simp only [Act.put, List.setIfInBounds_toArray, List.set_cons_zero, List.set_cons_succ, List.getElem_toArray, List.getElem_cons_zero, List.getElem_cons_succ]
    refine wpAnyH_take (i := 22) (v := ?_) rfl (by kernel_rfl) (by kernel_rfl) (by kernel_rfl) (fun _ _ _ h => h) (Or.inl ⟨by rfl, ?_⟩) hHeld ?_
    rotate_left 1
    · (intro w hSw; (try dsimp only at hSw); go_simp; try with_reducible rfl)
    simp only [Act.put, List.setIfInBounds_toArray, List.set_cons_zero, List.set_cons_succ, List.getElem_toArray, List.getElem_cons_zero, List.getElem_cons_succ]
    refine wpAnyH_ready (rs := [20, 23]) (by kernel_rfl) (by simp) ?_
    refine AllReadyH.cons rfl (fun K hK => ?_) (AllReadyH.cons rfl (fun K hK => ?_) AllReadyH.nil)
    · skip
      go_simp
      (refine (fold_One _ _ _).mono ?_; rintro e w3 ⟨x3, HX3, rfl, hb3⟩; have hch := Gr.call (a := W) (by repeat (first | assumption | exact Below.refl _ _ | refine Gr.drew ?_ | refine Gr.drewN ?_ _ | refine Gr.alloc ?_ _ | refine Gr.set_ ?_ (by first | simp | (simp; omega) | omega) _)) hb3; first | have B9 := (Blk.new _ _ _).call hb3 | have B9 := (Blk.new _ _ _).drew.call hb3 | skip)
      try go_wp2_with fail
      refine hK.out _ _ ?_ (fun hHeld => ?_)
      · exact ⟨(B7.call (by repeat (first | assumption | exact Below.refl _ _ | refine Gr.drew ?_ | refine Gr.drewN ?_ _ | refine Gr.alloc ?_ _ | refine Gr.set_ ?_ (by first | simp | (simp; omega) | omega) _))).cell, (B8.call (by repeat (first | assumption | exact Below.refl _ _ | refine Gr.drew ?_ | refine Gr.drewN ?_ _ | refine Gr.alloc ?_ _ | refine Gr.set_ ?_ (by first | simp | (simp; omega) | omega) _))).cell⟩
      clear hK K
      try simp only [Act.put, List.setIfInBounds_toArray, List.set_cons_zero, List.set_cons_succ, List.getElem_toArray, List.getElem_cons_zero, List.getElem_cons_succ]
      refine wpAnyH_ready (rs := [23]) (by kernel_rfl) (by simp) ?_
      refine AllReadyH.cons rfl (fun K hK => ?_) AllReadyH.nil
      go_simp
      refine hK.out _ _ ?_ (fun hHeld => ?_)
      · exact ⟨(B7.call (by repeat (first | assumption | exact Below.refl _ _ | refine Gr.drew ?_ | refine Gr.drewN ?_ _ | refine Gr.alloc ?_ _ | refine Gr.set_ ?_ (by first | simp | (simp; omega) | omega) _))).cell, (B8.call (by repeat (first | assumption | exact Below.refl _ _ | refine Gr.drew ?_ | refine Gr.drewN ?_ _ | refine Gr.alloc ?_ _ | refine Gr.set_ ?_ (by first | simp | (simp; omega) | omega) _))).cell⟩
      clear hK K
      try simp only [Act.put, List.setIfInBounds_toArray, List.set_cons_zero, List.set_cons_succ, List.getElem_toArray, List.getElem_cons_zero, List.getElem_cons_succ]
      refine wpAnyH_ready (rs := [24]) (by kernel_rfl) (by simp) ?_
      refine AllReadyH.cons rfl (fun K hK => ?_) AllReadyH.nil
      go_simp
      (refine (ref06_All _ _ _ _ [v] _ _ (hide rfl) (by first | exact Reads.row1 (Blk.new _ _ _) | exact Reads.row1 B9) (by first | (simp; done) | exact Nat.succ_le_of_lt B9.lt) (by simp) (by simpa using hv)).mono ?_; rintro e w4 ⟨x4, HX4, rfl, hb4⟩; have hch := Gr.call (a := W) (by repeat (first | assumption | exact Below.refl _ _ | refine Gr.drew ?_ | refine Gr.drewN ?_ _ | refine Gr.alloc ?_ _ | refine Gr.set_ ?_ (by first | simp | (simp; omega) | omega) _)) hb4; obtain rfl : x4 = x3 := (HX4.out.trans (allL_one k v)).trans HX3.out.symm)
      try go_wp2_with fail
      refine hK.out _ _ ?_ (fun hHeld => ?_)
      · exact ⟨(B7.call (by repeat (first | assumption | exact Below.refl _ _ | refine Gr.drew ?_ | refine Gr.drewN ?_ _ | refine Gr.alloc ?_ _ | refine Gr.set_ ?_ (by first | simp | (simp; omega) | omega) _))).cell, (B8.call (by repeat (first | assumption | exact Below.refl _ _ | refine Gr.drew ?_ | refine Gr.drewN ?_ _ | refine Gr.alloc ?_ _ | refine Gr.set_ ?_ (by first | simp | (simp; omega) | omega) _))).cell⟩
      clear hK K
      try simp only [Act.put, List.setIfInBounds_toArray, List.set_cons_zero, List.set_cons_succ, List.getElem_toArray, List.getElem_cons_zero, List.getElem_cons_succ]
      refine wpAnyH_take (i := 25) (v := ?_) rfl (by kernel_rfl) (by kernel_rfl) (by kernel_rfl) (fun _ _ _ h => h) (Or.inl ⟨by rfl, ?_⟩) hHeld ?_
      rotate_left 1
      · (intro w hSw; (try dsimp only at hSw); go_simp; try with_reducible rfl)
      simp only [Act.put, List.setIfInBounds_toArray, List.set_cons_zero, List.set_cons_succ, List.getElem_toArray, List.getElem_cons_zero, List.getElem_cons_succ]
      refine wpAnyH_take (i := 26) (v := ?_) rfl (by kernel_rfl) (by kernel_rfl) (by kernel_rfl) (fun _ _ _ h => h) (Or.inl ⟨by rfl, ?_⟩) hHeld ?_
      rotate_left 1
      · (intro w hSw; (try dsimp only at hSw); go_simp; try with_reducible rfl)
      simp only [Act.put, List.setIfInBounds_toArray, List.set_cons_zero, List.set_cons_succ, List.getElem_toArray, List.getElem_cons_zero, List.getElem_cons_succ]
      refine wpAnyH_take (i := 27) (v := ?_) rfl (by kernel_rfl) (by kernel_rfl) (by kernel_rfl) (fun _ _ _ h => h) (Or.inl ⟨by rfl, ?_⟩) hHeld ?_
      rotate_left 1
      · (intro w hSw; (try dsimp only at hSw); go_simp; try with_reducible rfl)
      simp only [Act.put, List.setIfInBounds_toArray, List.set_cons_zero, List.set_cons_succ, List.getElem_toArray, List.getElem_cons_zero, List.getElem_cons_succ]
      refine wpAnyH_take (i := 28) (v := ?_) rfl (by kernel_rfl) (by kernel_rfl) (by kernel_rfl) (fun _ _ _ h => h) (Or.inl ⟨by rfl, ?_⟩) hHeld ?_
      rotate_left 1
      · (intro w hSw; (try dsimp only at hSw); go_simp; try with_reducible rfl)
      simp only [Act.put, List.setIfInBounds_toArray, List.set_cons_zero, List.set_cons_succ, List.getElem_toArray, List.getElem_cons_zero, List.getElem_cons_succ]
      refine wpAnyH_take (i := 29) (v := ?_) rfl (by kernel_rfl) (by kernel_rfl) (by kernel_rfl) (fun _ _ _ h => h) (Or.inl ⟨by rfl, ?_⟩) hHeld ?_
      rotate_left 1
      · (intro w hSw; (try dsimp only at hSw); go_simp; try with_reducible rfl)
      simp only [Act.put, List.setIfInBounds_toArray, List.set_cons_zero, List.set_cons_succ, List.getElem_toArray, List.getElem_cons_zero, List.getElem_cons_succ]
      refine wpAnyH_take (i := 31) (v := ?_) rfl (by kernel_rfl) (by kernel_rfl) (by kernel_rfl) (fun _ _ _ h => h) (Or.inl ⟨by rfl, ?_⟩) hHeld ?_
      rotate_left 1
      · (intro w hSw; (try dsimp only at hSw); go_simp; try with_reducible rfl)
      simp only [Act.put, List.setIfInBounds_toArray, List.set_cons_zero, List.set_cons_succ, List.getElem_toArray, List.getElem_cons_zero, List.getElem_cons_succ]
      refine wpAnyH_take (i := 32) (v := ?_) rfl (by kernel_rfl) (by kernel_rfl) (by kernel_rfl) (fun _ _ _ h => h) (Or.inl ⟨by rfl, ?_⟩) hHeld ?_
      rotate_left 1
      · (intro w hSw; (try dsimp only at hSw); go_simp; try with_reducible rfl)
      simp only [Act.put, List.setIfInBounds_toArray, List.set_cons_zero, List.set_cons_succ, List.getElem_toArray, List.getElem_cons_zero, List.getElem_cons_succ]
      refine wpAnyH_ready (rs := [30]) (by kernel_rfl) (by simp) ?_
      refine AllReadyH.cons rfl (fun K hK => ?_) AllReadyH.nil
      go_simp
      (refine (fold_Val _ _ _ _ _).mono ?_; rintro e w5 ⟨rfl, hb5⟩; have hch := Gr.call (a := W) (by repeat (first | assumption | exact Below.refl _ _ | refine Gr.drew ?_ | refine Gr.drewN ?_ _ | refine Gr.alloc ?_ _ | refine Gr.set_ ?_ (by first | simp | (simp; omega) | omega) _)) hb5)
      try go_wp2_with fail
      refine hK.out _ _ ?_ (fun hHeld => ?_)
      · exact ⟨(B7.call (by repeat (first | assumption | exact Below.refl _ _ | refine Gr.drew ?_ | refine Gr.drewN ?_ _ | refine Gr.alloc ?_ _ | refine Gr.set_ ?_ (by first | simp | (simp; omega) | omega) _))).cell, (B8.call (by repeat (first | assumption | exact Below.refl _ _ | refine Gr.drew ?_ | refine Gr.drewN ?_ _ | refine Gr.alloc ?_ _ | refine Gr.set_ ?_ (by first | simp | (simp; omega) | omega) _))).cell⟩
      clear hK K
      try simp only [Act.put, List.setIfInBounds_toArray, List.set_cons_zero, List.set_cons_succ, List.getElem_toArray, List.getElem_cons_zero, List.getElem_cons_succ]
      refine wpAnyH_ready (rs := [33]) (by kernel_rfl) (by simp) ?_
      refine AllReadyH.cons rfl (fun K hK => ?_) AllReadyH.nil
      go_simp
      (refine (ref06_Val _ _ _ _ _).mono ?_; rintro e w6 ⟨rfl, hb6⟩; have hch := Gr.call (a := W) (by repeat (first | assumption | exact Below.refl _ _ | refine Gr.drew ?_ | refine Gr.drewN ?_ _ | refine Gr.alloc ?_ _ | refine Gr.set_ ?_ (by first | simp | (simp; omega) | omega) _)) hb6)
      try go_wp2_with fail
      refine hK.out _ _ ?_ (fun hHeld => ?_)
      · exact ⟨(B7.call (by repeat (first | assumption | exact Below.refl _ _ | refine Gr.drew ?_ | refine Gr.drewN ?_ _ | refine Gr.alloc ?_ _ | refine Gr.set_ ?_ (by first | simp | (simp; omega) | omega) _))).cell, (B8.call (by repeat (first | assumption | exact Below.refl _ _ | refine Gr.drew ?_ | refine Gr.drewN ?_ _ | refine Gr.alloc ?_ _ | refine Gr.set_ ?_ (by first | simp | (simp; omega) | omega) _))).cell⟩
      clear hK K
      try simp only [Act.put, List.setIfInBounds_toArray, List.set_cons_zero, List.set_cons_succ, List.getElem_toArray, List.getElem_cons_zero, List.getElem_cons_succ]
      refine wpAnyH_take (i := 34) (v := ?_) rfl (by kernel_rfl) (by kernel_rfl) (by kernel_rfl) (fun _ _ _ h => h) (Or.inl ⟨by rfl, ?_⟩) hHeld ?_
      rotate_left 1
      · (intro w hSw; (try dsimp only at hSw); go_simp; try with_reducible rfl)
      simp only [Act.put, List.setIfInBounds_toArray, List.set_cons_zero, List.set_cons_succ, List.getElem_toArray, List.getElem_cons_zero, List.getElem_cons_succ]
      refine wpAnyH_take (i := 35) (v := ?_) rfl (by kernel_rfl) (by kernel_rfl) (by kernel_rfl) (fun _ _ _ h => h) (Or.inl ⟨by rfl, ?_⟩) hHeld ?_
      rotate_left 1
      · (intro w hSw; (try dsimp only at hSw); go_simp; try with_reducible rfl)
      simp only [Act.put, List.setIfInBounds_toArray, List.set_cons_zero, List.set_cons_succ, List.getElem_toArray, List.getElem_cons_zero, List.getElem_cons_succ]
      refine wpAnyH_take (i := 36) (v := ?_) rfl (by kernel_rfl) (by kernel_rfl) (by kernel_rfl) (fun _ _ _ h => h) (Or.inl ⟨by rfl, ?_⟩) hHeld ?_
      rotate_left 1
      · (intro w hSw; (try dsimp only at hSw); go_simp; try with_reducible rfl)
      simp only [Act.put, List.setIfInBounds_toArray, List.set_cons_zero, List.set_cons_succ, List.getElem_toArray, List.getElem_cons_zero, List.getElem_cons_succ]
      refine wpAnyH_done (by kernel_rfl) ?_ _
      (go_wp2; go_ret; exact ⟨rfl, Gr.call hb hch⟩)
    · skip
      go_simp
      refine hK.out _ _ ?_ (fun hHeld => ?_)
      · exact ⟨(B7.call (by repeat (first | assumption | exact Below.refl _ _ | refine Gr.drew ?_ | refine Gr.drewN ?_ _ | refine Gr.alloc ?_ _ | refine Gr.set_ ?_ (by first | simp | (simp; omega) | omega) _))).cell, (B8.call (by repeat (first | assumption | exact Below.refl _ _ | refine Gr.drew ?_ | refine Gr.drewN ?_ _ | refine Gr.alloc ?_ _ | refine Gr.set_ ?_ (by first | simp | (simp; omega) | omega) _))).cell⟩
      clear hK K
      try simp only [Act.put, List.setIfInBounds_toArray, List.set_cons_zero, List.set_cons_succ, List.getElem_toArray, List.getElem_cons_zero, List.getElem_cons_succ]
      refine wpAnyH_ready (rs := [20]) (by kernel_rfl) (by simp) ?_
      refine AllReadyH.cons rfl (fun K hK => ?_) AllReadyH.nil
      go_simp
      (refine (fold_One _ _ _).mono ?_; rintro e w3 ⟨x3, HX3, rfl, hb3⟩; have hch := Gr.call (a := W) (by repeat (first | assumption | exact Below.refl _ _ | refine Gr.drew ?_ | refine Gr.drewN ?_ _ | refine Gr.alloc ?_ _ | refine Gr.set_ ?_ (by first | simp | (simp; omega) | omega) _)) hb3; first | have B9 := (Blk.new _ _ _).call hb3 | have B9 := (Blk.new _ _ _).drew.call hb3 | skip)
      try go_wp2_with fail
      refine hK.out _ _ ?_ (fun hHeld => ?_)
      · exact ⟨(B7.call (by repeat (first | assumption | exact Below.refl _ _ | refine Gr.drew ?_ | refine Gr.drewN ?_ _ | refine Gr.alloc ?_ _ | refine Gr.set_ ?_ (by first | simp | (simp; omega) | omega) _))).cell, (B8.call (by repeat (first | assumption | exact Below.refl _ _ | refine Gr.drew ?_ | refine Gr.drewN ?_ _ | refine Gr.alloc ?_ _ | refine Gr.set_ ?_ (by first | simp | (simp; omega) | omega) _))).cell⟩
      clear hK K
      try simp only [Act.put, List.setIfInBounds_toArray, List.set_cons_zero, List.set_cons_succ, List.getElem_toArray, List.getElem_cons_zero, List.getElem_cons_succ]
      refine wpAnyH_ready (rs := [24]) (by kernel_rfl) (by simp) ?_
      refine AllReadyH.cons rfl (fun K hK => ?_) AllReadyH.nil
      go_simp
      (refine (ref06_All _ _ _ _ [v] _ _ (hide rfl) (by first | exact Reads.row1 (Blk.new _ _ _) | exact Reads.row1 B9) (by first | (simp; done) | exact Nat.succ_le_of_lt B9.lt) (by simp) (by simpa using hv)).mono ?_; rintro e w4 ⟨x4, HX4, rfl, hb4⟩; have hch := Gr.call (a := W) (by repeat (first | assumption | exact Below.refl _ _ | refine Gr.drew ?_ | refine Gr.drewN ?_ _ | refine Gr.alloc ?_ _ | refine Gr.set_ ?_ (by first | simp | (simp; omega) | omega) _)) hb4; obtain rfl : x4 = x3 := (HX4.out.trans (allL_one k v)).trans HX3.out.symm)
      try go_wp2_with fail
      refine hK.out _ _ ?_ (fun hHeld => ?_)
      · exact ⟨(B7.call (by repeat (first | assumption | exact Below.refl _ _ | refine Gr.drew ?_ | refine Gr.drewN ?_ _ | refine Gr.alloc ?_ _ | refine Gr.set_ ?_ (by first | simp | (simp; omega) | omega) _))).cell, (B8.call (by repeat (first | assumption | exact Below.refl _ _ | refine Gr.drew ?_ | refine Gr.drewN ?_ _ | refine Gr.alloc ?_ _ | refine Gr.set_ ?_ (by first | simp | (simp; omega) | omega) _))).cell⟩
      clear hK K
      try simp only [Act.put, List.setIfInBounds_toArray, List.set_cons_zero, List.set_cons_succ, List.getElem_toArray, List.getElem_cons_zero, List.getElem_cons_succ]
      refine wpAnyH_take (i := 25) (v := ?_) rfl (by kernel_rfl) (by kernel_rfl) (by kernel_rfl) (fun _ _ _ h => h) (Or.inl ⟨by rfl, ?_⟩) hHeld ?_
      rotate_left 1
      · (intro w hSw; (try dsimp only at hSw); go_simp; try with_reducible rfl)
      simp only [Act.put, List.setIfInBounds_toArray, List.set_cons_zero, List.set_cons_succ, List.getElem_toArray, List.getElem_cons_zero, List.getElem_cons_succ]
      refine wpAnyH_take (i := 26) (v := ?_) rfl (by kernel_rfl) (by kernel_rfl) (by kernel_rfl) (fun _ _ _ h => h) (Or.inl ⟨by rfl, ?_⟩) hHeld ?_
      rotate_left 1
      · (intro w hSw; (try dsimp only at hSw); go_simp; try with_reducible rfl)
      simp only [Act.put, List.setIfInBounds_toArray, List.set_cons_zero, List.set_cons_succ, List.getElem_toArray, List.getElem_cons_zero, List.getElem_cons_succ]
      refine wpAnyH_take (i := 27) (v := ?_) rfl (by kernel_rfl) (by kernel_rfl) (by kernel_rfl) (fun _ _ _ h => h) (Or.inl ⟨by rfl, ?_⟩) hHeld ?_
      rotate_left 1
      · (intro w hSw; (try dsimp only at hSw); go_simp; try with_reducible rfl)
      simp only [Act.put, List.setIfInBounds_toArray, List.set_cons_zero, List.set_cons_succ, List.getElem_toArray, List.getElem_cons_zero, List.getElem_cons_succ]
      refine wpAnyH_take (i := 28) (v := ?_) rfl (by kernel_rfl) (by kernel_rfl) (by kernel_rfl) (fun _ _ _ h => h) (Or.inl ⟨by rfl, ?_⟩) hHeld ?_
      rotate_left 1
      · (intro w hSw; (try dsimp only at hSw); go_simp; try with_reducible rfl)
      simp only [Act.put, List.setIfInBounds_toArray, List.set_cons_zero, List.set_cons_succ, List.getElem_toArray, List.getElem_cons_zero, List.getElem_cons_succ]
      refine wpAnyH_take (i := 29) (v := ?_) rfl (by kernel_rfl) (by kernel_rfl) (by kernel_rfl) (fun _ _ _ h => h) (Or.inl ⟨by rfl, ?_⟩) hHeld ?_
      rotate_left 1
      · (intro w hSw; (try dsimp only at hSw); go_simp; try with_reducible rfl)
      simp only [Act.put, List.setIfInBounds_toArray, List.set_cons_zero, List.set_cons_succ, List.getElem_toArray, List.getElem_cons_zero, List.getElem_cons_succ]
      refine wpAnyH_take (i := 31) (v := ?_) rfl (by kernel_rfl) (by kernel_rfl) (by kernel_rfl) (fun _ _ _ h => h) (Or.inl ⟨by rfl, ?_⟩) hHeld ?_
      rotate_left 1
      · (intro w hSw; (try dsimp only at hSw); go_simp; try with_reducible rfl)
      simp only [Act.put, List.setIfInBounds_toArray, List.set_cons_zero, List.set_cons_succ, List.getElem_toArray, List.getElem_cons_zero, List.getElem_cons_succ]
      refine wpAnyH_take (i := 32) (v := ?_) rfl (by kernel_rfl) (by kernel_rfl) (by kernel_rfl) (fun _ _ _ h => h) (Or.inl ⟨by rfl, ?_⟩) hHeld ?_
      rotate_left 1
      · (intro w hSw; (try dsimp only at hSw); go_simp; try with_reducible rfl)
      simp only [Act.put, List.setIfInBounds_toArray, List.set_cons_zero, List.set_cons_succ, List.getElem_toArray, List.getElem_cons_zero, List.getElem_cons_succ]
      refine wpAnyH_ready (rs := [30]) (by kernel_rfl) (by simp) ?_
      refine AllReadyH.cons rfl (fun K hK => ?_) AllReadyH.nil
      go_simp
      (refine (fold_Val _ _ _ _ _).mono ?_; rintro e w5 ⟨rfl, hb5⟩; have hch := Gr.call (a := W) (by repeat (first | assumption | exact Below.refl _ _ | refine Gr.drew ?_ | refine Gr.drewN ?_ _ | refine Gr.alloc ?_ _ | refine Gr.set_ ?_ (by first | simp | (simp; omega) | omega) _)) hb5)
      try go_wp2_with fail
      refine hK.out _ _ ?_ (fun hHeld => ?_)
      · exact ⟨(B7.call (by repeat (first | assumption | exact Below.refl _ _ | refine Gr.drew ?_ | refine Gr.drewN ?_ _ | refine Gr.alloc ?_ _ | refine Gr.set_ ?_ (by first | simp | (simp; omega) | omega) _))).cell, (B8.call (by repeat (first | assumption | exact Below.refl _ _ | refine Gr.drew ?_ | refine Gr.drewN ?_ _ | refine Gr.alloc ?_ _ | refine Gr.set_ ?_ (by first | simp | (simp; omega) | omega) _))).cell⟩
      clear hK K
      try simp only [Act.put, List.setIfInBounds_toArray, List.set_cons_zero, List.set_cons_succ, List.getElem_toArray, List.getElem_cons_zero, List.getElem_cons_succ]
      refine wpAnyH_ready (rs := [33]) (by kernel_rfl) (by simp) ?_
      refine AllReadyH.cons rfl (fun K hK => ?_) AllReadyH.nil
      go_simp
      (refine (ref06_Val _ _ _ _ _).mono ?_; rintro e w6 ⟨rfl, hb6⟩; have hch := Gr.call (a := W) (by repeat (first | assumption | exact Below.refl _ _ | refine Gr.drew ?_ | refine Gr.drewN ?_ _ | refine Gr.alloc ?_ _ | refine Gr.set_ ?_ (by first | simp | (simp; omega) | omega) _)) hb6)
      try go_wp2_with fail
      refine hK.out _ _ ?_ (fun hHeld => ?_)
      · exact ⟨(B7.call (by repeat (first | assumption | exact Below.refl _ _ | refine Gr.drew ?_ | refine Gr.drewN ?_ _ | refine Gr.alloc ?_ _ | refine Gr.set_ ?_ (by first | simp | (simp; omega) | omega) _))).cell, (B8.call (by repeat (first | assumption | exact Below.refl _ _ | refine Gr.drew ?_ | refine Gr.drewN ?_ _ | refine Gr.alloc ?_ _ | refine Gr.set_ ?_ (by first | simp | (simp; omega) | omega) _))).cell⟩
      clear hK K
      try simp only [Act.put, List.setIfInBounds_toArray, List.set_cons_zero, List.set_cons_succ, List.getElem_toArray, List.getElem_cons_zero, List.getElem_cons_succ]
      refine wpAnyH_take (i := 34) (v := ?_) rfl (by kernel_rfl) (by kernel_rfl) (by kernel_rfl) (fun _ _ _ h => h) (Or.inl ⟨by rfl, ?_⟩) hHeld ?_
      rotate_left 1
      · (intro w hSw; (try dsimp only at hSw); go_simp; try with_reducible rfl)
      simp only [Act.put, List.setIfInBounds_toArray, List.set_cons_zero, List.set_cons_succ, List.getElem_toArray, List.getElem_cons_zero, List.getElem_cons_succ]
      refine wpAnyH_take (i := 35) (v := ?_) rfl (by kernel_rfl) (by kernel_rfl) (by kernel_rfl) (fun _ _ _ h => h) (Or.inl ⟨by rfl, ?_⟩) hHeld ?_
      rotate_left 1
      · (intro w hSw; (try dsimp only at hSw); go_simp; try with_reducible rfl)
      simp only [Act.put, List.setIfInBounds_toArray, List.set_cons_zero, List.set_cons_succ, List.getElem_toArray, List.getElem_cons_zero, List.getElem_cons_succ]
      refine wpAnyH_take (i := 36) (v := ?_) rfl (by kernel_rfl) (by kernel_rfl) (by kernel_rfl) (fun _ _ _ h => h) (Or.inl ⟨by rfl, ?_⟩) hHeld ?_
      rotate_left 1
      · (intro w hSw; (try dsimp only at hSw); go_simp; try with_reducible rfl)
      simp only [Act.put, List.setIfInBounds_toArray, List.set_cons_zero, List.set_cons_succ, List.getElem_toArray, List.getElem_cons_zero, List.getElem_cons_succ]
      refine wpAnyH_done (by kernel_rfl) ?_ _
      (go_wp2; go_ret; exact ⟨rfl, Gr.call hb hch⟩)
  · have d1 : decide (1 ≤ k) = true := by simp; omega
    have d2 : decide (k ≤ 5) = false := by simp; omega
    refine wp_region_held_drew (S := (fun w' => (∀ i, w'.cell? ⟨w1.heap.size, i, none⟩ = (#[.int .i64 x2.n, .int .i64 x2.a, .int .i64 x2.b] : Array Value)[i]?) ∧ (∀ i, w'.cell? ⟨w2.heap.size, i, none⟩ = (#[.int .i64 x2.n, .int .i64 x2.a, .int .i64 x2.b] : Array Value)[i]?))) (by kernel_rfl) (by exact ⟨(B7.call (by repeat (first | assumption | exact Below.refl _ _ | refine Gr.drew ?_ | refine Gr.drewN ?_ _ | refine Gr.alloc ?_ _ | refine Gr.set_ ?_ (by first | simp | (simp; omega) | omega) _))).cell, (B8.call (by repeat (first | assumption | exact Below.refl _ _ | refine Gr.drew ?_ | refine Gr.drewN ?_ _ | refine Gr.alloc ?_ _ | refine Gr.set_ ?_ (by first | simp | (simp; omega) | omega) _))).cell⟩) (fun hHeld => ?_)
    refine wpAnyH_ready (rs := [0]) (by kernel_rfl) (by simp) ?_
    refine AllReadyH.cons rfl (fun K hK => ?_) AllReadyH.nil
    go_simp
    (refine (fold_Right _ _).mono ?_; rintro e w' ⟨rfl, rfl⟩)
    try go_wp2_with fail
    refine hK.out _ _ ?_ (fun hHeld => ?_)
    · exact ⟨(B7.call (by repeat (first | assumption | exact Below.refl _ _ | refine Gr.drew ?_ | refine Gr.drewN ?_ _ | refine Gr.alloc ?_ _ | refine Gr.set_ ?_ (by first | simp | (simp; omega) | omega) _))).cell, (B8.call (by repeat (first | assumption | exact Below.refl _ _ | refine Gr.drew ?_ | refine Gr.drewN ?_ _ | refine Gr.alloc ?_ _ | refine Gr.set_ ?_ (by first | simp | (simp; omega) | omega) _))).cell⟩
    clear hK K
    try simp only [Act.put, List.setIfInBounds_toArray, List.set_cons_zero, List.set_cons_succ, List.getElem_toArray, List.getElem_cons_zero, List.getElem_cons_succ]
    refine wpAnyH_take (i := 1) (v := ?_) rfl (by kernel_rfl) (by kernel_rfl) (by kernel_rfl) (fun _ _ _ h => h) (Or.inl ⟨by rfl, ?_⟩) hHeld ?_
    rotate_left 1
    · (intro w hSw; (try dsimp only at hSw); go_simp; try with_reducible rfl)
    simp only [Act.put, List.setIfInBounds_toArray, List.set_cons_zero, List.set_cons_succ, List.getElem_toArray, List.getElem_cons_zero, List.getElem_cons_succ]
    refine wpAnyH_take (i := 2) (v := ?_) rfl (by kernel_rfl) (by kernel_rfl) (by kernel_rfl) (fun _ _ _ h => h) (Or.inl ⟨by rfl, ?_⟩) hHeld ?_
    rotate_left 1
    · (intro w hSw; (try dsimp only at hSw); go_simp; try with_reducible rfl)
    simp only [Act.put, List.setIfInBounds_toArray, List.set_cons_zero, List.set_cons_succ, List.getElem_toArray, List.getElem_cons_zero, List.getElem_cons_succ]
    refine wpAnyH_take (i := 4) (v := ?_) rfl (by kernel_rfl) (by kernel_rfl) (by kernel_rfl) (fun _ _ _ h => h) (Or.inl ⟨by rfl, ?_⟩) hHeld ?_
    rotate_left 1
    · (intro w hSw; (try dsimp only at hSw); go_simp; try with_reducible rfl)
    simp only [Act.put, List.setIfInBounds_toArray, List.set_cons_zero, List.set_cons_succ, List.getElem_toArray, List.getElem_cons_zero, List.getElem_cons_succ]
    refine wpAnyH_take (i := 5) (v := ?_) rfl (by kernel_rfl) (by kernel_rfl) (by kernel_rfl) (fun _ _ _ h => h) (Or.inl ⟨by rfl, ?_⟩) hHeld ?_
    rotate_left 1
    · (intro w hSw; (try dsimp only at hSw); go_simp; try with_reducible rfl)
    simp only [Act.put, List.setIfInBounds_toArray, List.set_cons_zero, List.set_cons_succ, List.getElem_toArray, List.getElem_cons_zero, List.getElem_cons_succ]
    refine wpAnyH_ready (rs := [3]) (by kernel_rfl) (by simp) ?_
    refine AllReadyH.cons rfl (fun K hK => ?_) AllReadyH.nil
    go_simp
    (refine (fold_Right _ _).mono ?_; rintro e w' ⟨rfl, rfl⟩)
    try go_wp2_with fail
    refine hK.out _ _ ?_ (fun hHeld => ?_)
    · exact ⟨(B7.call (by repeat (first | assumption | exact Below.refl _ _ | refine Gr.drew ?_ | refine Gr.drewN ?_ _ | refine Gr.alloc ?_ _ | refine Gr.set_ ?_ (by first | simp | (simp; omega) | omega) _))).cell, (B8.call (by repeat (first | assumption | exact Below.refl _ _ | refine Gr.drew ?_ | refine Gr.drewN ?_ _ | refine Gr.alloc ?_ _ | refine Gr.set_ ?_ (by first | simp | (simp; omega) | omega) _))).cell⟩
    clear hK K
    try simp only [Act.put, List.setIfInBounds_toArray, List.set_cons_zero, List.set_cons_succ, List.getElem_toArray, List.getElem_cons_zero, List.getElem_cons_succ]
    refine wpAnyH_take (i := 6) (v := ?_) rfl (by kernel_rfl) (by kernel_rfl) (by kernel_rfl) (fun _ _ _ h => h) (Or.inl ⟨by rfl, ?_⟩) hHeld ?_
    rotate_left 1
    · (intro w hSw; (try dsimp only at hSw); go_simp; try with_reducible rfl)
    simp only [Act.put, List.setIfInBounds_toArray, List.set_cons_zero, List.set_cons_succ, List.getElem_toArray, List.getElem_cons_zero, List.getElem_cons_succ]
    refine wpAnyH_take (i := 7) (v := ?_) rfl (by kernel_rfl) (by kernel_rfl) (by kernel_rfl) (fun _ _ _ h => h) (Or.inl ⟨by rfl, ?_⟩) hHeld ?_
    rotate_left 1
    · (intro w hSw; (try dsimp only at hSw); go_simp; try with_reducible rfl)
    simp only [Act.put, List.setIfInBounds_toArray, List.set_cons_zero, List.set_cons_succ, List.getElem_toArray, List.getElem_cons_zero, List.getElem_cons_succ]
    refine wpAnyH_take (i := 8) (v := ?_) rfl (by kernel_rfl) (by kernel_rfl) (by kernel_rfl) (fun _ _ _ h => h) (Or.inl ⟨by rfl, ?_⟩) hHeld ?_
    rotate_left 1
    · (intro w hSw; (try dsimp only at hSw); go_simp; try with_reducible rfl)
    simp only [Act.put, List.setIfInBounds_toArray, List.set_cons_zero, List.set_cons_succ, List.getElem_toArray, List.getElem_cons_zero, List.getElem_cons_succ]
    refine wpAnyH_take (i := 9) (v := ?_) rfl (by kernel_rfl) (by kernel_rfl) (by kernel_rfl) (fun _ _ _ h => h) (Or.inl ⟨by rfl, ?_⟩) hHeld ?_
    rotate_left 1
    · (intro w hSw; (try dsimp only at hSw); go_simp; try with_reducible rfl)
    simp only [Act.put, List.setIfInBounds_toArray, List.set_cons_zero, List.set_cons_succ, List.getElem_toArray, List.getElem_cons_zero, List.getElem_cons_succ]
    refine wpAnyH_take (i := 10) (v := ?_) rfl (by kernel_rfl) (by kernel_rfl) (by kernel_rfl) (fun _ _ _ h => h) (Or.inl ⟨by rfl, ?_⟩) hHeld ?_
    rotate_left 1
    · (intro w hSw; (try dsimp only at hSw); go_simp; try with_reducible rfl)
    simp only [Act.put, List.setIfInBounds_toArray, List.set_cons_zero, List.set_cons_succ, List.getElem_toArray, List.getElem_cons_zero, List.getElem_cons_succ]
    refine wpAnyH_take (i := 11) (v := ?_) rfl (by kernel_rfl) (by kernel_rfl) (by kernel_rfl) (fun _ _ _ h => h) (Or.inl ⟨by rfl, ?_⟩) hHeld ?_
    rotate_left 1
    · (intro w hSw; (try dsimp only at hSw); go_simp; try with_reducible rfl)
    simp only [Act.put, List.setIfInBounds_toArray, List.set_cons_zero, List.set_cons_succ, List.getElem_toArray, List.getElem_cons_zero, List.getElem_cons_succ]
    refine wpAnyH_take (i := 12) (v := ?_) rfl (by kernel_rfl) (by kernel_rfl) (by kernel_rfl) (fun _ _ _ h => h) (Or.inl ⟨by rfl, ?_⟩) hHeld ?_
    rotate_left 1
    · (intro w hSw; (try dsimp only at hSw); go_simp; try with_reducible rfl)
    simp only [Act.put, List.setIfInBounds_toArray, List.set_cons_zero, List.set_cons_succ, List.getElem_toArray, List.getElem_cons_zero, List.getElem_cons_succ]
    refine wpAnyH_take (i := 13) (v := ?_) rfl (by kernel_rfl) (by kernel_rfl) (by kernel_rfl) (fun _ _ _ h => h) (Or.inl ⟨by rfl, ?_⟩) hHeld ?_
    rotate_left 1
    · (intro w hSw; (try dsimp only at hSw); go_simp; try with_reducible rfl)
    simp only [Act.put, List.setIfInBounds_toArray, List.set_cons_zero, List.set_cons_succ, List.getElem_toArray, List.getElem_cons_zero, List.getElem_cons_succ]
    refine wpAnyH_take (i := 14) (v := ?_) rfl (by kernel_rfl) (by kernel_rfl) (by kernel_rfl) (fun _ _ _ h => h) (Or.inl ⟨by rfl, ?_⟩) hHeld ?_
    rotate_left 1
    · (intro w hSw; (try dsimp only at hSw); go_simp; try with_reducible rfl)
    simp only [Act.put, List.setIfInBounds_toArray, List.set_cons_zero, List.set_cons_succ, List.getElem_toArray, List.getElem_cons_zero, List.getElem_cons_succ]
    refine wpAnyH_take (i := 15) (v := ?_) rfl (by kernel_rfl) (by kernel_rfl) (by kernel_rfl) (fun _ _ _ h => h) (Or.inl ⟨by rfl, ?_⟩) hHeld ?_
    rotate_left 1
    · (intro w hSw; (try dsimp only at hSw); go_simp; try with_reducible rfl)
    simp only [Act.put, List.setIfInBounds_toArray, List.set_cons_zero, List.set_cons_succ, List.getElem_toArray, List.getElem_cons_zero, List.getElem_cons_succ]
    refine wpAnyH_take (i := 16) (v := ?_) rfl (by kernel_rfl) (by kernel_rfl) (by kernel_rfl) (fun _ _ _ h => h) (Or.inl ⟨by rfl, ?_⟩) hHeld ?_
    rotate_left 1
    · (intro w hSw; (try dsimp only at hSw); go_simp; try with_reducible rfl)
    simp only [Act.put, List.setIfInBounds_toArray, List.set_cons_zero, List.set_cons_succ, List.getElem_toArray, List.getElem_cons_zero, List.getElem_cons_succ]
    refine wpAnyH_take (i := 17) (v := ?_) rfl (by kernel_rfl) (by kernel_rfl) (by kernel_rfl) (fun _ _ _ h => h) (Or.inl ⟨by rfl, ?_⟩) hHeld ?_
    rotate_left 1
    · (intro w hSw; (try dsimp only at hSw); go_simp; try with_reducible rfl)
    simp only [Act.put, List.setIfInBounds_toArray, List.set_cons_zero, List.set_cons_succ, List.getElem_toArray, List.getElem_cons_zero, List.getElem_cons_succ]
    refine wpAnyH_take (i := 18) (v := ?_) rfl (by kernel_rfl) (by kernel_rfl) (by kernel_rfl) (fun _ _ _ h => h) (Or.inl ⟨by rfl, ?_⟩) hHeld ?_
    rotate_left 1
    · (intro w hSw; (try dsimp only at hSw); go_simp; try with_reducible rfl)
    simp only [Act.put, List.setIfInBounds_toArray, List.set_cons_zero, List.set_cons_succ, List.getElem_toArray, List.getElem_cons_zero, List.getElem_cons_succ]
    refine wpAnyH_take (i := 19) (v := ?_) rfl (by kernel_rfl) (by kernel_rfl) (by kernel_rfl) (fun _ _ _ h => h) (Or.inl ⟨by rfl, ?_⟩) hHeld ?_
    rotate_left 1
    · (intro w hSw; (try dsimp only at hSw); go_simp; try with_reducible rfl)
    simp only [Act.put, List.setIfInBounds_toArray, List.set_cons_zero, List.set_cons_succ, List.getElem_toArray, List.getElem_cons_zero, List.getElem_cons_succ]
    refine wpAnyH_take (i := 21) (v := ?_) rfl (by kernel_rfl) (by kernel_rfl) (by kernel_rfl) (fun _ _ _ h => h) (Or.inl ⟨by rfl, ?_⟩) hHeld ?_
    rotate_left 1
    · (intro w hSw; (try dsimp only at hSw); go_simp; try with_reducible rfl)
    simp only [Act.put, List.setIfInBounds_toArray, List.set_cons_zero, List.set_cons_succ, List.getElem_toArray, List.getElem_cons_zero, List.getElem_cons_succ]
    refine wpAnyH_take (i := 22) (v := ?_) rfl (by kernel_rfl) (by kernel_rfl) (by kernel_rfl) (fun _ _ _ h => h) (Or.inl ⟨by rfl, ?_⟩) hHeld ?_
    rotate_left 1
    · (intro w hSw; (try dsimp only at hSw); go_simp; try with_reducible rfl)
    simp only [Act.put, List.setIfInBounds_toArray, List.set_cons_zero, List.set_cons_succ, List.getElem_toArray, List.getElem_cons_zero, List.getElem_cons_succ]
    refine wpAnyH_ready (rs := [20, 23]) (by kernel_rfl) (by simp) ?_
    refine AllReadyH.cons rfl (fun K hK => ?_) (AllReadyH.cons rfl (fun K hK => ?_) AllReadyH.nil)
    · skip
      go_simp
      (refine (fold_One _ _ _).mono ?_; rintro e w3 ⟨x3, HX3, rfl, hb3⟩; have hch := Gr.call (a := W) (by repeat (first | assumption | exact Below.refl _ _ | refine Gr.drew ?_ | refine Gr.drewN ?_ _ | refine Gr.alloc ?_ _ | refine Gr.set_ ?_ (by first | simp | (simp; omega) | omega) _)) hb3; first | have B9 := (Blk.new _ _ _).call hb3 | have B9 := (Blk.new _ _ _).drew.call hb3 | skip)
      try go_wp2_with fail
      refine hK.out _ _ ?_ (fun hHeld => ?_)
      · exact ⟨(B7.call (by repeat (first | assumption | exact Below.refl _ _ | refine Gr.drew ?_ | refine Gr.drewN ?_ _ | refine Gr.alloc ?_ _ | refine Gr.set_ ?_ (by first | simp | (simp; omega) | omega) _))).cell, (B8.call (by repeat (first | assumption | exact Below.refl _ _ | refine Gr.drew ?_ | refine Gr.drewN ?_ _ | refine Gr.alloc ?_ _ | refine Gr.set_ ?_ (by first | simp | (simp; omega) | omega) _))).cell⟩
      clear hK K
      try simp only [Act.put, List.setIfInBounds_toArray, List.set_cons_zero, List.set_cons_succ, List.getElem_toArray, List.getElem_cons_zero, List.getElem_cons_succ]
      refine wpAnyH_ready (rs := [23]) (by kernel_rfl) (by simp) ?_
      refine AllReadyH.cons rfl (fun K hK => ?_) AllReadyH.nil
      go_simp
      refine hK.out _ _ ?_ (fun hHeld => ?_)
      · exact ⟨(B7.call (by repeat (first | assumption | exact Below.refl _ _ | refine Gr.drew ?_ | refine Gr.drewN ?_ _ | refine Gr.alloc ?_ _ | refine Gr.set_ ?_ (by first | simp | (simp; omega) | omega) _))).cell, (B8.call (by repeat (first | assumption | exact Below.refl _ _ | refine Gr.drew ?_ | refine Gr.drewN ?_ _ | refine Gr.alloc ?_ _ | refine Gr.set_ ?_ (by first | simp | (simp; omega) | omega) _))).cell⟩
      clear hK K
      try simp only [Act.put, List.setIfInBounds_toArray, List.set_cons_zero, List.set_cons_succ, List.getElem_toArray, List.getElem_cons_zero, List.getElem_cons_succ]
      refine wpAnyH_ready (rs := [24]) (by kernel_rfl) (by simp) ?_
      refine AllReadyH.cons rfl (fun K hK => ?_) AllReadyH.nil
      go_simp
      (refine (ref06_All _ _ _ _ [v] _ _ (hide rfl) (by first | exact Reads.row1 (Blk.new _ _ _) | exact Reads.row1 B9) (by first | (simp; done) | exact Nat.succ_le_of_lt B9.lt) (by simp) (by simpa using hv)).mono ?_; rintro e w4 ⟨x4, HX4, rfl, hb4⟩; have hch := Gr.call (a := W) (by repeat (first | assumption | exact Below.refl _ _ | refine Gr.drew ?_ | refine Gr.drewN ?_ _ | refine Gr.alloc ?_ _ | refine Gr.set_ ?_ (by first | simp | (simp; omega) | omega) _)) hb4; obtain rfl : x4 = x3 := (HX4.out.trans (allL_one k v)).trans HX3.out.symm)
      try go_wp2_with fail
      refine hK.out _ _ ?_ (fun hHeld => ?_)
      · exact ⟨(B7.call (by repeat (first | assumption | exact Below.refl _ _ | refine Gr.drew ?_ | refine Gr.drewN ?_ _ | refine Gr.alloc ?_ _ | refine Gr.set_ ?_ (by first | simp | (simp; omega) | omega) _))).cell, (B8.call (by repeat (first | assumption | exact Below.refl _ _ | refine Gr.drew ?_ | refine Gr.drewN ?_ _ | refine Gr.alloc ?_ _ | refine Gr.set_ ?_ (by first | simp | (simp; omega) | omega) _))).cell⟩
      clear hK K
      try simp only [Act.put, List.setIfInBounds_toArray, List.set_cons_zero, List.set_cons_succ, List.getElem_toArray, List.getElem_cons_zero, List.getElem_cons_succ]
      refine wpAnyH_take (i := 25) (v := ?_) rfl (by kernel_rfl) (by kernel_rfl) (by kernel_rfl) (fun _ _ _ h => h) (Or.inl ⟨by rfl, ?_⟩) hHeld ?_
      rotate_left 1
      · (intro w hSw; (try dsimp only at hSw); go_simp; try with_reducible rfl)
      simp only [Act.put, List.setIfInBounds_toArray, List.set_cons_zero, List.set_cons_succ, List.getElem_toArray, List.getElem_cons_zero, List.getElem_cons_succ]
      refine wpAnyH_take (i := 26) (v := ?_) rfl (by kernel_rfl) (by kernel_rfl) (by kernel_rfl) (fun _ _ _ h => h) (Or.inl ⟨by rfl, ?_⟩) hHeld ?_
      rotate_left 1
      · (intro w hSw; (try dsimp only at hSw); go_simp; try with_reducible rfl)
      simp only [Act.put, List.setIfInBounds_toArray, List.set_cons_zero, List.set_cons_succ, List.getElem_toArray, List.getElem_cons_zero, List.getElem_cons_succ]
      refine wpAnyH_take (i := 27) (v := ?_) rfl (by kernel_rfl) (by kernel_rfl) (by kernel_rfl) (fun _ _ _ h => h) (Or.inl ⟨by rfl, ?_⟩) hHeld ?_
      rotate_left 1
      · (intro w hSw; (try dsimp only at hSw); go_simp; try with_reducible rfl)
      simp only [Act.put, List.setIfInBounds_toArray, List.set_cons_zero, List.set_cons_succ, List.getElem_toArray, List.getElem_cons_zero, List.getElem_cons_succ]
      refine wpAnyH_take (i := 28) (v := ?_) rfl (by kernel_rfl) (by kernel_rfl) (by kernel_rfl) (fun _ _ _ h => h) (Or.inl ⟨by rfl, ?_⟩) hHeld ?_
      rotate_left 1
      · (intro w hSw; (try dsimp only at hSw); go_simp; try with_reducible rfl)
      simp only [Act.put, List.setIfInBounds_toArray, List.set_cons_zero, List.set_cons_succ, List.getElem_toArray, List.getElem_cons_zero, List.getElem_cons_succ]
      refine wpAnyH_take (i := 29) (v := ?_) rfl (by kernel_rfl) (by kernel_rfl) (by kernel_rfl) (fun _ _ _ h => h) (Or.inl ⟨by rfl, ?_⟩) hHeld ?_
      rotate_left 1
      · (intro w hSw; (try dsimp only at hSw); go_simp; try with_reducible rfl)
      simp only [Act.put, List.setIfInBounds_toArray, List.set_cons_zero, List.set_cons_succ, List.getElem_toArray, List.getElem_cons_zero, List.getElem_cons_succ]
      refine wpAnyH_take (i := 31) (v := ?_) rfl (by kernel_rfl) (by kernel_rfl) (by kernel_rfl) (fun _ _ _ h => h) (Or.inl ⟨by rfl, ?_⟩) hHeld ?_
      rotate_left 1
      · (intro w hSw; (try dsimp only at hSw); go_simp; try with_reducible rfl)
      simp only [Act.put, List.setIfInBounds_toArray, List.set_cons_zero, List.set_cons_succ, List.getElem_toArray, List.getElem_cons_zero, List.getElem_cons_succ]
      refine wpAnyH_take (i := 32) (v := ?_) rfl (by kernel_rfl) (by kernel_rfl) (by kernel_rfl) (fun _ _ _ h => h) (Or.inl ⟨by rfl, ?_⟩) hHeld ?_
      rotate_left 1
      · (intro w hSw; (try dsimp only at hSw); go_simp; try with_reducible rfl)
      simp only [Act.put, List.setIfInBounds_toArray, List.set_cons_zero, List.set_cons_succ, List.getElem_toArray, List.getElem_cons_zero, List.getElem_cons_succ]
      refine wpAnyH_ready (rs := [30]) (by kernel_rfl) (by simp) ?_
      refine AllReadyH.cons rfl (fun K hK => ?_) AllReadyH.nil
      go_simp
      (refine (fold_Val _ _ _ _ _).mono ?_; rintro e w5 ⟨rfl, hb5⟩; have hch := Gr.call (a := W) (by repeat (first | assumption | exact Below.refl _ _ | refine Gr.drew ?_ | refine Gr.drewN ?_ _ | refine Gr.alloc ?_ _ | refine Gr.set_ ?_ (by first | simp | (simp; omega) | omega) _)) hb5)
      try go_wp2_with fail
      refine hK.out _ _ ?_ (fun hHeld => ?_)
      · exact ⟨(B7.call (by repeat (first | assumption | exact Below.refl _ _ | refine Gr.drew ?_ | refine Gr.drewN ?_ _ | refine Gr.alloc ?_ _ | refine Gr.set_ ?_ (by first | simp | (simp; omega) | omega) _))).cell, (B8.call (by repeat (first | assumption | exact Below.refl _ _ | refine Gr.drew ?_ | refine Gr.drewN ?_ _ | refine Gr.alloc ?_ _ | refine Gr.set_ ?_ (by first | simp | (simp; omega) | omega) _))).cell⟩
      clear hK K
      try simp only [Act.put, List.setIfInBounds_toArray, List.set_cons_zero, List.set_cons_succ, List.getElem_toArray, List.getElem_cons_zero, List.getElem_cons_succ]
      refine wpAnyH_ready (rs := [33]) (by kernel_rfl) (by simp) ?_
      refine AllReadyH.cons rfl (fun K hK => ?_) AllReadyH.nil
      go_simp
      (refine (ref06_Val _ _ _ _ _).mono ?_; rintro e w6 ⟨rfl, hb6⟩; have hch := Gr.call (a := W) (by repeat (first | assumption | exact Below.refl _ _ | refine Gr.drew ?_ | refine Gr.drewN ?_ _ | refine Gr.alloc ?_ _ | refine Gr.set_ ?_ (by first | simp | (simp; omega) | omega) _)) hb6)
      try go_wp2_with fail
      refine hK.out _ _ ?_ (fun hHeld => ?_)
      · exact ⟨(B7.call (by repeat (first | assumption | exact Below.refl _ _ | refine Gr.drew ?_ | refine Gr.drewN ?_ _ | refine Gr.alloc ?_ _ | refine Gr.set_ ?_ (by first | simp | (simp; omega) | omega) _))).cell, (B8.call (by repeat (first | assumption | exact Below.refl _ _ | refine Gr.drew ?_ | refine Gr.drewN ?_ _ | refine Gr.alloc ?_ _ | refine Gr.set_ ?_ (by first | simp | (simp; omega) | omega) _))).cell⟩
      clear hK K
      try simp only [Act.put, List.setIfInBounds_toArray, List.set_cons_zero, List.set_cons_succ, List.getElem_toArray, List.getElem_cons_zero, List.getElem_cons_succ]
      refine wpAnyH_take (i := 34) (v := ?_) rfl (by kernel_rfl) (by kernel_rfl) (by kernel_rfl) (fun _ _ _ h => h) (Or.inl ⟨by rfl, ?_⟩) hHeld ?_
      rotate_left 1
      · (intro w hSw; (try dsimp only at hSw); go_simp; try with_reducible rfl)
      simp only [Act.put, List.setIfInBounds_toArray, List.set_cons_zero, List.set_cons_succ, List.getElem_toArray, List.getElem_cons_zero, List.getElem_cons_succ]
      refine wpAnyH_take (i := 35) (v := ?_) rfl (by kernel_rfl) (by kernel_rfl) (by kernel_rfl) (fun _ _ _ h => h) (Or.inl ⟨by rfl, ?_⟩) hHeld ?_
      rotate_left 1
      · (intro w hSw; (try dsimp only at hSw); go_simp; try with_reducible rfl)
      simp only [Act.put, List.setIfInBounds_toArray, List.set_cons_zero, List.set_cons_succ, List.getElem_toArray, List.getElem_cons_zero, List.getElem_cons_succ]
      refine wpAnyH_take (i := 36) (v := ?_) rfl (by kernel_rfl) (by kernel_rfl) (by kernel_rfl) (fun _ _ _ h => h) (Or.inl ⟨by rfl, ?_⟩) hHeld ?_
      rotate_left 1
      · (intro w hSw; (try dsimp only at hSw); go_simp; try with_reducible rfl)
      simp only [Act.put, List.setIfInBounds_toArray, List.set_cons_zero, List.set_cons_succ, List.getElem_toArray, List.getElem_cons_zero, List.getElem_cons_succ]
      refine wpAnyH_done (by kernel_rfl) ?_ _
      (go_wp2; go_ret; exact ⟨rfl, Gr.call hb hch⟩)
    · skip
      go_simp
      refine hK.out _ _ ?_ (fun hHeld => ?_)
      · exact ⟨(B7.call (by repeat (first | assumption | exact Below.refl _ _ | refine Gr.drew ?_ | refine Gr.drewN ?_ _ | refine Gr.alloc ?_ _ | refine Gr.set_ ?_ (by first | simp | (simp; omega) | omega) _))).cell, (B8.call (by repeat (first | assumption | exact Below.refl _ _ | refine Gr.drew ?_ | refine Gr.drewN ?_ _ | refine Gr.alloc ?_ _ | refine Gr.set_ ?_ (by first | simp | (simp; omega) | omega) _))).cell⟩
      clear hK K
      try simp only [Act.put, List.setIfInBounds_toArray, List.set_cons_zero, List.set_cons_succ, List.getElem_toArray, List.getElem_cons_zero, List.getElem_cons_succ]
      refine wpAnyH_ready (rs := [20]) (by kernel_rfl) (by simp) ?_
      refine AllReadyH.cons rfl (fun K hK => ?_) AllReadyH.nil
      go_simp
      (refine (fold_One _ _ _).mono ?_; rintro e w3 ⟨x3, HX3, rfl, hb3⟩; have hch := Gr.call (a := W) (by repeat (first | assumption | exact Below.refl _ _ | refine Gr.drew ?_ | refine Gr.drewN ?_ _ | refine Gr.alloc ?_ _ | refine Gr.set_ ?_ (by first | simp | (simp; omega) | omega) _)) hb3; first | have B9 := (Blk.new _ _ _).call hb3 | have B9 := (Blk.new _ _ _).drew.call hb3 | skip)
      try go_wp2_with fail
      refine hK.out _ _ ?_ (fun hHeld => ?_)
      · exact ⟨(B7.call (by repeat (first | assumption | exact Below.refl _ _ | refine Gr.drew ?_ | refine Gr.drewN ?_ _ | refine Gr.alloc ?_ _ | refine Gr.set_ ?_ (by first | simp | (simp; omega) | omega) _))).cell, (B8.call (by repeat (first | assumption | exact Below.refl _ _ | refine Gr.drew ?_ | refine Gr.drewN ?_ _ | refine Gr.alloc ?_ _ | refine Gr.set_ ?_ (by first | simp | (simp; omega) | omega) _))).cell⟩
      clear hK K
      try simp only [Act.put, List.setIfInBounds_toArray, List.set_cons_zero, List.set_cons_succ, List.getElem_toArray, List.getElem_cons_zero, List.getElem_cons_succ]
      refine wpAnyH_ready (rs := [24]) (by kernel_rfl) (by simp) ?_
      refine AllReadyH.cons rfl (fun K hK => ?_) AllReadyH.nil
      go_simp
      (refine (ref06_All _ _ _ _ [v] _ _ (hide rfl) (by first | exact Reads.row1 (Blk.new _ _ _) | exact Reads.row1 B9) (by first | (simp; done) | exact Nat.succ_le_of_lt B9.lt) (by simp) (by simpa using hv)).mono ?_; rintro e w4 ⟨x4, HX4, rfl, hb4⟩; have hch := Gr.call (a := W) (by repeat (first | assumption | exact Below.refl _ _ | refine Gr.drew ?_ | refine Gr.drewN ?_ _ | refine Gr.alloc ?_ _ | refine Gr.set_ ?_ (by first | simp | (simp; omega) | omega) _)) hb4; obtain rfl : x4 = x3 := (HX4.out.trans (allL_one k v)).trans HX3.out.symm)
      try go_wp2_with fail
      refine hK.out _ _ ?_ (fun hHeld => ?_)
      · exact ⟨(B7.call (by repeat (first | assumption | exact Below.refl _ _ | refine Gr.drew ?_ | refine Gr.drewN ?_ _ | refine Gr.alloc ?_ _ | refine Gr.set_ ?_ (by first | simp | (simp; omega) | omega) _))).cell, (B8.call (by repeat (first | assumption | exact Below.refl _ _ | refine Gr.drew ?_ | refine Gr.drewN ?_ _ | refine Gr.alloc ?_ _ | refine Gr.set_ ?_ (by first | simp | (simp; omega) | omega) _))).cell⟩
      clear hK K
      try simp only [Act.put, List.setIfInBounds_toArray, List.set_cons_zero, List.set_cons_succ, List.getElem_toArray, List.getElem_cons_zero, List.getElem_cons_succ]
      refine wpAnyH_take (i := 25) (v := ?_) rfl (by kernel_rfl) (by kernel_rfl) (by kernel_rfl) (fun _ _ _ h => h) (Or.inl ⟨by rfl, ?_⟩) hHeld ?_
      rotate_left 1
      · (intro w hSw; (try dsimp only at hSw); go_simp; try with_reducible rfl)
      simp only [Act.put, List.setIfInBounds_toArray, List.set_cons_zero, List.set_cons_succ, List.getElem_toArray, List.getElem_cons_zero, List.getElem_cons_succ]
      refine wpAnyH_take (i := 26) (v := ?_) rfl (by kernel_rfl) (by kernel_rfl) (by kernel_rfl) (fun _ _ _ h => h) (Or.inl ⟨by rfl, ?_⟩) hHeld ?_
      rotate_left 1
      · (intro w hSw; (try dsimp only at hSw); go_simp; try with_reducible rfl)
      simp only [Act.put, List.setIfInBounds_toArray, List.set_cons_zero, List.set_cons_succ, List.getElem_toArray, List.getElem_cons_zero, List.getElem_cons_succ]
      refine wpAnyH_take (i := 27) (v := ?_) rfl (by kernel_rfl) (by kernel_rfl) (by kernel_rfl) (fun _ _ _ h => h) (Or.inl ⟨by rfl, ?_⟩) hHeld ?_
      rotate_left 1
      · (intro w hSw; (try dsimp only at hSw); go_simp; try with_reducible rfl)
      simp only [Act.put, List.setIfInBounds_toArray, List.set_cons_zero, List.set_cons_succ, List.getElem_toArray, List.getElem_cons_zero, List.getElem_cons_succ]
      refine wpAnyH_take (i := 28) (v := ?_) rfl (by kernel_rfl) (by kernel_rfl) (by kernel_rfl) (fun _ _ _ h => h) (Or.inl ⟨by rfl, ?_⟩) hHeld ?_
      rotate_left 1
      · (intro w hSw; (try dsimp only at hSw); go_simp; try with_reducible rfl)
      simp only [Act.put, List.setIfInBounds_toArray, List.set_cons_zero, List.set_cons_succ, List.getElem_toArray, List.getElem_cons_zero, List.getElem_cons_succ]
      refine wpAnyH_take (i := 29) (v := ?_) rfl (by kernel_rfl) (by kernel_rfl) (by kernel_rfl) (fun _ _ _ h => h) (Or.inl ⟨by rfl, ?_⟩) hHeld ?_
      rotate_left 1
      · (intro w hSw; (try dsimp only at hSw); go_simp; try with_reducible rfl)
      simp only [Act.put, List.setIfInBounds_toArray, List.set_cons_zero, List.set_cons_succ, List.getElem_toArray, List.getElem_cons_zero, List.getElem_cons_succ]
      refine wpAnyH_take (i := 31) (v := ?_) rfl (by kernel_rfl) (by kernel_rfl) (by kernel_rfl) (fun _ _ _ h => h) (Or.inl ⟨by rfl, ?_⟩) hHeld ?_
      rotate_left 1
      · (intro w hSw; (try dsimp only at hSw); go_simp; try with_reducible rfl)
      simp only [Act.put, List.setIfInBounds_toArray, List.set_cons_zero, List.set_cons_succ, List.getElem_toArray, List.getElem_cons_zero, List.getElem_cons_succ]
      refine wpAnyH_take (i := 32) (v := ?_) rfl (by kernel_rfl) (by kernel_rfl) (by kernel_rfl) (fun _ _ _ h => h) (Or.inl ⟨by rfl, ?_⟩) hHeld ?_
      rotate_left 1
      · (intro w hSw; (try dsimp only at hSw); go_simp; try with_reducible rfl)
      simp only [Act.put, List.setIfInBounds_toArray, List.set_cons_zero, List.set_cons_succ, List.getElem_toArray, List.getElem_cons_zero, List.getElem_cons_succ]
      refine wpAnyH_ready (rs := [30]) (by kernel_rfl) (by simp) ?_
      refine AllReadyH.cons rfl (fun K hK => ?_) AllReadyH.nil
      go_simp
      (refine (fold_Val _ _ _ _ _).mono ?_; rintro e w5 ⟨rfl, hb5⟩; have hch := Gr.call (a := W) (by repeat (first | assumption | exact Below.refl _ _ | refine Gr.drew ?_ | refine Gr.drewN ?_ _ | refine Gr.alloc ?_ _ | refine Gr.set_ ?_ (by first | simp | (simp; omega) | omega) _)) hb5)
      try go_wp2_with fail
      refine hK.out _ _ ?_ (fun hHeld => ?_)
      · exact ⟨(B7.call (by repeat (first | assumption | exact Below.refl _ _ | refine Gr.drew ?_ | refine Gr.drewN ?_ _ | refine Gr.alloc ?_ _ | refine Gr.set_ ?_ (by first | simp | (simp; omega) | omega) _))).cell, (B8.call (by repeat (first | assumption | exact Below.refl _ _ | refine Gr.drew ?_ | refine Gr.drewN ?_ _ | refine Gr.alloc ?_ _ | refine Gr.set_ ?_ (by first | simp | (simp; omega) | omega) _))).cell⟩
      clear hK K
      try simp only [Act.put, List.setIfInBounds_toArray, List.set_cons_zero, List.set_cons_succ, List.getElem_toArray, List.getElem_cons_zero, List.getElem_cons_succ]
      refine wpAnyH_ready (rs := [33]) (by kernel_rfl) (by simp) ?_
      refine AllReadyH.cons rfl (fun K hK => ?_) AllReadyH.nil
      go_simp
      (refine (ref06_Val _ _ _ _ _).mono ?_; rintro e w6 ⟨rfl, hb6⟩; have hch := Gr.call (a := W) (by repeat (first | assumption | exact Below.refl _ _ | refine Gr.drew ?_ | refine Gr.drewN ?_ _ | refine Gr.alloc ?_ _ | refine Gr.set_ ?_ (by first | simp | (simp; omega) | omega) _)) hb6)
      try go_wp2_with fail
      refine hK.out _ _ ?_ (fun hHeld => ?_)
      · exact ⟨(B7.call (by repeat (first | assumption | exact Below.refl _ _ | refine Gr.drew ?_ | refine Gr.drewN ?_ _ | refine Gr.alloc ?_ _ | refine Gr.set_ ?_ (by first | simp | (simp; omega) | omega) _))).cell, (B8.call (by repeat (first | assumption | exact Below.refl _ _ | refine Gr.drew ?_ | refine Gr.drewN ?_ _ | refine Gr.alloc ?_ _ | refine Gr.set_ ?_ (by first | simp | (simp; omega) | omega) _))).cell⟩
      clear hK K
      try simp only [Act.put, List.setIfInBounds_toArray, List.set_cons_zero, List.set_cons_succ, List.getElem_toArray, List.getElem_cons_zero, List.getElem_cons_succ]
      refine wpAnyH_take (i := 34) (v := ?_) rfl (by kernel_rfl) (by kernel_rfl) (by kernel_rfl) (fun _ _ _ h => h) (Or.inl ⟨by rfl, ?_⟩) hHeld ?_
      rotate_left 1
      · (intro w hSw; (try dsimp only at hSw); go_simp; try with_reducible rfl)
      simp only [Act.put, List.setIfInBounds_toArray, List.set_cons_zero, List.set_cons_succ, List.getElem_toArray, List.getElem_cons_zero, List.getElem_cons_succ]
      refine wpAnyH_take (i := 35) (v := ?_) rfl (by kernel_rfl) (by kernel_rfl) (by kernel_rfl) (fun _ _ _ h => h) (Or.inl ⟨by rfl, ?_⟩) hHeld ?_
      rotate_left 1
      · (intro w hSw; (try dsimp only at hSw); go_simp; try with_reducible rfl)
      simp only [Act.put, List.setIfInBounds_toArray, List.set_cons_zero, List.set_cons_succ, List.getElem_toArray, List.getElem_cons_zero, List.getElem_cons_succ]
      refine wpAnyH_take (i := 36) (v := ?_) rfl (by kernel_rfl) (by kernel_rfl) (by kernel_rfl) (fun _ _ _ h => h) (Or.inl ⟨by rfl, ?_⟩) hHeld ?_
      rotate_left 1
      · (intro w hSw; (try dsimp only at hSw); go_simp; try with_reducible rfl)
      simp only [Act.put, List.setIfInBounds_toArray, List.set_cons_zero, List.set_cons_succ, List.getElem_toArray, List.getElem_cons_zero, List.getElem_cons_succ]
      refine wpAnyH_done (by kernel_rfl) ?_ _
      (go_wp2; go_ret; exact ⟨rfl, Gr.call hb hch⟩)

theorem foldAll_contract (H : Type) (enc : TypeId × Value → H) (W : World) (base : Nat) (args : Array Value) (ds gs : List (DataW H)) (before : List MemPlace)
    (hval0 : ∀ (j : Nat) t v, Try.f7.params[j]? = some t → args[j]? = some v → Value.okWide Try.prog W .any base t v)
    (hW : DataW.Whole enc Try.prog Try.f7.params.toList Rows.foldAllSpec.vars false W args.toList ds gs before) :
    Calls Try.prog 7 args W fun e W' => ∃ v, e = .returned v ∧ Rows.foldAllSpec.post enc Try.prog Try.f7 false true false false W args v W' := by
  have hval := hval0
  have hW' := hW
  obtain ⟨p, q, hA0, hV, rfl, hfz, hnd⟩ := hW
  have hA : DataW.TrodAll enc Try.prog W 0 (fun _ => true) true Try.f7.params.toList args.toList ds p := hA0
  rw [Try.params7] at hA hval
  obtain ⟨v0, vs0, d0, ds0, p0, q0, hargs, rfl, rfl, h0, r0⟩ := trodAll_cons hA
  obtain ⟨v1, vs1, d1, ds1, p1, q1, rfl, rfl, rfl, h1, r1⟩ := trodAll_cons r0
  obtain ⟨v2, vs2, d2, ds2, p2, q2, rfl, rfl, rfl, h2, r2⟩ := trodAll_cons r1
  obtain ⟨rfl, rfl, rfl⟩ := trodAll_nil r2
  obtain rfl : args = #[v0, v1, v2] := by cases args; simp_all
  obtain ⟨rfl, rfl⟩ := trodVars_none hV
  clear hA0 hval0
  obtain ⟨k, rfl, rfl, rfl, wk⟩ := open_int Try.underlying3 (hval 0 3 v0 rfl rfl) h0
  obtain ⟨A, n, c, xs, rfl, hn, hc, HN, hr, hI⟩ := open_ints_arg (hval 1 28 v1 rfl rfl) h1
  obtain ⟨v, rfl, rfl, rfl, wv⟩ := open_int Try.underlying2 (hval 2 2 v2 rfl rfl) h2
  refine (FoldAll_walk k A n c xs v W HN hr hn hc hI (wf_i64 wv)).mono fun e W' ⟨he, hb⟩ => ?_
  subst he
  exact ⟨_, rfl, post_law @A_laidOut (rd_of (by kernel_rfl : (Try.f7.params.toList.all fun t => Try.prog.readableRec t && decide (t < Try.prog.types.size)) = true)) rfl rfl Try.underlying4 hW' rfl hb⟩

theorem foldAll_own : ownKnob Try.prog.godebug = none := by kernel_rfl
set_option maxRecDepth 100000 in
theorem foldAll_lifted (os : Os) (started : os.Started) (H : Type) (enc : TypeId × Value → H) :
    ReturnsInHanded {} Try.checked os 7 .any (Rows.foldAllSpec.pre6 enc Try.prog Try.f7 Rows.foldAllRow.domain false) (Rows.foldAllSpec.post enc Try.prog Try.f7 false true false false) := by
  refine returnsInHanded_of_change (C := Try.checked) foldAll_own started (by kernel_rfl) Try.func7
    (ChangeSpec.witness6 (enc := enc) (C := Try.checked) false ⟨#[], #[.int .i64 0, .slice none 0 0, .int .i64 0], []⟩ 8 (by kernel_rfl) (by kernel_rfl) (by kernel_rfl) (by kernel_rfl)) ?_
  intro W base args ds gs before hval hW _ _
  exact foldAll_contract H enc W base args ds gs before hval hW
theorem foldAll_proved : Rows.FoldAllSaid :=
  OpenClaim.holds_of_wide 7 Try.f7 rfl rfl rfl rfl rfl rfl rfl ⟨rfl, rfl, rfl, rfl, rfl⟩ rfl rfl rfl rfl rfl (by kernel_rfl) Try.func7 (by kernel_rfl)
    (of_decide_eq_true (by kernel_rfl)) (by unfold Func.isWrapper; first | (rw [if_pos (by decide +kernel)]; kernel_rfl) | (rw [if_neg (by decide +kernel)]; exact ⟨rfl, rfl⟩))
    (fun os started H enc _ => foldAll_lifted os started H enc)
end Go.Proofs.Ytnjhgconfbkjmab
