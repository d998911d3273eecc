/-
  Walks of ring.Moves and of its reference: which groups move. The lists hold at most a million numbers.
-/
import Derived.Test.YtnjhgconfbkjmaaRingW
import Derived.Deep.LoopGhost
namespace Go.Proofs.Ytnjhgconfbkjmaa
open Go.RowKit
set_option linter.unusedSimpArgs false
set_option linter.unusedVariables false
attribute [local go_sem ↓] Go.wp_at_zero Go.wp_at_succ

theorem info_Move : (Try.prog.info? 29).map (fun i => (i.zero, i.size, i.bytes)) = some (some (.agg #[.int .i64 0, .int .i64 0, .int .i64 0]), 3, 24) := by kernel_rfl
theorem one_mv (l : List Mv) : ∀ u ∈ l.flatMap mvCells, u.oneCell' = true := by
  intro u hu
  obtain ⟨m, _, h⟩ := List.mem_flatMap.1 hu
  simp only [mvCells, List.mem_cons, List.not_mem_nil, or_false] at h
  rcases h with rfl | rfl | rfl <;> rfl
theorem one_mv3 (a b c : Int) : ∀ u ∈ [Value.int .i64 a, .int .i64 b, .int .i64 c], u.oneCell' = true := by
  intro u hu
  simp only [List.mem_cons, List.not_mem_nil, or_false] at hu
  rcases hu with rfl | rfl | rfl <;> rfl
theorem movesTo_succ (old now : List Int) (k : Nat) (h : k < old.length) (h' : k < now.length) : movesTo old now (k + 1) = movesTo old now k ++ (if old[k] = now[k] then [] else [⟨k, old[k], now[k]⟩]) := by
  simp only [movesTo, List.getD_eq_getElem?_getD, List.getElem?_eq_getElem h, List.getElem?_eq_getElem h', Option.getD_some]

set_option maxHeartbeats 1000000 in
theorem ring_Moves (A : Option Addr) (n c : Nat) (xs : List Int) (A' : Option Addr) (n' c' : Nat) (ys : List Int) (w : World) (HN : Hid (n = xs.length)) (hr : Reads w w.heap.size 1 A n (xs.map (Value.int .i64))) (hn : n ≤ 2000000) (HN' : Hid (n' = ys.length)) (hr' : Reads w w.heap.size 1 A' n' (ys.map (Value.int .i64))) (hn' : n' ≤ 2000000) :
    Calls Try.prog 8 #[.slice A n c, .slice A' n' c'] w fun e w' => ∃ (B : Option Addr) (k d : Nat) (ms : List Mv), Hid (ms = movesTo xs ys (min n n')) ∧ Hid (k = ms.length) ∧ k ≤ 2000000 ∧ e = .returned (.slice B k d) ∧ w'.ownsRow w.heap.size 29 3 (.slice B k d) k (ms.flatMap mvCells) ∧ Below w.heap.size w w' := by
  have bn : (n : Int) ≤ 2000000 := by omega
  have bn' : (n' : Int) ≤ 2000000 := by omega
  rcases Nat.lt_or_ge n' n with hmin | hmin
  all_goals
    first | (have hmin' : (n' : Int) < n := (by omega)) | (have hmin' : (n : Int) ≤ n' := (by omega))
    go_enter Try.func8, Try.ntmps8
    go_wp2
    go_loopw [5, 12] (fun v i wr => ∃ (q k : Nat) (B : Option Addr) (d : Nat) (ms : List Mv), q ≤ min n n' ∧ i = .int .i64 q ∧ v = .slice B k d ∧ Hid (ms = movesTo xs ys q) ∧ Hid (k = ms.length) ∧ k ≤ q ∧ Hid (wr.ownsRow w.heap.size 29 3 (.slice B k d) k (ms.flatMap mvCells)) ∧ Below w.heap.size w wr) (fun _ i _ => 2000000 - (intOf i).toNat)
    case atStart => exact ⟨0, 0, none, 0, [], Nat.zero_le _, rfl, rfl, hide rfl, hide rfl, Nat.le_refl _, hide own_nil, Below.refl _ _⟩
    case round =>
      obtain ⟨q, k, B, d, ms, hq, rfl, rfl, HM, HK, hkq, HO, hb⟩ := hrel
      by_cases hlt : q < min n n'
      · obtain ⟨b, off, rfl, hbB, hcell⟩ := hr.2 (by omega)
        obtain ⟨b', off', rfl, hbB', hcell'⟩ := hr'.2 (by omega)
        have hxq : q < xs.length := by rw [← HN.out]; omega
        have hyq : q < ys.length := by rw [← HN'.out]; omega
        have hx : w.cell? ⟨b, off + q, none⟩ = some (.int .i64 xs[q]) := hcell q _ (by simp [hxq])
        have hy : w.cell? ⟨b', off' + q, none⟩ = some (.int .i64 ys[q]) := hcell' q _ (by simp [hyq])
        have hx1 := (hb.cell (p := ⟨b, off + q, none⟩) hbB).trans hx
        have hy1 := (hb.cell (p := ⟨b', off' + q, none⟩) hbB').trans hy
        have l1 : (q : Int) < n := by omega
        have l2 : (q : Int) < n' := by omega
        have hq0 : (0 : Int) ≤ q := by omega
        have HS := hide (movesTo_succ xs ys q hxq hyq)
        rw [← HM.out] at HS
        generalize xs[q] = x at *
        generalize ys[q] = y at *
        clear hcell hcell'
        by_cases hxy : x = y
        · have HT : Hid (ms = movesTo xs ys (q + 1)) := hide (by rw [HS.out, if_pos hxy, List.append_nil])
          subst hxy
          go_wp2
          go_quiet (fail)
          go_wp2
          go_roundw
          case rel => exact ⟨q + 1, k, B, d, ms, by omega, by go_num, rfl, HT, HK, by omega, hide (own_chain HO.out (by repeat (first | assumption | exact Below.refl _ _ | refine Gr.drew ?_ | refine Gr.drewN ?_ _ | refine Gr.alloc ?_ _ | refine Gr.set_ ?_ (by first | (simp; done) | assumption | omega | (simp; omega)) _))), by repeat (first | assumption | exact Below.refl _ _ | refine Gr.drew ?_ | refine Gr.drewN ?_ _ | refine Gr.alloc ?_ _ | refine Gr.set_ ?_ (by first | (simp; done) | assumption | omega | (simp; omega)) _)⟩
          case measure => simp [intOf]; omega
        · have HT : Hid (ms ++ [⟨q, x, y⟩] = movesTo xs ys (q + 1)) := hide (by rw [HS.out, if_neg hxy])
          have d1 : (x == y) = false := by simpa using hxy
          go_wp2
          go_quiet (fail)
          go_wp2
          refine wp_region_held_drew (S := (fun w' => Below w.heap.size w w')) (by kernel_rfl) (by repeat (first | assumption | exact Below.refl _ _ | refine Gr.drew ?_ | refine Gr.drewN ?_ _ | refine Gr.alloc ?_ _ | refine Gr.set_ ?_ (by first | (simp; done) | assumption | omega | (simp; omega)) _)) (fun hHeld => ?_)
          refine wpAnyH_take (i := 0) (v := ?_) rfl (by kernel_rfl) (by kernel_rfl) (by kernel_rfl) (fun _ _ _ h => h) (Or.inl ⟨by rfl, ?_⟩) hHeld ?_
          rotate_left 1
          · (intro w hSw; go_simp; try with_reducible rfl)
          simp only [Act.put, List.setIfInBounds_toArray, List.set_cons_zero, List.set_cons_succ, List.getElem_toArray, List.getElem_cons_zero, List.getElem_cons_succ]
          refine wpAnyH_take (i := 1) (v := ?_) rfl (by kernel_rfl) (by kernel_rfl) (by kernel_rfl) (fun _ _ _ h => h) (Or.inl ⟨by rfl, ?_⟩) hHeld ?_
          rotate_left 1
          · (intro w hSw; go_simp; try with_reducible rfl)
          simp only [Act.put, List.setIfInBounds_toArray, List.set_cons_zero, List.set_cons_succ, List.getElem_toArray, List.getElem_cons_zero, List.getElem_cons_succ]
          refine wpAnyH_take (i := 2) (v := ?_) rfl (by kernel_rfl) (by kernel_rfl) (by kernel_rfl) (fun _ _ _ h => h) (Or.inl ⟨by rfl, ?_⟩) hHeld ?_
          rotate_left 1
          · (intro w hSw; go_simp; try with_reducible rfl)
          simp only [Act.put, List.setIfInBounds_toArray, List.set_cons_zero, List.set_cons_succ, List.getElem_toArray, List.getElem_cons_zero, List.getElem_cons_succ]
          refine wpAnyH_take (i := 3) (v := ?_) rfl (by kernel_rfl) (by kernel_rfl) (by kernel_rfl) (fun _ _ _ h => h) (Or.inl ⟨by rfl, ?_⟩) hHeld ?_
          rotate_left 1
          · (intro w hSw; go_simp; try with_reducible rfl)
          simp only [Act.put, List.setIfInBounds_toArray, List.set_cons_zero, List.set_cons_succ, List.getElem_toArray, List.getElem_cons_zero, List.getElem_cons_succ]
          refine wpAnyH_take (i := 4) (v := ?_) rfl (by kernel_rfl) (by kernel_rfl) (by kernel_rfl) (fun _ _ _ h => h) (Or.inl ⟨by rfl, ?_⟩) hHeld ?_
          rotate_left 1
          · (intro w hSw; go_simp; try with_reducible rfl)
          simp only [Act.put, List.setIfInBounds_toArray, List.set_cons_zero, List.set_cons_succ, List.getElem_toArray, List.getElem_cons_zero, List.getElem_cons_succ]
          refine wpAnyH_take (i := 5) (v := ?_) rfl (by kernel_rfl) (by kernel_rfl) (by kernel_rfl) (fun _ _ _ h => h) (Or.inl ⟨by rfl, ?_⟩) hHeld ?_
          rotate_left 1
          · (intro w hSw; have g1 := (hSw.cell (p := ⟨b, off + q, none⟩) hbB).trans hx; have g2 := (hSw.cell (p := ⟨b', off' + q, none⟩) hbB').trans hy; go_simp; try with_reducible rfl)
          simp only [Act.put, List.setIfInBounds_toArray, List.set_cons_zero, List.set_cons_succ, List.getElem_toArray, List.getElem_cons_zero, List.getElem_cons_succ]
          refine wpAnyH_take (i := 6) (v := ?_) rfl (by kernel_rfl) (by kernel_rfl) (by kernel_rfl) (fun _ _ _ h => h) (Or.inl ⟨by rfl, ?_⟩) hHeld ?_
          rotate_left 1
          · (intro w hSw; go_simp; try with_reducible rfl)
          simp only [Act.put, List.setIfInBounds_toArray, List.set_cons_zero, List.set_cons_succ, List.getElem_toArray, List.getElem_cons_zero, List.getElem_cons_succ]
          refine wpAnyH_take (i := 7) (v := ?_) rfl (by kernel_rfl) (by kernel_rfl) (by kernel_rfl) (fun _ _ _ h => h) (Or.inl ⟨by rfl, ?_⟩) hHeld ?_
          rotate_left 1
          · (intro w hSw; go_simp; try with_reducible rfl)
          simp only [Act.put, List.setIfInBounds_toArray, List.set_cons_zero, List.set_cons_succ, List.getElem_toArray, List.getElem_cons_zero, List.getElem_cons_succ]
          refine wpAnyH_take (i := 8) (v := ?_) rfl (by kernel_rfl) (by kernel_rfl) (by kernel_rfl) (fun _ _ _ h => h) (Or.inl ⟨by rfl, ?_⟩) hHeld ?_
          rotate_left 1
          · (intro w hSw; go_simp; try with_reducible rfl)
          simp only [Act.put, List.setIfInBounds_toArray, List.set_cons_zero, List.set_cons_succ, List.getElem_toArray, List.getElem_cons_zero, List.getElem_cons_succ]
          refine wpAnyH_take (i := 9) (v := ?_) rfl (by kernel_rfl) (by kernel_rfl) (by kernel_rfl) (fun _ _ _ h => h) (Or.inl ⟨by rfl, ?_⟩) hHeld ?_
          rotate_left 1
          · (intro w hSw; have g1 := (hSw.cell (p := ⟨b, off + q, none⟩) hbB).trans hx; have g2 := (hSw.cell (p := ⟨b', off' + q, none⟩) hbB').trans hy; go_simp; try with_reducible rfl)
          simp only [Act.put, List.setIfInBounds_toArray, List.set_cons_zero, List.set_cons_succ, List.getElem_toArray, List.getElem_cons_zero, List.getElem_cons_succ]
          refine wpAnyH_take (i := 10) (v := ?_) rfl (by kernel_rfl) (by kernel_rfl) (by kernel_rfl) (fun _ _ _ h => h) (Or.inl ⟨by rfl, ?_⟩) hHeld ?_
          rotate_left 1
          · (intro w hSw; go_simp; try with_reducible rfl)
          simp only [Act.put, List.setIfInBounds_toArray, List.set_cons_zero, List.set_cons_succ, List.getElem_toArray, List.getElem_cons_zero, List.getElem_cons_succ]
          refine wpAnyH_ready (rs := [11]) (by kernel_rfl) (by simp) ?_
          refine AllReadyH.cons rfl (fun K hK => ?_) AllReadyH.nil
          go_simp
          refine hK.out _ _ ?_ (fun hHeld => ?_)
          · repeat (first | assumption | exact Below.refl _ _ | refine Gr.drew ?_ | refine Gr.drewN ?_ _ | refine Gr.alloc ?_ _ | refine Gr.set_ ?_ (by first | (simp; done) | assumption | omega | (simp; omega)) _)
          clear hK K
          try simp only [Act.put, List.setIfInBounds_toArray, List.set_cons_zero, List.set_cons_succ, List.getElem_toArray, List.getElem_cons_zero, List.getElem_cons_succ]
          refine wpAnyH_ready (rs := [12]) (by kernel_rfl) (by simp) ?_
          refine AllReadyH.cons rfl (fun K hK => ?_) AllReadyH.nil
          rw [if_pos (by rfl)]
          refine app_op (.tmp 24) (.tmp 35) rfl Try.underlying25 info_Move rfl (by omega) (by rfl) (own_chain HO.out (by repeat (first | assumption | exact Below.refl _ _ | refine Gr.drew ?_ | refine Gr.drewN ?_ _ | refine Gr.alloc ?_ _ | refine Gr.set_ ?_ (by first | (simp; done) | assumption | omega | (simp; omega)) _))) (by rfl) (Reads.made (Blk.new _ _ _) rfl) (one_mv3 _ _ _) (k + 1) ((ms ++ [(⟨q, x, y⟩ : Mv)]).flatMap mvCells) rfl (by simp [mvCells]) (by omega) (by omega) (below_le (B := w.heap.size) (by repeat (first | assumption | exact Below.refl _ _ | refine Gr.drew ?_ | refine Gr.drewN ?_ _ | refine Gr.alloc ?_ _ | refine Gr.set_ ?_ (by first | (simp; done) | assumption | omega | (simp; omega)) _)) (Nat.le_refl _)) ?_; intro B1 d1' w1 ho1 hg1 h1 h2; have hch := grow_own (a := w) (by repeat (first | assumption | exact Below.refl _ _ | refine Gr.drew ?_ | refine Gr.drewN ?_ _ | refine Gr.alloc ?_ _ | refine Gr.set_ ?_ (by first | (simp; done) | assumption | omega | (simp; omega)) _)) hg1 (own_chain HO.out (by repeat (first | assumption | exact Below.refl _ _ | refine Gr.drew ?_ | refine Gr.drewN ?_ _ | refine Gr.alloc ?_ _ | refine Gr.set_ ?_ (by first | (simp; done) | assumption | omega | (simp; omega)) _))) (Nat.le_refl _)
          refine hK.out _ _ ?_ (fun hHeld => ?_)
          · repeat (first | assumption | exact Below.refl _ _ | refine Gr.drew ?_ | refine Gr.drewN ?_ _ | refine Gr.alloc ?_ _ | refine Gr.set_ ?_ (by first | (simp; done) | assumption | omega | (simp; omega)) _)
          clear hK K
          try simp only [Act.put, List.setIfInBounds_toArray, List.set_cons_zero, List.set_cons_succ, List.getElem_toArray, List.getElem_cons_zero, List.getElem_cons_succ]
          refine wpAnyH_take (i := 13) (v := ?_) rfl (by kernel_rfl) (by kernel_rfl) (by kernel_rfl) (fun _ _ _ h => h) (Or.inl ⟨by rfl, ?_⟩) hHeld ?_
          rotate_left 1
          · (intro w hSw; go_simp; try with_reducible rfl)
          simp only [Act.put, List.setIfInBounds_toArray, List.set_cons_zero, List.set_cons_succ, List.getElem_toArray, List.getElem_cons_zero, List.getElem_cons_succ]
          refine wpAnyH_done (by kernel_rfl) ?_ _
          (go_wp2; go_roundw; (case rel => exact ⟨q + 1, k + 1, B1, d1', _, by omega, by go_num, rfl, HT, hide (by simp [HK.out]), by omega, hide ho1, hch⟩); (case measure => simp [intOf]; omega))
      · first | (have hge : (n' : Int) ≤ q := (by omega)) | (have hge : (n : Int) ≤ q := (by omega))
        go_wp2
        go_ret
        have hqe : q = min n n' := by omega
        subst hqe
        exact ⟨B, k, d, ms, HM, HK, by omega, rfl, HO.out, hb⟩
set_option maxHeartbeats 1000000 in
theorem ref11_Moves (A : Option Addr) (n c : Nat) (xs : List Int) (A' : Option Addr) (n' c' : Nat) (ys : List Int) (w : World) (HN : Hid (n = xs.length)) (hr : Reads w w.heap.size 1 A n (xs.map (Value.int .i64))) (hn : n ≤ 2000000) (HN' : Hid (n' = ys.length)) (hr' : Reads w w.heap.size 1 A' n' (ys.map (Value.int .i64))) (hn' : n' ≤ 2000000) :
    Calls Try.prog 9 #[.slice A n c, .slice A' n' c'] w fun e w' => ∃ (B : Option Addr) (k d : Nat) (ms : List Mv), Hid (ms = movesTo xs ys (min n n')) ∧ Hid (k = ms.length) ∧ k ≤ 2000000 ∧ e = .returned (.slice B k d) ∧ w'.ownsRow w.heap.size 29 3 (.slice B k d) k (ms.flatMap mvCells) ∧ Below w.heap.size w w' := by
  have bn : (n : Int) ≤ 2000000 := by omega
  have bn' : (n' : Int) ≤ 2000000 := by omega
  go_enter Try.func9, Try.ntmps9
  go_wp2
  go_loopw [5, 10] (fun v i wr => ∃ (q k : Nat) (B : Option Addr) (d : Nat) (ms : List Mv), q ≤ n ∧ i = .int .i64 q ∧ v = .slice B k d ∧ Hid (ms = movesTo xs ys (min q n')) ∧ Hid (k = ms.length) ∧ k ≤ q ∧ Hid (wr.ownsRow w.heap.size 29 3 (.slice B k d) k (ms.flatMap mvCells)) ∧ Below w.heap.size w wr) (fun _ i _ => 2000000 - (intOf i).toNat)
  case atStart => exact ⟨0, 0, _, 0, [], Nat.zero_le _, rfl, rfl, hide (by simp [movesTo]), hide rfl, Nat.le_refl _, hide (own_new (Blk.new _ _ _) (Nat.le_refl _)), by repeat (first | assumption | exact Below.refl _ _ | refine Gr.drew ?_ | refine Gr.drewN ?_ _ | refine Gr.alloc ?_ _ | refine Gr.set_ ?_ (by first | (simp; done) | assumption | omega | (simp; omega)) _)⟩
  case round =>
    obtain ⟨q, k, B, d, ms, hq, rfl, rfl, HM, HK, hkq, HO, hb⟩ := hrel
    by_cases hlt : q < n ∧ q < n'
    · obtain ⟨b, off, rfl, hbB, hcell⟩ := hr.2 (by omega)
      obtain ⟨b', off', rfl, hbB', hcell'⟩ := hr'.2 (by omega)
      have hxq : q < xs.length := by rw [← HN.out]; omega
      have hyq : q < ys.length := by rw [← HN'.out]; omega
      have hx : w.cell? ⟨b, off + q, none⟩ = some (.int .i64 xs[q]) := hcell q _ (by simp [hxq])
      have hy : w.cell? ⟨b', off' + q, none⟩ = some (.int .i64 ys[q]) := hcell' q _ (by simp [hyq])
      have hx1 := (hb.cell (p := ⟨b, off + q, none⟩) hbB).trans hx
      have hy1 := (hb.cell (p := ⟨b', off' + q, none⟩) hbB').trans hy
      have l1 : (q : Int) < n := by omega
      have l2 : (q : Int) < n' := by omega
      have hq0 : (0 : Int) ≤ q := by omega
      have HS := hide (movesTo_succ xs ys q hxq hyq)
      rw [← show ms = movesTo xs ys q from by rw [HM.out, Nat.min_eq_left (by omega)]] at HS
      generalize xs[q] = x at *
      generalize ys[q] = y at *
      clear hcell hcell'
      by_cases hxy : x = y
      · have HT : Hid (ms = movesTo xs ys (min (q + 1) n')) := hide (by rw [Nat.min_eq_left (by omega), HS.out, if_pos hxy, List.append_nil])
        subst hxy
        go_wp2
        go_quiet (fail)
        go_wp2
        go_roundw
        case rel => exact ⟨q + 1, k, B, d, ms, by omega, by go_num, rfl, HT, HK, by omega, hide (own_chain HO.out (by repeat (first | assumption | exact Below.refl _ _ | refine Gr.drew ?_ | refine Gr.drewN ?_ _ | refine Gr.alloc ?_ _ | refine Gr.set_ ?_ (by first | (simp; done) | assumption | omega | (simp; omega)) _))), by repeat (first | assumption | exact Below.refl _ _ | refine Gr.drew ?_ | refine Gr.drewN ?_ _ | refine Gr.alloc ?_ _ | refine Gr.set_ ?_ (by first | (simp; done) | assumption | omega | (simp; omega)) _)⟩
        case measure => simp [intOf]; omega
      · have HT : Hid (ms ++ [⟨q, x, y⟩] = movesTo xs ys (min (q + 1) n')) := hide (by rw [Nat.min_eq_left (by omega), HS.out, if_neg hxy])
        have d1 : (x == y) = false := by simpa using hxy
        go_wp2
        go_quiet (fail)
        go_wp2
        refine wp_region_held_drew (S := (fun w' => Below w.heap.size w w')) (by kernel_rfl) (by repeat (first | assumption | exact Below.refl _ _ | refine Gr.drew ?_ | refine Gr.drewN ?_ _ | refine Gr.alloc ?_ _ | refine Gr.set_ ?_ (by first | (simp; done) | assumption | omega | (simp; omega)) _)) (fun hHeld => ?_)
        refine wpAnyH_take (i := 0) (v := ?_) rfl (by kernel_rfl) (by kernel_rfl) (by kernel_rfl) (fun _ _ _ h => h) (Or.inl ⟨by rfl, ?_⟩) hHeld ?_
        rotate_left 1
        · (intro w hSw; go_simp; try with_reducible rfl)
        simp only [Act.put, List.setIfInBounds_toArray, List.set_cons_zero, List.set_cons_succ, List.getElem_toArray, List.getElem_cons_zero, List.getElem_cons_succ]
        refine wpAnyH_take (i := 1) (v := ?_) rfl (by kernel_rfl) (by kernel_rfl) (by kernel_rfl) (fun _ _ _ h => h) (Or.inl ⟨by rfl, ?_⟩) hHeld ?_
        rotate_left 1
        · (intro w hSw; go_simp; try with_reducible rfl)
        simp only [Act.put, List.setIfInBounds_toArray, List.set_cons_zero, List.set_cons_succ, List.getElem_toArray, List.getElem_cons_zero, List.getElem_cons_succ]
        refine wpAnyH_take (i := 2) (v := ?_) rfl (by kernel_rfl) (by kernel_rfl) (by kernel_rfl) (fun _ _ _ h => h) (Or.inl ⟨by rfl, ?_⟩) hHeld ?_
        rotate_left 1
        · (intro w hSw; go_simp; try with_reducible rfl)
        simp only [Act.put, List.setIfInBounds_toArray, List.set_cons_zero, List.set_cons_succ, List.getElem_toArray, List.getElem_cons_zero, List.getElem_cons_succ]
        refine wpAnyH_take (i := 3) (v := ?_) rfl (by kernel_rfl) (by kernel_rfl) (by kernel_rfl) (fun _ _ _ h => h) (Or.inl ⟨by rfl, ?_⟩) hHeld ?_
        rotate_left 1
        · (intro w hSw; go_simp; try with_reducible rfl)
        simp only [Act.put, List.setIfInBounds_toArray, List.set_cons_zero, List.set_cons_succ, List.getElem_toArray, List.getElem_cons_zero, List.getElem_cons_succ]
        refine wpAnyH_take (i := 4) (v := ?_) rfl (by kernel_rfl) (by kernel_rfl) (by kernel_rfl) (fun _ _ _ h => h) (Or.inl ⟨by rfl, ?_⟩) hHeld ?_
        rotate_left 1
        · (intro w hSw; go_simp; try with_reducible rfl)
        simp only [Act.put, List.setIfInBounds_toArray, List.set_cons_zero, List.set_cons_succ, List.getElem_toArray, List.getElem_cons_zero, List.getElem_cons_succ]
        refine wpAnyH_take (i := 5) (v := ?_) rfl (by kernel_rfl) (by kernel_rfl) (by kernel_rfl) (fun _ _ _ h => h) (Or.inl ⟨by rfl, ?_⟩) hHeld ?_
        rotate_left 1
        · (intro w hSw; have g1 := (hSw.cell (p := ⟨b, off + q, none⟩) hbB).trans hx; have g2 := (hSw.cell (p := ⟨b', off' + q, none⟩) hbB').trans hy; go_simp; try with_reducible rfl)
        simp only [Act.put, List.setIfInBounds_toArray, List.set_cons_zero, List.set_cons_succ, List.getElem_toArray, List.getElem_cons_zero, List.getElem_cons_succ]
        refine wpAnyH_take (i := 6) (v := ?_) rfl (by kernel_rfl) (by kernel_rfl) (by kernel_rfl) (fun _ _ _ h => h) (Or.inl ⟨by rfl, ?_⟩) hHeld ?_
        rotate_left 1
        · (intro w hSw; go_simp; try with_reducible rfl)
        simp only [Act.put, List.setIfInBounds_toArray, List.set_cons_zero, List.set_cons_succ, List.getElem_toArray, List.getElem_cons_zero, List.getElem_cons_succ]
        refine wpAnyH_take (i := 7) (v := ?_) rfl (by kernel_rfl) (by kernel_rfl) (by kernel_rfl) (fun _ _ _ h => h) (Or.inl ⟨by rfl, ?_⟩) hHeld ?_
        rotate_left 1
        · (intro w hSw; go_simp; try with_reducible rfl)
        simp only [Act.put, List.setIfInBounds_toArray, List.set_cons_zero, List.set_cons_succ, List.getElem_toArray, List.getElem_cons_zero, List.getElem_cons_succ]
        refine wpAnyH_take (i := 8) (v := ?_) rfl (by kernel_rfl) (by kernel_rfl) (by kernel_rfl) (fun _ _ _ h => h) (Or.inl ⟨by rfl, ?_⟩) hHeld ?_
        rotate_left 1
        · (intro w hSw; go_simp; try with_reducible rfl)
        simp only [Act.put, List.setIfInBounds_toArray, List.set_cons_zero, List.set_cons_succ, List.getElem_toArray, List.getElem_cons_zero, List.getElem_cons_succ]
        refine wpAnyH_take (i := 9) (v := ?_) rfl (by kernel_rfl) (by kernel_rfl) (by kernel_rfl) (fun _ _ _ h => h) (Or.inl ⟨by rfl, ?_⟩) hHeld ?_
        rotate_left 1
        · (intro w hSw; have g1 := (hSw.cell (p := ⟨b, off + q, none⟩) hbB).trans hx; have g2 := (hSw.cell (p := ⟨b', off' + q, none⟩) hbB').trans hy; go_simp; try with_reducible rfl)
        simp only [Act.put, List.setIfInBounds_toArray, List.set_cons_zero, List.set_cons_succ, List.getElem_toArray, List.getElem_cons_zero, List.getElem_cons_succ]
        refine wpAnyH_take (i := 10) (v := ?_) rfl (by kernel_rfl) (by kernel_rfl) (by kernel_rfl) (fun _ _ _ h => h) (Or.inl ⟨by rfl, ?_⟩) hHeld ?_
        rotate_left 1
        · (intro w hSw; go_simp; try with_reducible rfl)
        simp only [Act.put, List.setIfInBounds_toArray, List.set_cons_zero, List.set_cons_succ, List.getElem_toArray, List.getElem_cons_zero, List.getElem_cons_succ]
        refine wpAnyH_ready (rs := [11]) (by kernel_rfl) (by simp) ?_
        refine AllReadyH.cons rfl (fun K hK => ?_) AllReadyH.nil
        go_simp
        refine hK.out _ _ ?_ (fun hHeld => ?_)
        · repeat (first | assumption | exact Below.refl _ _ | refine Gr.drew ?_ | refine Gr.drewN ?_ _ | refine Gr.alloc ?_ _ | refine Gr.set_ ?_ (by first | (simp; done) | assumption | omega | (simp; omega)) _)
        clear hK K
        try simp only [Act.put, List.setIfInBounds_toArray, List.set_cons_zero, List.set_cons_succ, List.getElem_toArray, List.getElem_cons_zero, List.getElem_cons_succ]
        refine wpAnyH_ready (rs := [12]) (by kernel_rfl) (by simp) ?_
        refine AllReadyH.cons rfl (fun K hK => ?_) AllReadyH.nil
        rw [if_pos (by rfl)]
        refine app_op (.tmp 28) (.tmp 39) rfl Try.underlying25 info_Move rfl (by omega) (by rfl) (own_chain HO.out (by repeat (first | assumption | exact Below.refl _ _ | refine Gr.drew ?_ | refine Gr.drewN ?_ _ | refine Gr.alloc ?_ _ | refine Gr.set_ ?_ (by first | (simp; done) | assumption | omega | (simp; omega)) _))) (by rfl) (Reads.made (Blk.new _ _ _) rfl) (one_mv3 _ _ _) (k + 1) ((ms ++ [(⟨q, x, y⟩ : Mv)]).flatMap mvCells) rfl (by simp [mvCells]) (by omega) (by omega) (below_le (B := w.heap.size) (by repeat (first | assumption | exact Below.refl _ _ | refine Gr.drew ?_ | refine Gr.drewN ?_ _ | refine Gr.alloc ?_ _ | refine Gr.set_ ?_ (by first | (simp; done) | assumption | omega | (simp; omega)) _)) (Nat.le_refl _)) ?_; intro B1 d1' w1 ho1 hg1 h1 h2; have hch := grow_own (a := w) (by repeat (first | assumption | exact Below.refl _ _ | refine Gr.drew ?_ | refine Gr.drewN ?_ _ | refine Gr.alloc ?_ _ | refine Gr.set_ ?_ (by first | (simp; done) | assumption | omega | (simp; omega)) _)) hg1 (own_chain HO.out (by repeat (first | assumption | exact Below.refl _ _ | refine Gr.drew ?_ | refine Gr.drewN ?_ _ | refine Gr.alloc ?_ _ | refine Gr.set_ ?_ (by first | (simp; done) | assumption | omega | (simp; omega)) _))) (Nat.le_refl _)
        refine hK.out _ _ ?_ (fun hHeld => ?_)
        · repeat (first | assumption | exact Below.refl _ _ | refine Gr.drew ?_ | refine Gr.drewN ?_ _ | refine Gr.alloc ?_ _ | refine Gr.set_ ?_ (by first | (simp; done) | assumption | omega | (simp; omega)) _)
        clear hK K
        try simp only [Act.put, List.setIfInBounds_toArray, List.set_cons_zero, List.set_cons_succ, List.getElem_toArray, List.getElem_cons_zero, List.getElem_cons_succ]
        refine wpAnyH_take (i := 13) (v := ?_) rfl (by kernel_rfl) (by kernel_rfl) (by kernel_rfl) (fun _ _ _ h => h) (Or.inl ⟨by rfl, ?_⟩) hHeld ?_
        rotate_left 1
        · (intro w hSw; go_simp; try with_reducible rfl)
        simp only [Act.put, List.setIfInBounds_toArray, List.set_cons_zero, List.set_cons_succ, List.getElem_toArray, List.getElem_cons_zero, List.getElem_cons_succ]
        refine wpAnyH_done (by kernel_rfl) ?_ _
        (go_wp2; go_roundw; (case rel => exact ⟨q + 1, k + 1, B1, d1', _, by omega, by go_num, rfl, HT, hide (by simp [HK.out]), by omega, hide ho1, hch⟩); (case measure => simp [intOf]; omega))
    · by_cases hq2 : q < n
      · have hge : ¬ (q : Int) < n' := by omega
        have l1 : (q : Int) < n := by omega
        have d0 : decide (q < n') = false := by simp; omega
        have HT : Hid (ms = movesTo xs ys (min (q + 1) n')) := hide (by rw [HM.out, Nat.min_eq_right (by omega), Nat.min_eq_right (by omega)])
        go_wp2
        refine wp_region_held_drew (S := (fun w' => Below w.heap.size w w')) (by kernel_rfl) (by repeat (first | assumption | exact Below.refl _ _ | refine Gr.drew ?_ | refine Gr.drewN ?_ _ | refine Gr.alloc ?_ _ | refine Gr.set_ ?_ (by first | (simp; done) | assumption | omega | (simp; omega)) _)) (fun hHeld => ?_)
        refine wpAnyH_take (i := 0) (v := ?_) rfl (by kernel_rfl) (by kernel_rfl) (by kernel_rfl) (fun _ _ _ h => h) (Or.inl ⟨by rfl, ?_⟩) hHeld ?_
        rotate_left 1
        · (intro w hSw; go_simp; try with_reducible rfl)
        simp only [Act.put, List.setIfInBounds_toArray, List.set_cons_zero, List.set_cons_succ, List.getElem_toArray, List.getElem_cons_zero, List.getElem_cons_succ]
        refine wpAnyH_take (i := 1) (v := ?_) rfl (by kernel_rfl) (by kernel_rfl) (by kernel_rfl) (fun _ _ _ h => h) (Or.inl ⟨by rfl, ?_⟩) hHeld ?_
        rotate_left 1
        · (intro w hSw; go_simp; try with_reducible rfl)
        simp only [Act.put, List.setIfInBounds_toArray, List.set_cons_zero, List.set_cons_succ, List.getElem_toArray, List.getElem_cons_zero, List.getElem_cons_succ]
        refine wpAnyH_take (i := 2) (v := ?_) rfl (by kernel_rfl) (by kernel_rfl) (by kernel_rfl) (fun _ _ _ h => h) (Or.inl ⟨by rfl, ?_⟩) hHeld ?_
        rotate_left 1
        · (intro w hSw; go_simp; try with_reducible rfl)
        simp only [Act.put, List.setIfInBounds_toArray, List.set_cons_zero, List.set_cons_succ, List.getElem_toArray, List.getElem_cons_zero, List.getElem_cons_succ]
        refine wpAnyH_take (i := 3) (v := ?_) rfl (by kernel_rfl) (by kernel_rfl) (by kernel_rfl) (fun _ _ _ h => h) (Or.inl ⟨by rfl, ?_⟩) hHeld ?_
        rotate_left 1
        · (intro w hSw; go_simp; try with_reducible rfl)
        simp only [Act.put, List.setIfInBounds_toArray, List.set_cons_zero, List.set_cons_succ, List.getElem_toArray, List.getElem_cons_zero, List.getElem_cons_succ]
        refine wpAnyH_take (i := 4) (v := ?_) rfl (by kernel_rfl) (by kernel_rfl) (by kernel_rfl) (fun _ _ _ h => h) (Or.inl ⟨by rfl, ?_⟩) hHeld ?_
        rotate_left 1
        · (intro w hSw; go_simp; try with_reducible rfl)
        simp only [Act.put, List.setIfInBounds_toArray, List.set_cons_zero, List.set_cons_succ, List.getElem_toArray, List.getElem_cons_zero, List.getElem_cons_succ]
        refine wpAnyH_take (i := 5) (v := undef) rfl (by kernel_rfl) (by kernel_rfl) (by kernel_rfl) (fun _ _ _ h => h) (Or.inr ⟨by rfl, rfl⟩) hHeld ?_
        simp only [Act.put, List.setIfInBounds_toArray, List.set_cons_zero, List.set_cons_succ, List.getElem_toArray, List.getElem_cons_zero, List.getElem_cons_succ]
        refine wpAnyH_take (i := 6) (v := undef) rfl (by kernel_rfl) (by kernel_rfl) (by kernel_rfl) (fun _ _ _ h => h) (Or.inr ⟨by rfl, rfl⟩) hHeld ?_
        simp only [Act.put, List.setIfInBounds_toArray, List.set_cons_zero, List.set_cons_succ, List.getElem_toArray, List.getElem_cons_zero, List.getElem_cons_succ]
        refine wpAnyH_take (i := 7) (v := undef) rfl (by kernel_rfl) (by kernel_rfl) (by kernel_rfl) (fun _ _ _ h => h) (Or.inr ⟨by rfl, rfl⟩) hHeld ?_
        simp only [Act.put, List.setIfInBounds_toArray, List.set_cons_zero, List.set_cons_succ, List.getElem_toArray, List.getElem_cons_zero, List.getElem_cons_succ]
        refine wpAnyH_take (i := 8) (v := undef) rfl (by kernel_rfl) (by kernel_rfl) (by kernel_rfl) (fun _ _ _ h => h) (Or.inr ⟨by rfl, rfl⟩) hHeld ?_
        simp only [Act.put, List.setIfInBounds_toArray, List.set_cons_zero, List.set_cons_succ, List.getElem_toArray, List.getElem_cons_zero, List.getElem_cons_succ]
        refine wpAnyH_take (i := 9) (v := undef) rfl (by kernel_rfl) (by kernel_rfl) (by kernel_rfl) (fun _ _ _ h => h) (Or.inr ⟨by rfl, rfl⟩) hHeld ?_
        simp only [Act.put, List.setIfInBounds_toArray, List.set_cons_zero, List.set_cons_succ, List.getElem_toArray, List.getElem_cons_zero, List.getElem_cons_succ]
        refine wpAnyH_take (i := 10) (v := undef) rfl (by kernel_rfl) (by kernel_rfl) (by kernel_rfl) (fun _ _ _ h => h) (Or.inr ⟨by rfl, rfl⟩) hHeld ?_
        simp only [Act.put, List.setIfInBounds_toArray, List.set_cons_zero, List.set_cons_succ, List.getElem_toArray, List.getElem_cons_zero, List.getElem_cons_succ]
        refine wpAnyH_take (i := 11) (v := undef) rfl (by kernel_rfl) (by kernel_rfl) (by kernel_rfl) (fun _ _ _ h => h) (Or.inr ⟨by rfl, rfl⟩) hHeld ?_
        simp only [Act.put, List.setIfInBounds_toArray, List.set_cons_zero, List.set_cons_succ, List.getElem_toArray, List.getElem_cons_zero, List.getElem_cons_succ]
        refine wpAnyH_take (i := 12) (v := undef) rfl (by kernel_rfl) (by kernel_rfl) (by kernel_rfl) (fun _ _ _ h => h) (Or.inr ⟨by rfl, rfl⟩) hHeld ?_
        simp only [Act.put, List.setIfInBounds_toArray, List.set_cons_zero, List.set_cons_succ, List.getElem_toArray, List.getElem_cons_zero, List.getElem_cons_succ]
        refine wpAnyH_take (i := 13) (v := undef) rfl (by kernel_rfl) (by kernel_rfl) (by kernel_rfl) (fun _ _ _ h => h) (Or.inr ⟨by rfl, rfl⟩) hHeld ?_
        simp only [Act.put, List.setIfInBounds_toArray, List.set_cons_zero, List.set_cons_succ, List.getElem_toArray, List.getElem_cons_zero, List.getElem_cons_succ]
        refine wpAnyH_take (i := 14) (v := ?_) rfl (by kernel_rfl) (by kernel_rfl) (by kernel_rfl) (fun _ _ _ h => h) (Or.inl ⟨by rfl, ?_⟩) hHeld ?_
        rotate_left 1
        · (intro w hSw; go_simp; try with_reducible rfl)
        simp only [Act.put, List.setIfInBounds_toArray, List.set_cons_zero, List.set_cons_succ, List.getElem_toArray, List.getElem_cons_zero, List.getElem_cons_succ]
        refine wpAnyH_done (by kernel_rfl) ?_ _
        (go_wp2; go_roundw; (case rel => exact ⟨q + 1, k, B, d, ms, by omega, by go_num, rfl, HT, HK, by omega, hide (own_chain HO.out (by repeat (first | assumption | exact Below.refl _ _ | refine Gr.drew ?_ | refine Gr.drewN ?_ _ | refine Gr.alloc ?_ _ | refine Gr.set_ ?_ (by first | (simp; done) | assumption | omega | (simp; omega)) _))), by repeat (first | assumption | exact Below.refl _ _ | refine Gr.drew ?_ | refine Gr.drewN ?_ _ | refine Gr.alloc ?_ _ | refine Gr.set_ ?_ (by first | (simp; done) | assumption | omega | (simp; omega)) _)⟩); (case measure => simp [intOf]; omega))
      · have hge : ¬ (q : Int) < n := by omega
        go_wp2
        go_ret
        have hqe : q = n := by omega
        subst hqe
        exact ⟨B, k, d, ms, HM, HK, by omega, rfl, HO.out, hb⟩

set_option maxHeartbeats 1000000 in
/-- Two rows that hold the same are alike. -/
theorem ref11_Like (A : Option Addr) (n c : Nat) (A' : Option Addr) (n' c' : Nat) (xs : List Mv) (C : Nat) (w : World) (HN : Hid (n = xs.length)) (hr : Reads w C 3 A n (xs.flatMap mvCells)) (HN' : Hid (n' = xs.length)) (hr' : Reads w C 3 A' n' (xs.flatMap mvCells)) (hn : n ≤ 2000000) (hC : C ≤ w.heap.size) :
    Calls Try.prog 7 #[.slice A n c, .slice A' n' c'] w fun e w' => e = .returned (.bool true) ∧ Below w.heap.size w w' := by
  have bn : (n : Int) ≤ 2000000 := by omega
  obtain rfl : n' = n := HN'.out.trans HN.out.symm
  go_enter Try.func7, Try.ntmps7
  go_wp2
  go_loopw [13] (fun i wr => ∃ (q : Nat), q ≤ n' ∧ i = .int .i64 q ∧ Below w.heap.size w wr) (fun i _ => 2000000 - (intOf i).toNat)
  case atStart => exact ⟨0, Nat.zero_le _, rfl, Below.refl _ _⟩
  case round =>
    obtain ⟨q, hq, rfl, hb⟩ := hrel
    by_cases hlt : q < n'
    · have hxq : q < xs.length := by rw [← HN.out]; omega
      obtain ⟨b, off, rfl, hbB, hcell⟩ := hr.el (fun x => rfl) hxq HN.out
      obtain ⟨b', off', rfl, hbB', hcell'⟩ := hr'.el (fun x => rfl) hxq HN.out
      have l1 : (q : Int) < n' := by omega
      have hq0 : (0 : Int) ≤ q := by omega
      have k0 := (hb.cell (p := ⟨b, off + (q * 3 + 0), none⟩) (by omega : b < w.heap.size)).trans (hcell 0 _ (by omega) rfl)
      have k1 := (hb.cell (p := ⟨b, off + (q * 3 + 1), none⟩) (by omega : b < w.heap.size)).trans (hcell 1 _ (by omega) rfl)
      have k2 := (hb.cell (p := ⟨b, off + (q * 3 + 2), none⟩) (by omega : b < w.heap.size)).trans (hcell 2 _ (by omega) rfl)
      have m0 := (hb.cell (p := ⟨b', off' + (q * 3 + 0), none⟩) (by omega : b' < w.heap.size)).trans (hcell' 0 _ (by omega) rfl)
      have m1 := (hb.cell (p := ⟨b', off' + (q * 3 + 1), none⟩) (by omega : b' < w.heap.size)).trans (hcell' 1 _ (by omega) rfl)
      have m2 := (hb.cell (p := ⟨b', off' + (q * 3 + 2), none⟩) (by omega : b' < w.heap.size)).trans (hcell' 2 _ (by omega) rfl)
      generalize xs[q].g = x0 at *
      generalize xs[q].f = x1 at *
      generalize xs[q].t = x2 at *
      clear hcell hcell'
      simp only [Nat.add_zero, ← Nat.add_assoc] at k0 k1 k2 m0 m1 m2
      go_wp2
      go_quiet (fail)
      go_wp2
      go_roundw
      case rel => exact ⟨q + 1, by omega, by go_num, by repeat (first | assumption | exact Below.refl _ _ | refine Gr.drew ?_ | refine Gr.drewN ?_ _ | refine Gr.alloc ?_ _ | refine Gr.set_ ?_ (by first | (simp; done) | assumption | omega | (simp; omega)) _)⟩
      case measure => simp [intOf]; omega
    · have hge : ¬ (q : Int) < n' := by omega
      go_wp2
      go_ret
      exact ⟨rfl, hb⟩
end Go.Proofs.Ytnjhgconfbkjmaa
