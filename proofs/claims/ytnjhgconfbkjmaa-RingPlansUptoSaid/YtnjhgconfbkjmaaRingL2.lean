/-
  'clepsydralaw11.RingPlans' returns true for every input of bulk at most 1048576.
-/
import Derived.Test.YtnjhgconfbkjmaaRingO
import Derived.BigRegion
namespace Go.Proofs.Ytnjhgconfbkjmaa
open Go.RowKit Go.WideShapes Go.ChangeShapes Go.ChangeAt
set_option linter.unusedSimpArgs false
set_option linter.unusedVariables false
attribute [local go_sem ↓] Go.wp_at_zero Go.wp_at_succ

theorem info_int : (Try.prog.info? 3).map (fun i => (i.zero, i.size, i.bytes)) = some (some (.int .i64 0), 1, 8) := by kernel_rfl

/-- Two rows that hold the same numbers are alike. -/
theorem ref11_Ints (A : Option Addr) (n c : Nat) (A' : Option Addr) (n' c' : Nat) (xs : List Int) (C : Nat) (w : World) (HN : Hid (n = xs.length)) (hr : Reads w C 1 A n (xs.map (Value.int .i64))) (HN' : Hid (n' = xs.length)) (hr' : Reads w C 1 A' n' (xs.map (Value.int .i64))) (hn : n ≤ 2000000) (hC : C ≤ w.heap.size) :
    Calls Try.prog 10 #[.slice A n c, .slice A' n' c'] w fun e w' => e = .returned (.bool true) ∧ Below w.heap.size w w' := by
  have bn : (n : Int) ≤ 2000000 := by omega
  obtain rfl : n' = n := HN'.out.trans HN.out.symm
  go_enter Try.func10, Try.ntmps10
  go_wp2
  go_loopw [13] (fun i wr => ∃ (q : Nat), q ≤ n' ∧ i = .int .i64 q ∧ Below w.heap.size w wr) (fun i _ => 2000000 - (intOf i).toNat)
  case atStart => exact ⟨0, Nat.zero_le _, rfl, Below.refl _ _⟩
  case round =>
    obtain ⟨q, hq, rfl, hb⟩ := hrel
    by_cases hlt : q < n'
    · have hxq : q < xs.length := by rw [← HN.out]; omega
      obtain ⟨b, off, rfl, hbB, hcell⟩ := hr.2 (by omega)
      obtain ⟨b', off', rfl, hbB', hcell'⟩ := hr'.2 (by omega)
      have l1 : (q : Int) < n' := by omega
      have hq0 : (0 : Int) ≤ q := by omega
      have k0 := (hb.cell (p := ⟨b, off + q, none⟩) (by omega : b < w.heap.size)).trans (hcell q (.int .i64 xs[q]) (by simp [hxq]))
      have m0 := (hb.cell (p := ⟨b', off' + q, none⟩) (by omega : b' < w.heap.size)).trans (hcell' q (.int .i64 xs[q]) (by simp [hxq]))
      generalize xs[q] = x0 at *
      clear hcell hcell'
      go_wp2
      go_quiet (fail)
      go_wp2
      go_roundw
      case rel => exact ⟨q + 1, by omega, by go_num, by repeat (first | assumption | exact Below.refl _ _ | refine Gr.drew ?_ | refine Gr.drewN ?_ _ | refine Gr.alloc ?_ _ | refine Gr.set_ ?_ (by first | (simp; done) | assumption | omega | (simp; omega)) _)⟩
      case measure => simp [intOf]; omega
    · have hge : ¬ (q : Int) < n' := by omega
      go_wp2
      go_ret
      exact ⟨rfl, hb⟩

set_option maxHeartbeats 1000000 in
theorem RingPlans_walk (A : Option Addr) (n c : Nat) (xs : List Int) (A' : Option Addr) (n' c' : Nat) (ys : List Int) (w : World) (HN : Hid (n = xs.length)) (hr : Reads w w.heap.size 1 A n (xs.map (Value.int .i64))) (hn : n ≤ 2000000) (hc : n ≤ c) (hcc : c ≤ 9223372036854775807) (HN' : Hid (n' = ys.length)) (hr' : Reads w w.heap.size 1 A' n' (ys.map (Value.int .i64))) (hn' : n' ≤ 2000000) (hc' : n' ≤ c') (hcc' : c' ≤ 9223372036854775807) :
    Calls Try.prog 4 #[.slice A n c, .slice A' n' c'] w fun e w' => e = .returned (.bool true) ∧ Below w.heap.size w w' := by
  have bn : (n : Int) ≤ 2000000 := by omega
  have bn' : (n' : Int) ≤ 2000000 := by omega
  have bc : (n : Int) ≤ c := by omega
  have bc' : (n' : Int) ≤ c' := by omega
  have bcc : (c : Int) ≤ 9223372036854775807 := by omega
  have bcc' : (c' : Int) ≤ 9223372036854775807 := by omega
  have hb : Below w.heap.size w w := Below.refl _ _
  obtain ⟨m, hm⟩ : ∃ m, m = min n n' := ⟨_, rfl⟩
  have hmn : m ≤ n := by omega
  have hmn' : m ≤ n' := by omega
  have hmx : (xs.take m).length = m := by have := HN.out; rw [List.length_take]; omega
  have HMX := hide hmx.symm
  have hmx1 : m ≤ xs.length := by have := HN.out; omega
  have hmy1 : m ≤ ys.length := by have := HN'.out; omega
  have HM := hide hm
  have rm : Reads w w.heap.size 1 A m ((xs.take m).map (Value.int .i64)) := by
    have := hr.take (k := m) (by omega)
    rw [Nat.mul_one, ← List.map_take] at this
    exact this
  clear hmx
  rcases Nat.lt_or_ge n' n with hmin | hmin
  all_goals
    first | (have hmin' : (n' : Int) < n := (by omega); obtain rfl : m = n' := (by omega)) | (have hmin' : (n : Int) ≤ n' := (by omega); obtain rfl : m = n := (by omega))
    clear hm
    go_enter Try.func4, Try.ntmps4
    go_wp2_with (first
      | (at_builtin; refine app_any (.tmp 15) (.tmp 18) rfl rfl Try.underlying22 info_int rfl (by omega) (by rfl) (own_new (Blk.new _ _ _) (Nat.le_refl _) : World.ownsRow _ w.heap.size _ _ _ _ _) (by rfl) (rm.alloc (Nat.le_refl _) _) (one_ints _) m ((xs.take m).map (Value.int .i64)) (Nat.zero_add _) (List.nil_append _) (by omega) (by omega) (by simp) ?_; intro A1 c1 w1 ho1 hg1 h1 h2; have hb := grow_own (a := w) (by repeat (first | assumption | exact Below.refl _ _ | refine Gr.drew ?_ | refine Gr.drewN ?_ _ | refine Gr.alloc ?_ _ | refine Gr.set_ ?_ (by first | (simp; done) | assumption | omega | (simp; omega)) _)) hg1 (own_new (base := w.heap.size) (size := 1) (Blk.new _ _ _) (Nat.le_refl _)) (Nat.le_refl _))
      | (go_at_call 8; refine (ring_Moves _ _ _ xs _ _ _ ys _ HN ((hr.below_le hb (Nat.le_refl _)).more hb.size) hn HN' ((hr'.below_le hb (Nat.le_refl _)).more hb.size) hn').mono ?_; rintro e w2 ⟨B, k, d, ms, HMS, HK, hk, rfl, OM, hb2⟩))
    obtain ⟨g, hg⟩ : ∃ g, 0 < m → (A1 = some ⟨g, 0, none⟩ ∧ RowI w1 g 3 (xs.take m) ∧ w.heap.size ≤ g) := by
      by_cases h0 : 0 < m
      · obtain ⟨g, cap, hv, hle, _⟩ := ho1.form h0
        injection hv with hv _ _
        subst hv
        have := RowI.of_own ho1
        exact ⟨g, fun _ => ⟨rfl, this⟩⟩
      · exact ⟨0, fun h => absurd h h0⟩
    clear ho1 hg1
    have HMS := (hide (by have h := HM.out; have h2 := HMS.out; rw [← h] at h2; exact h2) : Hid (ms = movesTo xs ys m))
    have hkm : k ≤ m := by
      have h1 := HK.out; have h2 := HMS.out; rw [h2] at h1; have := movesTo_len xs ys m; omega
    have bk : (k : Int) ≤ 2000000 := by omega
    have OMR := hide (Reads.of_own OM)
    have ONW : Hid (0 < k → ∀ b, B.map (·.block) = some b → w1.heap.size ≤ b) := hide (by
      intro h0 b hb'
      obtain ⟨g', cap, hv, hle, _⟩ := OM.form h0
      injection hv with hv _ _
      subst hv
      simp at hb'
      omega)
    have hbw2 := Gr.call hb hb2
    have hR2 : 0 < m → RowI w2 g 3 (xs.take m) := fun h => (hg h).2.1.chain hb2
    have hg1s : 0 < m → g < w1.heap.size := fun h => (hg h).2.1.lt
    clear OM
    go_loopw [7, 24] (fun l i wr => ∃ (q p : Nat), q ≤ k ∧ p ≤ m ∧ i = .int .i64 q ∧ l = .int .i64 ((p : Int) - 1) ∧ Hid (movesTo xs ys p = ms.take q) ∧ Hid (0 < m → RowI wr g 3 (mixed xs ys m p)) ∧ Hid (w2.grownBy wr (some g)) ∧ Below w.heap.size w wr) (fun _ i _ => 2000000 - (intOf i).toNat)
    case atStart => exact ⟨0, 0, Nat.zero_le _, Nat.zero_le _, rfl, rfl, hide (by simp [movesTo]), hide (by simpa [mixed] using hR2), hide (World.grownBy.refl w2 _), hbw2⟩
    case round =>
      obtain ⟨q, p, hq, hp, rfl, rfl, HQ, HR, HG, hb⟩ := hrel
      by_cases hlt : q < k
      · have hqm : q < ms.length := by have := HK.out; omega
        obtain ⟨b, off, rfl, hbB, hcell⟩ := OMR.out.el (fun x => rfl) hqm HK.out
        have hnb : w1.heap.size ≤ b := ONW.out (by omega) b rfl
        obtain ⟨rfl, _, hgw⟩ := hg (by omega)
        have hgb : b ≠ g := by have := hg1s (by omega); omega
        have hmsq := hqm
        rw [HMS.out] at hmsq
        obtain ⟨g1, hg1, hmg, hdf, htk⟩ := movesTo_get xs ys m q hmsq
        have hmg' : ms[q] = ⟨g1, xs.getD g1 0, ys.getD g1 0⟩ := by rw [← hmg]; congr 1; first | done | exact HMS.out
        rw [hmg'] at hcell
        have htk' : movesTo xs ys g1 = ms.take q := by rw [htk, ← HMS.out]
        have hnx : movesTo xs ys (g1 + 1) = movesTo xs ys g1 ++ [⟨g1, xs.getD g1 0, ys.getD g1 0⟩] := by
          simp only [movesTo, if_neg hdf]
        have hpg : p ≤ g1 := by
          rcases Nat.lt_or_ge g1 p with h | h
          · have h1 := movesTo_len_le xs ys (a := g1 + 1) (b := p) (by omega)
            have h2 : (movesTo xs ys (g1 + 1)).length = (movesTo xs ys g1).length + 1 := by rw [hnx]; simp
            rw [HQ.out] at h1; rw [htk'] at h2; omega
          · exact h
        have hgap := movesTo_gap xs ys hpg (by rw [HQ.out, htk'])
        have hset := hide (mixed_set hpg hg1 hmx1 hmy1 hgap)
        have htk2 : Hid (movesTo xs ys (g1 + 1) = ms.take (q + 1)) := hide (by
          rw [take_snoc ms q hqm, hmg', ← htk']
          exact hnx)
        have hrow := HR.out (by omega)
        have hml := mixed_len (old := xs) (now := ys) hp hmx1 hmy1
        have hc := hrow.cell g1 (by omega)
        have hval : (mixed xs ys m p)[g1]'(by omega) = xs.getD g1 0 := by
          have := mixed_at (old := xs) (now := ys) (n := m) (p := p) (i := g1) hp hmx1 hmy1 hg1
          rw [if_neg (by omega), List.getD_eq_getElem?_getD, List.getElem?_eq_getElem (by omega), Option.getD_some] at this
          exact this
        rw [hval] at hc
        have k0 := (World.cell?_of_block (a := ⟨b, off + (q * 3 + 0), none⟩) (HG.out.block b hbB (by simp [hgb]))).trans (hcell 0 _ (by omega) rfl)
        have k1 := (World.cell?_of_block (a := ⟨b, off + (q * 3 + 1), none⟩) (HG.out.block b hbB (by simp [hgb]))).trans (hcell 1 _ (by omega) rfl)
        have k2 := (World.cell?_of_block (a := ⟨b, off + (q * 3 + 2), none⟩) (HG.out.block b hbB (by simp [hgb]))).trans (hcell 2 _ (by omega) rfl)
        have hfz := hrow.frozen
        have hgl := hrow.lt
        generalize xs.getD g1 0 = x at *
        generalize ys.getD g1 0 = y at *
        have l1 : (q : Int) < k := by omega
        have hq0 : (0 : Int) ≤ q := by omega
        have e1 : ¬ (g1 : Int) ≤ (p : Int) - 1 := by omega
        have e2 : ¬ (m : Int) ≤ g1 := by omega
        have e3 : (x == y) = false := by simpa using hdf
        have e4 : (0 : Int) ≤ g1 := by omega
        have e5 : (g1 : Int) < m := by omega
        clear hcell hgap hval htk htk' hmg hmg' hmsq hnx
        simp only [Nat.add_zero, ← Nat.add_assoc] at k0 k1 k2
        go_wp2
        go_quiet (fail)
        go_wp2
        have hrow2 := (((hrow.alloc (Obj.cells #[Value.int .i64 g1, .int .i64 x, .int .i64 y] 29)).set_ g1 (by rw [hml]; omega) y))
        rw [hset.out] at hrow2
        refine ⟨⟨q + 1, g1 + 1, by omega, by omega, by go_num, by go_num, htk2, hide fun _ => hrow2, hide (only_setCell (only_drewN (only_alloc HG.out _) _) (Or.inl rfl) _), by repeat (first | assumption | exact Below.refl _ _ | refine Gr.drew ?_ | refine Gr.drewN ?_ _ | refine Gr.alloc ?_ _ | refine Gr.set_ ?_ (by first | (simp; done) | assumption | omega | (simp; omega)) _)⟩, ?_⟩
        simp [intOf]; omega
      · have hqk : q = k := by omega
        subst hqk
        have hge : ¬ (q : Int) < q := by omega
        have hmsq : ms.take q = ms := by rw [List.take_of_length_le]; rw [HK.out]; exact Nat.le_refl _
        have hgap := movesTo_gap xs ys hp (by rw [HQ.out, hmsq, HMS.out])
        have hend := mixed_end hp hmx1 hmy1 hgap
        rw [hend] at HR
        have HRR := HR
        clear hmsq hgap hend HR
        go_wp2_with fail
        refine (law11_alive _).mono ?_
        rintro e w3 ⟨rfl, hb3⟩
        have hb := Gr.call hb hb3
        have hmyl : (ys.take m).length = m := by rw [List.length_take]; omega
        have ro : Reads w3 w3.heap.size 1 A1 m ((ys.take m).map (Value.int .i64)) := by
          rcases Nat.eq_zero_or_pos m with h0 | h0
          · exact ⟨by rw [List.length_map, hmyl, Nat.mul_one], fun h => absurd h (by omega)⟩
          · obtain ⟨rfl, _, _⟩ := hg h0
            have := ((HRR.out h0).chain hb3).reads
            rw [hmyl] at this
            exact this
        have ry : Reads w3 w3.heap.size 1 A' m ((ys.take m).map (Value.int .i64)) := by
          have := hr'.take (k := m) (by omega)
          rw [Nat.mul_one, ← List.map_take] at this
          exact (this.below_le hb (Nat.le_refl _)).more hb.size
        have HMY := hide hmyl.symm
        clear hmyl
        go_wp2_with fail
        refine (ref11_Ints _ _ _ _ _ _ (ys.take m) w3.heap.size _ HMY ro HMY ry (by omega) (Nat.le_refl _)).mono ?_
        rintro e w4 ⟨rfl, hb4⟩
        have hb := Gr.call hb hb4
        go_wp2
        go_ret
        exact ⟨rfl, hb⟩

theorem ringPlans_contract (H : Type) (enc : TypeId × Value → H) (W : World) (base : Nat) (args : Array Value) (ds gs : List (DataW H)) (before : List MemPlace)
    (hval0 : ∀ (j : Nat) t v, Try.f4.params[j]? = some t → args[j]? = some v → Value.okWide Try.prog W .any base t v)
    (hW : DataW.Whole enc Try.prog Try.f4.params.toList Rows.ringPlansSpec.vars false W args.toList ds gs before) (hk : Rows.uptoSmall H (ds ++ gs) = true) :
    Calls Try.prog 4 args W fun e W' => ∃ v, e = .returned v ∧ Rows.ringPlansSpec.post enc Try.prog Try.f4 false true false false W args v W' := by
  have hval := hval0
  have hW' := hW
  obtain ⟨p, q, hA0, hV, rfl, hfz, hnd⟩ := hW
  have hA : DataW.TrodAll enc Try.prog W 0 (fun _ => true) true Try.f4.params.toList args.toList ds p := hA0
  rw [Try.params4] at hA hval
  obtain ⟨v0, vs0, d0, ds0, p0, q0, hargs, rfl, rfl, h0, r0⟩ := trodAll_cons hA
  obtain ⟨v1, vs1, d1, ds1, p1, q1, rfl, rfl, rfl, h1, r1⟩ := trodAll_cons r0
  obtain ⟨rfl, rfl, rfl⟩ := trodAll_nil r1
  obtain rfl : args = #[v0, v1] := by cases args; simp_all
  obtain ⟨rfl, rfl⟩ := trodVars_none hV
  clear hA0 hval0
  have hbk := bulk_bound hk
  simp only [List.append_nil, Rows.uptoBulkAll] at hbk
  obtain ⟨A, n, c, xs, rfl, hn, hc, HN, hr, hI⟩ := open_intsI_arg (hval 0 22 v0 rfl rfl) h0
  obtain ⟨A', n', c', ys, rfl, hn', hc', HN', hr', hI'⟩ := open_intsI_arg (hval 1 22 v1 rfl rfl) h1
  refine (RingPlans_walk A n c xs A' n' c' ys W HN hr (by omega) hn (by omega) HN' hr' (by omega) hn' (by omega)).mono fun e W' ⟨he, hb⟩ => ?_
  subst he
  exact ⟨_, rfl, post_law @A_laidOut (rd_of (by kernel_rfl : (Try.f4.params.toList.all fun t => Try.prog.readableRec t && decide (t < Try.prog.types.size)) = true)) rfl rfl Try.underlying4 hW' rfl hb⟩

theorem ringPlans_own : ownKnob Try.prog.godebug = none := by kernel_rfl
set_option maxRecDepth 100000 in
theorem ringPlans_lifted (os : Os) (started : os.Started) (H : Type) (enc : TypeId × Value → H) (F : Stop.Interp) :
    ReturnsInHanded {} Try.checked os 4 .any ((Rows.OpenSpec.upto Rows.ringPlansSpec).pre6 enc Try.prog Try.f4 Rows.ringPlansUptoRow.domain false) (((Rows.OpenSpec.upto Rows.ringPlansSpec).at F).post enc Try.prog Try.f4 false true false false) := by
  refine returnsInHanded_of_cond (C := Try.checked) (s := Rows.OpenSpec.upto Rows.ringPlansSpec) (k := Rows.uptoSmall) rfl ringPlans_own started (by kernel_rfl) Try.func4
    (OpenSpec.witness (enc := enc) (C := Try.checked) (s := Rows.OpenSpec.upto Rows.ringPlansSpec) (k := Rows.uptoSmall) rfl false ⟨#[], #[.slice none 0 0, .slice none 0 0], []⟩ 8 (by kernel_rfl) (by kernel_rfl) (by kernel_rfl)
      (x := ([.nil, .nil], [], [])) (by kernel_rfl) rfl (by kernel_rfl)) ?_
  intro W base args ds gs before hval hW _ hk _
  exact ringPlans_contract H enc W base args ds gs before hval hW hk
theorem ringPlans_proved : Rows.RingPlansUptoSaid :=
  OpenClaim.holds_of_cond 4 Try.f4 rfl rfl rfl rfl rfl rfl rfl ⟨rfl, rfl, rfl, rfl, rfl⟩ rfl rfl rfl rfl rfl (by kernel_rfl) Try.func4 (by kernel_rfl)
    (of_decide_eq_true (by kernel_rfl)) (by unfold Func.isWrapper; first | (rw [if_pos (by decide +kernel)]; kernel_rfl) | (rw [if_neg (by decide +kernel)]; exact ⟨rfl, rfl⟩))
    (fun os started H enc _ F => ringPlans_lifted os started H enc F)
end Go.Proofs.Ytnjhgconfbkjmaa
