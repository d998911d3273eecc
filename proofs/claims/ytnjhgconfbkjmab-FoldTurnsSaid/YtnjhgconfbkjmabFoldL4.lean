/-
  'clepsydralaw06.FoldTurns' returns true for every input.
-/
import Derived.Test.YtnjhgconfbkjmabFoldO
import Derived.Test.YtnjhgconfbkjmabApp
import Derived.BigRegion
namespace Go.Proofs.Ytnjhgconfbkjmab
open Go.RowKit Go.WideShapes Go.ChangeShapes Go.ChangeAt
set_option linter.unusedSimpArgs false
set_option linter.unusedVariables false

theorem info_i64 : (Try.prog.info? 2).map (fun i => (i.zero, i.size, i.bytes)) = some (some (.int .i64 0), 1, 8) := by kernel_rfl

/-- A row of the call's own, as a block: its first cells are the numbers zs. -/
def RowI (w : World) (g : Nat) (t : TypeId) (zs : List Int) : Prop := ∃ cur : Array Value, Blk w g t cur ∧ ∀ (j : Nat) (h : j < zs.length), cur[j]? = some (.int .i64 zs[j])
theorem RowI.cell {w : World} {g : Nat} {t : TypeId} {zs : List Int} (h : RowI w g t zs) (j : Nat) (hj : j < zs.length) : w.cell? ⟨g, j, none⟩ = some (.int .i64 zs[j]) := by
  obtain ⟨cur, hb, hc⟩ := h
  rw [hb.cell]; exact hc j hj
theorem RowI.frozen {w : World} {g : Nat} {t : TypeId} {zs : List Int} (h : RowI w g t zs) (j : Nat) : w.frozen? ⟨g, j, none⟩ = false := by
  obtain ⟨cur, hb, hc⟩ := h
  exact hb.frozen j
theorem RowI.lt {w : World} {g : Nat} {t : TypeId} {zs : List Int} (h : RowI w g t zs) : g < w.heap.size := by
  obtain ⟨cur, hb, hc⟩ := h
  exact hb.lt
theorem RowI.drew {w : World} {g : Nat} {t : TypeId} {zs : List Int} (h : RowI w g t zs) : RowI w.drew g t zs := h
theorem RowI.set_ {w : World} {g : Nat} {t : TypeId} {zs : List Int} (h : RowI w g t zs) (i : Nat) (hi : i < zs.length) (v : Int) : RowI (w.setCell ⟨g, i, none⟩ (.int .i64 v)) g t (zs.set i v) := by
  obtain ⟨cur, hb, hc⟩ := h
  refine ⟨_, hb.set_ i _, fun j hj => ?_⟩
  have hj' : j < zs.length := by simpa using hj
  have hcj := hc j hj'
  have hlt : j < cur.size := (Array.getElem?_eq_some_iff.1 hcj).1
  rw [List.getElem_set]
  by_cases e : i = j
  · subst e; simp [hlt]
  · rw [Array.getElem?_setIfInBounds_ne e, if_neg e]; exact hcj
theorem RowI.reads {w : World} {g : Nat} {t : TypeId} {zs : List Int} (h : RowI w g t zs) : Reads w w.heap.size 1 (some ⟨g, 0, none⟩) zs.length (zs.map (Value.int .i64)) := by
  refine ⟨by simp, fun _ => ⟨g, 0, rfl, h.lt, fun j u hu => ?_⟩⟩
  obtain ⟨hj, e⟩ := List.getElem?_eq_some_iff.1 hu
  simp only [List.length_map] at hj
  simp only [List.getElem_map] at e
  rw [Nat.zero_add, h.cell j hj, e]
theorem RowI.of_own {w : World} {base g n c : Nat} {t : TypeId} {zs : List Int} (h : w.ownsRow base t 1 (.slice (some ⟨g, 0, none⟩) n c) n (zs.map (Value.int .i64))) : RowI w g t zs ∧ base ≤ g := by
  rcases h.2 with ⟨h1, _⟩ | ⟨g', cap, cur, hv, hb, hg, _, _, _, ht⟩
  · cases h1
  · injection hv with h1 _ h2
    injection h1 with h1
    injection h1 with h1
    subst h1
    refine ⟨⟨cur, hg, fun j hj => ?_⟩, hb⟩
    have hl := h.1
    simp only [List.length_map, Nat.mul_one] at hl
    have := congrArg (fun l => l[j]?) ht
    simp only [Nat.mul_one, List.getElem?_take, List.getElem?_map, List.getElem?_eq_getElem hj, Option.map_some] at this
    rw [if_pos (by omega)] at this
    simpa using this

set_option maxHeartbeats 1000000 in
theorem FoldTurns_walk (k : Int) (A : Option Addr) (n c : Nat) (xs : List Int) (A' : Option Addr) (n' c' : Nat) (ys : List Int) (w : World) (HN : Hid (n = xs.length)) (hr : Reads w w.heap.size 1 A n (xs.map (Value.int .i64))) (hn : n ≤ c) (hc : c ≤ 9223372036854775807) (HN' : Hid (n' = ys.length)) (hr' : Reads w w.heap.size 1 A' n' (ys.map (Value.int .i64))) (hn' : n' ≤ c') (hc' : c' ≤ 9223372036854775807) (hI' : ∀ y ∈ ys, I64 y) :
    Calls Try.prog 6 #[.int .i64 k, .slice A n c, .slice A' n' c'] w fun e w' => e = .returned (.bool true) ∧ Below w.heap.size w w' := by
  have hb : Below w.heap.size w w := Below.refl _ _
  go_enter Try.func6, Try.ntmps6
  go_wp2_with fail
  refine (law06_short _ _ _ xs w.heap.size _ HN hr hn hc).mono ?_
  rintro e w0 ⟨n1, xs1, HN1, HX1, hn1, rfl, hr1, hc1, rfl⟩
  go_wp2_with (first
    | (at_builtin; refine app_any (.tmp 13) (.tmp 14) rfl rfl Try.underlying28 info_i64 rfl (by omega) (by rfl) (own_new (Blk.new _ _ _) (Nat.le_refl _) : World.ownsRow _ w.heap.size _ _ _ _ _) (by rfl) (hr1.alloc (Nat.le_refl _) _) (one_ints _) n1 (xs1.map (Value.int .i64)) (Nat.zero_add _) (List.nil_append _) (by omega) (by omega) (by simp) ?_; intro A1 c1 w1 ho1 hg1 h1 h2; have hb := grow_own (a := w) (by repeat (first | assumption | exact Below.refl _ _ | refine Gr.drew ?_ | refine Gr.drewN ?_ _ | refine Gr.alloc ?_ _ | refine Gr.set_ ?_ (by first | simp | (simp; omega) | omega) _)) hg1 (own_new (base := w.heap.size) (size := 1) (Blk.new _ _ _) (Nat.le_refl _)) (Nat.le_refl _)))
  obtain ⟨g, hg⟩ : ∃ g, 0 < n1 → (A1 = some ⟨g, 0, none⟩ ∧ RowI w1 g 2 xs1 ∧ w.heap.size ≤ g) := by
    by_cases h0 : 0 < n1
    · obtain ⟨g, cap, hv, hle, _⟩ := ho1.form h0
      injection hv with hv _ _
      subst hv
      have := RowI.of_own ho1
      exact ⟨g, fun _ => ⟨rfl, this⟩⟩
    · exact ⟨0, fun h => absurd h h0⟩
  clear ho1 hg1
  have hn1' : (n1 : Int) ≤ 2000 := by omega
  have hcc : (n' : Int) ≤ 9223372036854775807 := by omega
  have hc0 : (n1 : Int) ≤ c1 := by omega
  go_loopw [18] (fun i wr => ∃ (q : Nat) (zs : List Int), q ≤ n' ∧ i = .int .i64 q ∧ Hid (zs.Perm xs1) ∧ Below w.heap.size w wr ∧ Hid (0 < n1 → RowI wr g 2 zs)) (fun i _ => n' - (intOf i).toNat)
  case atStart => exact ⟨0, xs1, Nat.zero_le _, rfl, hide (List.Perm.refl _), hb, hide fun h => (hg h).2.1⟩
  case round =>
    obtain ⟨q, zs, hq, rfl, HP, hb, HR⟩ := hrel
    by_cases hlt : q < n'
    · obtain ⟨b, off, rfl, hbB, hcell⟩ := hr'.2 (by omega)
      have hxq : q < ys.length := by rw [← HN'.out]; exact hlt
      have hx : wr.cell? ⟨b, off + q, none⟩ = some (.int .i64 ys[q]) := by
        rw [hb.cell (p := ⟨b, off + q, none⟩) hbB]; exact hcell q _ (by simp [hxq])
      have hlt' : (q : Int) < n' := by omega
      have hq0 : (0 : Int) ≤ q := by omega
      have hv := hI' ys[q] (List.getElem_mem hxq)
      generalize ys[q] = v at hx hv
      clear hcell
      by_cases hbr : q + 1 < n1
      · obtain ⟨rfl, _, hgb⟩ := hg (by omega)
        have hbr' : (q : Int) + 1 < n1 := by omega
        have t1 : -((n1 : Int) - q) < v.tmod ((n1 : Int) - q) := Int.lt_tmod_of_pos v (by omega)
        have t2 : v.tmod ((n1 : Int) - q) < (n1 : Int) - q := Int.tmod_lt_of_pos v (by omega)
        have d0 : ((n1 : Int) - q == 0) = false := by simp; omega
        have t3 : 0 ≤ (v.tmod ((n1 : Int) - q) + n1 - q) % ((n1 : Int) - q) := Int.emod_nonneg _ (by omega)
        have t4 : (v.tmod ((n1 : Int) - q) + n1 - q) % ((n1 : Int) - q) < (n1 : Int) - q := Int.emod_lt_of_pos _ (by omega)
        go_wp2
        generalize (v.tmod ((n1 : Int) - q) + n1 - q) % ((n1 : Int) - q) = E at t3 t4
        obtain ⟨m, rfl⟩ := Int.eq_ofNat_of_zero_le t3
        have hlz : zs.length = n1 := by have := HP.out.length_eq; have := HN1.out; omega
        have hR := HR.out (by omega)
        have hmq : ((q : Int) + m) = ((q + m : Nat) : Int) := by omega
        rw [hmq]
        have hm2 : q + m < zs.length := by omega
        have hz1 := hR.cell q (by omega)
        have hz2 := hR.cell (q + m) hm2
        have hf := hR.frozen
        have b1 : (0 : Int) ≤ ((q + m : Nat) : Int) := by omega
        have b2 : ((q + m : Nat) : Int) < n1 := by omega
        have b3 : (q : Int) < n1 := by omega
        have hswap : ((zs.set q zs[q + m]).set (q + m) zs[q]).Perm zs := List.set_set_perm (by omega) hm2
        have hfin : RowI ((wr.setCell ⟨g, q, none⟩ (.int .i64 zs[q + m])).setCell ⟨g, q + m, none⟩ (.int .i64 zs[q])) g 2 ((zs.set q zs[q + m]).set (q + m) zs[q]) :=
          (hR.set_ q (by omega) _).set_ (q + m) (by simpa using hm2) _
        have HFIN := hide hfin
        have HSW := hide hswap
        clear hfin hswap hmq t1 t2 t3 t4
        generalize zs[q] = a1 at hz1 HFIN HSW
        generalize zs[q + m] = a2 at hz2 HFIN HSW
        by_cases hm0 : m = 0
        · subst hm0
          simp only [Nat.add_zero] at *
          have ea : a2 = a1 := by rw [hz1] at hz2; simpa using hz2.symm
          subst ea
          go_region
          all_goals
            go_wp2
            go_roundw
            case rel => exact ⟨q + 1, (zs.set q a2).set q a2, by omega, by go_num, hide (HSW.out.trans HP.out), (by repeat (first | assumption | exact Below.refl _ _ | refine Gr.drew ?_ | refine Gr.drewN ?_ _ | refine Gr.alloc ?_ _ | refine Gr.set_ ?_ (by first | (simp; done) | assumption | omega | (simp; omega)) _)), hide fun _ => (by first | exact HFIN.out | exact RowI.drew HFIN.out)⟩
            case measure => simp [intOf]; omega
        · have hne : q ≠ q + m := by omega
          generalize q + m = j at *
          go_region
          all_goals
            go_wp2
            go_roundw
            case rel => exact ⟨q + 1, (zs.set q a2).set j a1, by omega, by go_num, hide (HSW.out.trans HP.out), (by repeat (first | assumption | exact Below.refl _ _ | refine Gr.drew ?_ | refine Gr.drewN ?_ _ | refine Gr.alloc ?_ _ | refine Gr.set_ ?_ (by first | (simp; done) | assumption | omega | (simp; omega)) _)), hide fun _ => (by first | exact HFIN.out | exact RowI.drew HFIN.out)⟩
            case measure => simp [intOf]; omega
      · have HZ : Hid (n1 = zs.length) := hide (by have := HP.out.length_eq; have := HN1.out; omega)
        have HRz : Hid (Reads wr wr.heap.size 1 A1 n1 (zs.map (Value.int .i64))) := hide (by
          by_cases h0 : 0 < n1
          · obtain ⟨rfl, _, _⟩ := hg h0
            have := (HR.out h0).reads
            rw [← HZ.out] at this
            exact this
          · have h1 : n1 = 0 := by omega
            have h2 : zs = [] := List.eq_nil_of_length_eq_zero (by have := HZ.out; omega)
            subst h1 h2
            exact Reads.none_)
        have hbr' : (n1 : Int) ≤ q + 1 := by omega
        go_wp2_with fail
        refine (fold_Right _ _).mono ?_
        rintro e w7 ⟨rfl, rfl⟩
        go_wp2_with fail
        refine (fold_All _ _ _ _ xs1 _ _ HN1 (hr1.below_le hb (Nat.le_refl _)) hb.size (by omega)).mono ?_
        rintro e w2 ⟨x1, HX2, rfl, hb2⟩
        go_wp2_with fail
        refine (fold_All _ _ _ _ zs _ _ HZ (HRz.out.below_le hb2 (Nat.le_refl _)) hb2.size (by omega)).mono ?_
        rintro e w3 ⟨x2, HX3, rfl, hb3⟩
        have ex : x2 = x1 := by rw [HX3.out, HX2.out]; exact allL_perm k HP.out (by have := HZ.out; omega)
        subst ex
        go_wp2
        go_ret
        exact ⟨rfl, Gr.call (Gr.call hb hb2) hb3⟩
    · have HZ : Hid (n1 = zs.length) := hide (by have := HP.out.length_eq; have := HN1.out; omega)
      have HRz : Hid (Reads wr wr.heap.size 1 A1 n1 (zs.map (Value.int .i64))) := hide (by
        by_cases h0 : 0 < n1
        · obtain ⟨rfl, _, _⟩ := hg h0
          have := (HR.out h0).reads
          rw [← HZ.out] at this
          exact this
        · have h1 : n1 = 0 := by omega
          have h2 : zs = [] := List.eq_nil_of_length_eq_zero (by have := HZ.out; omega)
          subst h1 h2
          exact Reads.none_)
      go_wp2_with fail
      refine (fold_Right _ _).mono ?_
      rintro e w7 ⟨rfl, rfl⟩
      go_wp2_with fail
      refine (fold_All _ _ _ _ xs1 _ _ HN1 (hr1.below_le hb (Nat.le_refl _)) hb.size (by omega)).mono ?_
      rintro e w2 ⟨x1, HX2, rfl, hb2⟩
      go_wp2_with fail
      refine (fold_All _ _ _ _ zs _ _ HZ (HRz.out.below_le hb2 (Nat.le_refl _)) hb2.size (by omega)).mono ?_
      rintro e w3 ⟨x2, HX3, rfl, hb3⟩
      have ex : x2 = x1 := by rw [HX3.out, HX2.out]; exact allL_perm k HP.out (by have := HZ.out; omega)
      subst ex
      go_wp2
      go_ret
      exact ⟨rfl, Gr.call (Gr.call hb hb2) hb3⟩

theorem open_intsI_arg {H : Type} {enc : TypeId × Value → H} {w : World} {b0 : Nat} {v : Value} {d : DataW H} {ps : List MemPlace} (hv : Value.okWide Try.prog w .any b0 34 v) (h : DataW.Trod enc Try.prog w 0 (fun _ => true) true 34 v d ps) :
    ∃ (A : Option Addr) (n c : Nat) (xs : List Int), v = .slice A n c ∧ n ≤ c ∧ c ≤ 9223372036854775807 ∧ Hid (n = xs.length) ∧ Reads w w.heap.size 1 A n (xs.map (Value.int .i64)) ∧ ∀ x ∈ xs, I64 x := by
  obtain ⟨A, n, c, xs, h1, h2, h3, h4, h5, h6⟩ := open_rows_arg (fun x : Int => [Value.int .i64 x]) (fun x => I64 x) Try.underlying34 (by kernel_rfl : Try.prog.cellsOf 3 = 1) (by omega) (el_i64 Try.underlying3) hv h
  exact ⟨A, n, c, xs, h1, h2, h3, hide h4, by rw [List.map_eq_flatMap]; exact h5, h6⟩

theorem foldTurns_contract (H : Type) (enc : TypeId × Value → H) (W : World) (base : Nat) (args : Array Value) (ds gs : List (DataW H)) (before : List MemPlace)
    (hval0 : ∀ (j : Nat) t v, Try.f6.params[j]? = some t → args[j]? = some v → Value.okWide Try.prog W .any base t v)
    (hW : DataW.Whole enc Try.prog Try.f6.params.toList Rows.foldTurnsSpec.vars false W args.toList ds gs before) :
    Calls Try.prog 6 args W fun e W' => ∃ v, e = .returned v ∧ Rows.foldTurnsSpec.post enc Try.prog Try.f6 false true false false W args v W' := by
  have hval := hval0
  have hW' := hW
  obtain ⟨p, q, hA0, hV, rfl, hfz, hnd⟩ := hW
  have hA : DataW.TrodAll enc Try.prog W 0 (fun _ => true) true Try.f6.params.toList args.toList ds p := hA0
  rw [Try.params6] at hA hval
  obtain ⟨v0, vs0, d0, ds0, p0, q0, hargs, rfl, rfl, h0, r0⟩ := trodAll_cons hA
  obtain ⟨v1, vs1, d1, ds1, p1, q1, rfl, rfl, rfl, h1, r1⟩ := trodAll_cons r0
  obtain ⟨v2, vs2, d2, ds2, p2, q2, rfl, rfl, rfl, h2, r2⟩ := trodAll_cons r1
  obtain ⟨rfl, rfl, rfl⟩ := trodAll_nil r2
  obtain rfl : args = #[v0, v1, v2] := by cases args; simp_all
  obtain ⟨rfl, rfl⟩ := trodVars_none hV
  clear hA0 hval0
  obtain ⟨k, rfl, rfl, rfl, wk⟩ := open_int Try.underlying3 (hval 0 3 v0 rfl rfl) h0
  obtain ⟨A, n, c, xs, rfl, hn, hc, HN, hr, hI⟩ := open_ints_arg (hval 1 28 v1 rfl rfl) h1
  obtain ⟨A', n', c', ys, rfl, hn', hc', HN', hr', hI'⟩ := open_intsI_arg (hval 2 34 v2 rfl rfl) h2
  refine (FoldTurns_walk k A n c xs A' n' c' ys W HN hr hn hc HN' hr' hn' hc' hI').mono fun e W' ⟨he, hb⟩ => ?_
  subst he
  exact ⟨_, rfl, post_law @A_laidOut (rd_of (by kernel_rfl : (Try.f6.params.toList.all fun t => Try.prog.readableRec t && decide (t < Try.prog.types.size)) = true)) rfl rfl Try.underlying4 hW' rfl hb⟩

theorem foldTurns_own : ownKnob Try.prog.godebug = none := by kernel_rfl
set_option maxRecDepth 100000 in
theorem foldTurns_lifted (os : Os) (started : os.Started) (H : Type) (enc : TypeId × Value → H) :
    ReturnsInHanded {} Try.checked os 6 .any (Rows.foldTurnsSpec.pre6 enc Try.prog Try.f6 Rows.foldTurnsRow.domain false) (Rows.foldTurnsSpec.post enc Try.prog Try.f6 false true false false) := by
  refine returnsInHanded_of_change (C := Try.checked) foldTurns_own started (by kernel_rfl) Try.func6
    (ChangeSpec.witness6 (enc := enc) (C := Try.checked) false ⟨#[], #[.int .i64 0, .slice none 0 0, .slice none 0 0], []⟩ 8 (by kernel_rfl) (by kernel_rfl) (by kernel_rfl) (by kernel_rfl)) ?_
  intro W base args ds gs before hval hW _ _
  exact foldTurns_contract H enc W base args ds gs before hval hW
theorem foldTurns_proved : Rows.FoldTurnsSaid :=
  OpenClaim.holds_of_wide 6 Try.f6 rfl rfl rfl rfl rfl rfl rfl ⟨rfl, rfl, rfl, rfl, rfl⟩ rfl rfl rfl rfl rfl (by kernel_rfl) Try.func6 (by kernel_rfl)
    (of_decide_eq_true (by kernel_rfl)) (by unfold Func.isWrapper; first | (rw [if_pos (by decide +kernel)]; kernel_rfl) | (rw [if_neg (by decide +kernel)]; exact ⟨rfl, rfl⟩))
    (fun os started H enc _ => foldTurns_lifted os started H enc)
end Go.Proofs.Ytnjhgconfbkjmab
