/-
  'clepsydralaw06.FoldParts' returns true for every input.
-/
import Derived.Test.YtnjhgconfbkjmabFoldO
import Derived.Test.YtnjhgconfbkjmabApp
namespace Go.Proofs.Ytnjhgconfbkjmab
open Go.RowKit Go.WideShapes Go.ChangeShapes Go.ChangeAt
set_option linter.unusedSimpArgs false
set_option linter.unusedVariables false
attribute [local go_sem ↓] Go.wp_at_zero Go.wp_at_succ

theorem info_i64 : (Try.prog.info? 2).map (fun i => (i.zero, i.size, i.bytes)) = some (some (.int .i64 0), 1, 8) := by kernel_rfl

set_option maxHeartbeats 1000000 in
theorem FoldParts_walk (k : Int) (A : Option Addr) (n c : Nat) (xs : List Int) (A' : Option Addr) (n' c' : Nat) (ys : List Int) (w : World) (HN : Hid (n = xs.length)) (hr : Reads w w.heap.size 1 A n (xs.map (Value.int .i64))) (hn : n ≤ c) (hc : c ≤ 9223372036854775807) (HN' : Hid (n' = ys.length)) (hr' : Reads w w.heap.size 1 A' n' (ys.map (Value.int .i64))) (hn' : n' ≤ c') (hc' : c' ≤ 9223372036854775807) :
    Calls Try.prog 4 #[.int .i64 k, .slice A n c, .slice A' n' c'] w fun e w' => e = .returned (.bool true) ∧ Below w.heap.size w w' := by
  have hb : Below w.heap.size w w := Below.refl _ _
  go_enter Try.func4, Try.ntmps4
  go_wp2_with fail
  refine (law06_short _ _ _ xs w.heap.size _ HN hr hn hc).mono ?_
  rintro e w0 ⟨n1, xs1, HN1, HX1, hn1, rfl, hr1, hc1, rfl⟩
  go_wp2_with fail
  refine (law06_short _ _ _ ys w.heap.size _ HN' hr' hn' hc').mono ?_
  rintro e w0 ⟨n2, xs2, HN2, HX2, hn2, rfl, hr2, hc2, rfl⟩
  go_wp2_with (first
    | (at_builtin; refine app_any (.tmp 15) (.tmp 16) rfl rfl Try.underlying28 info_i64 rfl (by omega) (by rfl) (own_new (Blk.new _ _ _) (Nat.le_refl _) : World.ownsRow _ w.heap.size _ _ _ _ _) (by rfl) (hr1.alloc (Nat.le_refl _) _) (one_ints _) n1 (xs1.map (Value.int .i64)) (Nat.zero_add _) (List.nil_append _) (by omega) (by omega) (by simp) ?_; intro A1 c1 w1 ho1 hg1 h1 h2; have hb := grow_own (a := w) (by repeat (first | assumption | exact Below.refl _ _ | refine Gr.drew ?_ | refine Gr.drewN ?_ _ | refine Gr.alloc ?_ _ | refine Gr.set_ ?_ (by first | simp | (simp; omega) | omega) _)) hg1 (own_new (base := w.heap.size) (size := 1) (Blk.new _ _ _) (Nat.le_refl _)) (Nat.le_refl _))
    | (at_builtin; refine app_any (.tmp 17) (.tmp 18) rfl rfl Try.underlying28 info_i64 rfl (by omega) (by rfl) ho1 (by rfl) (hr2.below_le hb (Nat.le_refl _)) (one_ints _) (n1 + n2) ((xs1 ++ xs2).map (Value.int .i64)) rfl List.map_append.symm (by omega) (by omega) hb.size ?_; intro A2 c2 w2 ho2 hg2 h3 h4; have hb := grow_own (a := w) hb hg2 ho1 (Nat.le_refl _); have R12 := Reads.of_own ho2)
    | (at_builtin; refine app_any (.tmp 20) (.tmp 21) rfl rfl Try.underlying28 info_i64 rfl (by omega) (by rfl) (own_new (Blk.new _ _ _) (Nat.le_refl _) : World.ownsRow _ w2.heap.size _ _ _ _ _) (by rfl) ((hr2.below_le hb (Nat.le_refl _)).alloc hb.size _) (one_ints _) n2 (xs2.map (Value.int .i64)) (Nat.zero_add _) (List.nil_append _) (by omega) (by omega) (by simp) ?_; intro A3 c3 w3 ho3 hg3 h5 h6; have hb2 := grow_own (a := w2) (w := w2.alloc _) (by repeat (first | assumption | exact Below.refl _ _ | refine Gr.drew ?_ | refine Gr.drewN ?_ _ | refine Gr.alloc ?_ _ | refine Gr.set_ ?_ (by first | simp | (simp; omega) | omega) _)) hg3 (own_new (base := w2.heap.size) (size := 1) (Blk.new _ _ _) (Nat.le_refl _)) (Nat.le_refl _))
    | (at_builtin; refine app_any (.tmp 22) (.tmp 23) rfl rfl Try.underlying28 info_i64 rfl (by omega) (by rfl) ho3 (by rfl) (hr1.below_le (Gr.call hb hb2) (Nat.le_refl _)) (one_ints _) (n2 + n1) ((xs2 ++ xs1).map (Value.int .i64)) rfl List.map_append.symm (by omega) (by omega) hb2.size ?_; intro A4 c4 w4 ho4 hg4 h7 h8; have hb2 := grow_own (a := w2) hb2 hg4 ho3 (Nat.le_refl _); have R21 := Reads.of_own ho4))
  have hw4 : Below w.heap.size w w4 := Gr.call hb hb2
  have r1 := (hr1.below_le hw4 (Nat.le_refl _)).more hw4.size
  have r2 := (hr2.below_le hw4 (Nat.le_refl _)).more hw4.size
  have r3 := (R12.below_le hb2 (Nat.le_refl _)).more hb2.size
  have l1 := HN1.out
  have l2 := HN2.out
  have L3 := hide (show n1 + n2 = (xs1 ++ xs2).length by simp; omega)
  have L4 := hide (show n2 + n1 = (xs2 ++ xs1).length by simp; omega)
  have e12 := hide (allL_append k xs1 xs2 (by omega))
  have e21 := hide (allL_append k xs2 xs1 (by omega))
  have ecm := hide (join_comm (k := k) (allL_good k xs1 (by omega)) (allL_good k xs2 (by omega)))
  clear l1 l2 hb hb2 ho1 ho2 ho3 ho4 hg1 hg2 hg3 hg4 R12
  refine (fold_All _ _ _ _ xs1 _ _ HN1 r1 (Nat.le_refl _) (by omega)).mono ?_
  rintro e w5 ⟨x1, HX3, rfl, hch⟩
  go_wp2_with fail
  refine (fold_All _ _ _ _ xs2 _ _ HN2 (r2.below_le hch (Nat.le_refl _)) hch.size (by omega)).mono ?_
  rintro e w6 ⟨x2, HX4, rfl, hb6⟩
  have hch := Gr.call hch hb6
  go_wp2_with fail
  refine calls_gen (fun W => Blk W w6.heap.size 23 #[.int .i64 x1.n, .int .i64 x1.a, .int .i64 x1.b] ∧ Blk W (w6.heap.size + 1) 23 #[.int .i64 x2.n, .int .i64 x2.a, .int .i64 x2.b] ∧ Below w4.heap.size w4 W) ⟨(Blk.new _ _ _).alloc _, Blk.new_at (by simp), by repeat (first | assumption | exact Below.refl _ _ | refine Gr.drew ?_ | refine Gr.drewN ?_ _ | refine Gr.alloc ?_ _ | refine Gr.set_ ?_ (by first | simp | (simp; omega) | omega) _)⟩ ?_
  clear hch hb6
  rintro W ⟨B9, B10, hch⟩
  have hw : Below W.heap.size W W := Below.refl _ _
  refine (fold_Right _ _).mono ?_
  rintro e w7 ⟨rfl, rfl⟩
  obtain ⟨c9, f9⟩ := B9.facts
  obtain ⟨c10, f10⟩ := B10.facts
  go_wp2_with fail
  refine (fold_Join _ _ _ _ _ _ _ _).mono ?_
  rintro e w7 ⟨y1, HY1, rfl, hb7⟩
  have hch := Gr.call hch hb7
  have hw := Gr.call hw hb7
  go_wp2_with fail
  refine (fold_All _ _ _ _ (xs1 ++ xs2) _ _ L3 (r3.below_le hch (Nat.le_refl _)) hch.size (by omega)).mono ?_
  rintro e w8 ⟨y2, HY2, rfl, hb8⟩
  have hch := Gr.call hch hb8
  have hw := Gr.call hw hb8
  have e1 : y1 = y2 := by rw [HY1.out, HY2.out, e12.out, HX3.out, HX4.out]
  subst e1
  obtain ⟨c9, f9⟩ := (B9.call hw).facts
  obtain ⟨c10, f10⟩ := (B10.call hw).facts
  go_wp2_with fail
  refine (fold_Join _ _ _ _ _ _ _ _).mono ?_
  rintro e w9 ⟨y3, HY3, rfl, hb9⟩
  have hch := Gr.call hch hb9
  go_wp2_with fail
  refine (fold_All _ _ _ _ (xs2 ++ xs1) _ _ L4 (R21.below_le hch (Nat.le_refl _)) hch.size (by omega)).mono ?_
  rintro e w10 ⟨y4, HY4, rfl, hb10⟩
  have hch := Gr.call hch hb10
  have e2 : y3 = y4 := by rw [HY3.out, HY4.out, e21.out, HX3.out, HX4.out]
  subst e2
  go_wp2_with fail
  refine (fold_All _ _ _ _ (xs1 ++ xs2) _ _ L3 (r3.below_le hch (Nat.le_refl _)) hch.size (by omega)).mono ?_
  rintro e w11 ⟨y5, HY5, rfl, hb11⟩
  have hch := Gr.call hch hb11
  go_wp2_with fail
  refine (fold_All _ _ _ _ (xs2 ++ xs1) _ _ L4 (R21.below_le hch (Nat.le_refl _)) hch.size (by omega)).mono ?_
  rintro e w12 ⟨y6, HY6, rfl, hb12⟩
  have hch := Gr.call hch hb12
  have e3 : y5 = y6 := by rw [HY5.out, HY6.out, e12.out, e21.out, ecm.out]
  subst e3
  go_wp2
  go_ret
  exact ⟨rfl, Gr.call hw4 hch⟩

theorem foldParts_contract (H : Type) (enc : TypeId × Value → H) (W : World) (base : Nat) (args : Array Value) (ds gs : List (DataW H)) (before : List MemPlace)
    (hval0 : ∀ (j : Nat) t v, Try.f4.params[j]? = some t → args[j]? = some v → Value.okWide Try.prog W .any base t v)
    (hW : DataW.Whole enc Try.prog Try.f4.params.toList Rows.foldPartsSpec.vars false W args.toList ds gs before) :
    Calls Try.prog 4 args W fun e W' => ∃ v, e = .returned v ∧ Rows.foldPartsSpec.post enc Try.prog Try.f4 false true false false W args v W' := by
  have hval := hval0
  have hW' := hW
  obtain ⟨p, q, hA0, hV, rfl, hfz, hnd⟩ := hW
  have hA : DataW.TrodAll enc Try.prog W 0 (fun _ => true) true Try.f4.params.toList args.toList ds p := hA0
  rw [Try.params4] at hA hval
  obtain ⟨v0, vs0, d0, ds0, p0, q0, hargs, rfl, rfl, h0, r0⟩ := trodAll_cons hA
  obtain ⟨v1, vs1, d1, ds1, p1, q1, rfl, rfl, rfl, h1, r1⟩ := trodAll_cons r0
  obtain ⟨v2, vs2, d2, ds2, p2, q2, rfl, rfl, rfl, h2, r2⟩ := trodAll_cons r1
  obtain ⟨rfl, rfl, rfl⟩ := trodAll_nil r2
  obtain rfl : args = #[v0, v1, v2] := by cases args; simp_all
  obtain ⟨rfl, rfl⟩ := trodVars_none hV
  clear hA0 hval0
  obtain ⟨k, rfl, rfl, rfl, wk⟩ := open_int Try.underlying3 (hval 0 3 v0 rfl rfl) h0
  obtain ⟨A, n, c, xs, rfl, hn, hc, HN, hr, hI⟩ := open_ints_arg (hval 1 28 v1 rfl rfl) h1
  obtain ⟨A', n', c', ys, rfl, hn', hc', HN', hr', hI'⟩ := open_ints_arg (hval 2 28 v2 rfl rfl) h2
  refine (FoldParts_walk k A n c xs A' n' c' ys W HN hr hn hc HN' hr' hn' hc').mono fun e W' ⟨he, hb⟩ => ?_
  subst he
  exact ⟨_, rfl, post_law @A_laidOut (rd_of (by kernel_rfl : (Try.f4.params.toList.all fun t => Try.prog.readableRec t && decide (t < Try.prog.types.size)) = true)) rfl rfl Try.underlying4 hW' rfl hb⟩

theorem foldParts_own : ownKnob Try.prog.godebug = none := by kernel_rfl
set_option maxRecDepth 100000 in
theorem foldParts_lifted (os : Os) (started : os.Started) (H : Type) (enc : TypeId × Value → H) :
    ReturnsInHanded {} Try.checked os 4 .any (Rows.foldPartsSpec.pre6 enc Try.prog Try.f4 Rows.foldPartsRow.domain false) (Rows.foldPartsSpec.post enc Try.prog Try.f4 false true false false) := by
  refine returnsInHanded_of_change (C := Try.checked) foldParts_own started (by kernel_rfl) Try.func4
    (ChangeSpec.witness6 (enc := enc) (C := Try.checked) false ⟨#[], #[.int .i64 0, .slice none 0 0, .slice none 0 0], []⟩ 8 (by kernel_rfl) (by kernel_rfl) (by kernel_rfl) (by kernel_rfl)) ?_
  intro W base args ds gs before hval hW _ _
  exact foldParts_contract H enc W base args ds gs before hval hW
theorem foldParts_proved : Rows.FoldPartsSaid :=
  OpenClaim.holds_of_wide 4 Try.f4 rfl rfl rfl rfl rfl rfl rfl ⟨rfl, rfl, rfl, rfl, rfl⟩ rfl rfl rfl rfl rfl (by kernel_rfl) Try.func4 (by kernel_rfl)
    (of_decide_eq_true (by kernel_rfl)) (by unfold Func.isWrapper; first | (rw [if_pos (by decide +kernel)]; kernel_rfl) | (rw [if_neg (by decide +kernel)]; exact ⟨rfl, rfl⟩))
    (fun os started H enc _ => foldParts_lifted os started H enc)
end Go.Proofs.Ytnjhgconfbkjmab
