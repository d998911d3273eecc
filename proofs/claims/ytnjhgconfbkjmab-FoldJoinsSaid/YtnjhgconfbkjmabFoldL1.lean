/-
  'clepsydralaw06.FoldJoins' returns true for every input.
-/
import Derived.Test.YtnjhgconfbkjmabFoldR2
import Derived.Test.YtnjhgconfbkjmabLaw
namespace Go.Proofs.Ytnjhgconfbkjmab
open Go.RowKit Go.WideShapes Go.ChangeShapes Go.ChangeAt
set_option linter.unusedSimpArgs false
set_option linter.unusedVariables false
attribute [local go_sem ↓] Go.wp_at_zero Go.wp_at_succ

set_option maxHeartbeats 1000000 in
theorem FoldJoins_walk (k n a b n' a' b' : Int) (w : World) :
    Calls Try.prog 3 #[.int .i64 k, .agg #[.int .i64 n, .int .i64 a, .int .i64 b], .agg #[.int .i64 n', .int .i64 a', .int .i64 b']] w fun e w' => e = .returned (.bool true) ∧ Below w.heap.size w w' := by
  go_enter Try.func3, Try.ntmps3
  go_wp2_with fail
  refine wp_gen (fun W => Blk W w.heap.size 23 #[.int .i64 n, .int .i64 a, .int .i64 b] ∧ Blk W (w.heap.size + 1) 23 #[.int .i64 n', .int .i64 a', .int .i64 b'] ∧ Below w.heap.size w W) ⟨(Blk.new _ _ _).alloc _, Blk.new_at (by simp), by repeat (first | assumption | exact Below.refl _ _ | refine Gr.drew ?_ | refine Gr.drewN ?_ _ | refine Gr.alloc ?_ _ | refine Gr.set_ ?_ (by first | simp | (simp; omega) | omega) _)⟩ ?_
  rintro W ⟨B0, B1, hb⟩
  have c0 := B0.cell
  have c1 := B1.cell
  go_region_held3 (fun w' => (∀ i, w'.cell? ⟨w.heap.size, i, none⟩ = (#[.int .i64 n, .int .i64 a, .int .i64 b] : Array Value)[i]?) ∧ (∀ i, w'.cell? ⟨w.heap.size + 1, i, none⟩ = (#[.int .i64 n', .int .i64 a', .int .i64 b'] : Array Value)[i]?)) (exact ⟨c0, c1⟩) (first
    | (go_at_call 9; refine (fold_Right _ _).mono ?_; rintro e w' ⟨rfl, rfl⟩)
    | (go_at_call 10; refine (fold_Join _ _ _ _ _ _ _ _).mono ?_; rintro e w1 ⟨x1, HX1, rfl, hb1⟩; have B0 := B0.on hb1 rfl rfl; have B1 := B1.on hb1 rfl rfl; have hb := Gr.on hb hb1 rfl rfl rfl rfl rfl; have c0 := B0.cell; have c1 := B1.cell)
    | (go_at_call 11; refine (ref06_Join _ _ _ _ _ _ _ _).mono ?_; rintro e w2 ⟨x2, HX2, rfl, hb2⟩; have B0 := B0.on hb2 rfl rfl; have B1 := B1.on hb2 rfl rfl; have hb := Gr.on hb hb2 rfl rfl rfl rfl rfl; have c0 := B0.cell; have c1 := B1.cell; obtain rfl : x2 = x1 := HX2.out.trans HX1.out.symm)
    | (go_at_call 12; refine (fold_Val _ _ _ _ _).mono ?_; rintro e w3 ⟨rfl, hb3⟩; have B0 := B0.on hb3 rfl rfl; have B1 := B1.on hb3 rfl rfl; have hb := Gr.on hb hb3 rfl rfl rfl rfl rfl; have c0 := B0.cell; have c1 := B1.cell)
    | (go_at_call 13; refine (ref06_Val _ _ _ _ _).mono ?_; rintro e w4 ⟨rfl, hb4⟩; have B0 := B0.on hb4 rfl rfl; have B1 := B1.on hb4 rfl rfl; have hb := Gr.on hb hb4 rfl rfl rfl rfl rfl; have c0 := B0.cell; have c1 := B1.cell))
  go_wp2
  go_ret
  exact ⟨rfl, hb⟩

theorem A_laidOut : laidOutB Try.prog = true := by kernel_rfl

theorem rd_Acc {H : Type} {enc : TypeId × Value → H} {w : World} {base : Nat} {spare : Nat → Bool} {held : Bool} {fuel : Nat} {cs : List Value} {x : DataW H × List MemPlace} (h : DataW.trod enc Try.prog w base spare held fuel 23 cs = some x) :
    ∃ n a b : Int, cs = [.int .i64 n, .int .i64 a, .int .i64 b] ∧ I64 n ∧ I64 a ∧ I64 b := by
  have hl := rd_len Try.underlying23 h
  obtain ⟨c0, c1, c2, rfl⟩ := len3 (hl.trans (by kernel_rfl))
  obtain ⟨n0, y0, g0⟩ := rd_field Try.underlying23 h 0 _ rfl
  obtain ⟨n1, y1, g1⟩ := rd_field Try.underlying23 h 1 _ rfl
  obtain ⟨n2, y2, g2⟩ := rd_field Try.underlying23 h 2 _ rfl
  obtain ⟨x0, e0, _, w0⟩ := DataW.trod_int Try.underlying2 g0
  obtain ⟨x1, e1, _, w1⟩ := DataW.trod_int Try.underlying2 g1
  obtain ⟨x2, e2, _, w2⟩ := DataW.trod_int Try.underlying2 g2
  have hc : Try.prog.cellsOf 2 = 1 := by kernel_rfl
  simp [hc] at e0 e1 e2
  subst e0 e1 e2
  exact ⟨x0, x1, x2, rfl, wf_i64 w0, wf_i64 w1, wf_i64 w2⟩

theorem foldJoins_contract (H : Type) (enc : TypeId × Value → H) (W : World) (base : Nat) (args : Array Value) (ds gs : List (DataW H)) (before : List MemPlace)
    (hval0 : ∀ (j : Nat) t v, Try.f3.params[j]? = some t → args[j]? = some v → Value.okWide Try.prog W .any base t v)
    (hW : DataW.Whole enc Try.prog Try.f3.params.toList Rows.foldJoinsSpec.vars false W args.toList ds gs before) :
    Calls Try.prog 3 args W fun e W' => ∃ v, e = .returned v ∧ Rows.foldJoinsSpec.post enc Try.prog Try.f3 false true false false W args v W' := by
  have hval := hval0
  have hW' := hW
  obtain ⟨p, q, hA0, hV, rfl, hfz, hnd⟩ := hW
  have hA : DataW.TrodAll enc Try.prog W 0 (fun _ => true) true Try.f3.params.toList args.toList ds p := hA0
  rw [Try.params3] at hA hval
  obtain ⟨v0, vs0, d0, ds0, p0, q0, hargs, rfl, rfl, h0, r0⟩ := trodAll_cons hA
  obtain ⟨v1, vs1, d1, ds1, p1, q1, rfl, rfl, rfl, h1, r1⟩ := trodAll_cons r0
  obtain ⟨v2, vs2, d2, ds2, p2, q2, rfl, rfl, rfl, h2, r2⟩ := trodAll_cons r1
  obtain ⟨rfl, rfl, rfl⟩ := trodAll_nil r2
  obtain rfl : args = #[v0, v1, v2] := by cases args; simp_all
  obtain ⟨rfl, rfl⟩ := trodVars_none hV
  clear hA0 hval0
  obtain ⟨k, rfl, rfl, rfl, wk⟩ := open_int Try.underlying3 (hval 0 3 v0 rfl rfl) h0
  obtain ⟨cs1, rfl, _, _, g1⟩ := open_struct_arg Try.underlying23 (hval 1 23 v1 rfl rfl) h1
  obtain ⟨n, a, b, rfl, _⟩ := rd_Acc g1
  obtain ⟨cs2, rfl, _, _, g2⟩ := open_struct_arg Try.underlying23 (hval 2 23 v2 rfl rfl) h2
  obtain ⟨n', a', b', rfl, _⟩ := rd_Acc g2
  refine (FoldJoins_walk k n a b n' a' b' W).mono fun e W' ⟨he, hb⟩ => ?_
  subst he
  exact ⟨_, rfl, post_law @A_laidOut (rd_of (by kernel_rfl : (Try.f3.params.toList.all fun t => Try.prog.readableRec t && decide (t < Try.prog.types.size)) = true)) rfl rfl Try.underlying4 hW' rfl hb⟩

theorem foldJoins_own : ownKnob Try.prog.godebug = none := by kernel_rfl
set_option maxRecDepth 100000 in
theorem foldJoins_lifted (os : Os) (started : os.Started) (H : Type) (enc : TypeId × Value → H) :
    ReturnsInHanded {} Try.checked os 3 .any (Rows.foldJoinsSpec.pre6 enc Try.prog Try.f3 Rows.foldJoinsRow.domain false) (Rows.foldJoinsSpec.post enc Try.prog Try.f3 false true false false) := by
  refine returnsInHanded_of_change (C := Try.checked) foldJoins_own started (by kernel_rfl) Try.func3
    (ChangeSpec.witness6 (enc := enc) (C := Try.checked) false ⟨#[], #[.int .i64 0, .agg #[.int .i64 0, .int .i64 0, .int .i64 0], .agg #[.int .i64 0, .int .i64 0, .int .i64 0]], []⟩ 8 (by kernel_rfl) (by kernel_rfl) (by kernel_rfl) (by kernel_rfl)) ?_
  intro W base args ds gs before hval hW _ _
  exact foldJoins_contract H enc W base args ds gs before hval hW
theorem foldJoins_proved : Rows.FoldJoinsSaid :=
  OpenClaim.holds_of_wide 3 Try.f3 rfl rfl rfl rfl rfl rfl rfl ⟨rfl, rfl, rfl, rfl, rfl⟩ rfl rfl rfl rfl rfl (by kernel_rfl) Try.func3 (by kernel_rfl)
    (of_decide_eq_true (by kernel_rfl)) (by unfold Func.isWrapper; first | (rw [if_pos (by decide +kernel)]; kernel_rfl) | (rw [if_neg (by decide +kernel)]; exact ⟨rfl, rfl⟩))
    (fun os started H enc _ => foldJoins_lifted os started H enc)
end Go.Proofs.Ytnjhgconfbkjmab
