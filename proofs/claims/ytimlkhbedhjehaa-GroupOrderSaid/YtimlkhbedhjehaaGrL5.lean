/-
  'clepsydralaw09.GroupOrder' returns true for every input.
-/
import Derived.Test.YtimlkhbedhjehaaIo
import Derived.Test.YtimlkhbedhjehaaGrJ
namespace Go.Proofs.Ytimlkhbedhjehaa
open Go.RowKit Go.WideShapes Go.ChangeShapes Go.ChangeAt
set_option linter.unusedSimpArgs false
set_option linter.unusedVariables false
set_option maxRecDepth 100000
theorem el_Et {H : Type} {enc : TypeId × Value → H} {w : World} (m : Nat) (cs : List Value) (y : DataW H × List MemPlace) (hl : cs.length = 3) (ht : DataW.trod enc Try.prog w 0 (fun _ => true) true m 79 cs = some y) : ∃ x : Et, cs = x.cells ∧ True := by
  obtain ⟨key, a, v, rfl, _⟩ := rd_Ev ht
  exact ⟨⟨key, a, v⟩, rfl, trivial⟩
theorem open_ets_arg {H : Type} {enc : TypeId × Value → H} {w : World} {b0 : Nat} {v : Value} {d : DataW H} {ps : List MemPlace} (hv : Value.okWide Try.prog w .any b0 86 v) (h : DataW.Trod enc Try.prog w 0 (fun _ => true) true 86 v d ps) :
    ∃ xs : List Et, xs.length ≤ 9223372036854775807 ∧ rep [] (fun _ => undef) w (fun _ => False) (.sl 3 (xs.map Et.av)) v := by
  obtain ⟨A, n, c, xs, rfl, h2, h3, h4, h5, h6⟩ := open_rows_arg Et.cells (fun _ => True) Try.underlying86 (by kernel_rfl : Try.prog.cellsOf 79 = 3) (by omega) el_Et hv h
  exact ⟨xs, by omega, rep_sl Et.cells Et.av h5 h4 h2 h3 (fun _ => rfl) (fun x _ => repC_con (cs := Et.cells x) rfl)⟩
theorem groupOrder_contract (H : Type) (enc : TypeId × Value → H) (W : World) (base : Nat) (args : Array Value) (ds gs : List (DataW H)) (before : List MemPlace)
    (hval0 : ∀ (j : Nat) t v, Try.f16.params[j]? = some t → args[j]? = some v → Value.okWide Try.prog W .any base t v)
    (hW : DataW.Whole enc Try.prog Try.f16.params.toList Rows.groupOrderSpec.vars false W args.toList ds gs before) :
    Calls Try.prog 16 args W fun e W' => ∃ v, e = .returned v ∧ Rows.groupOrderSpec.post enc Try.prog Try.f16 false true false false W args v W' := by
  have hval := hval0
  have hW' := hW
  obtain ⟨p, q, hA0, hV, rfl, hfz, hnd⟩ := hW
  have hA : DataW.TrodAll enc Try.prog W 0 (fun _ => true) true Try.f16.params.toList args.toList ds p := hA0
  rw [Try.params16] at hA hval
  obtain ⟨v0, vs0, d0, ds0, p0, q0, hargs, rfl, rfl, h0, r0⟩ := trodAll_cons hA
  obtain ⟨v1, vs1, d1, ds1, p1, q1, rfl, rfl, rfl, h1, r1⟩ := trodAll_cons r0
  obtain ⟨v2, vs2, d2, ds2, p2, q2, rfl, rfl, rfl, h2, r2⟩ := trodAll_cons r1
  obtain ⟨v3, vs3, d3, ds3, p3, q3, rfl, rfl, rfl, h3, r3⟩ := trodAll_cons r2
  obtain ⟨v4, vs4, d4, ds4, p4, q4, rfl, rfl, rfl, h4, r4⟩ := trodAll_cons r3
  obtain ⟨rfl, rfl, rfl⟩ := trodAll_nil r4
  obtain rfl : args = #[v0, v1, v2, v3, v4] := by cases args; simp_all
  obtain ⟨rfl, rfl⟩ := trodVars_none hV
  clear hA0 hval0
  obtain ⟨cs0, rfl, _, _, g0⟩ := open_struct_arg Try.underlying23 (hval 0 23 v0 rfl rfl) h0
  obtain ⟨g, s, d, k, fu, li, de, id, rfl, _⟩ := rd_Job g0
  obtain ⟨cs1, rfl, _, _, g1⟩ := open_struct_arg Try.underlying26 (hval 1 26 v1 rfl rfl) h1
  obtain ⟨no, mark, vp, ps, rfl, h1c, hps⟩ := rd_Group g1
  obtain ⟨es, hes⟩ := open_ets_arg (hval 2 86 v2 rfl rfl) h2
  obtain ⟨sw, hsw⟩ := open_intsI_arg (hval 3 58 v3 rfl rfl) h3
  obtain ⟨m, rfl, rfl, rfl, _⟩ := open_int Try.underlying2 (hval 4 2 v4 rfl rfl) h4
  refine ((g_order g s d k fu li de id no mark m ps es sw hps.1 hes.1 hsw.1).law (vs := [_, _, _, _, _]) ⟨_, _, rfl, rep_Job, _, _, rfl, rep_Group h1c hps, _, _, rfl, hes.2, _, _, rfl, hsw.2, _, _, rfl, rep_int, rfl⟩).mono fun e W' ⟨he, hb⟩ => ?_
  subst he
  exact ⟨_, rfl, post_law @A_laidOut (rd_of (by kernel_rfl : (Try.f16.params.toList.all fun t => Try.prog.readableRec t && decide (t < Try.prog.types.size)) = true)) rfl rfl Try.underlying4 hW' rfl hb⟩

theorem groupOrder_closed : joinedFacts Try.prog 16 Try.f16 Rows.groupOrderSpec Rows.groupOrderRow = true := by
  delta joinedFacts
  rw [io_enter, io_lifts, io_make]
  kernel_rfl
theorem groupOrder_own : ownKnob Try.prog.godebug = none := by kernel_rfl
set_option maxRecDepth 100000 in
theorem groupOrder_lifted (os : Os) (started : os.Started) (H : Type) (enc : TypeId × Value → H) :
    ReturnsInHanded {} Try.checked os 16 .any (Rows.groupOrderSpec.pre6 enc Try.prog Try.f16 Rows.groupOrderRow.domain false) (Rows.groupOrderSpec.post enc Try.prog Try.f16 false true false false) := by
  refine returnsInHanded_of_change (C := Try.checked) groupOrder_own started (by kernel_rfl) Try.func16
    (ChangeSpec.witness6 (enc := enc) (C := Try.checked) false ⟨#[], #[.agg #[.int .i64 0, .int .i64 0, .int .i64 0, .int .i64 0, .int .i64 0, .int .i64 0, .int .i64 0, .int .i64 0], .agg #[.int .i64 0, .int .i64 0, .slice none 0 0], .slice none 0 0, .slice none 0 0, .int .i64 0], []⟩ 8 (by kernel_rfl) (by kernel_rfl) (by kernel_rfl) (by kernel_rfl)) ?_
  intro W base args ds gs before hval hW _ _
  exact groupOrder_contract H enc W base args ds gs before hval hW
theorem groupOrder_proved : Rows.GroupOrderSaid :=
  OpenClaim.holds_of_wide 16 Try.f16 rfl rfl rfl rfl rfl rfl rfl ⟨rfl, rfl, rfl, rfl, rfl⟩ rfl rfl rfl rfl rfl (by kernel_rfl) Try.func16 groupOrder_closed
    (of_decide_eq_true (by kernel_rfl)) (by unfold Func.isWrapper; first | (rw [if_pos (by decide +kernel)]; kernel_rfl) | (rw [if_neg (by decide +kernel)]; exact ⟨rfl, rfl⟩))
    (fun os started H enc _ => groupOrder_lifted os started H enc)
end Go.Proofs.Ytimlkhbedhjehaa
