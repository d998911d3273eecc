/-
  'clepsydralaw22.WorkerRuns' returns true for every input.
-/
import Derived.Test.YtagfjnjpgphnjaaGreatRdX
import Derived.Test.YtagfjnjpgphnjaaGreatWrL
namespace Go.Proofs.YtagfjnjpgphnjaaGreat
open Go.RowKit Go.WideShapes Go.ChangeShapes Go.ChangeAt
set_option linter.unusedSimpArgs false
set_option linter.unusedVariables false
set_option maxRecDepth 100000
theorem workerRuns_contract (H : Type) (enc : TypeId × Value → H) (W : World) (base : Nat) (args : Array Value) (ds gs : List (DataW H)) (before : List MemPlace)
    (hval0 : ∀ (j : Nat) t v, Tryz.f5.params[j]? = some t → args[j]? = some v → Value.okWide Tryz.prog W .any base t v)
    (hW : DataW.Whole enc Tryz.prog Tryz.f5.params.toList Rows.workerRunsSpec.vars false W args.toList ds gs before) :
    Calls Tryz.prog 5 args W fun e W' => ∃ v, e = .returned v ∧ Rows.workerRunsSpec.post enc Tryz.prog Tryz.f5 false true false false W args v W' := by
  have hval := hval0
  have hW' := hW
  obtain ⟨p, q, hA0, hV, rfl, hfz, hnd⟩ := hW
  have hA : DataW.TrodAll enc Tryz.prog W 0 (fun _ => true) true Tryz.f5.params.toList args.toList ds p := hA0
  rw [Tryz.params5] at hA hval
  obtain ⟨v0, vs0, d0, ds0, p0, q0, hargs, rfl, rfl, h0, r0⟩ := trodAll_cons hA
  obtain ⟨v1, vs1, d1, ds1, p1, q1, rfl, rfl, rfl, h1, r1⟩ := trodAll_cons r0
  obtain ⟨v2, vs2, d2, ds2, p2, q2, rfl, rfl, rfl, h2, r2⟩ := trodAll_cons r1
  obtain ⟨v3, vs3, d3, ds3, p3, q3, rfl, rfl, rfl, h3, r3⟩ := trodAll_cons r2
  obtain ⟨rfl, rfl, rfl⟩ := trodAll_nil r3
  obtain rfl : args = #[v0, v1, v2, v3] := by cases args; simp_all
  obtain ⟨rfl, rfl⟩ := trodVars_none hV
  clear hA0 hval0
  obtain ⟨cs0, rfl, _, _, g0⟩ := open_struct_arg Tryz.underlying23 (hval 0 23 v0 rfl rfl) h0
  obtain ⟨g, s, d, k, fu, li, de, id, rfl, hj⟩ := rd_Job g0
  obtain ⟨w, hw, hwv, hwr⟩ := open_wk_arg2 (hval 1 42 v1 rfl rfl) h1
  obtain ⟨n, rfl, rfl, rfl, _⟩ := open_int Tryz.underlying3 (hval 2 3 v2 rfl rfl) h2
  obtain ⟨cs3, rfl, _, _, g3⟩ := open_struct_arg Tryz.underlying63 (hval 3 63 v3 rfl rfl) h3
  obtain ⟨kind, key, a, v, mark, nn, lo, hi, rk, rn, rv, rfl, hf⟩ := rd_It g3
  have hit : rep [] (fun _ => undef) W (fun _ => False) (.agg (It.av ⟨kind, key, a, v, mark, nn, lo, hi, rk, rn, rv⟩)) (.agg [.int .i64 kind, .string key, .int .i64 a, .int .i64 v, .int .i64 mark, .int .i64 nn, .int .i64 lo, .int .i64 hi, .string rk, .int .i64 rn, .int .i64 rv].toArray) := by
    simp only [rep]
    exact ⟨_, rfl, repC_con (cs := It.vals ⟨kind, key, a, v, mark, nn, lo, hi, rk, rn, rv⟩) rfl⟩
  refine ((w_runs ⟨g, s, d, k, fu, li, de, id⟩ w n ⟨kind, key, a, v, mark, nn, lo, hi, rk, rn, rv⟩ hw hwv hf.2.2.2.1 hj.1).law (vs := [_, _, _, _]) ⟨_, _, rfl, rep_Job, _, _, rfl, hwr, _, _, rfl, rep_int, _, _, rfl, hit, rfl⟩).mono fun e W' ⟨he, hb⟩ => ?_
  subst he
  exact ⟨_, rfl, post_law @A_laidOut (rd_of (by kernel_rfl : (Tryz.f5.params.toList.all fun t => Tryz.prog.readableRec t && decide (t < Tryz.prog.types.size)) = true)) rfl rfl Tryz.underlying4 hW' rfl hb⟩

theorem workerRuns_own : ownKnob Tryz.prog.godebug = none := by kernel_rfl
set_option maxRecDepth 100000 in
theorem workerRuns_lifted (os : Os) (started : os.Started) (H : Type) (enc : TypeId × Value → H) :
    ReturnsInHanded {} Tryz.checked os 5 .any (Rows.workerRunsSpec.pre6 enc Tryz.prog Tryz.f5 Rows.workerRunsRow.domain false) (Rows.workerRunsSpec.post enc Tryz.prog Tryz.f5 false true false false) := by
  refine returnsInHanded_of_change (C := Tryz.checked) workerRuns_own started (by kernel_rfl) Tryz.func5
    (ChangeSpec.witness6 (enc := enc) (C := Tryz.checked) false ⟨#[], #[.agg #[.int .i64 0, .int .i64 0, .int .i64 0, .int .i64 0, .int .i64 0, .int .i64 0, .int .i64 0, .int .i64 0], .agg #[.slice none 0 0, .slice none 0 0, .slice none 0 0, .int .i64 0, .int .i64 0, .slice none 0 0, .slice none 0 0, .int .i64 0], .int .i64 0, .agg #[.int .i64 0, .string ⟨#[]⟩, .int .i64 0, .int .i64 0, .int .i64 0, .int .i64 0, .int .i64 0, .int .i64 0, .string ⟨#[]⟩, .int .i64 0, .int .i64 0]], []⟩ 8 (by kernel_rfl) (by kernel_rfl) (by kernel_rfl) (by kernel_rfl)) ?_
  intro W base args ds gs before hval hW _ _
  exact workerRuns_contract H enc W base args ds gs before hval hW
theorem workerRuns_proved : Rows.WorkerRunsSaid :=
  OpenClaim.holds_of_wide 5 Tryz.f5 rfl rfl rfl rfl rfl rfl rfl ⟨rfl, rfl, rfl, rfl, rfl⟩ rfl rfl rfl rfl rfl (by kernel_rfl) Tryz.func5 (by kernel_rfl)
    (of_decide_eq_true (by kernel_rfl)) (by unfold Func.isWrapper; first | (rw [if_pos (by decide +kernel)]; kernel_rfl) | (rw [if_neg (by decide +kernel)]; exact ⟨rfl, rfl⟩))
    (fun os started H enc _ => workerRuns_lifted os started H enc)
end Go.Proofs.YtagfjnjpgphnjaaGreat
