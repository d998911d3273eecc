/-
  'clepsydralaw08.TimerApart' returns true for every input.
-/
import Derived.Test.YteooamoagkcgnaaRdT
import Derived.Test.YteooamoagkcgnaaTmAp
namespace Go.Proofs.Yteooamoagkcgnaa
open Go.RowKit Go.WideShapes Go.ChangeShapes Go.ChangeAt
set_option linter.unusedSimpArgs false
set_option linter.unusedVariables false
set_option maxRecDepth 100000
theorem timerApart_contract (H : Type) (enc : TypeId × Value → H) (W : World) (base : Nat) (args : Array Value) (ds gs : List (DataW H)) (before : List MemPlace)
    (hval0 : ∀ (j : Nat) t v, Try.f8.params[j]? = some t → args[j]? = some v → Value.okWide Try.prog W .any base t v)
    (hW : DataW.Whole enc Try.prog Try.f8.params.toList Rows.timerApartSpec.vars false W args.toList ds gs before) :
    Calls Try.prog 8 args W fun e W' => ∃ v, e = .returned v ∧ Rows.timerApartSpec.post enc Try.prog Try.f8 false true false false W args v W' := by
  have hval := hval0
  have hW' := hW
  obtain ⟨p, q, hA0, hV, rfl, hfz, hnd⟩ := hW
  have hA : DataW.TrodAll enc Try.prog W 0 (fun _ => true) true Try.f8.params.toList args.toList ds p := hA0
  rw [Try.params8] at hA hval
  obtain ⟨v0, vs0, d0, ds0, p0, q0, hargs, rfl, rfl, h0, r0⟩ := trodAll_cons hA
  obtain ⟨v1, vs1, d1, ds1, p1, q1, rfl, rfl, rfl, h1, r1⟩ := trodAll_cons r0
  obtain ⟨rfl, rfl, rfl⟩ := trodAll_nil r1
  obtain rfl : args = #[v0, v1] := by cases args; simp_all
  obtain ⟨rfl, rfl⟩ := trodVars_none hV
  clear hA0 hval0
  obtain ⟨cs0, rfl, f0, x0, g0⟩ := open_struct_arg Try.underlying27 (hval 0 27 v0 rfl rfl) h0
  obtain ⟨a0, k0, rfl, _⟩ := rd_Tm g0
  obtain ⟨cs1, rfl, f1, x1, g1⟩ := open_struct_arg Try.underlying27 (hval 1 27 v1 rfl rfl) h1
  obtain ⟨a1, k1, rfl, _⟩ := rd_Tm g1
  refine ((p_apart ⟨a0, k0⟩ ⟨a1, k1⟩).law (vs := [_, _]) ⟨_, _, rfl, ⟨_, rfl, repC_con (cs := [.int .i64 a0, .string k0]) rfl⟩, _, _, rfl, ⟨_, rfl, repC_con (cs := [.int .i64 a1, .string k1]) rfl⟩, rfl⟩).mono fun e W' ⟨he, hb⟩ => ?_
  subst he
  exact ⟨_, rfl, post_law @A_laidOut (rd_of (by kernel_rfl : (Try.f8.params.toList.all fun t => Try.prog.readableRec t && decide (t < Try.prog.types.size)) = true)) rfl rfl Try.underlying4 hW' rfl hb⟩

theorem timerApart_own : ownKnob Try.prog.godebug = none := by kernel_rfl
set_option maxRecDepth 100000 in
theorem timerApart_lifted (os : Os) (started : os.Started) (H : Type) (enc : TypeId × Value → H) :
    ReturnsInHanded {} Try.checked os 8 .any (Rows.timerApartSpec.pre6 enc Try.prog Try.f8 Rows.timerApartRow.domain false) (Rows.timerApartSpec.post enc Try.prog Try.f8 false true false false) := by
  refine returnsInHanded_of_change (C := Try.checked) timerApart_own started (by kernel_rfl) Try.func8
    (ChangeSpec.witness6 (enc := enc) (C := Try.checked) false ⟨#[], #[.agg #[.int .i64 0, .string ByteArray.empty], .agg #[.int .i64 0, .string ByteArray.empty]], []⟩ 8 (by kernel_rfl) (by kernel_rfl) (by kernel_rfl) (by kernel_rfl)) ?_
  intro W base args ds gs before hval hW _ _
  exact timerApart_contract H enc W base args ds gs before hval hW
theorem timerApart_proved : Rows.TimerApartSaid :=
  OpenClaim.holds_of_wide 8 Try.f8 rfl rfl rfl rfl rfl rfl rfl ⟨rfl, rfl, rfl, rfl, rfl⟩ rfl rfl rfl rfl rfl (by kernel_rfl) Try.func8 (by kernel_rfl)
    (of_decide_eq_true (by kernel_rfl)) (by unfold Func.isWrapper; first | (rw [if_pos (by decide +kernel)]; kernel_rfl) | (rw [if_neg (by decide +kernel)]; exact ⟨rfl, rfl⟩))
    (fun os started H enc _ => timerApart_lifted os started H enc)
end Go.Proofs.Yteooamoagkcgnaa
