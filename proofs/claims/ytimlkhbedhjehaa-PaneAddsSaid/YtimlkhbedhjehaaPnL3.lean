/-
  'clepsydralaw07.PaneAdds' returns true for every input.
-/
import Derived.Test.YtimlkhbedhjehaaRd
import Derived.Test.YtimlkhbedhjehaaIo
import Derived.Test.YtimlkhbedhjehaaPnT
namespace Go.Proofs.Ytimlkhbedhjehaa
open Go.RowKit Go.WideShapes Go.ChangeShapes Go.ChangeAt
set_option linter.unusedSimpArgs false
set_option linter.unusedVariables false
set_option maxRecDepth 100000
theorem rep_Win {w : World} {lo hi : Int} : rep [] (fun _ => undef) w (fun _ => False) (.agg [.v (.int .i64 lo), .v (.int .i64 hi)]) (.agg #[.int .i64 lo, .int .i64 hi]) := by
  simp only [rep]
  exact ⟨_, rfl, repC_con (cs := [.int .i64 lo, .int .i64 hi]) rfl⟩
theorem paneAdds_contract (H : Type) (enc : TypeId × Value → H) (W : World) (base : Nat) (args : Array Value) (ds gs : List (DataW H)) (before : List MemPlace)
    (hval0 : ∀ (j : Nat) t v, Try.f7.params[j]? = some t → args[j]? = some v → Value.okWide Try.prog W .any base t v)
    (hW : DataW.Whole enc Try.prog Try.f7.params.toList Rows.paneAddsSpec.vars false W args.toList ds gs before) :
    Calls Try.prog 7 args W fun e W' => ∃ v, e = .returned v ∧ Rows.paneAddsSpec.post enc Try.prog Try.f7 false true false false W args v W' := by
  have hval := hval0
  have hW' := hW
  obtain ⟨p, q, hA0, hV, rfl, hfz, hnd⟩ := hW
  have hA : DataW.TrodAll enc Try.prog W 0 (fun _ => true) true Try.f7.params.toList args.toList ds p := hA0
  rw [Try.params7] at hA hval
  obtain ⟨v0, vs0, d0, ds0, p0, q0, hargs, rfl, rfl, h0, r0⟩ := trodAll_cons hA
  obtain ⟨v1, vs1, d1, ds1, p1, q1, rfl, rfl, rfl, h1, r1⟩ := trodAll_cons r0
  obtain ⟨v2, vs2, d2, ds2, p2, q2, rfl, rfl, rfl, h2, r2⟩ := trodAll_cons r1
  obtain ⟨v3, vs3, d3, ds3, p3, q3, rfl, rfl, rfl, h3, r3⟩ := trodAll_cons r2
  obtain ⟨v4, vs4, d4, ds4, p4, q4, rfl, rfl, rfl, h4, r4⟩ := trodAll_cons r3
  obtain ⟨rfl, rfl, rfl⟩ := trodAll_nil r4
  obtain rfl : args = #[v0, v1, v2, v3, v4] := by cases args; simp_all
  obtain ⟨rfl, rfl⟩ := trodVars_none hV
  clear hA0 hval0
  obtain ⟨ps, hps⟩ := open_pns_arg (hval 0 24 v0 rfl rfl) h0
  obtain ⟨k, rfl, rfl, rfl, _⟩ := open_int Try.underlying3 (hval 1 3 v1 rfl rfl) h1
  obtain ⟨s, rfl, rfl, rfl, hs⟩ := Go.ChangeMaps.open_string Try.underlying9 (hval 2 9 v2 rfl rfl) h2
  obtain ⟨cs3, rfl, _, _, g3⟩ := open_struct_arg Try.underlying37 (hval 3 37 v3 rfl rfl) h3
  obtain ⟨lo, hi, rfl, _⟩ := rd_Win g3
  obtain ⟨v, rfl, rfl, rfl, hv⟩ := open_int Try.underlying2 (hval 4 2 v4 rfl rfl) h4
  have hv : -9223372036854775808 ≤ v ∧ v ≤ 9223372036854775807 := wf_i64 hv
  refine ((p_adds ps k s lo hi v hps.1 hv).law (vs := [_, _, _, _, _]) ⟨_, _, rfl, hps.2, _, _, rfl, rep_int, _, _, rfl, rep_str, _, _, rfl, rep_Win, _, _, rfl, rep_int, rfl⟩).mono fun e W' ⟨he, hb⟩ => ?_
  subst he
  exact ⟨_, rfl, post_law @A_laidOut (rd_of (by kernel_rfl : (Try.f7.params.toList.all fun t => Try.prog.readableRec t && decide (t < Try.prog.types.size)) = true)) rfl rfl Try.underlying4 hW' rfl hb⟩

theorem paneAdds_closed : joinedFacts Try.prog 7 Try.f7 Rows.paneAddsSpec Rows.paneAddsRow = true := by
  delta joinedFacts
  rw [io_enter, io_lifts, io_make]
  kernel_rfl
theorem paneAdds_own : ownKnob Try.prog.godebug = none := by kernel_rfl
set_option maxRecDepth 100000 in
theorem paneAdds_lifted (os : Os) (started : os.Started) (H : Type) (enc : TypeId × Value → H) :
    ReturnsInHanded {} Try.checked os 7 .any (Rows.paneAddsSpec.pre6 enc Try.prog Try.f7 Rows.paneAddsRow.domain false) (Rows.paneAddsSpec.post enc Try.prog Try.f7 false true false false) := by
  refine returnsInHanded_of_change (C := Try.checked) paneAdds_own started (by kernel_rfl) Try.func7
    (ChangeSpec.witness6 (enc := enc) (C := Try.checked) false ⟨#[], #[.slice none 0 0, .int .i64 1, .string ⟨#[]⟩, .agg #[.int .i64 0, .int .i64 0], .int .i64 0], []⟩ 8 (by kernel_rfl) (by kernel_rfl) (by kernel_rfl) (by kernel_rfl)) ?_
  intro W base args ds gs before hval hW _ _
  exact paneAdds_contract H enc W base args ds gs before hval hW
theorem paneAdds_proved : Rows.PaneAddsSaid :=
  OpenClaim.holds_of_wide 7 Try.f7 rfl rfl rfl rfl rfl rfl rfl ⟨rfl, rfl, rfl, rfl, rfl⟩ rfl rfl rfl rfl rfl (by kernel_rfl) Try.func7 paneAdds_closed
    (of_decide_eq_true (by kernel_rfl)) (by unfold Func.isWrapper; first | (rw [if_pos (by decide +kernel)]; kernel_rfl) | (rw [if_neg (by decide +kernel)]; exact ⟨rfl, rfl⟩))
    (fun os started H enc _ => paneAdds_lifted os started H enc)
end Go.Proofs.Ytimlkhbedhjehaa
