/-
  'clepsydralaw14.ModelKeeps' returns true for every input.
-/
import Derived.Test.YtimlkhbedhjehaaIo
import Derived.Test.YtimlkhbedhjehaaRd
import Derived.Test.YtimlkhbedhjehaaMdS
namespace Go.Proofs.Ytimlkhbedhjehaa
open Go.RowKit Go.WideShapes Go.ChangeShapes Go.ChangeAt
set_option linter.unusedSimpArgs false
set_option linter.unusedVariables false
set_option maxRecDepth 100000
theorem el_EtR {H : Type} {enc : TypeId × Value → H} {w : World} (m : Nat) (cs : List Value) (y : DataW H × List MemPlace) (hl : cs.length = 3) (ht : DataW.trod enc Try.prog w 0 (fun _ => true) true m 79 cs = some y) : ∃ x : Et, cs = x.cells ∧ (-9223372036854775808 ≤ x.v ∧ x.v ≤ 9223372036854775807) := by
  obtain ⟨key, a, v, rfl, h⟩ := rd_Ev ht
  exact ⟨⟨key, a, v⟩, rfl, h.2.2⟩
theorem open_etsR_arg {H : Type} {enc : TypeId × Value → H} {w : World} {b0 : Nat} {v : Value} {d : DataW H} {ps : List MemPlace} (hv : Value.okWide Try.prog w .any b0 86 v) (h : DataW.Trod enc Try.prog w 0 (fun _ => true) true 86 v d ps) :
    ∃ xs : List Et, xs.length ≤ 9223372036854775807 ∧ (∀ e ∈ xs, -9223372036854775808 ≤ e.v ∧ e.v ≤ 9223372036854775807) ∧ rep [] (fun _ => undef) w (fun _ => False) (.sl 3 (xs.map Et.av)) v := by
  obtain ⟨A, n, c, xs, rfl, h2, h3, h4, h5, h6⟩ := open_rows_arg Et.cells (fun x => -9223372036854775808 ≤ x.v ∧ x.v ≤ 9223372036854775807) Try.underlying86 (by kernel_rfl : Try.prog.cellsOf 79 = 3) (by omega) el_EtR hv h
  exact ⟨xs, by omega, h6, rep_sl Et.cells Et.av h5 h4 h2 h3 (fun _ => rfl) (fun x _ => repC_con (cs := Et.cells x) rfl)⟩
theorem modelKeeps_contract (H : Type) (enc : TypeId × Value → H) (W : World) (base : Nat) (args : Array Value) (ds gs : List (DataW H)) (before : List MemPlace)
    (hval0 : ∀ (j : Nat) t v, Try.f22.params[j]? = some t → args[j]? = some v → Value.okWide Try.prog W .any base t v)
    (hW : DataW.Whole enc Try.prog Try.f22.params.toList Rows.modelKeepsSpec.vars false W args.toList ds gs before) :
    Calls Try.prog 22 args W fun e W' => ∃ v, e = .returned v ∧ Rows.modelKeepsSpec.post enc Try.prog Try.f22 false true false false W args v W' := by
  have hval := hval0
  have hW' := hW
  obtain ⟨p, q, hA0, hV, rfl, hfz, hnd⟩ := hW
  have hA : DataW.TrodAll enc Try.prog W 0 (fun _ => true) true Try.f22.params.toList args.toList ds p := hA0
  rw [Try.params22] at hA hval
  obtain ⟨v0, vs0, d0, ds0, p0, q0, hargs, rfl, rfl, h0, r0⟩ := trodAll_cons hA
  obtain ⟨v1, vs1, d1, ds1, p1, q1, rfl, rfl, rfl, h1, r1⟩ := trodAll_cons r0
  obtain ⟨rfl, rfl, rfl⟩ := trodAll_nil r1
  obtain rfl : args = #[v0, v1] := by cases args; simp_all
  obtain ⟨rfl, rfl⟩ := trodVars_none hV
  clear hA0 hval0
  obtain ⟨cs0, rfl, _, _, g0⟩ := open_struct_arg Try.underlying23 (hval 0 23 v0 rfl rfl) h0
  obtain ⟨g, s, d, k, fu, li, de, id, rfl, hj⟩ := rd_Job g0
  obtain ⟨es, hel, hev, hes⟩ := open_etsR_arg (hval 1 86 v1 rfl rfl) h1
  refine ((m_keeps g s d k fu li de id es hel hev (by omega)).law (vs := [_, _]) ⟨_, _, rfl, rep_Job, _, _, rfl, hes, rfl⟩).mono fun e W' ⟨he, hb⟩ => ?_
  subst he
  exact ⟨_, rfl, post_law @A_laidOut (rd_of (by kernel_rfl : (Try.f22.params.toList.all fun t => Try.prog.readableRec t && decide (t < Try.prog.types.size)) = true)) rfl rfl Try.underlying4 hW' rfl hb⟩

theorem modelKeeps_closed : joinedFacts Try.prog 22 Try.f22 Rows.modelKeepsSpec Rows.modelKeepsRow = true := by
  delta joinedFacts
  rw [io_enter, io_lifts, io_make]
  kernel_rfl
theorem modelKeeps_own : ownKnob Try.prog.godebug = none := by kernel_rfl
set_option maxRecDepth 100000 in
theorem modelKeeps_lifted (os : Os) (started : os.Started) (H : Type) (enc : TypeId × Value → H) :
    ReturnsInHanded {} Try.checked os 22 .any (Rows.modelKeepsSpec.pre6 enc Try.prog Try.f22 Rows.modelKeepsRow.domain false) (Rows.modelKeepsSpec.post enc Try.prog Try.f22 false true false false) := by
  refine returnsInHanded_of_change (C := Try.checked) modelKeeps_own started (by kernel_rfl) Try.func22
    (ChangeSpec.witness6 (enc := enc) (C := Try.checked) false ⟨#[], #[.agg #[.int .i64 0, .int .i64 0, .int .i64 0, .int .i64 0, .int .i64 0, .int .i64 0, .int .i64 0, .int .i64 0], .slice none 0 0], []⟩ 8 (by kernel_rfl) (by kernel_rfl) (by kernel_rfl) (by kernel_rfl)) ?_
  intro W base args ds gs before hval hW _ _
  exact modelKeeps_contract H enc W base args ds gs before hval hW
theorem modelKeeps_proved : Rows.ModelKeepsSaid :=
  OpenClaim.holds_of_wide 22 Try.f22 rfl rfl rfl rfl rfl rfl rfl ⟨rfl, rfl, rfl, rfl, rfl⟩ rfl rfl rfl rfl rfl (by kernel_rfl) Try.func22 modelKeeps_closed
    (of_decide_eq_true (by kernel_rfl)) (by unfold Func.isWrapper; first | (rw [if_pos (by decide +kernel)]; kernel_rfl) | (rw [if_neg (by decide +kernel)]; exact ⟨rfl, rfl⟩))
    (fun os started H enc _ => modelKeeps_lifted os started H enc)
end Go.Proofs.Ytimlkhbedhjehaa
