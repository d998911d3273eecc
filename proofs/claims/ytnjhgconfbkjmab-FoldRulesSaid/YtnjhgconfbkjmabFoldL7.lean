/-
  'clepsydralaw06.FoldRules' returns true for every input.
-/
import Derived.Test.YtnjhgconfbkjmabFoldX
import Derived.Test.YtnjhgconfbkjmabLaw
namespace Go.Proofs.Ytnjhgconfbkjmab
open Go.RowKit Go.WideShapes Go.ChangeShapes Go.ChangeAt
set_option linter.unusedSimpArgs false
set_option linter.unusedVariables false
set_option maxRecDepth 100000
theorem A_laidOut : laidOutB Try.prog = true := by kernel_rfl
theorem open_jav_arg {H : Type} {enc : TypeId × Value → H} {w : World} {b0 : Nat} {v : Value} {d : DataW H} {ps : List MemPlace} (hv : Value.okWide Try.prog w .any b0 28 v) (h : DataW.Trod enc Try.prog w 0 (fun _ => true) true 28 v d ps) :
    ∃ xs : List Int, xs.length ≤ 9223372036854775807 ∧ rep [] (fun _ => undef) w (fun _ => False) (.sl 1 (xs.map jav)) v := by
  obtain ⟨A, n, c, xs, rfl, h2, h3, h4, h5, h6⟩ := open_rows_arg (fun x : Int => [Value.int .i64 x]) (fun x => (-9223372036854775808 ≤ x ∧ x ≤ 9223372036854775807)) Try.underlying28 (by kernel_rfl : Try.prog.cellsOf 2 = 1) (by omega) (el_i64 Try.underlying2) hv h
  exact ⟨xs, by omega, rep_sl (fun x : Int => [Value.int .i64 x]) jav h5 h4 h2 h3 (fun _ => rfl) (fun x _ => repC_con (cs := [Value.int .i64 x]) rfl)⟩
theorem foldRules_contract (H : Type) (enc : TypeId × Value → H) (W : World) (base : Nat) (args : Array Value) (ds gs : List (DataW H)) (before : List MemPlace)
    (hval0 : ∀ (j : Nat) t v, Try.f5.params[j]? = some t → args[j]? = some v → Value.okWide Try.prog W .any base t v)
    (hW : DataW.Whole enc Try.prog Try.f5.params.toList Rows.foldRulesSpec.vars false W args.toList ds gs before) :
    Calls Try.prog 5 args W fun e W' => ∃ v, e = .returned v ∧ Rows.foldRulesSpec.post enc Try.prog Try.f5 false true false false W args v W' := by
  have hval := hval0
  have hW' := hW
  obtain ⟨p, q, hA0, hV, rfl, hfz, hnd⟩ := hW
  have hA : DataW.TrodAll enc Try.prog W 0 (fun _ => true) true Try.f5.params.toList args.toList ds p := hA0
  rw [Try.params5] at hA hval
  obtain ⟨v0, vs0, d0, ds0, p0, q0, hargs, rfl, rfl, h0, r0⟩ := trodAll_cons hA
  obtain ⟨v1, vs1, d1, ds1, p1, q1, rfl, rfl, rfl, h1, r1⟩ := trodAll_cons r0
  obtain ⟨v2, vs2, d2, ds2, p2, q2, rfl, rfl, rfl, h2, r2⟩ := trodAll_cons r1
  obtain ⟨v3, vs3, d3, ds3, p3, q3, rfl, rfl, rfl, h3, r3⟩ := trodAll_cons r2
  obtain ⟨rfl, rfl, rfl⟩ := trodAll_nil r3
  obtain rfl : args = #[v0, v1, v2, v3] := by cases args; simp_all
  obtain ⟨rfl, rfl⟩ := trodVars_none hV
  clear hA0 hval0
  obtain ⟨k, rfl, rfl, rfl, wk⟩ := open_int Try.underlying3 (hval 0 3 v0 rfl rfl) h0
  obtain ⟨l, hl⟩ := open_jav_arg (hval 1 28 v1 rfl rfl) h1
  obtain ⟨m, hm⟩ := open_jav_arg (hval 2 28 v2 rfl rfl) h2
  obtain ⟨n, hn⟩ := open_jav_arg (hval 3 28 v3 rfl rfl) h3
  refine ((q_rules k l m n hl.1 hm.1 hn.1).law (vs := [_, _, _, _]) ⟨_, _, rfl, by simp [rep, scal], _, _, rfl, hl.2, _, _, rfl, hm.2, _, _, rfl, hn.2, rfl⟩).mono fun e W' ⟨he, hb⟩ => ?_
  subst he
  exact ⟨_, rfl, post_law @A_laidOut (rd_of (by kernel_rfl : (Try.f5.params.toList.all fun t => Try.prog.readableRec t && decide (t < Try.prog.types.size)) = true)) rfl rfl Try.underlying4 hW' rfl hb⟩

theorem foldRules_own : ownKnob Try.prog.godebug = none := by kernel_rfl
set_option maxRecDepth 100000 in
theorem foldRules_lifted (os : Os) (started : os.Started) (H : Type) (enc : TypeId × Value → H) :
    ReturnsInHanded {} Try.checked os 5 .any (Rows.foldRulesSpec.pre6 enc Try.prog Try.f5 Rows.foldRulesRow.domain false) (Rows.foldRulesSpec.post enc Try.prog Try.f5 false true false false) := by
  refine returnsInHanded_of_change (C := Try.checked) foldRules_own started (by kernel_rfl) Try.func5
    (ChangeSpec.witness6 (enc := enc) (C := Try.checked) false ⟨#[], #[.int .i64 0, .slice none 0 0, .slice none 0 0, .slice none 0 0], []⟩ 8 (by kernel_rfl) (by kernel_rfl) (by kernel_rfl) (by kernel_rfl)) ?_
  intro W base args ds gs before hval hW _ _
  exact foldRules_contract H enc W base args ds gs before hval hW
theorem foldRules_proved : Rows.FoldRulesSaid :=
  OpenClaim.holds_of_wide 5 Try.f5 rfl rfl rfl rfl rfl rfl rfl ⟨rfl, rfl, rfl, rfl, rfl⟩ rfl rfl rfl rfl rfl (by kernel_rfl) Try.func5 (by kernel_rfl)
    (of_decide_eq_true (by kernel_rfl)) (by unfold Func.isWrapper; first | (rw [if_pos (by decide +kernel)]; kernel_rfl) | (rw [if_neg (by decide +kernel)]; exact ⟨rfl, rfl⟩))
    (fun os started H enc _ => foldRules_lifted os started H enc)
end Go.Proofs.Ytnjhgconfbkjmab
