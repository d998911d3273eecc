/-
  'clepsydralaw24.ScriptBack' returns true for every input.
-/
import Derived.Test.YtbhblhcgfenobaaGreatDoorK26
import Derived.Test.YtbhblhcgfenobaaGreatDoorCards
import Derived.ChangeSame
import Derived.ChangeVars
import Derived.JoinedOf
import Derived.Stop.Joined
import Derived.SevenTiedAt
namespace Go.Proofs.YtbhblhcgfenobaaGreatDoor
open Go.RowKit Go.WideShapes Go.ChangeShapes Go.ChangeAt
set_option linter.unusedSimpArgs false
set_option linter.unusedVariables false
set_option maxRecDepth 100000
theorem scriptBack_contract (H : Type) (enc : TypeId × Value → H) (W : World) (base : Nat) (args : Array Value) (ds gs : List (DataW H)) (before : List MemPlace)
    (hval0 : ∀ (j : Nat) t v, Tryz.f4.params[j]? = some t → args[j]? = some v → Value.okWide Tryz.prog W .any base t v)
    (hW : DataW.Whole enc Tryz.prog Tryz.f4.params.toList Rows.scriptBackSpec.vars false W args.toList ds gs before) (hL : laidMetH Tryz.prog Rows.scriptBackRow.laid W) (hsh : W.ShapedOpen Tryz.prog) :
    Calls Tryz.prog 4 args W fun e W' => ∃ v, e = .returned v ∧ Rows.scriptBackSpec.post enc Tryz.prog Tryz.f4 false true false false W args v W' := by
  have hval := hval0
  have hW' := hW
  obtain ⟨p, q, hA0, hV, rfl, hfz, hnd⟩ := hW
  have hA : DataW.TrodAll enc Tryz.prog W 0 (fun _ => true) true Tryz.f4.params.toList args.toList ds p := hA0
  rw [Tryz.params4] at hA hval
  obtain ⟨v0, vs0, d0, ds0, p0, q0, hargs, rfl, rfl, h0, r0⟩ := trodAll_cons hA
  obtain ⟨rfl, rfl, rfl⟩ := trodAll_nil r0
  obtain rfl : args = #[v0] := by cases args; simp_all
  obtain ⟨rfl, rfl⟩ := trodVars_none hV
  clear hA0 hval0
  obtain ⟨p, hp, hr⟩ := open_plan_arg (hval 0 27 v0 rfl rfl) h0
  have hT : TabP W := tabP_of hL hsh rfl rfl rfl
  refine ((s_back p hp).law (vs := [_]) _ (tabP_tb hT) (tabP_lt hT) ⟨_, _, rfl, hr _ (tabP_apart hT hsh), rfl⟩).mono fun e W' ⟨he, hb⟩ => ?_
  subst he
  exact ⟨_, rfl, post_law @A_laidOut (rd_of (by kernel_rfl : (Tryz.f4.params.toList.all fun t => Tryz.prog.readableRec t && decide (t < Tryz.prog.types.size)) = true)) rfl rfl Tryz.underlying4 hW' rfl hb⟩

theorem scriptBack_own : ownKnob Tryz.prog.godebug = none := by kernel_rfl
set_option maxRecDepth 100000 in
theorem scriptBack_met (os : Os) (args : Array Value) : laidMetH Tryz.prog Rows.scriptBackRow.laid ((laidV os).forCall (fun _ _ => 0) ⟨#[], args, []⟩).memory :=
  laidV_met os args
set_option maxRecDepth 100000 in
theorem scriptBack_lifted (os : Os) (started : os.Started) (H : Type) (enc : TypeId × Value → H) (F : Stop.Interp) :
    ReturnsInHanded {} Tryz.checked os 4 .any ((OpenSpec.ofChange Rows.scriptBackSpec).preRow enc Tryz.prog Tryz.f4 Rows.scriptBackRow.domain false Rows.scriptBackRow.laid) (((OpenSpec.ofChange Rows.scriptBackSpec).at F).post enc Tryz.prog Tryz.f4 false true false false) := by
  refine returnsInHanded_of_row (C := Tryz.checked) (s := (OpenSpec.ofChange Rows.scriptBackSpec)) (F := F) scriptBack_own started (by kernel_rfl) Tryz.func4
    (witness_row_at (enc := enc) (C := Tryz.checked) (fn := Tryz.f4) (s := (OpenSpec.ofChange Rows.scriptBackSpec)) false (laidV os) #[.agg #[.int .i64 0, .int .i64 0, .int .i64 0, .int .i64 0, .int .i64 0, .int .i64 0, .int .i64 0, .int .i64 0, .slice none 0 0, .int .i64 0, .slice none 0 0]] rfl (by kernel_rfl) (by kernel_rfl) (by kernel_rfl)
      (OpenSpec.preRow_of_cond 8 (x := ([.agg [.agg [.lit (.int .i64 0), .lit (.int .i64 0), .lit (.int .i64 0), .lit (.int .i64 0), .lit (.int .i64 0), .lit (.int .i64 0), .lit (.int .i64 0), .lit (.int .i64 0)], .nil, .lit (.int .i64 0), .nil]], [], [])) (by kernel_rfl) (by kernel_rfl) (fun k hk => by cases hk <;> kernel_rfl) (by kernel_rfl) (scriptBack_met os _))) ?_
  intro W base args ds gs before hval hW _ hk _ hL hsh _
  exact scriptBack_contract H enc W base args ds gs before hval hW hL hsh
theorem scriptBack_row : Rows.ScriptBackSaid :=
  OpenClaim.holds_of_cond 4 Tryz.f4 rfl rfl rfl rfl rfl rfl rfl ⟨rfl, rfl, rfl, rfl, rfl⟩ rfl rfl rfl rfl rfl (by kernel_rfl) Tryz.func4 (by kernel_rfl)
    (of_decide_eq_true (by kernel_rfl)) (by unfold Func.isWrapper; first | (rw [if_pos (by decide +kernel)]; kernel_rfl) | (rw [if_neg (by decide +kernel)]; exact ⟨rfl, rfl⟩))
    (fun os started H enc _ F => by rw [OpenClaim.pre_eq_preRow]; exact scriptBack_lifted os started H enc F)
theorem scriptBack_proved : Rows.ScriptBackCardSaid :=
  Claim7.holds_tied_plain_at .later [] [.data, .data, .data, .data, .sentinel, .sentinel, .pinned] true (true, "d7c0bbd2bd537681533d6be2fb9a8baa2479423912e1772f834767f836fe0156") true
    scriptBack_row (fun _ h => by cases h) (by kernel_rfl) (fun _ h => by cases h) scriptBack_row_tie rfl ⟨rfl, rfl⟩ (by kernel_rfl) rfl
    (fun f fn hf hfn => by
      obtain rfl : f = 4 := Option.some.inj ((show Tryz.prog.funcNamed Rows.scriptBackRow.func = some 4 by kernel_rfl).symm.trans hf) |>.symm
      obtain rfl : fn = Tryz.f4 := (Option.some.inj (Tryz.func4.symm.trans hfn)).symm
      exact ⟨by kernel_rfl, fun j t ht => by
        have hall : (Tryz.f4.params.toList.all fun t => !Tryz.prog.wantsStandIn t) = true := by kernel_rfl
        have hm : t ∈ Tryz.f4.params.toList := List.mem_of_getElem? (by simpa using ht)
        have := List.all_eq_true.1 hall t hm
        show Tryz.prog.wantsStandIn t = false
        simpa using this⟩)
    (by kernel_rfl)
end Go.Proofs.YtbhblhcgfenobaaGreatDoor
