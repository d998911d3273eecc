/-
  'clepsydralaw24.ScriptOnce' returns true for every input of bulk at most 1048576.
-/
import Derived.Test.YtbhblhcgfenobaaGreatDoorK26
import Derived.Test.YtbhblhcgfenobaaGreatDoorCards
import Derived.ChangeSame
import Derived.ChangeVars
import Derived.JoinedOf
import Derived.Stop.Joined
import Derived.SevenTiedAt
namespace Go.Proofs.YtbhblhcgfenobaaGreatDoor
open Go.RowKit Go.WideShapes Go.ChangeShapes Go.ChangeAt
set_option linter.unusedSimpArgs false
set_option linter.unusedVariables false
set_option maxRecDepth 100000
theorem up_str {H : Type} {s : ByteArray} (h : Rows.uptoSmall H ([.lit (.string s.data.toList)] ++ []) = true) : s.size ≤ 1048576 := by
  have h1 : s.data.toList.length = s.size := Array.length_toList
  have h2 : Rows.uptoBulkAll ([.lit (.string s.data.toList)] ++ [] : List (DataW H)) ≤ 1048576 := of_decide_eq_true h
  simp only [List.append_nil, Rows.uptoBulkAll, Rows.uptoBulk] at h2
  omega
theorem scriptOnce_contract (H : Type) (enc : TypeId × Value → H) (W : World) (base : Nat) (args : Array Value) (ds gs : List (DataW H)) (before : List MemPlace)
    (hval0 : ∀ (j : Nat) t v, Tryz.f5.params[j]? = some t → args[j]? = some v → Value.okWide Tryz.prog W .any base t v)
    (hW : DataW.Whole enc Tryz.prog Tryz.f5.params.toList Rows.scriptOnceSpec.vars false W args.toList ds gs before) (hL : laidMetH Tryz.prog Rows.scriptOnceUptoRow.laid W) (hsh : W.ShapedOpen Tryz.prog) (hk : Rows.uptoSmall H (ds ++ gs) = true) :
    Calls Tryz.prog 5 args W fun e W' => ∃ v, e = .returned v ∧ Rows.scriptOnceSpec.post enc Tryz.prog Tryz.f5 false true false false W args v W' := by
  have hval := hval0
  have hW' := hW
  obtain ⟨p, q, hA0, hV, rfl, hfz, hnd⟩ := hW
  have hA : DataW.TrodAll enc Tryz.prog W 0 (fun _ => true) true Tryz.f5.params.toList args.toList ds p := hA0
  rw [Tryz.params5] at hA hval
  obtain ⟨v0, vs0, d0, ds0, p0, q0, hargs, rfl, rfl, h0, r0⟩ := trodAll_cons hA
  obtain ⟨rfl, rfl, rfl⟩ := trodAll_nil r0
  obtain rfl : args = #[v0] := by cases args; simp_all
  obtain ⟨rfl, rfl⟩ := trodVars_none hV
  clear hA0 hval0
  obtain ⟨s, rfl, rfl, rfl, hs⟩ := Go.ChangeMaps.open_string Tryz.underlying9 (hval 0 9 v0 rfl rfl) h0
  have hT : TabP W := tabP_of hL hsh rfl rfl rfl
  refine ((s_once s (by have := up_str hk; unfold Sm; omega)).law (vs := [_]) _ (tabP_tb hT) (tabP_lt hT) ⟨_, _, rfl, ⟨rfl, rfl⟩, rfl⟩).mono fun e W' ⟨he, hb⟩ => ?_
  subst he
  exact ⟨_, rfl, post_law @A_laidOut (rd_of (by kernel_rfl : (Tryz.f5.params.toList.all fun t => Tryz.prog.readableRec t && decide (t < Tryz.prog.types.size)) = true)) rfl rfl Tryz.underlying4 hW' rfl hb⟩

theorem scriptOnce_own : ownKnob Tryz.prog.godebug = none := by kernel_rfl
set_option maxRecDepth 100000 in
theorem scriptOnce_met (os : Os) (args : Array Value) : laidMetH Tryz.prog Rows.scriptOnceUptoRow.laid ((laidV os).forCall (fun _ _ => 0) ⟨#[], args, []⟩).memory :=
  laidV_met os args
set_option maxRecDepth 100000 in
theorem scriptOnce_lifted (os : Os) (started : os.Started) (H : Type) (enc : TypeId × Value → H) (F : Stop.Interp) :
    ReturnsInHanded {} Tryz.checked os 5 .any ((Rows.OpenSpec.upto Rows.scriptOnceSpec).preRow enc Tryz.prog Tryz.f5 Rows.scriptOnceUptoRow.domain false Rows.scriptOnceUptoRow.laid) (((Rows.OpenSpec.upto Rows.scriptOnceSpec).at F).post enc Tryz.prog Tryz.f5 false true false false) := by
  refine returnsInHanded_of_row (C := Tryz.checked) (s := (Rows.OpenSpec.upto Rows.scriptOnceSpec)) (F := F) scriptOnce_own started (by kernel_rfl) Tryz.func5
    (witness_row_at (enc := enc) (C := Tryz.checked) (fn := Tryz.f5) (s := (Rows.OpenSpec.upto Rows.scriptOnceSpec)) false (laidV os) #[.string ByteArray.empty] rfl (by kernel_rfl) (by kernel_rfl) (by kernel_rfl)
      (OpenSpec.preRow_of_cond 8 (x := ([.lit (.string [])], [], [])) (by kernel_rfl) (by kernel_rfl) (fun k hk => by cases hk <;> kernel_rfl) (by kernel_rfl) (scriptOnce_met os _))) ?_
  intro W base args ds gs before hval hW _ hk _ hL hsh _
  exact scriptOnce_contract H enc W base args ds gs before hval hW hL hsh (hk _ rfl)
theorem scriptOnce_row : Rows.ScriptOnceUptoSaid :=
  OpenClaim.holds_of_cond 5 Tryz.f5 rfl rfl rfl rfl rfl rfl rfl ⟨rfl, rfl, rfl, rfl, rfl⟩ rfl rfl rfl rfl rfl (by kernel_rfl) Tryz.func5 (by kernel_rfl)
    (of_decide_eq_true (by kernel_rfl)) (by unfold Func.isWrapper; first | (rw [if_pos (by decide +kernel)]; kernel_rfl) | (rw [if_neg (by decide +kernel)]; exact ⟨rfl, rfl⟩))
    (fun os started H enc _ F => by rw [OpenClaim.pre_eq_preRow]; exact scriptOnce_lifted os started H enc F)
theorem scriptOnce_proved : Rows.ScriptOnceUptoCardSaid :=
  Claim7.holds_tied_plain_at .later [] [.data, .data, .data, .data, .sentinel, .sentinel, .pinned] true (true, "d7c0bbd2bd537681533d6be2fb9a8baa2479423912e1772f834767f836fe0156") true
    scriptOnce_row (fun _ h => by cases h) (by kernel_rfl) (fun _ h => by cases h) scriptOnceUpto_row_tie rfl ⟨rfl, rfl⟩ (by kernel_rfl) rfl
    (fun f fn hf hfn => by
      obtain rfl : f = 5 := Option.some.inj ((show Tryz.prog.funcNamed Rows.scriptOnceUptoRow.func = some 5 by kernel_rfl).symm.trans hf) |>.symm
      obtain rfl : fn = Tryz.f5 := (Option.some.inj (Tryz.func5.symm.trans hfn)).symm
      exact ⟨by kernel_rfl, fun j t ht => by
        have hall : (Tryz.f5.params.toList.all fun t => !Tryz.prog.wantsStandIn t) = true := by kernel_rfl
        have hm : t ∈ Tryz.f5.params.toList := List.mem_of_getElem? (by simpa using ht)
        have := List.all_eq_true.1 hall t hm
        show Tryz.prog.wantsStandIn t = false
        simpa using this⟩)
    (by kernel_rfl)
end Go.Proofs.YtbhblhcgfenobaaGreatDoor
