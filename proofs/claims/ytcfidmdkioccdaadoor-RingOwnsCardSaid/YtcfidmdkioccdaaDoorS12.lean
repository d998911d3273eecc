/-
  'clepsydralaw11.RingOwns' returns true for every input.
-/
import Derived.ChangeSame
import Derived.ChangeVars
import Derived.JoinedOf
import Derived.Stop.Joined
import Derived.SevenTiedAt
import Derived.Test.YtcfidmdkioccdaaDoorCards
import Derived.Test.YtcfidmdkioccdaaDoorS4
import Derived.Test.YtcfidmdkioccdaaDoorS11
set_option linter.unusedSimpArgs false
set_option linter.unusedVariables false
set_option maxHeartbeats 20000000
namespace Go.Proofs.YtcfidmdkioccdaaDoor
open Go.RowKit Go.WideShapes Go.ChangeShapes Go.ChangeAt
set_option maxRecDepth 100000
theorem ringOwns_contract (H : Type) (enc : TypeId × Value → H) (W : World) (base : Nat) (args : Array Value) (ds gs : List (DataW H)) (before : List MemPlace)
  (hval0 : ∀ (j : Nat) t v, Tryd.f4.params[j]? = some t → args[j]? = some v → Value.okWide Tryd.prog W .any base t v)
  (hW : DataW.Whole enc Tryd.prog Tryd.f4.params.toList Rows.ringOwnsSpec.vars false W args.toList ds gs before) (hL : laidMetH Tryd.prog Rows.ringOwnsRow.laid W) :
  Calls Tryd.prog 4 args W fun e W' => ∃ v, e = .returned v ∧ Rows.ringOwnsSpec.post enc Tryd.prog Tryd.f4 false true false false W args v W' := by
 have hval := hval0
 have hW' := hW
 obtain ⟨p, q, hA0, hV, rfl, hfz, hnd⟩ := hW
 have hA : DataW.TrodAll enc Tryd.prog W 0 (fun _ => true) true Tryd.f4.params.toList args.toList ds p := hA0
 rw [Tryd.params4] at hA hval
 obtain ⟨v0, vs0, d0, ds0, p0, q0, hargs, rfl, rfl, h0, r0⟩ := trodAll_cons hA
 obtain ⟨v1, vs1, d1, ds1, p1, q1, rfl, rfl, rfl, h1, r1⟩ := trodAll_cons r0
 obtain ⟨v2, vs2, d2, ds2, p2, q2, rfl, rfl, rfl, h2, r2⟩ := trodAll_cons r1
 obtain ⟨rfl, rfl, rfl⟩ := trodAll_nil r2
 obtain rfl : args = #[v0, v1, v2] := by cases args; simp_all
 obtain ⟨rfl, rfl⟩ := trodVars_none hV
 clear hA0 hval0
 obtain ⟨xs, hx, hr⟩ := open_ints1_arg (hval 0 22 v0 rfl rfl) h0
 obtain ⟨g, rfl, rfl, rfl, hg⟩ := open_int Tryd.underlying3 (hval 1 3 v1 rfl rfl) h1
 obtain ⟨b, rfl, rfl, rfl, hb⟩ := Go.ChangeMaps.open_string Tryd.underlying9 (hval 2 9 v2 rfl rfl) h2
 refine ((r_owns xs g b hx (by simpa [maxLen] using hb) (wf_i64 hg)).law (vs := [_, _, _]) ⟨_, _, rfl, hr, _, _, rfl, rep_int, _, _, rfl, rep_str, rfl⟩).mono fun e W' ⟨he, hb⟩ => ?_
 subst he
 exact ⟨_, rfl, post_law @A_laidOut (rd_of (by kernel_rfl : (Tryd.f4.params.toList.all fun t => Tryd.prog.readableRec t && decide (t < Tryd.prog.types.size)) = true)) rfl rfl Tryd.underlying4 hW' rfl hb⟩

theorem ringOwns_own : ownKnob Tryd.prog.godebug = none := by kernel_rfl
set_option maxRecDepth 100000 in
theorem ringOwns_met (os : Os) (args : Array Value) : laidMetH Tryd.prog Rows.ringOwnsRow.laid ((laidW os).forCall (fun _ _ => 0) ⟨#[], args, []⟩).memory :=
 laidMet_of_run' 8 (by kernel_rfl) (by kernel_rfl)
set_option maxRecDepth 100000 in
theorem ringOwns_lifted (os : Os) (started : os.Started) (H : Type) (enc : TypeId × Value → H) :
  ReturnsInHanded {} Tryd.checked os 4 .any (fun w args => (Rows.ringOwnsSpec.pre enc Tryd.prog Tryd.f4 Rows.ringOwnsRow.domain false w args ∧ laidMetH Tryd.prog Rows.ringOwnsRow.laid w) ∧ sizedMet enc Tryd.prog Tryd.f4 (OpenSpec.ofChange Rows.ringOwnsSpec) false w args) (Rows.ringOwnsSpec.post enc Tryd.prog Tryd.f4 false true false false) := by
 refine returnsInHanded_of_change_and (C := Tryd.checked) (X := fun w _ => laidMetH Tryd.prog Rows.ringOwnsRow.laid w) (fun _ _ _ hh h => h.of_heap hh) ringOwns_own started (by kernel_rfl) Tryd.func4
  (ChangeSpec.witness_at (enc := enc) (C := Tryd.checked) (os := os) (X := fun w _ => laidMetH Tryd.prog Rows.ringOwnsRow.laid w) false (laidW os) #[.slice none 0 0, .int .i64 0, .string ByteArray.empty] 8 rfl (by kernel_rfl) (by kernel_rfl) (by kernel_rfl) (by kernel_rfl) (by kernel_rfl) (ringOwns_met os _)) ?_
 intro W base args ds gs before hval hW _ _ hL _
 exact ringOwns_contract H enc W base args ds gs before hval hW hL
theorem ringOwns_row : Rows.RingOwnsSaid :=
 OpenClaim.holds_of_wide 4 Tryd.f4 rfl rfl rfl rfl rfl rfl rfl ⟨rfl, rfl, rfl, rfl, rfl⟩ rfl rfl rfl rfl rfl (by kernel_rfl) Tryd.func4 (by kernel_rfl)
  (of_decide_eq_true (by kernel_rfl)) (by unfold Func.isWrapper; first | (rw [if_pos (by decide +kernel)]; kernel_rfl) | (rw [if_neg (by decide +kernel)]; exact ⟨rfl, rfl⟩))
  (fun os started H enc _ => ringOwns_lifted os started H enc)
theorem ringOwns_proved : Rows.RingOwnsCardSaid :=
 Claim7.holds_tied_plain_at .later [] [.data, .data, .data] true (true, "06b976c24f5055ff40c23b7dc894dc3abd5f62fe859da24e95ef98c811a39020") false
  ringOwns_row (fun _ h => by cases h) (by kernel_rfl) (fun _ h => by cases h) ringOwns_row_tie rfl ⟨rfl, rfl⟩ (by kernel_rfl) rfl
  (fun f fn hf hfn => by
   obtain rfl : f = 4 := Option.some.inj ((show Tryd.prog.funcNamed Rows.ringOwnsRow.func = some 4 by kernel_rfl).symm.trans hf) |>.symm
   obtain rfl : fn = Tryd.f4 := (Option.some.inj (Tryd.func4.symm.trans hfn)).symm
   exact ⟨by kernel_rfl, fun j t ht => by
    have hall : (Tryd.f4.params.toList.all fun t => !Tryd.prog.wantsStandIn t) = true := by kernel_rfl
    have hm : t ∈ Tryd.f4.params.toList := List.mem_of_getElem? (by simpa using ht)
    have := List.all_eq_true.1 hall t hm
    show Tryd.prog.wantsStandIn t = false
    simpa using this⟩)
  (by kernel_rfl)
end Go.Proofs.YtcfidmdkioccdaaDoor
