/-
  'clepsydralaw13.JobReads' returns true for every input of bulk at most 1048576.
-/
import Derived.Test.YthlimflfglkpiaaDoorJrI
import Derived.Test.YthlimflfglkpiaaDoorJpL2
import Derived.Test.YthlimflfglkpiaaDoorRd
import Derived.Test.YthlimflfglkpiaaDoorCards
import Derived.ChangeSame
import Derived.ChangeVars
import Derived.JoinedOf
import Derived.Stop.Joined
import Derived.SevenTiedAt
namespace Go.Proofs.YthlimflfglkpiaaDoor
open Go.RowKit Go.WideShapes Go.ChangeShapes Go.ChangeAt
set_option linter.unusedSimpArgs false
set_option linter.unusedVariables false
set_option maxRecDepth 100000
theorem up_str {H : Type} {s : ByteArray} (h : Rows.uptoSmall H ([.lit (.string s.data.toList)] ++ []) = true) : Sm s := by
  have h1 : s.data.toList.length = s.size := Array.length_toList
  have h2 : Rows.uptoBulkAll ([.lit (.string s.data.toList)] ++ [] : List (DataW H)) ≤ 1048576 := of_decide_eq_true h
  simp only [List.append_nil, Rows.uptoBulkAll, Rows.uptoBulk] at h2
  unfold Sm
  omega
theorem jobReads_contract (H : Type) (enc : TypeId × Value → H) (W : World) (base : Nat) (args : Array Value) (ds gs : List (DataW H)) (before : List MemPlace)
    (hval0 : ∀ (j : Nat) t v, Tryd.f7.params[j]? = some t → args[j]? = some v → Value.okWide Tryd.prog W .any base t v)
    (hW : DataW.Whole enc Tryd.prog Tryd.f7.params.toList Rows.jobReadsSpec.vars false W args.toList ds gs before) (hL : laidMetH Tryd.prog Rows.jobReadsUptoRow.laid W) (hsh : W.ShapedOpen Tryd.prog) (hk : Rows.uptoSmall H (ds ++ gs) = true) :
    Calls Tryd.prog 7 args W fun e W' => ∃ v, e = .returned v ∧ Rows.jobReadsSpec.post enc Tryd.prog Tryd.f7 false true false false W args v W' := by
  have hval := hval0
  have hW' := hW
  obtain ⟨p, q, hA0, hV, rfl, hfz, hnd⟩ := hW
  have hA : DataW.TrodAll enc Tryd.prog W 0 (fun _ => true) true Tryd.f7.params.toList args.toList ds p := hA0
  rw [Tryd.params7] at hA hval
  obtain ⟨v0, vs0, d0, ds0, p0, q0, hargs, rfl, rfl, h0, r0⟩ := trodAll_cons hA
  obtain ⟨rfl, rfl, rfl⟩ := trodAll_nil r0
  obtain rfl : args = #[v0] := by cases args; simp_all
  obtain ⟨rfl, rfl⟩ := trodVars_none hV
  clear hA0 hval0
  obtain ⟨s, rfl, rfl, rfl, hs⟩ := Go.ChangeMaps.open_string Tryd.underlying9 (hval 0 9 v0 rfl rfl) h0
  have hT : TabP W := tabP_of hL hsh rfl rfl rfl
  refine ((j_reads s (up_str hk)).law (vs := [_]) _ (tabP_tb hT) (tabP_lt hT) ⟨_, _, rfl, ⟨rfl, rfl⟩, rfl⟩).mono fun e W' ⟨he, hb⟩ => ?_
  subst he
  exact ⟨_, rfl, post_law @A_laidOut (rd_of (by kernel_rfl : (Tryd.f7.params.toList.all fun t => Tryd.prog.readableRec t && decide (t < Tryd.prog.types.size)) = true)) rfl rfl Tryd.underlying4 hW' rfl hb⟩

theorem jobReads_own : ownKnob Tryd.prog.godebug = none := by kernel_rfl
set_option maxRecDepth 100000 in
theorem jobReads_met (os : Os) (args : Array Value) : laidMetH Tryd.prog Rows.jobReadsUptoRow.laid ((laidV os).forCall (fun _ _ => 0) ⟨#[], args, []⟩).memory :=
  laidV_met os args
set_option maxRecDepth 100000 in
theorem jobReads_lifted (os : Os) (started : os.Started) (H : Type) (enc : TypeId × Value → H) (F : Stop.Interp) :
    ReturnsInHanded {} Tryd.checked os 7 .any ((Rows.OpenSpec.upto Rows.jobReadsSpec).preRow enc Tryd.prog Tryd.f7 Rows.jobReadsUptoRow.domain false Rows.jobReadsUptoRow.laid) (((Rows.OpenSpec.upto Rows.jobReadsSpec).at F).post enc Tryd.prog Tryd.f7 false true false false) := by
  refine returnsInHanded_of_row (C := Tryd.checked) (s := (Rows.OpenSpec.upto Rows.jobReadsSpec)) (F := F) jobReads_own started (by kernel_rfl) Tryd.func7
    (witness_row_at (enc := enc) (C := Tryd.checked) (fn := Tryd.f7) (s := (Rows.OpenSpec.upto Rows.jobReadsSpec)) false (laidV os) #[.string ByteArray.empty] rfl (by kernel_rfl) (by kernel_rfl) (by kernel_rfl)
      (OpenSpec.preRow_of_cond 8 (x := ([.lit (.string [])], [], [])) (by kernel_rfl) (by kernel_rfl) (fun k hk => by cases hk <;> kernel_rfl) (by kernel_rfl) (jobReads_met os _))) ?_
  intro W base args ds gs before hval hW _ hk _ hL hsh _
  exact jobReads_contract H enc W base args ds gs before hval hW hL hsh (hk _ rfl)
theorem jobReads_row : Rows.JobReadsUptoSaid :=
  OpenClaim.holds_of_cond 7 Tryd.f7 rfl rfl rfl rfl rfl rfl rfl ⟨rfl, rfl, rfl, rfl, rfl⟩ rfl rfl rfl rfl rfl (by kernel_rfl) Tryd.func7 (by kernel_rfl)
    (of_decide_eq_true (by kernel_rfl)) (by unfold Func.isWrapper; first | (rw [if_pos (by decide +kernel)]; kernel_rfl) | (rw [if_neg (by decide +kernel)]; exact ⟨rfl, rfl⟩))
    (fun os started H enc _ F => by rw [OpenClaim.pre_eq_preRow]; exact jobReads_lifted os started H enc F)
theorem jobReads_proved : Rows.JobReadsUptoCardSaid :=
  Claim7.holds_tied_plain_at .later [] [.data, .data, .data, .data, .sentinel, .sentinel, .pinned] true (true, "b992fbbe860b3c2ecce506dabaf0f68afdf4837eca3e415abfe0f1b09b21b63d") true
    jobReads_row (fun _ h => by cases h) (by kernel_rfl) (fun _ h => by cases h) jobReadsUpto_row_tie rfl ⟨rfl, rfl⟩ (by kernel_rfl) rfl
    (fun f fn hf hfn => by
      obtain rfl : f = 7 := Option.some.inj ((show Tryd.prog.funcNamed Rows.jobReadsUptoRow.func = some 7 by kernel_rfl).symm.trans hf) |>.symm
      obtain rfl : fn = Tryd.f7 := (Option.some.inj (Tryd.func7.symm.trans hfn)).symm
      exact ⟨by kernel_rfl, fun j t ht => by
        have hall : (Tryd.f7.params.toList.all fun t => !Tryd.prog.wantsStandIn t) = true := by kernel_rfl
        have hm : t ∈ Tryd.f7.params.toList := List.mem_of_getElem? (by simpa using ht)
        have := List.all_eq_true.1 hall t hm
        show Tryd.prog.wantsStandIn t = false
        simpa using this⟩)
    (by kernel_rfl)
end Go.Proofs.YthlimflfglkpiaaDoor
