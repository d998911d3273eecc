/-
  'clepsydralaw09.GroupBytes' returns true for every input of bulk at most 1048576.
-/
import Derived.Test.YthlimflfglkpiaaRdB
import Derived.Test.YthlimflfglkpiaaBtU
namespace Go.Proofs.Ythlimflfglkpiaa
open Go.RowKit Go.WideShapes Go.ChangeShapes Go.ChangeAt
set_option linter.unusedSimpArgs false
set_option linter.unusedVariables false
set_option maxRecDepth 100000
theorem up_str2 {H : Type} {d : DataW H} {s : ByteArray} (h : Rows.uptoSmall H ([d, .lit (.string s.data.toList)] ++ []) = true) : s.size ≤ 1048576 := by
  have h1 : s.data.toList.length = s.size := Array.length_toList
  have h2 : Rows.uptoBulkAll ([d, .lit (.string s.data.toList)] ++ [] : List (DataW H)) ≤ 1048576 := of_decide_eq_true h
  simp only [List.append_nil, Rows.uptoBulkAll, Rows.uptoBulk] at h2
  omega
theorem groupBytes_contract (H : Type) (enc : TypeId × Value → H) (W : World) (base : Nat) (args : Array Value) (ds gs : List (DataW H)) (before : List MemPlace)
    (hval0 : ∀ (j : Nat) t v, Try.f3.params[j]? = some t → args[j]? = some v → Value.okWide Try.prog W .any base t v)
    (hW : DataW.Whole enc Try.prog Try.f3.params.toList Rows.groupBytesSpec.vars false W args.toList ds gs before) (hk : Rows.uptoSmall H (ds ++ gs) = true) :
    Calls Try.prog 3 args W fun e W' => ∃ v, e = .returned v ∧ Rows.groupBytesSpec.post enc Try.prog Try.f3 false true false false W args v W' := by
  have hval := hval0
  have hW' := hW
  obtain ⟨p, q, hA0, hV, rfl, hfz, hnd⟩ := hW
  have hA : DataW.TrodAll enc Try.prog W 0 (fun _ => true) true Try.f3.params.toList args.toList ds p := hA0
  rw [Try.params3] at hA hval
  obtain ⟨v0, vs0, d0, ds0, p0, q0, hargs, rfl, rfl, h0, r0⟩ := trodAll_cons hA
  obtain ⟨v1, vs1, d1, ds1, p1, q1, rfl, rfl, rfl, h1, r1⟩ := trodAll_cons r0
  obtain ⟨rfl, rfl, rfl⟩ := trodAll_nil r1
  obtain rfl : args = #[v0, v1] := by cases args; simp_all
  obtain ⟨rfl, rfl⟩ := trodVars_none hV
  clear hA0 hval0
  obtain ⟨cs0, rfl, _, _, g0⟩ := open_struct_arg Try.underlying24 (hval 0 24 v0 rfl rfl) h0
  obtain ⟨no, mark, vp, ps, rfl, h1c, hps, hno, hmk, hI⟩ := rd_GroupI g0
  obtain ⟨s, rfl, rfl, rfl, hs⟩ := Go.ChangeMaps.open_string Try.underlying9 (hval 1 9 v1 rfl rfl) h1
  have hsz := up_str2 hk
  refine ((g_bytes no mark ps s hps.1 (by omega) hno hmk hI).law (vs := [_, _]) ⟨_, _, rfl, rep_Group h1c hps, _, _, rfl, rep_str, rfl⟩).mono fun e W' ⟨he, hb⟩ => ?_
  subst he
  exact ⟨_, rfl, post_law @A_laidOut (rd_of (by kernel_rfl : (Try.f3.params.toList.all fun t => Try.prog.readableRec t && decide (t < Try.prog.types.size)) = true)) rfl rfl Try.underlying4 hW' rfl hb⟩

theorem groupBytes_own : ownKnob Try.prog.godebug = none := by kernel_rfl
set_option maxRecDepth 100000 in
theorem groupBytes_lifted (os : Os) (started : os.Started) (H : Type) (enc : TypeId × Value → H) (F : Stop.Interp) :
    ReturnsInHanded {} Try.checked os 3 .any ((Rows.OpenSpec.upto Rows.groupBytesSpec).pre6 enc Try.prog Try.f3 Rows.groupBytesUptoRow.domain false) (((Rows.OpenSpec.upto Rows.groupBytesSpec).at F).post enc Try.prog Try.f3 false true false false) := by
  refine returnsInHanded_of_cond (C := Try.checked) (s := Rows.OpenSpec.upto Rows.groupBytesSpec) (k := Rows.uptoSmall) rfl groupBytes_own started (by kernel_rfl) Try.func3
    (OpenSpec.witness (enc := enc) (C := Try.checked) (s := Rows.OpenSpec.upto Rows.groupBytesSpec) (k := Rows.uptoSmall) rfl false ⟨#[], #[.agg #[.int .i64 0, .int .i64 0, .slice none 0 0], .string ByteArray.empty], []⟩ 8 (by kernel_rfl) (by kernel_rfl) (by kernel_rfl)
      (x := ([.agg [.lit (.int .i64 0), .lit (.int .i64 0), .nil], .lit (.string [])], [], [])) (by kernel_rfl) rfl (by kernel_rfl)) ?_
  intro W base args ds gs before hval hW _ hk _
  exact groupBytes_contract H enc W base args ds gs before hval hW hk
theorem groupBytes_proved : Rows.GroupBytesUptoSaid :=
  OpenClaim.holds_of_cond 3 Try.f3 rfl rfl rfl rfl rfl rfl rfl ⟨rfl, rfl, rfl, rfl, rfl⟩ rfl rfl rfl rfl rfl (by kernel_rfl) Try.func3 (by kernel_rfl)
    (of_decide_eq_true (by kernel_rfl)) (by unfold Func.isWrapper; first | (rw [if_pos (by decide +kernel)]; kernel_rfl) | (rw [if_neg (by decide +kernel)]; exact ⟨rfl, rfl⟩))
    (fun os started H enc _ F => groupBytes_lifted os started H enc F)
end Go.Proofs.Ythlimflfglkpiaa
