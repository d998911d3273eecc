/-
  'clepsydralaw11.RingHashes' returns true for every input.
-/
import Derived.Test.YtnjhgconfbkjmaaRingW
import Derived.Test.YtnjhgconfbkjmaaLaw
namespace Go.Proofs.Ytnjhgconfbkjmaa
open Go.RowKit Go.WideShapes Go.ChangeShapes Go.ChangeAt
set_option linter.unusedSimpArgs false
set_option linter.unusedVariables false
attribute [local go_sem ↓] Go.wp_at_zero Go.wp_at_succ

theorem A_laidOut : laidOutB Try.prog = true := by kernel_rfl

theorem RingHashes_walk (s : ByteArray) (g : Int) (w : World) (hs : s.size ≤ 9223372036854775807) (hg : -9223372036854775808 ≤ g ∧ g ≤ 9223372036854775807) :
    Calls Try.prog 5 #[.string s, .int .i64 g] w fun e w' => e = .returned (.bool true) ∧ Below w.heap.size w w' := by
  have hs' : (s.size : Int) ≤ 9223372036854775807 := by omega
  by_cases hl : 10000 < s.size
  · have hl' : (10000 : Int) < s.size := by omega
    have hl2 : (10000 : Int) ≤ s.size := by omega
    have hx : (s.extract 0 10000).size ≤ 1000000 := by simp; omega
    go_enter Try.func5, Try.ntmps5
    go_wp2_with fail
    refine (law11_alive _).mono ?_
    rintro e w1 ⟨rfl, hb1⟩
    go_wp2_with fail
    refine (ring_Hash _ _ hx).mono ?_
    rintro e w2 ⟨q1, HQ1, rfl, rfl⟩
    go_wp2_with fail
    refine (ref11_Hash _ _ hx).mono ?_
    rintro e w2 ⟨q2, HQ2, rfl, rfl⟩
    obtain rfl : q1 = q2 := HQ1.out.trans HQ2.out.symm
    go_wp2_with fail
    refine (ring_Group _ _ _ hx hg).mono ?_
    rintro e w2 ⟨rfl, rfl⟩
    go_wp2_with fail
    refine (ref11_Group _ _ _ hx hg).mono ?_
    rintro e w2 ⟨rfl, rfl⟩
    go_wp2
    go_ret
    exact ⟨rfl, hb1⟩
  · have hx : s.size ≤ 1000000 := by omega
    have hl' : ¬ (10000 : Int) < s.size := by omega
    go_enter Try.func5, Try.ntmps5
    go_wp2_with fail
    refine (law11_alive _).mono ?_
    rintro e w1 ⟨rfl, hb1⟩
    go_wp2_with fail
    refine (ring_Hash _ _ hx).mono ?_
    rintro e w2 ⟨q1, HQ1, rfl, rfl⟩
    go_wp2_with fail
    refine (ref11_Hash _ _ hx).mono ?_
    rintro e w2 ⟨q2, HQ2, rfl, rfl⟩
    obtain rfl : q1 = q2 := HQ1.out.trans HQ2.out.symm
    go_wp2_with fail
    refine (ring_Group _ _ _ hx hg).mono ?_
    rintro e w2 ⟨rfl, rfl⟩
    go_wp2_with fail
    refine (ref11_Group _ _ _ hx hg).mono ?_
    rintro e w2 ⟨rfl, rfl⟩
    go_wp2
    go_ret
    exact ⟨rfl, hb1⟩

theorem ringHashes_contract (H : Type) (enc : TypeId × Value → H) (W : World) (base : Nat) (args : Array Value) (ds gs : List (DataW H)) (before : List MemPlace)
    (hval0 : ∀ (j : Nat) t v, Try.f5.params[j]? = some t → args[j]? = some v → Value.okWide Try.prog W .any base t v)
    (hW : DataW.Whole enc Try.prog Try.f5.params.toList Rows.ringHashesSpec.vars false W args.toList ds gs before) :
    Calls Try.prog 5 args W fun e W' => ∃ v, e = .returned v ∧ Rows.ringHashesSpec.post enc Try.prog Try.f5 false true false false W args v W' := by
  have hval := hval0
  have hW' := hW
  obtain ⟨p, q, hA0, hV, rfl, hfz, hnd⟩ := hW
  have hA : DataW.TrodAll enc Try.prog W 0 (fun _ => true) true Try.f5.params.toList args.toList ds p := hA0
  rw [Try.params5] at hA hval
  obtain ⟨v0, vs0, d0, ds0, p0, q0, hargs, rfl, rfl, h0, r0⟩ := trodAll_cons hA
  obtain ⟨v1, vs1, d1, ds1, p1, q1, rfl, rfl, rfl, h1, r1⟩ := trodAll_cons r0
  obtain ⟨rfl, rfl, rfl⟩ := trodAll_nil r1
  obtain rfl : args = #[v0, v1] := by cases args; simp_all
  obtain ⟨rfl, rfl⟩ := trodVars_none hV
  clear hA0 hval0
  obtain ⟨s, rfl, rfl, rfl, hs⟩ := Go.ChangeMaps.open_string Try.underlying9 (hval 0 9 v0 rfl rfl) h0
  obtain ⟨g, rfl, rfl, rfl, wg⟩ := open_int Try.underlying3 (hval 1 3 v1 rfl rfl) h1
  refine (RingHashes_walk s g W (by simpa [maxLen] using hs) (wf_i64 wg)).mono fun e W' ⟨he, hb⟩ => ?_
  subst he
  exact ⟨_, rfl, post_law @A_laidOut (rd_of (by kernel_rfl : (Try.f5.params.toList.all fun t => Try.prog.readableRec t && decide (t < Try.prog.types.size)) = true)) rfl rfl Try.underlying4 hW' rfl hb⟩

theorem ringHashes_own : ownKnob Try.prog.godebug = none := by kernel_rfl
set_option maxRecDepth 100000 in
theorem ringHashes_lifted (os : Os) (started : os.Started) (H : Type) (enc : TypeId × Value → H) :
    ReturnsInHanded {} Try.checked os 5 .any (Rows.ringHashesSpec.pre6 enc Try.prog Try.f5 Rows.ringHashesRow.domain false) (Rows.ringHashesSpec.post enc Try.prog Try.f5 false true false false) := by
  refine returnsInHanded_of_change (C := Try.checked) ringHashes_own started (by kernel_rfl) Try.func5
    (ChangeSpec.witness6 (enc := enc) (C := Try.checked) false ⟨#[], #[.string ByteArray.empty, .int .i64 0], []⟩ 8 (by kernel_rfl) (by kernel_rfl) (by kernel_rfl) (by kernel_rfl)) ?_
  intro W base args ds gs before hval hW _ _
  exact ringHashes_contract H enc W base args ds gs before hval hW
theorem ringHashes_proved : Rows.RingHashesSaid :=
  OpenClaim.holds_of_wide 5 Try.f5 rfl rfl rfl rfl rfl rfl rfl ⟨rfl, rfl, rfl, rfl, rfl⟩ rfl rfl rfl rfl rfl (by kernel_rfl) Try.func5 (by kernel_rfl)
    (of_decide_eq_true (by kernel_rfl)) (by unfold Func.isWrapper; first | (rw [if_pos (by decide +kernel)]; kernel_rfl) | (rw [if_neg (by decide +kernel)]; exact ⟨rfl, rfl⟩))
    (fun os started H enc _ => ringHashes_lifted os started H enc)
end Go.Proofs.Ytnjhgconfbkjmaa
