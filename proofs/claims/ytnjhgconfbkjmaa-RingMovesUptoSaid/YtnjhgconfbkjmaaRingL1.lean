/-
  'clepsydralaw11.RingMoves' returns true for every input of bulk at most 1048576.
-/
import Derived.Test.YtnjhgconfbkjmaaRingM
import Derived.Test.YtnjhgconfbkjmaaBulk
namespace Go.Proofs.Ytnjhgconfbkjmaa
open Go.RowKit Go.WideShapes Go.ChangeShapes Go.ChangeAt
set_option linter.unusedSimpArgs false
set_option linter.unusedVariables false
attribute [local go_sem ↓] Go.wp_at_zero Go.wp_at_succ

theorem A_laidOut : laidOutB Try.prog = true := by kernel_rfl
theorem open_intsI_arg {H : Type} {enc : TypeId × Value → H} {w : World} {b0 : Nat} {v : Value} {d : DataW H} {ps : List MemPlace} (hv : Value.okWide Try.prog w .any b0 22 v) (h : DataW.Trod enc Try.prog w 0 (fun _ => true) true 22 v d ps) :
    ∃ (A : Option Addr) (n c : Nat) (xs : List Int), v = .slice A n c ∧ n ≤ c ∧ c ≤ Rows.uptoBulk d ∧ Hid (n = xs.length) ∧ Reads w w.heap.size 1 A n (xs.map (Value.int .i64)) ∧ ∀ x ∈ xs, (-9223372036854775808 ≤ x ∧ x ≤ 9223372036854775807) := by
  obtain ⟨A, n, c, xs, rfl, h2, h3, h4, h5, h6⟩ := open_rows_arg (fun x : Int => [Value.int .i64 x]) (fun x => (-9223372036854775808 ≤ x ∧ x ≤ 9223372036854775807)) Try.underlying22 (by kernel_rfl : Try.prog.cellsOf 3 = 1) (by omega) (el_i64 Try.underlying3) hv h
  exact ⟨A, n, c, xs, rfl, h2, bulk_cap_arg Try.underlying22 h, hide h4, by rw [List.map_eq_flatMap]; exact h5, h6⟩

theorem RingMoves_walk (A : Option Addr) (n c : Nat) (xs : List Int) (A' : Option Addr) (n' c' : Nat) (ys : List Int) (w : World) (HN : Hid (n = xs.length)) (hr : Reads w w.heap.size 1 A n (xs.map (Value.int .i64))) (hn : n ≤ 2000000) (HN' : Hid (n' = ys.length)) (hr' : Reads w w.heap.size 1 A' n' (ys.map (Value.int .i64))) (hn' : n' ≤ 2000000) :
    Calls Try.prog 3 #[.slice A n c, .slice A' n' c'] w fun e w' => e = .returned (.bool true) ∧ Below w.heap.size w w' := by
  go_enter Try.func3, Try.ntmps3
  go_wp2_with fail
  refine (law11_alive _).mono ?_
  rintro e w1 ⟨rfl, hb⟩
  have r1 := (hr.below_le hb (Nat.le_refl _)).more hb.size
  have r2 := (hr'.below_le hb (Nat.le_refl _)).more hb.size
  go_wp2_with fail
  refine (ring_Moves _ _ _ xs _ _ _ ys _ HN r1 hn HN' r2 hn').mono ?_
  rintro e w2 ⟨B1, k1, d1, ms1, HM1, HK1, hk1, rfl, R1, hb2⟩
  have r1 := (r1.below_le hb2 (Nat.le_refl _)).more hb2.size
  have r2 := (r2.below_le hb2 (Nat.le_refl _)).more hb2.size
  have hb := Gr.call hb hb2
  go_wp2_with fail
  refine (ref11_Moves _ _ _ xs _ _ _ ys _ HN r1 hn HN' r2 hn').mono ?_
  rintro e w3 ⟨B2, k2, d2, ms2, HM2, HK2, hk2, rfl, R2, hb3⟩
  have hb := Gr.call hb hb3
  have R1 := (R1.below_le hb3 (Nat.le_refl _)).more hb3.size
  obtain rfl : ms1 = ms2 := HM1.out.trans HM2.out.symm
  go_wp2_with fail
  refine (ref11_Like _ _ _ _ _ _ ms1 _ _ HK1 R1 HK2 R2 hk1 (Nat.le_refl _)).mono ?_
  rintro e w4 ⟨rfl, hb4⟩
  have hb := Gr.call hb hb4
  go_wp2
  go_ret
  exact ⟨rfl, hb⟩

theorem ringMoves_contract (H : Type) (enc : TypeId × Value → H) (W : World) (base : Nat) (args : Array Value) (ds gs : List (DataW H)) (before : List MemPlace)
    (hval0 : ∀ (j : Nat) t v, Try.f3.params[j]? = some t → args[j]? = some v → Value.okWide Try.prog W .any base t v)
    (hW : DataW.Whole enc Try.prog Try.f3.params.toList Rows.ringMovesSpec.vars false W args.toList ds gs before) (hk : Rows.uptoSmall H (ds ++ gs) = true) :
    Calls Try.prog 3 args W fun e W' => ∃ v, e = .returned v ∧ Rows.ringMovesSpec.post enc Try.prog Try.f3 false true false false W args v W' := by
  have hval := hval0
  have hW' := hW
  obtain ⟨p, q, hA0, hV, rfl, hfz, hnd⟩ := hW
  have hA : DataW.TrodAll enc Try.prog W 0 (fun _ => true) true Try.f3.params.toList args.toList ds p := hA0
  rw [Try.params3] at hA hval
  obtain ⟨v0, vs0, d0, ds0, p0, q0, hargs, rfl, rfl, h0, r0⟩ := trodAll_cons hA
  obtain ⟨v1, vs1, d1, ds1, p1, q1, rfl, rfl, rfl, h1, r1⟩ := trodAll_cons r0
  obtain ⟨rfl, rfl, rfl⟩ := trodAll_nil r1
  obtain rfl : args = #[v0, v1] := by cases args; simp_all
  obtain ⟨rfl, rfl⟩ := trodVars_none hV
  clear hA0 hval0
  have hbk := bulk_bound hk
  simp only [List.append_nil, Rows.uptoBulkAll] at hbk
  obtain ⟨A, n, c, xs, rfl, hn, hc, HN, hr, hI⟩ := open_intsI_arg (hval 0 22 v0 rfl rfl) h0
  obtain ⟨A', n', c', ys, rfl, hn', hc', HN', hr', hI'⟩ := open_intsI_arg (hval 1 22 v1 rfl rfl) h1
  refine (RingMoves_walk A n c xs A' n' c' ys W HN hr (by omega) HN' hr' (by omega)).mono fun e W' ⟨he, hb⟩ => ?_
  subst he
  exact ⟨_, rfl, post_law @A_laidOut (rd_of (by kernel_rfl : (Try.f3.params.toList.all fun t => Try.prog.readableRec t && decide (t < Try.prog.types.size)) = true)) rfl rfl Try.underlying4 hW' rfl hb⟩

theorem ringMoves_own : ownKnob Try.prog.godebug = none := by kernel_rfl
set_option maxRecDepth 100000 in
theorem ringMoves_lifted (os : Os) (started : os.Started) (H : Type) (enc : TypeId × Value → H) (F : Stop.Interp) :
    ReturnsInHanded {} Try.checked os 3 .any ((Rows.OpenSpec.upto Rows.ringMovesSpec).pre6 enc Try.prog Try.f3 Rows.ringMovesUptoRow.domain false) (((Rows.OpenSpec.upto Rows.ringMovesSpec).at F).post enc Try.prog Try.f3 false true false false) := by
  refine returnsInHanded_of_cond (C := Try.checked) (s := Rows.OpenSpec.upto Rows.ringMovesSpec) (k := Rows.uptoSmall) rfl ringMoves_own started (by kernel_rfl) Try.func3
    (OpenSpec.witness (enc := enc) (C := Try.checked) (s := Rows.OpenSpec.upto Rows.ringMovesSpec) (k := Rows.uptoSmall) rfl false ⟨#[], #[.slice none 0 0, .slice none 0 0], []⟩ 8 (by kernel_rfl) (by kernel_rfl) (by kernel_rfl)
      (x := ([.nil, .nil], [], [])) (by kernel_rfl) rfl (by kernel_rfl)) ?_
  intro W base args ds gs before hval hW _ hk _
  exact ringMoves_contract H enc W base args ds gs before hval hW hk
theorem ringMoves_proved : Rows.RingMovesUptoSaid :=
  OpenClaim.holds_of_cond 3 Try.f3 rfl rfl rfl rfl rfl rfl rfl ⟨rfl, rfl, rfl, rfl, rfl⟩ rfl rfl rfl rfl rfl (by kernel_rfl) Try.func3 (by kernel_rfl)
    (of_decide_eq_true (by kernel_rfl)) (by unfold Func.isWrapper; first | (rw [if_pos (by decide +kernel)]; kernel_rfl) | (rw [if_neg (by decide +kernel)]; exact ⟨rfl, rfl⟩))
    (fun os started H enc _ F => ringMoves_lifted os started H enc F)
end Go.Proofs.Ytnjhgconfbkjmaa
