/-
  'clepsydralaw06.FoldEnds' returns true for every input.
-/
import Derived.Test.YtnjhgconfbkjmabFoldO
import Derived.Test.YtnjhgconfbkjmabApp
namespace Go.Proofs.Ytnjhgconfbkjmab
open Go.RowKit Go.WideShapes Go.ChangeShapes Go.ChangeAt
set_option linter.unusedSimpArgs false
set_option linter.unusedVariables false
attribute [local go_sem ↓] Go.wp_at_zero Go.wp_at_succ

/-- the least, the greatest, and how far they are apart -/
theorem ends (l : List Int) (hl : l.length ≤ 1000000) (hI : ∀ x ∈ l, I64 x) :
    fVal 1 (allL 1 l) = l.length ∧ fVal 5 (allL 5 l) = wrap64 (fVal 4 (allL 4 l) - fVal 3 (allL 3 l)) ∧
    (∀ x ∈ l, fVal 3 (allL 3 l) ≤ x ∧ x ≤ fVal 4 (allL 4 l)) ∧ (l ≠ [] → fVal 3 (allL 3 l) ∈ l) := by
  have key : l.length ≤ 1000000 → (∀ x ∈ l, I64 x) → l ≠ [] → (allL 5 l).a = (allL 3 l).a ∧ (allL 5 l).b = (allL 4 l).a ∧ (∀ x ∈ l, (allL 3 l).a ≤ x ∧ x ≤ (allL 4 l).a) ∧ (allL 3 l).a ∈ l := by
    refine snoc_ind (p := fun l => l.length ≤ 1000000 → (∀ x ∈ l, I64 x) → l ≠ [] → (allL 5 l).a = (allL 3 l).a ∧ (allL 5 l).b = (allL 4 l).a ∧ (∀ x ∈ l, (allL 3 l).a ≤ x ∧ x ≤ (allL 4 l).a) ∧ (allL 3 l).a ∈ l) ?_ ?_ l
    · intro _ _ h; exact absurd rfl h
    · intro l x ih hl hI _
      simp only [List.length_append, List.length_cons, List.length_nil] at hl
      rw [allL_snoc, allL_snoc, allL_snoc]
      by_cases h0 : l = []
      · subst h0
        simp [allL_nil, fJoin, fOne, fRight]
      · obtain ⟨h1, h2, h3, h4⟩ := ih (by omega) (fun y hy => hI y (by simp [hy])) h0
        have hpos : 0 < l.length := List.length_pos_iff.2 h0
        have n3 := (allL_n_good (k := 3) rfl l (by omega)).1
        have n4 := (allL_n_good (k := 4) rfl l (by omega)).1
        have n5 := (allL_n_good (k := 5) rfl l (by omega)).1
        have z3 : (allL 3 l).n ≠ 0 := by rw [n3]; omega
        have z4 : (allL 4 l).n ≠ 0 := by rw [n4]; omega
        have z5 : (allL 5 l).n ≠ 0 := by rw [n5]; omega
        have f3 : fJoin 3 (allL 3 l) (fOne 3 x) = ⟨wrap64 ((allL 3 l).n + 1), min (allL 3 l).a x, 0⟩ := by simp [fJoin, fOne, fRight, z3, joinA, joinB]
        have f4 : fJoin 4 (allL 4 l) (fOne 4 x) = ⟨wrap64 ((allL 4 l).n + 1), max (allL 4 l).a x, 0⟩ := by simp [fJoin, fOne, fRight, z4, joinA, joinB]
        have f5 : fJoin 5 (allL 5 l) (fOne 5 x) = ⟨wrap64 ((allL 5 l).n + 1), min (allL 5 l).a x, max (allL 5 l).b x⟩ := by simp [fJoin, fOne, fRight, z5, joinA, joinB]
        rw [f3, f4, f5]
        refine ⟨by simp only [h1], by simp only [h2], fun y hy => ?_, ?_⟩
        · simp only [List.mem_append, List.mem_singleton] at hy
          simp only
          rcases hy with hy | rfl
          · have := h3 y hy; omega
          · omega
        · simp only [List.mem_append, List.mem_singleton]
          rcases Int.le_total (allL 3 l).a x with h5 | h5
          · left; rw [Int.min_eq_left h5]; exact h4
          · right; exact Int.min_eq_right h5
  by_cases h0 : l = []
  · subst h0
    simp [allL_nil, fVal, wrap64]
  · obtain ⟨h1, h2, h3, h4⟩ := key hl hI h0
    have hpos : 0 < l.length := List.length_pos_iff.2 h0
    have n1 := (allL_n_good (k := 1) rfl l (by omega)).1
    have n3 := (allL_n_good (k := 3) rfl l (by omega)).1
    have n4 := (allL_n_good (k := 4) rfl l (by omega)).1
    have n5 := (allL_n_good (k := 5) rfl l (by omega)).1
    have v1 : fVal 1 (allL 1 l) = (allL 1 l).n := by simp [fVal, fRight]; omega
    have v3 : fVal 3 (allL 3 l) = (allL 3 l).a := by simp [fVal, fRight]; intro; omega
    have v4 : fVal 4 (allL 4 l) = (allL 4 l).a := by simp [fVal, fRight]; intro; omega
    have v5 : fVal 5 (allL 5 l) = wrap64 ((allL 5 l).b - (allL 5 l).a) := by simp [fVal, fRight]; intro; omega
    rw [v1, v3, v4, v5, h1, h2, n1]
    exact ⟨rfl, rfl, h3, fun _ => h4⟩
theorem fVal_i64 {k : Int} {x : Acc} (h1 : I64 x.n) (h2 : I64 x.a) : I64 (fVal k x) := by
  unfold fVal
  split
  · exact ⟨by omega, by omega⟩
  · split
    · exact h1
    · split
      · exact wrap64_i64 _
      · exact h2

set_option maxHeartbeats 1000000 in
theorem FoldEnds_walk (A : Option Addr) (n c : Nat) (xs : List Int) (w : World) (HN : Hid (n = xs.length)) (hr : Reads w w.heap.size 1 A n (xs.map (Value.int .i64))) (hn : n ≤ c) (hc : c ≤ 9223372036854775807) (hI : ∀ x ∈ xs, I64 x) :
    Calls Try.prog 8 #[.slice A n c] w fun e w' => e = .returned (.bool true) ∧ Below w.heap.size w w' := by
  go_enter Try.func8, Try.ntmps8
  go_wp2_with fail
  refine (law06_short _ _ _ xs w.heap.size _ HN hr hn hc).mono ?_
  rintro e w0 ⟨n1, xs1, HN1, HX1, hn1, rfl, hr1, hc1, rfl⟩
  have hI1 : ∀ x ∈ xs1, I64 x := fun x hx => hI x (List.mem_of_mem_take (HX1.out ▸ hx))
  obtain ⟨q1, q5, q34, qin⟩ := ends xs1 (by have := HN1.out; omega) hI1
  have Q1 := hide q1
  have Q5 := hide q5
  have Q34 := hide q34
  have QIN := hide qin
  clear q1 q5 q34 qin hI1
  go_wp2_with fail
  refine (fold_All _ _ _ _ xs1 _ _ HN1 hr1 (Nat.le_refl _) (by omega)).mono ?_
  rintro e w1 ⟨x1, HX2, rfl, hch⟩
  go_wp2_with fail
  refine (fold_Val _ _ _ _ _).mono ?_
  rintro e w2 ⟨rfl, hb2⟩
  have hch := Gr.call hch hb2
  generalize hlo : fVal 3 _ = lo
  have HLO : Hid (lo = fVal 3 (allL 3 xs1)) := hide (by rw [← HX2.out]; exact hlo.symm)
  clear hlo
  go_wp2_with fail
  refine (fold_All _ _ _ _ xs1 _ _ HN1 (hr1.below_le hch (Nat.le_refl _)) hch.size (by omega)).mono ?_
  rintro e w3 ⟨x3, HX3, rfl, hb3⟩
  have hch := Gr.call hch hb3
  go_wp2_with fail
  refine (fold_Val _ _ _ _ _).mono ?_
  rintro e w4 ⟨rfl, hb4⟩
  have hch := Gr.call hch hb4
  generalize hhi : fVal 4 _ = hi
  have HHI : Hid (hi = fVal 4 (allL 4 xs1)) := hide (by rw [← HX3.out]; exact hhi.symm)
  clear hhi
  go_wp2_with fail
  refine (fold_All _ _ _ _ xs1 _ _ HN1 (hr1.below_le hch (Nat.le_refl _)) hch.size (by omega)).mono ?_
  rintro e w5 ⟨x5, HX5, rfl, hb5⟩
  have hch := Gr.call hch hb5
  go_wp2_with fail
  refine (fold_Val _ _ _ _ _).mono ?_
  rintro e w6 ⟨rfl, hb6⟩
  have hch := Gr.call hch hb6
  have e1 : fVal 1 ⟨x5.n, x5.a, x5.b⟩ = (n1 : Int) := by
    have h1 := HX5.out; have h2 := Q1.out; have h3 := HN1.out
    rw [show (⟨x5.n, x5.a, x5.b⟩ : Acc) = x5 from rfl, h1, h2, h3]
  rw [e1]
  clear e1
  go_wp2_with fail
  refine (fold_All _ _ _ _ xs1 _ _ HN1 (hr1.below_le hch (Nat.le_refl _)) hch.size (by omega)).mono ?_
  rintro e w7 ⟨x7, HX7, rfl, hb7⟩
  have hch := Gr.call hch hb7
  go_wp2_with fail
  refine (fold_Val _ _ _ _ _).mono ?_
  rintro e w8 ⟨rfl, hb8⟩
  have hch := Gr.call hch hb8
  have e5 : fVal 5 ⟨x7.n, x7.a, x7.b⟩ = wrap64 (hi - lo) := by
    have h1 := HX7.out; have h2 := Q5.out
    rw [show (⟨x7.n, x7.a, x7.b⟩ : Acc) = x7 from rfl, h1, h2, HLO.out, HHI.out]
  rw [e5]
  clear e5
  go_wp2_with fail
  have HR := hide (hr1.below_le hch (Nat.le_refl _))
  have hb := hch
  have hn1' : (n1 : Int) ≤ 2000 := by omega
  clear hb2 hb3 hb4 hb5 hb6 hb7 hb8 hch hr hr1
  go_loop [5, 36] (fun s i => ∃ (q : Nat) (sb : Bool), q ≤ n1 ∧ i = .int .i64 q ∧ s = .bool sb ∧ Hid (sb = true ↔ (n1 = 0 ∨ lo ∈ xs1.take q))) (fun _ i => n1 - (intOf i).toNat)
  case atStart => exact ⟨0, _, Nat.zero_le _, rfl, rfl, hide (by simp)⟩
  case round =>
    obtain ⟨q, sb, hq, rfl, rfl, HS⟩ := hrel
    by_cases hlt : q < n1
    · obtain ⟨b, off, rfl, hbB, hcell⟩ := HR.out.2 (by omega)
      have hxq : q < xs1.length := by rw [← HN1.out]; exact hlt
      have hx : w8.cell? ⟨b, off + q, none⟩ = some (.int .i64 xs1[q]) := hcell q _ (by simp [hxq])
      have hlt' : (q : Int) < n1 := by omega
      have hq0 : (0 : Int) ≤ q := by omega
      have hv := Q34.out xs1[q] (List.getElem_mem hxq)
      rw [← HLO.out, ← HHI.out] at hv
      obtain ⟨hv1, hv2⟩ := hv
      have hts := take_snoc xs1 q hxq
      generalize xs1[q] = v at hx hv1 hv2 hts
      have HTS := hide hts
      clear hts hcell
      have d1 : decide (v < lo) = false := by simp; omega
      have d2 : decide (hi < v) = false := by simp; omega
      by_cases hvl : v = lo
      · subst hvl
        cases sb
        all_goals
          go_wp2
          go_round
          case rel => exact ⟨q + 1, true, by omega, by go_num, rfl, hide (by rw [HTS.out]; simp)⟩
          case measure => simp [intOf]; omega
      · have d3 : (v == lo) = false := by simpa using hvl
        cases sb
        · go_wp2
          go_round
          case rel =>
            refine ⟨q + 1, false, by omega, by go_num, rfl, hide ?_⟩
            have h := HS.out
            rw [HTS.out]
            simp only [Bool.false_eq_true, false_iff, not_or, List.mem_append, List.mem_singleton] at h ⊢
            exact ⟨h.1, h.2, fun e => hvl e.symm⟩
          case measure => simp [intOf]; omega
        · go_wp2
          go_round
          case rel =>
            refine ⟨q + 1, true, by omega, by go_num, rfl, hide ?_⟩
            have h := HS.out
            rw [HTS.out]
            simp only [true_iff, List.mem_append] at h ⊢
            rcases h with h | h
            · exact .inl h
            · exact .inr (.inl h)
          case measure => simp [intOf]; omega
    · have hsb : sb = true := by
        have h := HS.out
        have hq1 : q = xs1.length := by have := HN1.out; omega
        rw [hq1, List.take_length] at h
        apply h.2
        by_cases h0 : xs1 = []
        · left; rw [HN1.out, h0]; rfl
        · right; rw [HLO.out]; exact QIN.out h0
      subst hsb
      go_wp2_with (go_at_call 9; refine (fold_Right _ _).mono ?_; rintro e w' ⟨rfl, rfl⟩)
      go_ret
      exact ⟨rfl, hb⟩

theorem foldEnds_contract (H : Type) (enc : TypeId × Value → H) (W : World) (base : Nat) (args : Array Value) (ds gs : List (DataW H)) (before : List MemPlace)
    (hval0 : ∀ (j : Nat) t v, Try.f8.params[j]? = some t → args[j]? = some v → Value.okWide Try.prog W .any base t v)
    (hW : DataW.Whole enc Try.prog Try.f8.params.toList Rows.foldEndsSpec.vars false W args.toList ds gs before) :
    Calls Try.prog 8 args W fun e W' => ∃ v, e = .returned v ∧ Rows.foldEndsSpec.post enc Try.prog Try.f8 false true false false W args v W' := by
  have hval := hval0
  have hW' := hW
  obtain ⟨p, q, hA0, hV, rfl, hfz, hnd⟩ := hW
  have hA : DataW.TrodAll enc Try.prog W 0 (fun _ => true) true Try.f8.params.toList args.toList ds p := hA0
  rw [Try.params8] at hA hval
  obtain ⟨v0, vs0, d0, ds0, p0, q0, hargs, rfl, rfl, h0, r0⟩ := trodAll_cons hA
  obtain ⟨rfl, rfl, rfl⟩ := trodAll_nil r0
  obtain rfl : args = #[v0] := by cases args; simp_all
  obtain ⟨rfl, rfl⟩ := trodVars_none hV
  clear hA0 hval0
  obtain ⟨A, n, c, xs, rfl, hn, hc, HN, hr, hI⟩ := open_ints_arg (hval 0 28 v0 rfl rfl) h0
  refine (FoldEnds_walk A n c xs W HN hr hn hc hI).mono fun e W' ⟨he, hb⟩ => ?_
  subst he
  exact ⟨_, rfl, post_law @A_laidOut (rd_of (by kernel_rfl : (Try.f8.params.toList.all fun t => Try.prog.readableRec t && decide (t < Try.prog.types.size)) = true)) rfl rfl Try.underlying4 hW' rfl hb⟩

theorem foldEnds_own : ownKnob Try.prog.godebug = none := by kernel_rfl
set_option maxRecDepth 100000 in
theorem foldEnds_lifted (os : Os) (started : os.Started) (H : Type) (enc : TypeId × Value → H) :
    ReturnsInHanded {} Try.checked os 8 .any (Rows.foldEndsSpec.pre6 enc Try.prog Try.f8 Rows.foldEndsRow.domain false) (Rows.foldEndsSpec.post enc Try.prog Try.f8 false true false false) := by
  refine returnsInHanded_of_change (C := Try.checked) foldEnds_own started (by kernel_rfl) Try.func8
    (ChangeSpec.witness6 (enc := enc) (C := Try.checked) false ⟨#[], #[.slice none 0 0], []⟩ 8 (by kernel_rfl) (by kernel_rfl) (by kernel_rfl) (by kernel_rfl)) ?_
  intro W base args ds gs before hval hW _ _
  exact foldEnds_contract H enc W base args ds gs before hval hW
theorem foldEnds_proved : Rows.FoldEndsSaid :=
  OpenClaim.holds_of_wide 8 Try.f8 rfl rfl rfl rfl rfl rfl rfl ⟨rfl, rfl, rfl, rfl, rfl⟩ rfl rfl rfl rfl rfl (by kernel_rfl) Try.func8 (by kernel_rfl)
    (of_decide_eq_true (by kernel_rfl)) (by unfold Func.isWrapper; first | (rw [if_pos (by decide +kernel)]; kernel_rfl) | (rw [if_neg (by decide +kernel)]; exact ⟨rfl, rfl⟩))
    (fun os started H enc _ => foldEnds_lifted os started H enc)
end Go.Proofs.Ytnjhgconfbkjmab
