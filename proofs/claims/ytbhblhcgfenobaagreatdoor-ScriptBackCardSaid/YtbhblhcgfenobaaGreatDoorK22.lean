/-
  Scripts read by the reference: acts, the job's lines.
  Walks over abstract values: numbers that may wrap. Over whatever program. No condition.
-/
import Derived.Test.YtbhblhcgfenobaaGreatDoorK4
import Derived.Test.YtbhblhcgfenobaaGreatDoorK8
import Derived.Test.YtbhblhcgfenobaaGreatDoorK17
import Derived.Test.YtbhblhcgfenobaaGreatDoorK21
namespace Go.Proofs.YtbhblhcgfenobaaGreatDoor
open Go.RowKit
set_option linter.unusedSimpArgs false
set_option linter.unusedVariables false
set_option maxHeartbeats 8000000 in
theorem p_ractY (w : ByteArray) (r : List ByteArray) {K : Nat} (h : wdIx w = some K) (hsm : ∀ x ∈ r, Sm x) (hl : r.length ≤ 4294967290) : ∃ a : Ac, (okA K r = true → a = aA K r) ∧ PC Tryz.prog 24 [.sl 1 ((w :: r).map stAv)] (.tup [.agg a.av, .v (.bool (okA K r))]) := by
  obtain ⟨hK, hlo, hhit⟩ := wdIx_some h
  have hel0 : ((w :: r).map stAv)[0]? = some [.v (.string w)] := by simp [stAv]
  have hAl : ((w :: r).map stAv).length = r.length + 1 := by simp
  have hel1 : ∀ x, r = [x] → ((w :: r).map stAv)[1]? = some [.v (.string x)] := fun x hx => by rw [hx]; simp [stAv]
  generalize (w :: r).map stAv = A at *
  obtain ⟨a, ha⟩ : ∃ a, a = if okA K r = true then aA K r else ⟨(K : Int), 0, 0⟩ := ⟨_, rfl⟩
  obtain ⟨b, hb0⟩ : ∃ b, b = okA K r := ⟨_, rfl⟩
  refine ⟨a, fun h => by rw [ha, if_pos h], ?_⟩
  rw [← hb0]
  obtain ⟨a1, a2, a3⟩ := a
  unfold Ac.av
  dsimp only
  refine PC.mk (ac_body tab_ok Tryz.func24 rfl (by kernel_rfl) rfl ?_); intro w0 M μ0; simp only [Tryz.ntmps24, List.length_cons, List.length_nil, Nat.reduceAdd, Nat.reduceSub, numb]
  repeat' (first | ((first | apply o_do | apply d_do | apply d_yes rfl rfl rfl); exact lsq) | refine a_seq ?_ | refine a_region ?_ | refine o_nil ?_ | refine a_block ?_ | refine a_ret ?_ | refine a_exit ?_ | refine a_skip ?_ | refine a_draw mixed ?_ | refine d_nil (by kernel_rfl) ?_ | refine o_yes rfl rfl rfl ?_ | refine o_no rfl rfl rfl (by decide) ?_ | refine o_no' rfl rfl rfl ?_ | refine a_condT rfl ?_ | refine a_condF rfl ?_ | refine d_no rfl rfl rfl (by decide) ?_ | refine d_no' rfl rfl rfl ?_ | (refine wq2 (fun hb => ?_) (fun hb => ?_) <;> (simp only [hb]; try simp only [hbs, ne_eq] at hb; try (exfalso; first | omega | exact hb trivial))) | fail)
  refine a_loop (X := {q : Nat // q ≤ K}) (fun x => ⟨[(0, .sl 1 A), (2, .ref 0 0), (3, .v (.bool false)), (4, .v (.int .i64 x.1))], [(0, .box 52 [.v (.int .i64 0), .v (.int .i64 0), .v (.int .i64 0)])]⟩) (fun x => K - x.1) ⟨0, Nat.zero_le _⟩ ?_ ?_
  · exact wkS
  rintro ⟨q, hq⟩
  dsimp only
  have hW := p_rWordY q (by omega)
  have hA := p_rWhich q (by omega)
  have hB := p_rWho q (by omega)
  by_cases hlt : q < K
  · have hn := hlo q hlt
    generalize wdB q = W at *
    generalize wdN q = n at *
    repeat' (first | ((first | apply o_do | apply d_do | apply d_yes rfl rfl rfl); first | exact lsc (hW) | exact ls_indexAddr_sl (q := 0) tab_ok rfl rfl rfl rfl hel0 rfl | exact lsq) | refine a_seq ?_ | refine a_region ?_ | refine o_nil ?_ | refine a_block ?_ | refine a_ret ?_ | refine a_exit ?_ | refine a_skip ?_ | refine a_draw mixed ?_ | refine d_nil (by kernel_rfl) ?_ | refine o_yes rfl rfl rfl ?_ | refine o_no rfl rfl rfl (by decide) ?_ | refine o_no' rfl rfl rfl ?_ | refine a_condT rfl ?_ | refine a_condF rfl ?_ | refine d_no rfl rfl rfl (by decide) ?_ | refine d_no' rfl rfl rfl ?_ | (refine wq2 (fun hb => ?_) (fun hb => ?_) <;> (simp only [hb]; try simp only [hbs, ne_eq] at hb; try (exfalso; first | omega | exact hb trivial))) | fail)
    all_goals try (exfalso; simp_all; done)
    all_goals refine ⟨⟨q + 1, by omega⟩, by dsimp only; omega, ?_⟩
    all_goals exact wkS
  · obtain rfl : q = K := by omega
    clear hlo
    unfold aA okA at ha
    unfold okA at hb0
    rcases wdN_in q with h0 | h0 | h0
    · rw [if_pos h0, if_pos h0] at ha
      rw [if_pos h0] at hb0
      rw [ite_self] at ha
      injection ha with e1 e2 e3
      subst e1 e2 e3 hb0
      rw [h0] at hA hB
      generalize wdB q = W at *
      repeat' (first | ((first | apply o_do | apply d_do | apply d_yes rfl rfl rfl); first | exact lsc (hW) | exact lsc (hA) | exact lsc (hB) | exact ls_indexAddr_sl (q := 0) tab_ok rfl rfl rfl rfl hel0 rfl | exact lsq) | refine a_seq ?_ | refine a_region ?_ | refine o_nil ?_ | refine a_block ?_ | refine a_ret ?_ | refine a_exit ?_ | refine a_skip ?_ | refine a_draw mixed ?_ | refine d_nil (by kernel_rfl) ?_ | refine o_yes rfl rfl rfl ?_ | refine o_no rfl rfl rfl (by decide) ?_ | refine o_no' rfl rfl rfl ?_ | refine a_condT rfl ?_ | refine a_condF rfl ?_ | refine d_no rfl rfl rfl (by decide) ?_ | refine d_no' rfl rfl rfl ?_ | (refine wq2 (fun hb => ?_) (fun hb => ?_) <;> (simp only [hb]; try simp only [hbs, ne_eq] at hb; try (exfalso; first | omega | exact hb trivial))) | fail)
      all_goals try (exfalso; simp_all; done)
      all_goals refine rq rfl ?_
      all_goals (first | refine FinA.tup ?_ | refine FinA.one ?_); repeat' (first | exact FinBs.nil | exact FinCs.nil | refine FinBs.cons ?_ ?_ | refine FinCs.cons ?_ ?_ | refine FinB.cell (FinC.v ?_) | refine FinB.cell (FinC.own rfl rfl rfl ?_) | exact FinB.cell FinC.nil | refine FinB.cell (FinC.sl ?_) | exact FinB.agg' rfl rfl | exact FinB.cell (FinC.same rfl) | refine FinB.agg ?_ | refine FinC.v ?_ | refine FinC.own rfl rfl rfl ?_ | exact FinC.nil | refine FinC.sl ?_ | exact FinC.same rfl); all_goals try rfl
      all_goals (rw [hAl]; congr 1; simp; exact ⟨fun h => List.eq_nil_of_length_eq_zero (by omega), fun h => by rw [h]; rfl⟩)
    all_goals
      have hne : ¬ (wdN q = 0) := by rw [h0]; decide
      simp only [if_neg hne] at ha hb0
      rw [h0] at hA hB
      unfold mkA at ha
      rw [h0] at ha
      generalize wdB q = W at *
    · match r, hsm with
      | [], _ =>
        dsimp only at ha hb0
        rw [ite_self] at ha
        injection ha with e1 e2 e3
        subst e1 e2 e3 hb0
        rw [List.length_nil] at hAl
        repeat' (first | ((first | apply o_do | apply d_do | apply d_yes rfl rfl rfl); first | exact lsc (hW) | exact lsc (hA) | exact lsc (hB) | exact ls_indexAddr_sl (q := 0) tab_ok rfl rfl rfl rfl hel0 rfl | exact lsq) | refine a_seq ?_ | refine a_region ?_ | refine o_nil ?_ | refine a_block ?_ | refine a_ret ?_ | refine a_exit ?_ | refine a_skip ?_ | refine a_draw mixed ?_ | refine d_nil (by kernel_rfl) ?_ | refine o_yes rfl rfl rfl ?_ | refine o_no rfl rfl rfl (by decide) ?_ | refine o_no' rfl rfl rfl ?_ | refine a_condT rfl ?_ | refine a_condF rfl ?_ | refine d_no rfl rfl rfl (by decide) ?_ | refine d_no' rfl rfl rfl ?_ | (refine wq2 (fun hb => ?_) (fun hb => ?_) <;> (simp only [hb]; try simp only [hbs, ne_eq] at hb; try (exfalso; first | omega | exact hb trivial))) | fail)
        all_goals try (exfalso; simp_all; done)
        all_goals try (exfalso; omega)
        all_goals refine rq rfl ?_
        all_goals exact fnq
      | [x], hsm =>
        have hN := p_rNumber x (hsm x (by simp))
        have hv := (numS_iff x).2
        dsimp only at ha hb0
        simp only [if_pos (show (1 : Int) = 1 from rfl)] at ha
        have hel := hel1 x rfl
        rw [List.length_cons, List.length_nil] at hAl
        generalize (numS x).1 = n at *
        cases hz : numB x
        · rw [hz] at hN
          simp only [hz, Bool.false_and, Bool.false_eq_true, if_false] at ha hb0
          injection ha with e1 e2 e3
          subst e1 e2 e3 hb0
          repeat' (first | ((first | apply o_do | apply d_do | apply d_yes rfl rfl rfl); first | exact lsc (hW) | exact lsc (hA) | exact lsc (hB) | exact lsc (hN) | exact ls_indexAddr_sl (q := 0) tab_ok rfl rfl rfl rfl hel0 rfl | exact ls_indexAddr_sl (q := 1) tab_ok rfl rfl rfl rfl hel rfl | exact lsq) | refine a_seq ?_ | refine a_region ?_ | refine o_nil ?_ | refine a_block ?_ | refine a_ret ?_ | refine a_exit ?_ | refine a_skip ?_ | refine a_draw mixed ?_ | refine d_nil (by kernel_rfl) ?_ | refine o_yes rfl rfl rfl ?_ | refine o_no rfl rfl rfl (by decide) ?_ | refine o_no' rfl rfl rfl ?_ | refine a_condT rfl ?_ | refine a_condF rfl ?_ | refine d_no rfl rfl rfl (by decide) ?_ | refine d_no' rfl rfl rfl ?_ | (refine wq2 (fun hb => ?_) (fun hb => ?_) <;> (simp only [hb]; try simp only [hbs, ne_eq] at hb; try (exfalso; first | omega | exact hb trivial))) | fail)
          all_goals try (exfalso; simp_all; done)
          all_goals try (exfalso; omega)
          all_goals refine rq rfl ?_
          all_goals exact fnq
        · rw [hz] at hN
          simp only [hz, Bool.true_and] at ha hb0
          have hv := hv hz
          subst hv
          by_cases hm : numV x ≤ 1000000
          · simp only [decide_eq_true hm, if_true] at ha hb0
            injection ha with e1 e2 e3
            subst e1 e2 e3 hb0
            generalize numV x = v at *
            repeat' (first | ((first | apply o_do | apply d_do | apply d_yes rfl rfl rfl); first | exact lsc (hW) | exact lsc (hA) | exact lsc (hB) | exact lsc (hN) | exact ls_indexAddr_sl (q := 0) tab_ok rfl rfl rfl rfl hel0 rfl | exact ls_indexAddr_sl (q := 1) tab_ok rfl rfl rfl rfl hel rfl | exact lsq) | refine a_seq ?_ | refine a_region ?_ | refine o_nil ?_ | refine a_block ?_ | refine a_ret ?_ | refine a_exit ?_ | refine a_skip ?_ | refine a_draw mixed ?_ | refine d_nil (by kernel_rfl) ?_ | refine o_yes rfl rfl rfl ?_ | refine o_no rfl rfl rfl (by decide) ?_ | refine o_no' rfl rfl rfl ?_ | refine a_condT rfl ?_ | refine a_condF rfl ?_ | refine d_no rfl rfl rfl (by decide) ?_ | refine d_no' rfl rfl rfl ?_ | (refine wq2 (fun hb => ?_) (fun hb => ?_) <;> (simp only [hb]; try simp only [hbs, ne_eq] at hb; try (exfalso; first | omega | exact hb trivial))) | fail)
            all_goals try (exfalso; simp_all; done)
            all_goals try (exfalso; omega)
            all_goals refine rq rfl ?_
            all_goals exact fnq
          · simp only [decide_eq_false hm, Bool.false_eq_true, if_false] at ha hb0
            injection ha with e1 e2 e3
            subst e1 e2 e3 hb0
            generalize numV x = v at *
            repeat' (first | ((first | apply o_do | apply d_do | apply d_yes rfl rfl rfl); first | exact lsc (hW) | exact lsc (hA) | exact lsc (hB) | exact lsc (hN) | exact ls_indexAddr_sl (q := 0) tab_ok rfl rfl rfl rfl hel0 rfl | exact ls_indexAddr_sl (q := 1) tab_ok rfl rfl rfl rfl hel rfl | exact lsq) | refine a_seq ?_ | refine a_region ?_ | refine o_nil ?_ | refine a_block ?_ | refine a_ret ?_ | refine a_exit ?_ | refine a_skip ?_ | refine a_draw mixed ?_ | refine d_nil (by kernel_rfl) ?_ | refine o_yes rfl rfl rfl ?_ | refine o_no rfl rfl rfl (by decide) ?_ | refine o_no' rfl rfl rfl ?_ | refine a_condT rfl ?_ | refine a_condF rfl ?_ | refine d_no rfl rfl rfl (by decide) ?_ | refine d_no' rfl rfl rfl ?_ | (refine wq2 (fun hb => ?_) (fun hb => ?_) <;> (simp only [hb]; try simp only [hbs, ne_eq] at hb; try (exfalso; first | omega | exact hb trivial))) | fail)
            all_goals try (exfalso; simp_all; done)
            all_goals try (exfalso; omega)
            all_goals refine rq rfl ?_
            all_goals exact fnq
      | _ :: _ :: t, _ =>
        dsimp only at ha hb0
        rw [ite_self] at ha
        injection ha with e1 e2 e3
        subst e1 e2 e3 hb0
        rw [List.length_cons, List.length_cons] at hAl
        repeat' (first | ((first | apply o_do | apply d_do | apply d_yes rfl rfl rfl); first | exact lsc (hW) | exact lsc (hA) | exact lsc (hB) | exact ls_indexAddr_sl (q := 0) tab_ok rfl rfl rfl rfl hel0 rfl | exact lsq) | refine a_seq ?_ | refine a_region ?_ | refine o_nil ?_ | refine a_block ?_ | refine a_ret ?_ | refine a_exit ?_ | refine a_skip ?_ | refine a_draw mixed ?_ | refine d_nil (by kernel_rfl) ?_ | refine o_yes rfl rfl rfl ?_ | refine o_no rfl rfl rfl (by decide) ?_ | refine o_no' rfl rfl rfl ?_ | refine a_condT rfl ?_ | refine a_condF rfl ?_ | refine d_no rfl rfl rfl (by decide) ?_ | refine d_no' rfl rfl rfl ?_ | (refine wq2 (fun hb => ?_) (fun hb => ?_) <;> (simp only [hb]; try simp only [hbs, ne_eq] at hb; try (exfalso; first | omega | exact hb trivial))) | fail)
        all_goals try (exfalso; simp_all; done)
        all_goals try (exfalso; omega)
        all_goals refine rq rfl ?_
        all_goals exact fnq
    · match r, hsm with
      | [], _ =>
        dsimp only at ha hb0
        rw [ite_self] at ha
        injection ha with e1 e2 e3
        subst e1 e2 e3 hb0
        rw [List.length_nil] at hAl
        repeat' (first | ((first | apply o_do | apply d_do | apply d_yes rfl rfl rfl); first | exact lsc (hW) | exact lsc (hA) | exact lsc (hB) | exact ls_indexAddr_sl (q := 0) tab_ok rfl rfl rfl rfl hel0 rfl | exact lsq) | refine a_seq ?_ | refine a_region ?_ | refine o_nil ?_ | refine a_block ?_ | refine a_ret ?_ | refine a_exit ?_ | refine a_skip ?_ | refine a_draw mixed ?_ | refine d_nil (by kernel_rfl) ?_ | refine o_yes rfl rfl rfl ?_ | refine o_no rfl rfl rfl (by decide) ?_ | refine o_no' rfl rfl rfl ?_ | refine a_condT rfl ?_ | refine a_condF rfl ?_ | refine d_no rfl rfl rfl (by decide) ?_ | refine d_no' rfl rfl rfl ?_ | (refine wq2 (fun hb => ?_) (fun hb => ?_) <;> (simp only [hb]; try simp only [hbs, ne_eq] at hb; try (exfalso; first | omega | exact hb trivial))) | fail)
        all_goals try (exfalso; simp_all; done)
        all_goals try (exfalso; omega)
        all_goals refine rq rfl ?_
        all_goals exact fnq
      | [x], hsm =>
        have hN := p_rNumber x (hsm x (by simp))
        have hv := (numS_iff x).2
        dsimp only at ha hb0
        simp only [if_neg (show ¬ ((2 : Int) = 1) by decide)] at ha
        have hel := hel1 x rfl
        rw [List.length_cons, List.length_nil] at hAl
        generalize (numS x).1 = n at *
        cases hz : numB x
        · rw [hz] at hN
          simp only [hz, Bool.false_and, Bool.false_eq_true, if_false] at ha hb0
          injection ha with e1 e2 e3
          subst e1 e2 e3 hb0
          repeat' (first | ((first | apply o_do | apply d_do | apply d_yes rfl rfl rfl); first | exact lsc (hW) | exact lsc (hA) | exact lsc (hB) | exact lsc (hN) | exact ls_indexAddr_sl (q := 0) tab_ok rfl rfl rfl rfl hel0 rfl | exact ls_indexAddr_sl (q := 1) tab_ok rfl rfl rfl rfl hel rfl | exact lsq) | refine a_seq ?_ | refine a_region ?_ | refine o_nil ?_ | refine a_block ?_ | refine a_ret ?_ | refine a_exit ?_ | refine a_skip ?_ | refine a_draw mixed ?_ | refine d_nil (by kernel_rfl) ?_ | refine o_yes rfl rfl rfl ?_ | refine o_no rfl rfl rfl (by decide) ?_ | refine o_no' rfl rfl rfl ?_ | refine a_condT rfl ?_ | refine a_condF rfl ?_ | refine d_no rfl rfl rfl (by decide) ?_ | refine d_no' rfl rfl rfl ?_ | (refine wq2 (fun hb => ?_) (fun hb => ?_) <;> (simp only [hb]; try simp only [hbs, ne_eq] at hb; try (exfalso; first | omega | exact hb trivial))) | fail)
          all_goals try (exfalso; simp_all; done)
          all_goals try (exfalso; omega)
          all_goals refine rq rfl ?_
          all_goals exact fnq
        · rw [hz] at hN
          simp only [hz, Bool.true_and] at ha hb0
          have hv := hv hz
          subst hv
          by_cases hm : numV x ≤ 1000000
          · simp only [decide_eq_true hm, if_true] at ha hb0
            injection ha with e1 e2 e3
            subst e1 e2 e3 hb0
            generalize numV x = v at *
            repeat' (first | ((first | apply o_do | apply d_do | apply d_yes rfl rfl rfl); first | exact lsc (hW) | exact lsc (hA) | exact lsc (hB) | exact lsc (hN) | exact ls_indexAddr_sl (q := 0) tab_ok rfl rfl rfl rfl hel0 rfl | exact ls_indexAddr_sl (q := 1) tab_ok rfl rfl rfl rfl hel rfl | exact lsq) | refine a_seq ?_ | refine a_region ?_ | refine o_nil ?_ | refine a_block ?_ | refine a_ret ?_ | refine a_exit ?_ | refine a_skip ?_ | refine a_draw mixed ?_ | refine d_nil (by kernel_rfl) ?_ | refine o_yes rfl rfl rfl ?_ | refine o_no rfl rfl rfl (by decide) ?_ | refine o_no' rfl rfl rfl ?_ | refine a_condT rfl ?_ | refine a_condF rfl ?_ | refine d_no rfl rfl rfl (by decide) ?_ | refine d_no' rfl rfl rfl ?_ | (refine wq2 (fun hb => ?_) (fun hb => ?_) <;> (simp only [hb]; try simp only [hbs, ne_eq] at hb; try (exfalso; first | omega | exact hb trivial))) | fail)
            all_goals try (exfalso; simp_all; done)
            all_goals try (exfalso; omega)
            all_goals refine rq rfl ?_
            all_goals exact fnq
          · simp only [decide_eq_false hm, Bool.false_eq_true, if_false] at ha hb0
            injection ha with e1 e2 e3
            subst e1 e2 e3 hb0
            generalize numV x = v at *
            repeat' (first | ((first | apply o_do | apply d_do | apply d_yes rfl rfl rfl); first | exact lsc (hW) | exact lsc (hA) | exact lsc (hB) | exact lsc (hN) | exact ls_indexAddr_sl (q := 0) tab_ok rfl rfl rfl rfl hel0 rfl | exact ls_indexAddr_sl (q := 1) tab_ok rfl rfl rfl rfl hel rfl | exact lsq) | refine a_seq ?_ | refine a_region ?_ | refine o_nil ?_ | refine a_block ?_ | refine a_ret ?_ | refine a_exit ?_ | refine a_skip ?_ | refine a_draw mixed ?_ | refine d_nil (by kernel_rfl) ?_ | refine o_yes rfl rfl rfl ?_ | refine o_no rfl rfl rfl (by decide) ?_ | refine o_no' rfl rfl rfl ?_ | refine a_condT rfl ?_ | refine a_condF rfl ?_ | refine d_no rfl rfl rfl (by decide) ?_ | refine d_no' rfl rfl rfl ?_ | (refine wq2 (fun hb => ?_) (fun hb => ?_) <;> (simp only [hb]; try simp only [hbs, ne_eq] at hb; try (exfalso; first | omega | exact hb trivial))) | fail)
            all_goals try (exfalso; simp_all; done)
            all_goals try (exfalso; omega)
            all_goals refine rq rfl ?_
            all_goals exact fnq
      | _ :: _ :: t, _ =>
        dsimp only at ha hb0
        rw [ite_self] at ha
        injection ha with e1 e2 e3
        subst e1 e2 e3 hb0
        rw [List.length_cons, List.length_cons] at hAl
        repeat' (first | ((first | apply o_do | apply d_do | apply d_yes rfl rfl rfl); first | exact lsc (hW) | exact lsc (hA) | exact lsc (hB) | exact ls_indexAddr_sl (q := 0) tab_ok rfl rfl rfl rfl hel0 rfl | exact lsq) | refine a_seq ?_ | refine a_region ?_ | refine o_nil ?_ | refine a_block ?_ | refine a_ret ?_ | refine a_exit ?_ | refine a_skip ?_ | refine a_draw mixed ?_ | refine d_nil (by kernel_rfl) ?_ | refine o_yes rfl rfl rfl ?_ | refine o_no rfl rfl rfl (by decide) ?_ | refine o_no' rfl rfl rfl ?_ | refine a_condT rfl ?_ | refine a_condF rfl ?_ | refine d_no rfl rfl rfl (by decide) ?_ | refine d_no' rfl rfl rfl ?_ | (refine wq2 (fun hb => ?_) (fun hb => ?_) <;> (simp only [hb]; try simp only [hbs, ne_eq] at hb; try (exfalso; first | omega | exact hb trivial))) | fail)
        all_goals try (exfalso; simp_all; done)
        all_goals try (exfalso; omega)
        all_goals refine rq rfl ?_
        all_goals exact fnq
set_option maxHeartbeats 4000000 in
theorem p_rHead (L : List ByteArray) (hs : (unl L).length ≤ 900000000) (hl : L.length ≤ 900000000) : PC Tryz.prog 21 [.sl 1 (L.map stAv)] (.tup [.agg (pars 6 1 zJ (mkB (unl (L.take 6)))).1.av, .v (.int .i64 (pars 6 1 zJ (mkB (unl (L.take 6)))).2.1), .v (.int .i64 (pars 6 1 zJ (mkB (unl (L.take 6)))).2.2)]) := by
  have htk : ∀ k, (unl (L.take k)).length ≤ (unl L).length := fun k => by
    have := congrArg List.length (unl_split L k)
    rw [List.length_append] at this; omega
  have hP := p_rParse (mkB (unl (L.take 6))) (by unfold Sm; rw [← size_list, mkB_list]; have := htk 6; omega)
  have hm : (L.map stAv).length = L.length := by simp
  obtain ⟨J, e, ln, hJ⟩ : ∃ J e ln, pars 6 1 zJ (mkB (unl (L.take 6))) = (J, e, ln) := ⟨_, _, _, rfl⟩
  rw [hJ] at hP ⊢
  dsimp only at hP ⊢
  clear hJ
  obtain ⟨g, sz, sd, kd, fu, li, de, id⟩ := J
  unfold J8.av at *
  dsimp only at *
  refine PC.mk (ac_body tab_ok Tryz.func21 rfl (by kernel_rfl) rfl ?_); intro w0 M μ0; simp only [Tryz.ntmps21, List.length_cons, List.length_nil, Nat.reduceAdd, Nat.reduceSub, numb]
  repeat' (first | ((first | apply o_do | apply d_do | apply d_yes rfl rfl rfl); first | exact ls_build0 (k := 1) tab_ok rfl rfl rfl rfl | exact lsq) | refine a_seq ?_ | refine a_region ?_ | refine o_nil ?_ | refine a_block ?_ | refine a_ret ?_ | refine a_exit ?_ | refine a_skip ?_ | refine a_draw mixed ?_ | refine d_nil (by kernel_rfl) ?_ | refine o_yes rfl rfl rfl ?_ | refine o_no rfl rfl rfl (by decide) ?_ | refine o_no' rfl rfl rfl ?_ | refine a_condT rfl ?_ | refine a_condF rfl ?_ | refine d_no rfl rfl rfl (by decide) ?_ | refine d_no' rfl rfl rfl ?_ | (refine wq2 (fun hb => ?_) (fun hb => ?_) <;> (simp only [hb]; try simp only [hbs, ne_eq] at hb; try (exfalso; first | omega | exact hb trivial))) | fail)
  refine a_loop (X := {q : Nat // q ≤ L.length}) (fun x => ⟨[(2, .ref 0 0), (3, .v (.int .i64 0)), (4, .v (.int .i64 0)), (5, .own 1 ((unl ((L.take 6).take x.1)).map byAv).length), (9, .sl 1 (L.map stAv)), (10, .v (.int .i64 L.length)), (11, .v (.int .i64 x.1))], [(0, .box 23 [.v (.int .i64 0), .v (.int .i64 0), .v (.int .i64 0), .v (.int .i64 0), .v (.int .i64 0), .v (.int .i64 0), .v (.int .i64 0), .v (.int .i64 0)]), (1, .row 5 1 ((unl ((L.take 6).take x.1)).map byAv))]⟩) (fun x => L.length - x.1) ⟨0, Nat.zero_le _⟩ ?_ ?_
  · refine ⟨by repeat' (first | exact trivial | exact FinA.one (FinB.cell (FinC.same rfl)) | exact FinA.one (FinB.cell FinC.nil) | exact FinA.bound rfl | exact FinA.one (FinB.cell (FinC.own rfl rfl rfl rfl)) | exact FinA.one (FinB.cell (FinC.v (by first | rfl | (simp [unl])))) | exact FinA.one (FinB.cell (FinC.ow rfl (by first | rfl | (simp [unl])))) | exact FinA.one (FinB.agg' rfl rfl) | refine ⟨⟨_, rfl, ?_⟩, ?_⟩), by repeat' (first | exact trivial | refine ⟨⟨_, rfl, by first | rfl | (simp [unl]; done) | (simp [renO, *]; done)⟩, by first | rfl | assumption, ?_⟩), rfl⟩
  rintro ⟨q, hq⟩
  dsimp only
  by_cases hlt : q < L.length
  · have hel : (L.map stAv)[q]? = some [.v (.string L[q])] := by simp [hlt, stAv]
    by_cases h6 : q < 6
    · have e1 : (L.take 6).take (q + 1) = (L.take 6).take q ++ [L[q]] := by
        rw [List.take_take, List.take_take, Nat.min_eq_left (by omega), Nat.min_eq_left (by omega)]
        exact take_snoc L q hlt
      have e2 : (unl ((L.take 6).take (q + 1))).map byAv = (unl ((L.take 6).take q)).map byAv ++ (L[q] ++ ⟨#[10]⟩ : ByteArray).data.toList.map byAv := by
        rw [e1, unl_app, List.map_append]
        congr 2
        simp [unl, ByteArray.data_append]
      have hln : (unl ((L.take 6).take (q + 1))).length ≤ 900000000 := by
        rw [List.take_take, Nat.min_eq_left (by omega)]
        have := htk (q + 1); omega
      have e3 : (unl ((L.take 6).take (q + 1))).length = (unl ((L.take 6).take q)).length + (L[q].size + 1) := by
        rw [e1, unl_app, List.length_append]
        simp [unl, size_list]
      have hly : ((unl ((L.take 6).take q)).map byAv).length + (L[q] ++ ⟨#[10]⟩ : ByteArray).size ≤ 100000000000000 := by
        rw [List.length_map, ByteArray.size_append]
        have : (⟨#[10]⟩ : ByteArray).size = 1 := rfl
        omega
      have hsz : L[q].data.size ≤ 900000000 := by have : L[q].data.size = L[q].size := rfl; omega
      clear e1 e3 hln
      generalize L[q] = x at *
      generalize (unl ((L.take 6).take q)).map byAv = LL at *
      repeat' (first | ((first | apply o_do | apply d_do | apply d_yes rfl rfl rfl); first | exact ls_indexAddr_sl tab_ok rfl rfl rfl rfl hel rfl | exact ls_cat rfl rfl (by simp only [ByteArray.size, ByteArray.data_append, Array.size_append, List.size_toArray, List.length_cons, List.length_nil]; omega) rfl | exact ls_appendS tab_ok u8_ok rfl rfl rfl rfl rfl rfl hly rfl | exact lsq) | refine a_seq ?_ | refine a_region ?_ | refine o_nil ?_ | refine a_block ?_ | refine a_ret ?_ | refine a_exit ?_ | refine a_skip ?_ | refine a_draw mixed ?_ | refine d_nil (by kernel_rfl) ?_ | refine o_yes rfl rfl rfl ?_ | refine o_no rfl rfl rfl (by decide) ?_ | refine o_no' rfl rfl rfl ?_ | refine a_condT rfl ?_ | refine a_condF rfl ?_ | refine d_no rfl rfl rfl (by decide) ?_ | refine d_no' rfl rfl rfl ?_ | (refine wq2 (fun hb => ?_) (fun hb => ?_) <;> (simp only [hb]; try simp only [hbs, ne_eq] at hb; try (exfalso; first | omega | exact hb trivial))) | fail)
      all_goals try (exfalso; omega)
      refine ⟨⟨q + 1, by omega⟩, by dsimp only; omega, ?_⟩
      dsimp only
      rw [e2]
      exact wkS
    · have e1 : (L.take 6).take (q + 1) = (L.take 6).take q := by
        rw [List.take_take, List.take_take, Nat.min_eq_right (by omega), Nat.min_eq_right (by omega)]
      repeat' (first | ((first | apply o_do | apply d_do | apply d_yes rfl rfl rfl); first | exact ls_indexAddr_sl tab_ok rfl rfl rfl rfl hel rfl | exact lsq) | refine a_seq ?_ | refine a_region ?_ | refine o_nil ?_ | refine a_block ?_ | refine a_ret ?_ | refine a_exit ?_ | refine a_skip ?_ | refine a_draw mixed ?_ | refine d_nil (by kernel_rfl) ?_ | refine o_yes rfl rfl rfl ?_ | refine o_no rfl rfl rfl (by decide) ?_ | refine o_no' rfl rfl rfl ?_ | refine a_condT rfl ?_ | refine a_condF rfl ?_ | refine d_no rfl rfl rfl (by decide) ?_ | refine d_no' rfl rfl rfl ?_ | (refine wq2 (fun hb => ?_) (fun hb => ?_) <;> (simp only [hb]; try simp only [hbs, ne_eq] at hb; try (exfalso; first | omega | exact hb trivial))) | fail)
      all_goals try (exfalso; omega)
      refine ⟨⟨q + 1, by omega⟩, by dsimp only; omega, ?_⟩
      dsimp only
      rw [e1]
      exact wkS
  · obtain rfl : q = L.length := by omega
    have e1 : (L.take 6).take L.length = L.take 6 := by rw [List.take_take, List.take_eq_take_iff]; omega
    rw [e1]
    unfold mkB at hP
    repeat' (first | ((first | apply o_do | apply d_do | apply d_yes rfl rfl rfl); first | exact ls_toStr tab_ok u8_ok rfl rfl rfl rfl rfl rfl rfl | exact lsc (hP) | exact lsq) | refine a_seq ?_ | refine a_region ?_ | refine o_nil ?_ | refine a_block ?_ | refine a_ret ?_ | refine a_exit ?_ | refine a_skip ?_ | refine a_draw mixed ?_ | refine d_nil (by kernel_rfl) ?_ | refine o_yes rfl rfl rfl ?_ | refine o_no rfl rfl rfl (by decide) ?_ | refine o_no' rfl rfl rfl ?_ | refine a_condT rfl ?_ | refine a_condF rfl ?_ | refine d_no rfl rfl rfl (by decide) ?_ | refine d_no' rfl rfl rfl ?_ | (refine wq2 (fun hb => ?_) (fun hb => ?_) <;> (simp only [hb]; try simp only [hbs, ne_eq] at hb; try (exfalso; first | omega | exact hb trivial))) | fail)
    all_goals refine rq rfl ?_
    all_goals exact fnq
end Go.Proofs.YtbhblhcgfenobaaGreatDoor
namespace Go.Proofs.YtbhblhcgfenobaaGreatDoor
open Go.RowKit
set_option linter.unusedSimpArgs false
set_option linter.unusedVariables false
section
variable {P : Program} {T : List TyI} {Γ : Ctx} {s : ASt} {dst : Option Tmp} {ty yt : TypeId} {pos : String} {after : Array Edge}
theorem ls_convR (hT : okTab P T = true) {x : Operand} {a b : Nat} {i r : Int} {k q : IntKind} (hr : q.wrap i = r) (hx : ev s x = some (.v (.int k i))) (ha : P.underlying a = some (.int k)) (hb : P.underlying b = some (.int q)) (hd : okDst Γ.n dst = true) :
    LS P Γ ⟨dst, .convert a b x, ty, pos, after, none⟩ s (rd x []) (dst1 dst (.v (.int q r))) [] := by subst hr; exact ls_conv hT hx ha hb hd
theorem ls_subR {xt : TypeId} {x y : Operand} {k : IntKind} {a b r : Int} (hr : k.wrap (a - b) = r) (hx : ev s x = some (.v (.int k a))) (hy : ev s y = some (.v (.int k b))) (hd : okDst Γ.n dst = true) : LS P Γ ⟨dst, .binOp .sub xt x y yt, ty, pos, after, none⟩ s (rd x (rd y [])) (dst1 dst (.v (.int k r))) [] := by subst hr; exact ls_sub hx hy hd
end
end Go.Proofs.YtbhblhcgfenobaaGreatDoor
