/-
  Scripts read by the program: acts.
  Scripts read by the program: the next line; the whole.
  Scripts read by the program: the whole.
-/
import Derived.Test.YtbhblhcgfenobaaGreatDoorK4
import Derived.Test.YtbhblhcgfenobaaGreatDoorK9
import Derived.Test.YtbhblhcgfenobaaGreatDoorK13
import Derived.Test.YtbhblhcgfenobaaGreatDoorK16
namespace Go.Proofs.YtbhblhcgfenobaaGreatDoor
open Go.RowKit
set_option linter.unusedSimpArgs false
set_option linter.unusedVariables false
def aA (K : Nat) (r : List ByteArray) : Ac := if wdN K = 0 then ⟨(K : Int), 0, 0⟩ else match r with
  | [x] => mkA K (numV x)
  | _ => ⟨(K : Int), 0, 0⟩
def okA (K : Nat) (r : List ByteArray) : Bool := if wdN K = 0 then decide (r.length = 0) else match r with
  | [x] => numB x && decide (numV x ≤ 1000000)
  | _ => false
theorem actO_some {w : ByteArray} {r : List ByteArray} {K : Nat} (h : wdIx w = some K) : actO (w :: r) = if okA K r = true then some (aA K r) else none := by
  unfold actO aA okA
  dsimp only
  rw [h]
  dsimp only
  by_cases h0 : wdN K = 0
  · rw [if_pos h0, if_pos h0, if_pos h0]
    cases r <;> simp
  · rw [if_neg h0, if_neg h0, if_neg h0]
    match r with
    | [] => rfl
    | [x] =>
      dsimp only
      unfold numO
      by_cases h1 : numB x = true ∧ numV x ≤ 1000000
      · rw [if_pos h1, if_pos (by simp [h1])]; rfl
      · rw [if_neg h1, if_neg (by simpa using h1)]; rfl
    | _ :: _ :: _ => rfl
theorem actO_none {w : ByteArray} {r : List ByteArray} (h : wdIx w = none) : actO (w :: r) = none := by
  unfold actO
  dsimp only
  rw [h]
theorem wdIx_some {w : ByteArray} {K : Nat} (h : wdIx w = some K) : K < 10 ∧ (∀ j, j < K → ((wdB j).toList == w.toList) = false) ∧ ((wdB K).toList == w.toList) = true := by
  unfold wdIx at h
  have h1 := List.find?_some h
  have h2 := List.mem_range.1 (List.mem_of_find?_eq_some h)
  refine ⟨h2, fun j hj => ?_, h1⟩
  have h3 := List.find?_range_eq_some.1 h
  have := h3.2.2 j hj
  simpa using this
theorem wdIx_none {w : ByteArray} (h : wdIx w = none) : ∀ j, j < 10 → ((wdB j).toList == w.toList) = false := by
  intro j hj
  unfold wdIx at h
  have := List.find?_eq_none.1 h j (List.mem_range.2 hj)
  simpa using this
set_option maxHeartbeats 4000000 in
theorem p_sactN (w : ByteArray) (r : List ByteArray) (h : wdIx w = none) : PCT Tryz.prog TabP 19 [.sl 1 ((w :: r).map stAv)] (.tup [.agg (Ac.mk 0 0 0).av, .v (.bool false)]) := by
  have hno := wdIx_none h
  have hel0 : ((w :: r).map stAv)[0]? = some [.v (.string w)] := by simp [stAv]
  generalize (w :: r).map stAv = A at *
  unfold Ac.av
  dsimp only
  refine PCT.mk (act_body tab_ok Tryz.func19 rfl (by kernel_rfl) rfl ?_); intro w0 M μ0 hG; simp only [Tryz.ntmps19, List.length_cons, List.length_nil, Nat.reduceAdd, Nat.reduceSub, numb] at hG ⊢
  repeat' (first | ((first | apply o_do | apply d_do | apply d_yes rfl rfl rfl); exact lsq) | refine a_seq ?_ | refine a_region ?_ | refine o_nil ?_ | refine a_block ?_ | refine a_ret ?_ | refine a_exit ?_ | refine a_skip ?_ | refine a_draw mixed ?_ | refine d_nil (by kernel_rfl) ?_ | refine o_yes rfl rfl rfl ?_ | refine o_no rfl rfl rfl (by decide) ?_ | refine o_no' rfl rfl rfl ?_ | refine a_condT rfl ?_ | refine a_condF rfl ?_ | refine d_no rfl rfl rfl (by decide) ?_ | refine d_no' rfl rfl rfl ?_ | (refine wq2 (fun hb => ?_) (fun hb => ?_) <;> (simp only [hb]; try simp only [hbs, ne_eq] at hb; try (exfalso; first | omega | exact hb trivial))) | fail)
  refine a_loop (X := {q : Nat // q ≤ 10}) (fun x => ⟨[(0, .sl 1 A), (2, .ref 0 0), (3, .v (.bool false)), (4, .v (.int .i64 x.1))], [(0, .box 52 [.v (.int .i64 0), .v (.int .i64 0), .v (.int .i64 0)])]⟩) (fun x => 10 - x.1) ⟨0, Nat.zero_le _⟩ ?_ ?_
  · exact wkS
  rintro ⟨q, hq⟩
  dsimp only
  by_cases hlt : q < 10
  · have hW := p_wordY q hlt
    have hn := hno q hlt
    generalize wdB q = W at *
    generalize wdN q = n at *
    repeat' (first | ((first | apply o_do | apply d_do | apply d_yes rfl rfl rfl); first | exact lsc (hW) | exact ls_indexAddr_sl (q := 0) tab_ok rfl rfl rfl rfl hel0 rfl | exact lsq) | refine a_seq ?_ | refine a_region ?_ | refine o_nil ?_ | refine a_block ?_ | refine a_ret ?_ | refine a_exit ?_ | refine a_skip ?_ | refine a_draw mixed ?_ | refine d_nil (by kernel_rfl) ?_ | refine o_yes rfl rfl rfl ?_ | refine o_no rfl rfl rfl (by decide) ?_ | refine o_no' rfl rfl rfl ?_ | refine a_condT rfl ?_ | refine a_condF rfl ?_ | refine d_no rfl rfl rfl (by decide) ?_ | refine d_no' rfl rfl rfl ?_ | (refine wq2 (fun hb => ?_) (fun hb => ?_) <;> (simp only [hb]; try simp only [hbs, ne_eq] at hb; try (exfalso; first | omega | exact hb trivial))) | fail)
    all_goals try (exfalso; simp_all; done)
    all_goals refine ⟨⟨q + 1, by omega⟩, by dsimp only; omega, ?_⟩
    all_goals exact wkS
  · obtain rfl : q = 10 := by omega
    repeat' (first | ((first | apply o_do | apply d_do | apply d_yes rfl rfl rfl); exact lsq) | refine a_seq ?_ | refine a_region ?_ | refine o_nil ?_ | refine a_block ?_ | refine a_ret ?_ | refine a_exit ?_ | refine a_skip ?_ | refine a_draw mixed ?_ | refine d_nil (by kernel_rfl) ?_ | refine o_yes rfl rfl rfl ?_ | refine o_no rfl rfl rfl (by decide) ?_ | refine o_no' rfl rfl rfl ?_ | refine a_condT rfl ?_ | refine a_condF rfl ?_ | refine d_no rfl rfl rfl (by decide) ?_ | refine d_no' rfl rfl rfl ?_ | (refine wq2 (fun hb => ?_) (fun hb => ?_) <;> (simp only [hb]; try simp only [hbs, ne_eq] at hb; try (exfalso; first | omega | exact hb trivial))) | fail)
    all_goals refine rq rfl ?_
    all_goals exact fnq
set_option maxHeartbeats 8000000 in
theorem p_sactY (w : ByteArray) (r : List ByteArray) {K : Nat} (h : wdIx w = some K) (hsm : ∀ x ∈ r, Sm x) (hl : r.length ≤ 4294967290) : PCT Tryz.prog TabP 19 [.sl 1 ((w :: r).map stAv)] (.tup [.agg (aA K r).av, .v (.bool (okA K r))]) := by
  obtain ⟨hK, hlo, hhit⟩ := wdIx_some h
  have hel0 : ((w :: r).map stAv)[0]? = some [.v (.string w)] := by simp [stAv]
  have hAl : ((w :: r).map stAv).length = r.length + 1 := by simp
  have hel1 : ∀ x, r = [x] → ((w :: r).map stAv)[1]? = some [.v (.string x)] := fun x hx => by rw [hx]; simp [stAv]
  generalize (w :: r).map stAv = A at *
  obtain ⟨a, ha⟩ : ∃ a, a = aA K r := ⟨_, rfl⟩
  obtain ⟨b, hb0⟩ : ∃ b, b = okA K r := ⟨_, rfl⟩
  rw [← ha, ← hb0]
  obtain ⟨a1, a2, a3⟩ := a
  unfold Ac.av
  dsimp only
  refine PCT.mk (act_body tab_ok Tryz.func19 rfl (by kernel_rfl) rfl ?_); intro w0 M μ0 hG; simp only [Tryz.ntmps19, List.length_cons, List.length_nil, Nat.reduceAdd, Nat.reduceSub, numb] at hG ⊢
  repeat' (first | ((first | apply o_do | apply d_do | apply d_yes rfl rfl rfl); exact lsq) | refine a_seq ?_ | refine a_region ?_ | refine o_nil ?_ | refine a_block ?_ | refine a_ret ?_ | refine a_exit ?_ | refine a_skip ?_ | refine a_draw mixed ?_ | refine d_nil (by kernel_rfl) ?_ | refine o_yes rfl rfl rfl ?_ | refine o_no rfl rfl rfl (by decide) ?_ | refine o_no' rfl rfl rfl ?_ | refine a_condT rfl ?_ | refine a_condF rfl ?_ | refine d_no rfl rfl rfl (by decide) ?_ | refine d_no' rfl rfl rfl ?_ | (refine wq2 (fun hb => ?_) (fun hb => ?_) <;> (simp only [hb]; try simp only [hbs, ne_eq] at hb; try (exfalso; first | omega | exact hb trivial))) | fail)
  refine a_loop (X := {q : Nat // q ≤ K}) (fun x => ⟨[(0, .sl 1 A), (2, .ref 0 0), (3, .v (.bool false)), (4, .v (.int .i64 x.1))], [(0, .box 52 [.v (.int .i64 0), .v (.int .i64 0), .v (.int .i64 0)])]⟩) (fun x => K - x.1) ⟨0, Nat.zero_le _⟩ ?_ ?_
  · exact wkS
  rintro ⟨q, hq⟩
  dsimp only
  have hW := p_wordY q (by omega)
  by_cases hlt : q < K
  · have hn := hlo q hlt
    generalize wdB q = W at *
    generalize wdN q = n at *
    repeat' (first | ((first | apply o_do | apply d_do | apply d_yes rfl rfl rfl); first | exact lsc (hW) | exact ls_indexAddr_sl (q := 0) tab_ok rfl rfl rfl rfl hel0 rfl | exact lsq) | refine a_seq ?_ | refine a_region ?_ | refine o_nil ?_ | refine a_block ?_ | refine a_ret ?_ | refine a_exit ?_ | refine a_skip ?_ | refine a_draw mixed ?_ | refine d_nil (by kernel_rfl) ?_ | refine o_yes rfl rfl rfl ?_ | refine o_no rfl rfl rfl (by decide) ?_ | refine o_no' rfl rfl rfl ?_ | refine a_condT rfl ?_ | refine a_condF rfl ?_ | refine d_no rfl rfl rfl (by decide) ?_ | refine d_no' rfl rfl rfl ?_ | (refine wq2 (fun hb => ?_) (fun hb => ?_) <;> (simp only [hb]; try simp only [hbs, ne_eq] at hb; try (exfalso; first | omega | exact hb trivial))) | fail)
    all_goals try (exfalso; simp_all; done)
    all_goals refine ⟨⟨q + 1, by omega⟩, by dsimp only; omega, ?_⟩
    all_goals exact wkS
  · obtain rfl : q = K := by omega
    clear hlo
    unfold aA at ha
    unfold okA at hb0
    rcases wdN_in q with h0 | h0 | h0
    · rw [if_pos h0] at ha hb0
      injection ha with e1 e2 e3
      subst e1 e2 e3 hb0
      rw [h0] at hW
      generalize wdB q = W at *
      repeat' (first | ((first | apply o_do | apply d_do | apply d_yes rfl rfl rfl); first | exact lsc (hW) | exact ls_indexAddr_sl (q := 0) tab_ok rfl rfl rfl rfl hel0 rfl | exact lsq) | refine a_seq ?_ | refine a_region ?_ | refine o_nil ?_ | refine a_block ?_ | refine a_ret ?_ | refine a_exit ?_ | refine a_skip ?_ | refine a_draw mixed ?_ | refine d_nil (by kernel_rfl) ?_ | refine o_yes rfl rfl rfl ?_ | refine o_no rfl rfl rfl (by decide) ?_ | refine o_no' rfl rfl rfl ?_ | refine a_condT rfl ?_ | refine a_condF rfl ?_ | refine d_no rfl rfl rfl (by decide) ?_ | refine d_no' rfl rfl rfl ?_ | (refine wq2 (fun hb => ?_) (fun hb => ?_) <;> (simp only [hb]; try simp only [hbs, ne_eq] at hb; try (exfalso; first | omega | exact hb trivial))) | fail)
      all_goals try (exfalso; simp_all; done)
      all_goals refine rq rfl ?_
      all_goals (first | refine FinA.tup ?_ | refine FinA.one ?_); repeat' (first | exact FinBs.nil | exact FinCs.nil | refine FinBs.cons ?_ ?_ | refine FinCs.cons ?_ ?_ | refine FinB.cell (FinC.v ?_) | refine FinB.cell (FinC.own rfl rfl rfl ?_) | exact FinB.cell FinC.nil | refine FinB.cell (FinC.sl ?_) | exact FinB.agg' rfl rfl | exact FinB.cell (FinC.same rfl) | refine FinB.agg ?_ | refine FinC.v ?_ | refine FinC.own rfl rfl rfl ?_ | exact FinC.nil | refine FinC.sl ?_ | exact FinC.same rfl); all_goals try rfl
      all_goals (rw [hAl]; congr 1; simp; exact ⟨fun h => List.eq_nil_of_length_eq_zero (by omega), fun h => by rw [h]; rfl⟩)
    all_goals
      rw [if_neg (by rw [h0]; decide)] at ha hb0
      rw [h0] at hW
      unfold mkA at ha
      rw [h0] at ha
      generalize wdB q = W at *
    · match r, hsm with
      | [], _ =>
        injection ha with e1 e2 e3
        subst e1 e2 e3 hb0
        rw [List.length_nil] at hAl
        repeat' (first | ((first | apply o_do | apply d_do | apply d_yes rfl rfl rfl); first | exact lsc (hW) | exact ls_indexAddr_sl (q := 0) tab_ok rfl rfl rfl rfl hel0 rfl | exact lsq) | refine a_seq ?_ | refine a_region ?_ | refine o_nil ?_ | refine a_block ?_ | refine a_ret ?_ | refine a_exit ?_ | refine a_skip ?_ | refine a_draw mixed ?_ | refine d_nil (by kernel_rfl) ?_ | refine o_yes rfl rfl rfl ?_ | refine o_no rfl rfl rfl (by decide) ?_ | refine o_no' rfl rfl rfl ?_ | refine a_condT rfl ?_ | refine a_condF rfl ?_ | refine d_no rfl rfl rfl (by decide) ?_ | refine d_no' rfl rfl rfl ?_ | (refine wq2 (fun hb => ?_) (fun hb => ?_) <;> (simp only [hb]; try simp only [hbs, ne_eq] at hb; try (exfalso; first | omega | exact hb trivial))) | fail)
        all_goals try (exfalso; simp_all; done)
        all_goals try (exfalso; omega)
        all_goals refine rq rfl ?_
        all_goals exact fnq
      | [x], hsm =>
        have hN := p_snum x 1000000 (hsm x (by simp)).n
        dsimp only at ha hb0
        rw [if_pos rfl] at ha
        injection ha with e1 e2 e3
        subst e1 e2 e3 hb0
        have hel := hel1 x rfl
        rw [List.length_cons, List.length_nil] at hAl
        generalize (numB x && decide (numV x ≤ 1000000)) = z at *
        repeat' (first | ((first | apply o_do | apply d_do | apply d_yes rfl rfl rfl); first | exact lsc (hW) | focus (apply ls_callT hG hN rfl rfl _ rfl rfl; (repeat' (first | exact NilL.nil | refine NilL.cons Nil.same ?_ | refine NilL.cons Nil.nil ?_ | refine NilL.cons (Nil.agg ?_) ?_ | exact Nil1s.nil | refine Nil1s.cons Nil1.same ?_ | refine Nil1s.cons Nil1.nil ?_)); done) | exact ls_indexAddr_sl (q := 0) tab_ok rfl rfl rfl rfl hel0 rfl | exact ls_indexAddr_sl (q := 1) tab_ok rfl rfl rfl rfl hel rfl | exact lsq) | refine a_seq ?_ | refine a_region ?_ | refine o_nil ?_ | refine a_block ?_ | refine a_ret ?_ | refine a_exit ?_ | refine a_skip ?_ | refine a_draw mixed ?_ | refine d_nil (by kernel_rfl) ?_ | refine o_yes rfl rfl rfl ?_ | refine o_no rfl rfl rfl (by decide) ?_ | refine o_no' rfl rfl rfl ?_ | refine a_condT rfl ?_ | refine a_condF rfl ?_ | refine d_no rfl rfl rfl (by decide) ?_ | refine d_no' rfl rfl rfl ?_ | (refine wq2 (fun hb => ?_) (fun hb => ?_) <;> (simp only [hb]; try simp only [hbs, ne_eq] at hb; try (exfalso; first | omega | exact hb trivial))) | fail)
        all_goals try (exfalso; simp_all; done)
        all_goals try (exfalso; omega)
        all_goals refine rq rfl ?_
        all_goals exact fnq
      | _ :: _ :: t, _ =>
        injection ha with e1 e2 e3
        subst e1 e2 e3 hb0
        rw [List.length_cons, List.length_cons] at hAl
        repeat' (first | ((first | apply o_do | apply d_do | apply d_yes rfl rfl rfl); first | exact lsc (hW) | exact ls_indexAddr_sl (q := 0) tab_ok rfl rfl rfl rfl hel0 rfl | exact lsq) | refine a_seq ?_ | refine a_region ?_ | refine o_nil ?_ | refine a_block ?_ | refine a_ret ?_ | refine a_exit ?_ | refine a_skip ?_ | refine a_draw mixed ?_ | refine d_nil (by kernel_rfl) ?_ | refine o_yes rfl rfl rfl ?_ | refine o_no rfl rfl rfl (by decide) ?_ | refine o_no' rfl rfl rfl ?_ | refine a_condT rfl ?_ | refine a_condF rfl ?_ | refine d_no rfl rfl rfl (by decide) ?_ | refine d_no' rfl rfl rfl ?_ | (refine wq2 (fun hb => ?_) (fun hb => ?_) <;> (simp only [hb]; try simp only [hbs, ne_eq] at hb; try (exfalso; first | omega | exact hb trivial))) | fail)
        all_goals try (exfalso; simp_all; done)
        all_goals try (exfalso; omega)
        all_goals refine rq rfl ?_
        all_goals exact fnq
    · match r, hsm with
      | [], _ =>
        injection ha with e1 e2 e3
        subst e1 e2 e3 hb0
        rw [List.length_nil] at hAl
        repeat' (first | ((first | apply o_do | apply d_do | apply d_yes rfl rfl rfl); first | exact lsc (hW) | exact ls_indexAddr_sl (q := 0) tab_ok rfl rfl rfl rfl hel0 rfl | exact lsq) | refine a_seq ?_ | refine a_region ?_ | refine o_nil ?_ | refine a_block ?_ | refine a_ret ?_ | refine a_exit ?_ | refine a_skip ?_ | refine a_draw mixed ?_ | refine d_nil (by kernel_rfl) ?_ | refine o_yes rfl rfl rfl ?_ | refine o_no rfl rfl rfl (by decide) ?_ | refine o_no' rfl rfl rfl ?_ | refine a_condT rfl ?_ | refine a_condF rfl ?_ | refine d_no rfl rfl rfl (by decide) ?_ | refine d_no' rfl rfl rfl ?_ | (refine wq2 (fun hb => ?_) (fun hb => ?_) <;> (simp only [hb]; try simp only [hbs, ne_eq] at hb; try (exfalso; first | omega | exact hb trivial))) | fail)
        all_goals try (exfalso; simp_all; done)
        all_goals try (exfalso; omega)
        all_goals refine rq rfl ?_
        all_goals exact fnq
      | [x], hsm =>
        have hN := p_snum x 1000000 (hsm x (by simp)).n
        dsimp only at ha hb0
        rw [if_neg (by decide)] at ha
        injection ha with e1 e2 e3
        subst e1 e2 e3 hb0
        have hel := hel1 x rfl
        rw [List.length_cons, List.length_nil] at hAl
        generalize (numB x && decide (numV x ≤ 1000000)) = z at *
        repeat' (first | ((first | apply o_do | apply d_do | apply d_yes rfl rfl rfl); first | exact lsc (hW) | focus (apply ls_callT hG hN rfl rfl _ rfl rfl; (repeat' (first | exact NilL.nil | refine NilL.cons Nil.same ?_ | refine NilL.cons Nil.nil ?_ | refine NilL.cons (Nil.agg ?_) ?_ | exact Nil1s.nil | refine Nil1s.cons Nil1.same ?_ | refine Nil1s.cons Nil1.nil ?_)); done) | exact ls_indexAddr_sl (q := 0) tab_ok rfl rfl rfl rfl hel0 rfl | exact ls_indexAddr_sl (q := 1) tab_ok rfl rfl rfl rfl hel rfl | exact lsq) | refine a_seq ?_ | refine a_region ?_ | refine o_nil ?_ | refine a_block ?_ | refine a_ret ?_ | refine a_exit ?_ | refine a_skip ?_ | refine a_draw mixed ?_ | refine d_nil (by kernel_rfl) ?_ | refine o_yes rfl rfl rfl ?_ | refine o_no rfl rfl rfl (by decide) ?_ | refine o_no' rfl rfl rfl ?_ | refine a_condT rfl ?_ | refine a_condF rfl ?_ | refine d_no rfl rfl rfl (by decide) ?_ | refine d_no' rfl rfl rfl ?_ | (refine wq2 (fun hb => ?_) (fun hb => ?_) <;> (simp only [hb]; try simp only [hbs, ne_eq] at hb; try (exfalso; first | omega | exact hb trivial))) | fail)
        all_goals try (exfalso; simp_all; done)
        all_goals try (exfalso; omega)
        all_goals refine rq rfl ?_
        all_goals exact fnq
      | _ :: _ :: t, _ =>
        injection ha with e1 e2 e3
        subst e1 e2 e3 hb0
        rw [List.length_cons, List.length_cons] at hAl
        repeat' (first | ((first | apply o_do | apply d_do | apply d_yes rfl rfl rfl); first | exact lsc (hW) | exact ls_indexAddr_sl (q := 0) tab_ok rfl rfl rfl rfl hel0 rfl | exact lsq) | refine a_seq ?_ | refine a_region ?_ | refine o_nil ?_ | refine a_block ?_ | refine a_ret ?_ | refine a_exit ?_ | refine a_skip ?_ | refine a_draw mixed ?_ | refine d_nil (by kernel_rfl) ?_ | refine o_yes rfl rfl rfl ?_ | refine o_no rfl rfl rfl (by decide) ?_ | refine o_no' rfl rfl rfl ?_ | refine a_condT rfl ?_ | refine a_condF rfl ?_ | refine d_no rfl rfl rfl (by decide) ?_ | refine d_no' rfl rfl rfl ?_ | (refine wq2 (fun hb => ?_) (fun hb => ?_) <;> (simp only [hb]; try simp only [hbs, ne_eq] at hb; try (exfalso; first | omega | exact hb trivial))) | fail)
        all_goals try (exfalso; simp_all; done)
        all_goals try (exfalso; omega)
        all_goals refine rq rfl ?_
        all_goals exact fnq
end Go.Proofs.YtbhblhcgfenobaaGreatDoor
namespace Go.Proofs.YtbhblhcgfenobaaGreatDoor
open Go.RowKit
set_option linter.unusedSimpArgs false
set_option linter.unusedVariables false
def SN (s : ByteArray) (a n : Int) : Store := [(0, .box 9 [.v (.string s)]), (1, .box 3 [.v (.int .i64 a)]), (2, .box 3 [.v (.int .i64 n)])]
set_option maxHeartbeats 2000000 in
theorem c_nextY (s : ByteArray) (hs : Sm s) (pre l r : List UInt8) (h : s.data.toList = pre ++ (l ++ 10 :: r)) (hl : 10 ∉ l) (n : Nat) (hn : n ≤ 4294967290) :
    ACT Tryz.prog TabP 12 [.ref 0 0, .ref 1 0, .ref 2 0] (SN s (pre.length : Nat) (n : Nat)) (.tup [.sl 1 ((spl (mkB l) sp1).map stAv), .v (.bool true)]) (SN s ((pre.length + (l.length + 1) : Nat) : Int) ((n + 1 : Nat) : Int)) := by
  have hx := ext_post h
  have hlen : s.size = pre.length + (l.length + 1 + r.length) := by rw [← size_list, h]; simp; omega
  have hC := p_Cut (s.extract pre.length s.size) nl1 (by rw [hx, ← size_list, mkB_list]; unfold Sm at hs; simp at hlen ⊢; omega)
  obtain ⟨c1, c2, c3⟩ := cut_at (s := s.extract pre.length s.size) (l := l) (r := r) (by rw [hx]; rfl) hl
  rw [c1, c2, c3] at hC
  have hAl : (mkB l).size = l.length := by rw [← size_list, mkB_list]
  have hS := p_spl (mkB l) (by unfold Sm at hs ⊢; omega)
  unfold Sm at hs
  have e1 : ((pre.length + (l.length + 1) : Nat) : Int) = (pre.length : Int) + ((l.length : Int) + 1) := by omega
  have e2 : ((n + 1 : Nat) : Int) = (n : Int) + 1 := by omega
  rw [e1, e2]
  clear hx h e1 e2
  generalize spl (mkB l) sp1 = W at *
  generalize mkB l = A at *
  generalize mkB r = B at *
  generalize hp : pre.length = p at *
  rw [← hAl] at hlen ⊢
  unfold nl1 at hC
  unfold sp1 at hS
  unfold SN
  refine (act_body tab_ok Tryz.func12 rfl (by kernel_rfl) rfl ?_); intro w0 M μ0 hG; simp only [Tryz.ntmps12, List.length_cons, List.length_nil, Nat.reduceAdd, Nat.reduceSub, numb] at hG ⊢
  repeat' (first | ((first | apply o_do | apply d_do | apply d_yes rfl rfl rfl); first | exact ls_strFrom (n := p) tab_ok rfl rfl rfl rfl (by omega) rfl | focus (apply ls_callT hG hC rfl rfl _ rfl rfl; (repeat' (first | exact NilL.nil | refine NilL.cons Nil.same ?_ | refine NilL.cons Nil.nil ?_ | refine NilL.cons (Nil.agg ?_) ?_ | exact Nil1s.nil | refine Nil1s.cons Nil1.same ?_ | refine Nil1s.cons Nil1.nil ?_)); done) | focus (apply ls_callT hG hS rfl rfl _ rfl rfl; (repeat' (first | exact NilL.nil | refine NilL.cons Nil.same ?_ | refine NilL.cons Nil.nil ?_ | refine NilL.cons (Nil.agg ?_) ?_ | exact Nil1s.nil | refine Nil1s.cons Nil1.same ?_ | refine Nil1s.cons Nil1.nil ?_)); done) | exact lsq) | refine a_seq ?_ | refine a_region ?_ | refine o_nil ?_ | refine a_block ?_ | refine a_ret ?_ | refine a_exit ?_ | refine a_skip ?_ | refine a_draw mixed ?_ | refine d_nil (by kernel_rfl) ?_ | refine o_yes rfl rfl rfl ?_ | refine o_no rfl rfl rfl (by decide) ?_ | refine o_no' rfl rfl rfl ?_ | refine a_condT rfl ?_ | refine a_condF rfl ?_ | refine d_no rfl rfl rfl (by decide) ?_ | refine d_no' rfl rfl rfl ?_ | (refine wq2 (fun hb => ?_) (fun hb => ?_) <;> (simp only [hb]; try simp only [hbs, ne_eq] at hb; try (exfalso; first | omega | exact hb trivial))) | fail)
  all_goals refine rq rfl ?_
  all_goals exact fnq
set_option maxHeartbeats 2000000 in
theorem c_nextN (s : ByteArray) (hs : Sm s) (pre r : List UInt8) (h : s.data.toList = pre ++ r) (hl : 10 ∉ r) (n : Int) :
    ACT Tryz.prog TabP 12 [.ref 0 0, .ref 1 0, .ref 2 0] (SN s (pre.length : Nat) n) (.tup [.sl 1 [], .v (.bool false)]) (SN s (pre.length : Nat) n) := by
  have hx := ext_post h
  have hlen : s.size = pre.length + r.length := by rw [← size_list, h]; simp
  have hC := p_Cut (s.extract pre.length s.size) nl1 (by rw [hx, ← size_list, mkB_list]; unfold Sm at hs; omega)
  have c := cutc_no (c := 10) (s := s.extract pre.length s.size) (by rw [hx]; exact hl)
  rw [show oneB 10 = nl1 from rfl] at c
  rw [c.1] at hC
  unfold Sm at hs
  clear hx h c
  generalize cutA (s.extract pre.length s.size) nl1 = A at *
  generalize cutB (s.extract pre.length s.size) nl1 = B at *
  generalize hp : pre.length = p at *
  unfold nl1 at hC
  unfold SN
  refine (act_body tab_ok Tryz.func12 rfl (by kernel_rfl) rfl ?_); intro w0 M μ0 hG; simp only [Tryz.ntmps12, List.length_cons, List.length_nil, Nat.reduceAdd, Nat.reduceSub, numb] at hG ⊢
  repeat' (first | ((first | apply o_do | apply d_do | apply d_yes rfl rfl rfl); first | exact ls_strFrom (n := p) tab_ok rfl rfl rfl rfl (by omega) rfl | focus (apply ls_callT hG hC rfl rfl _ rfl rfl; (repeat' (first | exact NilL.nil | refine NilL.cons Nil.same ?_ | refine NilL.cons Nil.nil ?_ | refine NilL.cons (Nil.agg ?_) ?_ | exact Nil1s.nil | refine Nil1s.cons Nil1.same ?_ | refine Nil1s.cons Nil1.nil ?_)); done) | exact lsq) | refine a_seq ?_ | refine a_region ?_ | refine o_nil ?_ | refine a_block ?_ | refine a_ret ?_ | refine a_exit ?_ | refine a_skip ?_ | refine a_draw mixed ?_ | refine d_nil (by kernel_rfl) ?_ | refine o_yes rfl rfl rfl ?_ | refine o_no rfl rfl rfl (by decide) ?_ | refine o_no' rfl rfl rfl ?_ | refine a_condT rfl ?_ | refine a_condF rfl ?_ | refine d_no rfl rfl rfl (by decide) ?_ | refine d_no' rfl rfl rfl ?_ | (refine wq2 (fun hb => ?_) (fun hb => ?_) <;> (simp only [hb]; try simp only [hbs, ne_eq] at hb; try (exfalso; first | omega | exact hb trivial))) | fail)
  all_goals refine rq rfl ?_
  all_goals exact fnq
theorem p_fail (n : Int) : PC Tryz.prog 16 [.v (.int .i64 n)] (.tup [.agg zPl.av, .v (.int .i64 240), .v (.int .i64 n)]) := by
  unfold zPl Pl.av
  refine PC.mk (ac_body tab_ok Tryz.func16 rfl (by kernel_rfl) rfl ?_); intro w0 M μ0; simp only [Tryz.ntmps16, List.length_cons, List.length_nil, Nat.reduceAdd, Nat.reduceSub, numb]
  repeat' (first | ((first | apply o_do | apply d_do | apply d_yes rfl rfl rfl); exact lsq) | refine a_seq ?_ | refine a_region ?_ | refine o_nil ?_ | refine a_block ?_ | refine a_ret ?_ | refine a_exit ?_ | refine a_skip ?_ | refine a_draw mixed ?_ | refine d_nil (by kernel_rfl) ?_ | refine o_yes rfl rfl rfl ?_ | refine o_no rfl rfl rfl (by decide) ?_ | refine o_no' rfl rfl rfl ?_ | refine a_condT rfl ?_ | refine a_condF rfl ?_ | refine d_no rfl rfl rfl (by decide) ?_ | refine d_no' rfl rfl rfl ?_ | (refine wq2 (fun hb => ?_) (fun hb => ?_) <;> (simp only [hb]; try simp only [hbs, ne_eq] at hb; try (exfalso; first | omega | exact hb trivial))) | fail)
  refine rq rfl ?_
  exact fnq
theorem wkO_no {ws : List ByteArray} (h : wkO ws = none) : ws.length ≠ 2 ∨ ∃ a b, ws = [a, b] ∧ ((a.toList == wksB.toList) = false ∨ ((a.toList == wksB.toList) = true ∧ ((numB b && decide (numV b ≤ 8)) = false ∨ ((numB b && decide (numV b ≤ 8)) = true ∧ numV b < 1)))) := by
  match ws, h with
  | [], _ => exact .inl (by simp)
  | [a], _ => exact .inl (by simp)
  | [a, b], h =>
    right
    refine ⟨a, b, rfl, ?_⟩
    unfold wkO at h
    dsimp only at h
    cases h1 : (a.toList == wksB.toList)
    · exact .inl rfl
    · refine .inr ⟨rfl, ?_⟩
      cases h2 : (numB b && decide (numV b ≤ 8))
      · exact .inl rfl
      · refine .inr ⟨rfl, ?_⟩
        simp only [Bool.and_eq_true, decide_eq_true_eq] at h2
        split at h
        · cases h
        · rename_i h3
          rcases Int.lt_or_le (numV b) 1 with h4 | h4
          · exact h4
          · exact absurd ⟨h1, h2.1, h4, h2.2⟩ h3
  | _ :: _ :: _ :: _, _ => exact .inl (by simp)
theorem wkO_yes {ws : List ByteArray} {n : Int} (h : wkO ws = some n) : ∃ a b, ws = [a, b] ∧ (a.toList == wksB.toList) = true ∧ (numB b && decide (numV b ≤ 8)) = true ∧ n = numV b ∧ 1 ≤ n ∧ n ≤ 8 := by
  match ws, h with
  | [], h => cases h
  | [a], h => cases h
  | [a, b], h =>
    unfold wkO at h
    dsimp only at h
    split at h
    · rename_i h1
      injection h with h
      subst h
      exact ⟨a, b, rfl, h1.1, by simp [h1.2.1, h1.2.2.2], rfl, h1.2.2.1, h1.2.2.2⟩
    · cases h
  | _ :: _ :: _ :: _, h => cases h
end Go.Proofs.YtbhblhcgfenobaaGreatDoor
namespace Go.Proofs.YtbhblhcgfenobaaGreatDoor
open Go.RowKit
set_option linter.unusedSimpArgs false
set_option linter.unusedVariables false
/-- where the line number k begins -/
def po (L : List ByteArray) (k : Nat) : Nat := (unl (L.take k)).length
theorem unl_split (L : List ByteArray) (k : Nat) : unl L = unl (L.take k) ++ unl (L.drop k) := by rw [← unl_app, List.take_append_drop]
theorem drop_cons {L : List ByteArray} {k : Nat} (h : k < L.length) : L.drop k = L[k] :: L.drop (k + 1) := List.drop_eq_getElem_cons h
theorem po_succ {L : List ByteArray} {k : Nat} (h : k < L.length) : po L (k + 1) = po L k + (L[k].data.toList.length + 1) := by
  unfold po
  rw [take_snoc L k h, unl_app, List.length_append]
  simp [unl]
theorem len_unl (L : List ByteArray) : L.length ≤ (unl L).length := by
  induction L with
  | nil => simp
  | cons w L ih => rw [unl_cons]; simp; omega
structure LT (s : ByteArray) (L : List ByteArray) (t : List UInt8) : Prop where
  eq : s.data.toList = unl L ++ t
  cl : ∀ w ∈ L, 10 ∉ w.data.toList
  ct : 10 ∉ t
theorem LT.size {s : ByteArray} {L : List ByteArray} {t : List UInt8} (h : LT s L t) : s.size = (unl L).length + t.length := by rw [← size_list, h.eq, List.length_append]
theorem LT.spot {s : ByteArray} {L : List ByteArray} {t : List UInt8} (h : LT s L t) (k : Nat) : s.size = po L k + ((unl (L.drop k)).length + t.length) := by
  rw [h.size, unl_split L k, List.length_append]
  unfold po
  omega
theorem LT.len {s : ByteArray} {L : List ByteArray} {t : List UInt8} (h : LT s L t) : L.length ≤ s.size := by rw [h.size]; have := len_unl L; omega
theorem LT.sm {s : ByteArray} {L : List ByteArray} {t : List UInt8} (h : LT s L t) (hs : Sm s) {k : Nat} (hk : k < L.length) : Sm L[k] := by
  have h1 := h.spot k
  rw [drop_cons hk, unl_cons, List.length_append, size_list] at h1
  unfold Sm at *
  omega
theorem c_next {s : ByteArray} {L : List ByteArray} {t : List UInt8} (h : LT s L t) (hs : Sm s) (k : Nat) (hk : k < L.length) :
    ACT Tryz.prog TabP 12 [.ref 0 0, .ref 1 0, .ref 2 0] (SN s (po L k : Nat) (k : Nat)) (.tup [.sl 1 ((spl L[k] sp1).map stAv), .v (.bool true)]) (SN s (po L (k + 1) : Nat) ((k + 1 : Nat) : Int)) := by
  have h1 := c_nextY s hs (unl (L.take k)) L[k].data.toList (unl (L.drop (k + 1)) ++ t) (by rw [h.eq, unl_split L k, drop_cons hk, unl_cons, List.append_assoc, List.append_assoc, List.cons_append]) (h.cl _ (List.getElem_mem hk)) k (by have := h.len; unfold Sm at hs; omega)
  rw [po_succ hk]
  exact h1
theorem c_nextE {s : ByteArray} {L : List ByteArray} {t : List UInt8} (h : LT s L t) (hs : Sm s) (k : Nat) (hk : k = L.length) :
    ACT Tryz.prog TabP 12 [.ref 0 0, .ref 1 0, .ref 2 0] (SN s (po L k : Nat) (k : Nat)) (.tup [.sl 1 [], .v (.bool false)]) (SN s (po L k : Nat) (k : Nat)) := by
  have h1 := c_nextN s hs (unl (L.take k)) t (by rw [h.eq, hk, List.take_length]) h.ct (k : Nat)
  exact h1
theorem spl_sm {l : ByteArray} (h : Sm l) : (∀ x ∈ spl l sp1, Sm x) ∧ (spl l sp1).length ≤ 4294967290 := by
  obtain ⟨h1, _, _⟩ := spl_parts _ l (Nat.le_refl _)
  have key : ∀ ws : List ByteArray, (∀ x ∈ ws, x.size ≤ (joinW ws).length) ∧ ws.length ≤ (joinW ws).length + 1 := by
    intro ws
    induction ws with
    | nil => simp
    | cons w ws ih =>
      have hj : (joinW (w :: ws)).length = w.size + (spW ws).length := by simp [joinW, size_list]
      have hs : ∀ ws : List ByteArray, (∀ x ∈ ws, x.size ≤ (spW ws).length) ∧ ws.length ≤ (spW ws).length := by
        intro ws
        induction ws with
        | nil => simp
        | cons v vs ih =>
          have e : (spW (v :: vs)).length = 1 + v.size + (spW vs).length := by simp [spW, size_list]; omega
          refine ⟨fun x hx => ?_, by rw [e, List.length_cons]; have := ih.2; omega⟩
          rcases List.mem_cons.1 hx with rfl | hx
          · omega
          · have := ih.1 x hx; omega
      rw [hj]
      refine ⟨fun x hx => ?_, by rw [List.length_cons]; have := (hs ws).2; omega⟩
      rcases List.mem_cons.1 hx with rfl | hx
      · omega
      · have := (hs ws).1 x hx; omega
  obtain ⟨k1, k2⟩ := key (spl l sp1)
  rw [h1, size_list] at k1 k2
  unfold Sm at *
  exact ⟨fun x hx => by have := k1 x hx; omega, by omega⟩
end Go.Proofs.YtbhblhcgfenobaaGreatDoor
