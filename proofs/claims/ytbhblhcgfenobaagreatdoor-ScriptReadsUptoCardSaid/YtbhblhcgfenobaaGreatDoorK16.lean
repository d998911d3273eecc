/-
  Scripts read by the program: numbers, events, sources, acts.
-/
import Derived.Test.YtbhblhcgfenobaaGreatDoorK4
import Derived.Test.YtbhblhcgfenobaaGreatDoorK15
namespace Go.Proofs.YtbhblhcgfenobaaGreatDoor
open Go.RowKit
set_option linter.unusedSimpArgs false
set_option linter.unusedVariables false
set_option maxHeartbeats 2000000 in
theorem p_whole (s : ByteArray) (hs : s.size ≤ 281474976710656) : PCT Tryz.prog TabP 45 [.v (.string s)] (.tup [.v (.int .i64 (numV s)), .v (.bool (wholeB s))]) := by
  have hP := p_PI s hs
  have hu := Tryz.underlying70
  cases h : Lib.parseIntB 64 s.data.toList with
  | ok v =>
    have hb := Lib.parseIntB_bounds h
    have hF := (p_Format v (by omega) (by omega)).weak f_tab
    have e1 : numV s = v := by unfold numV; rw [h]
    have e2 : wholeB s = ((itoB v).toList == s.toList) := by unfold wholeB; rw [h]
    have e3 : numE s = .v .nilIface := by unfold numE; rw [h]
    rw [e1, e3] at hP
    rw [e1, e2]
    generalize itoB v = x at *
    cases hq : (x.toList == s.toList)
    all_goals
      refine PCT.mk (act_body tab_ok Tryz.func45 rfl (by kernel_rfl) rfl ?_); intro w0 M μ0 hG; simp only [Tryz.ntmps45, List.length_cons, List.length_nil, Nat.reduceAdd, Nat.reduceSub, numb] at hG ⊢
      repeat' (first | ((first | apply o_do | apply d_do | apply d_yes rfl rfl rfl); first | focus (apply ls_callT hG hP rfl rfl _ rfl rfl; (repeat' (first | exact NilL.nil | refine NilL.cons Nil.same ?_ | refine NilL.cons Nil.nil ?_ | refine NilL.cons (Nil.agg ?_) ?_ | exact Nil1s.nil | refine Nil1s.cons Nil1.same ?_ | refine Nil1s.cons Nil1.nil ?_)); done) | focus (apply ls_callT hG hF rfl rfl _ rfl rfl; (repeat' (first | exact NilL.nil | refine NilL.cons Nil.same ?_ | refine NilL.cons Nil.nil ?_ | refine NilL.cons (Nil.agg ?_) ?_ | exact Nil1s.nil | refine Nil1s.cons Nil1.same ?_ | refine Nil1s.cons Nil1.nil ?_)); done) | exact ls_eqNN hu rfl rfl | exact lsq) | refine a_seq ?_ | refine a_region ?_ | refine o_nil ?_ | refine a_block ?_ | refine a_ret ?_ | refine a_exit ?_ | refine a_skip ?_ | refine a_draw mixed ?_ | refine d_nil (by kernel_rfl) ?_ | refine o_yes rfl rfl rfl ?_ | refine o_no rfl rfl rfl (by decide) ?_ | refine o_no' rfl rfl rfl ?_ | refine a_condT rfl ?_ | refine a_condF rfl ?_ | refine d_no rfl rfl rfl (by decide) ?_ | refine d_no' rfl rfl rfl ?_ | (refine wq2 (fun hb => ?_) (fun hb => ?_) <;> (simp only [hb]; try simp only [hbs, ne_eq] at hb; try (exfalso; first | omega | exact hb trivial))) | fail)
      all_goals refine rq rfl ?_
      all_goals (first | refine FinA.tup ?_ | refine FinA.one ?_); repeat' (first | exact FinBs.nil | exact FinCs.nil | refine FinBs.cons ?_ ?_ | refine FinCs.cons ?_ ?_ | refine FinB.cell (FinC.v ?_) | refine FinB.cell (FinC.own rfl rfl rfl ?_) | exact FinB.cell FinC.nil | refine FinB.cell (FinC.sl ?_) | exact FinB.agg' rfl rfl | exact FinB.cell (FinC.same rfl) | refine FinB.agg ?_ | refine FinC.v ?_ | refine FinC.own rfl rfl rfl ?_ | exact FinC.nil | refine FinC.sl ?_ | exact FinC.same rfl); all_goals try rfl
      all_goals simp [hq]
  | range =>
    have e2 : wholeB s = false := by unfold wholeB; rw [h]
    have e3 : numE s = .ife := by unfold numE; rw [h]
    rw [e3] at hP
    rw [e2]
    generalize numV s = v at *
    refine PCT.mk (act_body tab_ok Tryz.func45 rfl (by kernel_rfl) rfl ?_); intro w0 M μ0 hG; simp only [Tryz.ntmps45, List.length_cons, List.length_nil, Nat.reduceAdd, Nat.reduceSub, numb] at hG ⊢
    repeat' (first | ((first | apply o_do | apply d_do | apply d_yes rfl rfl rfl); first | focus (apply ls_callT hG hP rfl rfl _ rfl rfl; (repeat' (first | exact NilL.nil | refine NilL.cons Nil.same ?_ | refine NilL.cons Nil.nil ?_ | refine NilL.cons (Nil.agg ?_) ?_ | exact Nil1s.nil | refine Nil1s.cons Nil1.same ?_ | refine Nil1s.cons Nil1.nil ?_)); done) | exact ls_eqIN hu rfl rfl rfl | exact lsq) | refine a_seq ?_ | refine a_region ?_ | refine o_nil ?_ | refine a_block ?_ | refine a_ret ?_ | refine a_exit ?_ | refine a_skip ?_ | refine a_draw mixed ?_ | refine d_nil (by kernel_rfl) ?_ | refine o_yes rfl rfl rfl ?_ | refine o_no rfl rfl rfl (by decide) ?_ | refine o_no' rfl rfl rfl ?_ | refine a_condT rfl ?_ | refine a_condF rfl ?_ | refine d_no rfl rfl rfl (by decide) ?_ | refine d_no' rfl rfl rfl ?_ | (refine wq2 (fun hb => ?_) (fun hb => ?_) <;> (simp only [hb]; try simp only [hbs, ne_eq] at hb; try (exfalso; first | omega | exact hb trivial))) | fail)
    refine rq rfl ?_
    exact fnq
  | _ =>
    have e1 : numV s = 0 := by unfold numV; rw [h]
    have e2 : wholeB s = false := by unfold wholeB; rw [h]
    have e3 : numE s = .ife := by unfold numE; rw [h]
    rw [e1, e3] at hP
    rw [e1, e2]
    refine PCT.mk (act_body tab_ok Tryz.func45 rfl (by kernel_rfl) rfl ?_); intro w0 M μ0 hG; simp only [Tryz.ntmps45, List.length_cons, List.length_nil, Nat.reduceAdd, Nat.reduceSub, numb] at hG ⊢
    repeat' (first | ((first | apply o_do | apply d_do | apply d_yes rfl rfl rfl); first | focus (apply ls_callT hG hP rfl rfl _ rfl rfl; (repeat' (first | exact NilL.nil | refine NilL.cons Nil.same ?_ | refine NilL.cons Nil.nil ?_ | refine NilL.cons (Nil.agg ?_) ?_ | exact Nil1s.nil | refine Nil1s.cons Nil1.same ?_ | refine Nil1s.cons Nil1.nil ?_)); done) | exact ls_eqIN hu rfl rfl rfl | exact lsq) | refine a_seq ?_ | refine a_region ?_ | refine o_nil ?_ | refine a_block ?_ | refine a_ret ?_ | refine a_exit ?_ | refine a_skip ?_ | refine a_draw mixed ?_ | refine d_nil (by kernel_rfl) ?_ | refine o_yes rfl rfl rfl ?_ | refine o_no rfl rfl rfl (by decide) ?_ | refine o_no' rfl rfl rfl ?_ | refine a_condT rfl ?_ | refine a_condF rfl ?_ | refine d_no rfl rfl rfl (by decide) ?_ | refine d_no' rfl rfl rfl ?_ | (refine wq2 (fun hb => ?_) (fun hb => ?_) <;> (simp only [hb]; try simp only [hbs, ne_eq] at hb; try (exfalso; first | omega | exact hb trivial))) | fail)
    refine rq rfl ?_
    exact fnq
theorem p_snum (s : ByteArray) (m : Int) (hs : s.size ≤ 281474976710656) : PCT Tryz.prog TabP 17 [.v (.string s), .v (.int .i64 m)] (.tup [.v (.int .i64 (numV s)), .v (.bool (numB s && decide (numV s ≤ m)))]) := by
  have hW := p_whole s hs
  rw [num_whole]
  generalize numV s = v at *
  cases hw : wholeB s
  · rw [hw] at hW
    refine PCT.mk (act_body tab_ok Tryz.func17 rfl (by kernel_rfl) rfl ?_); intro w0 M μ0 hG; simp only [Tryz.ntmps17, List.length_cons, List.length_nil, Nat.reduceAdd, Nat.reduceSub, numb] at hG ⊢
    repeat' (first | ((first | apply o_do | apply d_do | apply d_yes rfl rfl rfl); first | focus (apply ls_callT hG hW rfl rfl _ rfl rfl; (repeat' (first | exact NilL.nil | refine NilL.cons Nil.same ?_ | refine NilL.cons Nil.nil ?_ | refine NilL.cons (Nil.agg ?_) ?_ | exact Nil1s.nil | refine Nil1s.cons Nil1.same ?_ | refine Nil1s.cons Nil1.nil ?_)); done) | exact lsq) | refine a_seq ?_ | refine a_region ?_ | refine o_nil ?_ | refine a_block ?_ | refine a_ret ?_ | refine a_exit ?_ | refine a_skip ?_ | refine a_draw mixed ?_ | refine d_nil (by kernel_rfl) ?_ | refine o_yes rfl rfl rfl ?_ | refine o_no rfl rfl rfl (by decide) ?_ | refine o_no' rfl rfl rfl ?_ | refine a_condT rfl ?_ | refine a_condF rfl ?_ | refine d_no rfl rfl rfl (by decide) ?_ | refine d_no' rfl rfl rfl ?_ | (refine wq2 (fun hb => ?_) (fun hb => ?_) <;> (simp only [hb]; try simp only [hbs, ne_eq] at hb; try (exfalso; first | omega | exact hb trivial))) | fail)
    all_goals refine rq rfl ?_
    all_goals exact fnq
  · rw [hw] at hW
    refine PCT.mk (act_body tab_ok Tryz.func17 rfl (by kernel_rfl) rfl ?_); intro w0 M μ0 hG; simp only [Tryz.ntmps17, List.length_cons, List.length_nil, Nat.reduceAdd, Nat.reduceSub, numb] at hG ⊢
    repeat' (first | ((first | apply o_do | apply d_do | apply d_yes rfl rfl rfl); first | focus (apply ls_callT hG hW rfl rfl _ rfl rfl; (repeat' (first | exact NilL.nil | refine NilL.cons Nil.same ?_ | refine NilL.cons Nil.nil ?_ | refine NilL.cons (Nil.agg ?_) ?_ | exact Nil1s.nil | refine Nil1s.cons Nil1.same ?_ | refine Nil1s.cons Nil1.nil ?_)); done) | exact lsq) | refine a_seq ?_ | refine a_region ?_ | refine o_nil ?_ | refine a_block ?_ | refine a_ret ?_ | refine a_exit ?_ | refine a_skip ?_ | refine a_draw mixed ?_ | refine d_nil (by kernel_rfl) ?_ | refine o_yes rfl rfl rfl ?_ | refine o_no rfl rfl rfl (by decide) ?_ | refine o_no' rfl rfl rfl ?_ | refine a_condT rfl ?_ | refine a_condF rfl ?_ | refine d_no rfl rfl rfl (by decide) ?_ | refine d_no' rfl rfl rfl ?_ | (refine wq2 (fun hb => ?_) (fun hb => ?_) <;> (simp only [hb]; try simp only [hbs, ne_eq] at hb; try (exfalso; first | omega | exact hb trivial))) | fail)
    all_goals refine rq rfl ?_
    all_goals (first | refine FinA.tup ?_ | refine FinA.one ?_); repeat' (first | exact FinBs.nil | exact FinCs.nil | refine FinBs.cons ?_ ?_ | refine FinCs.cons ?_ ?_ | refine FinB.cell (FinC.v ?_) | refine FinB.cell (FinC.own rfl rfl rfl ?_) | exact FinB.cell FinC.nil | refine FinB.cell (FinC.sl ?_) | exact FinB.agg' rfl rfl | exact FinB.cell (FinC.same rfl) | refine FinB.agg ?_ | refine FinC.v ?_ | refine FinC.own rfl rfl rfl ?_ | exact FinC.nil | refine FinC.sl ?_ | exact FinC.same rfl); all_goals try rfl
    all_goals first | (simp; done) | (simp [*]; done) | (simp [*]; omega)
set_option maxHeartbeats 4000000 in
theorem p_sevent (s : ByteArray) (hs : Sm s) : PCT Tryz.prog TabP 46 [.v (.string s)] (.tup [.agg (evP s).av, .v (.bool (evOK s))]) := by
  have h1 := p_Cut s (oneB 64) (by unfold Sm at hs; omega)
  obtain ⟨m1, m2⟩ := cutc_sm 64 hs
  have h2 := p_Cut (cutB s (oneB 64)) (oneB 58) (by unfold Sm at m2; omega)
  obtain ⟨m3, m4⟩ := cutc_sm 58 m2
  have h3 := p_whole (cutA (cutB s (oneB 64)) (oneB 58)) m3.n
  have h4 := p_whole (cutB (cutB s (oneB 64)) (oneB 58)) m4.n
  have h5 := p_letters (cutA s (oneB 64)) (by have := m1.n; omega)
  unfold evOK evP evT evV evK Et.av
  dsimp only
  generalize cutC s (oneB 64) = c1 at *
  generalize cutC (cutB s (oneB 64)) (oneB 58) = c2 at *
  generalize cutA (cutB s (oneB 64)) (oneB 58) = t at *
  generalize cutB (cutB s (oneB 64)) (oneB 58) = v at *
  generalize cutA s (oneB 64) = k at *
  generalize cutB s (oneB 64) = r at *
  generalize numV v = vn at *
  generalize numV t = tn at *
  have h6 := p_Event k tn vn
  generalize wholeB t = w1 at *
  generalize wholeB v = w2 at *
  generalize letB k = lb at *
  generalize evR k tn = er at *
  unfold oneB at h1 h2
  cases c1
  · refine PCT.mk (act_body tab_ok Tryz.func46 rfl (by kernel_rfl) rfl ?_); intro w0 M μ0 hG; simp only [Tryz.ntmps46, List.length_cons, List.length_nil, Nat.reduceAdd, Nat.reduceSub, numb] at hG ⊢
    repeat' (first | ((first | apply o_do | apply d_do | apply d_yes rfl rfl rfl); first | focus (apply ls_callT hG h1 rfl rfl _ rfl rfl; (repeat' (first | exact NilL.nil | refine NilL.cons Nil.same ?_ | refine NilL.cons Nil.nil ?_ | refine NilL.cons (Nil.agg ?_) ?_ | exact Nil1s.nil | refine Nil1s.cons Nil1.same ?_ | refine Nil1s.cons Nil1.nil ?_)); done) | focus (apply ls_callT hG h2 rfl rfl _ rfl rfl; (repeat' (first | exact NilL.nil | refine NilL.cons Nil.same ?_ | refine NilL.cons Nil.nil ?_ | refine NilL.cons (Nil.agg ?_) ?_ | exact Nil1s.nil | refine Nil1s.cons Nil1.same ?_ | refine Nil1s.cons Nil1.nil ?_)); done) | focus (apply ls_callT hG h3 rfl rfl _ rfl rfl; (repeat' (first | exact NilL.nil | refine NilL.cons Nil.same ?_ | refine NilL.cons Nil.nil ?_ | refine NilL.cons (Nil.agg ?_) ?_ | exact Nil1s.nil | refine Nil1s.cons Nil1.same ?_ | refine Nil1s.cons Nil1.nil ?_)); done) | focus (apply ls_callT hG h4 rfl rfl _ rfl rfl; (repeat' (first | exact NilL.nil | refine NilL.cons Nil.same ?_ | refine NilL.cons Nil.nil ?_ | refine NilL.cons (Nil.agg ?_) ?_ | exact Nil1s.nil | refine Nil1s.cons Nil1.same ?_ | refine Nil1s.cons Nil1.nil ?_)); done) | exact lsq) | refine a_seq ?_ | refine a_region ?_ | refine o_nil ?_ | refine a_block ?_ | refine a_ret ?_ | refine a_exit ?_ | refine a_skip ?_ | refine a_draw mixed ?_ | refine d_nil (by kernel_rfl) ?_ | refine o_yes rfl rfl rfl ?_ | refine o_no rfl rfl rfl (by decide) ?_ | refine o_no' rfl rfl rfl ?_ | refine a_condT rfl ?_ | refine a_condF rfl ?_ | refine d_no rfl rfl rfl (by decide) ?_ | refine d_no' rfl rfl rfl ?_ | (refine wq2 (fun hb => ?_) (fun hb => ?_) <;> (simp only [hb]; try simp only [hbs, ne_eq] at hb; try (exfalso; first | omega | exact hb trivial))) | fail)
    all_goals refine rq rfl ?_
    all_goals exact fnq
  cases c2
  · refine PCT.mk (act_body tab_ok Tryz.func46 rfl (by kernel_rfl) rfl ?_); intro w0 M μ0 hG; simp only [Tryz.ntmps46, List.length_cons, List.length_nil, Nat.reduceAdd, Nat.reduceSub, numb] at hG ⊢
    repeat' (first | ((first | apply o_do | apply d_do | apply d_yes rfl rfl rfl); first | focus (apply ls_callT hG h1 rfl rfl _ rfl rfl; (repeat' (first | exact NilL.nil | refine NilL.cons Nil.same ?_ | refine NilL.cons Nil.nil ?_ | refine NilL.cons (Nil.agg ?_) ?_ | exact Nil1s.nil | refine Nil1s.cons Nil1.same ?_ | refine Nil1s.cons Nil1.nil ?_)); done) | focus (apply ls_callT hG h2 rfl rfl _ rfl rfl; (repeat' (first | exact NilL.nil | refine NilL.cons Nil.same ?_ | refine NilL.cons Nil.nil ?_ | refine NilL.cons (Nil.agg ?_) ?_ | exact Nil1s.nil | refine Nil1s.cons Nil1.same ?_ | refine Nil1s.cons Nil1.nil ?_)); done) | focus (apply ls_callT hG h3 rfl rfl _ rfl rfl; (repeat' (first | exact NilL.nil | refine NilL.cons Nil.same ?_ | refine NilL.cons Nil.nil ?_ | refine NilL.cons (Nil.agg ?_) ?_ | exact Nil1s.nil | refine Nil1s.cons Nil1.same ?_ | refine Nil1s.cons Nil1.nil ?_)); done) | focus (apply ls_callT hG h4 rfl rfl _ rfl rfl; (repeat' (first | exact NilL.nil | refine NilL.cons Nil.same ?_ | refine NilL.cons Nil.nil ?_ | refine NilL.cons (Nil.agg ?_) ?_ | exact Nil1s.nil | refine Nil1s.cons Nil1.same ?_ | refine Nil1s.cons Nil1.nil ?_)); done) | exact lsq) | refine a_seq ?_ | refine a_region ?_ | refine o_nil ?_ | refine a_block ?_ | refine a_ret ?_ | refine a_exit ?_ | refine a_skip ?_ | refine a_draw mixed ?_ | refine d_nil (by kernel_rfl) ?_ | refine o_yes rfl rfl rfl ?_ | refine o_no rfl rfl rfl (by decide) ?_ | refine o_no' rfl rfl rfl ?_ | refine a_condT rfl ?_ | refine a_condF rfl ?_ | refine d_no rfl rfl rfl (by decide) ?_ | refine d_no' rfl rfl rfl ?_ | (refine wq2 (fun hb => ?_) (fun hb => ?_) <;> (simp only [hb]; try simp only [hbs, ne_eq] at hb; try (exfalso; first | omega | exact hb trivial))) | fail)
    all_goals refine rq rfl ?_
    all_goals exact fnq
  cases w1
  · refine PCT.mk (act_body tab_ok Tryz.func46 rfl (by kernel_rfl) rfl ?_); intro w0 M μ0 hG; simp only [Tryz.ntmps46, List.length_cons, List.length_nil, Nat.reduceAdd, Nat.reduceSub, numb] at hG ⊢
    repeat' (first | ((first | apply o_do | apply d_do | apply d_yes rfl rfl rfl); first | focus (apply ls_callT hG h1 rfl rfl _ rfl rfl; (repeat' (first | exact NilL.nil | refine NilL.cons Nil.same ?_ | refine NilL.cons Nil.nil ?_ | refine NilL.cons (Nil.agg ?_) ?_ | exact Nil1s.nil | refine Nil1s.cons Nil1.same ?_ | refine Nil1s.cons Nil1.nil ?_)); done) | focus (apply ls_callT hG h2 rfl rfl _ rfl rfl; (repeat' (first | exact NilL.nil | refine NilL.cons Nil.same ?_ | refine NilL.cons Nil.nil ?_ | refine NilL.cons (Nil.agg ?_) ?_ | exact Nil1s.nil | refine Nil1s.cons Nil1.same ?_ | refine Nil1s.cons Nil1.nil ?_)); done) | focus (apply ls_callT hG h3 rfl rfl _ rfl rfl; (repeat' (first | exact NilL.nil | refine NilL.cons Nil.same ?_ | refine NilL.cons Nil.nil ?_ | refine NilL.cons (Nil.agg ?_) ?_ | exact Nil1s.nil | refine Nil1s.cons Nil1.same ?_ | refine Nil1s.cons Nil1.nil ?_)); done) | focus (apply ls_callT hG h4 rfl rfl _ rfl rfl; (repeat' (first | exact NilL.nil | refine NilL.cons Nil.same ?_ | refine NilL.cons Nil.nil ?_ | refine NilL.cons (Nil.agg ?_) ?_ | exact Nil1s.nil | refine Nil1s.cons Nil1.same ?_ | refine Nil1s.cons Nil1.nil ?_)); done) | exact lsq) | refine a_seq ?_ | refine a_region ?_ | refine o_nil ?_ | refine a_block ?_ | refine a_ret ?_ | refine a_exit ?_ | refine a_skip ?_ | refine a_draw mixed ?_ | refine d_nil (by kernel_rfl) ?_ | refine o_yes rfl rfl rfl ?_ | refine o_no rfl rfl rfl (by decide) ?_ | refine o_no' rfl rfl rfl ?_ | refine a_condT rfl ?_ | refine a_condF rfl ?_ | refine d_no rfl rfl rfl (by decide) ?_ | refine d_no' rfl rfl rfl ?_ | (refine wq2 (fun hb => ?_) (fun hb => ?_) <;> (simp only [hb]; try simp only [hbs, ne_eq] at hb; try (exfalso; first | omega | exact hb trivial))) | fail)
    all_goals refine rq rfl ?_
    all_goals exact fnq
  cases w2
  · refine PCT.mk (act_body tab_ok Tryz.func46 rfl (by kernel_rfl) rfl ?_); intro w0 M μ0 hG; simp only [Tryz.ntmps46, List.length_cons, List.length_nil, Nat.reduceAdd, Nat.reduceSub, numb] at hG ⊢
    repeat' (first | ((first | apply o_do | apply d_do | apply d_yes rfl rfl rfl); first | focus (apply ls_callT hG h1 rfl rfl _ rfl rfl; (repeat' (first | exact NilL.nil | refine NilL.cons Nil.same ?_ | refine NilL.cons Nil.nil ?_ | refine NilL.cons (Nil.agg ?_) ?_ | exact Nil1s.nil | refine Nil1s.cons Nil1.same ?_ | refine Nil1s.cons Nil1.nil ?_)); done) | focus (apply ls_callT hG h2 rfl rfl _ rfl rfl; (repeat' (first | exact NilL.nil | refine NilL.cons Nil.same ?_ | refine NilL.cons Nil.nil ?_ | refine NilL.cons (Nil.agg ?_) ?_ | exact Nil1s.nil | refine Nil1s.cons Nil1.same ?_ | refine Nil1s.cons Nil1.nil ?_)); done) | focus (apply ls_callT hG h3 rfl rfl _ rfl rfl; (repeat' (first | exact NilL.nil | refine NilL.cons Nil.same ?_ | refine NilL.cons Nil.nil ?_ | refine NilL.cons (Nil.agg ?_) ?_ | exact Nil1s.nil | refine Nil1s.cons Nil1.same ?_ | refine Nil1s.cons Nil1.nil ?_)); done) | focus (apply ls_callT hG h4 rfl rfl _ rfl rfl; (repeat' (first | exact NilL.nil | refine NilL.cons Nil.same ?_ | refine NilL.cons Nil.nil ?_ | refine NilL.cons (Nil.agg ?_) ?_ | exact Nil1s.nil | refine Nil1s.cons Nil1.same ?_ | refine Nil1s.cons Nil1.nil ?_)); done) | exact lsq) | refine a_seq ?_ | refine a_region ?_ | refine o_nil ?_ | refine a_block ?_ | refine a_ret ?_ | refine a_exit ?_ | refine a_skip ?_ | refine a_draw mixed ?_ | refine d_nil (by kernel_rfl) ?_ | refine o_yes rfl rfl rfl ?_ | refine o_no rfl rfl rfl (by decide) ?_ | refine o_no' rfl rfl rfl ?_ | refine a_condT rfl ?_ | refine a_condF rfl ?_ | refine d_no rfl rfl rfl (by decide) ?_ | refine d_no' rfl rfl rfl ?_ | (refine wq2 (fun hb => ?_) (fun hb => ?_) <;> (simp only [hb]; try simp only [hbs, ne_eq] at hb; try (exfalso; first | omega | exact hb trivial))) | fail)
    all_goals refine rq rfl ?_
    all_goals exact fnq
  cases lb
  all_goals
    refine PCT.mk (act_body tab_ok Tryz.func46 rfl (by kernel_rfl) rfl ?_); intro w0 M μ0 hG; simp only [Tryz.ntmps46, List.length_cons, List.length_nil, Nat.reduceAdd, Nat.reduceSub, numb] at hG ⊢
    repeat' (first | ((first | apply o_do | apply d_do | apply d_yes rfl rfl rfl); first | focus (apply ls_callT hG h1 rfl rfl _ rfl rfl; (repeat' (first | exact NilL.nil | refine NilL.cons Nil.same ?_ | refine NilL.cons Nil.nil ?_ | refine NilL.cons (Nil.agg ?_) ?_ | exact Nil1s.nil | refine Nil1s.cons Nil1.same ?_ | refine Nil1s.cons Nil1.nil ?_)); done) | focus (apply ls_callT hG h2 rfl rfl _ rfl rfl; (repeat' (first | exact NilL.nil | refine NilL.cons Nil.same ?_ | refine NilL.cons Nil.nil ?_ | refine NilL.cons (Nil.agg ?_) ?_ | exact Nil1s.nil | refine Nil1s.cons Nil1.same ?_ | refine Nil1s.cons Nil1.nil ?_)); done) | focus (apply ls_callT hG h3 rfl rfl _ rfl rfl; (repeat' (first | exact NilL.nil | refine NilL.cons Nil.same ?_ | refine NilL.cons Nil.nil ?_ | refine NilL.cons (Nil.agg ?_) ?_ | exact Nil1s.nil | refine Nil1s.cons Nil1.same ?_ | refine Nil1s.cons Nil1.nil ?_)); done) | focus (apply ls_callT hG h4 rfl rfl _ rfl rfl; (repeat' (first | exact NilL.nil | refine NilL.cons Nil.same ?_ | refine NilL.cons Nil.nil ?_ | refine NilL.cons (Nil.agg ?_) ?_ | exact Nil1s.nil | refine Nil1s.cons Nil1.same ?_ | refine Nil1s.cons Nil1.nil ?_)); done) | exact lsc (h5) | exact lsc (h6) | exact lsq) | refine a_seq ?_ | refine a_region ?_ | refine o_nil ?_ | refine a_block ?_ | refine a_ret ?_ | refine a_exit ?_ | refine a_skip ?_ | refine a_draw mixed ?_ | refine d_nil (by kernel_rfl) ?_ | refine o_yes rfl rfl rfl ?_ | refine o_no rfl rfl rfl (by decide) ?_ | refine o_no' rfl rfl rfl ?_ | refine a_condT rfl ?_ | refine a_condF rfl ?_ | refine d_no rfl rfl rfl (by decide) ?_ | refine d_no' rfl rfl rfl ?_ | (refine wq2 (fun hb => ?_) (fun hb => ?_) <;> (simp only [hb]; try simp only [hbs, ne_eq] at hb; try (exfalso; first | omega | exact hb trivial))) | fail)
    all_goals refine rq rfl ?_
    all_goals exact fnq
theorem srcO_yes {ws : List ByteArray} {es : List Et} (h : srcO ws = some es) : ws.length ≤ 200 ∧ ws.all evOK = true ∧ es = ws.map evP := by
  unfold srcO at h
  split at h
  · rename_i h1
    injection h with h
    exact ⟨h1.1, h1.2, h.symm⟩
  · cases h
set_option maxHeartbeats 4000000 in
/-- a source's words, read: all of them, or none -/
theorem p_ssrc (w : ByteArray) (ws : List ByteArray) (hw : (w.toList == srcB.toList) = true) (hsm : ∀ x ∈ ws, Sm x) (hl : ws.length ≤ 4294967290) :
    PCT Tryz.prog TabP 18 [.sl 1 ((w :: ws).map stAv)] (match srcO ws with | some es => .tup [.sl 3 (es.map Et.av), .v (.bool true)] | none => .tup [.sl 3 [], .v (.bool false)]) := by
  obtain ⟨R, hR⟩ : ∃ R, R = (match srcO ws with | some es => AV.tup [.sl 3 (es.map Et.av), .v (.bool true)] | none => .tup [.sl 3 [], .v (.bool false)]) := ⟨_, rfl⟩
  rw [← hR]
  have hn : ((w :: ws).map stAv).length = ws.length + 1 := by simp
  have hm : (ws.map stAv).length = ws.length := by simp
  have hn1 : 1 ≤ ((w :: ws).map stAv).length := by omega
  have hd : ((w :: ws).map stAv).drop 1 = ws.map stAv := by simp
  have hel0 : ((w :: ws).map stAv)[0]? = some [.v (.string w)] := by simp [stAv]
  unfold srcB at hw
  generalize (w :: ws).map stAv = A at *
  by_cases h200 : 200 < ws.length
  · have hno : srcO ws = none := by unfold srcO; rw [if_neg (by omega)]
    rw [hno] at hR
    dsimp only at hR
    subst hR
    refine PCT.mk (act_body tab_ok Tryz.func18 rfl (by kernel_rfl) rfl ?_); intro w0 M μ0 hG; simp only [Tryz.ntmps18, List.length_cons, List.length_nil, Nat.reduceAdd, Nat.reduceSub, numb] at hG ⊢
    repeat' (first | ((first | apply o_do | apply d_do | apply d_yes rfl rfl rfl); first | exact ls_indexAddr_sl (q := 0) tab_ok rfl rfl rfl rfl hel0 rfl | exact lsq) | refine a_seq ?_ | refine a_region ?_ | refine o_nil ?_ | refine a_block ?_ | refine a_ret ?_ | refine a_exit ?_ | refine a_skip ?_ | refine a_draw mixed ?_ | refine d_nil (by kernel_rfl) ?_ | refine o_yes rfl rfl rfl ?_ | refine o_no rfl rfl rfl (by decide) ?_ | refine o_no' rfl rfl rfl ?_ | refine a_condT rfl ?_ | refine a_condF rfl ?_ | refine d_no rfl rfl rfl (by decide) ?_ | refine d_no' rfl rfl rfl ?_ | (refine wq2 (fun hb => ?_) (fun hb => ?_) <;> (simp only [hb]; try simp only [hbs, ne_eq] at hb; try (exfalso; first | omega | exact hb trivial))) | fail)
    all_goals try (exfalso; simp_all; done)
    all_goals try (exfalso; omega)
    all_goals refine rq rfl ?_
    all_goals exact fnq
  · have hR2 : R = if ws.all evOK = true then AV.tup [.sl 3 ((ws.map evP).map Et.av), .v (.bool true)] else .tup [.sl 3 [], .v (.bool false)] := by
      rw [hR]
      unfold srcO
      cases h3 : ws.all evOK
      · rw [if_neg (by simp), if_neg (by simp)]
      · rw [if_pos ⟨by omega, rfl⟩, if_pos rfl]
    clear hR
    refine PCT.mk (act_body tab_ok Tryz.func18 rfl (by kernel_rfl) rfl ?_); intro w0 M μ0 hG; simp only [Tryz.ntmps18, List.length_cons, List.length_nil, Nat.reduceAdd, Nat.reduceSub, numb] at hG ⊢
    repeat' (first | ((first | apply o_do | apply d_do | apply d_yes rfl rfl rfl); first | exact ls_indexAddr_sl (q := 0) tab_ok rfl rfl rfl rfl hel0 rfl | exact ls_slice_from (n := 1) tab_ok rfl rfl rfl rfl hn1 rfl | exact ls_build0 (k := 0) tab_ok rfl rfl rfl rfl | exact lsq) | refine a_seq ?_ | refine a_region ?_ | refine o_nil ?_ | refine a_block ?_ | refine a_ret ?_ | refine a_exit ?_ | refine a_skip ?_ | refine a_draw mixed ?_ | refine d_nil (by kernel_rfl) ?_ | refine o_yes rfl rfl rfl ?_ | refine o_no rfl rfl rfl (by decide) ?_ | refine o_no' rfl rfl rfl ?_ | refine a_condT rfl ?_ | refine a_condF rfl ?_ | refine d_no rfl rfl rfl (by decide) ?_ | refine d_no' rfl rfl rfl ?_ | (refine wq2 (fun hb => ?_) (fun hb => ?_) <;> (simp only [hb]; try simp only [hbs, ne_eq] at hb; try (exfalso; first | omega | exact hb trivial))) | fail)
    all_goals try (exfalso; simp_all; done)
    all_goals try (exfalso; omega)
    rw [hd]
    refine a_loop (X := {x : Nat × List (List AV) // x.1 ≤ ws.length ∧ (ws.take x.1).all evOK = true ∧ x.2 = ((ws.take x.1).map evP).map Et.av}) (fun x => ⟨[(4, .own 0 x.1.2.length), (20, .sl 1 (ws.map stAv)), (21, .v (.int .i64 ws.length)), (22, .v (.int .i64 x.1.1))], [(0, .row 82 3 x.1.2)]⟩) (fun x => ws.length - x.1.1) ⟨(0, []), Nat.zero_le _, rfl, rfl⟩ ?_ ?_
    · exact wkS
    rintro ⟨⟨q, L⟩, hq, hall, hL⟩
    dsimp only at hq hall hL ⊢
    have hLl : L.length = q := by rw [hL]; simp; omega
    by_cases hlt : q < ws.length
    · have hel : (ws.map stAv)[q]? = some [.v (.string ws[q])] := by simp [hlt, stAv]
      have hsn := take_snoc ws q hlt
      have hE := p_sevent ws[q] (hsm _ (List.getElem_mem hlt))
      have hL2 : L ++ [(evP ws[q]).av] = ((ws.take (q + 1)).map evP).map Et.av := by rw [hL, hsn]; simp only [List.map_append, List.map_cons, List.map_nil]
      have hok : evOK ws[q] = true → (ws.take (q + 1)).all evOK = true := fun h => by rw [hsn, List.all_append, hall]; simp [h]
      have hno : evOK ws[q] = false → ws.all evOK = false := fun h => by
        rw [List.all_eq_false]
        exact ⟨ws[q], List.getElem_mem hlt, by simp [h]⟩
      generalize ws[q] = x at *
      unfold Et.av at hE hL2
      generalize evP x = e at *
      obtain ⟨ek, et, ev⟩ := e
      dsimp only at hE hL2
      cases hz : evOK x
      · rw [hz] at hE
        rw [if_neg (by rw [hno hz]; simp)] at hR2
        subst hR2
        repeat' (first | ((first | apply o_do | apply d_do | apply d_yes rfl rfl rfl); first | exact ls_indexAddr_sl tab_ok rfl rfl rfl rfl hel rfl | focus (apply ls_callT hG hE rfl rfl _ rfl rfl; (repeat' (first | exact NilL.nil | refine NilL.cons Nil.same ?_ | refine NilL.cons Nil.nil ?_ | refine NilL.cons (Nil.agg ?_) ?_ | exact Nil1s.nil | refine Nil1s.cons Nil1.same ?_ | refine Nil1s.cons Nil1.nil ?_)); done) | exact lsq) | refine a_seq ?_ | refine a_region ?_ | refine o_nil ?_ | refine a_block ?_ | refine a_ret ?_ | refine a_exit ?_ | refine a_skip ?_ | refine a_draw mixed ?_ | refine d_nil (by kernel_rfl) ?_ | refine o_yes rfl rfl rfl ?_ | refine o_no rfl rfl rfl (by decide) ?_ | refine o_no' rfl rfl rfl ?_ | refine a_condT rfl ?_ | refine a_condF rfl ?_ | refine d_no rfl rfl rfl (by decide) ?_ | refine d_no' rfl rfl rfl ?_ | (refine wq2 (fun hb => ?_) (fun hb => ?_) <;> (simp only [hb]; try simp only [hbs, ne_eq] at hb; try (exfalso; first | omega | exact hb trivial))) | fail)
        all_goals refine rq rfl ?_
        all_goals exact fnq
      · rw [hz] at hE
        repeat' (first | ((first | apply o_do | apply d_do | apply d_yes rfl rfl rfl); first | exact ls_indexAddr_sl tab_ok rfl rfl rfl rfl hel rfl | focus (apply ls_callT hG hE rfl rfl _ rfl rfl; (repeat' (first | exact NilL.nil | refine NilL.cons Nil.same ?_ | refine NilL.cons Nil.nil ?_ | refine NilL.cons (Nil.agg ?_) ?_ | exact Nil1s.nil | refine Nil1s.cons Nil1.same ?_ | refine Nil1s.cons Nil1.nil ?_)); done) | focus (apply ls_append tab_ok rfl rfl ?hn rfl ?hsrc rfl ?hlen rfl rfl; (case hn => rfl); (case hsrc => first | exact SrcIs.sl | exact SrcIs.nil | exact SrcIs.own rfl rfl | fail); (case hlen => (try simp only [List.length_cons, List.length_nil]); omega); first | done | fail) | exact lsq) | refine a_seq ?_ | refine a_region ?_ | refine o_nil ?_ | refine a_block ?_ | refine a_ret ?_ | refine a_exit ?_ | refine a_skip ?_ | refine a_draw mixed ?_ | refine d_nil (by kernel_rfl) ?_ | refine o_yes rfl rfl rfl ?_ | refine o_no rfl rfl rfl (by decide) ?_ | refine o_no' rfl rfl rfl ?_ | refine a_condT rfl ?_ | refine a_condF rfl ?_ | refine d_no rfl rfl rfl (by decide) ?_ | refine d_no' rfl rfl rfl ?_ | (refine wq2 (fun hb => ?_) (fun hb => ?_) <;> (simp only [hb]; try simp only [hbs, ne_eq] at hb; try (exfalso; first | omega | exact hb trivial))) | fail)
        refine ⟨⟨(q + 1, _), by dsimp only; omega, hok hz, hL2⟩, by dsimp only; omega, ?_⟩
        exact wkS
    · obtain rfl : q = ws.length := by omega
      rw [List.take_length] at hall hL
      rw [if_pos hall] at hR2
      subst hL
      subst hR2
      repeat' (first | ((first | apply o_do | apply d_do | apply d_yes rfl rfl rfl); exact lsq) | refine a_seq ?_ | refine a_region ?_ | refine o_nil ?_ | refine a_block ?_ | refine a_ret ?_ | refine a_exit ?_ | refine a_skip ?_ | refine a_draw mixed ?_ | refine d_nil (by kernel_rfl) ?_ | refine o_yes rfl rfl rfl ?_ | refine o_no rfl rfl rfl (by decide) ?_ | refine o_no' rfl rfl rfl ?_ | refine a_condT rfl ?_ | refine a_condF rfl ?_ | refine d_no rfl rfl rfl (by decide) ?_ | refine d_no' rfl rfl rfl ?_ | (refine wq2 (fun hb => ?_) (fun hb => ?_) <;> (simp only [hb]; try simp only [hbs, ne_eq] at hb; try (exfalso; first | omega | exact hb trivial))) | fail)
      all_goals refine rq rfl ?_
      all_goals exact fnq
end Go.Proofs.YtbhblhcgfenobaaGreatDoor
