/-
  Workers, walked over abstract values: the law of an item, and all that waited for it.
-/
import Derived.Test.YtagfjnjpgphnjaaGreatWrC
namespace Go.Proofs.YtagfjnjpgphnjaaGreat
open Go.RowKit
set_option linter.unusedSimpArgs false
set_option linter.unusedVariables false
set_option maxRecDepth 10000 in
set_option maxHeartbeats 8000000 in
theorem w_runs (j : Jb) (w : Wk) (input : Int) (x : It) (hw : WkOk w) (hv : HV w) (hx : ItV x) (hg : -9223372036854775808 ≤ j.g ∧ j.g ≤ 9223372036854775807) :
    PC Tryz.prog 5 [.agg j.av, .agg w.av, .v (.int .i64 input), .agg x.av] (.v (.bool true)) := by
  have h1 := w_small w hw
  have h2 := w_Run j hg (heldN w.al + 1) w input x hw hv hx (Nat.lt_succ_self _)
  have h3 := r_Run j hg (heldN w.al + 1) w input x hw hv hx (Nat.lt_succ_self _)
  have hk := run_ok j (heldN w.al + 1) w input x hw hv hx
  have hlen := run_len j (heldN w.al + 1) w input x hw hv hx
  generalize wkRun j (heldN w.al + 1) w input x = R at *
  have h4 := w_Like R.w hk.ok
  have h5 := fun h => l_LikeI R.told h
  have h7 := w_alive
  obtain ⟨rw', rt, re⟩ := R
  simp only [RnW.av, RnW.avR, TkW.avR, Wk.av, Jb.av] at h1 h2 h3 h4 h5 ⊢
  cases e1 : smallW w
  all_goals
    rw [e1] at h1
  · refine PC.mk (ac_body tab_ok Tryz.func5 rfl (by kernel_rfl) rfl ?_); intro w0 M μ0; simp only [Tryz.ntmps5, List.length_cons, List.length_nil, Nat.reduceAdd, Nat.reduceSub, numb]
    repeat' (first | ((first | apply o_do | apply d_do | apply d_yes rfl rfl rfl); first | exact lsc (h1) | exact lsq) | refine a_seq ?_ | refine a_region ?_ | refine o_nil ?_ | refine a_block ?_ | refine a_ret ?_ | refine a_exit ?_ | refine a_skip ?_ | refine a_draw mixed ?_ | refine d_nil (by kernel_rfl) ?_ | refine o_yes rfl rfl rfl ?_ | refine o_no rfl rfl rfl (by decide) ?_ | refine o_no' rfl rfl rfl ?_ | refine a_condT rfl ?_ | refine a_condF rfl ?_ | refine d_no rfl rfl rfl (by decide) ?_ | refine d_no' rfl rfl rfl ?_ | (refine wq2 (fun hb => ?_) (fun hb => ?_) <;> (simp only [hb]; try simp only [hbs, ne_eq] at hb; try (exfalso; first | omega | exact hb trivial))) | fail)
    all_goals try (exfalso; simp at hb; done)
    all_goals refine rq rfl ?_
    all_goals exact fnq
  · have h5 := h5 (by dsimp only at hlen; omega)
    refine PC.mk (ac_body tab_ok Tryz.func5 rfl (by kernel_rfl) rfl ?_); intro w0 M μ0; simp only [Tryz.ntmps5, List.length_cons, List.length_nil, Nat.reduceAdd, Nat.reduceSub, numb]
    repeat' (first | ((first | apply o_do | apply d_do | apply d_yes rfl rfl rfl); first | exact lsc (h1) | exact lsc (h2) | exact lsc (h3) | exact lsc (h4) | exact lsc (h5) | exact lsc (h7) | exact lsq) | refine a_seq ?_ | refine a_region ?_ | refine o_nil ?_ | refine a_block ?_ | refine a_ret ?_ | refine a_exit ?_ | refine a_skip ?_ | refine a_draw mixed ?_ | refine d_nil (by kernel_rfl) ?_ | refine o_yes rfl rfl rfl ?_ | refine o_no rfl rfl rfl (by decide) ?_ | refine o_no' rfl rfl rfl ?_ | refine a_condT rfl ?_ | refine a_condF rfl ?_ | refine d_no rfl rfl rfl (by decide) ?_ | refine d_no' rfl rfl rfl ?_ | (refine wq2 (fun hb => ?_) (fun hb => ?_) <;> (simp only [hb]; try simp only [hbs, ne_eq] at hb; try (exfalso; first | omega | exact hb trivial))) | fail)
    all_goals try (exfalso; simp at hb; done)
    all_goals refine rq rfl ?_
    all_goals exact fnq
end Go.Proofs.YtagfjnjpgphnjaaGreat
