/-
  Jobs: the law JobPrints walked.
-/
import Derived.Test.YthlimflfglkpiaaDoorJpB
namespace Go.Proofs.YthlimflfglkpiaaDoor
open Go.RowKit
set_option linter.unusedSimpArgs false
set_option linter.unusedVariables false
theorem kind_at {k : Int} (h : fRight k = true) : ∃ q : Nat, q < 5 ∧ k = (q : Int) + 1 := by
  simp only [fRight, Bool.and_eq_true, decide_eq_true_eq] at h
  exact ⟨(k - 1).toNat, by omega, by omega⟩
theorem jobOK_kind {g s d k fu li de id : Int} (h : jobOK g s d k fu li de id = true) : fRight k = true := by
  simp only [jobOK, Bool.and_eq_true] at h
  exact h.2.2.2.1
set_option maxHeartbeats 4000000 in
set_option maxRecDepth 20000 in
theorem j_prints (g s d k fu li de id : Int) (h : JI g s d k fu li de id) : PCT Tryd.prog TabT 3 [.agg (jAv g s d k fu li de id)] (.v (.bool true)) := by
  have hA := p_alive13
  cases hj : jobOK g s d k fu li de id
  · have hR := j_rRight g s d k fu li de id
    rw [hj] at hR
    have hP := j_PrintNo g s d k fu li de id hj
    unfold jAv at *
    refine PCT.mk (act_body tab_ok Tryd.func3 rfl (by kernel_rfl) rfl ?_); intro w0 M μ0 hG; simp only [Tryd.ntmps3, List.length_cons, List.length_nil, Nat.reduceAdd, Nat.reduceSub, numb] at hG ⊢
    repeat' (first | ((first | apply o_do | apply d_do | apply d_yes rfl rfl rfl); first | focus (apply ls_callT hG hP rfl rfl _ rfl rfl; (repeat' (first | exact NilL.nil | refine NilL.cons Nil.same ?_ | refine NilL.cons Nil.nil ?_ | refine NilL.cons (Nil.agg ?_) ?_ | exact Nil1s.nil | refine Nil1s.cons Nil1.same ?_ | refine Nil1s.cons Nil1.nil ?_)); done) | exact lsc (hR) | exact lsc (hA) | exact lsq) | refine a_seq ?_ | refine a_region ?_ | refine o_nil ?_ | refine a_block ?_ | refine a_ret ?_ | refine a_exit ?_ | refine a_skip ?_ | refine a_draw mixed ?_ | refine d_nil (by kernel_rfl) ?_ | refine o_yes rfl rfl rfl ?_ | refine o_no rfl rfl rfl (by decide) ?_ | refine o_no' rfl rfl rfl ?_ | refine a_condT rfl ?_ | refine a_condF rfl ?_ | refine d_no rfl rfl rfl (by decide) ?_ | refine d_no' rfl rfl rfl ?_ | (refine wq2 (fun hb => ?_) (fun hb => ?_) <;> (simp only [hb]; try simp only [hbs, ne_eq] at hb; try (exfalso; first | omega | exact hb trivial))) | fail)
    refine ⟨by first | exact .inr rfl | exact .inl rfl, _, rfl, ?_, by repeat' (first | exact trivial | refine ⟨⟨_, rfl, by first | rfl | (simp [renO, *]; done)⟩, by first | rfl | assumption, ?_⟩)⟩
    (first | refine FinA.tup ?_ | refine FinA.one ?_); repeat' (first | exact FinBs.nil | exact FinCs.nil | refine FinBs.cons ?_ ?_ | refine FinCs.cons ?_ ?_ | refine FinB.cell (FinC.v ?_) | refine FinB.cell (FinC.own rfl rfl rfl ?_) | exact FinB.cell FinC.nil | refine FinB.cell (FinC.sl ?_) | exact FinB.agg' rfl rfl | exact FinB.cell (FinC.same rfl) | refine FinB.agg ?_ | refine FinC.v ?_ | refine FinC.own rfl rfl rfl ?_ | exact FinC.nil | refine FinC.sl ?_ | exact FinC.same rfl); all_goals try rfl
    all_goals simp
  · obtain ⟨q, hq, rfl⟩ := kind_at (jobOK_kind hj)
    have hR := j_rRight g s d ((q : Int) + 1) fu li de id
    rw [hj] at hR
    have hP := j_Print g s d fu li de id q hq h hj
    have hT := j_Text g s d fu li de id q hq h
    unfold spB at hP
    rw [jobP_T] at hP
    generalize jobT (itoB g) (itoB s) (itoB d) (nmQ q) (itoB li) (itoB fu) (itoB de) (itoB id) = T at *
    unfold jAv at *
    refine PCT.mk (act_body tab_ok Tryd.func3 rfl (by kernel_rfl) rfl ?_); intro w0 M μ0 hG; simp only [Tryd.ntmps3, List.length_cons, List.length_nil, Nat.reduceAdd, Nat.reduceSub, numb] at hG ⊢
    repeat' (first | ((first | apply o_do | apply d_do | apply d_yes rfl rfl rfl); first | focus (apply ls_callT hG hP rfl rfl _ rfl rfl; (repeat' (first | exact NilL.nil | refine NilL.cons Nil.same ?_ | refine NilL.cons Nil.nil ?_ | refine NilL.cons (Nil.agg ?_) ?_ | exact Nil1s.nil | refine Nil1s.cons Nil1.same ?_ | refine Nil1s.cons Nil1.nil ?_)); done) | exact lsc (hR) | focus (apply ls_callT hG hT rfl rfl _ rfl rfl; (repeat' (first | exact NilL.nil | refine NilL.cons Nil.same ?_ | refine NilL.cons Nil.nil ?_ | refine NilL.cons (Nil.agg ?_) ?_ | exact Nil1s.nil | refine Nil1s.cons Nil1.same ?_ | refine Nil1s.cons Nil1.nil ?_)); done) | exact lsq) | refine a_seq ?_ | refine a_region ?_ | refine o_nil ?_ | refine a_block ?_ | refine a_ret ?_ | refine a_exit ?_ | refine a_skip ?_ | refine a_draw mixed ?_ | refine d_nil (by kernel_rfl) ?_ | refine o_yes rfl rfl rfl ?_ | refine o_no rfl rfl rfl (by decide) ?_ | refine o_no' rfl rfl rfl ?_ | refine a_condT rfl ?_ | refine a_condF rfl ?_ | refine d_no rfl rfl rfl (by decide) ?_ | refine d_no' rfl rfl rfl ?_ | (refine wq2 (fun hb => ?_) (fun hb => ?_) <;> (simp only [hb]; try simp only [hbs, ne_eq] at hb; try (exfalso; first | omega | exact hb trivial))) | fail)
    refine ⟨by first | exact .inr rfl | exact .inl rfl, _, rfl, ?_, by repeat' (first | exact trivial | refine ⟨⟨_, rfl, by first | rfl | (simp [renO, *]; done)⟩, by first | rfl | assumption, ?_⟩)⟩
    (first | refine FinA.tup ?_ | refine FinA.one ?_); repeat' (first | exact FinBs.nil | exact FinCs.nil | refine FinBs.cons ?_ ?_ | refine FinCs.cons ?_ ?_ | refine FinB.cell (FinC.v ?_) | refine FinB.cell (FinC.own rfl rfl rfl ?_) | exact FinB.cell FinC.nil | refine FinB.cell (FinC.sl ?_) | exact FinB.agg' rfl rfl | exact FinB.cell (FinC.same rfl) | refine FinB.agg ?_ | refine FinC.v ?_ | refine FinC.own rfl rfl rfl ?_ | exact FinC.nil | refine FinC.sl ?_ | exact FinC.same rfl); all_goals try rfl
    all_goals simp
end Go.Proofs.YthlimflfglkpiaaDoor
