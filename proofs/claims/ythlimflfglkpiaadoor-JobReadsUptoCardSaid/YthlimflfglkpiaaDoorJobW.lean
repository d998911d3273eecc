/-
  Which jobs may be: layer job and its reference. No condition.
-/
import Derived.Test.YthlimflfglkpiaaDoorHas
namespace Go.Proofs.YthlimflfglkpiaaDoor
open Go.RowKit
set_option linter.unusedSimpArgs false
set_option linter.unusedVariables false
attribute [local go_sem ↓] Go.wp_at_zero Go.wp_at_succ

def jobB (g s d f fu li de id : Int) : Bool := decide (1 ≤ g) && decide (g ≤ 32) && winB s d && kindB f && decide (0 ≤ fu) && decide (fu ≤ 40) && decide (0 ≤ li) && decide (0 ≤ de) && decide (de ≤ 1099511627776) && decide (0 ≤ id) && decide (id ≤ 1048576)

theorem job_Right (g s d f fu li de id : Int) (w : World) :
    Calls Tryd.prog 26 #[.agg #[.int .i64 g, .int .i64 s, .int .i64 d, .int .i64 f, .int .i64 fu, .int .i64 li, .int .i64 de, .int .i64 id]] w fun e w' => e = .returned (.bool (jobB g s d f fu li de id)) ∧ Below w.heap.size w w' := by
  go_enter Tryd.func26, Tryd.ntmps26
  go_wp2_with (first | (go_at_call 44; refine (window_Right _ _ _).mono ?_; rintro e w1 ⟨rfl, rfl⟩) | (go_at_call 45; refine (right_fold _ _).mono ?_; rintro e w1 ⟨rfl, rfl⟩))
  all_goals go_ret
  all_goals refine ⟨?_, by repeat (first | assumption | exact Below.refl _ _ | refine Gr.drew ?_ | refine Gr.drewN ?_ _ | refine Gr.alloc ?_ _ | refine Gr.set_ ?_ (by first | (simp; done) | assumption | omega | (simp; omega)) _)⟩
  all_goals simp [jobB, *]
  all_goals try omega
theorem ref09_Job (g s d f fu li de id : Int) (w : World) :
    Calls Tryd.prog 32 #[.agg #[.int .i64 g, .int .i64 s, .int .i64 d, .int .i64 f, .int .i64 fu, .int .i64 li, .int .i64 de, .int .i64 id]] w fun e w' => e = .returned (.bool (winB s d && kindB f)) ∧ Below w.heap.size w w' := by
  go_enter Tryd.func32, Tryd.ntmps32
  go_wp2_with (first | (go_at_call 51; refine (ref05_Right _ _ _).mono ?_; rintro e w1 ⟨rfl, rfl⟩) | (go_at_call 52; refine (ref07_Fold _ _).mono ?_; rintro e w1 ⟨rfl, rfl⟩))
  all_goals go_ret
  all_goals refine ⟨?_, by repeat (first | assumption | exact Below.refl _ _ | refine Gr.drew ?_ | refine Gr.drewN ?_ _ | refine Gr.alloc ?_ _ | refine Gr.set_ ?_ (by first | (simp; done) | assumption | omega | (simp; omega)) _)⟩
  all_goals simp [*]
theorem ref13_Right (g s d f fu li de id : Int) (w : World) :
    Calls Tryd.prog 12 #[.agg #[.int .i64 g, .int .i64 s, .int .i64 d, .int .i64 f, .int .i64 fu, .int .i64 li, .int .i64 de, .int .i64 id]] w fun e w' => e = .returned (.bool (jobB g s d f fu li de id)) ∧ Below w.heap.size w w' := by
  have key : g < 1 ∨ (¬ g < 1 ∧ 32 < g) ∨ (¬ g < 1 ∧ ¬ 32 < g ∧ (winB s d && kindB f) = false) ∨ (¬ g < 1 ∧ ¬ 32 < g ∧ (winB s d && kindB f) = true ∧ fu < 0) ∨ (¬ g < 1 ∧ ¬ 32 < g ∧ (winB s d && kindB f) = true ∧ ¬ fu < 0 ∧ 40 < fu) ∨ (¬ g < 1 ∧ ¬ 32 < g ∧ (winB s d && kindB f) = true ∧ ¬ fu < 0 ∧ ¬ 40 < fu ∧ li < 0) ∨ (¬ g < 1 ∧ ¬ 32 < g ∧ (winB s d && kindB f) = true ∧ ¬ fu < 0 ∧ ¬ 40 < fu ∧ ¬ li < 0) := by
    cases winB s d && kindB f <;> simp <;> omega
  unfold jobB
  rw [show (decide (1 ≤ g) && decide (g ≤ 32) && winB s d && kindB f) = (decide (1 ≤ g) && decide (g ≤ 32) && (winB s d && kindB f)) from by simp only [Bool.and_assoc]]
  generalize hj : (winB s d && kindB f) = j at *
  have hj := hide hj
  rcases key with h1 | ⟨h1, h2⟩ | ⟨h1, h2, h3⟩ | ⟨h1, h2, h3, h4⟩ | ⟨h1, h2, h3, h4, h5⟩ | ⟨h1, h2, h3, h4, h5, h6⟩ | ⟨h1, h2, h3, h4, h5, h6⟩
  all_goals (try subst h3)
  all_goals
   go_enter Tryd.func12, Tryd.ntmps12
   go_wp2_with (go_at_call 32; refine (ref09_Job _ _ _ _ _ _ _ _ _).mono ?_; rintro e w1 ⟨rfl, hb1⟩; rw [hj.out]; have hb := Gr.call (a := w) (by repeat (first | assumption | exact Below.refl _ _ | refine Gr.drew ?_ | refine Gr.drewN ?_ _ | refine Gr.alloc ?_ _ | refine Gr.set_ ?_ (by first | (simp; done) | assumption | omega | (simp; omega)) _)) hb1; have B0 := (Blk.new w 23 #[.int .i64 g, .int .i64 s, .int .i64 d, .int .i64 f, .int .i64 fu, .int .i64 li, .int .i64 de, .int .i64 id]).call hb1; have c0 := B0.cell)
   go_wp2
   all_goals go_ret
   all_goals refine ⟨?_, by repeat (first | assumption | exact Below.refl _ _ | refine Gr.drew ?_ | refine Gr.drewN ?_ _ | refine Gr.alloc ?_ _ | refine Gr.set_ ?_ (by first | (simp; done) | assumption | omega | (simp; omega)) _)⟩
   all_goals simp [jobB, *]
   all_goals try omega
theorem law13_alive (w : World) : Calls Tryd.prog 13 #[] w fun e w' => e = .returned (.bool true) ∧ Below w.heap.size w w' := by
  go_enter Tryd.func13, Tryd.ntmps13
  go_wp2_with fail
  refine (job_Right _ _ _ _ _ _ _ _ _).mono ?_
  rintro e w1 ⟨rfl, hb⟩
  rw [show jobB 1 1 1 2 0 0 0 0 = true from by decide]
  go_wp2
  go_ret
  exact ⟨rfl, hb⟩
end Go.Proofs.YthlimflfglkpiaaDoor
