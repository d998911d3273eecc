/-
  Which jobs may be: layer job and its reference. No condition.
-/
import Derived.Test.YtbhblhcgfenobaaDoorHas
namespace Go.Proofs.YtbhblhcgfenobaaDoor
open Go.RowKit
set_option linter.unusedSimpArgs false
set_option linter.unusedVariables false
attribute [local go_sem ↓] Go.wp_at_zero Go.wp_at_succ

def jobB (g s d f fu li de id : Int) : Bool := decide (1 ≤ g) && decide (g ≤ 32) && winB s d && kindB f && decide (0 ≤ fu) && decide (fu ≤ 40) && decide (0 ≤ li) && decide (0 ≤ de) && decide (de ≤ 1099511627776) && decide (0 ≤ id) && decide (id ≤ 1048576)

theorem job_Right (g s d f fu li de id : Int) (w : World) :
    Calls Tryd.prog 21 #[.agg #[.int .i64 g, .int .i64 s, .int .i64 d, .int .i64 f, .int .i64 fu, .int .i64 li, .int .i64 de, .int .i64 id]] w fun e w' => e = .returned (.bool (jobB g s d f fu li de id)) ∧ Below w.heap.size w w' := by
  go_enter Tryd.func21, Tryd.ntmps21
  go_wp2_with (first | (go_at_call 42; refine (window_Right _ _ _).mono ?_; rintro e w1 ⟨rfl, rfl⟩) | (go_at_call 43; refine (right_fold _ _).mono ?_; rintro e w1 ⟨rfl, rfl⟩))
  all_goals go_ret
  all_goals refine ⟨?_, by repeat (first | assumption | exact Below.refl _ _ | refine Gr.drew ?_ | refine Gr.drewN ?_ _ | refine Gr.alloc ?_ _ | refine Gr.set_ ?_ (by first | (simp; done) | assumption | omega | (simp; omega)) _)⟩
  all_goals simp [jobB, *]
  all_goals try omega
theorem ref09_Job (g s d f fu li de id : Int) (w : World) :
    Calls Tryd.prog 40 #[.agg #[.int .i64 g, .int .i64 s, .int .i64 d, .int .i64 f, .int .i64 fu, .int .i64 li, .int .i64 de, .int .i64 id]] w fun e w' => e = .returned (.bool (winB s d && kindB f)) ∧ Below w.heap.size w w' := by
  go_enter Tryd.func40, Tryd.ntmps40
  go_wp2_with (first | (go_at_call 55; refine (ref05_Right _ _ _).mono ?_; rintro e w1 ⟨rfl, rfl⟩) | (go_at_call 56; refine (ref07_Fold _ _).mono ?_; rintro e w1 ⟨rfl, rfl⟩))
  all_goals go_ret
  all_goals refine ⟨?_, by repeat (first | assumption | exact Below.refl _ _ | refine Gr.drew ?_ | refine Gr.drewN ?_ _ | refine Gr.alloc ?_ _ | refine Gr.set_ ?_ (by first | (simp; done) | assumption | omega | (simp; omega)) _)⟩
  all_goals simp [*]
theorem ref13_Right (g s d f fu li de id : Int) (w : World) :
    Calls Tryd.prog 16 #[.agg #[.int .i64 g, .int .i64 s, .int .i64 d, .int .i64 f, .int .i64 fu, .int .i64 li, .int .i64 de, .int .i64 id]] w fun e w' => e = .returned (.bool (jobB g s d f fu li de id)) ∧ Below w.heap.size w w' := by
  have key : g < 1 ∨ (¬ g < 1 ∧ 32 < g) ∨ (¬ g < 1 ∧ ¬ 32 < g ∧ (winB s d && kindB f) = false) ∨ (¬ g < 1 ∧ ¬ 32 < g ∧ (winB s d && kindB f) = true ∧ fu < 0) ∨ (¬ g < 1 ∧ ¬ 32 < g ∧ (winB s d && kindB f) = true ∧ ¬ fu < 0 ∧ 40 < fu) ∨ (¬ g < 1 ∧ ¬ 32 < g ∧ (winB s d && kindB f) = true ∧ ¬ fu < 0 ∧ ¬ 40 < fu ∧ li < 0) ∨ (¬ g < 1 ∧ ¬ 32 < g ∧ (winB s d && kindB f) = true ∧ ¬ fu < 0 ∧ ¬ 40 < fu ∧ ¬ li < 0) := by
    cases winB s d && kindB f <;> simp <;> omega
  unfold jobB
  rw [show (decide (1 ≤ g) && decide (g ≤ 32) && winB s d && kindB f) = (decide (1 ≤ g) && decide (g ≤ 32) && (winB s d && kindB f)) from by simp only [Bool.and_assoc]]
  generalize hj : (winB s d && kindB f) = j at *
  have hj := hide hj
  rcases key with h1 | ⟨h1, h2⟩ | ⟨h1, h2, h3⟩ | ⟨h1, h2, h3, h4⟩ | ⟨h1, h2, h3, h4, h5⟩ | ⟨h1, h2, h3, h4, h5, h6⟩ | ⟨h1, h2, h3, h4, h5, h6⟩
  all_goals (try subst h3)
  all_goals
   go_enter Tryd.func16, Tryd.ntmps16
   go_wp2_with (go_at_call 40; refine (ref09_Job _ _ _ _ _ _ _ _ _).mono ?_; rintro e w1 ⟨rfl, hb1⟩; rw [hj.out]; have hb := Gr.call (a := w) (by repeat (first | assumption | exact Below.refl _ _ | refine Gr.drew ?_ | refine Gr.drewN ?_ _ | refine Gr.alloc ?_ _ | refine Gr.set_ ?_ (by first | (simp; done) | assumption | omega | (simp; omega)) _)) hb1; have B0 := (Blk.new w 23 #[.int .i64 g, .int .i64 s, .int .i64 d, .int .i64 f, .int .i64 fu, .int .i64 li, .int .i64 de, .int .i64 id]).call hb1; have c0 := B0.cell)
   go_wp2
   all_goals go_ret
   all_goals refine ⟨?_, by repeat (first | assumption | exact Below.refl _ _ | refine Gr.drew ?_ | refine Gr.drewN ?_ _ | refine Gr.alloc ?_ _ | refine Gr.set_ ?_ (by first | (simp; done) | assumption | omega | (simp; omega)) _)⟩
   all_goals simp [jobB, *]
   all_goals try omega
theorem ref13_Inputs (A : Option Addr) (n c : Nat) (xs : List EvRow) (w : World) (HN : Hid (n = xs.length)) (hr : Reads w w.heap.size 1 A n (xs.flatMap EvRow.cells)) (hok : ∀ r ∈ xs, r.Ok w) (hn : n ≤ c) (hc : c ≤ 9223372036854775807) :
    Calls Tryd.prog 17 #[.slice A n c] w fun r w' => r = .returned (.bool (insB xs)) ∧ Below w.heap.size w w' := by
  have bn : (n : Int) ≤ 9223372036854775807 := by omega
  have hok := hide hok
  go_enter Tryd.func17, Tryd.ntmps17
  go_wp2
  go_loopw [9] (fun i wr => ∃ (q : Nat), q ≤ n ∧ i = .int .i64 q ∧ Hid ((xs.take q).any badRow = false) ∧ Below w.heap.size w wr) (fun i _ => 9223372036854775807 - (intOf i).toNat)
  case atStart => exact ⟨0, Nat.zero_le _, rfl, hide (by simp), Below.refl _ _⟩
  case round =>
    obtain ⟨q, hq, rfl, HF, hb⟩ := hrel
    by_cases hlt : q < n
    · have hxq : q < xs.length := by rw [← HN.out]; omega
      obtain ⟨b, off, rfl, hbB, hcell⟩ := hr.el (fun x => rfl) hxq HN.out
      have l1 : (q : Int) < n := by omega
      have hq0 : (0 : Int) ≤ q := by omega
      have k0 := (hb.cell (p := ⟨b, off + (q * 1 + 0), none⟩) (by omega : b < w.heap.size)).trans (hcell 0 _ (by omega) rfl)
      have HS := hide (take_snoc xs q hxq)
      have hx := (hok.out _ (List.getElem_mem hxq)).at_ hb
      have hany : badRow xs[q] = true → xs.any badRow = true := fun h => by
        rw [List.any_eq_true]; exact ⟨_, List.getElem_mem hxq, h⟩
      generalize xs[q] = x0 at *
      clear hcell
      simp only [Nat.add_zero, Nat.mul_one] at k0
      obtain ⟨A0, n0, c0, es⟩ := x0
      obtain ⟨HN0, hr0, hn0, hc0⟩ := hx
      simp only at HN0 hr0 hn0 hc0 k0
      have hany := hide hany
      by_cases h2 : 200 < n0
      · have e2 : (200 : Int) < n0 := by omega
        go_wp2
        go_ret
        refine ⟨?_, by repeat (first | assumption | exact Below.refl _ _ | refine Gr.drew ?_ | refine Gr.drewN ?_ _ | refine Gr.alloc ?_ _ | refine Gr.set_ ?_ (by first | (simp; done) | assumption | omega | (simp; omega)) _)⟩
        have := hany.out (by have := HN0.out; simp [badRow, ← this, h2])
        simp [insB, this]
      · have e2 : ¬ (200 : Int) < n0 := by omega
        have bn0 : (n0 : Int) ≤ 200 := by omega
        obtain ⟨wo, rfl⟩ : ∃ wo, wo = wr := ⟨_, rfl⟩
        go_wp2
        go_loopw [18] (fun i w2 => ∃ (q2 : Nat), q2 ≤ n0 ∧ i = .int .i64 q2 ∧ Hid ((es.take q2).any badEv = false) ∧ Below w.heap.size w w2 ∧ Below wo.heap.size wo w2) (fun i _ => 200 - (intOf i).toNat)
        case atStart => exact ⟨0, Nat.zero_le _, rfl, hide (by simp), by repeat (first | assumption | exact Below.refl _ _ | refine Gr.drew ?_ | refine Gr.drewN ?_ _ | refine Gr.alloc ?_ _ | refine Gr.set_ ?_ (by first | (simp; done) | assumption | omega | (simp; omega)) _), Below.refl _ _⟩
        case round =>
          obtain ⟨q2, hq2, rfl, HF2, hb3, hb4⟩ := hrel
          by_cases hlt2 : q2 < n0
          · have hxq2 : q2 < es.length := by rw [← HN0.out]; omega
            obtain ⟨b2, off2, rfl, hbB2, hcell2⟩ := hr0.el (fun x => rfl) hxq2 HN0.out
            have l2 : (q2 : Int) < n0 := by omega
            have hq20 : (0 : Int) ≤ q2 := by omega
            have k0 := (hb4.cell (p := ⟨b2, off2 + (q2 * 3 + 0), none⟩) (by omega)).trans (hcell2 0 _ (by omega) rfl)
            have k1 := (hb4.cell (p := ⟨b2, off2 + (q2 * 3 + 1), none⟩) (by omega)).trans (hcell2 1 _ (by omega) rfl)
            have k2 := (hb4.cell (p := ⟨b2, off2 + (q2 * 3 + 2), none⟩) (by omega)).trans (hcell2 2 _ (by omega) rfl)
            have HS2 := hide (take_snoc es q2 hxq2)
            have hany2 := hide (fun h : badEv es[q2] = true => hany.out (by simp only [badRow, Bool.or_eq_true]; right; rw [List.any_eq_true]; exact ⟨_, List.getElem_mem hxq2, h⟩))
            generalize es[q2] = x2 at *
            clear hcell2
            obtain ⟨xk, xa, xv⟩ := x2
            simp only [Nat.add_zero, ← Nat.add_assoc] at k0 k1 k2
            cases he : evB ⟨xk, xa, xv⟩
            all_goals go_wp2_with (go_at_call 41; refine (ref04_Event _ _ _ _).mono ?_; rintro e w5 ⟨rfl, hb5⟩; have hb := Gr.call (a := w) (by repeat (first | assumption | exact Below.refl _ _ | refine Gr.drew ?_ | refine Gr.drewN ?_ _ | refine Gr.alloc ?_ _ | refine Gr.set_ ?_ (by first | (simp; done) | assumption | omega | (simp; omega)) _)) hb5; have hbr := Gr.call (a := wo) (by repeat (first | assumption | exact Below.refl _ _ | refine Gr.drew ?_ | refine Gr.drewN ?_ _ | refine Gr.alloc ?_ _ | refine Gr.set_ ?_ (by first | (simp; done) | assumption | omega | (simp; omega)) _)) hb5; rw [he])
            all_goals go_wp2
            · go_ret
              refine ⟨?_, by repeat (first | assumption | exact Below.refl _ _ | refine Gr.drew ?_ | refine Gr.drewN ?_ _ | refine Gr.alloc ?_ _ | refine Gr.set_ ?_ (by first | (simp; done) | assumption | omega | (simp; omega)) _)⟩
              have := hany2.out (by simp [badEv, he])
              simp [insB, this]
            · go_roundw
              case rel => exact ⟨q2 + 1, by omega, by go_num, hide (by rw [HS2.out, List.any_append, HF2.out]; simp [badEv, he]), by repeat (first | assumption | exact Below.refl _ _ | refine Gr.drew ?_ | refine Gr.drewN ?_ _ | refine Gr.alloc ?_ _ | refine Gr.set_ ?_ (by first | (simp; done) | assumption | omega | (simp; omega)) _), by repeat (first | assumption | exact Below.refl _ _ | refine Gr.drew ?_ | refine Gr.drewN ?_ _ | refine Gr.alloc ?_ _ | refine Gr.set_ ?_ (by first | (simp; done) | assumption | omega | (simp; omega)) _)⟩
              case measure => simp [intOf]; omega
          · have hge : ¬ (q2 : Int) < n0 := by omega
            have hes := HF2.out
            rw [List.take_of_length_le (by rw [← HN0.out]; omega)] at hes
            have hrow := hide (show badRow ⟨A0, n0, c0, es⟩ = false by have := HN0.out; simp [badRow, ← this, h2, hes])
            clear hes
            go_wp2
            go_roundw
            case rel => exact ⟨q + 1, by omega, by go_num, hide (by rw [HS.out, List.any_append, HF.out]; simp [hrow.out]), by repeat (first | assumption | exact Below.refl _ _ | refine Gr.drew ?_ | refine Gr.drewN ?_ _ | refine Gr.alloc ?_ _ | refine Gr.set_ ?_ (by first | (simp; done) | assumption | omega | (simp; omega)) _)⟩
            case measure => simp [intOf]; omega
    · have hge : ¬ (q : Int) < n := by omega
      have hall := HF.out
      rw [List.take_of_length_le (by rw [← HN.out]; omega)] at hall
      have hin := hide (show insB xs = (decide (1 ≤ n) && decide (n ≤ 4)) by have := HN.out; simp [insB, hall, this])
      clear hall
      by_cases h1 : 1 ≤ n <;> by_cases h4 : n ≤ 4
      all_goals first | (exfalso; omega) | skip
      all_goals
        go_wp2
        go_ret
        refine ⟨?_, by repeat (first | assumption | exact Below.refl _ _ | refine Gr.drew ?_ | refine Gr.drewN ?_ _ | refine Gr.alloc ?_ _ | refine Gr.set_ ?_ (by first | (simp; done) | assumption | omega | (simp; omega)) _)⟩
        rw [hin.out]
        simp [*]
        try omega
end Go.Proofs.YtbhblhcgfenobaaDoor
