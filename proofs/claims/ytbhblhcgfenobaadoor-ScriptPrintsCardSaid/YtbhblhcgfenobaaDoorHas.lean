/-
  Which of a row's elements meets a test: the library's ContainsFunc over rows of events, for whatever test.
-/
import Derived.Test.YtbhblhcgfenobaaDoorBasic
import Derived.Test.YtbhblhcgfenobaaDoorApp
namespace Go.Proofs.YtbhblhcgfenobaaDoor
open Go.RowKit
set_option linter.unusedSimpArgs false
set_option linter.unusedVariables false
attribute [local go_sem ↓] Go.wp_at_zero Go.wp_at_succ

def badEv (e : Ev) : Bool := !evB e
theorem clo_ev (k : ByteArray) (a v : Int) (w : World) :
    Calls Tryd.prog 46 #[.agg #[.string k, .int .i64 a, .int .i64 v]] w fun r w2 => r = .returned (.bool (badEv ⟨k, a, v⟩)) ∧ Below w.heap.size w w2 := by
  go_enter Tryd.func46, Tryd.ntmps46
  go_wp2_with fail
  refine (item_Event _ _ _ _).mono ?_
  rintro e w2 ⟨rfl, hb2⟩
  have hb := Gr.call (a := w) (by repeat (first | assumption | exact Below.refl _ _ | refine Gr.drew ?_ | refine Gr.drewN ?_ _ | refine Gr.alloc ?_ _ | refine Gr.set_ ?_ (by first | (simp; done) | assumption | omega | (simp; omega)) _)) hb2
  go_wp2
  go_ret
  exact ⟨rfl, hb⟩
theorem index_evs (A : Option Addr) (n c : Nat) (xs : List Ev) (w : World) (HN : Hid (n = xs.length)) (hr : Reads w w.heap.size 3 A n (xs.flatMap Ev.cells)) (hn : n ≤ c) (hc : c ≤ 9223372036854775807) :
    Calls Tryd.prog 48 #[.slice A n c, .func (.func 46) #[] #[]] w fun r w' => ∃ i : Int, Hid (xs.any badEv = decide (0 ≤ i)) ∧ r = .returned (.int .i64 i) ∧ Below w.heap.size w w' := by
  have bn : (n : Int) ≤ 9223372036854775807 := by omega
  go_enter Tryd.func48, Tryd.ntmps48
  go_wp2
  go_loopw [8] (fun i wr => ∃ (q : Nat), q ≤ n ∧ i = .int .i64 q ∧ Hid ((xs.take q).any badEv = false) ∧ Below w.heap.size w wr) (fun i _ => 9223372036854775807 - (intOf i).toNat)
  case atStart => exact ⟨0, Nat.zero_le _, rfl, hide (by simp), Below.refl _ _⟩
  case round =>
    obtain ⟨q, hq, rfl, HF, hb⟩ := hrel
    by_cases hlt : q < n
    · have hxq : q < xs.length := by rw [← HN.out]; omega
      obtain ⟨b, off, rfl, hbB, hcell⟩ := hr.el (fun x => rfl) hxq HN.out
      have l1 : (q : Int) < n := by omega
      have hq0 : (0 : Int) ≤ q := by omega
      have k0 := (hb.cell (p := ⟨b, off + (q * 3 + 0), none⟩) (by omega : b < w.heap.size)).trans (hcell 0 _ (by omega) rfl)
      have k1 := (hb.cell (p := ⟨b, off + (q * 3 + 1), none⟩) (by omega : b < w.heap.size)).trans (hcell 1 _ (by omega) rfl)
      have k2 := (hb.cell (p := ⟨b, off + (q * 3 + 2), none⟩) (by omega : b < w.heap.size)).trans (hcell 2 _ (by omega) rfl)
      have HS := hide (take_snoc xs q hxq)
      generalize xs[q] = x0 at *
      obtain ⟨xk, xa, xv⟩ := x0
      simp only [Ev.key, Ev.at_, Ev.val] at k0 k1 k2
      clear hcell
      simp only [Nat.add_zero, ← Nat.add_assoc] at k0 k1 k2
      cases hp : badEv ⟨xk, xa, xv⟩
      all_goals go_wp2_with (go_at_call 46; refine (clo_ev _ _ _ _).mono ?_; rintro e w2 ⟨rfl, hb2⟩; have hb := Gr.call hb hb2; rw [hp])
      · go_wp2
        go_roundw
        case rel => exact ⟨q + 1, by omega, by go_num, hide (by rw [HS.out, List.any_append, HF.out]; simp [hp]), by repeat (first | assumption | exact Below.refl _ _ | refine Gr.drew ?_ | refine Gr.drewN ?_ _ | refine Gr.alloc ?_ _ | refine Gr.set_ ?_ (by first | (simp; done) | assumption | omega | (simp; omega)) _)⟩
        case measure => simp [intOf]; omega
      · go_wp2
        go_ret
        refine ⟨_, hide ?_, rfl, by repeat (first | assumption | exact Below.refl _ _ | refine Gr.drew ?_ | refine Gr.drewN ?_ _ | refine Gr.alloc ?_ _ | refine Gr.set_ ?_ (by first | (simp; done) | assumption | omega | (simp; omega)) _)⟩
        have : xs.any badEv = true := by
          rw [← List.take_append_drop (q + 1) xs, List.any_append, HS.out, List.any_append]
          simp [hp]
        simp [this]
    · have hge : ¬ (q : Int) < n := by omega
      go_wp2
      go_ret
      refine ⟨_, hide ?_, rfl, by repeat (first | assumption | exact Below.refl _ _ | refine Gr.drew ?_ | refine Gr.drewN ?_ _ | refine Gr.alloc ?_ _ | refine Gr.set_ ?_ (by first | (simp; done) | assumption | omega | (simp; omega)) _)⟩
      have := HF.out
      rw [List.take_of_length_le (by rw [← HN.out]; omega)] at this
      simp [this]
theorem has_evs (A : Option Addr) (n c : Nat) (xs : List Ev) (w : World) (HN : Hid (n = xs.length)) (hr : Reads w w.heap.size 3 A n (xs.flatMap Ev.cells)) (hn : n ≤ c) (hc : c ≤ 9223372036854775807) :
    Calls Tryd.prog 23 #[.slice A n c, .func (.func 46) #[] #[]] w fun r w' => r = .returned (.bool (xs.any badEv)) ∧ Below w.heap.size w w' := by
  go_enter Tryd.func23, Tryd.ntmps23
  go_wp2_with fail
  refine (index_evs _ _ _ xs _ HN hr hn hc).mono ?_
  rintro e w2 ⟨i, HI, rfl, hb2⟩
  go_wp2
  go_ret
  exact ⟨by rw [HI.out]; rfl, hb2⟩
/-- a row of events, as a slice's value and what it reads as -/
structure EvRow where
  a : Option Addr
  n : Nat
  c : Nat
  evs : List Ev
def EvRow.cells (r : EvRow) : List Value := [.slice r.a r.n r.c]
def EvRow.Ok (w : World) (r : EvRow) : Prop := Hid (r.n = r.evs.length) ∧ Reads w w.heap.size 3 r.a r.n (r.evs.flatMap Ev.cells) ∧ r.n ≤ r.c ∧ r.c ≤ 9223372036854775807
def badRow (r : EvRow) : Bool := decide (200 < r.evs.length) || r.evs.any badEv
theorem EvRow.Ok.at_ {w w' : World} {r : EvRow} (h : r.Ok w) (hb : Below w.heap.size w w') : r.Ok w' := ⟨h.1, (h.2.1.below_le hb (Nat.le_refl _)).more hb.size, h.2.2⟩
theorem clo_row (r : EvRow) (w : World) (h : r.Ok w) :
    Calls Tryd.prog 45 #[.slice r.a r.n r.c] w fun e w2 => e = .returned (.bool (badRow r)) ∧ Below w.heap.size w w2 := by
  obtain ⟨A, n, c, xs⟩ := r
  obtain ⟨HN, hr, hn, hc⟩ := h
  simp only at HN hr hn hc
  show Calls Tryd.prog 45 #[.slice A n c] w _
  by_cases h1 : 200 < n
  · have e1 : (200 : Int) < n := by omega
    go_enter Tryd.func45, Tryd.ntmps45
    go_wp2
    go_ret
    refine ⟨?_, by repeat (first | assumption | exact Below.refl _ _ | refine Gr.drew ?_ | refine Gr.drewN ?_ _ | refine Gr.alloc ?_ _ | refine Gr.set_ ?_ (by first | (simp; done) | assumption | omega | (simp; omega)) _)⟩
    have := HN.out
    simp [badRow, ← this, h1]
  · have e1 : ¬ (200 : Int) < n := by omega
    go_enter Tryd.func45, Tryd.ntmps45
    go_wp2_with fail
    refine (has_evs _ _ _ xs _ HN hr hn hc).mono ?_
    rintro e w2 ⟨rfl, hb2⟩
    go_wp2
    go_ret
    refine ⟨?_, by repeat (first | assumption | exact Below.refl _ _ | refine Gr.drew ?_ | refine Gr.drewN ?_ _ | refine Gr.alloc ?_ _ | refine Gr.set_ ?_ (by first | (simp; done) | assumption | omega | (simp; omega)) _)⟩
    have := HN.out
    simp [badRow, ← this, h1]
theorem index_rows (A : Option Addr) (n c : Nat) (xs : List EvRow) (w : World) (HN : Hid (n = xs.length)) (hr : Reads w w.heap.size 1 A n (xs.flatMap EvRow.cells)) (hok : ∀ r ∈ xs, r.Ok w) (hn : n ≤ c) (hc : c ≤ 9223372036854775807) :
    Calls Tryd.prog 58 #[.slice A n c, .func (.func 45) #[] #[]] w fun r w' => ∃ i : Int, Hid (xs.any badRow = decide (0 ≤ i)) ∧ r = .returned (.int .i64 i) ∧ Below w.heap.size w w' := by
  have bn : (n : Int) ≤ 9223372036854775807 := by omega
  have hok := hide hok
  go_enter Tryd.func58, Tryd.ntmps58
  go_wp2
  go_loopw [8] (fun i wr => ∃ (q : Nat), q ≤ n ∧ i = .int .i64 q ∧ Hid ((xs.take q).any badRow = false) ∧ Below w.heap.size w wr) (fun i _ => 9223372036854775807 - (intOf i).toNat)
  case atStart => exact ⟨0, Nat.zero_le _, rfl, hide (by simp), Below.refl _ _⟩
  case round =>
    obtain ⟨q, hq, rfl, HF, hb⟩ := hrel
    by_cases hlt : q < n
    · have hxq : q < xs.length := by rw [← HN.out]; omega
      obtain ⟨b, off, rfl, hbB, hcell⟩ := hr.el (fun x => rfl) hxq HN.out
      have l1 : (q : Int) < n := by omega
      have hq0 : (0 : Int) ≤ q := by omega
      have k0 := (hb.cell (p := ⟨b, off + (q * 1 + 0), none⟩) (by omega : b < w.heap.size)).trans (hcell 0 _ (by omega) rfl)
      have HS := hide (take_snoc xs q hxq)
      have hx := (hok.out _ (List.getElem_mem hxq)).at_ hb
      generalize xs[q] = x0 at *
      clear hcell
      simp only [Nat.add_zero, Nat.mul_one] at k0
      have hx := hide hx
      cases hp : badRow x0
      all_goals go_wp2_with (go_at_call 45; refine (clo_row x0 _ hx.out).mono ?_; rintro e w2 ⟨rfl, hb2⟩; have hb := Gr.call hb hb2; rw [hp])
      · go_wp2
        go_roundw
        case rel => exact ⟨q + 1, by omega, by go_num, hide (by rw [HS.out, List.any_append, HF.out]; simp [hp]), by repeat (first | assumption | exact Below.refl _ _ | refine Gr.drew ?_ | refine Gr.drewN ?_ _ | refine Gr.alloc ?_ _ | refine Gr.set_ ?_ (by first | (simp; done) | assumption | omega | (simp; omega)) _)⟩
        case measure => simp [intOf]; omega
      · go_wp2
        go_ret
        refine ⟨_, hide ?_, rfl, by repeat (first | assumption | exact Below.refl _ _ | refine Gr.drew ?_ | refine Gr.drewN ?_ _ | refine Gr.alloc ?_ _ | refine Gr.set_ ?_ (by first | (simp; done) | assumption | omega | (simp; omega)) _)⟩
        have : xs.any badRow = true := by
          rw [← List.take_append_drop (q + 1) xs, List.any_append, HS.out, List.any_append]
          simp [hp]
        simp [this]
    · have hge : ¬ (q : Int) < n := by omega
      go_wp2
      go_ret
      refine ⟨_, hide ?_, rfl, by repeat (first | assumption | exact Below.refl _ _ | refine Gr.drew ?_ | refine Gr.drewN ?_ _ | refine Gr.alloc ?_ _ | refine Gr.set_ ?_ (by first | (simp; done) | assumption | omega | (simp; omega)) _)⟩
      have := HF.out
      rw [List.take_of_length_le (by rw [← HN.out]; omega)] at this
      simp [this]
theorem has_rows (A : Option Addr) (n c : Nat) (xs : List EvRow) (w : World) (HN : Hid (n = xs.length)) (hr : Reads w w.heap.size 1 A n (xs.flatMap EvRow.cells)) (hok : ∀ r ∈ xs, r.Ok w) (hn : n ≤ c) (hc : c ≤ 9223372036854775807) :
    Calls Tryd.prog 44 #[.slice A n c, .func (.func 45) #[] #[]] w fun r w' => r = .returned (.bool (xs.any badRow)) ∧ Below w.heap.size w w' := by
  go_enter Tryd.func44, Tryd.ntmps44
  go_wp2_with fail
  refine (index_rows _ _ _ xs _ HN hr hok hn hc).mono ?_
  rintro e w2 ⟨i, HI, rfl, hb2⟩
  go_wp2
  go_ret
  exact ⟨by rw [HI.out]; rfl, hb2⟩
def insB (l : List EvRow) : Bool := decide (1 ≤ l.length) && decide (l.length ≤ 4) && !l.any badRow
theorem job_Inputs (A : Option Addr) (n c : Nat) (xs : List EvRow) (w : World) (HN : Hid (n = xs.length)) (hr : Reads w w.heap.size 1 A n (xs.flatMap EvRow.cells)) (hok : ∀ r ∈ xs, r.Ok w) (hn : n ≤ c) (hc : c ≤ 9223372036854775807) :
    Calls Tryd.prog 22 #[.slice A n c] w fun r w' => r = .returned (.bool (insB xs)) ∧ Below w.heap.size w w' := by
  have hok := hide hok
  by_cases h1 : n < 1
  · have e1 : (n : Int) < 1 := by omega
    go_enter Tryd.func22, Tryd.ntmps22
    go_wp2
    go_ret
    refine ⟨?_, by repeat (first | assumption | exact Below.refl _ _ | refine Gr.drew ?_ | refine Gr.drewN ?_ _ | refine Gr.alloc ?_ _ | refine Gr.set_ ?_ (by first | (simp; done) | assumption | omega | (simp; omega)) _)⟩
    have := HN.out
    have h2 : ¬ 1 ≤ xs.length := by omega
    simp [insB, h2]
  · have e1 : ¬ (n : Int) < 1 := by omega
    by_cases h2 : 4 < n
    · have e2 : (4 : Int) < n := by omega
      go_enter Tryd.func22, Tryd.ntmps22
      go_wp2
      go_ret
      refine ⟨?_, by repeat (first | assumption | exact Below.refl _ _ | refine Gr.drew ?_ | refine Gr.drewN ?_ _ | refine Gr.alloc ?_ _ | refine Gr.set_ ?_ (by first | (simp; done) | assumption | omega | (simp; omega)) _)⟩
      have := HN.out
      have h2 : ¬ xs.length ≤ 4 := by omega
      simp [insB, h2]
    · have e2 : ¬ (4 : Int) < n := by omega
      go_enter Tryd.func22, Tryd.ntmps22
      go_wp2_with fail
      refine (has_rows _ _ _ xs _ HN hr hok.out hn hc).mono ?_
      rintro e w2 ⟨rfl, hb2⟩
      go_wp2
      go_ret
      refine ⟨?_, hb2⟩
      have := HN.out
      have h3 : xs.length ≤ 4 := by omega
      have h4 : 1 ≤ xs.length := by omega
      simp [insB, h3, h4]
end Go.Proofs.YtbhblhcgfenobaaDoor
