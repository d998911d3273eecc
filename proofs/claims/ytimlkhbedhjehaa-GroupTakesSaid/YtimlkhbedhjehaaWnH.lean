/-
  Windows that hold a time, and those of them that are open, as the document says and as the program has them.
-/
import Derived.Test.YtimlkhbedhjehaaWnG
namespace Go.Proofs.Ytimlkhbedhjehaa
open Go.RowKit
set_option linter.unusedSimpArgs false
set_option linter.unusedVariables false
theorem c_OfAll (size slide t : Int) (w : World) : Calls Try.prog 55 #[.int .i64 size, .int .i64 slide, .int .i64 t] w fun e w' => ∃ v, e = .returned v ∧ RowW w.heap.size w' v (winL size slide t) ∧ Below w.heap.size w w' := by
  cases hok : okT size slide t
  · have e : winL size slide t = [] := by simp [winL, hok]
    rw [e]
    refine ((p_OfNo size slide t hok).law (w := w) (vs := [_, _, _]) ⟨_, _, rfl, by simp [rep, scal], _, _, rfl, by simp [rep, scal], _, _, rfl, by simp [rep, scal], rfl⟩).mono ?_
    rintro e w' ⟨rfl, hb⟩
    exact ⟨_, rfl, World.ownsRow_nil _ _ _ _, hb⟩
  · exact c_Of size slide t w hok
theorem winL_len (size slide t : Int) : (winL size slide t).length ≤ 16 := by
  unfold winL
  split
  · rename_i h; simp; exact cntK_le h
  · simp
def mu2 (B : Nat) (v : Value) (id : Nat) : Value := if id = 0 then .pointer (some ⟨B, 0, none⟩) else v
/-- a box and a row, made since -/
theorem caught2 {w w2 : World} {M : Nat → Prop} {v : Value} {mk : Int} {ws : List Wn} (hbox : Blk w2 w.heap.size 2 #[.int .i64 mk]) (hrow : RowW (w.heap.size + 1) w2 v ws) (hM : ∀ b, M b → b < w.heap.size) (hB : Below w.heap.size w w2) (μ : Nat → Value) :
    SRel [(0, .box 2 [.v (.int .i64 mk)]), (1, .row 37 2 (ws.map Wn.av))] (mu2 w.heap.size v) w2 M ∧
    Gro [] μ w [(0, .box 2 [.v (.int .i64 mk)]), (1, .row 37 2 (ws.map Wn.av))] (mu2 w.heap.size v) w2 ∧
    repL [(0, .box 2 [.v (.int .i64 mk)]), (1, .row 37 2 (ws.map Wn.av))] (mu2 w.heap.size v) w2 (av [(0, .box 2 [.v (.int .i64 mk)]), (1, .row 37 2 (ws.map Wn.av))] (mu2 w.heap.size v) M) [.own 1 (ws.map Wn.av).length, .clo (.func 134) [] [.ref 0 0]] [v, .func (.func 134) #[] #[.pointer (some ⟨w.heap.size, 0, none⟩)]] := by
  have hf : ∀ id o, find [((0 : Nat), SObj.box 2 [AV.v (.int .i64 mk)]), (1, .row 37 2 (ws.map Wn.av))] id = some o → (id = 0 ∧ o = .box 2 [.v (.int .i64 mk)]) ∨ (id = 1 ∧ o = .row 37 2 (ws.map Wn.av)) := by
    intro id o h
    rw [find_cons, find_cons] at h
    split at h
    · rename_i e; injection h with h; exact .inl ⟨e.symm, h.symm⟩
    · split at h
      · rename_i e; injection h with h; exact .inr ⟨e.symm, h.symm⟩
      · simp [find] at h
  have hv : ∀ b, blk v = some b → w.heap.size + 1 ≤ b := by
    intro b hb
    rcases hrow.2 with ⟨rfl, _⟩ | ⟨g, cap, cur, rfl, h1, _⟩
    · simp [blk] at hb
    · simp [blk] at hb; omega
  have hone : v.oneCell' = true := by
    rcases hrow.2 with ⟨rfl, _⟩ | ⟨g, cap, cur, rfl, h1, _⟩ <;> rfl
  have hlt := Blk.lt hbox
  have hb0 : ∀ b, blk (mu2 w.heap.size v 0) = some b → b = w.heap.size := by
    intro b hb; simp [mu2, blk] at hb; exact hb.symm
  refine ⟨⟨fun id o h => ?_, fun id id' o o' g h1 h2 h3 h4 => ?_, fun b h => by have := hM b h; omega, fun id o b h1 h2 h3 => ?_⟩, ⟨hB.os, hB.tape, hB.output, hB.size, fun b hb _ => hB.block b hb, fun id o b h1 h2 h3 => ?_, fun _ _ _ h => by simp [find] at h, fun _ _ _ _ h => by simp [find] at h⟩, ?_⟩
  · rcases hf id o h with ⟨rfl, rfl⟩ | ⟨rfl, rfl⟩
    · exact ⟨w.heap.size, [.int .i64 mk], rfl, hbox, repC_con (cs := [.int .i64 mk]) rfl⟩
    · refine ⟨ws.flatMap Wn.cells, ?_, wn_repLL ws⟩
      rw [List.length_map]
      exact own_base' hrow (Nat.zero_le _)
  · rcases hf id o h1 with ⟨rfl, _⟩ | ⟨rfl, _⟩ <;> rcases hf id' o' h2 with ⟨rfl, _⟩ | ⟨rfl, _⟩
    · rfl
    · have := hb0 g h3; have := hv g h4; omega
    · have := hb0 g h4; have := hv g h3; omega
    · rfl
  · rcases hf id o h1 with ⟨rfl, _⟩ | ⟨rfl, _⟩
    · have := hb0 b h2; have := hM b h3; omega
    · have := hv b h2; have := hM b h3; omega
  · rcases hf id o h1 with ⟨rfl, _⟩ | ⟨rfl, _⟩
    · have := hb0 b h2; omega
    · have := hv b h2; omega
  · refine ⟨v, _, rfl, ?_, _, [], rfl, ?_, rfl⟩
    · simp only [rep]
      exact ⟨hone, _, _, _, rfl, Nat.le_refl _, fun _ => rfl⟩
    · simp only [rep]
      refine ⟨[], [.pointer (some ⟨w.heap.size, 0, none⟩)], rfl, rfl, _, [], rfl, ?_, rfl⟩
      simp only [rep]
      exact ⟨_, _, w.heap.size, rfl, Nat.zero_le _, rfl, rfl⟩
theorem ok_Open : CallOK Try.prog 99 := ⟨_, Try.func99, by kernel_rfl, rfl⟩
section
attribute [local go_sem ↓] Go.wp_at_zero Go.wp_at_succ
set_option maxRecDepth 10000 in
set_option maxHeartbeats 2000000 in
theorem p_Open (size slide t mark : Int) : PC Try.prog 99 [.v (.int .i64 size), .v (.int .i64 slide), .v (.int .i64 t), .v (.int .i64 mark)] (.sl 2 ((openL size slide t mark).map Wn.av)) := by
  refine ⟨⟨ok_Open, fun w M μ vs hs hrep => ?_⟩⟩
  simp only [repL, rep] at hrep
  obtain ⟨a, l, rfl, ⟨rfl, _⟩, b, m, rfl, ⟨rfl, _⟩, c, n, rfl, ⟨rfl, _⟩, d, o, rfl, ⟨rfl, _⟩, rfl⟩ := hrep
  go_enter Try.func99, Try.ntmps99
  go_wp2_with fail
  refine (c_OfAll size slide t _).mono ?_
  rintro e w2 ⟨v, rfl, hrow, hb⟩
  go_wp2_with fail
  have hbox : Blk w2 w.heap.size 2 #[.int .i64 mark] := (hb.block w.heap.size (by simp)).trans (Blk.new _ _ _)
  have hB : Below w.heap.size w w2 := ((Below.refl _ w).alloc (Nat.le_refl _) _).trans (hb.mono (by simp))
  rw [World.size_alloc] at hrow
  obtain ⟨q1, q2, q3⟩ := caught2 (M := M) (mk := mark) (ws := winL size slide t) hbox hrow (fun b hM => hs.lt b hM) hB μ
  refine (c_Del mark (winL size slide t) (by have := winL_len size slide t; omega) (vs := [_, _]) q1 q2 q3).mono ?_
  rintro e w3 ⟨y, μ', rfl, h1, h2, h3⟩
  go_wp2
  go_ret
  exact ⟨y, μ', rfl, h1, h2, h3⟩
end
end Go.Proofs.Ytimlkhbedhjehaa
