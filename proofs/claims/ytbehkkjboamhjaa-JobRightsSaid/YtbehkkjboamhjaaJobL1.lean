/-
  'clepsydralaw13.JobRights' returns true for every input.
-/
import Derived.Test.YtbehkkjboamhjaaJobW
import Derived.Test.YtbehkkjboamhjaaLaw
namespace Go.Proofs.Ytbehkkjboamhjaa
open Go.RowKit Go.WideShapes Go.ChangeShapes Go.ChangeAt
set_option linter.unusedSimpArgs false
set_option linter.unusedVariables false
attribute [local go_sem ↓] Go.wp_at_zero Go.wp_at_succ

theorem A_laidOut : laidOutB Try.prog = true := by kernel_rfl
theorem rd_Job {H : Type} {enc : TypeId × Value → H} {w : World} {base : Nat} {spare : Nat → Bool} {held : Bool} {fuel : Nat} {cs : List Value} {x : DataW H × List MemPlace} (h : DataW.trod enc Try.prog w base spare held fuel 23 cs = some x) :
    ∃ (g : Int) (s : Int) (d : Int) (f : Int) (fu : Int) (li : Int) (de : Int) (id : Int), cs = [.int .i64 g, .int .i64 s, .int .i64 d, .int .i64 f, .int .i64 fu, .int .i64 li, .int .i64 de, .int .i64 id] ∧ (-9223372036854775808 ≤ g ∧ g ≤ 9223372036854775807) ∧ (-9223372036854775808 ≤ s ∧ s ≤ 9223372036854775807) ∧ (-9223372036854775808 ≤ d ∧ d ≤ 9223372036854775807) ∧ (-9223372036854775808 ≤ f ∧ f ≤ 9223372036854775807) ∧ (-9223372036854775808 ≤ fu ∧ fu ≤ 9223372036854775807) ∧ (-9223372036854775808 ≤ li ∧ li ≤ 9223372036854775807) ∧ (-9223372036854775808 ≤ de ∧ de ≤ 9223372036854775807) ∧ (-9223372036854775808 ≤ id ∧ id ≤ 9223372036854775807) := by
  have hl := rd_len Try.underlying23 h
  have hl2 : cs.length = 8 := hl.trans (by kernel_rfl)
  obtain ⟨c0, c1, c2, c3, c4, c5, c6, c7, rfl⟩ : ∃ c0 c1 c2 c3 c4 c5 c6 c7, cs = [c0, c1, c2, c3, c4, c5, c6, c7] := by
    match cs, hl2 with
    | [c0, c1, c2, c3, c4, c5, c6, c7], _ => exact ⟨c0, c1, c2, c3, c4, c5, c6, c7, rfl⟩
  clear hl hl2
  have hc0 : Try.prog.cellsOf 3 = 1 := by kernel_rfl
  have hc1 : Try.prog.cellsOf 2 = 1 := by kernel_rfl
  obtain ⟨n0, y0, g0⟩ := rd_field Try.underlying23 h 0 _ rfl
  obtain ⟨x0, e0, _, w0⟩ := DataW.trod_int Try.underlying3 g0
  simp [hc0] at e0
  subst e0
  obtain ⟨n1, y1, g1⟩ := rd_field Try.underlying23 h 1 _ rfl
  obtain ⟨x1, e1, _, w1⟩ := DataW.trod_int Try.underlying2 g1
  simp [hc1] at e1
  subst e1
  obtain ⟨n2, y2, g2⟩ := rd_field Try.underlying23 h 2 _ rfl
  obtain ⟨x2, e2, _, w2⟩ := DataW.trod_int Try.underlying2 g2
  simp [hc1] at e2
  subst e2
  obtain ⟨n3, y3, g3⟩ := rd_field Try.underlying23 h 3 _ rfl
  obtain ⟨x3, e3, _, w3⟩ := DataW.trod_int Try.underlying3 g3
  simp [hc0] at e3
  subst e3
  obtain ⟨n4, y4, g4⟩ := rd_field Try.underlying23 h 4 _ rfl
  obtain ⟨x4, e4, _, w4⟩ := DataW.trod_int Try.underlying3 g4
  simp [hc0] at e4
  subst e4
  obtain ⟨n5, y5, g5⟩ := rd_field Try.underlying23 h 5 _ rfl
  obtain ⟨x5, e5, _, w5⟩ := DataW.trod_int Try.underlying2 g5
  simp [hc1] at e5
  subst e5
  obtain ⟨n6, y6, g6⟩ := rd_field Try.underlying23 h 6 _ rfl
  obtain ⟨x6, e6, _, w6⟩ := DataW.trod_int Try.underlying2 g6
  simp [hc1] at e6
  subst e6
  obtain ⟨n7, y7, g7⟩ := rd_field Try.underlying23 h 7 _ rfl
  obtain ⟨x7, e7, _, w7⟩ := DataW.trod_int Try.underlying3 g7
  simp [hc0] at e7
  subst e7
  exact ⟨x0, x1, x2, x3, x4, x5, x6, x7, rfl, wf_i64 w0, wf_i64 w1, wf_i64 w2, wf_i64 w3, wf_i64 w4, wf_i64 w5, wf_i64 w6, wf_i64 w7⟩
theorem rd_Ev {H : Type} {enc : TypeId × Value → H} {w : World} {base : Nat} {spare : Nat → Bool} {held : Bool} {fuel : Nat} {cs : List Value} {x : DataW H × List MemPlace} (h : DataW.trod enc Try.prog w base spare held fuel 78 cs = some x) :
    ∃ (k : ByteArray) (a : Int) (v : Int), cs = [.string k, .int .i64 a, .int .i64 v] ∧ k.size ≤ maxLen ∧ (-9223372036854775808 ≤ a ∧ a ≤ 9223372036854775807) ∧ (-9223372036854775808 ≤ v ∧ v ≤ 9223372036854775807) := by
  have hl := rd_len Try.underlying78 h
  have hl2 : cs.length = 3 := hl.trans (by kernel_rfl)
  obtain ⟨c0, c1, c2, rfl⟩ : ∃ c0 c1 c2, cs = [c0, c1, c2] := by
    match cs, hl2 with
    | [c0, c1, c2], _ => exact ⟨c0, c1, c2, rfl⟩
  clear hl hl2
  have hc0 : Try.prog.cellsOf 9 = 1 := by kernel_rfl
  have hc1 : Try.prog.cellsOf 2 = 1 := by kernel_rfl
  obtain ⟨n0, y0, g0⟩ := rd_field Try.underlying78 h 0 _ rfl
  obtain ⟨x0, e0, _, w0⟩ := DataW.trod_string Try.underlying9 g0
  simp [hc0] at e0
  subst e0
  obtain ⟨n1, y1, g1⟩ := rd_field Try.underlying78 h 1 _ rfl
  obtain ⟨x1, e1, _, w1⟩ := DataW.trod_int Try.underlying2 g1
  simp [hc1] at e1
  subst e1
  obtain ⟨n2, y2, g2⟩ := rd_field Try.underlying78 h 2 _ rfl
  obtain ⟨x2, e2, _, w2⟩ := DataW.trod_int Try.underlying2 g2
  simp [hc1] at e2
  subst e2
  exact ⟨x0, x1, x2, rfl, w0, wf_i64 w1, wf_i64 w2⟩
theorem el_Ev {H : Type} {enc : TypeId × Value → H} {w : World} (m : Nat) (cs : List Value) (y : DataW H × List MemPlace) (hl : cs.length = 3) (ht : DataW.trod enc Try.prog w 0 (fun _ => true) true m 78 cs = some y) : ∃ x : Ev, cs = x.cells ∧ True := by
  obtain ⟨k, a, v, rfl, _⟩ := rd_Ev ht
  exact ⟨⟨k, a, v⟩, rfl, trivial⟩
theorem el_EvRow {H : Type} {enc : TypeId × Value → H} {w : World} (m : Nat) (cs : List Value) (y : DataW H × List MemPlace) (hl : cs.length = 1) (ht : DataW.trod enc Try.prog w 0 (fun _ => true) true m 75 cs = some y) : ∃ x : EvRow, cs = x.cells ∧ x.Ok w := by
  obtain ⟨A, n, c, xs, h1, h2, h3, h4, h5, _⟩ := open_rows Ev.cells (fun _ => True) Try.underlying75 (by kernel_rfl : Try.prog.cellsOf 78 = 3) (by omega) el_Ev ht
  exact ⟨⟨A, n, c, xs⟩, h1, hide h4, h5, h2, h3⟩
set_option maxRecDepth 100000 in
theorem open_evrows_arg {H : Type} {enc : TypeId × Value → H} {w : World} {b0 : Nat} {v : Value} {d : DataW H} {ps : List MemPlace} (hv : Value.okWide Try.prog w .any b0 24 v) (h : DataW.Trod enc Try.prog w 0 (fun _ => true) true 24 v d ps) :
    ∃ (A : Option Addr) (n c : Nat) (xs : List EvRow), v = .slice A n c ∧ n ≤ c ∧ c ≤ 9223372036854775807 ∧ Hid (n = xs.length) ∧ Reads w w.heap.size 1 A n (xs.flatMap EvRow.cells) ∧ ∀ r ∈ xs, r.Ok w := by
  obtain ⟨A, n, c, xs, h1, h2, h3, h4, h5, h6⟩ := open_rows_arg EvRow.cells (fun r => r.Ok w) Try.underlying24 (by kernel_rfl : Try.prog.cellsOf 75 = 1) (by omega) el_EvRow hv h
  exact ⟨A, n, c, xs, h1, h2, h3, hide h4, h5, h6⟩
theorem JobRights_walk (g s d f fu li de id : Int) (A : Option Addr) (n c : Nat) (xs : List EvRow) (w : World) (HN : Hid (n = xs.length)) (hr : Reads w w.heap.size 1 A n (xs.flatMap EvRow.cells)) (hok : ∀ r ∈ xs, r.Ok w) (hn : n ≤ c) (hc : c ≤ 9223372036854775807) :
    Calls Try.prog 3 #[.agg #[.int .i64 g, .int .i64 s, .int .i64 d, .int .i64 f, .int .i64 fu, .int .i64 li, .int .i64 de, .int .i64 id], .slice A n c] w fun e w' => e = .returned (.bool true) ∧ Below w.heap.size w w' := by
  have hok := hide hok
  go_enter Try.func3, Try.ntmps3
  go_wp2
  refine wp_gen (fun W => Blk W w.heap.size 23 #[.int .i64 g, .int .i64 s, .int .i64 d, .int .i64 f, .int .i64 fu, .int .i64 li, .int .i64 de, .int .i64 id] ∧ Below w.heap.size w W) ⟨Blk.new _ _ _, by repeat (first | assumption | exact Below.refl _ _ | refine Gr.drew ?_ | refine Gr.drewN ?_ _ | refine Gr.alloc ?_ _ | refine Gr.set_ ?_ (by first | simp | (simp; omega) | omega) _)⟩ ?_
  rintro W ⟨B0, hb⟩
  have c0 := B0.cell
  go_region_held3 (fun w' => (∀ i, w'.cell? ⟨w.heap.size, i, none⟩ = (#[.int .i64 g, .int .i64 s, .int .i64 d, .int .i64 f, .int .i64 fu, .int .i64 li, .int .i64 de, .int .i64 id] : Array Value)[i]?)) (exact c0) (first
    | (go_at_call 11; refine (law13_alive _).mono ?_; rintro e w1 ⟨rfl, hb1⟩; have B0 := B0.on hb1 rfl rfl; have hb := Gr.on hb hb1 rfl rfl rfl rfl rfl; have c0 := B0.cell)
    | (go_at_call 12; refine (job_Right _ _ _ _ _ _ _ _ _).mono ?_; rintro e w1 ⟨rfl, hb1⟩; have B0 := B0.on hb1 rfl rfl; have hb := Gr.on hb hb1 rfl rfl rfl rfl rfl; have c0 := B0.cell)
    | (go_at_call 13; refine (ref13_Right _ _ _ _ _ _ _ _ _).mono ?_; rintro e w1 ⟨rfl, hb1⟩; have B0 := B0.on hb1 rfl rfl; have hb := Gr.on hb hb1 rfl rfl rfl rfl rfl; have c0 := B0.cell)
    | (go_at_call 14; refine (job_Inputs _ _ _ xs _ HN ((hr.below_le hb (Nat.le_refl _)).more hb.size) (fun r h => (hok.out r h).at_ hb) hn hc).mono ?_; rintro e w1 ⟨rfl, hb1⟩; have B0 := B0.on hb1 rfl rfl; have hb := Gr.on hb hb1 rfl rfl rfl rfl rfl; have c0 := B0.cell)
    | (go_at_call 15; refine (ref13_Inputs _ _ _ xs _ HN ((hr.below_le hb (Nat.le_refl _)).more hb.size) (fun r h => (hok.out r h).at_ hb) hn hc).mono ?_; rintro e w1 ⟨rfl, hb1⟩; have B0 := B0.on hb1 rfl rfl; have hb := Gr.on hb hb1 rfl rfl rfl rfl rfl; have c0 := B0.cell))
  all_goals go_wp2
  all_goals go_ret
  all_goals exact ⟨rfl, by repeat (first | assumption | exact Below.refl _ _ | refine Gr.drew ?_ | refine Gr.drewN ?_ _ | refine Gr.alloc ?_ _ | refine Gr.set_ ?_ (by first | (simp; done) | assumption | omega | (simp; omega)) _)⟩

set_option maxRecDepth 100000 in
theorem jobRights_contract (H : Type) (enc : TypeId × Value → H) (W : World) (base : Nat) (args : Array Value) (ds gs : List (DataW H)) (before : List MemPlace)
    (hval0 : ∀ (j : Nat) t v, Try.f3.params[j]? = some t → args[j]? = some v → Value.okWide Try.prog W .any base t v)
    (hW : DataW.Whole enc Try.prog Try.f3.params.toList Rows.jobRightsSpec.vars false W args.toList ds gs before) :
    Calls Try.prog 3 args W fun e W' => ∃ v, e = .returned v ∧ Rows.jobRightsSpec.post enc Try.prog Try.f3 false true false false W args v W' := by
  have hval := hval0
  have hW' := hW
  obtain ⟨p, q, hA0, hV, rfl, hfz, hnd⟩ := hW
  have hA : DataW.TrodAll enc Try.prog W 0 (fun _ => true) true Try.f3.params.toList args.toList ds p := hA0
  rw [Try.params3] at hA hval
  obtain ⟨v0, vs0, d0, ds0, p0, q0, hargs, rfl, rfl, h0, r0⟩ := trodAll_cons hA
  obtain ⟨v1, vs1, d1, ds1, p1, q1, rfl, rfl, rfl, h1, r1⟩ := trodAll_cons r0
  obtain ⟨rfl, rfl, rfl⟩ := trodAll_nil r1
  obtain rfl : args = #[v0, v1] := by cases args; simp_all
  obtain ⟨rfl, rfl⟩ := trodVars_none hV
  clear hA0 hval0
  obtain ⟨cs, rfl, fuel, x, hx⟩ := open_struct_arg Try.underlying23 (hval 0 23 v0 rfl rfl) h0
  obtain ⟨g, s, d, f, fu, li, de, id, rfl, _⟩ := rd_Job hx
  obtain ⟨A, n, c, xs, rfl, hn, hc, HN, hr, hok⟩ := open_evrows_arg (hval 1 24 v1 rfl rfl) h1
  refine (JobRights_walk g s d f fu li de id A n c xs W HN hr hok hn hc).mono fun e W' ⟨he, hb⟩ => ?_
  subst he
  exact ⟨_, rfl, post_law @A_laidOut (rd_of (by kernel_rfl : (Try.f3.params.toList.all fun t => Try.prog.readableRec t && decide (t < Try.prog.types.size)) = true)) rfl rfl Try.underlying4 hW' rfl hb⟩

theorem jobRights_own : ownKnob Try.prog.godebug = none := by kernel_rfl
set_option maxRecDepth 100000 in
theorem jobRights_lifted (os : Os) (started : os.Started) (H : Type) (enc : TypeId × Value → H) :
    ReturnsInHanded {} Try.checked os 3 .any (Rows.jobRightsSpec.pre6 enc Try.prog Try.f3 Rows.jobRightsRow.domain false) (Rows.jobRightsSpec.post enc Try.prog Try.f3 false true false false) := by
  refine returnsInHanded_of_change (C := Try.checked) jobRights_own started (by kernel_rfl) Try.func3
    (ChangeSpec.witness6 (enc := enc) (C := Try.checked) false ⟨#[], #[.agg #[.int .i64 0, .int .i64 0, .int .i64 0, .int .i64 0, .int .i64 0, .int .i64 0, .int .i64 0, .int .i64 0], .slice none 0 0], []⟩ 8 (by kernel_rfl) (by kernel_rfl) (by kernel_rfl) (by kernel_rfl)) ?_
  intro W base args ds gs before hval hW _ _
  exact jobRights_contract H enc W base args ds gs before hval hW
theorem jobRights_proved : Rows.JobRightsSaid :=
  OpenClaim.holds_of_wide 3 Try.f3 rfl rfl rfl rfl rfl rfl rfl ⟨rfl, rfl, rfl, rfl, rfl⟩ rfl rfl rfl rfl rfl (by kernel_rfl) Try.func3 (by kernel_rfl)
    (of_decide_eq_true (by kernel_rfl)) (by unfold Func.isWrapper; first | (rw [if_pos (by decide +kernel)]; kernel_rfl) | (rw [if_neg (by decide +kernel)]; exact ⟨rfl, rfl⟩))
    (fun os started H enc _ => jobRights_lifted os started H enc)
end Go.Proofs.Ytbehkkjboamhjaa
