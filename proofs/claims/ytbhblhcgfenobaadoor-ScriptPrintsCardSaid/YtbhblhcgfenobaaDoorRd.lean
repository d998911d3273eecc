/-
  How the arguments of the laws of panes, groups and the model read.
  How events read.
-/
import Derived.Test.YtbhblhcgfenobaaDoorPnH
import Derived.Test.YtbhblhcgfenobaaDoorLaw
namespace Go.Proofs.YtbhblhcgfenobaaDoor
open Go.RowKit Go.WideShapes Go.ChangeShapes Go.ChangeAt
set_option linter.unusedSimpArgs false
set_option linter.unusedVariables false
theorem A_laidOut : laidOutB Tryd.prog = true := by kernel_rfl
theorem rd_Job {H : Type} {enc : TypeId × Value → H} {w : World} {base : Nat} {spare : Nat → Bool} {held : Bool} {fuel : Nat} {cs : List Value} {x : DataW H × List MemPlace} (h : DataW.trod enc Tryd.prog w base spare held fuel 23 cs = some x) :
    ∃ (g : Int) (s : Int) (d : Int) (k : Int) (fu : Int) (li : Int) (de : Int) (id : Int), cs = [.int .i64 g, .int .i64 s, .int .i64 d, .int .i64 k, .int .i64 fu, .int .i64 li, .int .i64 de, .int .i64 id] ∧ (-9223372036854775808 ≤ g ∧ g ≤ 9223372036854775807) ∧ (-9223372036854775808 ≤ s ∧ s ≤ 9223372036854775807) ∧ (-9223372036854775808 ≤ d ∧ d ≤ 9223372036854775807) ∧ (-9223372036854775808 ≤ k ∧ k ≤ 9223372036854775807) ∧ (-9223372036854775808 ≤ fu ∧ fu ≤ 9223372036854775807) ∧ (-9223372036854775808 ≤ li ∧ li ≤ 9223372036854775807) ∧ (-9223372036854775808 ≤ de ∧ de ≤ 9223372036854775807) ∧ (-9223372036854775808 ≤ id ∧ id ≤ 9223372036854775807) := by
  have hl := rd_len Tryd.underlying23 h
  have hl2 : cs.length = 8 := hl.trans (by kernel_rfl)
  obtain ⟨c0, c1, c2, c3, c4, c5, c6, c7, rfl⟩ : ∃ c0 c1 c2 c3 c4 c5 c6 c7, cs = [c0, c1, c2, c3, c4, c5, c6, c7] := by
    match cs, hl2 with
    | [c0, c1, c2, c3, c4, c5, c6, c7], _ => exact ⟨c0, c1, c2, c3, c4, c5, c6, c7, rfl⟩
  clear hl hl2
  have hc0 : Tryd.prog.cellsOf 3 = 1 := by kernel_rfl
  have hc1 : Tryd.prog.cellsOf 2 = 1 := by kernel_rfl
  obtain ⟨n0, y0, g0⟩ := rd_field Tryd.underlying23 h 0 _ rfl
  obtain ⟨x0, e0, _, w0⟩ := DataW.trod_int Tryd.underlying3 g0
  simp [hc0] at e0
  subst e0
  obtain ⟨n1, y1, g1⟩ := rd_field Tryd.underlying23 h 1 _ rfl
  obtain ⟨x1, e1, _, w1⟩ := DataW.trod_int Tryd.underlying2 g1
  simp [hc1] at e1
  subst e1
  obtain ⟨n2, y2, g2⟩ := rd_field Tryd.underlying23 h 2 _ rfl
  obtain ⟨x2, e2, _, w2⟩ := DataW.trod_int Tryd.underlying2 g2
  simp [hc1] at e2
  subst e2
  obtain ⟨n3, y3, g3⟩ := rd_field Tryd.underlying23 h 3 _ rfl
  obtain ⟨x3, e3, _, w3⟩ := DataW.trod_int Tryd.underlying3 g3
  simp [hc0] at e3
  subst e3
  obtain ⟨n4, y4, g4⟩ := rd_field Tryd.underlying23 h 4 _ rfl
  obtain ⟨x4, e4, _, w4⟩ := DataW.trod_int Tryd.underlying3 g4
  simp [hc0] at e4
  subst e4
  obtain ⟨n5, y5, g5⟩ := rd_field Tryd.underlying23 h 5 _ rfl
  obtain ⟨x5, e5, _, w5⟩ := DataW.trod_int Tryd.underlying2 g5
  simp [hc1] at e5
  subst e5
  obtain ⟨n6, y6, g6⟩ := rd_field Tryd.underlying23 h 6 _ rfl
  obtain ⟨x6, e6, _, w6⟩ := DataW.trod_int Tryd.underlying2 g6
  simp [hc1] at e6
  subst e6
  obtain ⟨n7, y7, g7⟩ := rd_field Tryd.underlying23 h 7 _ rfl
  obtain ⟨x7, e7, _, w7⟩ := DataW.trod_int Tryd.underlying3 g7
  simp [hc0] at e7
  subst e7
  exact ⟨x0, x1, x2, x3, x4, x5, x6, x7, rfl, wf_i64 w0, wf_i64 w1, wf_i64 w2, wf_i64 w3, wf_i64 w4, wf_i64 w5, wf_i64 w6, wf_i64 w7⟩
/-- a slice of panes as it reads -/
def PnsRd (w : World) (v : Value) (xs : List Pn) : Prop := xs.length ≤ 9223372036854775807 ∧ rep [] (fun _ => undef) w (fun _ => False) (.sl 6 (xs.map Pn.av)) v
theorem pnsRd {w : World} {A : Option Addr} {n c : Nat} {xs : List Pn} (hn : n ≤ c) (hc : c ≤ 9223372036854775807) (HN : n = xs.length) (hr : Reads w w.heap.size 6 A n (xs.flatMap Pn.cells)) : PnsRd w (.slice A n c) xs :=
  ⟨by omega, rep_sl Pn.cells Pn.av hr HN hn hc (fun _ => rfl) (fun x _ => repC_con (cs := Pn.cells x) rfl)⟩
/-- a group as it stands for its abstract value -/
theorem rep_Group {w : World} {no mark : Int} {v : Value} {xs : List Pn} (h1 : v.oneCell' = true) (h : PnsRd w v xs) : rep [] (fun _ => undef) w (fun _ => False) (.agg [.v (.int .i64 no), .v (.int .i64 mark), .sl 6 (xs.map Pn.av)]) (.agg #[.int .i64 no, .int .i64 mark, v]) := by
  have h2 := h.2
  simp only [rep, repC] at h2 ⊢
  exact ⟨_, rfl, _, _, rfl, rfl, ⟨rfl, rfl⟩, _, _, rfl, rfl, ⟨rfl, rfl⟩, _, _, rfl, h1, h2, rfl⟩
theorem rep_Job {w : World} {g s d k fu li de id : Int} : rep [] (fun _ => undef) w (fun _ => False) (.agg [.v (.int .i64 g), .v (.int .i64 s), .v (.int .i64 d), .v (.int .i64 k), .v (.int .i64 fu), .v (.int .i64 li), .v (.int .i64 de), .v (.int .i64 id)]) (.agg #[.int .i64 g, .int .i64 s, .int .i64 d, .int .i64 k, .int .i64 fu, .int .i64 li, .int .i64 de, .int .i64 id]) := by
  simp only [rep]
  exact ⟨_, rfl, repC_con (cs := [.int .i64 g, .int .i64 s, .int .i64 d, .int .i64 k, .int .i64 fu, .int .i64 li, .int .i64 de, .int .i64 id]) rfl⟩
theorem rep_int {w : World} {x : Int} : rep [] (fun _ => undef) w (fun _ => False) (.v (.int .i64 x)) (.int .i64 x) := by simp [rep, scal]
theorem rep_str {w : World} {x : ByteArray} : rep [] (fun _ => undef) w (fun _ => False) (.v (.string x)) (.string x) := by simp [rep, scal]
end Go.Proofs.YtbhblhcgfenobaaDoor
namespace Go.Proofs.YtbhblhcgfenobaaDoor
open Go.RowKit Go.WideShapes Go.ChangeShapes Go.ChangeAt
set_option linter.unusedSimpArgs false
set_option linter.unusedVariables false
theorem rd_Ev {H : Type} {enc : TypeId × Value → H} {w : World} {base : Nat} {spare : Nat → Bool} {held : Bool} {fuel : Nat} {cs : List Value} {x : DataW H × List MemPlace} (h : DataW.trod enc Tryd.prog w base spare held fuel 57 cs = some x) :
    ∃ (k : ByteArray) (a : Int) (v : Int), cs = [.string k, .int .i64 a, .int .i64 v] ∧ k.size ≤ maxLen ∧ (-9223372036854775808 ≤ a ∧ a ≤ 9223372036854775807) ∧ (-9223372036854775808 ≤ v ∧ v ≤ 9223372036854775807) := by
  have hl := rd_len Tryd.underlying57 h
  have hl2 : cs.length = 3 := hl.trans (by kernel_rfl)
  obtain ⟨c0, c1, c2, rfl⟩ : ∃ c0 c1 c2, cs = [c0, c1, c2] := by
    match cs, hl2 with
    | [c0, c1, c2], _ => exact ⟨c0, c1, c2, rfl⟩
  clear hl hl2
  have hc0 : Tryd.prog.cellsOf 9 = 1 := by kernel_rfl
  have hc1 : Tryd.prog.cellsOf 2 = 1 := by kernel_rfl
  obtain ⟨n0, y0, g0⟩ := rd_field Tryd.underlying57 h 0 _ rfl
  obtain ⟨x0, e0, _, w0⟩ := DataW.trod_string Tryd.underlying9 g0
  simp [hc0] at e0
  subst e0
  obtain ⟨n1, y1, g1⟩ := rd_field Tryd.underlying57 h 1 _ rfl
  obtain ⟨x1, e1, _, w1⟩ := DataW.trod_int Tryd.underlying2 g1
  simp [hc1] at e1
  subst e1
  obtain ⟨n2, y2, g2⟩ := rd_field Tryd.underlying57 h 2 _ rfl
  obtain ⟨x2, e2, _, w2⟩ := DataW.trod_int Tryd.underlying2 g2
  simp [hc1] at e2
  subst e2
  exact ⟨x0, x1, x2, rfl, w0, wf_i64 w1, wf_i64 w2⟩
theorem rep_Ev {w : World} {k : ByteArray} {a v : Int} : rep [] (fun _ => undef) w (fun _ => False) (.agg [.v (.string k), .v (.int .i64 a), .v (.int .i64 v)]) (.agg #[.string k, .int .i64 a, .int .i64 v]) := by
  simp only [rep]
  exact ⟨_, rfl, repC_con (cs := [.string k, .int .i64 a, .int .i64 v]) rfl⟩
end Go.Proofs.YtbhblhcgfenobaaDoor
