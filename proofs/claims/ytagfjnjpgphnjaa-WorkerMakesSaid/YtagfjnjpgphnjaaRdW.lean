/-
  How workers, items and what they are made of read.
-/
import Derived.Test.YtagfjnjpgphnjaaRd
import Derived.Test.YtagfjnjpgphnjaaWkK
namespace Go.Proofs.Ytagfjnjpgphnjaa
open Go.RowKit Go.WideShapes Go.ChangeShapes Go.ChangeAt
set_option linter.unusedSimpArgs false
set_option linter.unusedVariables false
set_option maxRecDepth 100000
theorem rd_EvW {H : Type} {enc : TypeId × Value → H} {w : World} {base : Nat} {spare : Nat → Bool} {held : Bool} {fuel : Nat} {cs : List Value} {x : DataW H × List MemPlace} (h : DataW.trod enc Try.prog w base spare held fuel 73 cs = some x) :
    ∃ (k : ByteArray) (a : Int) (v : Int), cs = [.string k, .int .i64 a, .int .i64 v] ∧ k.size ≤ maxLen ∧ (-9223372036854775808 ≤ a ∧ a ≤ 9223372036854775807) ∧ (-9223372036854775808 ≤ v ∧ v ≤ 9223372036854775807) := by
  have hl := rd_len Try.underlying73 h
  have hl2 : cs.length = 3 := hl.trans (by kernel_rfl)
  obtain ⟨c0, c1, c2, rfl⟩ : ∃ c0 c1 c2, cs = [c0, c1, c2] := by
    match cs, hl2 with
    | [c0, c1, c2], _ => exact ⟨c0, c1, c2, rfl⟩
  clear hl hl2
  have hc0 : Try.prog.cellsOf 9 = 1 := by kernel_rfl
  have hc1 : Try.prog.cellsOf 2 = 1 := by kernel_rfl
  obtain ⟨n0, y0, g0⟩ := rd_field Try.underlying73 h 0 _ rfl
  obtain ⟨x0, e0, _, w0⟩ := DataW.trod_string Try.underlying9 g0
  simp [hc0] at e0
  subst e0
  obtain ⟨n1, y1, g1⟩ := rd_field Try.underlying73 h 1 _ rfl
  obtain ⟨x1, e1, _, w1⟩ := DataW.trod_int Try.underlying2 g1
  simp [hc1] at e1
  subst e1
  obtain ⟨n2, y2, g2⟩ := rd_field Try.underlying73 h 2 _ rfl
  obtain ⟨x2, e2, _, w2⟩ := DataW.trod_int Try.underlying2 g2
  simp [hc1] at e2
  subst e2
  exact ⟨x0, x1, x2, rfl, w0, wf_i64 w1, wf_i64 w2⟩
theorem rd_RsW {H : Type} {enc : TypeId × Value → H} {w : World} {base : Nat} {spare : Nat → Bool} {held : Bool} {fuel : Nat} {cs : List Value} {x : DataW H × List MemPlace} (h : DataW.trod enc Try.prog w base spare held fuel 77 cs = some x) :
    ∃ (lo : Int) (hi : Int) (key : ByteArray) (n : Int) (val : Int), cs = [.int .i64 lo, .int .i64 hi, .string key, .int .i64 n, .int .i64 val] ∧ (-9223372036854775808 ≤ lo ∧ lo ≤ 9223372036854775807) ∧ (-9223372036854775808 ≤ hi ∧ hi ≤ 9223372036854775807) ∧ key.size ≤ maxLen ∧ (-9223372036854775808 ≤ n ∧ n ≤ 9223372036854775807) ∧ (-9223372036854775808 ≤ val ∧ val ≤ 9223372036854775807) := by
  have hl := rd_len Try.underlying77 h
  have hl2 : cs.length = 5 := hl.trans (by kernel_rfl)
  obtain ⟨c0, c1, c2, c3, c4, rfl⟩ : ∃ c0 c1 c2 c3 c4, cs = [c0, c1, c2, c3, c4] := by
    match cs, hl2 with
    | [c0, c1, c2, c3, c4], _ => exact ⟨c0, c1, c2, c3, c4, rfl⟩
  clear hl hl2
  have hc0 : Try.prog.cellsOf 75 = 2 := by kernel_rfl
  have hc1 : Try.prog.cellsOf 9 = 1 := by kernel_rfl
  have hc2 : Try.prog.cellsOf 2 = 1 := by kernel_rfl
  obtain ⟨n0, y0, g0⟩ := rd_field Try.underlying77 h 0 _ rfl
  obtain ⟨x0_0, x0_1, e0, w0_0, w0_1⟩ := rd_Win g0
  simp [hc0] at e0
  obtain ⟨rfl, rfl⟩ := e0
  obtain ⟨n1, y1, g1⟩ := rd_field Try.underlying77 h 1 _ rfl
  obtain ⟨x1, e1, _, w1⟩ := DataW.trod_string Try.underlying9 g1
  simp [hc1] at e1
  subst e1
  obtain ⟨n2, y2, g2⟩ := rd_field Try.underlying77 h 2 _ rfl
  obtain ⟨x2, e2, _, w2⟩ := DataW.trod_int Try.underlying2 g2
  simp [hc2] at e2
  subst e2
  obtain ⟨n3, y3, g3⟩ := rd_field Try.underlying77 h 3 _ rfl
  obtain ⟨x3, e3, _, w3⟩ := DataW.trod_int Try.underlying2 g3
  simp [hc2] at e3
  subst e3
  exact ⟨x0_0, x0_1, x1, x2, x3, rfl, w0_0, w0_1, w1, wf_i64 w2, wf_i64 w3⟩
theorem rd_It {H : Type} {enc : TypeId × Value → H} {w : World} {base : Nat} {spare : Nat → Bool} {held : Bool} {fuel : Nat} {cs : List Value} {x : DataW H × List MemPlace} (h : DataW.trod enc Try.prog w base spare held fuel 79 cs = some x) :
    ∃ (kind : Int) (key : ByteArray) (at' : Int) (val : Int) (mark : Int) (n : Int) (lo : Int) (hi : Int) (rkey : ByteArray) (rn : Int) (rval : Int), cs = [.int .i64 kind, .string key, .int .i64 at', .int .i64 val, .int .i64 mark, .int .i64 n, .int .i64 lo, .int .i64 hi, .string rkey, .int .i64 rn, .int .i64 rval] ∧ (-9223372036854775808 ≤ kind ∧ kind ≤ 9223372036854775807) ∧ key.size ≤ maxLen ∧ (-9223372036854775808 ≤ at' ∧ at' ≤ 9223372036854775807) ∧ (-9223372036854775808 ≤ val ∧ val ≤ 9223372036854775807) ∧ (-9223372036854775808 ≤ mark ∧ mark ≤ 9223372036854775807) ∧ (-9223372036854775808 ≤ n ∧ n ≤ 9223372036854775807) ∧ (-9223372036854775808 ≤ lo ∧ lo ≤ 9223372036854775807) ∧ (-9223372036854775808 ≤ hi ∧ hi ≤ 9223372036854775807) ∧ rkey.size ≤ maxLen ∧ (-9223372036854775808 ≤ rn ∧ rn ≤ 9223372036854775807) ∧ (-9223372036854775808 ≤ rval ∧ rval ≤ 9223372036854775807) := by
  have hl := rd_len Try.underlying79 h
  have hl2 : cs.length = 11 := hl.trans (by kernel_rfl)
  obtain ⟨c0, c1, c2, c3, c4, c5, c6, c7, c8, c9, c10, rfl⟩ : ∃ c0 c1 c2 c3 c4 c5 c6 c7 c8 c9 c10, cs = [c0, c1, c2, c3, c4, c5, c6, c7, c8, c9, c10] := by
    match cs, hl2 with
    | [c0, c1, c2, c3, c4, c5, c6, c7, c8, c9, c10], _ => exact ⟨c0, c1, c2, c3, c4, c5, c6, c7, c8, c9, c10, rfl⟩
  clear hl hl2
  have hc0 : Try.prog.cellsOf 3 = 1 := by kernel_rfl
  have hc1 : Try.prog.cellsOf 73 = 3 := by kernel_rfl
  have hc2 : Try.prog.cellsOf 2 = 1 := by kernel_rfl
  have hc3 : Try.prog.cellsOf 77 = 5 := by kernel_rfl
  obtain ⟨n0, y0, g0⟩ := rd_field Try.underlying79 h 0 _ rfl
  obtain ⟨x0, e0, _, w0⟩ := DataW.trod_int Try.underlying3 g0
  simp [hc0] at e0
  subst e0
  obtain ⟨n1, y1, g1⟩ := rd_field Try.underlying79 h 1 _ rfl
  obtain ⟨x1_0, x1_1, x1_2, e1, w1_0, w1_1, w1_2⟩ := rd_EvW g1
  simp [hc1] at e1
  obtain ⟨rfl, rfl, rfl⟩ := e1
  obtain ⟨n2, y2, g2⟩ := rd_field Try.underlying79 h 2 _ rfl
  obtain ⟨x2, e2, _, w2⟩ := DataW.trod_int Try.underlying2 g2
  simp [hc2] at e2
  subst e2
  obtain ⟨n3, y3, g3⟩ := rd_field Try.underlying79 h 3 _ rfl
  obtain ⟨x3, e3, _, w3⟩ := DataW.trod_int Try.underlying3 g3
  simp [hc0] at e3
  subst e3
  obtain ⟨n4, y4, g4⟩ := rd_field Try.underlying79 h 4 _ rfl
  obtain ⟨x4_0, x4_1, x4_2, x4_3, x4_4, e4, w4_0, w4_1, w4_2, w4_3, w4_4⟩ := rd_RsW g4
  simp [hc3] at e4
  obtain ⟨rfl, rfl, rfl, rfl, rfl⟩ := e4
  exact ⟨x0, x1_0, x1_1, x1_2, x2, x3, x4_0, x4_1, x4_2, x4_3, x4_4, rfl, wf_i64 w0, w1_0, w1_1, w1_2, wf_i64 w2, wf_i64 w3, w4_0, w4_1, w4_2, w4_3, w4_4⟩
theorem rd_InM {H : Type} {enc : TypeId × Value → H} {w : World} {base : Nat} {spare : Nat → Bool} {held : Bool} {fuel : Nat} {cs : List Value} {x : DataW H × List MemPlace} (h : DataW.trod enc Try.prog w base spare held fuel 62 cs = some x) :
    ∃ (mark : Int) (idle : Bool), cs = [.int .i64 mark, .bool idle] ∧ (-9223372036854775808 ≤ mark ∧ mark ≤ 9223372036854775807) := by
  have hl := rd_len Try.underlying62 h
  have hl2 : cs.length = 2 := hl.trans (by kernel_rfl)
  obtain ⟨c0, c1, rfl⟩ : ∃ c0 c1, cs = [c0, c1] := by
    match cs, hl2 with
    | [c0, c1], _ => exact ⟨c0, c1, rfl⟩
  clear hl hl2
  have hc0 : Try.prog.cellsOf 2 = 1 := by kernel_rfl
  have hc1 : Try.prog.cellsOf 4 = 1 := by kernel_rfl
  obtain ⟨n0, y0, g0⟩ := rd_field Try.underlying62 h 0 _ rfl
  obtain ⟨x0, e0, _, w0⟩ := DataW.trod_int Try.underlying2 g0
  simp [hc0] at e0
  subst e0
  obtain ⟨n1, y1, g1⟩ := rd_field Try.underlying62 h 1 _ rfl
  obtain ⟨x1, e1, _⟩ := DataW.trod_bool Try.underlying4 g1
  simp [hc1] at e1
  subst e1
  exact ⟨x0, x1, rfl, wf_i64 w0⟩
theorem rd_Ho {H : Type} {enc : TypeId × Value → H} {w : World} {base : Nat} {spare : Nat → Bool} {held : Bool} {fuel : Nat} {cs : List Value} {x : DataW H × List MemPlace} (h : DataW.trod enc Try.prog w base spare held fuel 65 cs = some x) :
    ∃ (no : Int) (at' : Int), cs = [.int .i64 no, .int .i64 at'] ∧ (-9223372036854775808 ≤ no ∧ no ≤ 9223372036854775807) ∧ (-9223372036854775808 ≤ at' ∧ at' ≤ 9223372036854775807) := by
  have hl := rd_len Try.underlying65 h
  have hl2 : cs.length = 2 := hl.trans (by kernel_rfl)
  obtain ⟨c0, c1, rfl⟩ : ∃ c0 c1, cs = [c0, c1] := by
    match cs, hl2 with
    | [c0, c1], _ => exact ⟨c0, c1, rfl⟩
  clear hl hl2
  have hc0 : Try.prog.cellsOf 3 = 1 := by kernel_rfl
  have hc1 : Try.prog.cellsOf 2 = 1 := by kernel_rfl
  obtain ⟨n0, y0, g0⟩ := rd_field Try.underlying65 h 0 _ rfl
  obtain ⟨x0, e0, _, w0⟩ := DataW.trod_int Try.underlying3 g0
  simp [hc0] at e0
  subst e0
  obtain ⟨n1, y1, g1⟩ := rd_field Try.underlying65 h 1 _ rfl
  obtain ⟨x1, e1, _, w1⟩ := DataW.trod_int Try.underlying2 g1
  simp [hc1] at e1
  subst e1
  exact ⟨x0, x1, rfl, wf_i64 w0, wf_i64 w1⟩
abbrev rep0 (w : World) (x : AV) (y : Value) : Prop := rep [] (fun _ => undef) w (fun _ => False) x y
/-- a slice in memory, read whole -/
theorem rd_sl {α : Type} {H : Type} {enc : TypeId × Value → H} {w : World} {t e : TypeId} {size fuel : Nat} {cs : List Value} {y : DataW H × List MemPlace} (cells : α → List Value) (avs : α → List AV) (Ok : α → Prop) (ht : Try.prog.underlying t = some (.slice e)) (hC : Try.prog.cellsOf e = size) (hsz : 0 < size)
    (hel : ∀ (n : Nat) (cs : List Value) (y : DataW H × List MemPlace), cs.length = size → DataW.trod enc Try.prog w 0 (fun _ => true) true n e cs = some y → ∃ x, cs = cells x ∧ Ok x)
    (hl : ∀ x, (cells x).length = size) (hr : ∀ x, Ok x → repC [] (fun _ => undef) w (fun _ => False) (avs x) (cells x))
    (h : DataW.trod enc Try.prog w 0 (fun _ => true) true fuel t cs = some y) : ∃ (v : Value) (xs : List α), cs = [v] ∧ v.oneCell' = true ∧ xs.length ≤ 9223372036854775807 ∧ (∀ x ∈ xs, Ok x) ∧ rep0 w (.sl size (xs.map avs)) v := by
  obtain ⟨A, n, c, xs, h1, h2, h3, h4, h5, h6⟩ := open_rows cells Ok ht hC hsz hel h
  exact ⟨_, xs, h1, rfl, by omega, h6, rep_sl cells avs h5 h4 h2 h3 hl fun x hx => hr x (h6 x hx)⟩
theorem arg_sl {α : Type} {H : Type} {enc : TypeId × Value → H} {w : World} {t e : TypeId} {size b0 : Nat} {v : Value} {d : DataW H} {ps : List MemPlace} (cells : α → List Value) (avs : α → List AV) (Ok : α → Prop) (ht : Try.prog.underlying t = some (.slice e)) (hC : Try.prog.cellsOf e = size) (hsz : 0 < size)
    (hel : ∀ (n : Nat) (cs : List Value) (y : DataW H × List MemPlace), cs.length = size → DataW.trod enc Try.prog w 0 (fun _ => true) true n e cs = some y → ∃ x, cs = cells x ∧ Ok x)
    (hl : ∀ x, (cells x).length = size) (hr : ∀ x, Ok x → repC [] (fun _ => undef) w (fun _ => False) (avs x) (cells x))
    (hv : Value.okWide Try.prog w .any b0 t v) (h : DataW.Trod enc Try.prog w 0 (fun _ => true) true t v d ps) : ∃ (xs : List α), xs.length ≤ 9223372036854775807 ∧ (∀ x ∈ xs, Ok x) ∧ rep0 w (.sl size (xs.map avs)) v := by
  obtain ⟨A, n, c, xs, rfl, h2, h3, h4, h5, h6⟩ := open_rows_arg cells Ok ht hC hsz hel hv h
  exact ⟨xs, by omega, h6, rep_sl cells avs h5 h4 h2 h3 hl fun x hx => hr x (h6 x hx)⟩
section
variable {H : Type} {enc : TypeId × Value → H} {w : World}
theorem el_It (m : Nat) (cs : List Value) (y : DataW H × List MemPlace) (hl : cs.length = 11) (ht : DataW.trod enc Try.prog w 0 (fun _ => true) true m 79 cs = some y) : ∃ x : It, cs = x.vals ∧ True := by
  obtain ⟨kind, key, a, v, mark, n, lo, hi, rk, rn, rv, rfl, _⟩ := rd_It ht
  exact ⟨⟨kind, key, a, v, mark, n, lo, hi, rk, rn, rv⟩, rfl, trivial⟩
theorem el_InM (m : Nat) (cs : List Value) (y : DataW H × List MemPlace) (hl : cs.length = 2) (ht : DataW.trod enc Try.prog w 0 (fun _ => true) true m 62 cs = some y) : ∃ x : Int × Bool, cs = [.int .i64 x.1, .bool x.2] ∧ True := by
  obtain ⟨a, b, rfl, _⟩ := rd_InM ht
  exact ⟨(a, b), rfl, trivial⟩
theorem el_Ho (m : Nat) (cs : List Value) (y : DataW H × List MemPlace) (hl : cs.length = 2) (ht : DataW.trod enc Try.prog w 0 (fun _ => true) true m 65 cs = some y) : ∃ x : Int × Int, cs = [.int .i64 x.1, .int .i64 x.2] ∧ True := by
  obtain ⟨a, b, rfl, _⟩ := rd_Ho ht
  exact ⟨(a, b), rfl, trivial⟩
theorem el_Bo (m : Nat) (cs : List Value) (y : DataW H × List MemPlace) (hl : cs.length = 1) (ht : DataW.trod enc Try.prog w 0 (fun _ => true) true m 4 cs = some y) : ∃ x : Bool, cs = [.bool x] ∧ True := by
  obtain ⟨b, e, _⟩ := DataW.trod_bool Try.underlying4 ht
  exact ⟨b, e, trivial⟩
theorem el_Held (m : Nat) (cs : List Value) (y : DataW H × List MemPlace) (hl : cs.length = 1) (ht : DataW.trod enc Try.prog w 0 (fun _ => true) true m 45 cs = some y) : ∃ x : Value × List It, cs = [x.1] ∧ (x.1.oneCell' = true ∧ x.2.length ≤ 9223372036854775807 ∧ rep0 w (.sl 11 (x.2.map It.av)) x.1) := by
  obtain ⟨v, xs, h1, h2, h3, _, h4⟩ := rd_sl It.vals It.av (fun _ => True) Try.underlying45 (by kernel_rfl : Try.prog.cellsOf 79 = 11) (by omega) el_It (fun _ => rfl) (fun x _ => repC_con (cs := It.vals x) rfl) ht
  exact ⟨(v, xs), h1, h2, h3, h4⟩
theorem el_Gp (m : Nat) (cs : List Value) (y : DataW H × List MemPlace) (hl : cs.length = 3) (ht : DataW.trod enc Try.prog w 0 (fun _ => true) true m 44 cs = some y) : ∃ x : Value × Gp, cs = [.int .i64 x.2.no, .int .i64 x.2.mark, x.1] ∧ (x.1.oneCell' = true ∧ PnsRd w x.1 x.2.ps) := by
  obtain ⟨no, mark, v, xs, h1, h2, h3⟩ := rd_Group ht
  exact ⟨(v, ⟨no, mark, xs⟩), h1, h2, h3⟩
theorem rep_v (x : Value) (h : scal x = true) : rep0 w (.v x) x := by simp [rep0, rep, h]
theorem gp_rep (x : Value × Gp) (h : x.1.oneCell' = true ∧ PnsRd w x.1 x.2.ps) : repC [] (fun _ => undef) w (fun _ => False) (Gp.av x.2) [.int .i64 x.2.no, .int .i64 x.2.mark, x.1] := by
  simp only [Gp.av, repC]
  exact ⟨_, _, rfl, rfl, rep_v _ rfl, _, _, rfl, rfl, rep_v _ rfl, _, _, rfl, h.1, h.2.2, rfl⟩
theorem held_rep (x : Value × List It) (h : x.1.oneCell' = true ∧ x.2.length ≤ 9223372036854775807 ∧ rep0 w (.sl 11 (x.2.map It.av)) x.1) : repC [] (fun _ => undef) w (fun _ => False) (heAv x.2) [x.1] := by
  simp only [heAv, repC]
  exact ⟨_, _, rfl, h.1, h.2.2, rfl⟩
theorem rd_Marks {fuel : Nat} {cs : List Value} {x : DataW H × List MemPlace} (h : DataW.trod enc Try.prog w 0 (fun _ => true) true fuel 28 cs = some x) :
    ∃ (v0 v1 : Value) (m : Mk), cs = [v0, v1, .int .i64 m.out] ∧ v0.oneCell' = true ∧ v1.oneCell' = true ∧ m.ins.length ≤ 9223372036854775807 ∧ m.hs.length ≤ 9223372036854775807 ∧ rep0 w (.sl 2 (m.ins.map inAvM)) v0 ∧ rep0 w (.sl 2 (m.hs.map hoAv)) v1 := by
  have hl := rd_len Try.underlying28 h
  have hl2 : cs.length = 3 := hl.trans (by kernel_rfl)
  obtain ⟨c0, c1, c2, rfl⟩ := len3 hl2
  clear hl hl2
  have hc0 : Try.prog.cellsOf 25 = 1 := by kernel_rfl
  have hc1 : Try.prog.cellsOf 26 = 1 := by kernel_rfl
  have hc2 : Try.prog.cellsOf 2 = 1 := by kernel_rfl
  obtain ⟨n0, y0, g0⟩ := rd_field Try.underlying28 h 0 _ rfl
  obtain ⟨v0, xs, e0, h2, h3, _, h4⟩ := rd_sl (fun x : Int × Bool => [.int .i64 x.1, .bool x.2]) inAvM (fun _ => True) Try.underlying25 (by kernel_rfl : Try.prog.cellsOf 62 = 2) (by omega) el_InM (fun _ => rfl) (fun x _ => repC_con (cs := [.int .i64 x.1, .bool x.2]) rfl) g0
  simp [hc0] at e0
  subst e0
  obtain ⟨n1, y1, g1⟩ := rd_field Try.underlying28 h 1 _ rfl
  obtain ⟨v1, ys, e1, h5, h6, _, h7⟩ := rd_sl (fun x : Int × Int => [.int .i64 x.1, .int .i64 x.2]) hoAv (fun _ => True) Try.underlying26 (by kernel_rfl : Try.prog.cellsOf 65 = 2) (by omega) el_Ho (fun _ => rfl) (fun x _ => repC_con (cs := [.int .i64 x.1, .int .i64 x.2]) rfl) g1
  simp [hc1] at e1
  subst e1
  obtain ⟨n2, y2, g2⟩ := rd_field Try.underlying28 h 2 _ rfl
  obtain ⟨x2, e2, _, _⟩ := DataW.trod_int Try.underlying2 g2
  simp [hc2] at e2
  subst e2
  exact ⟨_, _, ⟨xs, ys, x2⟩, rfl, h2, h5, h3, h6, h4, h7⟩
theorem rd_Align {fuel : Nat} {cs : List Value} {x : DataW H × List MemPlace} (h : DataW.trod enc Try.prog w 0 (fun _ => true) true fuel 32 cs = some x) :
    ∃ (v0 v1 : Value) (m : Al), cs = [.int .i64 m.n, v0, v1] ∧ v0.oneCell' = true ∧ v1.oneCell' = true ∧ m.got.length ≤ 9223372036854775807 ∧ m.held.length ≤ 9223372036854775807 ∧ (∀ l ∈ m.held, l.length ≤ 9223372036854775807) ∧ rep0 w (.sl 1 (m.got.map boAv)) v0 ∧ rep0 w (.sl 1 (m.held.map heAv)) v1 := by
  have hl := rd_len Try.underlying32 h
  have hl2 : cs.length = 3 := hl.trans (by kernel_rfl)
  obtain ⟨c0, c1, c2, rfl⟩ := len3 hl2
  clear hl hl2
  have hc0 : Try.prog.cellsOf 3 = 1 := by kernel_rfl
  have hc1 : Try.prog.cellsOf 29 = 1 := by kernel_rfl
  have hc2 : Try.prog.cellsOf 30 = 1 := by kernel_rfl
  obtain ⟨n0, y0, g0⟩ := rd_field Try.underlying32 h 0 _ rfl
  obtain ⟨x0, e0, _, _⟩ := DataW.trod_int Try.underlying3 g0
  simp [hc0] at e0
  subst e0
  obtain ⟨n1, y1, g1⟩ := rd_field Try.underlying32 h 1 _ rfl
  obtain ⟨v0, xs, e1, h2, h3, _, h4⟩ := rd_sl (fun x : Bool => [.bool x]) boAv (fun _ => True) Try.underlying29 (by kernel_rfl : Try.prog.cellsOf 4 = 1) (by omega) el_Bo (fun _ => rfl) (fun x _ => repC_con (cs := [.bool x]) rfl) g1
  simp [hc1] at e1
  subst e1
  obtain ⟨n2, y2, g2⟩ := rd_field Try.underlying32 h 2 _ rfl
  obtain ⟨v1, ys, e2, h5, h6, h8, h7⟩ := rd_sl (fun x : Value × List It => [x.1]) (heAv ∘ Prod.snd) _ Try.underlying30 (by kernel_rfl : Try.prog.cellsOf 45 = 1) (by omega) el_Held (fun _ => rfl) (fun x hx => held_rep x hx) g2
  simp [hc2] at e2
  subst e2
  refine ⟨_, _, ⟨x0, xs, ys.map Prod.snd⟩, rfl, h2, h5, h3, by simpa using h6, fun l hl => ?_, h4, by rw [List.map_map]; exact h7⟩
  obtain ⟨z, hz, rfl⟩ := List.mem_map.1 hl
  exact (h8 z hz).2.1
theorem open_gps_arg {b0 : Nat} {v : Value} {d : DataW H} {ps : List MemPlace} (hv : Value.okWide Try.prog w .any b0 24 v) (h : DataW.Trod enc Try.prog w 0 (fun _ => true) true 24 v d ps) :
    ∃ gs : List Gp, gs.length ≤ 9223372036854775807 ∧ (∀ g ∈ gs, g.ps.length ≤ 9223372036854775807) ∧ rep0 w (.sl 3 (gs.map Gp.av)) v := by
  obtain ⟨xs, h1, h2, h3⟩ := arg_sl (fun x : Value × Gp => [.int .i64 x.2.no, .int .i64 x.2.mark, x.1]) (Gp.av ∘ Prod.snd) _ Try.underlying24 (by kernel_rfl : Try.prog.cellsOf 44 = 3) (by omega) el_Gp (fun _ => rfl) (fun x hx => gp_rep x hx) hv h
  refine ⟨xs.map Prod.snd, by simpa using h1, fun g hg => ?_, by rw [List.map_map]; exact h3⟩
  obtain ⟨z, hz, rfl⟩ := List.mem_map.1 hg
  exact (h2 z hz).2.1
theorem len8 {α : Type} {cs : List α} (h : cs.length = 8) : ∃ c0 c1 c2 c3 c4 c5 c6 c7, cs = [c0, c1, c2, c3, c4, c5, c6, c7] := by
  match cs, h with
  | [c0, c1, c2, c3, c4, c5, c6, c7], _ => exact ⟨c0, c1, c2, c3, c4, c5, c6, c7, rfl⟩
theorem open_wk_arg {b0 : Nat} {v : Value} {d : DataW H} {ps : List MemPlace} (hv : Value.okWide Try.prog w .any b0 34 v) (h : DataW.Trod enc Try.prog w 0 (fun _ => true) true 34 v d ps) :
    ∃ k : Wk, WkOk k ∧ rep0 w (.agg k.av) v := by
  obtain ⟨cs, rfl, fuel, x, h⟩ := open_struct_arg Try.underlying34 hv h
  have hl := rd_len Try.underlying34 h
  have hl2 : cs.length = 8 := hl.trans (by kernel_rfl)
  obtain ⟨c0, c1, c2, c3, c4, c5, c6, c7, rfl⟩ := len8 hl2
  clear hl hl2
  have hc0 : Try.prog.cellsOf 24 = 1 := by kernel_rfl
  have hc1 : Try.prog.cellsOf 28 = 3 := by kernel_rfl
  have hc2 : Try.prog.cellsOf 32 = 3 := by kernel_rfl
  have hc3 : Try.prog.cellsOf 2 = 1 := by kernel_rfl
  obtain ⟨n0, y0, g0⟩ := rd_field Try.underlying34 h 0 _ rfl
  obtain ⟨v0, gs, e0, a1, a2, a3, a4⟩ := rd_sl (fun x : Value × Gp => [.int .i64 x.2.no, .int .i64 x.2.mark, x.1]) (Gp.av ∘ Prod.snd) _ Try.underlying24 (by kernel_rfl : Try.prog.cellsOf 44 = 3) (by omega) el_Gp (fun _ => rfl) (fun x hx => gp_rep x hx) g0
  simp [hc0] at e0
  subst e0
  obtain ⟨n1, y1, g1⟩ := rd_field Try.underlying34 h 1 _ rfl
  obtain ⟨v1, v2, m, e1, b1, b2, b3, b4, b5, b6⟩ := rd_Marks g1
  simp [hc1] at e1
  obtain ⟨rfl, rfl, rfl⟩ := e1
  obtain ⟨n2, y2, g2⟩ := rd_field Try.underlying34 h 2 _ rfl
  obtain ⟨v3, v4, al, e2, d1, d2, d3, d4, d5, d6, d7⟩ := rd_Align g2
  simp [hc2] at e2
  obtain ⟨rfl, rfl, rfl⟩ := e2
  obtain ⟨n3, y3, g3⟩ := rd_field Try.underlying34 h 3 _ rfl
  obtain ⟨x3, e3, _, _⟩ := DataW.trod_int Try.underlying2 g3
  simp [hc3] at e3
  subst e3
  refine ⟨⟨gs.map Prod.snd, m, al, x3⟩, ⟨by simpa using a2, fun g hg => ?_, b3, b4, d3, d4, d5⟩, ?_⟩
  · obtain ⟨z, hz, rfl⟩ := List.mem_map.1 hg
    exact (a3 z hz).2.1
  · simp only [rep0, rep, Wk.av, repC]
    refine ⟨_, rfl, _, _, rfl, a1, by rw [List.map_map]; exact (by simpa only [rep] using a4), _, _, rfl, b1, (by simpa only [rep] using b5), _, _, rfl, b2, (by simpa only [rep] using b6), _, _, rfl, rfl, ⟨rfl, rfl⟩, _, _, rfl, rfl, ⟨rfl, rfl⟩, _, _, rfl, d1, (by simpa only [rep] using d6), _, _, rfl, d2, (by simpa only [rep] using d7), _, _, rfl, rfl, ⟨rfl, rfl⟩, rfl⟩
end
end Go.Proofs.Ytagfjnjpgphnjaa
