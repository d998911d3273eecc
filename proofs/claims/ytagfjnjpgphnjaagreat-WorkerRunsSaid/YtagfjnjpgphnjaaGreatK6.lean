/-
  The last step of a law's row, over whatever program: the call returned true and nothing that was there has turned. No condition.
  How the arguments of the laws of panes, groups and the model read.
    How events read.
  Times and windows, walked over abstract values: sums and floors of times; which windows hold one.
  Groups, walked over abstract values: which may be; time that goes on.
-/
import Derived.ProofKit
import Derived.OpenShut
import Derived.JoinedCond
import Derived.Carry
import Derived.Deep.Slices
import GoSem.Claim
import GoSem.ClaimJoined
import Derived.Test.YtagfjnjpgphnjaaGreatK1
import Derived.Test.YtagfjnjpgphnjaaGreatK4
import Derived.Test.YtagfjnjpgphnjaaGreatK5
namespace Go.Proofs.YtagfjnjpgphnjaaGreat
open Go.RowKit Go.WideShapes Go.ChangeShapes Go.ChangeAt
set_option linter.unusedVariables false

section
variable {H : Type} {enc : TypeId × Value → H} {P : Program}
theorem cell_lt {w : World} {b o : Nat} {u : Value} (h : w.cell? ⟨b, o, none⟩ = some u) : b < w.heap.size := by
  rcases Nat.lt_or_ge b w.heap.size with h1 | h1
  · exact h1
  · simp [World.cell?, Array.getElem?_eq_none h1] at h

/-- A field of a struct that is read. -/
theorem rd_field {w : World} {base : Nat} {spare : Nat → Bool} {held : Bool} {t : TypeId} {fs : Array Field} {fuel : Nat} {cs : List Value} {x : DataW H × List MemPlace} (ht : P.underlying t = some (.struct fs))
    (h : DataW.trod enc P w base spare held fuel t cs = some x) (i : Nat) (f : Field) (hi : fs[i]? = some f) :
    ∃ n y, DataW.trod enc P w base spare held n f.type ((cs.drop f.offset).take (P.cellsOf f.type)) = some y := by
  obtain ⟨xs, n, _, _, _, hl, hf⟩ := DataW.trod_struct ht h
  have hlt : i < xs.length := by rw [hl]; exact (Array.getElem?_eq_some_iff.1 hi).1
  exact ⟨n, xs[i], (hf i f hi).trans (List.getElem?_eq_getElem hlt)⟩
theorem rd_len {w : World} {base : Nat} {spare : Nat → Bool} {held : Bool} {t : TypeId} {fs : Array Field} {fuel : Nat} {cs : List Value} {x : DataW H × List MemPlace} (ht : P.underlying t = some (.struct fs))
    (h : DataW.trod enc P w base spare held fuel t cs = some x) : cs.length = P.cellsOf t := by
  obtain ⟨xs, n, _, _, hl, _, _⟩ := DataW.trod_struct ht h
  exact hl
/-- A struct by value. -/
theorem open_struct_arg {w : World} {b0 : Nat} {base : Nat} {spare : Nat → Bool} {held : Bool} {t : TypeId} {fs : Array Field} {v : Value} {d : DataW H} {ps : List MemPlace} (ht : P.underlying t = some (.struct fs))
    (hv : Value.okWide P w .any b0 t v) (h : DataW.Trod enc P w base spare held t v d ps) : ∃ cs : List Value, v = .agg cs.toArray ∧ ∃ fuel x, DataW.trod enc P w base spare held fuel t cs = some x := by
  obtain ⟨cs, rfl, _⟩ := okWide_struct ht hv
  obtain ⟨fuel, hf⟩ := h
  exact ⟨cs.toList, by simp, fuel, _, hf⟩
theorem len3 {α} {l : List α} (h : l.length = 3) : ∃ a b c, l = [a, b, c] := by
  match l, h with
  | [a, b, c], _ => exact ⟨a, b, c, rfl⟩

/-- A slice that is read, element by element: 'cells x' are the cells of an element that stands for x. -/
theorem open_rows {α : Type} {w : World} {t e : TypeId} {size fuel : Nat} {cs : List Value} {x : DataW H × List MemPlace} (cells : α → List Value) (Ok : α → Prop) (ht : P.underlying t = some (.slice e)) (hC : P.cellsOf e = size) (hsz : 0 < size)
    (hel : ∀ (n : Nat) (cs : List Value) (y : DataW H × List MemPlace), cs.length = size → DataW.trod enc P w 0 (fun _ => true) true n e cs = some y → ∃ x, cs = cells x ∧ Ok x)
    (h : DataW.trod enc P w 0 (fun _ => true) true fuel t cs = some x) :
    ∃ (A : Option Addr) (n c : Nat) (xs : List α), cs = [.slice A n c] ∧ n ≤ c ∧ c ≤ 9223372036854775807 ∧ n = xs.length ∧ Reads w w.heap.size size A n (xs.flatMap cells) ∧ ∀ x ∈ xs, Ok x := by
  rcases Go.Deep.open_slice ht h with ⟨rfl, _⟩ | ⟨a, n, c, m, fu, D, Pl, rfl, _, hnc, hcm, hm, _, hx⟩
  · exact ⟨none, 0, 0, [], rfl, Nat.le_refl _, by omega, rfl, Reads.none_, by simp⟩
  · subst hC
    have hm' : m = c := by simpa using hm
    subst hm'
    have key : ∀ k, k ≤ n → ∃ xs : List α, xs.length = k ∧ (xs.flatMap cells).length = k * P.cellsOf e ∧ (∀ j u, (xs.flatMap cells)[j]? = some u → w.cell? (a.add j) = some u) ∧ ∀ x ∈ xs, Ok x := by
      intro k
      induction k with
      | zero => intro _; exact ⟨[], rfl, by simp, by simp, by simp⟩
      | succ k ih =>
        intro hk
        obtain ⟨xs, h1, h2, h3, h4⟩ := ih (by omega)
        obtain ⟨cs', hc', ht'⟩ := hx k (by omega)
        obtain ⟨_, hl, hat⟩ := World.cells?_some hc'
        obtain ⟨x, rfl, hok⟩ := hel _ _ _ hl ht'
        refine ⟨xs ++ [x], by simp [h1], by simp [h2, hl, Nat.add_mul], ?_, ?_⟩
        · intro j u hu
          simp only [List.flatMap_append, List.flatMap_cons, List.flatMap_nil, List.append_nil] at hu
          rcases Nat.lt_or_ge j (k * P.cellsOf e) with hj | hj
          · rw [List.getElem?_append_left (by omega)] at hu
            exact h3 j u hu
          · rw [List.getElem?_append_right (by omega), h2] at hu
            have hj2 : j - k * P.cellsOf e < P.cellsOf e := by
              have h6 := (List.getElem?_eq_some_iff.1 hu).1
              rw [hl] at h6
              exact h6
            have h5 := hat _ hj2
            rw [hu, Go.Deep.add_add] at h5
            rw [← h5]
            congr 2
            omega
        · intro y hy
          simp only [List.mem_append, List.mem_singleton] at hy
          rcases hy with hy | rfl
          · exact h4 y hy
          · exact hok
    obtain ⟨xs, h1, h2, h3, h4⟩ := key n (Nat.le_refl _)
    refine ⟨some a, n, m, xs, rfl, hnc, by simpa [maxLen] using hcm, h1.symm, ⟨h2, fun hn => ?_⟩, h4⟩
    have hpos : 0 < (xs.flatMap cells).length := by rw [h2]; exact Nat.mul_pos hn hsz
    have h0 := h3 0 _ (List.getElem?_eq_getElem hpos)
    obtain ⟨b, off, spot⟩ := a
    have hspot : spot = none := by simpa [Addr.add] using World.cell?_spot h0
    subst hspot
    refine ⟨b, off, rfl, ?_, fun j u hu => ?_⟩
    · exact cell_lt (o := off) (by simpa [Addr.add] using h0)
    · rw [← Go.WideShapes.add_plain]; exact h3 j u hu

theorem wf_i64 {x : Int} (h : (Lit.int .i64 x).wf = true) : -9223372036854775808 ≤ x ∧ x ≤ 9223372036854775807 := by
  simpa [Lit.wf, IntKind.min, IntKind.max, IntKind.signed, IntKind.bits] using h
theorem trodAll_below (hl : laidOutB P = true) {W W' : World} (hb : Below W.heap.size W W') :
    ∀ {ts : List TypeId} {vs : List Value} {ds : List (DataW H)} {ps : List MemPlace}, (∀ t ∈ ts, P.readableRec t = true ∧ t < P.types.size) →
      DataW.TrodAll enc P W 0 (fun _ => true) true ts vs ds ps → (∀ x ∈ ps, x.block < W.heap.size) →
      DataW.TrodAll enc P W' 0 (fun b => decide (b < W.heap.size)) true ts vs ds ps := by
  intro ts
  induction ts with
  | nil =>
    intro vs ds ps _ h _
    obtain ⟨rfl, rfl, rfl⟩ := trodAll_nil h
    exact trodAll_mk0
  | cons t ts ih =>
    intro vs ds ps hts h hlt
    obtain ⟨v, vs', d, ds', p, q, rfl, rfl, rfl, h0, h1⟩ := trodAll_cons h
    have ht := hts t (by simp)
    exact trodAll_cons_mk (hb.trod hl ht.1 ht.2 h0 (fun x hx => hlt x (by simp [hx]))) (ih (fun t h => hts t (by simp [h])) h1 (fun x hx => hlt x (by simp [hx])))

theorem rd_of {ts : List TypeId} (h : (ts.all fun t => P.readableRec t && decide (t < P.types.size)) = true) : ∀ t ∈ ts, P.readableRec t = true ∧ t < P.types.size := by
  intro t ht
  have := List.all_eq_true.1 h t ht
  simpa using this

theorem post_law {f : Func} {s : ChangeSpec} {W W' : World} {args : Array Value} {ds gs : List (DataW H)} {before : List MemPlace} {tb : TypeId}
    (hl : laidOutB P = true) (hrd : ∀ t ∈ f.params.toList, P.readableRec t = true ∧ t < P.types.size) (hv : s.vars = []) (hres : f.resultTypes = #[tb]) (htb : P.underlying tb = some .bool)
    (hW : DataW.Whole enc P f.params.toList s.vars false W args.toList ds gs before)
    (hs : s.fn H (ds ++ gs) = { results := [.lit (.bool true)], args := ds })
    (hb : Below W.heap.size W W') : s.post enc P f false true false false W args (.bool true) W' := by
  have hlt : ∀ p ∈ before, p.block < W.heap.size := fun p hp => hW.lt p hp
  have hW0 := hW
  obtain ⟨p, q, hA, hV, rfl, hz, hn⟩ := hW0
  refine ⟨ds, gs, p ++ q, [], p, [], hW, ?_, ?_, ?_, hb.frame _, fun h => by cases h⟩
  · rw [hs, hres]
    exact trodAll_cons_mk (shut_bool htb true) trodAll_mk0
  · rw [hs]
    exact trodAll_below hl hb hrd hA (fun x hx => hlt x (by simp [hx]))
  · rw [hs, hv]
    rfl
end
end Go.Proofs.YtagfjnjpgphnjaaGreat
namespace Go.Proofs.YtagfjnjpgphnjaaGreat
open Go.RowKit Go.WideShapes Go.ChangeShapes Go.ChangeAt
set_option linter.unusedSimpArgs false
set_option linter.unusedVariables false
theorem A_laidOut : laidOutB Tryz.prog = true := by kernel_rfl
theorem rd_Job {H : Type} {enc : TypeId × Value → H} {w : World} {base : Nat} {spare : Nat → Bool} {held : Bool} {fuel : Nat} {cs : List Value} {x : DataW H × List MemPlace} (h : DataW.trod enc Tryz.prog w base spare held fuel 23 cs = some x) :
    ∃ (g : Int) (s : Int) (d : Int) (k : Int) (fu : Int) (li : Int) (de : Int) (id : Int), cs = [.int .i64 g, .int .i64 s, .int .i64 d, .int .i64 k, .int .i64 fu, .int .i64 li, .int .i64 de, .int .i64 id] ∧ (-9223372036854775808 ≤ g ∧ g ≤ 9223372036854775807) ∧ (-9223372036854775808 ≤ s ∧ s ≤ 9223372036854775807) ∧ (-9223372036854775808 ≤ d ∧ d ≤ 9223372036854775807) ∧ (-9223372036854775808 ≤ k ∧ k ≤ 9223372036854775807) ∧ (-9223372036854775808 ≤ fu ∧ fu ≤ 9223372036854775807) ∧ (-9223372036854775808 ≤ li ∧ li ≤ 9223372036854775807) ∧ (-9223372036854775808 ≤ de ∧ de ≤ 9223372036854775807) ∧ (-9223372036854775808 ≤ id ∧ id ≤ 9223372036854775807) := by
  have hl := rd_len Tryz.underlying23 h
  have hl2 : cs.length = 8 := hl.trans (by kernel_rfl)
  obtain ⟨c0, c1, c2, c3, c4, c5, c6, c7, rfl⟩ : ∃ c0 c1 c2 c3 c4 c5 c6 c7, cs = [c0, c1, c2, c3, c4, c5, c6, c7] := by
    match cs, hl2 with
    | [c0, c1, c2, c3, c4, c5, c6, c7], _ => exact ⟨c0, c1, c2, c3, c4, c5, c6, c7, rfl⟩
  clear hl hl2
  have hc0 : Tryz.prog.cellsOf 3 = 1 := by kernel_rfl
  have hc1 : Tryz.prog.cellsOf 2 = 1 := by kernel_rfl
  obtain ⟨n0, y0, g0⟩ := rd_field Tryz.underlying23 h 0 _ rfl
  obtain ⟨x0, e0, _, w0⟩ := DataW.trod_int Tryz.underlying3 g0
  simp [hc0] at e0
  subst e0
  obtain ⟨n1, y1, g1⟩ := rd_field Tryz.underlying23 h 1 _ rfl
  obtain ⟨x1, e1, _, w1⟩ := DataW.trod_int Tryz.underlying2 g1
  simp [hc1] at e1
  subst e1
  obtain ⟨n2, y2, g2⟩ := rd_field Tryz.underlying23 h 2 _ rfl
  obtain ⟨x2, e2, _, w2⟩ := DataW.trod_int Tryz.underlying2 g2
  simp [hc1] at e2
  subst e2
  obtain ⟨n3, y3, g3⟩ := rd_field Tryz.underlying23 h 3 _ rfl
  obtain ⟨x3, e3, _, w3⟩ := DataW.trod_int Tryz.underlying3 g3
  simp [hc0] at e3
  subst e3
  obtain ⟨n4, y4, g4⟩ := rd_field Tryz.underlying23 h 4 _ rfl
  obtain ⟨x4, e4, _, w4⟩ := DataW.trod_int Tryz.underlying3 g4
  simp [hc0] at e4
  subst e4
  obtain ⟨n5, y5, g5⟩ := rd_field Tryz.underlying23 h 5 _ rfl
  obtain ⟨x5, e5, _, w5⟩ := DataW.trod_int Tryz.underlying2 g5
  simp [hc1] at e5
  subst e5
  obtain ⟨n6, y6, g6⟩ := rd_field Tryz.underlying23 h 6 _ rfl
  obtain ⟨x6, e6, _, w6⟩ := DataW.trod_int Tryz.underlying2 g6
  simp [hc1] at e6
  subst e6
  obtain ⟨n7, y7, g7⟩ := rd_field Tryz.underlying23 h 7 _ rfl
  obtain ⟨x7, e7, _, w7⟩ := DataW.trod_int Tryz.underlying3 g7
  simp [hc0] at e7
  subst e7
  exact ⟨x0, x1, x2, x3, x4, x5, x6, x7, rfl, wf_i64 w0, wf_i64 w1, wf_i64 w2, wf_i64 w3, wf_i64 w4, wf_i64 w5, wf_i64 w6, wf_i64 w7⟩
theorem rd_Acc {H : Type} {enc : TypeId × Value → H} {w : World} {base : Nat} {spare : Nat → Bool} {held : Bool} {fuel : Nat} {cs : List Value} {x : DataW H × List MemPlace} (h : DataW.trod enc Tryz.prog w base spare held fuel 153 cs = some x) :
    ∃ (n : Int) (a : Int) (b : Int), cs = [.int .i64 n, .int .i64 a, .int .i64 b] ∧ (-9223372036854775808 ≤ n ∧ n ≤ 9223372036854775807) ∧ (-9223372036854775808 ≤ a ∧ a ≤ 9223372036854775807) ∧ (-9223372036854775808 ≤ b ∧ b ≤ 9223372036854775807) := by
  have hl := rd_len Tryz.underlying153 h
  have hl2 : cs.length = 3 := hl.trans (by kernel_rfl)
  obtain ⟨c0, c1, c2, rfl⟩ : ∃ c0 c1 c2, cs = [c0, c1, c2] := by
    match cs, hl2 with
    | [c0, c1, c2], _ => exact ⟨c0, c1, c2, rfl⟩
  clear hl hl2
  have hc0 : Tryz.prog.cellsOf 2 = 1 := by kernel_rfl
  obtain ⟨n0, y0, g0⟩ := rd_field Tryz.underlying153 h 0 _ rfl
  obtain ⟨x0, e0, _, w0⟩ := DataW.trod_int Tryz.underlying2 g0
  simp [hc0] at e0
  subst e0
  obtain ⟨n1, y1, g1⟩ := rd_field Tryz.underlying153 h 1 _ rfl
  obtain ⟨x1, e1, _, w1⟩ := DataW.trod_int Tryz.underlying2 g1
  simp [hc0] at e1
  subst e1
  obtain ⟨n2, y2, g2⟩ := rd_field Tryz.underlying153 h 2 _ rfl
  obtain ⟨x2, e2, _, w2⟩ := DataW.trod_int Tryz.underlying2 g2
  simp [hc0] at e2
  subst e2
  exact ⟨x0, x1, x2, rfl, wf_i64 w0, wf_i64 w1, wf_i64 w2⟩
theorem rd_Win {H : Type} {enc : TypeId × Value → H} {w : World} {base : Nat} {spare : Nat → Bool} {held : Bool} {fuel : Nat} {cs : List Value} {x : DataW H × List MemPlace} (h : DataW.trod enc Tryz.prog w base spare held fuel 59 cs = some x) :
    ∃ (lo : Int) (hi : Int), cs = [.int .i64 lo, .int .i64 hi] ∧ (-9223372036854775808 ≤ lo ∧ lo ≤ 9223372036854775807) ∧ (-9223372036854775808 ≤ hi ∧ hi ≤ 9223372036854775807) := by
  have hl := rd_len Tryz.underlying59 h
  have hl2 : cs.length = 2 := hl.trans (by kernel_rfl)
  obtain ⟨c0, c1, rfl⟩ : ∃ c0 c1, cs = [c0, c1] := by
    match cs, hl2 with
    | [c0, c1], _ => exact ⟨c0, c1, rfl⟩
  clear hl hl2
  have hc0 : Tryz.prog.cellsOf 2 = 1 := by kernel_rfl
  obtain ⟨n0, y0, g0⟩ := rd_field Tryz.underlying59 h 0 _ rfl
  obtain ⟨x0, e0, _, w0⟩ := DataW.trod_int Tryz.underlying2 g0
  simp [hc0] at e0
  subst e0
  obtain ⟨n1, y1, g1⟩ := rd_field Tryz.underlying59 h 1 _ rfl
  obtain ⟨x1, e1, _, w1⟩ := DataW.trod_int Tryz.underlying2 g1
  simp [hc0] at e1
  subst e1
  exact ⟨x0, x1, rfl, wf_i64 w0, wf_i64 w1⟩
theorem rd_Pane {H : Type} {enc : TypeId × Value → H} {w : World} {base : Nat} {spare : Nat → Bool} {held : Bool} {fuel : Nat} {cs : List Value} {x : DataW H × List MemPlace} (h : DataW.trod enc Tryz.prog w base spare held fuel 155 cs = some x) :
    ∃ (lo : Int) (hi : Int) (key : ByteArray) (n : Int) (a : Int) (b : Int), cs = [.int .i64 lo, .int .i64 hi, .string key, .int .i64 n, .int .i64 a, .int .i64 b] ∧ (-9223372036854775808 ≤ lo ∧ lo ≤ 9223372036854775807) ∧ (-9223372036854775808 ≤ hi ∧ hi ≤ 9223372036854775807) ∧ key.size ≤ maxLen ∧ (-9223372036854775808 ≤ n ∧ n ≤ 9223372036854775807) ∧ (-9223372036854775808 ≤ a ∧ a ≤ 9223372036854775807) ∧ (-9223372036854775808 ≤ b ∧ b ≤ 9223372036854775807) := by
  have hl := rd_len Tryz.underlying155 h
  have hl2 : cs.length = 6 := hl.trans (by kernel_rfl)
  obtain ⟨c0, c1, c2, c3, c4, c5, rfl⟩ : ∃ c0 c1 c2 c3 c4 c5, cs = [c0, c1, c2, c3, c4, c5] := by
    match cs, hl2 with
    | [c0, c1, c2, c3, c4, c5], _ => exact ⟨c0, c1, c2, c3, c4, c5, rfl⟩
  clear hl hl2
  have hc0 : Tryz.prog.cellsOf 59 = 2 := by kernel_rfl
  have hc1 : Tryz.prog.cellsOf 9 = 1 := by kernel_rfl
  have hc2 : Tryz.prog.cellsOf 153 = 3 := by kernel_rfl
  obtain ⟨n0, y0, g0⟩ := rd_field Tryz.underlying155 h 0 _ rfl
  obtain ⟨x0_0, x0_1, e0, w0_0, w0_1⟩ := rd_Win g0
  simp [hc0] at e0
  obtain ⟨rfl, rfl⟩ := e0
  obtain ⟨n1, y1, g1⟩ := rd_field Tryz.underlying155 h 1 _ rfl
  obtain ⟨x1, e1, _, w1⟩ := DataW.trod_string Tryz.underlying9 g1
  simp [hc1] at e1
  subst e1
  obtain ⟨n2, y2, g2⟩ := rd_field Tryz.underlying155 h 2 _ rfl
  obtain ⟨x2_0, x2_1, x2_2, e2, w2_0, w2_1, w2_2⟩ := rd_Acc g2
  simp [hc2] at e2
  obtain ⟨rfl, rfl, rfl⟩ := e2
  exact ⟨x0_0, x0_1, x1, x2_0, x2_1, x2_2, rfl, w0_0, w0_1, w1, w2_0, w2_1, w2_2⟩
theorem el_Pn {H : Type} {enc : TypeId × Value → H} {w : World} (m : Nat) (cs : List Value) (y : DataW H × List MemPlace) (hl : cs.length = 6) (ht : DataW.trod enc Tryz.prog w 0 (fun _ => true) true m 155 cs = some y) : ∃ x : Pn, cs = x.cells ∧ True := by
  obtain ⟨lo, hi, key, n, a, b, rfl, _⟩ := rd_Pane ht
  exact ⟨⟨lo, hi, key, n, a, b⟩, rfl, trivial⟩
/-- a slice of panes as it reads -/
def PnsRd (w : World) (v : Value) (xs : List Pn) : Prop := xs.length ≤ 9223372036854775807 ∧ rep [] (fun _ => undef) w (fun _ => False) (.sl 6 (xs.map Pn.av)) v
theorem pnsRd {w : World} {A : Option Addr} {n c : Nat} {xs : List Pn} (hn : n ≤ c) (hc : c ≤ 9223372036854775807) (HN : n = xs.length) (hr : Reads w w.heap.size 6 A n (xs.flatMap Pn.cells)) : PnsRd w (.slice A n c) xs :=
  ⟨by omega, rep_sl Pn.cells Pn.av hr HN hn hc (fun _ => rfl) (fun x _ => repC_con (cs := Pn.cells x) rfl)⟩
set_option maxRecDepth 100000 in
theorem rd_Group {H : Type} {enc : TypeId × Value → H} {w : World} {fuel : Nat} {cs : List Value} {x : DataW H × List MemPlace} (h : DataW.trod enc Tryz.prog w 0 (fun _ => true) true fuel 109 cs = some x) :
    ∃ (no mark : Int) (v : Value) (xs : List Pn), cs = [.int .i64 no, .int .i64 mark, v] ∧ v.oneCell' = true ∧ PnsRd w v xs := by
  have hl := rd_len Tryz.underlying109 h
  have hl2 : cs.length = 3 := hl.trans (by kernel_rfl)
  obtain ⟨c0, c1, c2, rfl⟩ := len3 hl2
  clear hl hl2
  have hc0 : Tryz.prog.cellsOf 3 = 1 := by kernel_rfl
  have hc1 : Tryz.prog.cellsOf 2 = 1 := by kernel_rfl
  have hc2 : Tryz.prog.cellsOf 93 = 1 := by kernel_rfl
  obtain ⟨n0, y0, g0⟩ := rd_field Tryz.underlying109 h 0 _ rfl
  obtain ⟨x0, e0, _, _⟩ := DataW.trod_int Tryz.underlying3 g0
  simp [hc0] at e0
  subst e0
  obtain ⟨n1, y1, g1⟩ := rd_field Tryz.underlying109 h 1 _ rfl
  obtain ⟨x1, e1, _, _⟩ := DataW.trod_int Tryz.underlying2 g1
  simp [hc1] at e1
  subst e1
  obtain ⟨n2, y2, g2⟩ := rd_field Tryz.underlying109 h 2 _ rfl
  obtain ⟨A, n, c, xs, e2, h2, h3, h4, h5, _⟩ := open_rows Pn.cells (fun _ => True) Tryz.underlying93 (by kernel_rfl : Tryz.prog.cellsOf 155 = 6) (by omega) el_Pn g2
  simp [hc2] at e2
  subst e2
  exact ⟨x0, x1, _, xs, rfl, rfl, pnsRd h2 h3 h4 h5⟩
theorem rep_Job {w : World} {g s d k fu li de id : Int} : rep [] (fun _ => undef) w (fun _ => False) (.agg [.v (.int .i64 g), .v (.int .i64 s), .v (.int .i64 d), .v (.int .i64 k), .v (.int .i64 fu), .v (.int .i64 li), .v (.int .i64 de), .v (.int .i64 id)]) (.agg #[.int .i64 g, .int .i64 s, .int .i64 d, .int .i64 k, .int .i64 fu, .int .i64 li, .int .i64 de, .int .i64 id]) := by
  simp only [rep]
  exact ⟨_, rfl, repC_con (cs := [.int .i64 g, .int .i64 s, .int .i64 d, .int .i64 k, .int .i64 fu, .int .i64 li, .int .i64 de, .int .i64 id]) rfl⟩
theorem rep_int {w : World} {x : Int} : rep [] (fun _ => undef) w (fun _ => False) (.v (.int .i64 x)) (.int .i64 x) := by simp [rep, scal]
end Go.Proofs.YtagfjnjpgphnjaaGreat
namespace Go.Proofs.YtagfjnjpgphnjaaGreat
open Go.RowKit Go.WideShapes Go.ChangeShapes Go.ChangeAt
set_option linter.unusedSimpArgs false
set_option linter.unusedVariables false
end Go.Proofs.YtagfjnjpgphnjaaGreat
namespace Go.Proofs.YtagfjnjpgphnjaaGreat
open Go.RowKit
set_option linter.unusedSimpArgs false
set_option linter.unusedVariables false
def clampT (x : Int) : Int := min (max x 0) 1099511627776
def addT (x y : Int) : Int := clampT (clampT x + clampT y)
def floorT (t s : Int) : Int := if s < 1 ∨ 1099511627776 < s then 0 else clampT t - (clampT t).tmod s
theorem clampT_range (x : Int) : 0 ≤ clampT x ∧ clampT x ≤ 1099511627776 := by unfold clampT; omega
theorem clampT_id {x : Int} (h : 0 ≤ x ∧ x ≤ 1099511627776) : clampT x = x := by unfold clampT; omega
theorem addT_eq {x y : Int} (h : 0 ≤ x) (h1 : x ≤ 1099511627776) (h2 : 0 ≤ y) (h3 : y ≤ 1099511627776) : addT x y = min (x + y) 1099511627776 := by unfold addT clampT; omega
theorem p_tat (x : Int) : PC Tryz.prog 180 [.v (.int .i64 x)] (.v (.int .i64 (clampT x))) := by
  refine PC.mk (ac_body tab_ok Tryz.func180 rfl (by kernel_rfl) rfl ?_); intro w0 M μ0; simp only [Tryz.ntmps180, List.length_cons, List.length_nil, Nat.reduceAdd, Nat.reduceSub, numb]
  repeat' (first | ((first | apply o_do | apply d_do | apply d_yes rfl rfl rfl); exact lsq) | refine a_seq ?_ | refine a_region ?_ | refine o_nil ?_ | refine a_block ?_ | refine a_ret ?_ | refine a_exit ?_ | refine a_skip ?_ | refine a_draw mixed ?_ | refine d_nil (by kernel_rfl) ?_ | refine o_yes rfl rfl rfl ?_ | refine o_no rfl rfl rfl (by decide) ?_ | refine o_no' rfl rfl rfl ?_ | refine a_condT rfl ?_ | refine a_condF rfl ?_ | refine d_no rfl rfl rfl (by decide) ?_ | refine d_no' rfl rfl rfl ?_ | (refine wq2 (fun hb => ?_) (fun hb => ?_) <;> (simp only [hb]; try simp only [hbs, ne_eq] at hb; try (exfalso; first | omega | exact hb trivial))) | fail)
  all_goals refine rq rfl ?_
  all_goals exact fnq
theorem p_plusT (x y : Int) (hx : 0 ≤ x ∧ x ≤ 1099511627776) (hy : 0 ≤ y ∧ y ≤ 1099511627776) : PC Tryz.prog 197 [.v (.int .i64 x), .v (.int .i64 y)] (.v (.int .i64 (clampT (x + y)))) := by
  have h := p_tat (x + y)
  refine PC.mk (ac_body tab_ok Tryz.func197 rfl (by kernel_rfl) rfl ?_); intro w0 M μ0; simp only [Tryz.ntmps197, List.length_cons, List.length_nil, Nat.reduceAdd, Nat.reduceSub, numb]
  repeat' (first | ((first | apply o_do | apply d_do | apply d_yes rfl rfl rfl); first | exact lsc (h) | exact lsq) | refine a_seq ?_ | refine a_region ?_ | refine o_nil ?_ | refine a_block ?_ | refine a_ret ?_ | refine a_exit ?_ | refine a_skip ?_ | refine a_draw mixed ?_ | refine d_nil (by kernel_rfl) ?_ | refine o_yes rfl rfl rfl ?_ | refine o_no rfl rfl rfl (by decide) ?_ | refine o_no' rfl rfl rfl ?_ | refine a_condT rfl ?_ | refine a_condF rfl ?_ | refine d_no rfl rfl rfl (by decide) ?_ | refine d_no' rfl rfl rfl ?_ | (refine wq2 (fun hb => ?_) (fun hb => ?_) <;> (simp only [hb]; try simp only [hbs, ne_eq] at hb; try (exfalso; first | omega | exact hb trivial))) | fail)
  all_goals refine rq rfl ?_
  all_goals exact fnq
theorem p_bothPlus (x y : Int) : PC Tryz.prog 137 [.v (.int .i64 x), .v (.int .i64 y), .clo (.func 197) [] []] (.v (.int .i64 (addT x y))) := by
  have h1 := p_tat x
  have h2 := p_tat y
  have h3 := p_plusT (clampT x) (clampT y) (clampT_range x) (clampT_range y)
  refine PC.mk (ac_body tab_ok Tryz.func137 rfl (by kernel_rfl) rfl ?_); intro w0 M μ0; simp only [Tryz.ntmps137, List.length_cons, List.length_nil, Nat.reduceAdd, Nat.reduceSub, numb]
  repeat' (first | ((first | apply o_do | apply d_do | apply d_yes rfl rfl rfl); first | exact lsc (h1) | exact lsc (h2) | exact lsc (h3) | exact lsq) | refine a_seq ?_ | refine a_region ?_ | refine o_nil ?_ | refine a_block ?_ | refine a_ret ?_ | refine a_exit ?_ | refine a_skip ?_ | refine a_draw mixed ?_ | refine d_nil (by kernel_rfl) ?_ | refine o_yes rfl rfl rfl ?_ | refine o_no rfl rfl rfl (by decide) ?_ | refine o_no' rfl rfl rfl ?_ | refine a_condT rfl ?_ | refine a_condF rfl ?_ | refine d_no rfl rfl rfl (by decide) ?_ | refine d_no' rfl rfl rfl ?_ | (refine wq2 (fun hb => ?_) (fun hb => ?_) <;> (simp only [hb]; try simp only [hbs, ne_eq] at hb; try (exfalso; first | omega | exact hb trivial))) | fail)
  all_goals refine rq rfl ?_
  all_goals exact fnq
theorem p_addT (x y : Int) : PC Tryz.prog 172 [.v (.int .i64 x), .v (.int .i64 y)] (.v (.int .i64 (addT x y))) := by
  have h := p_bothPlus x y
  refine PC.mk (ac_body tab_ok Tryz.func172 rfl (by kernel_rfl) rfl ?_); intro w0 M μ0; simp only [Tryz.ntmps172, List.length_cons, List.length_nil, Nat.reduceAdd, Nat.reduceSub, numb]
  repeat' (first | ((first | apply o_do | apply d_do | apply d_yes rfl rfl rfl); first | exact lsc (h) | exact lsq) | refine a_seq ?_ | refine a_region ?_ | refine o_nil ?_ | refine a_block ?_ | refine a_ret ?_ | refine a_exit ?_ | refine a_skip ?_ | refine a_draw mixed ?_ | refine d_nil (by kernel_rfl) ?_ | refine o_yes rfl rfl rfl ?_ | refine o_no rfl rfl rfl (by decide) ?_ | refine o_no' rfl rfl rfl ?_ | refine a_condT rfl ?_ | refine a_condF rfl ?_ | refine d_no rfl rfl rfl (by decide) ?_ | refine d_no' rfl rfl rfl ?_ | (refine wq2 (fun hb => ?_) (fun hb => ?_) <;> (simp only [hb]; try simp only [hbs, ne_eq] at hb; try (exfalso; first | omega | exact hb trivial))) | fail)
  all_goals refine rq rfl ?_
  all_goals exact fnq
theorem p_clamp (x : Int) : PC Tryz.prog 186 [.v (.int .i64 x)] (.v (.int .i64 (clampT x))) := by
  have h := p_tat x
  refine PC.mk (ac_body tab_ok Tryz.func186 rfl (by kernel_rfl) rfl ?_); intro w0 M μ0; simp only [Tryz.ntmps186, List.length_cons, List.length_nil, Nat.reduceAdd, Nat.reduceSub, numb]
  repeat' (first | ((first | apply o_do | apply d_do | apply d_yes rfl rfl rfl); first | exact lsc (h) | exact lsq) | refine a_seq ?_ | refine a_region ?_ | refine o_nil ?_ | refine a_block ?_ | refine a_ret ?_ | refine a_exit ?_ | refine a_skip ?_ | refine a_draw mixed ?_ | refine d_nil (by kernel_rfl) ?_ | refine o_yes rfl rfl rfl ?_ | refine o_no rfl rfl rfl (by decide) ?_ | refine o_no' rfl rfl rfl ?_ | refine a_condT rfl ?_ | refine a_condF rfl ?_ | refine d_no rfl rfl rfl (by decide) ?_ | refine d_no' rfl rfl rfl ?_ | (refine wq2 (fun hb => ?_) (fun hb => ?_) <;> (simp only [hb]; try simp only [hbs, ne_eq] at hb; try (exfalso; first | omega | exact hb trivial))) | fail)
  all_goals refine rq rfl ?_
  all_goals exact fnq
theorem p_floor (t s : Int) : PC Tryz.prog 171 [.v (.int .i64 t), .v (.int .i64 s)] (.v (.int .i64 (floorT t s))) := by
  have h := p_clamp t
  have hc := clampT_range t
  by_cases h1 : s < 1 ∨ 1099511627776 < s
  · rw [floorT, if_pos h1]
    refine PC.mk (ac_body tab_ok Tryz.func171 rfl (by kernel_rfl) rfl ?_); intro w0 M μ0; simp only [Tryz.ntmps171, List.length_cons, List.length_nil, Nat.reduceAdd, Nat.reduceSub, numb]
    repeat' (first | ((first | apply o_do | apply d_do | apply d_yes rfl rfl rfl); first | exact lsc (h) | exact lsq) | refine a_seq ?_ | refine a_region ?_ | refine o_nil ?_ | refine a_block ?_ | refine a_ret ?_ | refine a_exit ?_ | refine a_skip ?_ | refine a_draw mixed ?_ | refine d_nil (by kernel_rfl) ?_ | refine o_yes rfl rfl rfl ?_ | refine o_no rfl rfl rfl (by decide) ?_ | refine o_no' rfl rfl rfl ?_ | refine a_condT rfl ?_ | refine a_condF rfl ?_ | refine d_no rfl rfl rfl (by decide) ?_ | refine d_no' rfl rfl rfl ?_ | (refine wq2 (fun hb => ?_) (fun hb => ?_) <;> (simp only [hb]; try simp only [hbs, ne_eq] at hb; try (exfalso; first | omega | exact hb trivial))) | fail)
    all_goals refine rq rfl ?_
    all_goals exact fnq
  · rw [floorT, if_neg h1]
    obtain ⟨r, hr⟩ : ∃ r, (clampT t).tmod s = r := ⟨_, rfl⟩
    have hb := Int.tmod_nonneg s hc.1
    have hb2 := Int.tmod_lt_of_pos (clampT t) (show 0 < s by omega)
    rw [hr] at hb hb2 ⊢
    refine PC.mk (ac_body tab_ok Tryz.func171 rfl (by kernel_rfl) rfl ?_); intro w0 M μ0; simp only [Tryz.ntmps171, List.length_cons, List.length_nil, Nat.reduceAdd, Nat.reduceSub, numb]
    repeat' (first | ((first | apply o_do | apply d_do | apply d_yes rfl rfl rfl); first | exact lsc (h) | exact ls_rem64 hr rfl rfl (by omega) (by omega) rfl | exact lsq) | refine a_seq ?_ | refine a_region ?_ | refine o_nil ?_ | refine a_block ?_ | refine a_ret ?_ | refine a_exit ?_ | refine a_skip ?_ | refine a_draw mixed ?_ | refine d_nil (by kernel_rfl) ?_ | refine o_yes rfl rfl rfl ?_ | refine o_no rfl rfl rfl (by decide) ?_ | refine o_no' rfl rfl rfl ?_ | refine a_condT rfl ?_ | refine a_condF rfl ?_ | refine d_no rfl rfl rfl (by decide) ?_ | refine d_no' rfl rfl rfl ?_ | (refine wq2 (fun hb => ?_) (fun hb => ?_) <;> (simp only [hb]; try simp only [hbs, ne_eq] at hb; try (exfalso; first | omega | exact hb trivial))) | fail)
    all_goals refine rq rfl ?_
    all_goals exact fnq
theorem p_rclamp (x : Int) : PC Tryz.prog 116 [.v (.int .i64 x)] (.v (.int .i64 (clampT x))) := by
  by_cases h1 : x < 0
  · rw [show clampT x = 0 by unfold clampT; omega]
    refine PC.mk (ac_body tab_ok Tryz.func116 rfl (by kernel_rfl) rfl ?_); intro w0 M μ0; simp only [Tryz.ntmps116, List.length_cons, List.length_nil, Nat.reduceAdd, Nat.reduceSub, numb]
    repeat' (first | ((first | apply o_do | apply d_do | apply d_yes rfl rfl rfl); exact lsq) | refine a_seq ?_ | refine a_region ?_ | refine o_nil ?_ | refine a_block ?_ | refine a_ret ?_ | refine a_exit ?_ | refine a_skip ?_ | refine a_draw mixed ?_ | refine d_nil (by kernel_rfl) ?_ | refine o_yes rfl rfl rfl ?_ | refine o_no rfl rfl rfl (by decide) ?_ | refine o_no' rfl rfl rfl ?_ | refine a_condT rfl ?_ | refine a_condF rfl ?_ | refine d_no rfl rfl rfl (by decide) ?_ | refine d_no' rfl rfl rfl ?_ | (refine wq2 (fun hb => ?_) (fun hb => ?_) <;> (simp only [hb]; try simp only [hbs, ne_eq] at hb; try (exfalso; first | omega | exact hb trivial))) | fail)
    all_goals refine rq rfl ?_
    all_goals exact fnq
  · by_cases h2 : 1099511627776 < x
    · rw [show clampT x = 1099511627776 by unfold clampT; omega]
      refine PC.mk (ac_body tab_ok Tryz.func116 rfl (by kernel_rfl) rfl ?_); intro w0 M μ0; simp only [Tryz.ntmps116, List.length_cons, List.length_nil, Nat.reduceAdd, Nat.reduceSub, numb]
      repeat' (first | ((first | apply o_do | apply d_do | apply d_yes rfl rfl rfl); exact lsq) | refine a_seq ?_ | refine a_region ?_ | refine o_nil ?_ | refine a_block ?_ | refine a_ret ?_ | refine a_exit ?_ | refine a_skip ?_ | refine a_draw mixed ?_ | refine d_nil (by kernel_rfl) ?_ | refine o_yes rfl rfl rfl ?_ | refine o_no rfl rfl rfl (by decide) ?_ | refine o_no' rfl rfl rfl ?_ | refine a_condT rfl ?_ | refine a_condF rfl ?_ | refine d_no rfl rfl rfl (by decide) ?_ | refine d_no' rfl rfl rfl ?_ | (refine wq2 (fun hb => ?_) (fun hb => ?_) <;> (simp only [hb]; try simp only [hbs, ne_eq] at hb; try (exfalso; first | omega | exact hb trivial))) | fail)
      all_goals refine rq rfl ?_
      all_goals exact fnq
    · rw [show clampT x = x by unfold clampT; omega]
      refine PC.mk (ac_body tab_ok Tryz.func116 rfl (by kernel_rfl) rfl ?_); intro w0 M μ0; simp only [Tryz.ntmps116, List.length_cons, List.length_nil, Nat.reduceAdd, Nat.reduceSub, numb]
      repeat' (first | ((first | apply o_do | apply d_do | apply d_yes rfl rfl rfl); exact lsq) | refine a_seq ?_ | refine a_region ?_ | refine o_nil ?_ | refine a_block ?_ | refine a_ret ?_ | refine a_exit ?_ | refine a_skip ?_ | refine a_draw mixed ?_ | refine d_nil (by kernel_rfl) ?_ | refine o_yes rfl rfl rfl ?_ | refine o_no rfl rfl rfl (by decide) ?_ | refine o_no' rfl rfl rfl ?_ | refine a_condT rfl ?_ | refine a_condF rfl ?_ | refine d_no rfl rfl rfl (by decide) ?_ | refine d_no' rfl rfl rfl ?_ | (refine wq2 (fun hb => ?_) (fun hb => ?_) <;> (simp only [hb]; try simp only [hbs, ne_eq] at hb; try (exfalso; first | omega | exact hb trivial))) | fail)
      all_goals refine rq rfl ?_
      all_goals exact fnq
theorem p_raddT (x y : Int) : PC Tryz.prog 192 [.v (.int .i64 x), .v (.int .i64 y)] (.v (.int .i64 (addT x y))) := by
  have h1 := p_rclamp x
  have h2 := p_rclamp y
  have e := clampT_range x
  have e2 := clampT_range y
  rw [show addT x y = if 1099511627776 - clampT y < clampT x then 1099511627776 else clampT x + clampT y by unfold addT; split <;> (unfold clampT at *; omega)]
  generalize clampT x = x' at *
  generalize clampT y = y' at *
  by_cases h : 1099511627776 - y' < x'
  · rw [if_pos h]
    refine PC.mk (ac_body tab_ok Tryz.func192 rfl (by kernel_rfl) rfl ?_); intro w0 M μ0; simp only [Tryz.ntmps192, List.length_cons, List.length_nil, Nat.reduceAdd, Nat.reduceSub, numb]
    repeat' (first | ((first | apply o_do | apply d_do | apply d_yes rfl rfl rfl); first | exact lsc (h1) | exact lsc (h2) | exact lsq) | refine a_seq ?_ | refine a_region ?_ | refine o_nil ?_ | refine a_block ?_ | refine a_ret ?_ | refine a_exit ?_ | refine a_skip ?_ | refine a_draw mixed ?_ | refine d_nil (by kernel_rfl) ?_ | refine o_yes rfl rfl rfl ?_ | refine o_no rfl rfl rfl (by decide) ?_ | refine o_no' rfl rfl rfl ?_ | refine a_condT rfl ?_ | refine a_condF rfl ?_ | refine d_no rfl rfl rfl (by decide) ?_ | refine d_no' rfl rfl rfl ?_ | (refine wq2 (fun hb => ?_) (fun hb => ?_) <;> (simp only [hb]; try simp only [hbs, ne_eq] at hb; try (exfalso; first | omega | exact hb trivial))) | fail)
    all_goals refine rq rfl ?_
    all_goals exact fnq
  · rw [if_neg h]
    refine PC.mk (ac_body tab_ok Tryz.func192 rfl (by kernel_rfl) rfl ?_); intro w0 M μ0; simp only [Tryz.ntmps192, List.length_cons, List.length_nil, Nat.reduceAdd, Nat.reduceSub, numb]
    repeat' (first | ((first | apply o_do | apply d_do | apply d_yes rfl rfl rfl); first | exact lsc (h1) | exact lsc (h2) | exact lsq) | refine a_seq ?_ | refine a_region ?_ | refine o_nil ?_ | refine a_block ?_ | refine a_ret ?_ | refine a_exit ?_ | refine a_skip ?_ | refine a_draw mixed ?_ | refine d_nil (by kernel_rfl) ?_ | refine o_yes rfl rfl rfl ?_ | refine o_no rfl rfl rfl (by decide) ?_ | refine o_no' rfl rfl rfl ?_ | refine a_condT rfl ?_ | refine a_condF rfl ?_ | refine d_no rfl rfl rfl (by decide) ?_ | refine d_no' rfl rfl rfl ?_ | (refine wq2 (fun hb => ?_) (fun hb => ?_) <;> (simp only [hb]; try simp only [hbs, ne_eq] at hb; try (exfalso; first | omega | exact hb trivial))) | fail)
    all_goals refine rq rfl ?_
    all_goals exact fnq
/-! windows -/
structure Wn where
  lo : Int
  hi : Int
def Wn.av (x : Wn) : List AV := [.v (.int .i64 x.lo), .v (.int .i64 x.hi)]
def Wn.cells (x : Wn) : List Value := [.int .i64 x.lo, .int .i64 x.hi]
/-- the window of a size that begins at so many slides -/
def winK (size slide : Int) (k : Int) : Wn := ⟨k * slide, addT (k * slide) size⟩
/-- the first one, and the last one, that hold a time -/
def firstK (size slide t : Int) : Int := max 0 ((t - size) / slide + 1)
def lastK (slide t : Int) : Int := t / slide
def cntK (size slide t : Int) : Nat := (lastK slide t + 1 - firstK size slide t).toNat
def okT (size slide t : Int) : Bool := winB size slide && (decide (0 ≤ t) && decide (t < 1099511627776))
def winL (size slide t : Int) : List Wn := if okT size slide t then (List.range (cntK size slide t)).map (fun i : Nat => winK size slide (firstK size slide t + (i : Int))) else []
/-- the last ones first -/
def upto (size slide t : Int) (n : Nat) : List Wn := (List.range n).map (fun i : Nat => winK size slide (lastK slide t - (i : Int)))
theorem upto_succ (size slide t : Int) (n : Nat) : upto size slide t (n + 1) = upto size slide t n ++ [winK size slide (lastK slide t - (n : Int))] := by
  simp [upto, List.range_succ]
section
variable {size slide t : Int}
theorem winB_iff : winB size slide = true ↔ 1 ≤ slide ∧ slide ≤ size ∧ size ≤ 1048576 ∧ size ≤ 16 * slide := by
  simp [winB, and_assoc]
theorem okT_iff : okT size slide t = true ↔ (1 ≤ slide ∧ slide ≤ size ∧ size ≤ 1048576 ∧ size ≤ 16 * slide) ∧ 0 ≤ t ∧ t < 1099511627776 := by
  rw [okT, Bool.and_eq_true, winB_iff]; simp
/-- a window that begins at k slides is one of those -/
theorem first_iff (h : 1 ≤ slide) (k : Int) : firstK size slide t ≤ k ↔ 0 ≤ k ∧ t - size < k * slide := by
  unfold firstK
  have h1 : (t - size) / slide + 1 ≤ k ↔ t - size < k * slide := by
    rw [Int.add_one_le_iff, Int.ediv_lt_iff_lt_mul (by omega)]
  omega
theorem last_iff (h : 1 ≤ slide) (k : Int) : k ≤ lastK slide t ↔ k * slide ≤ t := by
  unfold lastK
  rw [Int.le_ediv_iff_mul_le (by omega)]
theorem last_nonneg (h : 1 ≤ slide) (ht : 0 ≤ t) : 0 ≤ lastK slide t := Int.ediv_nonneg ht (by omega)
theorem first_le_last (h : okT size slide t = true) : firstK size slide t ≤ lastK slide t := by
  obtain ⟨⟨h1, h2, h3, h4⟩, h5, h6⟩ := okT_iff.1 h
  rw [first_iff h1]
  refine ⟨last_nonneg h1 h5, ?_⟩
  have := Int.lt_ediv_add_one_mul_self t (show 0 < slide by omega)
  unfold lastK
  rw [Int.add_mul] at this
  omega
theorem cntK_eq (h : okT size slide t = true) : (cntK size slide t : Int) = lastK slide t + 1 - firstK size slide t := by
  have := first_le_last h
  unfold cntK
  omega
theorem cntK_le (h : okT size slide t = true) : cntK size slide t ≤ 16 := by
  obtain ⟨⟨h1, h2, h3, h4⟩, h5, h6⟩ := okT_iff.1 h
  have h7 := cntK_eq h
  have h8 := first_le_last h
  have h9 := (first_iff (size := size) (t := t) h1 (firstK size slide t)).1 (Int.le_refl _)
  have h10 := (last_iff (t := t) h1 (lastK slide t)).1 (Int.le_refl _)
  have h11 : (lastK slide t - firstK size slide t) * slide < 16 * slide := by rw [Int.sub_mul]; omega
  have h12 := Int.lt_of_mul_lt_mul_right h11 (show 0 ≤ slide by omega)
  omega
theorem floor_eq (h : okT size slide t = true) : floorT t slide = lastK slide t * slide := by
  obtain ⟨⟨h1, h2, h3, h4⟩, h5, h6⟩ := okT_iff.1 h
  unfold floorT lastK
  rw [if_neg (by omega), clampT_id ⟨by omega, by omega⟩, Int.tmod_eq_emod_of_nonneg h5]
  rw [Int.emod_def, Int.mul_comm (t / slide) slide]
  omega
theorem upto_rev (h : okT size slide t = true) : (upto size slide t (cntK size slide t)).reverse = winL size slide t := by
  have hc := cntK_eq h
  unfold upto winL
  rw [if_pos h, ← List.map_reverse]
  apply List.ext_getElem
  · simp
  · intro i h1 h2
    simp only [List.length_map, List.length_reverse, List.length_range] at h1
    simp only [List.getElem_map, List.getElem_reverse, List.getElem_range, List.length_range]
    congr 1
    omega
end
end Go.Proofs.YtagfjnjpgphnjaaGreat
namespace Go.Proofs.YtagfjnjpgphnjaaGreat
open Go.RowKit
set_option linter.unusedSimpArgs false
set_option linter.unusedVariables false
def grR (no mark : Int) (ps : List Pn) : Bool := decide (0 ≤ no) && (decide (no < 32) && (decide (0 ≤ mark) && (decide (mark ≤ 1099511627776) && (rightL ps && ps.all fun p => decide (mark < p.hi)))))
def closed (mark : Int) (p : Pn) : Bool := decide (p.hi ≤ mark)
theorem ok_wRight : CallOK Tryz.prog 81 := ⟨_, Tryz.func81, by kernel_rfl, rfl⟩
theorem ok_rwRight : CallOK Tryz.prog 160 := ⟨_, Tryz.func160, by kernel_rfl, rfl⟩
theorem p_wRight (s d : Int) : PC Tryz.prog 81 [.v (.int .i64 s), .v (.int .i64 d)] (.v (.bool (winB s d))) :=
  pc_of_calls (xs := [.int .i64 s, .int .i64 d]) ok_wRight (fun w => (window_Right s d w).mono fun e w' ⟨h1, h2⟩ => ⟨h1, by rw [← h2]; exact Below.refl _ _⟩) rfl
theorem p_rwRight (s d : Int) : PC Tryz.prog 160 [.v (.int .i64 s), .v (.int .i64 d)] (.v (.bool (winB s d))) :=
  pc_of_calls (xs := [.int .i64 s, .int .i64 d]) ok_rwRight (fun w => (ref05_Right s d w).mono fun e w' ⟨h1, h2⟩ => ⟨h1, by rw [← h2]; exact Below.refl _ _⟩) rfl
def jobR (s d k : Int) : Bool := winB s d && fRight k
theorem g_rJob (g s d k fu li de id : Int) : PC Tryz.prog 107 [.agg [.v (.int .i64 g), .v (.int .i64 s), .v (.int .i64 d), .v (.int .i64 k), .v (.int .i64 fu), .v (.int .i64 li), .v (.int .i64 de), .v (.int .i64 id)]] (.v (.bool (jobR s d k))) := by
  refine PC.mk (ac_body tab_ok Tryz.func107 rfl (by kernel_rfl) rfl ?_); intro w0 M μ0; simp only [Tryz.ntmps107, List.length_cons, List.length_nil, Nat.reduceAdd, Nat.reduceSub, numb]
  repeat' (first | ((first | apply o_do | apply d_do | apply d_yes rfl rfl rfl); first | exact lsc ((p_rwRight _ _)) | exact lsc ((p_rFold _)) | exact lsq) | refine a_seq ?_ | refine a_region ?_ | refine o_nil ?_ | refine a_block ?_ | refine a_ret ?_ | refine a_exit ?_ | refine a_skip ?_ | refine a_draw mixed ?_ | refine d_nil (by kernel_rfl) ?_ | refine o_yes rfl rfl rfl ?_ | refine o_no rfl rfl rfl (by decide) ?_ | refine o_no' rfl rfl rfl ?_ | refine a_condT rfl ?_ | refine a_condF rfl ?_ | refine d_no rfl rfl rfl (by decide) ?_ | refine d_no' rfl rfl rfl ?_ | (refine wq2 (fun hb => ?_) (fun hb => ?_) <;> (simp only [hb]; try simp only [hbs, ne_eq] at hb; try (exfalso; first | omega | exact hb trivial))) | fail)
  all_goals refine rq rfl ?_
  all_goals (first | refine FinA.tup ?_ | refine FinA.one ?_); repeat' (first | exact FinBs.nil | exact FinCs.nil | refine FinBs.cons ?_ ?_ | refine FinCs.cons ?_ ?_ | refine FinB.cell (FinC.v ?_) | refine FinB.cell (FinC.own rfl rfl rfl ?_) | exact FinB.cell FinC.nil | refine FinB.cell (FinC.sl ?_) | exact FinB.agg' rfl rfl | exact FinB.cell (FinC.same rfl) | refine FinB.agg ?_ | refine FinC.v ?_ | refine FinC.own rfl rfl rfl ?_ | exact FinC.nil | refine FinC.sl ?_ | exact FinC.same rfl); all_goals try rfl
  all_goals simp [jobR, *]
end Go.Proofs.YtagfjnjpgphnjaaGreat
