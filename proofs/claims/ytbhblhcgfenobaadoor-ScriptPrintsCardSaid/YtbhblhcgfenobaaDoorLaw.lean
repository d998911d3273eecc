/-
  The last step of a law's row, over whatever program: the call returned true and nothing that was there has turned. No condition.
-/
import Derived.Test.YtbhblhcgfenobaaDoorLib
import Derived.ProofKit
import Derived.OpenShut
import Derived.JoinedCond
import Derived.Carry
import Derived.Deep.Slices
import GoSem.Claim
import GoSem.ClaimJoined
namespace Go.Proofs.YtbhblhcgfenobaaDoor
open Go.RowKit Go.WideShapes Go.ChangeShapes Go.ChangeAt
set_option linter.unusedVariables false

section
variable {H : Type} {enc : TypeId × Value → H} {P : Program}
theorem cell_lt {w : World} {b o : Nat} {u : Value} (h : w.cell? ⟨b, o, none⟩ = some u) : b < w.heap.size := by
  rcases Nat.lt_or_ge b w.heap.size with h1 | h1
  · exact h1
  · simp [World.cell?, Array.getElem?_eq_none h1] at h

/-- A field of a struct that is read. -/
theorem rd_field {w : World} {base : Nat} {spare : Nat → Bool} {held : Bool} {t : TypeId} {fs : Array Field} {fuel : Nat} {cs : List Value} {x : DataW H × List MemPlace} (ht : P.underlying t = some (.struct fs))
    (h : DataW.trod enc P w base spare held fuel t cs = some x) (i : Nat) (f : Field) (hi : fs[i]? = some f) :
    ∃ n y, DataW.trod enc P w base spare held n f.type ((cs.drop f.offset).take (P.cellsOf f.type)) = some y := by
  obtain ⟨xs, n, _, _, _, hl, hf⟩ := DataW.trod_struct ht h
  have hlt : i < xs.length := by rw [hl]; exact (Array.getElem?_eq_some_iff.1 hi).1
  exact ⟨n, xs[i], (hf i f hi).trans (List.getElem?_eq_getElem hlt)⟩
theorem rd_len {w : World} {base : Nat} {spare : Nat → Bool} {held : Bool} {t : TypeId} {fs : Array Field} {fuel : Nat} {cs : List Value} {x : DataW H × List MemPlace} (ht : P.underlying t = some (.struct fs))
    (h : DataW.trod enc P w base spare held fuel t cs = some x) : cs.length = P.cellsOf t := by
  obtain ⟨xs, n, _, _, hl, _, _⟩ := DataW.trod_struct ht h
  exact hl
/-- A struct by value. -/
theorem open_struct_arg {w : World} {b0 : Nat} {base : Nat} {spare : Nat → Bool} {held : Bool} {t : TypeId} {fs : Array Field} {v : Value} {d : DataW H} {ps : List MemPlace} (ht : P.underlying t = some (.struct fs))
    (hv : Value.okWide P w .any b0 t v) (h : DataW.Trod enc P w base spare held t v d ps) : ∃ cs : List Value, v = .agg cs.toArray ∧ ∃ fuel x, DataW.trod enc P w base spare held fuel t cs = some x := by
  obtain ⟨cs, rfl, _⟩ := okWide_struct ht hv
  obtain ⟨fuel, hf⟩ := h
  exact ⟨cs.toList, by simp, fuel, _, hf⟩
theorem len3 {α} {l : List α} (h : l.length = 3) : ∃ a b c, l = [a, b, c] := by
  match l, h with
  | [a, b, c], _ => exact ⟨a, b, c, rfl⟩

/-- A slice that is read, element by element: 'cells x' are the cells of an element that stands for x. -/
theorem open_rows {α : Type} {w : World} {t e : TypeId} {size fuel : Nat} {cs : List Value} {x : DataW H × List MemPlace} (cells : α → List Value) (Ok : α → Prop) (ht : P.underlying t = some (.slice e)) (hC : P.cellsOf e = size) (hsz : 0 < size)
    (hel : ∀ (n : Nat) (cs : List Value) (y : DataW H × List MemPlace), cs.length = size → DataW.trod enc P w 0 (fun _ => true) true n e cs = some y → ∃ x, cs = cells x ∧ Ok x)
    (h : DataW.trod enc P w 0 (fun _ => true) true fuel t cs = some x) :
    ∃ (A : Option Addr) (n c : Nat) (xs : List α), cs = [.slice A n c] ∧ n ≤ c ∧ c ≤ 9223372036854775807 ∧ n = xs.length ∧ Reads w w.heap.size size A n (xs.flatMap cells) ∧ ∀ x ∈ xs, Ok x := by
  rcases Go.Deep.open_slice ht h with ⟨rfl, _⟩ | ⟨a, n, c, m, fu, D, Pl, rfl, _, hnc, hcm, hm, _, hx⟩
  · exact ⟨none, 0, 0, [], rfl, Nat.le_refl _, by omega, rfl, Reads.none_, by simp⟩
  · subst hC
    have hm' : m = c := by simpa using hm
    subst hm'
    have key : ∀ k, k ≤ n → ∃ xs : List α, xs.length = k ∧ (xs.flatMap cells).length = k * P.cellsOf e ∧ (∀ j u, (xs.flatMap cells)[j]? = some u → w.cell? (a.add j) = some u) ∧ ∀ x ∈ xs, Ok x := by
      intro k
      induction k with
      | zero => intro _; exact ⟨[], rfl, by simp, by simp, by simp⟩
      | succ k ih =>
        intro hk
        obtain ⟨xs, h1, h2, h3, h4⟩ := ih (by omega)
        obtain ⟨cs', hc', ht'⟩ := hx k (by omega)
        obtain ⟨_, hl, hat⟩ := World.cells?_some hc'
        obtain ⟨x, rfl, hok⟩ := hel _ _ _ hl ht'
        refine ⟨xs ++ [x], by simp [h1], by simp [h2, hl, Nat.add_mul], ?_, ?_⟩
        · intro j u hu
          simp only [List.flatMap_append, List.flatMap_cons, List.flatMap_nil, List.append_nil] at hu
          rcases Nat.lt_or_ge j (k * P.cellsOf e) with hj | hj
          · rw [List.getElem?_append_left (by omega)] at hu
            exact h3 j u hu
          · rw [List.getElem?_append_right (by omega), h2] at hu
            have hj2 : j - k * P.cellsOf e < P.cellsOf e := by
              have h6 := (List.getElem?_eq_some_iff.1 hu).1
              rw [hl] at h6
              exact h6
            have h5 := hat _ hj2
            rw [hu, Go.Deep.add_add] at h5
            rw [← h5]
            congr 2
            omega
        · intro y hy
          simp only [List.mem_append, List.mem_singleton] at hy
          rcases hy with hy | rfl
          · exact h4 y hy
          · exact hok
    obtain ⟨xs, h1, h2, h3, h4⟩ := key n (Nat.le_refl _)
    refine ⟨some a, n, m, xs, rfl, hnc, by simpa [maxLen] using hcm, h1.symm, ⟨h2, fun hn => ?_⟩, h4⟩
    have hpos : 0 < (xs.flatMap cells).length := by rw [h2]; exact Nat.mul_pos hn hsz
    have h0 := h3 0 _ (List.getElem?_eq_getElem hpos)
    obtain ⟨b, off, spot⟩ := a
    have hspot : spot = none := by simpa [Addr.add] using World.cell?_spot h0
    subst hspot
    refine ⟨b, off, rfl, ?_, fun j u hu => ?_⟩
    · exact cell_lt (o := off) (by simpa [Addr.add] using h0)
    · rw [← Go.WideShapes.add_plain]; exact h3 j u hu

/-- What a slice's datum looks like. -/
theorem rows_shape {w : World} {t e : TypeId} {fuel : Nat} {A : Option Addr} {n c : Nat} {x : DataW H × List MemPlace} (ht : P.underlying t = some (.slice e)) (h : DataW.trod enc P w 0 (fun _ => true) true fuel t [.slice A n c] = some x) :
    (x.1 = .nil ∧ n = 0 ∧ c = 0) ∨ ∃ el sp, x.1 = .slice el sp ∧ el.length = n ∧ n + sp.length = c := by
  rcases Go.Deep.open_slice ht h with ⟨h1, rfl⟩ | ⟨a, n', c', m, fu, D, Pl, h1, _, hnc, hcm, hm, rfl, hx⟩
  · simp only [List.cons.injEq, Value.slice.injEq, and_true] at h1
    exact .inl ⟨rfl, h1.2.1, h1.2.2⟩
  · simp only [List.cons.injEq, Value.slice.injEq, and_true] at h1
    obtain ⟨_, rfl, rfl⟩ := h1
    have hm' : m = c := by simpa using hm
    subst hm'
    refine .inr ⟨_, _, rfl, by simp, by simp; omega⟩

/-- A slice argument. -/
theorem open_rows_arg {α : Type} {w : World} {b0 : Nat} {t e : TypeId} {size : Nat} {v : Value} {d : DataW H} {ps : List MemPlace} (cells : α → List Value) (Ok : α → Prop) (ht : P.underlying t = some (.slice e)) (hC : P.cellsOf e = size) (hsz : 0 < size)
    (hel : ∀ (n : Nat) (cs : List Value) (y : DataW H × List MemPlace), cs.length = size → DataW.trod enc P w 0 (fun _ => true) true n e cs = some y → ∃ x, cs = cells x ∧ Ok x)
    (hv : Value.okWide P w .any b0 t v) (h : DataW.Trod enc P w 0 (fun _ => true) true t v d ps) :
    ∃ (A : Option Addr) (n c : Nat) (xs : List α), v = .slice A n c ∧ n ≤ c ∧ c ≤ 9223372036854775807 ∧ n = xs.length ∧ Reads w w.heap.size size A n (xs.flatMap cells) ∧ ∀ x ∈ xs, Ok x := by
  obtain ⟨a, l, c, rfl⟩ := okWide_slice ht hv
  obtain ⟨fuel, hf⟩ := h
  obtain ⟨A, n, c', xs, hcs, r⟩ := open_rows cells Ok ht hC hsz hel hf
  simp only [Value.cells, List.cons.injEq, and_true] at hcs
  exact ⟨A, n, c', xs, hcs, r⟩

theorem wf_i64 {x : Int} (h : (Lit.int .i64 x).wf = true) : -9223372036854775808 ≤ x ∧ x ≤ 9223372036854775807 := by
  simpa [Lit.wf, IntKind.min, IntKind.max, IntKind.signed, IntKind.bits] using h
/-- An element that is an int64. -/
theorem el_i64 {w : World} {e : TypeId} (he : P.underlying e = some (.int .i64)) : ∀ (n : Nat) (cs : List Value) (y : DataW H × List MemPlace), cs.length = 1 → DataW.trod enc P w 0 (fun _ => true) true n e cs = some y →
    ∃ x : Int, cs = [Value.int .i64 x] ∧ (-9223372036854775808 ≤ x ∧ x ≤ 9223372036854775807) := by
  intro n cs y _ h
  obtain ⟨x, rfl, _, hw⟩ := DataW.trod_int he h
  exact ⟨x, rfl, wf_i64 hw⟩

theorem trodAll_below (hl : laidOutB P = true) {W W' : World} (hb : Below W.heap.size W W') :
    ∀ {ts : List TypeId} {vs : List Value} {ds : List (DataW H)} {ps : List MemPlace}, (∀ t ∈ ts, P.readableRec t = true ∧ t < P.types.size) →
      DataW.TrodAll enc P W 0 (fun _ => true) true ts vs ds ps → (∀ x ∈ ps, x.block < W.heap.size) →
      DataW.TrodAll enc P W' 0 (fun b => decide (b < W.heap.size)) true ts vs ds ps := by
  intro ts
  induction ts with
  | nil =>
    intro vs ds ps _ h _
    obtain ⟨rfl, rfl, rfl⟩ := trodAll_nil h
    exact trodAll_mk0
  | cons t ts ih =>
    intro vs ds ps hts h hlt
    obtain ⟨v, vs', d, ds', p, q, rfl, rfl, rfl, h0, h1⟩ := trodAll_cons h
    have ht := hts t (by simp)
    exact trodAll_cons_mk (hb.trod hl ht.1 ht.2 h0 (fun x hx => hlt x (by simp [hx]))) (ih (fun t h => hts t (by simp [h])) h1 (fun x hx => hlt x (by simp [hx])))

theorem rd_of {ts : List TypeId} (h : (ts.all fun t => P.readableRec t && decide (t < P.types.size)) = true) : ∀ t ∈ ts, P.readableRec t = true ∧ t < P.types.size := by
  intro t ht
  have := List.all_eq_true.1 h t ht
  simpa using this

theorem post_law {f : Func} {s : ChangeSpec} {W W' : World} {args : Array Value} {ds gs : List (DataW H)} {before : List MemPlace} {tb : TypeId}
    (hl : laidOutB P = true) (hrd : ∀ t ∈ f.params.toList, P.readableRec t = true ∧ t < P.types.size) (hv : s.vars = []) (hres : f.resultTypes = #[tb]) (htb : P.underlying tb = some .bool)
    (hW : DataW.Whole enc P f.params.toList s.vars false W args.toList ds gs before)
    (hs : s.fn H (ds ++ gs) = { results := [.lit (.bool true)], args := ds })
    (hb : Below W.heap.size W W') : s.post enc P f false true false false W args (.bool true) W' := by
  have hlt : ∀ p ∈ before, p.block < W.heap.size := fun p hp => hW.lt p hp
  have hW0 := hW
  obtain ⟨p, q, hA, hV, rfl, hz, hn⟩ := hW0
  refine ⟨ds, gs, p ++ q, [], p, [], hW, ?_, ?_, ?_, hb.frame _, fun h => by cases h⟩
  · rw [hs, hres]
    exact trodAll_cons_mk (shut_bool htb true) trodAll_mk0
  · rw [hs]
    exact trodAll_below hl hb hrd hA (fun x hx => hlt x (by simp [hx]))
  · rw [hs, hv]
    rfl
end
end Go.Proofs.YtbhblhcgfenobaaDoor
