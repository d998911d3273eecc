/-
  The last step of a law's row, over whatever program: the call returned true and nothing that was there has turned. No condition.
  How the arguments of the laws of panes, groups and the model read.
    How events read.
  Walks over abstract values: a method's value (a function with a bound receiver) called; a nil check; a shift by one. Over whatever program. No condition.
  Times and windows, walked over abstract values: sums and floors of times; which windows hold one.
  Events that go round, and times taken back, walked over abstract values.
    Events that go round, walked over abstract values: how they leave; which jobs and inputs may be.
    A source on its way, walked over abstract values: which events are late, and how they leave.
  Groups, walked over abstract values: which may be; time that goes on.
-/
import Derived.ProofKit
import Derived.OpenShut
import Derived.JoinedCond
import Derived.Carry
import Derived.Deep.Slices
import GoSem.Claim
import GoSem.ClaimJoined
import Derived.Laws.CopyRow
import Derived.Test.YtlgbadlgfdlheaaR1
import Derived.Test.YtlgbadlgfdlheaaR3
import Derived.Test.YtlgbadlgfdlheaaR4
set_option linter.unusedSimpArgs false
set_option linter.unusedVariables false
set_option maxHeartbeats 20000000
namespace Go.Proofs.Ytlgbadlgfdlheaa
open Go.RowKit Go.WideShapes Go.ChangeShapes Go.ChangeAt

section
variable {H : Type} {enc : TypeId × Value → H} {P : Program}
theorem cell_lt {w : World} {b o : Nat} {u : Value} (h : w.cell? ⟨b, o, none⟩ = some u) : b < w.heap.size := by
 rcases Nat.lt_or_ge b w.heap.size with h1 | h1
 ·exact h1
 ·simp [World.cell?, Array.getElem?_eq_none h1] at h

theorem rd_field {w : World} {base : Nat} {spare : Nat → Bool} {held : Bool} {t : TypeId} {fs : Array Field} {fuel : Nat} {cs : List Value} {x : DataW H × List MemPlace} (ht : P.underlying t = some (.struct fs))
  (h : DataW.trod enc P w base spare held fuel t cs = some x) (i : Nat) (f : Field) (hi : fs[i]? = some f) :
  ∃ n y, DataW.trod enc P w base spare held n f.type ((cs.drop f.offset).take (P.cellsOf f.type)) = some y := by
 obtain ⟨xs, n, _, _, _, hl, hf⟩ := DataW.trod_struct ht h
 have hlt : i < xs.length := by rw [hl]; exact (Array.getElem?_eq_some_iff.1 hi).1
 exact ⟨n, xs[i], (hf i f hi).trans (List.getElem?_eq_getElem hlt)⟩
theorem rd_len {w : World} {base : Nat} {spare : Nat → Bool} {held : Bool} {t : TypeId} {fs : Array Field} {fuel : Nat} {cs : List Value} {x : DataW H × List MemPlace} (ht : P.underlying t = some (.struct fs))
  (h : DataW.trod enc P w base spare held fuel t cs = some x) : cs.length = P.cellsOf t := by
 obtain ⟨xs, n, _, _, hl, _, _⟩ := DataW.trod_struct ht h
 exact hl
theorem open_struct_arg {w : World} {b0 : Nat} {base : Nat} {spare : Nat → Bool} {held : Bool} {t : TypeId} {fs : Array Field} {v : Value} {d : DataW H} {ps : List MemPlace} (ht : P.underlying t = some (.struct fs))
  (hv : Value.okWide P w .any b0 t v) (h : DataW.Trod enc P w base spare held t v d ps) : ∃ cs : List Value, v = .agg cs.toArray ∧ ∃ fuel x, DataW.trod enc P w base spare held fuel t cs = some x := by
 obtain ⟨cs, rfl, _⟩ := okWide_struct ht hv
 obtain ⟨fuel, hf⟩ := h
 exact ⟨cs.toList, by simp, fuel, _, hf⟩
theorem open_rows {α : Type} {w : World} {t e : TypeId} {size fuel : Nat} {cs : List Value} {x : DataW H × List MemPlace} (cells : α → List Value) (Ok : α → Prop) (ht : P.underlying t = some (.slice e)) (hC : P.cellsOf e = size) (hsz : 0 < size)
  (hel : ∀ (n : Nat) (cs : List Value) (y : DataW H × List MemPlace), cs.length = size → DataW.trod enc P w 0 (fun _ => true) true n e cs = some y → ∃ x, cs = cells x ∧ Ok x)
  (h : DataW.trod enc P w 0 (fun _ => true) true fuel t cs = some x) :
  ∃ (A : Option Addr) (n c : Nat) (xs : List α), cs = [.slice A n c] ∧ n ≤ c ∧ c ≤ 9223372036854775807 ∧ n = xs.length ∧ Reads w w.heap.size size A n (xs.flatMap cells) ∧ ∀ x ∈ xs, Ok x := by
 rcases Go.Deep.open_slice ht h with ⟨rfl, _⟩ | ⟨a, n, c, m, fu, D, Pl, rfl, _, hnc, hcm, hm, _, hx⟩
 ·exact ⟨none, 0, 0, [], rfl, Nat.le_refl _, by omega, rfl, Reads.none_, by simp⟩
 ·subst hC
  have hm' : m = c := by simpa using hm
  subst hm'
  have key : ∀ k, k ≤ n → ∃ xs : List α, xs.length = k ∧ (xs.flatMap cells).length = k * P.cellsOf e ∧ (∀ j u, (xs.flatMap cells)[j]? = some u → w.cell? (a.add j) = some u) ∧ ∀ x ∈ xs, Ok x := by
   intro k
   induction k with
   | zero => intro _; exact ⟨[], rfl, by simp, by simp, by simp⟩
   | succ k ih =>
    intro hk
    obtain ⟨xs, h1, h2, h3, h4⟩ := ih (by omega)
    obtain ⟨cs', hc', ht'⟩ := hx k (by omega)
    obtain ⟨_, hl, hat⟩ := World.cells?_some hc'
    obtain ⟨x, rfl, hok⟩ := hel _ _ _ hl ht'
    refine ⟨xs ++ [x], by simp [h1], by simp [h2, hl, Nat.add_mul], ?_, ?_⟩
    ·intro j u hu
     simp only [List.flatMap_append, List.flatMap_cons, List.flatMap_nil, List.append_nil] at hu
     rcases Nat.lt_or_ge j (k * P.cellsOf e) with hj | hj
     ·rw [List.getElem?_append_left (by omega)] at hu
      exact h3 j u hu
     ·rw [List.getElem?_append_right (by omega), h2] at hu
      have hj2 : j - k * P.cellsOf e < P.cellsOf e := by
       have h6 := (List.getElem?_eq_some_iff.1 hu).1
       rw [hl] at h6
       exact h6
      have h5 := hat _ hj2
      rw [hu, Go.Deep.add_add] at h5
      rw [← h5]
      congr 2
      omega
    ·intro y hy
     simp only [List.mem_append, List.mem_singleton] at hy
     rcases hy with hy | rfl
     ·exact h4 y hy
     ·exact hok
  obtain ⟨xs, h1, h2, h3, h4⟩ := key n (Nat.le_refl _)
  refine ⟨some a, n, m, xs, rfl, hnc, by simpa [maxLen] using hcm, h1.symm, ⟨h2, fun hn => ?_⟩, h4⟩
  have hpos : 0 < (xs.flatMap cells).length := by rw [h2]; exact Nat.mul_pos hn hsz
  have h0 := h3 0 _ (List.getElem?_eq_getElem hpos)
  obtain ⟨b, off, spot⟩ := a
  have hspot : spot = none := by simpa [Addr.add] using World.cell?_spot h0
  subst hspot
  refine ⟨b, off, rfl, ?_, fun j u hu => ?_⟩
  ·exact cell_lt (o := off) (by simpa [Addr.add] using h0)
  ·rw [← Go.WideShapes.add_plain]; exact h3 j u hu

theorem open_rows_arg {α : Type} {w : World} {b0 : Nat} {t e : TypeId} {size : Nat} {v : Value} {d : DataW H} {ps : List MemPlace} (cells : α → List Value) (Ok : α → Prop) (ht : P.underlying t = some (.slice e)) (hC : P.cellsOf e = size) (hsz : 0 < size)
  (hel : ∀ (n : Nat) (cs : List Value) (y : DataW H × List MemPlace), cs.length = size → DataW.trod enc P w 0 (fun _ => true) true n e cs = some y → ∃ x, cs = cells x ∧ Ok x)
  (hv : Value.okWide P w .any b0 t v) (h : DataW.Trod enc P w 0 (fun _ => true) true t v d ps) :
  ∃ (A : Option Addr) (n c : Nat) (xs : List α), v = .slice A n c ∧ n ≤ c ∧ c ≤ 9223372036854775807 ∧ n = xs.length ∧ Reads w w.heap.size size A n (xs.flatMap cells) ∧ ∀ x ∈ xs, Ok x := by
 obtain ⟨a, l, c, rfl⟩ := okWide_slice ht hv
 obtain ⟨fuel, hf⟩ := h
 obtain ⟨A, n, c', xs, hcs, r⟩ := open_rows cells Ok ht hC hsz hel hf
 simp only [Value.cells, List.cons.injEq, and_true] at hcs
 exact ⟨A, n, c', xs, hcs, r⟩

theorem wf_i64 {x : Int} (h : (Lit.int .i64 x).wf = true) : -9223372036854775808 ≤ x ∧ x ≤ 9223372036854775807 := by
 simpa [Lit.wf, IntKind.min, IntKind.max, IntKind.signed, IntKind.bits] using h
theorem trodAll_below (hl : laidOutB P = true) {W W' : World} (hb : Below W.heap.size W W') :
  ∀ {ts : List TypeId} {vs : List Value} {ds : List (DataW H)} {ps : List MemPlace}, (∀ t ∈ ts, P.readableRec t = true ∧ t < P.types.size) →
   DataW.TrodAll enc P W 0 (fun _ => true) true ts vs ds ps → (∀ x ∈ ps, x.block < W.heap.size) →
   DataW.TrodAll enc P W' 0 (fun b => decide (b < W.heap.size)) true ts vs ds ps := by
 intro ts
 induction ts with
 | nil =>
  intro vs ds ps _ h _
  obtain ⟨rfl, rfl, rfl⟩ := trodAll_nil h
  exact trodAll_mk0
 | cons t ts ih =>
  intro vs ds ps hts h hlt
  obtain ⟨v, vs', d, ds', p, q, rfl, rfl, rfl, h0, h1⟩ := trodAll_cons h
  have ht := hts t (by simp)
  exact trodAll_cons_mk (hb.trod hl ht.1 ht.2 h0 (fun x hx => hlt x (by simp [hx]))) (ih (fun t h => hts t (by simp [h])) h1 (fun x hx => hlt x (by simp [hx])))

theorem rd_of {ts : List TypeId} (h : (ts.all fun t => P.readableRec t && decide (t < P.types.size)) = true) : ∀ t ∈ ts, P.readableRec t = true ∧ t < P.types.size := by
 intro t ht
 have := List.all_eq_true.1 h t ht
 simpa using this

theorem post_law {f : Func} {s : ChangeSpec} {W W' : World} {args : Array Value} {ds gs : List (DataW H)} {before : List MemPlace} {tb : TypeId}
  (hl : laidOutB P = true) (hrd : ∀ t ∈ f.params.toList, P.readableRec t = true ∧ t < P.types.size) (hv : s.vars = []) (hres : f.resultTypes = #[tb]) (htb : P.underlying tb = some .bool)
  (hW : DataW.Whole enc P f.params.toList s.vars false W args.toList ds gs before)
  (hs : s.fn H (ds ++ gs) = { results := [.lit (.bool true)], args := ds })
  (hb : Below W.heap.size W W') : s.post enc P f false true false false W args (.bool true) W' := by
 have hlt : ∀ p ∈ before, p.block < W.heap.size := fun p hp => hW.lt p hp
 have hW0 := hW
 obtain ⟨p, q, hA, hV, rfl, hz, hn⟩ := hW0
 refine ⟨ds, gs, p ++ q, [], p, [], hW, ?_, ?_, ?_, hb.frame _, fun h => by cases h⟩
 ·rw [hs, hres]
  exact trodAll_cons_mk (shut_bool htb true) trodAll_mk0
 ·rw [hs]
  exact trodAll_below hl hb hrd hA (fun x hx => hlt x (by simp [hx]))
 ·rw [hs, hv]
  rfl
end
end Go.Proofs.Ytlgbadlgfdlheaa
namespace Go.Proofs.Ytlgbadlgfdlheaa
open Go.RowKit Go.WideShapes Go.ChangeShapes Go.ChangeAt
theorem A_laidOut : laidOutB Try.prog = true := by kernel_rfl
theorem rd_Job {H : Type} {enc : TypeId × Value → H} {w : World} {base : Nat} {spare : Nat → Bool} {held : Bool} {fuel : Nat} {cs : List Value} {x : DataW H × List MemPlace} (h : DataW.trod enc Try.prog w base spare held fuel 23 cs = some x) :
  ∃ (g : Int) (s : Int) (d : Int) (k : Int) (fu : Int) (li : Int) (de : Int) (id : Int), cs = [.int .i64 g, .int .i64 s, .int .i64 d, .int .i64 k, .int .i64 fu, .int .i64 li, .int .i64 de, .int .i64 id] ∧ (-9223372036854775808 ≤ g ∧ g ≤ 9223372036854775807) ∧ (-9223372036854775808 ≤ s ∧ s ≤ 9223372036854775807) ∧ (-9223372036854775808 ≤ d ∧ d ≤ 9223372036854775807) ∧ (-9223372036854775808 ≤ k ∧ k ≤ 9223372036854775807) ∧ (-9223372036854775808 ≤ fu ∧ fu ≤ 9223372036854775807) ∧ (-9223372036854775808 ≤ li ∧ li ≤ 9223372036854775807) ∧ (-9223372036854775808 ≤ de ∧ de ≤ 9223372036854775807) ∧ (-9223372036854775808 ≤ id ∧ id ≤ 9223372036854775807) := by
 have hl := rd_len Try.underlying23 h
 have hl2 : cs.length = 8 := hl.trans (by kernel_rfl)
 obtain ⟨c0, c1, c2, c3, c4, c5, c6, c7, rfl⟩ : ∃ c0 c1 c2 c3 c4 c5 c6 c7, cs = [c0, c1, c2, c3, c4, c5, c6, c7] := by
  match cs, hl2 with
  | [c0, c1, c2, c3, c4, c5, c6, c7], _ => exact ⟨c0, c1, c2, c3, c4, c5, c6, c7, rfl⟩
 clear hl hl2
 have hc0 : Try.prog.cellsOf 3 = 1 := by kernel_rfl
 have hc1 : Try.prog.cellsOf 2 = 1 := by kernel_rfl
 obtain ⟨n0, y0, g0⟩ := rd_field Try.underlying23 h 0 _ rfl
 obtain ⟨x0, e0, _, w0⟩ := DataW.trod_int Try.underlying3 g0
 simp [hc0] at e0
 subst e0
 obtain ⟨n1, y1, g1⟩ := rd_field Try.underlying23 h 1 _ rfl
 obtain ⟨x1, e1, _, w1⟩ := DataW.trod_int Try.underlying2 g1
 simp [hc1] at e1
 subst e1
 obtain ⟨n2, y2, g2⟩ := rd_field Try.underlying23 h 2 _ rfl
 obtain ⟨x2, e2, _, w2⟩ := DataW.trod_int Try.underlying2 g2
 simp [hc1] at e2
 subst e2
 obtain ⟨n3, y3, g3⟩ := rd_field Try.underlying23 h 3 _ rfl
 obtain ⟨x3, e3, _, w3⟩ := DataW.trod_int Try.underlying3 g3
 simp [hc0] at e3
 subst e3
 obtain ⟨n4, y4, g4⟩ := rd_field Try.underlying23 h 4 _ rfl
 obtain ⟨x4, e4, _, w4⟩ := DataW.trod_int Try.underlying3 g4
 simp [hc0] at e4
 subst e4
 obtain ⟨n5, y5, g5⟩ := rd_field Try.underlying23 h 5 _ rfl
 obtain ⟨x5, e5, _, w5⟩ := DataW.trod_int Try.underlying2 g5
 simp [hc1] at e5
 subst e5
 obtain ⟨n6, y6, g6⟩ := rd_field Try.underlying23 h 6 _ rfl
 obtain ⟨x6, e6, _, w6⟩ := DataW.trod_int Try.underlying2 g6
 simp [hc1] at e6
 subst e6
 obtain ⟨n7, y7, g7⟩ := rd_field Try.underlying23 h 7 _ rfl
 obtain ⟨x7, e7, _, w7⟩ := DataW.trod_int Try.underlying3 g7
 simp [hc0] at e7
 subst e7
 exact ⟨x0, x1, x2, x3, x4, x5, x6, x7, rfl, wf_i64 w0, wf_i64 w1, wf_i64 w2, wf_i64 w3, wf_i64 w4, wf_i64 w5, wf_i64 w6, wf_i64 w7⟩
theorem rep_Job {w : World} {g s d k fu li de id : Int} : rep [] (fun _ => undef) w (fun _ => False) (.agg [.v (.int .i64 g), .v (.int .i64 s), .v (.int .i64 d), .v (.int .i64 k), .v (.int .i64 fu), .v (.int .i64 li), .v (.int .i64 de), .v (.int .i64 id)]) (.agg #[.int .i64 g, .int .i64 s, .int .i64 d, .int .i64 k, .int .i64 fu, .int .i64 li, .int .i64 de, .int .i64 id]) := by
 simp only [rep]
 exact ⟨_, rfl, repC_con (cs := [.int .i64 g, .int .i64 s, .int .i64 d, .int .i64 k, .int .i64 fu, .int .i64 li, .int .i64 de, .int .i64 id]) rfl⟩
end Go.Proofs.Ytlgbadlgfdlheaa
namespace Go.Proofs.Ytlgbadlgfdlheaa
open Go.RowKit Go.WideShapes Go.ChangeShapes Go.ChangeAt
theorem rd_Ev {H : Type} {enc : TypeId × Value → H} {w : World} {base : Nat} {spare : Nat → Bool} {held : Bool} {fuel : Nat} {cs : List Value} {x : DataW H × List MemPlace} (h : DataW.trod enc Try.prog w base spare held fuel 49 cs = some x) :
  ∃ (k : ByteArray) (a : Int) (v : Int), cs = [.string k, .int .i64 a, .int .i64 v] ∧ k.size ≤ maxLen ∧ (-9223372036854775808 ≤ a ∧ a ≤ 9223372036854775807) ∧ (-9223372036854775808 ≤ v ∧ v ≤ 9223372036854775807) := by
 have hl := rd_len Try.underlying49 h
 have hl2 : cs.length = 3 := hl.trans (by kernel_rfl)
 obtain ⟨c0, c1, c2, rfl⟩ : ∃ c0 c1 c2, cs = [c0, c1, c2] := by
  match cs, hl2 with
  | [c0, c1, c2], _ => exact ⟨c0, c1, c2, rfl⟩
 clear hl hl2
 have hc0 : Try.prog.cellsOf 9 = 1 := by kernel_rfl
 have hc1 : Try.prog.cellsOf 2 = 1 := by kernel_rfl
 obtain ⟨n0, y0, g0⟩ := rd_field Try.underlying49 h 0 _ rfl
 obtain ⟨x0, e0, _, w0⟩ := DataW.trod_string Try.underlying9 g0
 simp [hc0] at e0
 subst e0
 obtain ⟨n1, y1, g1⟩ := rd_field Try.underlying49 h 1 _ rfl
 obtain ⟨x1, e1, _, w1⟩ := DataW.trod_int Try.underlying2 g1
 simp [hc1] at e1
 subst e1
 obtain ⟨n2, y2, g2⟩ := rd_field Try.underlying49 h 2 _ rfl
 obtain ⟨x2, e2, _, w2⟩ := DataW.trod_int Try.underlying2 g2
 simp [hc1] at e2
 subst e2
 exact ⟨x0, x1, x2, rfl, w0, wf_i64 w1, wf_i64 w2⟩
end Go.Proofs.Ytlgbadlgfdlheaa
namespace Go.Proofs.Ytlgbadlgfdlheaa
open Go.RowKit
section
variable {P : Program} {T : List TyI} {Γ : Ctx} {s : ASt} {μ : Nat → Value} {w : World} {dst : Option Tmp} {ty : TypeId} {pos : String} {after : Array Edge}
theorem run_callB {f : FuncId} (h : CallOK P f) {c : Operand} {args : Array Operand} {argTypes : Array TypeId} {a : Act} {fs ks : List Value} (hc : a.eval c = .func (.func f) fs.toArray ks.toArray) : (execOp a.eval ⟨dst, .call { callee := .value c, args := args, argTypes := argTypes }, ty, pos, after, none⟩).run P w = .ok (.enter f (fs ++ args.toList.map a.eval ++ ks).toArray) w := by
 obtain ⟨fn, h1, h2, h3⟩ := h
 have h4 : args.map a.eval = (args.toList.map a.eval).toArray := by simp [← Array.toList_map]
 have h2' : ¬ fn.name = "runtime.NumGoroutine" := by simpa using h2
 have h3' : fn.body ≠ none := by
  intro h; rw [h] at h3; cases h3
 simp [execOp, resolve, hc, Deferred.ofValue, invoke, callFunc, h1, h2', h3', h4]
theorem Rel.calleeB {t : ASt} {a : Act} (hr : Rel Γ t μ a w) {c : Operand} {f : FuncId} {first caps : List AV} (h : Proofs.Ytlgbadlgfdlheaa.ev t c = some (.clo (.func f) first caps)) : ∃ fs ks : List Value, a.eval c = .func (.func f) fs.toArray ks.toArray ∧ repL t.σ μ w (av t.σ μ Γ.M) first fs ∧ repL t.σ μ w (av t.σ μ Γ.M) caps ks := by
 have h1 := hr.ev h
 simp only [rep] at h1
 obtain ⟨us, ks, h2, h3, h4⟩ := h1
 exact ⟨us, ks, h2, h3, h4⟩
theorem ls_callB {f : FuncId} {args : Array Operand} {argTypes : Array TypeId} {c : Operand} {first vs us caps : List AV} {r : AV} (h : PC P f us r) (hc : ev s c = some (.clo (.func f) first caps)) (hargs : evL s args.toList = some vs) (hn : NilL (first ++ vs ++ caps) us) (hp : us.all pureB = true) (hd : okDst Γ.n dst = true) :
  LS P Γ ⟨dst, .call { callee := .value c, args := args, argTypes := argTypes }, ty, pos, after, none⟩ s (rd c (rdL args.toList [])) (dst1 dst r) [] := by
 refine ⟨fun t ht Q μ a w hr K hK => ?_⟩
 obtain ⟨h0, ht⟩ := ht.ev hc
 obtain ⟨fs, ks, hks, hfs, h0⟩ := hr.calleeB h0
 obtain ⟨h1, _⟩ := ht.evL hr hargs
 have h2 := repL_pure (μ' := μ) (repL_nil hn (repL_append (repL_append hfs h1) h0)) hp
 have hM : ∀ b, av t.σ μ Γ.M b → b < w.heap.size := by
  intro b hb
  rcases hb with hb | ⟨id, o, h3, h4⟩
  ·exact hr.store.lt b hb
  ·exact ObjRel.lt hr.store h3 h4
 have hs0 : SRel [] μ w (av t.σ μ Γ.M) := ⟨fun _ _ h => by simp [find] at h, fun _ _ _ _ _ h => by simp [find] at h, hM, fun _ _ _ h => by simp [find] at h⟩
 have h3 := h.ac.2 w (av t.σ μ Γ.M) μ (fs ++ args.toList.map a.eval ++ ks) hs0 (by
  refine repL_mono (Step.same_world fun b hb hc => hb ?_) h2
  rcases hc with hc | ⟨_, _, hc, _⟩
  ·exact hc
  ·simp [find] at hc)
 unfold Oper.wp
 rw [run_callB h.ac.1 hks]
 refine Calls.mono h3 ?_
 rintro e w' ⟨y, μ', rfl, h4, h5, h6⟩
 have hb : Below w.heap.size w w' := ⟨h6.os, h6.tape, h6.output, h6.size, fun k hk => h6.same k hk (fun _ _ h => by simp [find] at h)⟩
 have hr2 := hr.world hb
 refine hK μ _ _ (hr2.put hd ?_)
 refine rep_mono (σ := []) (μ := μ') (A := av [] μ' (av t.σ μ Γ.M)) ⟨fun b hb _ => ⟨rfl, fun hc => hb (.inl hc)⟩, Nat.le_refl _, fun _ _ _ h => by simp [find] at h, fun _ _ _ _ h => by simp [find] at h, fun _ _ h => by simp [find] at h, fun _ h => by simp [find] at h⟩ h5
theorem ls_nilCheck {x : Operand} {id off : Nat} (hx : ev s x = some (.ref id off)) (hd : okDst Γ.n dst = true) :
  LS P Γ ⟨dst, .nilCheck x, ty, pos, after, none⟩ s (rd x []) (dst1 dst (.ref id off)) [] :=
 ls_pure hd fun t' ht μ a w hr => by
  obtain ⟨e1, ht⟩ := ht.ev hx
  have e1 := hr.ev e1
  simp only [rep] at e1 ⊢
  obtain ⟨t, cs, g, h1, h2, h3, h4⟩ := e1
  refine ⟨.pointer (some ⟨g, off, none⟩), ?_, t, cs, g, h1, h2, h3, rfl⟩
  simp [execOp, h4]
theorem ls_callAB {f : FuncId} {args : Array Operand} {argTypes : Array TypeId} {c : Operand} {first vs us caps : List AV} {r : AV} {σc σc' : Store} (l : List Nat) (b : Nat) (h : AC P f us σc r σc') (hc : ev s c = some (.clo (.func f) first caps)) (hargs : evL s args.toList = some vs) (hn : NilL (first ++ vs ++ caps) (us.map (renB (rho l b)))) (hcl : us.all (closB σc) = true)
  (hpass : Pass (rho l b) s σc) (hco : σc.all (fun p => closO σc p.2) = true) (hinj : injB (rho l b) (σc.map Prod.fst) = true) (hinj' : injB (rho l b) (σc'.map Prod.fst) = true)
  (hnew : σc'.all (fun p => has σc p.1 || !has s.σ (rho l b p.1)) = true) (hcr : closA σc' r = true) (hco' : σc'.all (fun p => closO σc' p.2) = true) (hd : okDst Γ.n dst = true) :
  LS P Γ ⟨dst, .call { callee := .value c, args := args, argTypes := argTypes }, ty, pos, after, none⟩ s (rd c (rdL args.toList (objs (rho l b) σc ++ (objs (rho l b) σc' ++ [])))) (dst1 dst (renA (rho l b) r)) (σc'.map fun p => (rho l b p.1, renO (rho l b) p.2)) := by
 refine ⟨fun t ht Q μ a w hr K hK => ?_⟩
 obtain ⟨h0, ht⟩ := ht.ev hc
 obtain ⟨fs, ks, hks, hfs, h0⟩ := hr.calleeB h0
 obtain ⟨h1, ht⟩ := ht.evL hr hargs
 obtain ⟨hp, hfr⟩ := pass_fresh ht hpass hnew
 exact call_core l b (fun M μ vs _ => h.out w M μ vs) hr (repL_append (repL_append hfs h1) h0) hn hcl hp hfr hco hinj hinj' hcr hco' hd (run_callB h.ok hks) hK
end
def clampT (x : Int) : Int := min (max x 0) 1099511627776
def addT (x y : Int) : Int := clampT (clampT x + clampT y)
def floorT (t s : Int) : Int := if s < 1 ∨ 1099511627776 < s then 0 else clampT t - (clampT t).tmod s
theorem clampT_range (x : Int) : 0 ≤ clampT x ∧ clampT x ≤ 1099511627776 := by unfold clampT; omega
theorem clampT_id {x : Int} (h : 0 ≤ x ∧ x ≤ 1099511627776) : clampT x = x := by unfold clampT; omega
theorem addT_eq {x y : Int} (h : 0 ≤ x) (h1 : x ≤ 1099511627776) (h2 : 0 ≤ y) (h3 : y ≤ 1099511627776) : addT x y = min (x + y) 1099511627776 := by unfold addT clampT; omega
theorem p_tat (x : Int) : PC Try.prog 53 [.v (.int .i64 x)] (.v (.int .i64 (clampT x))) := by
 refine PC.mk (ac_body tab_ok Try.func53 rfl (by kernel_rfl) rfl ?_); intro w0 M μ0; simp only [Try.ntmps53, List.length_cons, List.length_nil, Nat.reduceAdd, Nat.reduceSub, numb]
 repeat' (first | ((first | apply o_do | apply d_do | apply d_yes rfl rfl rfl); exact lsq) | refine a_seq ?_ | refine a_region ?_ | refine o_nil ?_ | refine a_block ?_ | refine a_ret ?_ | refine a_exit ?_ | refine a_skip ?_ | refine a_draw mixed ?_ | refine d_nil (by kernel_rfl) ?_ | refine o_yes rfl rfl rfl ?_ | refine o_no rfl rfl rfl (by decide) ?_ | refine o_no' rfl rfl rfl ?_ | refine a_condT rfl ?_ | refine a_condF rfl ?_ | refine d_no rfl rfl rfl (by decide) ?_ | refine d_no' rfl rfl rfl ?_ | (refine wq2 (fun hb => ?_) (fun hb => ?_) <;> (simp only [hb]; try simp only [hbs, ne_eq] at hb; try (exfalso; first | omega | exact hb trivial))) | fail)
 all_goals refine rq rfl ?_
 all_goals exact fnq
theorem p_plusT (x y : Int) (hx : 0 ≤ x ∧ x ≤ 1099511627776) (hy : 0 ≤ y ∧ y ≤ 1099511627776) : PC Try.prog 55 [.v (.int .i64 x), .v (.int .i64 y)] (.v (.int .i64 (clampT (x + y)))) := by
 have h := p_tat (x + y)
 refine PC.mk (ac_body tab_ok Try.func55 rfl (by kernel_rfl) rfl ?_); intro w0 M μ0; simp only [Try.ntmps55, List.length_cons, List.length_nil, Nat.reduceAdd, Nat.reduceSub, numb]
 repeat' (first | ((first | apply o_do | apply d_do | apply d_yes rfl rfl rfl); first | exact lsc (h) | exact lsq) | refine a_seq ?_ | refine a_region ?_ | refine o_nil ?_ | refine a_block ?_ | refine a_ret ?_ | refine a_exit ?_ | refine a_skip ?_ | refine a_draw mixed ?_ | refine d_nil (by kernel_rfl) ?_ | refine o_yes rfl rfl rfl ?_ | refine o_no rfl rfl rfl (by decide) ?_ | refine o_no' rfl rfl rfl ?_ | refine a_condT rfl ?_ | refine a_condF rfl ?_ | refine d_no rfl rfl rfl (by decide) ?_ | refine d_no' rfl rfl rfl ?_ | (refine wq2 (fun hb => ?_) (fun hb => ?_) <;> (simp only [hb]; try simp only [hbs, ne_eq] at hb; try (exfalso; first | omega | exact hb trivial))) | fail)
 all_goals refine rq rfl ?_
 all_goals exact fnq
theorem p_bothPlus (x y : Int) : PC Try.prog 39 [.v (.int .i64 x), .v (.int .i64 y), .clo (.func 55) [] []] (.v (.int .i64 (addT x y))) := by
 have h1 := p_tat x
 have h2 := p_tat y
 have h3 := p_plusT (clampT x) (clampT y) (clampT_range x) (clampT_range y)
 refine PC.mk (ac_body tab_ok Try.func39 rfl (by kernel_rfl) rfl ?_); intro w0 M μ0; simp only [Try.ntmps39, List.length_cons, List.length_nil, Nat.reduceAdd, Nat.reduceSub, numb]
 repeat' (first | ((first | apply o_do | apply d_do | apply d_yes rfl rfl rfl); first | exact lsc (h1) | exact lsc (h2) | exact lsc (h3) | exact lsq) | refine a_seq ?_ | refine a_region ?_ | refine o_nil ?_ | refine a_block ?_ | refine a_ret ?_ | refine a_exit ?_ | refine a_skip ?_ | refine a_draw mixed ?_ | refine d_nil (by kernel_rfl) ?_ | refine o_yes rfl rfl rfl ?_ | refine o_no rfl rfl rfl (by decide) ?_ | refine o_no' rfl rfl rfl ?_ | refine a_condT rfl ?_ | refine a_condF rfl ?_ | refine d_no rfl rfl rfl (by decide) ?_ | refine d_no' rfl rfl rfl ?_ | (refine wq2 (fun hb => ?_) (fun hb => ?_) <;> (simp only [hb]; try simp only [hbs, ne_eq] at hb; try (exfalso; first | omega | exact hb trivial))) | fail)
 all_goals refine rq rfl ?_
 all_goals exact fnq
theorem p_addT (x y : Int) : PC Try.prog 46 [.v (.int .i64 x), .v (.int .i64 y)] (.v (.int .i64 (addT x y))) := by
 have h := p_bothPlus x y
 refine PC.mk (ac_body tab_ok Try.func46 rfl (by kernel_rfl) rfl ?_); intro w0 M μ0; simp only [Try.ntmps46, List.length_cons, List.length_nil, Nat.reduceAdd, Nat.reduceSub, numb]
 repeat' (first | ((first | apply o_do | apply d_do | apply d_yes rfl rfl rfl); first | exact lsc (h) | exact lsq) | refine a_seq ?_ | refine a_region ?_ | refine o_nil ?_ | refine a_block ?_ | refine a_ret ?_ | refine a_exit ?_ | refine a_skip ?_ | refine a_draw mixed ?_ | refine d_nil (by kernel_rfl) ?_ | refine o_yes rfl rfl rfl ?_ | refine o_no rfl rfl rfl (by decide) ?_ | refine o_no' rfl rfl rfl ?_ | refine a_condT rfl ?_ | refine a_condF rfl ?_ | refine d_no rfl rfl rfl (by decide) ?_ | refine d_no' rfl rfl rfl ?_ | (refine wq2 (fun hb => ?_) (fun hb => ?_) <;> (simp only [hb]; try simp only [hbs, ne_eq] at hb; try (exfalso; first | omega | exact hb trivial))) | fail)
 all_goals refine rq rfl ?_
 all_goals exact fnq
theorem p_clamp (x : Int) : PC Try.prog 54 [.v (.int .i64 x)] (.v (.int .i64 (clampT x))) := by
 have h := p_tat x
 refine PC.mk (ac_body tab_ok Try.func54 rfl (by kernel_rfl) rfl ?_); intro w0 M μ0; simp only [Try.ntmps54, List.length_cons, List.length_nil, Nat.reduceAdd, Nat.reduceSub, numb]
 repeat' (first | ((first | apply o_do | apply d_do | apply d_yes rfl rfl rfl); first | exact lsc (h) | exact lsq) | refine a_seq ?_ | refine a_region ?_ | refine o_nil ?_ | refine a_block ?_ | refine a_ret ?_ | refine a_exit ?_ | refine a_skip ?_ | refine a_draw mixed ?_ | refine d_nil (by kernel_rfl) ?_ | refine o_yes rfl rfl rfl ?_ | refine o_no rfl rfl rfl (by decide) ?_ | refine o_no' rfl rfl rfl ?_ | refine a_condT rfl ?_ | refine a_condF rfl ?_ | refine d_no rfl rfl rfl (by decide) ?_ | refine d_no' rfl rfl rfl ?_ | (refine wq2 (fun hb => ?_) (fun hb => ?_) <;> (simp only [hb]; try simp only [hbs, ne_eq] at hb; try (exfalso; first | omega | exact hb trivial))) | fail)
 all_goals refine rq rfl ?_
 all_goals exact fnq
theorem p_floor (t s : Int) : PC Try.prog 45 [.v (.int .i64 t), .v (.int .i64 s)] (.v (.int .i64 (floorT t s))) := by
 have h := p_clamp t
 have hc := clampT_range t
 by_cases h1 : s < 1 ∨ 1099511627776 < s
 ·rw [floorT, if_pos h1]
  refine PC.mk (ac_body tab_ok Try.func45 rfl (by kernel_rfl) rfl ?_); intro w0 M μ0; simp only [Try.ntmps45, List.length_cons, List.length_nil, Nat.reduceAdd, Nat.reduceSub, numb]
  repeat' (first | ((first | apply o_do | apply d_do | apply d_yes rfl rfl rfl); first | exact lsc (h) | exact lsq) | refine a_seq ?_ | refine a_region ?_ | refine o_nil ?_ | refine a_block ?_ | refine a_ret ?_ | refine a_exit ?_ | refine a_skip ?_ | refine a_draw mixed ?_ | refine d_nil (by kernel_rfl) ?_ | refine o_yes rfl rfl rfl ?_ | refine o_no rfl rfl rfl (by decide) ?_ | refine o_no' rfl rfl rfl ?_ | refine a_condT rfl ?_ | refine a_condF rfl ?_ | refine d_no rfl rfl rfl (by decide) ?_ | refine d_no' rfl rfl rfl ?_ | (refine wq2 (fun hb => ?_) (fun hb => ?_) <;> (simp only [hb]; try simp only [hbs, ne_eq] at hb; try (exfalso; first | omega | exact hb trivial))) | fail)
  all_goals refine rq rfl ?_
  all_goals exact fnq
 ·rw [floorT, if_neg h1]
  obtain ⟨r, hr⟩ : ∃ r, (clampT t).tmod s = r := ⟨_, rfl⟩
  have hb := Int.tmod_nonneg s hc.1
  have hb2 := Int.tmod_lt_of_pos (clampT t) (show 0 < s by omega)
  rw [hr] at hb hb2 ⊢
  refine PC.mk (ac_body tab_ok Try.func45 rfl (by kernel_rfl) rfl ?_); intro w0 M μ0; simp only [Try.ntmps45, List.length_cons, List.length_nil, Nat.reduceAdd, Nat.reduceSub, numb]
  repeat' (first | ((first | apply o_do | apply d_do | apply d_yes rfl rfl rfl); first | exact lsc (h) | exact ls_rem64 hr rfl rfl (by omega) (by omega) rfl | exact lsq) | refine a_seq ?_ | refine a_region ?_ | refine o_nil ?_ | refine a_block ?_ | refine a_ret ?_ | refine a_exit ?_ | refine a_skip ?_ | refine a_draw mixed ?_ | refine d_nil (by kernel_rfl) ?_ | refine o_yes rfl rfl rfl ?_ | refine o_no rfl rfl rfl (by decide) ?_ | refine o_no' rfl rfl rfl ?_ | refine a_condT rfl ?_ | refine a_condF rfl ?_ | refine d_no rfl rfl rfl (by decide) ?_ | refine d_no' rfl rfl rfl ?_ | (refine wq2 (fun hb => ?_) (fun hb => ?_) <;> (simp only [hb]; try simp only [hbs, ne_eq] at hb; try (exfalso; first | omega | exact hb trivial))) | fail)
  all_goals refine rq rfl ?_
  all_goals exact fnq
structure Wn where
 lo : Int
 hi : Int
def Wn.av (x : Wn) : List AV := [.v (.int .i64 x.lo), .v (.int .i64 x.hi)]
def Wn.cells (x : Wn) : List Value := [.int .i64 x.lo, .int .i64 x.hi]
def winK (size slide : Int) (k : Int) : Wn := ⟨k * slide, addT (k * slide) size⟩
def firstK (size slide t : Int) : Int := max 0 ((t - size) / slide + 1)
def lastK (slide t : Int) : Int := t / slide
def cntK (size slide t : Int) : Nat := (lastK slide t + 1 - firstK size slide t).toNat
def okT (size slide t : Int) : Bool := winB size slide && (decide (0 ≤ t) && decide (t < 1099511627776))
def winL (size slide t : Int) : List Wn := if okT size slide t then (List.range (cntK size slide t)).map (fun i : Nat => winK size slide (firstK size slide t + (i : Int))) else []
def upto (size slide t : Int) (n : Nat) : List Wn := (List.range n).map (fun i : Nat => winK size slide (lastK slide t - (i : Int)))
theorem upto_succ (size slide t : Int) (n : Nat) : upto size slide t (n + 1) = upto size slide t n ++ [winK size slide (lastK slide t - (n : Int))] := by
 simp [upto, List.range_succ]
section
variable {size slide t : Int}
theorem winB_iff : winB size slide = true ↔ 1 ≤ slide ∧ slide ≤ size ∧ size ≤ 1048576 ∧ size ≤ 16 * slide := by
 simp [winB, and_assoc]
theorem okT_iff : okT size slide t = true ↔ (1 ≤ slide ∧ slide ≤ size ∧ size ≤ 1048576 ∧ size ≤ 16 * slide) ∧ 0 ≤ t ∧ t < 1099511627776 := by
 rw [okT, Bool.and_eq_true, winB_iff]; simp
theorem first_iff (h : 1 ≤ slide) (k : Int) : firstK size slide t ≤ k ↔ 0 ≤ k ∧ t - size < k * slide := by
 unfold firstK
 have h1 : (t - size) / slide + 1 ≤ k ↔ t - size < k * slide := by
  rw [Int.add_one_le_iff, Int.ediv_lt_iff_lt_mul (by omega)]
 omega
theorem last_iff (h : 1 ≤ slide) (k : Int) : k ≤ lastK slide t ↔ k * slide ≤ t := by
 unfold lastK
 rw [Int.le_ediv_iff_mul_le (by omega)]
theorem last_nonneg (h : 1 ≤ slide) (ht : 0 ≤ t) : 0 ≤ lastK slide t := Int.ediv_nonneg ht (by omega)
theorem first_le_last (h : okT size slide t = true) : firstK size slide t ≤ lastK slide t := by
 obtain ⟨⟨h1, h2, h3, h4⟩, h5, h6⟩ := okT_iff.1 h
 rw [first_iff h1]
 refine ⟨last_nonneg h1 h5, ?_⟩
 have := Int.lt_ediv_add_one_mul_self t (show 0 < slide by omega)
 unfold lastK
 rw [Int.add_mul] at this
 omega
theorem cntK_eq (h : okT size slide t = true) : (cntK size slide t : Int) = lastK slide t + 1 - firstK size slide t := by
 have := first_le_last h
 unfold cntK
 omega
theorem cntK_le (h : okT size slide t = true) : cntK size slide t ≤ 16 := by
 obtain ⟨⟨h1, h2, h3, h4⟩, h5, h6⟩ := okT_iff.1 h
 have h7 := cntK_eq h
 have h8 := first_le_last h
 have h9 := (first_iff (size := size) (t := t) h1 (firstK size slide t)).1 (Int.le_refl _)
 have h10 := (last_iff (t := t) h1 (lastK slide t)).1 (Int.le_refl _)
 have h11 : (lastK slide t - firstK size slide t) * slide < 16 * slide := by rw [Int.sub_mul]; omega
 have h12 := Int.lt_of_mul_lt_mul_right h11 (show 0 ≤ slide by omega)
 omega
theorem floor_eq (h : okT size slide t = true) : floorT t slide = lastK slide t * slide := by
 obtain ⟨⟨h1, h2, h3, h4⟩, h5, h6⟩ := okT_iff.1 h
 unfold floorT lastK
 rw [if_neg (by omega), clampT_id ⟨by omega, by omega⟩, Int.tmod_eq_emod_of_nonneg h5]
 rw [Int.emod_def, Int.mul_comm (t / slide) slide]
 omega
theorem upto_rev (h : okT size slide t = true) : (upto size slide t (cntK size slide t)).reverse = winL size slide t := by
 have hc := cntK_eq h
 unfold upto winL
 rw [if_pos h, ← List.map_reverse]
 apply List.ext_getElem
 ·simp
 ·intro i h1 h2
  simp only [List.length_map, List.length_reverse, List.length_range] at h1
  simp only [List.getElem_map, List.getElem_reverse, List.getElem_range, List.length_range]
  congr 1
  omega
end
section
variable {P : Program} {Γ : Ctx} {s : ASt} {dst : Option Tmp} {ty xt yt : TypeId} {pos : String} {after : Array Edge} {x y : Operand}
theorem ls_negTo {a m : Int} (hm : -a = m) (hx : ev s x = some (.v (.int .i64 a))) (h : -9223372036854775808 ≤ m ∧ m ≤ 9223372036854775807) (hd : okDst Γ.n dst = true) : LS P Γ ⟨dst, .unOp .neg xt x, ty, pos, after, none⟩ s (rd x []) (dst1 dst (.v (.int .i64 m))) [] := by
 have := ls_neg (P := P) (Γ := Γ) (ty := ty) (pos := pos) (after := after) (xt := xt) hx hd
 rwa [show (0 : Int) - a = m by omega, IntWalk.i64_in _ (by omega)] at this
end
def subT (x y : Int) : Int := clampT (clampT x - clampT y)
theorem p_minusT (x y : Int) (hx : 0 ≤ x ∧ x ≤ 1099511627776) (hy : 0 ≤ y ∧ y ≤ 1099511627776) : PC Try.prog 40 [.v (.int .i64 x), .v (.int .i64 y)] (.v (.int .i64 (clampT (x - y)))) := by
 have h := p_tat (x - y)
 refine PC.mk (ac_body tab_ok Try.func40 rfl (by kernel_rfl) rfl ?_); intro w0 M μ0; simp only [Try.ntmps40, List.length_cons, List.length_nil, Nat.reduceAdd, Nat.reduceSub, numb]
 repeat' (first | ((first | apply o_do | apply d_do | apply d_yes rfl rfl rfl); first | exact lsc (h) | exact lsq) | refine a_seq ?_ | refine a_region ?_ | refine o_nil ?_ | refine a_block ?_ | refine a_ret ?_ | refine a_exit ?_ | refine a_skip ?_ | refine a_draw mixed ?_ | refine d_nil (by kernel_rfl) ?_ | refine o_yes rfl rfl rfl ?_ | refine o_no rfl rfl rfl (by decide) ?_ | refine o_no' rfl rfl rfl ?_ | refine a_condT rfl ?_ | refine a_condF rfl ?_ | refine d_no rfl rfl rfl (by decide) ?_ | refine d_no' rfl rfl rfl ?_ | (refine wq2 (fun hb => ?_) (fun hb => ?_) <;> (simp only [hb]; try simp only [hbs, ne_eq] at hb; try (exfalso; first | omega | exact hb trivial))) | fail)
 all_goals refine rq rfl ?_
 all_goals exact fnq
theorem p_bothMinus (x y : Int) : PC Try.prog 39 [.v (.int .i64 x), .v (.int .i64 y), .clo (.func 40) [] []] (.v (.int .i64 (subT x y))) := by
 have h1 := p_tat x
 have h2 := p_tat y
 have h3 := p_minusT (clampT x) (clampT y) (clampT_range x) (clampT_range y)
 refine PC.mk (ac_body tab_ok Try.func39 rfl (by kernel_rfl) rfl ?_); intro w0 M μ0; simp only [Try.ntmps39, List.length_cons, List.length_nil, Nat.reduceAdd, Nat.reduceSub, numb]
 repeat' (first | ((first | apply o_do | apply d_do | apply d_yes rfl rfl rfl); first | exact lsc (h1) | exact lsc (h2) | exact lsc (h3) | exact lsq) | refine a_seq ?_ | refine a_region ?_ | refine o_nil ?_ | refine a_block ?_ | refine a_ret ?_ | refine a_exit ?_ | refine a_skip ?_ | refine a_draw mixed ?_ | refine d_nil (by kernel_rfl) ?_ | refine o_yes rfl rfl rfl ?_ | refine o_no rfl rfl rfl (by decide) ?_ | refine o_no' rfl rfl rfl ?_ | refine a_condT rfl ?_ | refine a_condF rfl ?_ | refine d_no rfl rfl rfl (by decide) ?_ | refine d_no' rfl rfl rfl ?_ | (refine wq2 (fun hb => ?_) (fun hb => ?_) <;> (simp only [hb]; try simp only [hbs, ne_eq] at hb; try (exfalso; first | omega | exact hb trivial))) | fail)
 all_goals refine rq rfl ?_
 all_goals exact fnq
theorem p_subT (x y : Int) : PC Try.prog 27 [.v (.int .i64 x), .v (.int .i64 y)] (.v (.int .i64 (subT x y))) := by
 have h := p_bothMinus x y
 refine PC.mk (ac_body tab_ok Try.func27 rfl (by kernel_rfl) rfl ?_); intro w0 M μ0; simp only [Try.ntmps27, List.length_cons, List.length_nil, Nat.reduceAdd, Nat.reduceSub, numb]
 repeat' (first | ((first | apply o_do | apply d_do | apply d_yes rfl rfl rfl); first | exact lsc (h) | exact lsq) | refine a_seq ?_ | refine a_region ?_ | refine o_nil ?_ | refine a_block ?_ | refine a_ret ?_ | refine a_exit ?_ | refine a_skip ?_ | refine a_draw mixed ?_ | refine d_nil (by kernel_rfl) ?_ | refine o_yes rfl rfl rfl ?_ | refine o_no rfl rfl rfl (by decide) ?_ | refine o_no' rfl rfl rfl ?_ | refine a_condT rfl ?_ | refine a_condF rfl ?_ | refine d_no rfl rfl rfl (by decide) ?_ | refine d_no' rfl rfl rfl ?_ | (refine wq2 (fun hb => ?_) (fun hb => ?_) <;> (simp only [hb]; try simp only [hbs, ne_eq] at hb; try (exfalso; first | omega | exact hb trivial))) | fail)
 all_goals refine rq rfl ?_
 all_goals exact fnq
def halfI (v : Int) : Int := v.tdiv 2
theorem halfI_range {v : Int} (h : -9223372036854775808 ≤ v ∧ v ≤ 9223372036854775807) : -9223372036854775808 ≤ halfI v ∧ halfI v ≤ 9223372036854775807 := by
 unfold halfI
 rcases Int.lt_or_le v 0 with h0 | h0
 ·have e : v.tdiv 2 = -((-v).tdiv 2) := by rw [Int.neg_tdiv, Int.neg_neg]
  have e2 : (-v).tdiv 2 = (-v) / 2 := Int.tdiv_eq_ediv_of_nonneg (by omega)
  rw [e2] at e
  omega
 ·rw [Int.tdiv_eq_ediv_of_nonneg h0]; omega
theorem p_Half (v : Int) (h : -9223372036854775808 ≤ v ∧ v ≤ 9223372036854775807) : PC Try.prog 43 [.v (.int .i64 v)] (.v (.int .i64 (halfI v))) := by
 have hr := halfI_range h
 obtain ⟨m, hm⟩ : ∃ m, v.tdiv 2 = m := ⟨_, rfl⟩
 rw [halfI, hm] at hr ⊢
 refine PC.mk (ac_body tab_ok Try.func43 rfl (by kernel_rfl) rfl ?_); intro w0 M μ0; simp only [Try.ntmps43, List.length_cons, List.length_nil, Nat.reduceAdd, Nat.reduceSub, numb]
 repeat' (first | ((first | apply o_do | apply d_do | apply d_yes rfl rfl rfl); first | exact ls_quo64 hm rfl rfl (by omega) hr rfl | exact lsq) | refine a_seq ?_ | refine a_region ?_ | refine o_nil ?_ | refine a_block ?_ | refine a_ret ?_ | refine a_exit ?_ | refine a_skip ?_ | refine a_draw mixed ?_ | refine d_nil (by kernel_rfl) ?_ | refine o_yes rfl rfl rfl ?_ | refine o_no rfl rfl rfl (by decide) ?_ | refine o_no' rfl rfl rfl ?_ | refine a_condT rfl ?_ | refine a_condF rfl ?_ | refine d_no rfl rfl rfl (by decide) ?_ | refine d_no' rfl rfl rfl ?_ | (refine wq2 (fun hb => ?_) (fun hb => ?_) <;> (simp only [hb]; try simp only [hbs, ne_eq] at hb; try (exfalso; first | omega | exact hb trivial))) | fail)
 all_goals refine rq rfl ?_
 all_goals exact fnq
def limR (limit : Int) : Int := max limit 0
def fuelR (fuel : Int) : Int := min (max fuel 0) 40
def leavesB (lim fu v n : Int) : Bool := decide (fu ≤ n) || (decide (v ≤ lim) && decide (-lim ≤ v))
theorem p_ruleOf (limit fuel : Int) : PC Try.prog 41 [.v (.int .i64 limit), .v (.int .i64 fuel)] (.agg [.v (.int .i64 (limR limit)), .v (.int .i64 (fuelR fuel))]) := by
 refine PC.mk (ac_body tab_ok Try.func41 rfl (by kernel_rfl) rfl ?_); intro w0 M μ0; simp only [Try.ntmps41, List.length_cons, List.length_nil, Nat.reduceAdd, Nat.reduceSub, numb]
 repeat' (first | ((first | apply o_do | apply d_do | apply d_yes rfl rfl rfl); exact lsq) | refine a_seq ?_ | refine a_region ?_ | refine o_nil ?_ | refine a_block ?_ | refine a_ret ?_ | refine a_exit ?_ | refine a_skip ?_ | refine a_draw mixed ?_ | refine d_nil (by kernel_rfl) ?_ | refine o_yes rfl rfl rfl ?_ | refine o_no rfl rfl rfl (by decide) ?_ | refine o_no' rfl rfl rfl ?_ | refine a_condT rfl ?_ | refine a_condF rfl ?_ | refine d_no rfl rfl rfl (by decide) ?_ | refine d_no' rfl rfl rfl ?_ | (refine wq2 (fun hb => ?_) (fun hb => ?_) <;> (simp only [hb]; try simp only [hbs, ne_eq] at hb; try (exfalso; first | omega | exact hb trivial))) | fail)
 all_goals refine rq rfl ?_
 all_goals exact fnq
theorem p_leaves (lim fu v n : Int) (hl : 0 ≤ lim ∧ lim ≤ 9223372036854775807) : PC Try.prog 42 [.agg [.v (.int .i64 lim), .v (.int .i64 fu)], .v (.int .i64 v), .v (.int .i64 n)] (.v (.bool (leavesB lim fu v n))) := by
 obtain ⟨m, hm⟩ : ∃ m, -lim = m := ⟨_, rfl⟩
 unfold leavesB
 rw [hm]
 refine PC.mk (ac_body tab_ok Try.func42 rfl (by kernel_rfl) rfl ?_); intro w0 M μ0; simp only [Try.ntmps42, List.length_cons, List.length_nil, Nat.reduceAdd, Nat.reduceSub, numb]
 repeat' (first | ((first | apply o_do | apply d_do | apply d_yes rfl rfl rfl); first | exact ls_negTo hm rfl (by omega) rfl | exact lsq) | refine a_seq ?_ | refine a_region ?_ | refine o_nil ?_ | refine a_block ?_ | refine a_ret ?_ | refine a_exit ?_ | refine a_skip ?_ | refine a_draw mixed ?_ | refine d_nil (by kernel_rfl) ?_ | refine o_yes rfl rfl rfl ?_ | refine o_no rfl rfl rfl (by decide) ?_ | refine o_no' rfl rfl rfl ?_ | refine a_condT rfl ?_ | refine a_condF rfl ?_ | refine d_no rfl rfl rfl (by decide) ?_ | refine d_no' rfl rfl rfl ?_ | (refine wq2 (fun hb => ?_) (fun hb => ?_) <;> (simp only [hb]; try simp only [hbs, ne_eq] at hb; try (exfalso; first | omega | exact hb trivial))) | fail)
 all_goals refine rq rfl ?_
 all_goals (first | refine FinA.tup ?_ | refine FinA.one ?_); repeat' (first | exact FinBs.nil | exact FinCs.nil | refine FinBs.cons ?_ ?_ | refine FinCs.cons ?_ ?_ | refine FinB.cell (FinC.v ?_) | refine FinB.cell (FinC.own rfl rfl rfl ?_) | exact FinB.cell FinC.nil | refine FinB.cell (FinC.sl ?_) | exact FinB.agg' rfl rfl | exact FinB.cell (FinC.same rfl) | refine FinB.agg ?_ | refine FinC.v ?_ | refine FinC.own rfl rfl rfl ?_ | exact FinC.nil | refine FinC.sl ?_ | exact FinC.same rfl); all_goals try rfl
 all_goals simp [*]
def goV (lim : Int) : Nat → Int → Nat → Int × Nat
 | 0, v, n => (v, n)
 | m + 1, v, n => if v ≤ lim ∧ -lim ≤ v then (v, n) else goV lim m (halfI v) (n + 1)
def runE (limit fuel v : Int) : Int × Nat := goV (limR limit) (fuelR fuel).toNat v 0
end Go.Proofs.Ytlgbadlgfdlheaa
namespace Go.Proofs.Ytlgbadlgfdlheaa
open Go.RowKit
theorem goV_leave {lim fu v : Int} {n : Nat} (hf : 0 ≤ fu) (h : leavesB lim fu v n = true) : goV lim (fu.toNat - n) v n = (v, n) := by
 simp only [leavesB, Bool.or_eq_true, Bool.and_eq_true, decide_eq_true_eq] at h
 rcases h with h | h
 ·rw [show fu.toNat - n = 0 by omega]; rfl
 ·cases hm : fu.toNat - n with
  | zero => rfl
  | succ m => rw [goV, if_pos h]
theorem goV_on {lim fu v : Int} {n : Nat} (hf : 0 ≤ fu) (h : leavesB lim fu v n = false) : n < fu.toNat ∧ goV lim (fu.toNat - n) v n = goV lim (fu.toNat - (n + 1)) (halfI v) (n + 1) := by
 simp only [leavesB, Bool.or_eq_false_iff, Bool.and_eq_false_imp, decide_eq_false_iff_not, decide_eq_true_eq] at h
 obtain ⟨h1, h2⟩ := h
 have hn : n < fu.toNat := by omega
 refine ⟨hn, ?_⟩
 obtain ⟨m, hm⟩ : ∃ m, fu.toNat - n = m + 1 := ⟨fu.toNat - n - 1, by omega⟩
 rw [hm, show fu.toNat - (n + 1) = m by omega, goV, if_neg (by intro h3; exact h2 h3.1 h3.2)]
theorem fuelR_range (fuel : Int) : 0 ≤ fuelR fuel ∧ fuelR fuel ≤ 40 := by unfold fuelR; omega
theorem p_Run (key : ByteArray) (t v limit fuel : Int) (hv : -9223372036854775808 ≤ v ∧ v ≤ 9223372036854775807) (hl : limit ≤ 9223372036854775807) :
  PC Try.prog 28 [.agg [.v (.string key), .v (.int .i64 t), .v (.int .i64 v)], .v (.int .i64 limit), .v (.int .i64 fuel)] (.tup [.agg [.v (.string key), .v (.int .i64 t), .v (.int .i64 (runE limit fuel v).1)], .v (.int .i64 (runE limit fuel v).2)]) := by
 have hr := p_ruleOf limit fuel
 have hf := fuelR_range fuel
 have hlr : 0 ≤ limR limit ∧ limR limit ≤ 9223372036854775807 := by unfold limR; omega
 unfold runE
 generalize limR limit = lim at *
 generalize fuelR fuel = fu at *
 refine PC.mk (ac_body tab_ok Try.func28 rfl (by kernel_rfl) rfl ?_); intro w0 M μ0; simp only [Try.ntmps28, List.length_cons, List.length_nil, Nat.reduceAdd, Nat.reduceSub, numb]
 repeat' (first | ((first | apply o_do | apply d_do | apply d_yes rfl rfl rfl); first | exact lsc (hr) | exact lsq) | refine a_seq ?_ | refine a_region ?_ | refine o_nil ?_ | refine a_block ?_ | refine a_ret ?_ | refine a_exit ?_ | refine a_skip ?_ | refine a_draw mixed ?_ | refine d_nil (by kernel_rfl) ?_ | refine o_yes rfl rfl rfl ?_ | refine o_no rfl rfl rfl (by decide) ?_ | refine o_no' rfl rfl rfl ?_ | refine a_condT rfl ?_ | refine a_condF rfl ?_ | refine d_no rfl rfl rfl (by decide) ?_ | refine d_no' rfl rfl rfl ?_ | (refine wq2 (fun hb => ?_) (fun hb => ?_) <;> (simp only [hb]; try simp only [hbs, ne_eq] at hb; try (exfalso; first | omega | exact hb trivial))) | fail)
 refine a_loop (X := {x : Int × Nat // x.2 ≤ fu.toNat ∧ goV lim fu.toNat v 0 = goV lim (fu.toNat - x.2) x.1 x.2 ∧ (-9223372036854775808 ≤ x.1 ∧ x.1 ≤ 9223372036854775807)}) (fun x => ⟨[(3, .ref 0 0), (6, .ref 1 0), (8, .clo (.func 42) [.agg [.v (.int .i64 lim), .v (.int .i64 fu)]] []), (9, .v (.int .i64 x.1.2))], [(0, .box 49 [.v (.string key), .v (.int .i64 t), .v (.int .i64 x.1.1)]), (1, .box 49 [.v (.string ByteArray.empty), .v (.int .i64 0), .v (.int .i64 0)])]⟩) (fun x => fu.toNat - x.1.2) ⟨(v, 0), Nat.zero_le _, rfl, hv⟩ ?_ ?_
 ·exact wkS
 rintro ⟨⟨c, n⟩, h1, h2, h3⟩
 dsimp only at h1 h2 h3 ⊢
 rw [h2]
 have hL := p_leaves lim fu c n hlr
 cases hb : leavesB lim fu c n
 ·obtain ⟨g1, g2⟩ := goV_on hf.1 hb
  have hH := p_Half c h3
  have hh := halfI_range h3
  rw [hb] at hL
  rw [g2]
  generalize halfI c = c' at *
  repeat' (first | ((first | apply o_do | apply d_do | apply d_yes rfl rfl rfl); first | focus (apply ls_callB hL rfl rfl _ rfl rfl; (repeat' (first | exact NilL.nil | refine NilL.cons Nil.same ?_ | refine NilL.cons Nil.nil ?_ | refine NilL.cons (Nil.agg ?_) ?_ | exact Nil1s.nil | refine Nil1s.cons Nil1.same ?_ | refine Nil1s.cons Nil1.nil ?_)); done) | exact lsc (hH) | exact lsq) | refine a_seq ?_ | refine a_region ?_ | refine o_nil ?_ | refine a_block ?_ | refine a_ret ?_ | refine a_exit ?_ | refine a_skip ?_ | refine a_draw mixed ?_ | refine d_nil (by kernel_rfl) ?_ | refine o_yes rfl rfl rfl ?_ | refine o_no rfl rfl rfl (by decide) ?_ | refine o_no' rfl rfl rfl ?_ | refine a_condT rfl ?_ | refine a_condF rfl ?_ | refine d_no rfl rfl rfl (by decide) ?_ | refine d_no' rfl rfl rfl ?_ | (refine wq2 (fun hb => ?_) (fun hb => ?_) <;> (simp only [hb]; try simp only [hbs, ne_eq] at hb; try (exfalso; first | omega | exact hb trivial))) | fail)
  refine ⟨⟨(c', n + 1), by dsimp only; omega, rfl, hh⟩, by dsimp only; omega, ?_⟩
  exact wkS
 ·have g := goV_leave (n := n) hf.1 hb
  rw [hb] at hL
  rw [g]
  repeat' (first | ((first | apply o_do | apply d_do | apply d_yes rfl rfl rfl); first | focus (apply ls_callB hL rfl rfl _ rfl rfl; (repeat' (first | exact NilL.nil | refine NilL.cons Nil.same ?_ | refine NilL.cons Nil.nil ?_ | refine NilL.cons (Nil.agg ?_) ?_ | exact Nil1s.nil | refine Nil1s.cons Nil1.same ?_ | refine Nil1s.cons Nil1.nil ?_)); done) | exact lsq) | refine a_seq ?_ | refine a_region ?_ | refine o_nil ?_ | refine a_block ?_ | refine a_ret ?_ | refine a_exit ?_ | refine a_skip ?_ | refine a_draw mixed ?_ | refine d_nil (by kernel_rfl) ?_ | refine o_yes rfl rfl rfl ?_ | refine o_no rfl rfl rfl (by decide) ?_ | refine o_no' rfl rfl rfl ?_ | refine a_condT rfl ?_ | refine a_condF rfl ?_ | refine d_no rfl rfl rfl (by decide) ?_ | refine d_no' rfl rfl rfl ?_ | (refine wq2 (fun hb => ?_) (fun hb => ?_) <;> (simp only [hb]; try simp only [hbs, ne_eq] at hb; try (exfalso; first | omega | exact hb trivial))) | fail)
  all_goals refine rq rfl ?_
  all_goals exact fnq
end Go.Proofs.Ytlgbadlgfdlheaa
namespace Go.Proofs.Ytlgbadlgfdlheaa
open Go.RowKit
def srcAv (g s d k fu li de id mark : Int) : List AV := [.v (.int .i64 g), .v (.int .i64 s), .v (.int .i64 d), .v (.int .i64 k), .v (.int .i64 fu), .v (.int .i64 li), .v (.int .i64 de), .v (.int .i64 id), .v (.int .i64 mark)]
def srcCells (g s d k fu li de id mark : Int) : List Value := [.int .i64 g, .int .i64 s, .int .i64 d, .int .i64 k, .int .i64 fu, .int .i64 li, .int .i64 de, .int .i64 id, .int .i64 mark]
theorem c_see (g s d k fu li de id mark : Int) (key : ByteArray) (t v : Int) (hv : -9223372036854775808 ≤ v ∧ v ≤ 9223372036854775807) (hl : li ≤ 9223372036854775807) :
  AC Try.prog 15 [.ref 0 0, .agg [.v (.string key), .v (.int .i64 t), .v (.int .i64 v)]] [(0, .box 56 (srcAv g s d k fu li de id mark))] (.tup [.agg [.v (.string key), .v (.int .i64 t), .v (.int .i64 (runE li fu v).1)], .v (.bool (!decide (t < mark)))]) [(0, .box 56 (srcAv g s d k fu li de id (max mark (subT t de))))] := by
 have h1 := p_subT t de
 have h2 := p_Run key t v li fu hv hl
 generalize runE li fu v = r at *
 obtain ⟨v', n⟩ := r
 dsimp only at h2
 generalize subT t de = z at *
 refine (ac_body tab_ok Try.func15 rfl (by kernel_rfl) rfl ?_); intro w0 M μ0; simp only [Try.ntmps15, List.length_cons, List.length_nil, Nat.reduceAdd, Nat.reduceSub, numb]
 repeat' (first | ((first | apply o_do | apply d_do | apply d_yes rfl rfl rfl); first | exact ls_nilCheck rfl rfl | exact lsc (h1) | exact lsc (h2) | exact lsq) | refine a_seq ?_ | refine a_region ?_ | refine o_nil ?_ | refine a_block ?_ | refine a_ret ?_ | refine a_exit ?_ | refine a_skip ?_ | refine a_draw mixed ?_ | refine d_nil (by kernel_rfl) ?_ | refine o_yes rfl rfl rfl ?_ | refine o_no rfl rfl rfl (by decide) ?_ | refine o_no' rfl rfl rfl ?_ | refine a_condT rfl ?_ | refine a_condF rfl ?_ | refine d_no rfl rfl rfl (by decide) ?_ | refine d_no' rfl rfl rfl ?_ | (refine wq2 (fun hb => ?_) (fun hb => ?_) <;> (simp only [hb]; try simp only [hbs, ne_eq] at hb; try (exfalso; first | omega | exact hb trivial))) | fail)
 all_goals refine rq rfl ?_
 all_goals exact fnq
theorem ok_wRight : CallOK Try.prog 21 := ⟨_, Try.func21, by kernel_rfl, rfl⟩
theorem p_wRight (s d : Int) : PC Try.prog 21 [.v (.int .i64 s), .v (.int .i64 d)] (.v (.bool (winB s d))) :=
 pc_of_calls (xs := [.int .i64 s, .int .i64 d]) ok_wRight (fun w => (window_Right s d w).mono fun e w' ⟨h1, h2⟩ => ⟨h1, by rw [← h2]; exact Below.refl _ _⟩) rfl
end Go.Proofs.Ytlgbadlgfdlheaa
