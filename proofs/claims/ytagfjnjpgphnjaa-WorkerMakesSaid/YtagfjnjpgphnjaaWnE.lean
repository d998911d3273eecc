/-
  Windows that hold a time: the iterator's contract, and the row that is collected.
  Windows, walked over abstract values: a row turned round.
  Windows that hold a time: the row that is collected of them.
  Windows that hold a time, walked over abstract values: a function that gives a row.
-/
import Derived.RangeFuncNested
import Derived.RangeFuncBound
import Derived.RangeFuncCalls
import Derived.RangeFuncLeaves
import Derived.Shelf.Abstract
import Derived.Shelf.RegionOpen
import Derived.WalkKit
import Derived.OwnWalkIn
import Derived.TacticsInMore
import Derived.LoopNIn
import Derived.LoopIn
import Derived.Maps.AppendAt
import Derived.Test.YtagfjnjpgphnjaaWnA
import Derived.Test.YtagfjnjpgphnjaaGrA
namespace Go.Proofs.Ytagfjnjpgphnjaa
open Go.RowKit Go.Shelf
set_option linter.unusedSimpArgs false
set_option linter.unusedVariables false
attribute [local go_sem] Oper.semAt_some
theorem below_grown {W W' : World} (h : Below W.heap.size W W') : W.grownBy W' none := ⟨h.os, h.tape, h.output, h.size, fun k hk _ => h.block k hk⟩
def wVal (x : Wn) : Value := .agg #[.int .i64 x.lo, .int .i64 x.hi]
/-- where the iterator stands -/
def wAt (size slide t : Int) (q : Nat) : Int := (lastK slide t - (q : Int)) * slide
theorem wAt_zero (size slide t : Int) : wAt size slide t 0 = lastK slide t * slide := by simp [wAt]
theorem wAt_succ (size slide t : Int) (q : Nat) : wAt size slide t (q + 1) = wAt size slide t q - slide := by
  unfold wAt
  rw [show lastK slide t - ((q + 1 : Nat) : Int) = lastK slide t - (q : Int) - 1 by omega, Int.sub_mul _ 1, Int.one_mul]
theorem wAt_go {size slide t : Int} (h : okT size slide t = true) {q : Nat} (hq : q < cntK size slide t) : 0 ≤ wAt size slide t q ∧ t - size < wAt size slide t q ∧ wAt size slide t q ≤ t := by
  obtain ⟨⟨h1, h2, h3, h4⟩, h5, h6⟩ := okT_iff.1 h
  have hc := cntK_eq h
  have h7 := (first_iff (size := size) (t := t) h1 (lastK slide t - (q : Int))).1 (by omega)
  have h8 := (last_iff (t := t) h1 (lastK slide t - (q : Int))).1 (by omega)
  exact ⟨Int.mul_nonneg h7.1 (by omega), h7.2, h8⟩
theorem wAt_end {size slide t : Int} (h : okT size slide t = true) : ¬ (0 ≤ wAt size slide t (cntK size slide t) ∧ t - size < wAt size slide t (cntK size slide t)) := by
  obtain ⟨⟨h1, h2, h3, h4⟩, h5, h6⟩ := okT_iff.1 h
  have hc := cntK_eq h
  rintro ⟨h7, h8⟩
  have h9 : 0 ≤ lastK slide t - (cntK size slide t : Int) := by
    rcases Int.lt_or_le (lastK slide t - (cntK size slide t : Int)) 0 with h | h
    · have := Int.mul_neg_of_neg_of_pos h (show 0 < slide by omega)
      unfold wAt at h7; omega
    · exact h
  have := (first_iff (size := size) (t := t) h1 (lastK slide t - (cntK size slide t : Int))).2 ⟨h9, h8⟩
  omega
theorem wAt_low {size slide t : Int} (h : okT size slide t = true) {q : Nat} (hq : q ≤ cntK size slide t) : -1048576 ≤ wAt size slide t q ∧ wAt size slide t q ≤ 1099511627776 := by
  obtain ⟨⟨h1, h2, h3, h4⟩, h5, h6⟩ := okT_iff.1 h
  cases q with
  | zero =>
    rw [wAt_zero]
    have h8 := (last_iff (t := t) h1 (lastK slide t)).1 (Int.le_refl _)
    have := Int.mul_nonneg (last_nonneg (t := t) h1 h5) (show 0 ≤ slide by omega)
    omega
  | succ q =>
    rw [wAt_succ]
    have := wAt_go h (q := q) (by omega)
    omega
/-- three boxes from b on lie as they lay -/
def Kp3 (b : Nat) (W W' : World) : Prop := W.heap.size ≤ W'.heap.size ∧ ∀ k, b ≤ k → k < b + 3 → W'.heap[k]? = W.heap[k]?
theorem Kp3.trans {b : Nat} {A B C : World} (h : Kp3 b A B) (k : Kp3 b B C) : Kp3 b A C := ⟨Nat.le_trans h.1 k.1, fun i h1 h2 => (k.2 i h1 h2).trans (h.2 i h1 h2)⟩
theorem Kp3.of_below {b n : Nat} {W W' : World} (h : Below n W W') (hn : b + 3 ≤ n) : Kp3 b W W' := ⟨h.size, fun k _ h2 => h.block k (by omega)⟩
/-- what the iterator has caught -/
def Caught (b : Nat) (size slide t : Int) (W : World) : Prop := b + 3 ≤ W.heap.size ∧ Boxed W b 2 (.int .i64 size) ∧ Boxed W (b + 1) 2 (.int .i64 slide) ∧ Boxed W (b + 2) 2 (.int .i64 t)
theorem Caught.kept {b : Nat} {size slide t : Int} {W W' : World} (h : Caught b size slide t W) (k : Kp3 b W W') : Caught b size slide t W' :=
  ⟨by have := h.1; have := k.1; omega, (k.2 b (Nat.le_refl _) (by omega)).trans h.2.1, (k.2 (b + 1) (by omega) (by omega)).trans h.2.2.1, (k.2 (b + 2) (by omega) (by omega)).trans h.2.2.2⟩
end Go.Proofs.Ytagfjnjpgphnjaa
namespace Go.Proofs.Ytagfjnjpgphnjaa
open Go.RowKit
set_option linter.unusedSimpArgs false
set_option linter.unusedVariables false
/-- so many of either end have been turned round -/
def Rev (xs m : List Wn) (i : Nat) : Prop := m.length = xs.length ∧ ∀ p, p < xs.length → m[p]? = if p < i ∨ xs.length - i ≤ p then xs[xs.length - 1 - p]? else xs[p]?
theorem Rev.start (xs : List Wn) : Rev xs xs 0 := ⟨rfl, fun p hp => by rw [if_neg (by omega)]⟩
theorem Rev.done {xs m : List Wn} {i : Nat} (h : Rev xs m i) (hi : xs.length ≤ 2 * i + 1) : m = xs.reverse := by
  apply List.ext_getElem?
  intro p
  rcases Nat.lt_or_ge p xs.length with hp | hp
  · rw [List.getElem?_reverse hp, h.2 p hp]
    split
    · rfl
    · congr 1; omega
  · rw [List.getElem?_eq_none (by rw [h.1]; exact hp), List.getElem?_eq_none (by rw [List.length_reverse]; exact hp)]
theorem Rev.step {xs m : List Wn} {i j : Nat} {x y : Wn} (h : Rev xs m i) (hj : i + j + 1 = xs.length) (hij : i < j) (h1 : m[i]? = some x) (h2 : m[j]? = some y) : Rev xs ((m.set i y).set j x) (i + 1) := by
  refine ⟨by rw [List.length_set, List.length_set]; exact h.1, fun p hp => ?_⟩
  have e1 : xs[i]? = some x := by rw [← h1, h.2 i (by omega), if_neg (by omega)]
  have e2 : xs[j]? = some y := by rw [← h2, h.2 j (by omega), if_neg (by omega)]
  rw [List.getElem?_set, List.getElem?_set, List.length_set, h.1]
  by_cases hpj : j = p
  · subst hpj
    rw [if_pos rfl, if_pos (by omega), if_pos (by omega), show xs.length - 1 - j = i by omega, e1]
  · rw [if_neg hpj]
    by_cases hpi : i = p
    · subst hpi
      rw [if_pos rfl, if_pos (by omega), if_pos (by omega), show xs.length - 1 - i = j by omega, e2]
    · rw [if_neg hpi, h.2 p hp]
      by_cases hc : p < i ∨ xs.length - i ≤ p
      · rw [if_pos hc, if_pos (by omega)]
      · rw [if_neg hc, if_neg (by omega)]
end Go.Proofs.Ytagfjnjpgphnjaa
namespace Go.Proofs.Ytagfjnjpgphnjaa
open Go.RowKit Go.Shelf Go.Maps
set_option linter.unusedSimpArgs false
set_option linter.unusedVariables false
attribute [local go_sem] Oper.semAt_some
theorem info_Win : (Try.prog.info? 75).map (fun i => (i.zero, i.size, i.bytes)) = some (some (.agg #[.int .i64 0, .int .i64 0]), 2, 16) := by kernel_rfl
/-- a row of windows of one's own -/
def RowW (base : Nat) (W : World) (v : Value) (ws : List Wn) : Prop := W.ownsRow base 75 2 v ws.length (ws.flatMap Wn.cells)
theorem cell_two_new (w : World) (x y : Value) (t : TypeId) : ∀ j u, [x, y][j]? = some u → (w.alloc (.cells #[x, y] t)).cell? ((⟨w.heap.size, 0, none⟩ : Addr).add j) = some u := by
  intro j u hj
  match j, hj with
  | 0, hj => simp at hj; subst hj; simp [Addr.add]
  | 1, hj => simp at hj; subst hj; simp [Addr.add]
theorem ownsRow_ne' {W : World} {base : Nat} {e : TypeId} {size : Nat} {v : Value} {k : Nat} {xs : List Value} (h : W.ownsRow base e size v k xs) {j : Nat} {o : Obj} (hj : W.heap[j]? = some o) (hno : ∀ cur, o ≠ .cells cur e (0, 0)) :
    some j ≠ v.ownBlock := by
  rcases h.2 with ⟨rfl, _⟩ | ⟨g, cap, cur, rfl, _, hgb, _⟩
  · simp [Value.ownBlock]
  · intro e'
    have : j = g := by simpa [Value.ownBlock] using e'
    subst this; rw [hgb] at hj; cases hj; exact hno cur rfl
theorem ownsRow_base {W : World} {base : Nat} {e : TypeId} {size : Nat} {v : Value} {k : Nat} {xs : List Value} (h : W.ownsRow base e size v k xs) {j : Nat} (hj : v.ownBlock = some j) : base ≤ j := by
  rcases h.2 with ⟨rfl, _⟩ | ⟨g, cap, cur, rfl, hb, _⟩
  · simp [Value.ownBlock] at hj
  · have : g = j := by simpa [Value.ownBlock] using hj
    omega
theorem Kp3.of_caught {b : Nat} {size slide t : Int} {W W' : World} (h : Caught b size slide t W) (h' : Caught b size slide t W') (hs : W.heap.size ≤ W'.heap.size) : Kp3 b W W' := by
  refine ⟨hs, fun k h1 h2 => ?_⟩
  obtain rfl | rfl | rfl : k = b ∨ k = b + 1 ∨ k = b + 2 := by omega
  · exact (show W'.heap[k]? = _ from h'.2.1).trans (show W.heap[k]? = _ from h.2.1).symm
  · exact (show W'.heap[b + 1]? = _ from h'.2.2.1).trans (show W.heap[b + 1]? = _ from h.2.2.1).symm
  · exact (show W'.heap[b + 2]? = _ from h'.2.2.2).trans (show W.heap[b + 2]? = _ from h.2.2.2).symm
theorem caught_own {β : Type} {b B : Nat} {size slide t : Int} : OwnFrom B (fun (_ : β) W => Caught b size slide t W) := by
  rintro s X Y row hs hg hr
  have key : ∀ {k : Nat} {u : Value}, Boxed X k 2 u → Boxed Y k 2 u := fun {k u} h => h.kept hg (fun e => by
    obtain ⟨_, o, ho, hc⟩ := hr k e.symm
    rw [show X.heap[k]? = _ from h] at ho; cases ho; cases hc)
  exact ⟨Nat.le_trans hs.1 hg.size, key hs.2.1, key hs.2.2.1, key hs.2.2.2⟩
end Go.Proofs.Ytagfjnjpgphnjaa
namespace Go.Proofs.Ytagfjnjpgphnjaa
open Go.RowKit
set_option linter.unusedSimpArgs false
set_option linter.unusedVariables false
theorem own_base' {w : World} {b b' : Nat} {e : TypeId} {size n : Nat} {v : Value} {xs : List Value} (h : w.ownsRow b e size v n xs) (hb : b' ≤ b) : w.ownsRow b' e size v n xs := by
  refine ⟨h.1, ?_⟩
  rcases h.2 with h2 | ⟨g, cap, cur, h1, h2, h3⟩
  · exact .inl h2
  · exact .inr ⟨g, cap, cur, h1, by omega, h3⟩
/-- of a function that turns a row that it is handed: what it does to memory -/
theorem ac_row1 {P : Program} {f : FuncId} {e size : Nat} {xs ys : List (List AV)} (h : AC P f [.own 0 xs.length] [(0, .row e size xs)] (.tup []) [(0, .row e size ys)]) (hl : ys.length = xs.length) {base : Nat} {w : World} {v : Value} {us : List Value}
    (hv : w.ownsRow base e size v xs.length us) (hr : ∀ μ A, repLL [] μ w A size xs us) :
    Calls P f #[v] w fun r w' => (∃ y, r = .returned y) ∧ (∃ us', w'.ownsRow base e size v ys.length us' ∧ ∃ μ A, repLL [] μ w' A size ys us') ∧ w.grownBy w' v.ownBlock := by
  have hfind : ∀ (zs : List (List AV)) id o, find [((0 : Nat), SObj.row e size zs)] id = some o → id = 0 ∧ o = .row e size zs := by
    intro zs id o hf
    rw [find_cons] at hf
    split at hf
    · rename_i e1; injection hf with hf; exact ⟨e1.symm, hf.symm⟩
    · simp [find] at hf
  have hone : v.oneCell' = true := by
    rcases hv.2 with ⟨h1, _⟩ | ⟨g, cap, cur, h1, _⟩ <;> rw [h1] <;> rfl
  refine (h.out w (fun _ => False) (fun _ => v) [v] ⟨fun id o hf => ?_, fun id id' o o' g h1 h2 _ _ => ?_, fun _ h => h.elim, fun _ _ _ _ _ h => h⟩ ?_).mono ?_
  · obtain ⟨rfl, rfl⟩ := hfind xs id o hf
    exact ⟨us, own_base' hv (Nat.zero_le _), hr _ _⟩
  · rw [(hfind _ _ _ h1).1, (hfind _ _ _ h2).1]
  · simp only [repL, rep, find_cons, if_true]
    exact ⟨v, [], rfl, ⟨hone, e, size, xs, rfl, Nat.le_refl _, fun _ => rfl⟩, rfl⟩
  · rintro r w' ⟨y, μ', rfl, hs', _, hg⟩
    obtain ⟨us', ho', hr'⟩ := hs'.obj 0 _ (by rw [find_cons, if_pos rfl])
    obtain ⟨zs, hz, _, hmu⟩ := hg.row 0 e size xs (by rw [find_cons, if_pos rfl])
    have := (hfind ys 0 _ hz).2
    injection this with _ _ hzs
    subst hzs
    have hmu := hmu hl
    rw [hmu] at ho'
    refine ⟨⟨y, rfl⟩, ⟨us', ?_, μ', _, hr'⟩, ⟨hg.os, hg.tape, hg.output, hg.size, fun k hk hne => hg.same k hk fun id o hf => ?_⟩⟩
    · refine ⟨ho'.1, ?_⟩
      rcases ho'.2 with h2 | ⟨g, cap, cur, h1, h2, h3⟩
      · exact .inl h2
      · refine .inr ⟨g, cap, cur, h1, ?_, h3⟩
        rcases hv.2 with ⟨h4, _⟩ | ⟨g', cap', cur', h4, h5, _⟩
        · rw [h4] at h1; simp at h1
        · rw [h4] at h1; simp at h1; omega
    · rintro e1
      apply hne
      rcases hv.2 with ⟨h4, _⟩ | ⟨g', cap', cur', h4, h5, _⟩
      · rw [h4] at e1; simp [blk] at e1
      · rw [h4] at e1 ⊢; simpa [blk, Value.ownBlock] using e1.symm
theorem repLL_wn {μ : Nat → Value} {w : World} {A : Nat → Prop} : ∀ {ws : List Wn} {us : List Value}, repLL [] μ w A 2 (ws.map Wn.av) us → us = ws.flatMap Wn.cells
  | [], us, h => by simpa [repLL] using h
  | x :: ws, us, h => by
    simp only [List.map_cons, repLL] at h
    obtain ⟨u1, u2, rfl, _, h2, h3⟩ := h
    have e1 : u1 = Wn.cells x := by
      simp only [Wn.av, repC, rep] at h2
      obtain ⟨a, l, rfl, _, ⟨rfl, _⟩, b, m, rfl, _, ⟨rfl, _⟩, rfl⟩ := h2
      rfl
    rw [repLL_wn h3, e1]; rfl
theorem wn_repLL {μ : Nat → Value} {w : World} {A : Nat → Prop} : ∀ ws : List Wn, repLL [] μ w A 2 (ws.map Wn.av) (ws.flatMap Wn.cells)
  | [] => rfl
  | x :: ws => ⟨Wn.cells x, ws.flatMap Wn.cells, rfl, rfl, repC_con (cs := Wn.cells x) rfl, wn_repLL ws⟩
end Go.Proofs.Ytagfjnjpgphnjaa
