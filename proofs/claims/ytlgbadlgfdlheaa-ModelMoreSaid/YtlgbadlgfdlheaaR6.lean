/-
  Windows that hold a time: the iterator's contract, and the row that is collected.
    Windows, walked over abstract values: a row turned round.
    Windows that hold a time: the row that is collected of them.
    Windows that hold a time, walked over abstract values: a function that gives a row.
  Walks over abstract values: the tail of a row of one's own is cleared. Over whatever program. No condition.
    Windows that are open, walked over abstract values: those that are closed are dropped of a row of one's own.
    Windows that hold a time, and those of them that are open, as the document says and as the program has them.
    Windows that hold a time, as the document says.
  Panes, walked over abstract values: where one stands in a row.
-/
import Derived.RangeFuncNested
import Derived.RangeFuncBound
import Derived.RangeFuncCalls
import Derived.RangeFuncLeaves
import Derived.Shelf.Abstract
import Derived.Shelf.RegionOpen
import Derived.WalkKit
import Derived.OwnWalkIn
import Derived.TacticsInMore
import Derived.LoopNIn
import Derived.LoopIn
import Derived.Maps.AppendAt
import Derived.Laws.CopyRow
import Derived.Test.YtlgbadlgfdlheaaR3
import Derived.Test.YtlgbadlgfdlheaaR4
import Derived.Test.YtlgbadlgfdlheaaR5
set_option linter.unusedSimpArgs false
set_option linter.unusedVariables false
set_option maxHeartbeats 20000000
namespace Go.Proofs.Ytlgbadlgfdlheaa
open Go.RowKit Go.Shelf
attribute [local go_sem] Oper.semAt_some
theorem c_floor (t s : Int) (w : World) : Calls Try.prog 45 #[.int .i64 t, .int .i64 s] w fun e w' => e = .returned (.int .i64 (floorT t s)) ∧ Below w.heap.size w w' :=
 (p_floor t s).law (vs := [_, _]) ⟨_, _, rfl, by simp [rep, scal], _, _, rfl, by simp [rep, scal], rfl⟩
theorem c_addT (x y : Int) (w : World) : Calls Try.prog 46 #[.int .i64 x, .int .i64 y] w fun e w' => e = .returned (.int .i64 (addT x y)) ∧ Below w.heap.size w w' :=
 (p_addT x y).law (vs := [_, _]) ⟨_, _, rfl, by simp [rep, scal], _, _, rfl, by simp [rep, scal], rfl⟩
theorem below_grown {W W' : World} (h : Below W.heap.size W W') : W.grownBy W' none := ⟨h.os, h.tape, h.output, h.size, fun k hk _ => h.block k hk⟩
def wVal (x : Wn) : Value := .agg #[.int .i64 x.lo, .int .i64 x.hi]
def wAt (size slide t : Int) (q : Nat) : Int := (lastK slide t - (q : Int)) * slide
theorem wAt_zero (size slide t : Int) : wAt size slide t 0 = lastK slide t * slide := by simp [wAt]
theorem wAt_succ (size slide t : Int) (q : Nat) : wAt size slide t (q + 1) = wAt size slide t q - slide := by
 unfold wAt
 rw [show lastK slide t - ((q + 1 : Nat) : Int) = lastK slide t - (q : Int) - 1 by omega, Int.sub_mul _ 1, Int.one_mul]
theorem wAt_go {size slide t : Int} (h : okT size slide t = true) {q : Nat} (hq : q < cntK size slide t) : 0 ≤ wAt size slide t q ∧ t - size < wAt size slide t q ∧ wAt size slide t q ≤ t := by
 obtain ⟨⟨h1, h2, h3, h4⟩, h5, h6⟩ := okT_iff.1 h
 have hc := cntK_eq h
 have h7 := (first_iff (size := size) (t := t) h1 (lastK slide t - (q : Int))).1 (by omega)
 have h8 := (last_iff (t := t) h1 (lastK slide t - (q : Int))).1 (by omega)
 exact ⟨Int.mul_nonneg h7.1 (by omega), h7.2, h8⟩
theorem wAt_end {size slide t : Int} (h : okT size slide t = true) : ¬ (0 ≤ wAt size slide t (cntK size slide t) ∧ t - size < wAt size slide t (cntK size slide t)) := by
 obtain ⟨⟨h1, h2, h3, h4⟩, h5, h6⟩ := okT_iff.1 h
 have hc := cntK_eq h
 rintro ⟨h7, h8⟩
 have h9 : 0 ≤ lastK slide t - (cntK size slide t : Int) := by
  rcases Int.lt_or_le (lastK slide t - (cntK size slide t : Int)) 0 with h | h
  ·have := Int.mul_neg_of_neg_of_pos h (show 0 < slide by omega)
   unfold wAt at h7; omega
  ·exact h
 have := (first_iff (size := size) (t := t) h1 (lastK slide t - (cntK size slide t : Int))).2 ⟨h9, h8⟩
 omega
theorem wAt_low {size slide t : Int} (h : okT size slide t = true) {q : Nat} (hq : q ≤ cntK size slide t) : -1048576 ≤ wAt size slide t q ∧ wAt size slide t q ≤ 1099511627776 := by
 obtain ⟨⟨h1, h2, h3, h4⟩, h5, h6⟩ := okT_iff.1 h
 cases q with
 | zero =>
  rw [wAt_zero]
  have h8 := (last_iff (t := t) h1 (lastK slide t)).1 (Int.le_refl _)
  have := Int.mul_nonneg (last_nonneg (t := t) h1 h5) (show 0 ≤ slide by omega)
  omega
 | succ q =>
  rw [wAt_succ]
  have := wAt_go h (q := q) (by omega)
  omega
def Kp3 (b : Nat) (W W' : World) : Prop := W.heap.size ≤ W'.heap.size ∧ ∀ k, b ≤ k → k < b + 3 → W'.heap[k]? = W.heap[k]?
theorem Kp3.trans {b : Nat} {A B C : World} (h : Kp3 b A B) (k : Kp3 b B C) : Kp3 b A C := ⟨Nat.le_trans h.1 k.1, fun i h1 h2 => (k.2 i h1 h2).trans (h.2 i h1 h2)⟩
theorem Kp3.of_below {b n : Nat} {W W' : World} (h : Below n W W') (hn : b + 3 ≤ n) : Kp3 b W W' := ⟨h.size, fun k _ h2 => h.block k (by omega)⟩
def Caught (b : Nat) (size slide t : Int) (W : World) : Prop := b + 3 ≤ W.heap.size ∧ Boxed W b 2 (.int .i64 size) ∧ Boxed W (b + 1) 2 (.int .i64 slide) ∧ Boxed W (b + 2) 2 (.int .i64 t)
theorem Caught.kept {b : Nat} {size slide t : Int} {W W' : World} (h : Caught b size slide t W) (k : Kp3 b W W') : Caught b size slide t W' :=
 ⟨by have := h.1; have := k.1; omega, (k.2 b (Nat.le_refl _) (by omega)).trans h.2.1, (k.2 (b + 1) (by omega) (by omega)).trans h.2.2.1, (k.2 (b + 2) (by omega) (by omega)).trans h.2.2.2⟩
set_option maxRecDepth 100000 in
theorem win_iter (F : Fence) (hro : F.round = none) (hfn : F.fn 44) (hf1 : F.fn 45) (hf2 : F.fn 46) (n : Nat) (hn : 1 ≤ n) (l b : Nat) (size slide t : Int) (hok : okT size slide t = true)
  (cF : ∀ w, CallsIn F (n - 1) Try.prog 45 #[.int .i64 t, .int .i64 slide] w fun e w' => e = .returned (.int .i64 (floorT t slide)) ∧ Below w.heap.size w w')
  (cA : ∀ k w, CallsIn F (n - 1) Try.prog 46 #[.int .i64 k, .int .i64 size] w fun e w' => e = .returned (.int .i64 (addT k size)) ∧ Below w.heap.size w w')
  (J Jx : List Wn → World → Prop)
  (hY : ∀ pre x W, J pre W → pre.length < cntK size slide t → YieldAt F (n - 1) Try.prog l #[wVal x] W fun e W' =>
   (e = .returned (.bool true) ∧ J (pre ++ [x]) W' ∧ Kp3 b W W') ∨ (e = .returned (.bool false) ∧ Jx (pre ++ [x]) W'))
  (W : World) (hJ : AbidesFrom W.heap.size J) (hc : Caught b size slide t W) (h0 : J [] W) :
  CallsIn F n Try.prog 44 #[.func (.yield l) #[] #[], .pointer (some ⟨b + 2, 0, none⟩), .pointer (some ⟨b + 1, 0, none⟩), .pointer (some ⟨b, 0, none⟩)] W fun e W' => (∃ v, e = .returned v) ∧
   ((∃ ys, ys = upto size slide t (cntK size slide t) ∧ J ys W') ∨ (∃ pre, True ∧ Jx pre W')) := by
 obtain ⟨⟨h1, h2, h3, h4⟩, h5, h6⟩ := okT_iff.1 hok
 have c1 := hc.2.2.2.cell
 have c2 := hc.2.2.1.cell
 have c3 := hc.2.1.cell
 have hsz0 := hc.1
 refine callsIn_of_wp Try.func44 rfl hfn ?_ hro
 simp only [Try.ntmps44, List.size_toArray, List.length_cons, List.length_nil, Nat.reduceAdd, Nat.reduceSub, Array.replicate_succ, Array.replicate_zero, List.push_toArray, List.append_toArray, List.nil_append, List.cons_append]
 gi_wp2_with (gi_at_call 45; refine (cF _).mono ?_; rintro e w1 ⟨rfl, hb1⟩)
 rw [floor_eq hok, ← wAt_zero size slide t]
 gi_loopw [5] (fun p wr => ∃ q : Nat, p = .int .i64 (wAt size slide t q) ∧ q ≤ cntK size slide t ∧ J (upto size slide t q) wr ∧ Caught b size slide t wr ∧ W.heap.size ≤ wr.heap.size)
  (fun p wr => (intOf p + 1).toNat)
 case atStart =>
  exact ⟨0, rfl, Nat.zero_le _, hJ [] W w1 none h0 (below_grown hb1) (fun r e => by cases e), hc.kept (Kp3.of_below hb1 hsz0), hb1.size⟩
 case round =>
  obtain ⟨q, rfl, hq, hJs, hC, hsz⟩ := hrel
  have d1 := hC.2.2.2.cell
  have d2 := hC.2.2.1.cell
  have d3 := hC.2.1.cell
  have hszr := hC.1
  rcases Nat.lt_or_eq_of_le hq with hlt | heq
  ·obtain ⟨g1, g2, g3⟩ := wAt_go hok hlt
   have hw := wAt_low hok hq
   obtain ⟨k, hk⟩ : ∃ k, wAt size slide t q = k := ⟨_, rfl⟩
   have hwin : winK size slide (lastK slide t - (q : Int)) = ⟨k, addT k size⟩ := by rw [← hk]; rfl
   rw [hk] at g1 g2 g3 hw ⊢
   gi_wp2_with (gi_at_call 46; refine (cA k _).mono ?_; rintro e w2 ⟨rfl, hb2⟩; have hJ2 : J (upto size slide t q) w2 := hJ _ wr w2 none hJs (below_grown hb2) (fun r e => by cases e); have hC2 := hC.kept (Kp3.of_below hb2 hszr); obtain ⟨fn, tmps, assign, body, hy, hR⟩ := hY (upto size slide t q) ⟨k, addT k size⟩ w2 hJ2 (by simp [upto]; exact hlt); dsimp only [wVal] at hy)
   refine hR.mono ?_
   rintro e W3 (⟨rfl, hJ3, hk3⟩ | ⟨rfl, hJx3⟩)
   ·have hC3 := hC2.kept hk3
    have d5 := hC3.2.2.1.cell
    gi_wp2
    go_roundw
    case rel => exact ⟨q + 1, by rw [wAt_succ, hk], by omega, by rw [upto_succ, hwin]; exact hJ3, hC3, by have := hk3.1; have := hb2.size; omega⟩
    case measure =>
     show (k - slide + 1).toNat < (k + 1).toNat
     omega
   ·gi_wp2
    refine bodyPost_ret (results_none rfl _ _ _) rfl ?_
    exact ⟨⟨_, rfl⟩, .inr ⟨_, trivial, hJx3⟩⟩
  ·subst heq
   have hw := wAt_low hok (Nat.le_refl (cntK size slide t))
   have he := wAt_end hok
   obtain ⟨k, hk⟩ : ∃ k, wAt size slide t (cntK size slide t) = k := ⟨_, rfl⟩
   rw [hk] at hw he ⊢
   gi_wp2
   all_goals go_end0
   all_goals first | exact ⟨⟨_, rfl⟩, .inl hJs⟩ | exact ⟨⟨_, rfl⟩, .inl ⟨_, rfl, hJs⟩⟩ | exact .inl hJs
theorem back_in (F : Fence) (hro : F.round = none) (hfn : F.fn 29) (n : Nat) (size slide t : Int) (w : World) :
  CallsIn F n Try.prog 29 #[.int .i64 size, .int .i64 slide, .int .i64 t] w fun e w' => e = .returned (.func (.func 44) #[] #[.pointer (some ⟨w.heap.size + 2, 0, none⟩), .pointer (some ⟨w.heap.size + 1, 0, none⟩), .pointer (some ⟨w.heap.size, 0, none⟩)]) ∧
   w' = ((w.alloc (.cells #[.int .i64 size] 2)).alloc (.cells #[.int .i64 slide] 2)).alloc (.cells #[.int .i64 t] 2) := by
 refine callsIn_of_wp Try.func29 rfl hfn ?_ hro
 simp only [Try.ntmps29, List.size_toArray, List.length_cons, List.length_nil, Nat.reduceAdd, Nat.reduceSub, Array.replicate_succ, Array.replicate_zero, List.push_toArray, List.append_toArray, List.nil_append, List.cons_append]
 gi_wp2
 go_ret
 exact ⟨rfl, rfl⟩
theorem back_stops (F : Fence) (hro : F.round = none) (hfn : F.fn 44) (hf1 : F.fn 45) (hf2 : F.fn 46) (n : Nat) (hn : 1 ≤ n) (b : Nat) (size slide t : Int) (hok : okT size slide t = true)
  (cF : ∀ w, CallsIn F (n - 1) Try.prog 45 #[.int .i64 t, .int .i64 slide] w fun e w' => e = .returned (.int .i64 (floorT t slide)) ∧ Below w.heap.size w w')
  (cA : ∀ k w, CallsIn F (n - 1) Try.prog 46 #[.int .i64 k, .int .i64 size] w fun e w' => e = .returned (.int .i64 (addT k size)) ∧ Below w.heap.size w w')
  (w : World) (hc : Caught b size slide t w) :
  SeqStopsK F n Try.prog 44 #[.pointer (some ⟨b + 2, 0, none⟩), .pointer (some ⟨b + 1, 0, none⟩), .pointer (some ⟨b, 0, none⟩)] (fun x : Wn => #[wVal x]) (Kp3 b) (fun ys => ys = upto size slide t (cntK size slide t)) (fun _ => True) (cntK size slide t) w := fun l J Jx W hW hJ _ hY h0 =>
 win_iter F hro hfn hf1 hf2 n hn l b size slide t hok cF cA J Jx hY W hJ (hc.kept (Kp3.of_below hW hc.1)) h0
end Go.Proofs.Ytlgbadlgfdlheaa
namespace Go.Proofs.Ytlgbadlgfdlheaa
open Go.RowKit
def Rev (xs m : List Wn) (i : Nat) : Prop := m.length = xs.length ∧ ∀ p, p < xs.length → m[p]? = if p < i ∨ xs.length - i ≤ p then xs[xs.length - 1 - p]? else xs[p]?
theorem Rev.start (xs : List Wn) : Rev xs xs 0 := ⟨rfl, fun p hp => by rw [if_neg (by omega)]⟩
theorem Rev.done {xs m : List Wn} {i : Nat} (h : Rev xs m i) (hi : xs.length ≤ 2 * i + 1) : m = xs.reverse := by
 apply List.ext_getElem?
 intro p
 rcases Nat.lt_or_ge p xs.length with hp | hp
 ·rw [List.getElem?_reverse hp, h.2 p hp]
  split
  ·rfl
  ·congr 1; omega
 ·rw [List.getElem?_eq_none (by rw [h.1]; exact hp), List.getElem?_eq_none (by rw [List.length_reverse]; exact hp)]
theorem Rev.step {xs m : List Wn} {i j : Nat} {x y : Wn} (h : Rev xs m i) (hj : i + j + 1 = xs.length) (hij : i < j) (h1 : m[i]? = some x) (h2 : m[j]? = some y) : Rev xs ((m.set i y).set j x) (i + 1) := by
 refine ⟨by rw [List.length_set, List.length_set]; exact h.1, fun p hp => ?_⟩
 have e1 : xs[i]? = some x := by rw [← h1, h.2 i (by omega), if_neg (by omega)]
 have e2 : xs[j]? = some y := by rw [← h2, h.2 j (by omega), if_neg (by omega)]
 rw [List.getElem?_set, List.getElem?_set, List.length_set, h.1]
 by_cases hpj : j = p
 ·subst hpj
  rw [if_pos rfl, if_pos (by omega), if_pos (by omega), show xs.length - 1 - j = i by omega, e1]
 ·rw [if_neg hpj]
  by_cases hpi : i = p
  ·subst hpi
   rw [if_pos rfl, if_pos (by omega), if_pos (by omega), show xs.length - 1 - i = j by omega, e2]
  ·rw [if_neg hpi, h.2 p hp]
   by_cases hc : p < i ∨ xs.length - i ≤ p
   ·rw [if_pos hc, if_pos (by omega)]
   ·rw [if_neg hc, if_neg (by omega)]
theorem p_Rev (xs : List Wn) (hx : xs.length ≤ 1000000) :
  AC Try.prog 30 [.own 0 (xs.map Wn.av).length] [(0, .row 34 2 (xs.map Wn.av))] (.tup []) [(0, .row 34 2 (xs.reverse.map Wn.av))] := by
 have hn : (xs.map Wn.av).length = xs.length := List.length_map _
 refine (ac_body tab_ok Try.func30 rfl (by kernel_rfl) rfl ?_); intro w0 M μ0; simp only [Try.ntmps30, List.length_cons, List.length_nil, Nat.reduceAdd, Nat.reduceSub, numb]
 repeat' (first | ((first | apply o_do | apply d_do | apply d_yes rfl rfl rfl); exact lsq) | refine a_seq ?_ | refine a_region ?_ | refine o_nil ?_ | refine a_block ?_ | refine a_ret ?_ | refine a_exit ?_ | refine a_skip ?_ | refine a_draw mixed ?_ | refine d_nil (by kernel_rfl) ?_ | refine o_yes rfl rfl rfl ?_ | refine o_no rfl rfl rfl (by decide) ?_ | refine o_no' rfl rfl rfl ?_ | refine a_condT rfl ?_ | refine a_condF rfl ?_ | refine d_no rfl rfl rfl (by decide) ?_ | refine d_no' rfl rfl rfl ?_ | (refine wq2 (fun hb => ?_) (fun hb => ?_) <;> (simp only [hb]; try simp only [hbs, ne_eq] at hb; try (exfalso; first | omega | exact hb trivial))) | fail)
 refine a_loop (X := {x : Nat × List Wn // x.1 ≤ xs.length ∧ Rev xs x.2 x.1}) (fun x => ⟨[(0, .own 0 (x.1.2.map Wn.av).length), (2, .v (.int .i64 x.1.1)), (3, .v (.int .i64 (((xs.map Wn.av).length : Int) - 1 - (x.1.1 : Int))))], [(0, .row 34 2 (x.1.2.map Wn.av))]⟩) (fun x => xs.length - x.1.1) ⟨(0, xs), Nat.zero_le _, Rev.start xs⟩ ?_ ?_
 ·refine ⟨by repeat' (first | exact trivial | exact FinA.one (FinB.cell (FinC.same rfl)) | exact FinA.one (FinB.cell FinC.nil) | exact FinA.bound rfl | exact FinA.one (FinB.cell (FinC.own rfl rfl rfl rfl)) | exact FinA.one (FinB.cell (FinC.v (by first | rfl | ((congr 1; simp))))) | exact FinA.one (FinB.cell (FinC.ow rfl (by first | rfl | ((congr 1; simp))))) | exact FinA.one (FinB.agg' rfl rfl) | refine ⟨⟨_, rfl, ?_⟩, ?_⟩), by repeat' (first | exact trivial | refine ⟨⟨_, rfl, by first | rfl | ((congr 1; simp); done) | (simp [renO, *]; done)⟩, by first | rfl | assumption, ?_⟩), rfl⟩
 rintro ⟨⟨i, m⟩, hi, hr⟩
 dsimp only at hi hr ⊢
 have hml := hr.1
 have hnm : (m.map Wn.av).length = m.length := List.length_map _
 by_cases hlt : 2 * i + 1 < xs.length
 ·obtain ⟨j, hj⟩ : ∃ j : Nat, ((xs.map Wn.av).length : Int) - 1 - (i : Int) = (j : Int) := ⟨xs.length - 1 - i, by omega⟩
  have him : i < m.length := by omega
  have hjm : j < m.length := by omega
  have hst := fun x y => @Rev.step xs m i j x y hr (by omega) (by omega)
  have e1 : (m.map Wn.av)[j]? = some (Wn.av m[j]) := by simp [hjm]
  have e2 : (m.map Wn.av)[i]? = some (Wn.av m[i]) := by simp [him]
  have e3 : ((m.map Wn.av).set i (Wn.av m[j]))[j]? = some (Wn.av m[j]) := by
   rw [List.getElem?_set, if_neg (by omega), e1]
  have hr2 := hst m[i] m[j] (List.getElem?_eq_getElem him) (List.getElem?_eq_getElem hjm)
  have hN : (((m.set i m[j]).set j m[i]).map Wn.av) = ((m.map Wn.av).set i (Wn.av m[j])).set j (Wn.av m[i]) := by rw [List.map_set, List.map_set]
  have hjx : j < (m.map Wn.av).length := by omega
  have hix : i < (m.map Wn.av).length := by omega
  have hjz : ∀ z, j < ((m.map Wn.av).set i z).length := fun z => by rw [List.length_set]; omega
  have hsz : ∀ z, (m.map Wn.av).length = ((m.map Wn.av).set i z).length := fun z => by rw [List.length_set]
  have hsz2 : ((((m.set i m[j]).set j m[i]).map Wn.av)).length = (m.map Wn.av).length := by simp
  have hpu : ∀ y : Wn, ∀ (σ : Store) (μ : Nat → Value) (w : World) (A : Nat → Prop) (z : Value), rep σ μ w A (.agg (Wn.av y)) z → rep [] μ w A (.agg (Wn.av y)) z := fun y _ _ _ _ _ h => rep_pureB h rfl
  generalize m[j] = y at *
  generalize m[i] = x at *
  generalize ((m.set i y).set j x) = m' at *
  repeat' (first | ((first | apply o_do | apply d_do | apply d_yes rfl rfl rfl); first | exact ls_indexAddr_own tab_ok rfl rfl rfl rfl rfl hj hjx rfl | exact ls_indexAddr_own tab_ok rfl rfl rfl rfl rfl rfl hix rfl | exact ls_indexAddr_own tab_ok rfl rfl (hsz _) rfl rfl hj (hjz _) rfl | exact ls_load_eref tab_ok rfl rfl rfl e1 rfl rfl rfl rfl | exact ls_load_eref tab_ok rfl rfl rfl e2 rfl rfl rfl rfl | exact ls_store_eref (cs' := Wn.av y) tab_ok rfl rfl rfl rfl e2 rfl rfl (hpu _) rfl rfl rfl rfl | exact ls_store_eref (cs' := Wn.av x) tab_ok rfl rfl rfl (hsz _) e3 rfl rfl (hpu _) rfl rfl rfl rfl | exact lsq) | refine a_seq ?_ | refine a_region ?_ | refine o_nil ?_ | refine a_block ?_ | refine a_ret ?_ | refine a_exit ?_ | refine a_skip ?_ | refine a_draw mixed ?_ | refine d_nil (by kernel_rfl) ?_ | refine o_yes rfl rfl rfl ?_ | refine o_no rfl rfl rfl (by decide) ?_ | refine o_no' rfl rfl rfl ?_ | refine a_condT rfl ?_ | refine a_condF rfl ?_ | refine d_no rfl rfl rfl (by decide) ?_ | refine d_no' rfl rfl rfl ?_ | (refine wq2 (fun hb => ?_) (fun hb => ?_) <;> (simp only [hb]; try simp only [hbs, ne_eq] at hb; try (exfalso; first | omega | exact hb trivial))) | fail)
  refine ⟨⟨(i + 1, m'), by dsimp only; omega, hr2⟩, by dsimp only; omega, ?_⟩
  refine ⟨by repeat' (first | exact trivial | exact FinA.one (FinB.cell (FinC.same rfl)) | exact FinA.one (FinB.cell FinC.nil) | exact FinA.bound rfl | exact FinA.one (FinB.cell (FinC.own rfl rfl rfl rfl)) | exact FinA.one (FinB.cell (FinC.v (by first | rfl | ((first | (simp only [hN]; done) | (simp only [hN]; rfl) | (exact hsz2.symm) | (dsimp only; congr 1; omega)))))) | exact FinA.one (FinB.cell (FinC.ow rfl (by first | rfl | ((first | (simp only [hN]; done) | (simp only [hN]; rfl) | (exact hsz2.symm) | (dsimp only; congr 1; omega)))))) | exact FinA.one (FinB.agg' rfl rfl) | refine ⟨⟨_, rfl, ?_⟩, ?_⟩), by repeat' (first | exact trivial | refine ⟨⟨_, rfl, by first | rfl | ((first | (simp only [hN]; done) | (simp only [hN]; rfl) | (exact hsz2.symm) | (dsimp only; congr 1; omega)); done) | (simp [renO, *]; done)⟩, by first | rfl | assumption, ?_⟩), rfl⟩
 ·obtain rfl := hr.done (by omega)
  repeat' (first | ((first | apply o_do | apply d_do | apply d_yes rfl rfl rfl); exact lsq) | refine a_seq ?_ | refine a_region ?_ | refine o_nil ?_ | refine a_block ?_ | refine a_ret ?_ | refine a_exit ?_ | refine a_skip ?_ | refine a_draw mixed ?_ | refine d_nil (by kernel_rfl) ?_ | refine o_yes rfl rfl rfl ?_ | refine o_no rfl rfl rfl (by decide) ?_ | refine o_no' rfl rfl rfl ?_ | refine a_condT rfl ?_ | refine a_condF rfl ?_ | refine d_no rfl rfl rfl (by decide) ?_ | refine d_no' rfl rfl rfl ?_ | (refine wq2 (fun hb => ?_) (fun hb => ?_) <;> (simp only [hb]; try simp only [hbs, ne_eq] at hb; try (exfalso; first | omega | exact hb trivial))) | fail)
  all_goals refine rq rfl ?_
  all_goals exact fnq
end Go.Proofs.Ytlgbadlgfdlheaa
namespace Go.Proofs.Ytlgbadlgfdlheaa
open Go.RowKit Go.Shelf Go.Maps
attribute [local go_sem] Oper.semAt_some
theorem info_Win : (Try.prog.info? 34).map (fun i => (i.zero, i.size, i.bytes)) = some (some (.agg #[.int .i64 0, .int .i64 0]), 2, 16) := by kernel_rfl
def RowW (base : Nat) (W : World) (v : Value) (ws : List Wn) : Prop := W.ownsRow base 34 2 v ws.length (ws.flatMap Wn.cells)
theorem cell_two_new (w : World) (x y : Value) (t : TypeId) : ∀ j u, [x, y][j]? = some u → (w.alloc (.cells #[x, y] t)).cell? ((⟨w.heap.size, 0, none⟩ : Addr).add j) = some u := by
 intro j u hj
 match j, hj with
 | 0, hj => simp at hj; subst hj; simp [Addr.add]
 | 1, hj => simp at hj; subst hj; simp [Addr.add]
theorem ownsRow_ne' {W : World} {base : Nat} {e : TypeId} {size : Nat} {v : Value} {k : Nat} {xs : List Value} (h : W.ownsRow base e size v k xs) {j : Nat} {o : Obj} (hj : W.heap[j]? = some o) (hno : ∀ cur, o ≠ .cells cur e (0, 0)) :
  some j ≠ v.ownBlock := by
 rcases h.2 with ⟨rfl, _⟩ | ⟨g, cap, cur, rfl, _, hgb, _⟩
 ·simp [Value.ownBlock]
 ·intro e'
  have : j = g := by simpa [Value.ownBlock] using e'
  subst this; rw [hgb] at hj; cases hj; exact hno cur rfl
theorem ownsRow_base {W : World} {base : Nat} {e : TypeId} {size : Nat} {v : Value} {k : Nat} {xs : List Value} (h : W.ownsRow base e size v k xs) {j : Nat} (hj : v.ownBlock = some j) : base ≤ j := by
 rcases h.2 with ⟨rfl, _⟩ | ⟨g, cap, cur, rfl, hb, _⟩
 ·simp [Value.ownBlock] at hj
 ·have : g = j := by simpa [Value.ownBlock] using hj
  omega
theorem Kp3.of_caught {b : Nat} {size slide t : Int} {W W' : World} (h : Caught b size slide t W) (h' : Caught b size slide t W') (hs : W.heap.size ≤ W'.heap.size) : Kp3 b W W' := by
 refine ⟨hs, fun k h1 h2 => ?_⟩
 obtain rfl | rfl | rfl : k = b ∨ k = b + 1 ∨ k = b + 2 := by omega
 ·exact (show W'.heap[k]? = _ from h'.2.1).trans (show W.heap[k]? = _ from h.2.1).symm
 ·exact (show W'.heap[b + 1]? = _ from h'.2.2.1).trans (show W.heap[b + 1]? = _ from h.2.2.1).symm
 ·exact (show W'.heap[b + 2]? = _ from h'.2.2.2).trans (show W.heap[b + 2]? = _ from h.2.2.2).symm
theorem caught_own {β : Type} {b B : Nat} {size slide t : Int} : OwnFrom B (fun (_ : β) W => Caught b size slide t W) := by
 rintro s X Y row hs hg hr
 have key : ∀ {k : Nat} {u : Value}, Boxed X k 2 u → Boxed Y k 2 u := fun {k u} h => h.kept hg (fun e => by
  obtain ⟨_, o, ho, hc⟩ := hr k e.symm
  rw [show X.heap[k]? = _ from h] at ho; cases ho; cases hc)
 exact ⟨Nat.le_trans hs.1 hg.size, key hs.2.1, key hs.2.2.1, key hs.2.2.2⟩
set_option maxRecDepth 100000 in
theorem of_in (F : Fence) (hro : F.round = none) (hfn : F.fn 16) (hRt : F.fn 21) (hBk : F.fn 29) (hB1 : F.fn 44) (hFl : F.fn 45) (hAd : F.fn 46) (hRv : F.fn 30) (n : Nat) (hn : 3 ≤ n) (size slide t : Int) (w : World) (hok : okT size slide t = true)
  (cR : ∀ w, CallsIn F (n - 1) Try.prog 21 #[.int .i64 size, .int .i64 slide] w fun e w' => e = .returned (.bool true) ∧ w = w')
  (cF : ∀ w, CallsIn F (n - 1 - 1) Try.prog 45 #[.int .i64 t, .int .i64 slide] w fun e w' => e = .returned (.int .i64 (floorT t slide)) ∧ Below w.heap.size w w')
  (cA : ∀ k w, CallsIn F (n - 1 - 1) Try.prog 46 #[.int .i64 k, .int .i64 size] w fun e w' => e = .returned (.int .i64 (addT k size)) ∧ Below w.heap.size w w')
  (cV : ∀ base ws v w, RowW base w v ws → ws.length ≤ 1000000 → CallsIn F (n - 1) Try.prog 30 #[v] w fun e w' => (∃ r, e = .returned r) ∧ RowW base w' v ws.reverse ∧ w.grownBy w' v.ownBlock) :
  CallsIn F n Try.prog 16 #[.int .i64 size, .int .i64 slide, .int .i64 t] w fun e w' => ∃ v, e = .returned v ∧ RowW w.heap.size w' v (winL size slide t) ∧ Below w.heap.size w w' := by
 have h1 : 1 ≤ n := by omega
 obtain ⟨⟨g1, g2, g3, g4⟩, g5, g6⟩ := okT_iff.1 hok
 refine callsIn_of_wp_marks Try.func16 rfl hfn ?_ hro
 simp only [Try.ntmps16, List.size_toArray, List.length_cons, List.length_nil, Nat.reduceAdd, Nat.reduceSub, Array.replicate_succ, Array.replicate_zero, List.push_toArray, List.append_toArray, List.nil_append, List.cons_append]
 gi_wp2_with (first | (gi_at_call 21; refine (cR _).mono ?_; rintro e w1 ⟨rfl, rfl⟩) | (gi_at_call 29; refine (back_in F hro hBk _ size slide t _).mono ?_; rintro e w1 ⟨rfl, rfl⟩))
 have b0 := (((Boxed.new w 58 (.slice none 0 0)).alloc (.cells #[.int .i64 size] 2)).alloc (.cells #[.int .i64 slide] 2)).alloc (.cells #[.int .i64 t] 2)
 have b1 := ((Boxed.new (w.alloc (.cells #[.slice none 0 0] 58)) 2 (.int .i64 size)).alloc (.cells #[.int .i64 slide] 2)).alloc (.cells #[.int .i64 t] 2)
 have b2 := (Boxed.new ((w.alloc (.cells #[.slice none 0 0] 58)).alloc (.cells #[.int .i64 size] 2)) 2 (.int .i64 slide)).alloc (.cells #[.int .i64 t] 2)
 have b3 := Boxed.new (((w.alloc (.cells #[.slice none 0 0] 58)).alloc (.cells #[.int .i64 size] 2)).alloc (.cells #[.int .i64 slide] 2)) 2 (.int .i64 t)
 simp only [World.size_alloc] at b1 b2 b3
 rw [show decide (t < 0) = false by simp; omega, show decide (1099511627776 ≤ t) = false by simp; omega]
 have hB0 : Below w.heap.size w ((((w.alloc (.cells #[.slice none 0 0] 58)).alloc (.cells #[.int .i64 size] 2)).alloc (.cells #[.int .i64 slide] 2)).alloc (.cells #[.int .i64 t] 2)) := ((((Below.refl _ w).alloc (Nat.le_refl _) _).alloc (by simp) _).alloc (by simp; omega) _).alloc (by simp; omega) _
 have hsz : ((((w.alloc (.cells #[.slice none 0 0] 58)).alloc (.cells #[.int .i64 size] 2)).alloc (.cells #[.int .i64 slide] 2)).alloc (.cells #[.int .i64 t] 2)).heap.size = w.heap.size + 4 := by simp
 obtain ⟨W0, hW0⟩ : ∃ W0, ((((w.alloc (.cells #[.slice none 0 0] 58)).alloc (.cells #[.int .i64 size] 2)).alloc (.cells #[.int .i64 slide] 2)).alloc (.cells #[.int .i64 t] 2)) = W0 := ⟨_, rfl⟩
 rw [hW0] at b0 b1 b2 b3 hB0 hsz ⊢
 clear hW0
 have hC0 : Caught (w.heap.size + 1) size slide t W0 := ⟨by omega, b1, b2, b3⟩
 refine wpIn_rangeFunc_ownH hro h1 (gf := 44) (lb := #[.pointer (some ⟨w.heap.size + 1 + 2, 0, none⟩), .pointer (some ⟨w.heap.size + 1 + 1, 0, none⟩), .pointer (some ⟨w.heap.size + 1, 0, none⟩)]) rfl hB1 (enters_of Try.func44 (by kernel_rfl) rfl)
  (back_stops F hro hB1 hFl hAd (n - 1) (by omega) (w.heap.size + 1) size slide t hok cF cA W0 hC0) (fun h k => Kp3.trans h k) (fun W l o o' hl ho _ _ => ⟨by simp, fun k _ h2 => World.putObj_heap_other (by omega)⟩) (Below.refl _ _) (fun _ => rfl)
  (fun pre W => ((∃ v, Boxed W w.heap.size 58 v ∧ W.ownsRow w.heap.size 34 2 v pre.length (pre.flatMap Wn.cells) ∧ True) ∧ Caught (w.heap.size + 1) size slide t W) ∧ Below w.heap.size w W)
  (fun _ _ _ => False)
  (OwnFrom.and (OwnFrom.and (Own.from (holdsRow_own w.heap.size w.heap.size 58 34 2 List.length (fun pre => pre.flatMap Wn.cells) (fun _ _ => True)) _) caught_own) (ownFrom_below (Nat.le_refl _) (by omega)))
  (fun _ _ _ _ _ hs _ _ => hs)
  ⟨⟨⟨_, b0, World.ownsRow_nil _ _ _ _, trivial⟩, hC0⟩, hB0⟩
  (fun x a' W => ∃ Bx, w.heap.size + 3 < Bx ∧ W.heap[Bx]? = some (.cells #[.int .i64 x.lo, .int .i64 x.hi] 34 (0, 0)) ∧ a' = { tmps := #[.int .i64 size, .int .i64 slide, .int .i64 t, undef, undef, undef, .slice none 0 0, .pointer (some ⟨w.heap.size, 0, none⟩), .pointer (some ⟨Bx, 0, none⟩), .int .i64 size, .int .i64 slide, .bool true, .bool false, .bool false, .int .i64 t, .bool false, .bool false, .bool false, .int .i64 t, .bool false, .bool (false || false), .int .i64 size, .int .i64 slide, .int .i64 t, .func (.func 44) #[] #[.pointer (some ⟨w.heap.size + 1 + 2, 0, none⟩), .pointer (some ⟨w.heap.size + 1 + 1, 0, none⟩), .pointer (some ⟨w.heap.size + 1, 0, none⟩)], wVal x, undef, undef, undef, undef, undef, undef, undef], defers := [] })
  (fun x a' _ X Y row hs hg hr => by
   obtain ⟨Bx, h1, h2, h3⟩ := hs
   refine ⟨Bx, h1, (hg.block Bx (Array.getElem?_eq_some_iff.1 h2).1 (fun e => ?_)).trans h2, h3⟩
   obtain ⟨_, o, ho, hc⟩ := hr Bx e.symm
   rw [h2] at ho; cases ho; cases hc)
  ?assign ?body ?done ?stop
 case assign =>
  rintro l pre ⟨xl, xh⟩ W K ⟨⟨⟨v, hv, hrow, _⟩, hC⟩, hB⟩ hK
  simp only [wVal]
  gi_wp2
  have kp : Kp3 (w.heap.size + 1) W (W.alloc (.cells #[.int .i64 xl, .int .i64 xh] 34)) := ⟨by simp, fun k _ h2 => Below.heap_alloc W _ k (by have := hC.1; omega)⟩
  exact hK _ _ ((KeepsOthers.alloc _ _).from _) kp ⟨⟨⟨v, hv.alloc _, hrow.alloc _, trivial⟩, hC.kept kp⟩, hB.alloc hB.size _⟩ ⟨W.heap.size, by have := hC.1; omega, World.alloc_heap_new W _, rfl⟩
 case body =>
  rintro l pre ⟨xl, xh⟩ a' W hl ⟨r, hr⟩ ⟨⟨⟨v, hv, hrow, _⟩, hC⟩, hB⟩ ⟨Bx, hBx, bX, rfl⟩ hlt
  have cv := hv.cell
  have cx0 : W.cell? ⟨Bx, 0, none⟩ = some (.int .i64 xl) := by simp [World.cell?, bX]
  obtain ⟨i0, hi0, hz0, hz1, hz2⟩ := info_parts info_Win
  have cx1 : W.cell? ⟨Bx, 1, none⟩ = some (.int .i64 xh) := by simp [World.cell?, bX]
  have hpl : pre.length ≤ 16 := by have := cntK_le hok; omega
  have hBs := hB.size
  have key0 : ∀ {k : Nat} {u : Value}, Boxed W k 2 u → k ≠ w.heap.size → ∀ {v' : Value} {w1 : World}, (W.alloc (.cells #[.int .i64 xl, .int .i64 xh] 34)).grownBy w1 v.ownBlock → Boxed (w1.setCell ⟨w.heap.size, 0, none⟩ v') k 2 u := fun {k u} h hne {v' w1} hgrow =>
   (((h.alloc _).kept hgrow (h.not_row (by decide) hrow)).other hne v')
  gi_wp2_with (gi_at_builtin; refine wpListIn_append_own _ rfl _ _ 58 rfl w.heap.size 34 i0 (.agg #[.int .i64 0, .int .i64 0]) 2 16 Try.underlying58 hi0 hz0 hz1 hz2 rfl (by decide) _ _ _ rfl (hrow.alloc _) ⟨W.heap.size, 0, none⟩ 1 1 [.int .i64 xl, .int .i64 xh] rfl rfl (cell_two_new _ _ _ _) (by simp [Value.oneCell']) (by unfold maxLen; omega) (by omega) (by simp; omega) ?_; intro v' w1 hown' hgrow _; obtain ⟨g', cap', rfl⟩ := ownsRow_succ hown'; obtain ⟨hv1, hv2, hr2, hk2, hb2⟩ := hv.appended (by decide) hrow hBs (Nat.le_refl _) hown' hgrow; have hc1 := hv1.cell; have hf1 := hv1.frozen)
  have hC2 : Caught (w.heap.size + 1) size slide t (w1.setCell ⟨w.heap.size, 0, none⟩ (.slice (some ⟨g', 0, none⟩) (pre.length + 1) cap')) := ⟨by have := hC.1; have := hb2.size; omega, key0 hC.2.1 (by omega) hgrow, key0 hC.2.2.1 (by omega) hgrow, key0 hC.2.2.2 (by omega) hgrow⟩
  have hr3 : (w1.setCell ⟨w.heap.size, 0, none⟩ (.slice (some ⟨g', 0, none⟩) (pre.length + 1) cap')).ownsRow w.heap.size 34 2 (.slice (some ⟨g', 0, none⟩) (pre.length + 1) cap') (pre ++ [Wn.mk xl xh]).length ((pre ++ [Wn.mk xl xh]).flatMap Wn.cells) := by
   rw [List.length_append, List.flatMap_append]
   exact hr2
  exact ⟨hk2.from _, Kp3.of_caught hC hC2 hb2.size, ⟨⟨_, hv2, hr3⟩, hC2⟩, hB.trans hb2⟩
 case done =>
  rintro D ys W hD rfl ⟨⟨⟨v, hv, hrow, _⟩, hC⟩, hB⟩ hK
  have cv := hv.cell
  have hlen : (upto size slide t (cntK size slide t)).length ≤ 1000000 := by simp [upto]; have := cntK_le hok; omega
  have hne : some D ≠ v.ownBlock := ownsRow_ne' hrow hK (fun cur e => by cases e)
  gi_wp2_with (gi_at_call 30; refine (cV _ _ _ _ hrow hlen).mono ?_; rintro e w2 ⟨⟨r, rfl⟩, hrow2, hg2⟩; have hv2 := hv.kept hg2 (hv.not_row (by decide) hrow); have cv2 := hv2.cell)
  have hK2 : w2.heap[D]? = some (.deferred (some [])) := (hg2.block D (Array.getElem?_eq_some_iff.1 hK).1 hne).trans hK
  rw [upto_rev hok] at hrow2
  have hB2 : Below w.heap.size w w2 := hB.grown hg2 hB.size (fun k e => ownsRow_base hrow e)
  refine ⟨by simp, .inl ⟨_, _, rfl, run_takeDeferred hK2, ?_⟩⟩
  exact ⟨_, results_tmp rfl _ _ _, v, rfl, hrow2.kept (grownBy_putObj' _ D (.deferred none)) (.inr hne.symm), hB2.trans (belowK_b (w := w) (Nat.le_refl _) w2 D _ _ (by omega) hK2 rfl rfl)⟩
 case stop =>
  rintro D c pre W hD _ h _
  exact h.elim
end Go.Proofs.Ytlgbadlgfdlheaa
namespace Go.Proofs.Ytlgbadlgfdlheaa
open Go.RowKit
theorem own_base' {w : World} {b b' : Nat} {e : TypeId} {size n : Nat} {v : Value} {xs : List Value} (h : w.ownsRow b e size v n xs) (hb : b' ≤ b) : w.ownsRow b' e size v n xs := by
 refine ⟨h.1, ?_⟩
 rcases h.2 with h2 | ⟨g, cap, cur, h1, h2, h3⟩
 ·exact .inl h2
 ·exact .inr ⟨g, cap, cur, h1, by omega, h3⟩
theorem ac_row1 {P : Program} {f : FuncId} {e size : Nat} {xs ys : List (List AV)} (h : AC P f [.own 0 xs.length] [(0, .row e size xs)] (.tup []) [(0, .row e size ys)]) (hl : ys.length = xs.length) {base : Nat} {w : World} {v : Value} {us : List Value}
  (hv : w.ownsRow base e size v xs.length us) (hr : ∀ μ A, repLL [] μ w A size xs us) (htag : Nat.blt e 1048576 = true) :
  Calls P f #[v] w fun r w' => (∃ y, r = .returned y) ∧ (∃ us', w'.ownsRow base e size v ys.length us' ∧ ∃ μ A, repLL [] μ w' A size ys us') ∧ w.grownBy w' v.ownBlock := by
 have hfind : ∀ (zs : List (List AV)) id o, find [((0 : Nat), SObj.row e size zs)] id = some o → id = 0 ∧ o = .row e size zs := by
  intro zs id o hf
  rw [find_cons] at hf
  split at hf
  ·rename_i e1; injection hf with hf; exact ⟨e1.symm, hf.symm⟩
  ·simp [find] at hf
 have hone : v.oneCell' = true := by
  rcases hv.2 with ⟨h1, _⟩ | ⟨g, cap, cur, h1, _⟩ <;> rw [h1] <;> rfl
 refine (h.out w (fun _ => False) (fun _ => v) [v] ⟨fun id o hf => ?_, fun id id' o o' g h1 h2 _ _ => ?_, fun _ h => h.elim, fun _ _ _ _ _ h => h⟩ ?_).mono ?_
 ·obtain ⟨rfl, rfl⟩ := hfind xs id o hf
  exact ⟨us, OwnS.of (own_base' hv (Nat.zero_le _)) htag, hr _ _⟩
 ·rw [(hfind _ _ _ h1).1, (hfind _ _ _ h2).1]
 ·simp only [repL, rep, find_cons, if_true]
  exact ⟨v, [], rfl, ⟨hone, .inr ⟨e, size, xs, rfl, Nat.le_refl _, fun _ => rfl⟩⟩, rfl⟩
 ·rintro r w' ⟨y, μ', rfl, hs', _, hg⟩
  obtain ⟨us', ho', hr'⟩ := hs'.obj 0 _ (by rw [find_cons, if_pos rfl])
  have ho' := ho'.own htag
  obtain ⟨zs, hz, _, hmu⟩ : ∃ zs, find [((0 : Nat), SObj.row e size ys)] 0 = some (.row e size zs) ∧ xs.length ≤ zs.length ∧ (zs.length = xs.length → μ' 0 = v) := by
   rcases hg.row 0 e size xs (by rw [find_cons, if_pos rfl]) with hd | h
   ·rw [find_cons, if_pos rfl] at hd; cases hd
   ·exact h
  have := (hfind ys 0 _ hz).2
  injection this with _ _ hzs
  subst hzs
  have hmu := hmu hl
  rw [hmu] at ho'
  refine ⟨⟨y, rfl⟩, ⟨us', ?_, μ', _, hr'⟩, ⟨hg.os, hg.tape, hg.output, hg.size, fun k hk hne => hg.same k hk fun id o hf => ?_⟩⟩
  ·refine ⟨ho'.1, ?_⟩
   rcases ho'.2 with h2 | ⟨g, cap, cur, h1, h2, h3⟩
   ·exact .inl h2
   ·refine .inr ⟨g, cap, cur, h1, ?_, h3⟩
    rcases hv.2 with ⟨h4, _⟩ | ⟨g', cap', cur', h4, h5, _⟩
    ·rw [h4] at h1; simp at h1
    ·rw [h4] at h1; simp at h1; omega
  ·rintro e1
   apply hne
   rcases hv.2 with ⟨h4, _⟩ | ⟨g', cap', cur', h4, h5, _⟩
   ·rw [h4] at e1; simp [blk] at e1
   ·rw [h4] at e1 ⊢; simpa [blk, Value.ownBlock] using e1.symm
theorem repLL_wn {μ : Nat → Value} {w : World} {A : Nat → Prop} : ∀ {ws : List Wn} {us : List Value}, repLL [] μ w A 2 (ws.map Wn.av) us → us = ws.flatMap Wn.cells
 | [], us, h => by simpa [repLL] using h
 | x :: ws, us, h => by
  simp only [List.map_cons, repLL] at h
  obtain ⟨u1, u2, rfl, _, h2, h3⟩ := h
  have e1 : u1 = Wn.cells x := by
   simp only [Wn.av, repC, rep] at h2
   obtain ⟨a, l, rfl, _, ⟨rfl, _⟩, b, m, rfl, _, ⟨rfl, _⟩, rfl⟩ := h2
   rfl
  rw [repLL_wn h3, e1]; rfl
theorem wn_repLL {μ : Nat → Value} {w : World} {A : Nat → Prop} : ∀ ws : List Wn, repLL [] μ w A 2 (ws.map Wn.av) (ws.flatMap Wn.cells)
 | [] => rfl
 | x :: ws => ⟨Wn.cells x, ws.flatMap Wn.cells, rfl, rfl, repC_con (cs := Wn.cells x) rfl, wn_repLL ws⟩
theorem c_Rev (base : Nat) (ws : List Wn) (v : Value) (w : World) (h : RowW base w v ws) (hl : ws.length ≤ 1000000) :
  Calls Try.prog 30 #[v] w fun e w' => (∃ r, e = .returned r) ∧ RowW base w' v ws.reverse ∧ w.grownBy w' v.ownBlock := by
 have hv : w.ownsRow base 34 2 v (ws.map Wn.av).length (ws.flatMap Wn.cells) := by rw [List.length_map]; exact h
 refine (ac_row1 (p_Rev ws hl) (by simp) hv (fun _ _ => wn_repLL ws) rfl).mono ?_
 rintro e w' ⟨h1, ⟨us', h2, μ, A, h3⟩, h4⟩
 refine ⟨h1, ?_, h4⟩
 rw [repLL_wn h3, List.length_map] at h2
 exact h2
theorem c_Of (size slide t : Int) (w : World) (hok : okT size slide t = true) :
  Calls Try.prog 16 #[.int .i64 size, .int .i64 slide, .int .i64 t] w fun e w' => ∃ v, e = .returned v ∧ RowW w.heap.size w' v (winL size slide t) ∧ Below w.heap.size w w' := by
 have hwin : winB size slide = true := by
  unfold okT at hok
  simp only [Bool.and_eq_true] at hok
  exact hok.1
 refine (callsIn_wide (n := 3)).1 (of_in Fence.wide rfl trivial trivial trivial trivial trivial trivial trivial 3 (by omega) size slide t w hok (fun w => ?_) (fun w => callsIn_wide.2 (c_floor t slide w)) (fun k w => callsIn_wide.2 (c_addT k size w)) (fun base ws v w h hl => callsIn_wide.2 (c_Rev base ws v w h hl)))
 refine callsIn_wide.2 ((window_Right size slide w).mono ?_)
 rintro e w' ⟨h1, h2⟩
 exact ⟨by rw [h1, hwin], h2⟩
theorem p_OfNo (size slide t : Int) (hok : okT size slide t = false) : PC Try.prog 16 [.v (.int .i64 size), .v (.int .i64 slide), .v (.int .i64 t)] (.v (.slice none 0 0)) := by
 have h := p_wRight size slide
 cases hw : winB size slide
 ·rw [hw] at h
  refine PC.mk (ac_body tab_ok Try.func16 rfl (by kernel_rfl) rfl ?_); intro w0 M μ0; simp only [Try.ntmps16, List.length_cons, List.length_nil, Nat.reduceAdd, Nat.reduceSub, numb]
  repeat' (first | ((first | apply o_do | apply d_do | apply d_yes rfl rfl rfl); first | exact lsc (h) | exact lsq) | refine a_seq ?_ | refine a_region ?_ | refine o_nil ?_ | refine a_block ?_ | refine a_ret ?_ | refine a_exit ?_ | refine a_skip ?_ | refine a_draw mixed ?_ | refine d_nil (by kernel_rfl) ?_ | refine o_yes rfl rfl rfl ?_ | refine o_no rfl rfl rfl (by decide) ?_ | refine o_no' rfl rfl rfl ?_ | refine a_condT rfl ?_ | refine a_condF rfl ?_ | refine d_no rfl rfl rfl (by decide) ?_ | refine d_no' rfl rfl rfl ?_ | (refine wq2 (fun hb => ?_) (fun hb => ?_) <;> (simp only [hb]; try simp only [hbs, ne_eq] at hb; try (exfalso; first | omega | exact hb trivial))) | fail)
  all_goals refine rq rfl ?_
  all_goals exact fnq
 ·rw [hw] at h
  by_cases h0 : t < 0
  ·refine PC.mk (ac_body tab_ok Try.func16 rfl (by kernel_rfl) rfl ?_); intro w0 M μ0; simp only [Try.ntmps16, List.length_cons, List.length_nil, Nat.reduceAdd, Nat.reduceSub, numb]
   repeat' (first | ((first | apply o_do | apply d_do | apply d_yes rfl rfl rfl); first | exact lsc (h) | exact lsq) | refine a_seq ?_ | refine a_region ?_ | refine o_nil ?_ | refine a_block ?_ | refine a_ret ?_ | refine a_exit ?_ | refine a_skip ?_ | refine a_draw mixed ?_ | refine d_nil (by kernel_rfl) ?_ | refine o_yes rfl rfl rfl ?_ | refine o_no rfl rfl rfl (by decide) ?_ | refine o_no' rfl rfl rfl ?_ | refine a_condT rfl ?_ | refine a_condF rfl ?_ | refine d_no rfl rfl rfl (by decide) ?_ | refine d_no' rfl rfl rfl ?_ | (refine wq2 (fun hb => ?_) (fun hb => ?_) <;> (simp only [hb]; try simp only [hbs, ne_eq] at hb; try (exfalso; first | omega | exact hb trivial))) | fail)
   all_goals refine rq rfl ?_
   all_goals exact fnq
  ·have h1 : 1099511627776 ≤ t := by
    simp [okT, hw] at hok
    omega
   refine PC.mk (ac_body tab_ok Try.func16 rfl (by kernel_rfl) rfl ?_); intro w0 M μ0; simp only [Try.ntmps16, List.length_cons, List.length_nil, Nat.reduceAdd, Nat.reduceSub, numb]
   repeat' (first | ((first | apply o_do | apply d_do | apply d_yes rfl rfl rfl); first | exact lsc (h) | exact lsq) | refine a_seq ?_ | refine a_region ?_ | refine o_nil ?_ | refine a_block ?_ | refine a_ret ?_ | refine a_exit ?_ | refine a_skip ?_ | refine a_draw mixed ?_ | refine d_nil (by kernel_rfl) ?_ | refine o_yes rfl rfl rfl ?_ | refine o_no rfl rfl rfl (by decide) ?_ | refine o_no' rfl rfl rfl ?_ | refine a_condT rfl ?_ | refine a_condF rfl ?_ | refine d_no rfl rfl rfl (by decide) ?_ | refine d_no' rfl rfl rfl ?_ | (refine wq2 (fun hb => ?_) (fun hb => ?_) <;> (simp only [hb]; try simp only [hbs, ne_eq] at hb; try (exfalso; first | omega | exact hb trivial))) | fail)
   all_goals refine rq rfl ?_
   all_goals exact fnq
theorem ok_Of : CallOK Try.prog 16 := ⟨_, Try.func16, by kernel_rfl, rfl⟩
theorem p_Of (size slide t : Int) : AC Try.prog 16 [.v (.int .i64 size), .v (.int .i64 slide), .v (.int .i64 t)] [] (.own 0 ((winL size slide t).map Wn.av).length) [(0, .row 34 2 ((winL size slide t).map Wn.av))] := by
 refine ac_own ok_Of fun w A vs h => ?_
 simp only [repL, rep] at h
 obtain ⟨a, l, rfl, ⟨rfl, _⟩, b, m, rfl, ⟨rfl, _⟩, c, n, rfl, ⟨rfl, _⟩, rfl⟩ := h
 cases hok : okT size slide t
 ·have e : winL size slide t = [] := by simp [winL, hok]
  rw [e]
  refine ((p_OfNo size slide t hok).law (w := w) (vs := [_, _, _]) ⟨_, _, rfl, by simp [rep, scal], _, _, rfl, by simp [rep, scal], _, _, rfl, by simp [rep, scal], rfl⟩).mono ?_
  rintro e w' ⟨rfl, hb⟩
  exact ⟨_, [], rfl, World.ownsRow_nil _ _ _ _, rfl, hb⟩
 ·refine (c_Of size slide t w hok).mono ?_
  rintro e w' ⟨v, rfl, h1, h2⟩
  exact ⟨v, _, rfl, by rw [List.length_map]; exact h1, wn_repLL _, h2⟩
end Go.Proofs.Ytlgbadlgfdlheaa
namespace Go.Proofs.Ytlgbadlgfdlheaa
open Go.RowKit
section
variable {P : Program} {T : List TyI} {Γ : Ctx} {s : ASt} {Q : Exit → ASt → Prop} {ops : Array Oper} {rest : List Oper} {ty ty' : TypeId} {pos pos' : String} {after after' : Array Edge}
end
end Go.Proofs.Ytlgbadlgfdlheaa
namespace Go.Proofs.Ytlgbadlgfdlheaa
open Go.RowKit
def closedW (mark : Int) (x : Wn) : Bool := decide (x.hi ≤ mark)
def openW (mark : Int) (ws : List Wn) : List Wn := ws.filter fun x => !closedW mark x
theorem openW_snoc (mk : Int) (l : List Wn) (x : Wn) : openW mk (l ++ [x]) = openW mk l ++ (if closedW mk x = true then [] else [x]) := by
 unfold openW
 rw [List.filter_append]
 cases h : closedW mk x <;> simp [h]
def DelX (mk : Int) (xs : List Wn) (x : Nat × Nat × List Wn) : Prop := x.1 < x.2.1 ∧ x.2.1 ≤ xs.length ∧ x.2.2.length = xs.length ∧ x.2.2.take x.1 = openW mk (xs.take x.2.1) ∧ ∀ p, x.2.1 ≤ p → x.2.2[p]? = xs[p]?
theorem DelX.start {mk : Int} {xs : List Wn} {q : Nat} (h : q < xs.length) (h1 : (xs.take q).all (fun x => !closedW mk x) = true) (h2 : closedW mk xs[q] = true) : DelX mk xs (q, q + 1, xs) := by
 refine ⟨by simp, by dsimp only; omega, rfl, ?_, fun p _ => rfl⟩
 dsimp only
 rw [take_snoc xs q h, openW_snoc, if_pos h2, List.append_nil]
 symm
 unfold openW
 rw [List.filter_eq_self]
 intro a ha
 exact List.all_eq_true.1 h1 a ha
theorem DelX.keep {mk : Int} {xs m : List Wn} {i j : Nat} {x : Wn} (h : DelX mk xs (i, j, m)) (hj : j < xs.length) (hx : xs[j] = x) (hc : closedW mk x = false) : DelX mk xs (i + 1, j + 1, m.set i x) := by
 obtain ⟨h1, h2, h3, h4, h5⟩ := h
 dsimp only at h1 h2 h3 h4 h5
 refine ⟨by dsimp only; omega, by dsimp only; omega, by simp [h3], ?_, fun p hp => ?_⟩
 ·dsimp only
  have hi : i < (m.set i x).length := by rw [List.length_set]; omega
  rw [take_snoc _ i hi, List.getElem_set_self, take_snoc xs j hj, openW_snoc, hx, hc, ← h4]
  congr 1
  rw [List.take_set_of_le (Nat.le_refl _)]
 ·dsimp only at hp ⊢
  rw [List.getElem?_set_ne (by omega)]
  exact h5 p (by omega)
theorem DelX.drop {mk : Int} {xs m : List Wn} {i j : Nat} {x : Wn} (h : DelX mk xs (i, j, m)) (hj : j < xs.length) (hx : xs[j] = x) (hc : closedW mk x = true) : DelX mk xs (i, j + 1, m) := by
 obtain ⟨h1, h2, h3, h4, h5⟩ := h
 dsimp only at h1 h2 h3 h4 h5
 refine ⟨by dsimp only; omega, by dsimp only; omega, h3, ?_, fun p hp => h5 p (by dsimp only at hp; omega)⟩
 dsimp only
 rw [take_snoc xs j hj, openW_snoc, hx, if_pos hc, List.append_nil]
 exact h4
end Go.Proofs.Ytlgbadlgfdlheaa
namespace Go.Proofs.Ytlgbadlgfdlheaa
open Go.RowKit
theorem winL_len (size slide t : Int) : (winL size slide t).length ≤ 16 := by
 unfold winL
 split
 ·rename_i h; simp; exact cntK_le h
 ·simp
section
attribute [local go_sem ↓] Go.wp_at_zero Go.wp_at_succ
end
end Go.Proofs.Ytlgbadlgfdlheaa
namespace Go.Proofs.Ytlgbadlgfdlheaa
open Go.RowKit
section
variable {P : Program} {Γ : Ctx} {s : ASt} {dst : Option Tmp} {ty : TypeId} {pos : String} {after : Array Edge}
end
theorem first_nonneg (size slide t : Int) : 0 ≤ firstK size slide t := by unfold firstK; omega
def atL (xs : List Pn) (x : Pn) : Nat := (xs.takeWhile fun p => ahead p x).length
def isL (xs : List Pn) (x : Pn) : Bool := match xs[atL xs x]? with
 | some p => decide (cmpP p x = 0)
 | none => false
theorem atL_le (xs : List Pn) (x : Pn) : atL xs x ≤ xs.length := (List.takeWhile_sublist _).length_le
theorem atL_cons (p x : Pn) (xs : List Pn) : atL (p :: xs) x = if ahead p x then atL xs x + 1 else 0 := by
 unfold atL
 rw [List.takeWhile_cons]
 split <;> simp
theorem atL_iff {xs : List Pn} {x : Pn} (hs : xs.Pairwise (fun p q => ahead p q = true)) : ∀ {q : Nat} (h : q < xs.length), (ahead xs[q] x = true ↔ q < atL xs x) := by
 induction xs with
 | nil => intro q h; simp at h
 | cons p l ih =>
  intro q h
  rw [List.pairwise_cons] at hs
  rw [atL_cons]
  cases q with
  | zero =>
   simp only [List.getElem_cons_zero]
   by_cases hp : ahead p x = true <;> simp [hp]
  | succ q =>
   simp only [List.length_cons] at h
   have hq : q < l.length := by omega
   simp only [List.getElem_cons_succ]
   rw [ih hs.2 hq]
   by_cases hp : ahead p x = true
   ·simp [hp]
   ·simp only [hp, if_false, Bool.false_eq_true]
    constructor
    ·intro h2
     have h3 := (ih hs.2 hq).2 h2
     exact absurd (ahead_trans (hs.1 _ (List.getElem_mem hq)) h3) hp
    ·intro h2; omega
theorem cmpP_zero {p q : Pn} : cmpP p q = 0 ↔ sameP p q := by
 unfold cmpP
 constructor
 ·intro h
  cases h1 : ahead p q
  ·cases h2 : ahead q p
   ·exact ahead_total h1 h2
   ·simp [h1, h2] at h
  ·simp [h1] at h
 ·intro h
  rw [same_ahead h, same_ahead h.symm]; simp
theorem isL_at {xs : List Pn} {x : Pn} {q : Nat} (h : q < xs.length) (hq : q = atL xs x) : isL xs x = decide (cmpP xs[q] x = 0) := by
 subst hq
 simp [isL, h]
theorem isL_none {xs : List Pn} {x : Pn} (h : atL xs x = xs.length) : isL xs x = false := by
 simp [isL, h]
theorem p_place (xs : List Pn) (lo hi : Int) (k : ByteArray) (n a b : Int) (hs : xs.Pairwise (fun p q => ahead p q = true)) (hx : xs.length ≤ 1000000) :
  PC Try.prog 47 [.sl 6 (xs.map Pn.av), .agg [.v (.int .i64 lo), .v (.int .i64 hi), .v (.string k), .v (.int .i64 n), .v (.int .i64 a), .v (.int .i64 b)], .clo (.func 35) [] []] (.tup [.v (.int .i64 (atL xs ⟨lo, hi, k, n, a, b⟩)), .v (.bool (isL xs ⟨lo, hi, k, n, a, b⟩))]) := by
 have hA := fun q h => @atL_iff xs ⟨lo, hi, k, n, a, b⟩ hs q h
 have hle := atL_le xs ⟨lo, hi, k, n, a, b⟩
 have hI := fun q h => @isL_at xs ⟨lo, hi, k, n, a, b⟩ q h
 have hN := @isL_none xs ⟨lo, hi, k, n, a, b⟩
 generalize atL xs ⟨lo, hi, k, n, a, b⟩ = at' at *
 generalize isL xs ⟨lo, hi, k, n, a, b⟩ = is' at *
 refine PC.mk (ac_body tab_ok Try.func47 rfl (by kernel_rfl) rfl ?_); intro w0 M μ0; simp only [Try.ntmps47, List.length_cons, List.length_nil, Nat.reduceAdd, Nat.reduceSub, numb]
 repeat' (first | ((first | apply o_do | apply d_do | apply d_yes rfl rfl rfl); exact lsq) | refine a_seq ?_ | refine a_region ?_ | refine o_nil ?_ | refine a_block ?_ | refine a_ret ?_ | refine a_exit ?_ | refine a_skip ?_ | refine a_draw mixed ?_ | refine d_nil (by kernel_rfl) ?_ | refine o_yes rfl rfl rfl ?_ | refine o_no rfl rfl rfl (by decide) ?_ | refine o_no' rfl rfl rfl ?_ | refine a_condT rfl ?_ | refine a_condF rfl ?_ | refine d_no rfl rfl rfl (by decide) ?_ | refine d_no' rfl rfl rfl ?_ | (refine wq2 (fun hb => ?_) (fun hb => ?_) <;> (simp only [hb]; try simp only [hbs, ne_eq] at hb; try (exfalso; first | omega | exact hb trivial))) | fail)
 refine a_loop (X := {q : Nat × Nat // q.1 ≤ at' ∧ at' ≤ q.2 ∧ q.2 ≤ xs.length}) (fun x => ⟨[(0, .sl 6 (xs.map Pn.av)), (2, .clo (.func 35) [] []), (4, .ref 0 0), (8, .v (.int .i64 x.1.1)), (9, .v (.int .i64 x.1.2))], [(0, .box 67 [.v (.int .i64 lo), .v (.int .i64 hi), .v (.string k), .v (.int .i64 n), .v (.int .i64 a), .v (.int .i64 b)])]⟩) (fun x => x.1.2 - x.1.1) ⟨(0, xs.length), Nat.zero_le _, hle, Nat.le_refl _⟩ ?_ ?_
 ·exact wkS
 rintro ⟨⟨l, h⟩, h1, h2, h3⟩
 dsimp only at h1 h2 h3 ⊢
 by_cases hlt : l < h
 ·obtain ⟨m, hm⟩ : ∃ m, m = (l + h) / 2 := ⟨_, rfl⟩
  have hm2 : ((l : Int) + (h : Int)).tdiv 2 = (m : Int) := by rw [Int.tdiv_eq_ediv_of_nonneg (by omega)]; omega
  have hml : m < xs.length := by omega
  have hel : (xs.map Pn.av)[m]? = some (Pn.av xs[m]) := by simp [hml]
  have hAm := hA m hml
  generalize xs[m] = p at *
  repeat' (first | ((first | apply o_do | apply d_do | apply d_yes rfl rfl rfl); first | exact ls_indexAddr_sl tab_ok rfl rfl rfl rfl (by assumption) rfl | exact ls_quo64 hm2 rfl rfl (by decide) (by omega) rfl | exact lsc ((p_compare _ _ _ _ _ _ _ _ _ _ _ _)) | exact lsq) | refine a_seq ?_ | refine a_region ?_ | refine o_nil ?_ | refine a_block ?_ | refine a_ret ?_ | refine a_exit ?_ | refine a_skip ?_ | refine a_draw mixed ?_ | refine d_nil (by kernel_rfl) ?_ | refine o_yes rfl rfl rfl ?_ | refine o_no rfl rfl rfl (by decide) ?_ | refine o_no' rfl rfl rfl ?_ | refine a_condT rfl ?_ | refine a_condF rfl ?_ | refine d_no rfl rfl rfl (by decide) ?_ | refine d_no' rfl rfl rfl ?_ | (refine wq2 (fun hb => ?_) (fun hb => ?_) <;> (simp only [hb]; try simp only [hbs, ne_eq] at hb; try (exfalso; first | omega | exact hb trivial))) | fail)
  ·have h5 := hAm.1 (cmpP_lt.1 hb)
   refine ⟨⟨(m + 1, h), by dsimp only; omega, by dsimp only; omega, by dsimp only; omega⟩, by dsimp only; omega, ?_⟩
   exact wkS
  ·have h5 : ¬ m < at' := fun h6 => hb (cmpP_lt.2 (hAm.2 h6))
   refine ⟨⟨(l, m), by dsimp only; omega, by dsimp only; omega, by dsimp only; omega⟩, by dsimp only; omega, ?_⟩
   exact wkS
 ·obtain rfl : l = at' := by omega
  have hml : (xs.map Pn.av).length = xs.length := List.length_map _
  by_cases hll : l < xs.length
  ·have hel : (xs.map Pn.av)[l]? = some (Pn.av xs[l]) := by simp [hll]
   rw [hI l hll rfl]
   generalize xs[l] = p at *
   repeat' (first | ((first | apply o_do | apply d_do | apply d_yes rfl rfl rfl); first | exact ls_indexAddr_sl tab_ok rfl rfl rfl rfl (by assumption) rfl | exact lsc ((p_compare _ _ _ _ _ _ _ _ _ _ _ _)) | exact lsq) | refine a_seq ?_ | refine a_region ?_ | refine o_nil ?_ | refine a_block ?_ | refine a_ret ?_ | refine a_exit ?_ | refine a_skip ?_ | refine a_draw mixed ?_ | refine d_nil (by kernel_rfl) ?_ | refine o_yes rfl rfl rfl ?_ | refine o_no rfl rfl rfl (by decide) ?_ | refine o_no' rfl rfl rfl ?_ | refine a_condT rfl ?_ | refine a_condF rfl ?_ | refine d_no rfl rfl rfl (by decide) ?_ | refine d_no' rfl rfl rfl ?_ | (refine wq2 (fun hb => ?_) (fun hb => ?_) <;> (simp only [hb]; try simp only [hbs, ne_eq] at hb; try (exfalso; first | omega | exact hb trivial))) | fail)
   all_goals refine rq rfl ?_
   all_goals exact fnq
  ·rw [hN (by omega)]
   repeat' (first | ((first | apply o_do | apply d_do | apply d_yes rfl rfl rfl); exact lsq) | refine a_seq ?_ | refine a_region ?_ | refine o_nil ?_ | refine a_block ?_ | refine a_ret ?_ | refine a_exit ?_ | refine a_skip ?_ | refine a_draw mixed ?_ | refine d_nil (by kernel_rfl) ?_ | refine o_yes rfl rfl rfl ?_ | refine o_no rfl rfl rfl (by decide) ?_ | refine o_no' rfl rfl rfl ?_ | refine a_condT rfl ?_ | refine a_condF rfl ?_ | refine d_no rfl rfl rfl (by decide) ?_ | refine d_no' rfl rfl rfl ?_ | (refine wq2 (fun hb => ?_) (fun hb => ?_) <;> (simp only [hb]; try simp only [hbs, ne_eq] at hb; try (exfalso; first | omega | exact hb trivial))) | fail)
   all_goals refine rq rfl ?_
   all_goals exact fnq
end Go.Proofs.Ytlgbadlgfdlheaa
