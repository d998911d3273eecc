/-
  Windows that hold a time: the iterator's contract, and the row that is collected.
-/
import Derived.RangeFuncNested
import Derived.RangeFuncBound
import Derived.RangeFuncCalls
import Derived.RangeFuncLeaves
import Derived.Shelf.Abstract
import Derived.Shelf.RegionOpen
import Derived.WalkKit
import Derived.OwnWalkIn
import Derived.TacticsInMore
import Derived.LoopNIn
import Derived.LoopIn
import Derived.Maps.AppendAt
import Derived.Test.YtimlkhbedhjehaaWnA
namespace Go.Proofs.Ytimlkhbedhjehaa
open Go.RowKit Go.Shelf
set_option linter.unusedSimpArgs false
set_option linter.unusedVariables false
attribute [local go_sem] Oper.semAt_some
theorem c_floor (t s : Int) (w : World) : Calls Try.prog 137 #[.int .i64 t, .int .i64 s] w fun e w' => e = .returned (.int .i64 (floorT t s)) ∧ Below w.heap.size w w' :=
  (p_floor t s).law (vs := [_, _]) ⟨_, _, rfl, by simp [rep, scal], _, _, rfl, by simp [rep, scal], rfl⟩
theorem c_addT (x y : Int) (w : World) : Calls Try.prog 138 #[.int .i64 x, .int .i64 y] w fun e w' => e = .returned (.int .i64 (addT x y)) ∧ Below w.heap.size w w' :=
  (p_addT x y).law (vs := [_, _]) ⟨_, _, rfl, by simp [rep, scal], _, _, rfl, by simp [rep, scal], rfl⟩
theorem below_grown {W W' : World} (h : Below W.heap.size W W') : W.grownBy W' none := ⟨h.os, h.tape, h.output, h.size, fun k hk _ => h.block k hk⟩
def wVal (x : Wn) : Value := .agg #[.int .i64 x.lo, .int .i64 x.hi]
/-- where the iterator stands -/
def wAt (size slide t : Int) (q : Nat) : Int := (lastK slide t - (q : Int)) * slide
theorem wAt_zero (size slide t : Int) : wAt size slide t 0 = lastK slide t * slide := by simp [wAt]
theorem wAt_succ (size slide t : Int) (q : Nat) : wAt size slide t (q + 1) = wAt size slide t q - slide := by
  unfold wAt
  rw [show lastK slide t - ((q + 1 : Nat) : Int) = lastK slide t - (q : Int) - 1 by omega, Int.sub_mul _ 1, Int.one_mul]
theorem wAt_go {size slide t : Int} (h : okT size slide t = true) {q : Nat} (hq : q < cntK size slide t) : 0 ≤ wAt size slide t q ∧ t - size < wAt size slide t q ∧ wAt size slide t q ≤ t := by
  obtain ⟨⟨h1, h2, h3, h4⟩, h5, h6⟩ := okT_iff.1 h
  have hc := cntK_eq h
  have h7 := (first_iff (size := size) (t := t) h1 (lastK slide t - (q : Int))).1 (by omega)
  have h8 := (last_iff (t := t) h1 (lastK slide t - (q : Int))).1 (by omega)
  exact ⟨Int.mul_nonneg h7.1 (by omega), h7.2, h8⟩
theorem wAt_end {size slide t : Int} (h : okT size slide t = true) : ¬ (0 ≤ wAt size slide t (cntK size slide t) ∧ t - size < wAt size slide t (cntK size slide t)) := by
  obtain ⟨⟨h1, h2, h3, h4⟩, h5, h6⟩ := okT_iff.1 h
  have hc := cntK_eq h
  rintro ⟨h7, h8⟩
  have h9 : 0 ≤ lastK slide t - (cntK size slide t : Int) := by
    rcases Int.lt_or_le (lastK slide t - (cntK size slide t : Int)) 0 with h | h
    · have := Int.mul_neg_of_neg_of_pos h (show 0 < slide by omega)
      unfold wAt at h7; omega
    · exact h
  have := (first_iff (size := size) (t := t) h1 (lastK slide t - (cntK size slide t : Int))).2 ⟨h9, h8⟩
  omega
theorem wAt_low {size slide t : Int} (h : okT size slide t = true) {q : Nat} (hq : q ≤ cntK size slide t) : -1048576 ≤ wAt size slide t q ∧ wAt size slide t q ≤ 1099511627776 := by
  obtain ⟨⟨h1, h2, h3, h4⟩, h5, h6⟩ := okT_iff.1 h
  cases q with
  | zero =>
    rw [wAt_zero]
    have h8 := (last_iff (t := t) h1 (lastK slide t)).1 (Int.le_refl _)
    have := Int.mul_nonneg (last_nonneg (t := t) h1 h5) (show 0 ≤ slide by omega)
    omega
  | succ q =>
    rw [wAt_succ]
    have := wAt_go h (q := q) (by omega)
    omega
/-- three boxes from b on lie as they lay -/
def Kp3 (b : Nat) (W W' : World) : Prop := W.heap.size ≤ W'.heap.size ∧ ∀ k, b ≤ k → k < b + 3 → W'.heap[k]? = W.heap[k]?
theorem Kp3.trans {b : Nat} {A B C : World} (h : Kp3 b A B) (k : Kp3 b B C) : Kp3 b A C := ⟨Nat.le_trans h.1 k.1, fun i h1 h2 => (k.2 i h1 h2).trans (h.2 i h1 h2)⟩
theorem Kp3.of_below {b n : Nat} {W W' : World} (h : Below n W W') (hn : b + 3 ≤ n) : Kp3 b W W' := ⟨h.size, fun k _ h2 => h.block k (by omega)⟩
/-- what the iterator has caught -/
def Caught (b : Nat) (size slide t : Int) (W : World) : Prop := b + 3 ≤ W.heap.size ∧ Boxed W b 2 (.int .i64 size) ∧ Boxed W (b + 1) 2 (.int .i64 slide) ∧ Boxed W (b + 2) 2 (.int .i64 t)
theorem Caught.kept {b : Nat} {size slide t : Int} {W W' : World} (h : Caught b size slide t W) (k : Kp3 b W W') : Caught b size slide t W' :=
  ⟨by have := h.1; have := k.1; omega, (k.2 b (Nat.le_refl _) (by omega)).trans h.2.1, (k.2 (b + 1) (by omega) (by omega)).trans h.2.2.1, (k.2 (b + 2) (by omega) (by omega)).trans h.2.2.2⟩
set_option maxRecDepth 100000 in
set_option maxHeartbeats 2000000 in
/-- the windows come, the last one first -/
theorem win_iter (F : Fence) (hro : F.round = none) (hfn : F.fn 136) (hf1 : F.fn 137) (hf2 : F.fn 138) (n : Nat) (hn : 1 ≤ n) (l b : Nat) (size slide t : Int) (hok : okT size slide t = true)
    (cF : ∀ w, CallsIn F (n - 1) Try.prog 137 #[.int .i64 t, .int .i64 slide] w fun e w' => e = .returned (.int .i64 (floorT t slide)) ∧ Below w.heap.size w w')
    (cA : ∀ k w, CallsIn F (n - 1) Try.prog 138 #[.int .i64 k, .int .i64 size] w fun e w' => e = .returned (.int .i64 (addT k size)) ∧ Below w.heap.size w w')
    (J Jx : List Wn → World → Prop)
    (hY : ∀ pre x W, J pre W → pre.length < cntK size slide t → YieldAt F (n - 1) Try.prog l #[wVal x] W fun e W' =>
      (e = .returned (.bool true) ∧ J (pre ++ [x]) W' ∧ Kp3 b W W') ∨ (e = .returned (.bool false) ∧ Jx (pre ++ [x]) W'))
    (W : World) (hJ : AbidesFrom W.heap.size J) (hc : Caught b size slide t W) (h0 : J [] W) :
    CallsIn F n Try.prog 136 #[.func (.yield l) #[] #[], .pointer (some ⟨b + 2, 0, none⟩), .pointer (some ⟨b + 1, 0, none⟩), .pointer (some ⟨b, 0, none⟩)] W fun e W' => (∃ v, e = .returned v) ∧
      ((∃ ys, ys = upto size slide t (cntK size slide t) ∧ J ys W') ∨ (∃ pre, True ∧ Jx pre W')) := by
  obtain ⟨⟨h1, h2, h3, h4⟩, h5, h6⟩ := okT_iff.1 hok
  have c1 := hc.2.2.2.cell
  have c2 := hc.2.2.1.cell
  have c3 := hc.2.1.cell
  have hsz0 := hc.1
  refine callsIn_of_wp Try.func136 rfl hfn ?_ hro
  simp only [Try.ntmps136, List.size_toArray, List.length_cons, List.length_nil, Nat.reduceAdd, Nat.reduceSub, Array.replicate_succ, Array.replicate_zero, List.push_toArray, List.append_toArray, List.nil_append, List.cons_append]
  gi_wp2_with (gi_at_call 137; refine (cF _).mono ?_; rintro e w1 ⟨rfl, hb1⟩)
  rw [floor_eq hok, ← wAt_zero size slide t]
  gi_loopw [5] (fun p wr => ∃ q : Nat, p = .int .i64 (wAt size slide t q) ∧ q ≤ cntK size slide t ∧ J (upto size slide t q) wr ∧ Caught b size slide t wr ∧ W.heap.size ≤ wr.heap.size)
    (fun p wr => (intOf p + 1).toNat)
  case atStart =>
    exact ⟨0, rfl, Nat.zero_le _, hJ [] W w1 none h0 (below_grown hb1) (fun r e => by cases e), hc.kept (Kp3.of_below hb1 hsz0), hb1.size⟩
  case round =>
    obtain ⟨q, rfl, hq, hJs, hC, hsz⟩ := hrel
    have d1 := hC.2.2.2.cell
    have d2 := hC.2.2.1.cell
    have d3 := hC.2.1.cell
    have hszr := hC.1
    rcases Nat.lt_or_eq_of_le hq with hlt | heq
    · obtain ⟨g1, g2, g3⟩ := wAt_go hok hlt
      have hw := wAt_low hok hq
      obtain ⟨k, hk⟩ : ∃ k, wAt size slide t q = k := ⟨_, rfl⟩
      have hwin : winK size slide (lastK slide t - (q : Int)) = ⟨k, addT k size⟩ := by rw [← hk]; rfl
      rw [hk] at g1 g2 g3 hw ⊢
      gi_wp2_with (gi_at_call 138; refine (cA k _).mono ?_; rintro e w2 ⟨rfl, hb2⟩; have hJ2 : J (upto size slide t q) w2 := hJ _ wr w2 none hJs (below_grown hb2) (fun r e => by cases e); have hC2 := hC.kept (Kp3.of_below hb2 hszr); obtain ⟨fn, tmps, assign, body, hy, hR⟩ := hY (upto size slide t q) ⟨k, addT k size⟩ w2 hJ2 (by simp [upto]; exact hlt); dsimp only [wVal] at hy)
      refine hR.mono ?_
      rintro e W3 (⟨rfl, hJ3, hk3⟩ | ⟨rfl, hJx3⟩)
      · have hC3 := hC2.kept hk3
        have d5 := hC3.2.2.1.cell
        gi_wp2
        go_roundw
        case rel => exact ⟨q + 1, by rw [wAt_succ, hk], by omega, by rw [upto_succ, hwin]; exact hJ3, hC3, by have := hk3.1; have := hb2.size; omega⟩
        case measure =>
          show (k - slide + 1).toNat < (k + 1).toNat
          omega
      · gi_wp2
        refine bodyPost_ret (results_none rfl _ _ _) rfl ?_
        exact ⟨⟨_, rfl⟩, .inr ⟨_, trivial, hJx3⟩⟩
    · subst heq
      have hw := wAt_low hok (Nat.le_refl (cntK size slide t))
      have he := wAt_end hok
      obtain ⟨k, hk⟩ : ∃ k, wAt size slide t (cntK size slide t) = k := ⟨_, rfl⟩
      rw [hk] at hw he ⊢
      gi_wp2
      all_goals go_end0
      all_goals first | exact ⟨⟨_, rfl⟩, .inl hJs⟩ | exact ⟨⟨_, rfl⟩, .inl ⟨_, rfl, hJs⟩⟩ | exact .inl hJs
/-- the iterator's maker -/
theorem back_in (F : Fence) (hro : F.round = none) (hfn : F.fn 104) (n : Nat) (size slide t : Int) (w : World) :
    CallsIn F n Try.prog 104 #[.int .i64 size, .int .i64 slide, .int .i64 t] w fun e w' => e = .returned (.func (.func 136) #[] #[.pointer (some ⟨w.heap.size + 2, 0, none⟩), .pointer (some ⟨w.heap.size + 1, 0, none⟩), .pointer (some ⟨w.heap.size, 0, none⟩)]) ∧
      w' = ((w.alloc (.cells #[.int .i64 size] 2)).alloc (.cells #[.int .i64 slide] 2)).alloc (.cells #[.int .i64 t] 2) := by
  refine callsIn_of_wp Try.func104 rfl hfn ?_ hro
  simp only [Try.ntmps104, List.size_toArray, List.length_cons, List.length_nil, Nat.reduceAdd, Nat.reduceSub, Array.replicate_succ, Array.replicate_zero, List.push_toArray, List.append_toArray, List.nil_append, List.cons_append]
  gi_wp2
  go_ret
  exact ⟨rfl, rfl⟩
theorem back_stops (F : Fence) (hro : F.round = none) (hfn : F.fn 136) (hf1 : F.fn 137) (hf2 : F.fn 138) (n : Nat) (hn : 1 ≤ n) (b : Nat) (size slide t : Int) (hok : okT size slide t = true)
    (cF : ∀ w, CallsIn F (n - 1) Try.prog 137 #[.int .i64 t, .int .i64 slide] w fun e w' => e = .returned (.int .i64 (floorT t slide)) ∧ Below w.heap.size w w')
    (cA : ∀ k w, CallsIn F (n - 1) Try.prog 138 #[.int .i64 k, .int .i64 size] w fun e w' => e = .returned (.int .i64 (addT k size)) ∧ Below w.heap.size w w')
    (w : World) (hc : Caught b size slide t w) :
    SeqStopsK F n Try.prog 136 #[.pointer (some ⟨b + 2, 0, none⟩), .pointer (some ⟨b + 1, 0, none⟩), .pointer (some ⟨b, 0, none⟩)] (fun x : Wn => #[wVal x]) (Kp3 b) (fun ys => ys = upto size slide t (cntK size slide t)) (fun _ => True) (cntK size slide t) w := fun l J Jx W hW hJ _ hY h0 =>
  win_iter F hro hfn hf1 hf2 n hn l b size slide t hok cF cA J Jx hY W hJ (hc.kept (Kp3.of_below hW hc.1)) h0
end Go.Proofs.Ytimlkhbedhjehaa
