/-
  The iterator over the events that are kept: its contract.
    The iterator over the events that are kept of all inputs: its contract.
  What is kept of a source, walked over abstract values.
    What the document keeps of a source, walked over abstract values.
  Items, walked over abstract values: which may be.
  Workers: what the parts of one are; which may be. Plain.
  Walks over abstract values: rows that are made with their zero elements. Over whatever program. No condition.
-/
import Derived.RangeFuncNested
import Derived.RangeFuncBound
import Derived.RangeFuncCalls
import Derived.RangeFuncLeaves
import Derived.Shelf.Abstract
import Derived.Shelf.RegionOpen
import Derived.WalkKit
import Derived.OwnWalkIn
import Derived.TacticsInMore
import Derived.LoopNIn
import Derived.LoopIn
import Derived.Maps.AppendAt
import Derived.Laws.OwnMore
import Derived.Test.YtilgagmfcdfjaaaGreatM3
import Derived.Test.YtilgagmfcdfjaaaGreatM4
import Derived.Test.YtilgagmfcdfjaaaGreatM5
import Derived.Test.YtilgagmfcdfjaaaGreatM8
import Derived.Test.YtilgagmfcdfjaaaGreatM9
import Derived.Test.YtilgagmfcdfjaaaGreatM10
set_option linter.unusedSimpArgs false
set_option linter.unusedVariables false
set_option maxHeartbeats 20000000
namespace Go.Proofs.YtilgagmfcdfjaaaGreat
open Go.RowKit Go.Shelf
attribute [local go_sem] Oper.semAt_some
def Et.val (e : Et) : Value := .agg #[.string e.key, .int .i64 e.at', .int .i64 e.v]
theorem c_seeK (g s d k fu li de id mark : Int) (key : ByteArray) (t v : Int) (hv : -9223372036854775808 ≤ v ∧ v ≤ 9223372036854775807) (hl : li ≤ 9223372036854775807) {w : World} {b : Nat} (hb : Blk w b 116 (srcCells g s d k fu li de id mark).toArray) :
  Calls Tryz.prog 50 #[.pointer (some ⟨b, 0, none⟩), .agg #[.string key, .int .i64 t, .int .i64 v]] w fun e w' => e = .returned (.tuple #[.agg #[.string key, .int .i64 t, .int .i64 (runE li fu v).1], .bool (!decide (t < mark))]) ∧
   Blk w' b 116 (srcCells g s d k fu li de id (max mark (subT t de))).toArray ∧ TurnO (fun k => k = b) w w' := by
 refine ac_box1 (T := 116) (us := srcCells g s d k fu li de id mark) (us' := srcCells g s d k fu li de id (max mark (subT t de))) (vs := [.agg #[.string key, .int .i64 t, .int .i64 v]]) (c_see g s d k fu li de id mark key t v hv hl) rfl hb (fun σ μ A => ?_) (fun σ μ w A y h => ?_)
 ·simp only [repL, rep, repC]
  exact ⟨_, [], rfl, ⟨[.string key, .int .i64 t, .int .i64 v], rfl, _, _, rfl, rfl, ⟨rfl, rfl⟩, _, _, rfl, rfl, ⟨rfl, rfl⟩, _, _, rfl, rfl, ⟨rfl, rfl⟩, rfl⟩, rfl⟩
 ·simp only [repL, rep, repC] at h
  obtain ⟨us, rfl, u, us1, rfl, ⟨us2, rfl, a, l1, rfl, _, ⟨rfl, _⟩, b, l2, rfl, _, ⟨rfl, _⟩, c, l3, rfl, _, ⟨rfl, _⟩, rfl⟩, x, l4, rfl, ⟨rfl, _⟩, rfl⟩ := h
  rfl
def Old (A : Nat → Prop) (w W : World) : Prop := w.heap.size ≤ W.heap.size ∧ ∀ k, k < w.heap.size → ¬ A k → W.heap[k]? = w.heap[k]?
theorem Old.refl (A : Nat → Prop) (w : World) : Old A w w := ⟨Nat.le_refl _, fun _ _ _ => rfl⟩
theorem Old.turn {A O : Nat → Prop} {w W W' : World} (h : Old A w W) (ht : TurnO O W W') (ho : ∀ k, O k → w.heap.size ≤ k) : Old A w W' :=
 ⟨Nat.le_trans h.1 ht.2.2.2.1, fun k hk hn => (ht.2.2.2.2 k (Nat.lt_of_lt_of_le hk h.1) (fun hc => by have := ho k hc; omega)).trans (h.2 k hk hn)⟩
theorem Old.ko {A O : Nat → Prop} {w W W' : World} (h : Old A w W) (ht : KO A O w.heap.size W W') : Old A w W' :=
 ⟨Nat.le_trans h.1 ht.1, fun k hk hn => (ht.2 k (.inl ⟨hk, hn⟩)).trans (h.2 k hk hn)⟩
theorem Old.reads {A : Nat → Prop} {w W : World} (h : Old A w W) {ad : Option Addr} {us : List Value} (hr : ReadsA w A ad us) : ReadsA W A ad us := by
 rcases hr with hr | ⟨b, off, e, h1, h2, h3⟩
 ·exact .inl hr
 ·exact .inr ⟨b, off, e, h1, Nat.lt_of_lt_of_le h2 h.1, fun j u hj => (World.cell?_of_block (w := w) (a := ⟨b, off + j, none⟩) (h.2 b h2 h1)).trans (h3 j u hj)⟩
theorem reads_cell {A : Nat → Prop} {W : World} {b off : Nat} {us : List Value} (hr : ReadsA W A (some ⟨b, off, none⟩) us) {j : Nat} {u : Value} (hj : us[j]? = some u) : W.cell? ⟨b, off + j, none⟩ = some u := by
 rcases hr with hr | ⟨b', off', e, _, _, h3⟩
 ·subst hr; simp at hj
 ·injection e with e; injection e with e1 e2; subst e1 e2
  exact h3 j u hj
theorem reads_lt {A : Nat → Prop} {W : World} {b off : Nat} {us : List Value} (hr : ReadsA W A (some ⟨b, off, none⟩) us) (hn : us ≠ []) : b < W.heap.size := by
 rcases hr with hr | ⟨b', off', e, _, h2, _⟩
 ·exact absurd hr hn
 ·injection e with e; injection e with e1 e2; subst e1
  exact h2
theorem et_cells {es : List Et} {q : Nat} (hq : q < es.length) : (es.flatMap Et.cells)[q * 3]? = some (.string es[q].key) ∧ (es.flatMap Et.cells)[q * 3 + 1]? = some (.int .i64 es[q].at') ∧ (es.flatMap Et.cells)[q * 3 + 2]? = some (.int .i64 es[q].v) := by
 induction es generalizing q with
 | nil => simp at hq
 | cons e es ih =>
  cases q with
  | zero => simp [Et.cells]
  | succ q =>
   have := ih (q := q) (by simpa using hq)
   simp only [List.flatMap_cons, List.getElem_cons_succ]
   have hl : (Et.cells e).length = 3 := rfl
   rw [List.getElem?_append_right (by rw [hl]; omega), List.getElem?_append_right (by rw [hl]; omega), List.getElem?_append_right (by rw [hl]; omega), hl]
   rw [show (q + 1) * 3 - 3 = q * 3 by omega, show (q + 1) * 3 + 1 - 3 = q * 3 + 1 by omega, show (q + 1) * 3 + 2 - 3 = q * 3 + 2 by omega]
   exact this
set_option maxRecDepth 100000 in
theorem it_kept (g s d k fu li de id : Int) (es : List Et) (hes : ∀ e ∈ es, -9223372036854775808 ≤ e.v ∧ e.v ≤ 9223372036854775807) (hli : li ≤ 9223372036854775807) (hlen : es.length ≤ 1000000) (A : Nat → Prop) (w : World) (l bj oj bl ol c : Nat) (ad : Option Addr)
  (rj : ReadsA w A (some ⟨bj, oj, none⟩) [.int .i64 g, .int .i64 s, .int .i64 d, .int .i64 k, .int .i64 fu, .int .i64 li, .int .i64 de, .int .i64 id])
  (rl : ReadsA w A (some ⟨bl, ol, none⟩) [.slice ad es.length c]) (re : ReadsA w A ad (es.flatMap Et.cells)) (hc : es.length ≤ c ∧ c ≤ maxLen)
  (J Jx : (Nat → Prop) → Nat → World → Prop) (hJ : Goes w.heap.size J) (hJx : Goes w.heap.size Jx)
  (hY : ∀ (O : Nat → Prop) i x W1, (∀ k, O k → w.heap.size ≤ k) → J O i W1 → ((keptE li fu de 0 es).map fun e => #[e.val])[i]? = some x → YieldAt Fence.wide 0 Tryz.prog l x W1 fun e W' =>
   (e = .returned (.bool true) ∧ J O (i + 1) W' ∧ KO A O w.heap.size W1 W') ∨ (e = .returned (.bool false) ∧ Jx O (i + 1) W' ∧ KX O W1.heap.size W1 W'))
  (h0 : J (fun _ => False) 0 w) :
  CallsIn Fence.wide 1 Tryz.prog 49 #[.func (.yield l) #[] #[], .pointer (some ⟨bj, oj, none⟩), .pointer (some ⟨bl, ol, none⟩)] w fun e W' => (∃ v, e = .returned v) ∧
   ∃ O : Nat → Prop, (∀ k, O k → w.heap.size ≤ k) ∧ (J O (keptE li fu de 0 es).length W' ∨ ∃ i, Jx O i W') := by
 have j0 := reads_cell rj (j := 0) rfl
 have j1 := reads_cell rj (j := 1) rfl
 have j2 := reads_cell rj (j := 2) rfl
 have j3 := reads_cell rj (j := 3) rfl
 have j4 := reads_cell rj (j := 4) rfl
 have j5 := reads_cell rj (j := 5) rfl
 have j6 := reads_cell rj (j := 6) rfl
 have j7 := reads_cell rj (j := 7) rfl
 have l0 := reads_cell rl (j := 0) rfl
 simp only [Nat.add_zero] at j0 l0
 have hbl := reads_lt rl (by simp)
 have hbj := reads_lt rj (by simp)
 refine callsIn_of_wp Tryz.func49 rfl trivial ?_ rfl
 simp only [Tryz.ntmps49, List.size_toArray, List.length_cons, List.length_nil, Nat.reduceAdd, Nat.reduceSub, Array.replicate_succ, Array.replicate_zero, List.push_toArray, List.append_toArray, List.nil_append, List.cons_append]
 gi_wp2
 have hOb : ∀ k, k = w.heap.size → w.heap.size ≤ k := by rintro k rfl; omega
 have htn : ∀ i W W', J (fun k => k = w.heap.size) i W → TurnO (fun k => k = w.heap.size) W W' → J (fun k => k = w.heap.size) i W' := fun i W W' h ht => hJ _ _ i W W' hOb h ht (fun _ h => h) (fun _ h => .inl h)
 have hal : ∀ i W o, J (fun k => k = w.heap.size) i W → J (fun k => k = w.heap.size) i (W.alloc o) := fun i W o h => htn i _ _ h (TurnO.alloc _ _ _)
 gi_loopw [15] (fun p wr => ∃ q : Nat, p = .int .i64 q ∧ q ≤ es.length ∧ J (fun k => k = w.heap.size) (keptE li fu de 0 (es.take q)).length wr ∧ Blk wr w.heap.size 116 (srcCells g s d k fu li de id (markE de 0 (es.take q))).toArray ∧ Old A w wr)
  (fun p wr => es.length - (intOf p).toNat)
 case atStart =>
  refine ⟨0, rfl, Nat.zero_le _, ?_, ?_, ?_⟩
  ·refine hJ _ _ _ _ _ (fun _ h => h.elim) h0 (TurnO.alloc _ _ _) (fun _ h => h.elim) (fun k hk => .inr ?_)
   simp; omega
  ·exact Blk.new _ _ _
  ·exact (Old.refl A w).turn (TurnO.alloc (fun _ => False) _ _) (fun _ h => h.elim)
 case round =>
  obtain ⟨q, rfl, hq, hJq, hB, hO⟩ := hrel
  rcases Nat.lt_or_eq_of_le hq with hlt | heq
  ·have hre := hO.reads re
   obtain ⟨ba, oa, rfl⟩ : ∃ ba oa, ad = some ⟨ba, oa, none⟩ := by
    rcases hre with h | ⟨b', o', h, _⟩
    ·have := (et_cells hlt).1; rw [h] at this; simp at this
    ·exact ⟨_, _, h⟩
   obtain ⟨f0, f1, f2⟩ := et_cells hlt
   have e0 := reads_cell hre f0
   have e1 := reads_cell hre f1
   have e2 := reads_cell hre f2
   rw [← Nat.add_assoc] at e1 e2
   have hba := reads_lt hre (by intro h; rw [h] at f0; simp at f0)
   have hcl := hc.2
   have hv := hes _ (List.getElem_mem hlt)
   have hat := keptE_at (li := li) (fu := fu) (de := de) (m := 0) hlt
   have hks := keptE_step (li := li) (fu := fu) (de := de) (m := 0) hlt
   have hms := markE_step (de := de) (m := 0) hlt
   obtain ⟨m, hm⟩ : ∃ m, markE de 0 (es.take q) = m := ⟨_, rfl⟩
   rw [hm] at hB hat hks hms
   obtain ⟨⟨key, t, v⟩, hx⟩ : ∃ x, es[q] = x := ⟨_, rfl⟩
   rw [hx] at e0 e1 e2 hv hat hks hms
   dsimp only at e0 e1 e2 hv hat hks hms
   have hq0 : (0 : Int) ≤ q := by omega
   have hqn : (q : Int) < es.length := by omega
   by_cases hlate : t < m
   ·gi_wp2_with (first | (refine ⟨trivial, (callsIn_wide.2 (c_seeK g s d k fu li de id m key t v hv hli (hB.alloc _))).mono ?_⟩; rintro e w2 ⟨rfl, hB2, hT2⟩; rw [decide_eq_true hlate]))
    all_goals (try (refine ⟨fun f hf => (by cases hf), ?_⟩; gi_wp2))
    go_roundw
    case rel =>
     rw [if_pos hlate, List.append_nil] at hks
     refine ⟨q + 1, rfl, by omega, ?_, ?_, ?_⟩
     ·rw [hks]
      exact hal _ _ _ (htn _ _ _ (hal _ _ _ hJq) hT2)
     ·rw [hms]; exact hB2.alloc _
     ·exact ((hO.turn (TurnO.alloc (fun _ => False) _ _) (fun _ h => h.elim)).turn hT2 hOb).turn (TurnO.alloc (fun _ => False) _ _) (fun _ h => h.elim)
    case measure =>
     simp [intOf]; omega
   ·gi_wp2_with (refine ⟨trivial, (callsIn_wide.2 (c_seeK g s d k fu li de id m key t v hv hli (hB.alloc _))).mono ?_⟩; rintro e w2 ⟨rfl, hB2, hT2⟩; rw [decide_eq_false hlate]; have hJ3 : J (fun k => k = w.heap.size) (keptE li fu de 0 (es.take q)).length (w2.alloc (Obj.cells #[Value.string key, Value.int IntKind.i64 t, Value.int IntKind.i64 (runE li fu v).1] 57)) := hal _ _ _ (htn _ _ _ (hal _ _ _ hJq) hT2); obtain ⟨fn, tmps, assign, body, hy, hR⟩ := hY (fun k => k = w.heap.size) _ _ _ hOb hJ3 (by rw [List.getElem?_map, hat hlate]; rfl); dsimp only [Et.val, Et.ran] at hy)
    refine hR.mono ?_
    rintro e W3 (⟨rfl, hJ4, hk3⟩ | ⟨rfl, hJx3, _⟩)
    ·gi_wp2
     go_roundw
     case rel =>
      rw [if_neg (by omega)] at hks
      refine ⟨q + 1, rfl, by omega, ?_, ?_, ?_⟩
      ·rw [hks, List.length_append]; exact hJ4
      ·rw [hms]; exact (hk3.2 w.heap.size (.inr rfl)).trans (hB2.alloc _)
      ·exact (((hO.turn (TurnO.alloc (fun _ => False) _ _) (fun _ h => h.elim)).turn hT2 hOb).turn (TurnO.alloc (fun _ => False) _ _) (fun _ h => h.elim)).ko hk3
     case measure =>
      simp [intOf]; omega
    ·gi_wp2
     refine bodyPost_ret (results_none rfl _ _ _) rfl ?_
     exact ⟨⟨_, rfl⟩, _, hOb, .inr ⟨_, hJx3⟩⟩
  ·subst heq
   rw [List.take_length] at hJq
   gi_wp2
   all_goals go_end0
   all_goals exact ⟨⟨_, rfl⟩, _, hOb, .inl hJq⟩
theorem repLL_et {μ : Nat → Value} {w : World} {A : Nat → Prop} : ∀ {es : List Et} {us : List Value}, repLL [] μ w A 3 (es.map Et.av) us → us = es.flatMap Et.cells
 | [], us, h => by simpa [repLL] using h
 | x :: es, us, h => by
  simp only [List.map_cons, repLL] at h
  obtain ⟨u1, u2, rfl, _, h2, h3⟩ := h
  have e1 : u1 = Et.cells x := by
   simp only [Et.av, repC, rep] at h2
   obtain ⟨a, l, rfl, _, ⟨rfl, _⟩, b, m, rfl, _, ⟨rfl, _⟩, c, n, rfl, _, ⟨rfl, _⟩, rfl⟩ := h2
   rfl
  rw [e1, repLL_et h3]; simp
theorem seq_kept (g s d k fu li de id : Int) (es : List Et) (hes : ∀ e ∈ es, -9223372036854775808 ≤ e.v ∧ e.v ≤ 9223372036854775807) (hli : li ≤ 9223372036854775807) (hlen : es.length ≤ 1000000) :
  SeqAV Tryz.prog 49 [.el [.v (.int .i64 g), .v (.int .i64 s), .v (.int .i64 d), .v (.int .i64 k), .v (.int .i64 fu), .v (.int .i64 li), .v (.int .i64 de), .v (.int .i64 id)], .el [.sl 3 (es.map Et.av)]] ((keptE li fu de 0 es).map fun e => #[e.val]) := by
 refine ⟨⟨_, Tryz.func49, by kernel_rfl, rfl⟩, by rfl, fun w A μ ks hA hks l J Jx hJ hJx hY h0 => ?_⟩
 simp only [repL, rep, repC] at hks
 obtain ⟨k1, ks1, rfl, ⟨bj, oj, us, rfl, rj, a1, m1, rfl, _, ⟨rfl, _⟩, a2, m2, rfl, _, ⟨rfl, _⟩, a3, m3, rfl, _, ⟨rfl, _⟩, a4, m4, rfl, _, ⟨rfl, _⟩, a5, m5, rfl, _, ⟨rfl, _⟩, a6, m6, rfl, _, ⟨rfl, _⟩, a7, m7, rfl, _, ⟨rfl, _⟩, a8, m8, rfl, _, ⟨rfl, _⟩, rfl⟩, k2, ks2, rfl, ⟨bl, ol, us2, rfl, rl, a9, m9, rfl, _, ⟨ad, c, us3, rfl, hc1, hc2, re, hre⟩, rfl⟩, rfl⟩ := hks
 rw [List.length_map] at hc1 rl
 rw [repLL_et hre] at re
 rw [List.length_map]
 exact callsIn_wide.1 (it_kept g s d k fu li de id es hes hli hlen A w l bj oj bl ol c ad rj rl re ⟨hc1, hc2⟩ J Jx hJ hJx hY h0)
end Go.Proofs.YtilgagmfcdfjaaaGreat
namespace Go.Proofs.YtilgagmfcdfjaaaGreat
open Go.RowKit Go.Shelf
attribute [local go_sem] Oper.semAt_some
def allK (li fu de : Int) (ls : List (List Et)) : List Et := ls.flatMap (keptE li fu de 0)
theorem kept_in (g s d k fu li de id : Int) (ad : Option Addr) (n c : Nat) (w : World) :
  CallsIn Fence.wide 0 Tryz.prog 31 #[.agg #[.int .i64 g, .int .i64 s, .int .i64 d, .int .i64 k, .int .i64 fu, .int .i64 li, .int .i64 de, .int .i64 id], .slice ad n c] w fun e w' => e = .returned (.func (.func 49) #[] #[.pointer (some ⟨w.heap.size, 0, none⟩), .pointer (some ⟨w.heap.size + 1, 0, none⟩)]) ∧
   w' = (w.alloc (.cells #[.int .i64 g, .int .i64 s, .int .i64 d, .int .i64 k, .int .i64 fu, .int .i64 li, .int .i64 de, .int .i64 id] 23)).alloc (.cells #[.slice ad n c] 48) := by
 refine callsIn_of_wp Tryz.func31 rfl trivial ?_ rfl
 simp only [Tryz.ntmps31, List.size_toArray, List.length_cons, List.length_nil, Nat.reduceAdd, Nat.reduceSub, Array.replicate_succ, Array.replicate_zero, List.push_toArray, List.append_toArray, List.nil_append, List.cons_append]
 gi_wp2
 go_ret
 exact ⟨rfl, rfl⟩
theorem in_cells {μ : Nat → Value} {w : World} {A : Nat → Prop} : ∀ {ls : List (List Et)} {us : List Value}, repLL [] μ w A 1 (ls.map inAv) us → ∀ q (h : q < ls.length), ∃ ad c, us[q]? = some (.slice ad ls[q].length c) ∧ ls[q].length ≤ c ∧ c ≤ maxLen ∧ ReadsA w A ad (ls[q].flatMap Et.cells)
 | [], us, h, q, hq => by simp at hq
 | es :: ls, us, h, q, hq => by
  simp only [List.map_cons, repLL] at h
  obtain ⟨u1, u2, rfl, _, h2, h3⟩ := h
  simp only [inAv, repC, rep] at h2
  obtain ⟨a, l, rfl, _, ⟨ad, c, us3, rfl, hc1, hc2, re, hre⟩, rfl⟩ := h2
  cases q with
  | zero =>
   rw [repLL_et hre] at re
   rw [List.length_map] at hc1
   refine ⟨ad, c, ?_, hc1, hc2, re⟩
   simp
  | succ q =>
   obtain ⟨ad', c', h4, h5⟩ := in_cells h3 q (by simpa using hq)
   exact ⟨ad', c', by simpa using h4, h5⟩
theorem allK_at {li fu de : Int} {ls : List (List Et)} {q i : Nat} {e : Et} (hq : q < ls.length) (h : (keptE li fu de 0 ls[q])[i]? = some e) : (allK li fu de ls)[(allK li fu de (ls.take q)).length + i]? = some e := by
 have e1 : allK li fu de ls = allK li fu de (ls.take q) ++ (keptE li fu de 0 ls[q] ++ allK li fu de (ls.drop (q + 1))) := by
  unfold allK
  rw [← List.flatMap_cons, ← List.drop_eq_getElem_cons hq, ← List.flatMap_append, List.take_append_drop]
 have hi := (List.getElem?_eq_some_iff.1 h).1
 rw [e1, List.getElem?_append_right (by omega), Nat.add_sub_cancel_left, List.getElem?_append_left hi]
 exact h
theorem allK_snoc {li fu de : Int} {ls : List (List Et)} {q : Nat} (hq : q < ls.length) : (allK li fu de (ls.take (q + 1))).length = (allK li fu de (ls.take q)).length + (keptE li fu de 0 ls[q]).length := by
 rw [take_snoc ls q hq]
 unfold allK
 rw [List.flatMap_append, List.length_append]
 simp only [List.flatMap_cons, List.flatMap_nil, List.append_nil]
def MarksO (O : Nat → Prop) (ds : List Deferred) (W : World) : Prop := ds.Nodup ∧ ∀ d ∈ ds, ∃ D, d = { target := .collected D, args := #[] } ∧ O D ∧ W.heap[D]? = some (.deferred (some []))
theorem MarksO.kept {O O' : Nat → Prop} {ds : List Deferred} {W W' : World} (h : MarksO O ds W) (hO : ∀ k, O k → O' k) (hk : ∀ k, O k → k < W.heap.size → W'.heap[k]? = W.heap[k]?) : MarksO O' ds W' :=
 ⟨h.1, fun d hd => by obtain ⟨D, h1, h2, h3⟩ := h.2 d hd; exact ⟨D, h1, hO D h2, (hk D h2 (Array.getElem?_eq_some_iff.1 h3).1).trans h3⟩⟩
theorem et_repLL {μ : Nat → Value} {w : World} {A : Nat → Prop} : ∀ (es : List Et), repLL [] μ w A 3 (es.map Et.av) (es.flatMap Et.cells)
 | [] => by simp [repLL]
 | e :: es => by
  simp only [List.map_cons, List.flatMap_cons, repLL]
  refine ⟨_, _, rfl, rfl, ?_, et_repLL es⟩
  simp only [Et.av, Et.cells, repC, rep]
  exact ⟨_, _, rfl, rfl, ⟨rfl, rfl⟩, _, _, rfl, rfl, ⟨rfl, rfl⟩, _, _, rfl, rfl, ⟨rfl, rfl⟩, rfl⟩
theorem leave_marks {P : Program} {O : Nat → Prop} {fn : Func} {R : Ending → World → Prop} {tmps : Array Value} {v : Value} (hres : ∀ w, (results fn tmps).run P w = .ok v w) : ∀ (ds : List Deferred) (W : World), MarksO O ds W → (∀ W', TurnO O W W' → R (.returned v) W') → LeavesInM Fence.wide 0 P fn tmps R ds .returning W
 | [], W, _, hR => ⟨v, hres W, hR W (TurnO.refl O W)⟩
 | d :: ds, W, h, hR => by
  obtain ⟨D, h1, h2, h3⟩ := h.2 d (by simp)
  refine ⟨by simp, .inl ⟨D, _, by rw [h1], run_takeDeferred h3, leave_marks hres ds _ ⟨(List.nodup_cons.1 h.1).2, fun e he => ?_⟩ fun W' ht => hR W' ((TurnO.put W _ h2).trans ht fun j hj => .inl hj)⟩⟩
  obtain ⟨D', h4, h5, h6⟩ := h.2 e (by simp [he])
  refine ⟨D', h4, h5, (World.putObj_heap_other ?_).trans h6⟩
  rintro rfl
  rw [← h1] at h4
  subst h4
  exact (List.nodup_cons.1 h.1).1 he
set_option maxRecDepth 100000 in
theorem it_all (g s d k fu li de id : Int) (ls : List (List Et)) (hls : ∀ es ∈ ls, (∀ e ∈ es, -9223372036854775808 ≤ e.v ∧ e.v ≤ 9223372036854775807) ∧ es.length ≤ 1000000) (hli : li ≤ 9223372036854775807) (hlen : ls.length ≤ 1000000) (A : Nat → Prop) (w : World) (l bi oi bj oj c : Nat) (ad : Option Addr) (us : List Value) (hA : ∀ k, A k → k < w.heap.size)
  (ri : ReadsA w A (some ⟨bi, oi, none⟩) [.slice ad ls.length c]) (hc : ls.length ≤ c ∧ c ≤ maxLen) (re : ReadsA w A ad us) (hel : ∀ q (h : q < ls.length), ∃ ad c, us[q]? = some (.slice ad ls[q].length c) ∧ ls[q].length ≤ c ∧ c ≤ maxLen ∧ ReadsA w A ad (ls[q].flatMap Et.cells))
  (rj : ReadsA w A (some ⟨bj, oj, none⟩) [.int .i64 g, .int .i64 s, .int .i64 d, .int .i64 k, .int .i64 fu, .int .i64 li, .int .i64 de, .int .i64 id])
  (J Jx : (Nat → Prop) → Nat → World → Prop) (hJ : Goes w.heap.size J) (hJx : Goes w.heap.size Jx)
  (hY : ∀ (O : Nat → Prop) i x W1, (∀ k, O k → w.heap.size ≤ k) → J O i W1 → ((allK li fu de ls).map fun e => #[e.val])[i]? = some x → YieldAt Fence.wide 0 Tryz.prog l x W1 fun e W' =>
   (e = .returned (.bool true) ∧ J O (i + 1) W' ∧ KO A O w.heap.size W1 W') ∨ (e = .returned (.bool false) ∧ Jx O (i + 1) W' ∧ KX O W1.heap.size W1 W'))
  (h0 : J (fun _ => False) 0 w) :
  CallsIn Fence.wide 0 Tryz.prog 30 #[.func (.yield l) #[] #[], .pointer (some ⟨bi, oi, none⟩), .pointer (some ⟨bj, oj, none⟩)] w fun e W' => (∃ v, e = .returned v) ∧
   ∃ O : Nat → Prop, (∀ k, O k → w.heap.size ≤ k) ∧ (J O (allK li fu de ls).length W' ∨ ∃ i, Jx O i W') := by
 have l0 := reads_cell ri (j := 0) rfl
 simp only [Nat.add_zero] at l0
 have hbi := reads_lt ri (by simp)
 refine callsIn_of_wp_marks Tryz.func30 rfl trivial ?_ rfl
 simp only [Tryz.ntmps30, List.size_toArray, List.length_cons, List.length_nil, Nat.reduceAdd, Nat.reduceSub, Array.replicate_succ, Array.replicate_zero, List.push_toArray, List.append_toArray, List.nil_append, List.cons_append]
 gi_wp2
 have hresN : ∀ (tm : Array Value) W, (results Tryz.f30 tm).run Tryz.prog W = .ok (.tuple #[]) W := fun tm W => results_none rfl _ _ _
 refine wpIn_loop (fun a' wr => ∃ (q : Nat) (Oq : Nat → Prop) (ds : List Deferred) (u5 u10 u11 u12 u13 u14 u15 u21 : Value), a' = { tmps := #[.func (.yield l) #[] #[], .pointer (some ⟨bi, oi, none⟩), .pointer (some ⟨bj, oj, none⟩), .pointer (some ⟨w.heap.size, 0, none⟩), undef, u5, undef, .slice ad ls.length c, .int .i64 ls.length, .int .i64 q, u10, u11, u12, u13, u14, u15, undef, undef, undef, undef, undef, u21], defers := ds } ∧
   q ≤ ls.length ∧ (∀ k, Oq k → w.heap.size ≤ k ∧ k < wr.heap.size) ∧ Oq w.heap.size ∧ J Oq (allK li fu de (ls.take q)).length wr ∧ Blk wr w.heap.size 85 #[.func (.yield l) #[] #[]] ∧ Old A w wr ∧ MarksO Oq ds wr)
  (fun a' _ => ls.length - (intOf (a'.tmps.getD 9 undef)).toNat) ?_ ?_
 ·refine ⟨0, fun k => k = w.heap.size, [], _, _, _, _, _, _, _, _, rfl, Nat.zero_le _, ?_, rfl, ?_, Blk.new _ _ _, ?_, List.nodup_nil, fun _ h => nomatch h⟩
  ·rintro k rfl; simp
  ·exact hJ _ _ _ _ _ (fun _ h => h.elim) h0 (TurnO.alloc _ _ _) (fun _ h => h.elim) (fun k hk => .inr (by subst hk; simp))
  ·exact (Old.refl A w).turn (TurnO.alloc (fun _ => False) _ _) (fun _ h => h.elim)
 rintro _ wr ⟨q, Oq, ds, u5, u10, u11, u12, u13, u14, u15, u21, rfl, hq, hOq, hOw, hJq, hB, hO, hM⟩
 rcases Nat.lt_or_eq_of_le hq with hlt | heq
 ·have hre := hO.reads re
  obtain ⟨ad1, c1, f0, hc1, hc2, hre1⟩ := hel q hlt
  obtain ⟨ba, oa, rfl⟩ : ∃ ba oa, ad = some ⟨ba, oa, none⟩ := by
   rcases hre with h | ⟨b', o', h, _⟩
   ·rw [h] at f0; simp at f0
   ·exact ⟨_, _, h⟩
  have e0 := reads_cell hre f0
  have hcl := hc.2
  have hrj := hO.reads rj
  have j0 := reads_cell hrj (j := 0) rfl
  have j1 := reads_cell hrj (j := 1) rfl
  have j2 := reads_cell hrj (j := 2) rfl
  have j3 := reads_cell hrj (j := 3) rfl
  have j4 := reads_cell hrj (j := 4) rfl
  have j5 := reads_cell hrj (j := 5) rfl
  have j6 := reads_cell hrj (j := 6) rfl
  have j7 := reads_cell hrj (j := 7) rfl
  simp only [Nat.add_zero] at j0
  have hq0 : (0 : Int) ≤ q := by omega
  have hqn : (q : Int) < ls.length := by omega
  have hsn := take_snoc ls q hlt
  have hlq := hls _ (List.getElem_mem hlt)
  obtain ⟨es, hes⟩ : ∃ es, ls[q] = es := ⟨_, rfl⟩
  rw [hes] at e0 hc1 hre1 hsn hlq
  gi_wp2_with (refine ⟨trivial, rfl, (kept_in g s d k fu li de id ad1 es.length c1 _).mono ?_⟩; rintro e w2 ⟨rfl, rfl⟩)
  obtain ⟨n1, hn1⟩ : ∃ n1, wr.heap.size = n1 := ⟨_, rfl⟩
  have hwn : w.heap.size ≤ n1 := by rw [← hn1]; exact hO.1
  obtain ⟨W2, hW2⟩ : ∃ W2, (wr.alloc (.cells #[.int .i64 g, .int .i64 s, .int .i64 d, .int .i64 k, .int .i64 fu, .int .i64 li, .int .i64 de, .int .i64 id] 23)).alloc (.cells #[.slice ad1 es.length c1] 48) = W2 := ⟨_, rfl⟩
  have hs2 : W2.heap.size = n1 + 2 := by rw [← hW2]; simp [hn1]
  have hb1 : Blk W2 n1 23 #[.int .i64 g, .int .i64 s, .int .i64 d, .int .i64 k, .int .i64 fu, .int .i64 li, .int .i64 de, .int .i64 id] := by rw [← hW2, ← hn1]; exact (Blk.new _ _ _).alloc _
  have hb2 : Blk W2 (n1 + 1) 48 #[.slice ad1 es.length c1] := by rw [← hW2]; exact Blk.new_at (by simp [hn1])
  have ht2 : TurnO (fun _ => False) wr W2 := by rw [← hW2]; exact (TurnO.alloc _ _ _).trans (TurnO.alloc (fun _ => False) _ _) (fun _ h => h.elim)
  have hO2 := hO.turn ht2 (fun _ h => h.elim)
  simp only [hn1]
  rw [hW2]
  clear hW2
  obtain ⟨Of, hOf⟩ : ∃ Of : (Nat → Prop) → Nat → Prop, Of = fun O k => O k ∨ Oq k ∨ k = n1 ∨ k = n1 + 1 := ⟨_, rfl⟩
  have hOqn : ∀ k, Oq k → k < n1 := fun k h => by rw [← hn1]; exact (hOq k h).2
  have hOfge : ∀ O : Nat → Prop, (∀ k, O k → W2.heap.size ≤ k) → ∀ k, Of O k → w.heap.size ≤ k := fun O ho k hk => by
   rw [hOf] at hk
   rcases hk with h | h | h | h
   ·have := ho k h; omega
   ·exact (hOq k h).1
   ·omega
   ·omega
  have hOO : ∀ (O : Nat → Prop) k, O k → Of O k := fun O k h => by rw [hOf]; exact .inl h
  have hOQ : ∀ (O : Nat → Prop) k, Oq k → Of O k := fun O k h => by rw [hOf]; exact .inr (.inl h)
  obtain ⟨A', hA'⟩ : ∃ A' : Nat → Prop, A' = fun k => k < n1 + 2 ∧ ¬ ((k < w.heap.size ∧ ¬ A k) ∨ Oq k ∨ k = n1 ∨ k = n1 + 1) := ⟨_, rfl⟩
  refine wp_rangeO (gf := 49) (lb := #[.pointer (some ⟨n1, 0, none⟩), .pointer (some ⟨n1 + 1, 0, none⟩)]) rfl (run_enterOK ⟨_, Tryz.func49, by kernel_rfl, rfl⟩) (A := A') (fun k h => ?_) (xs := (keptE li fu de 0 es).map fun e => #[e.val]) (fun r => ?_) (fun x hx => ?_)
   (fun O i W => J (Of O) ((allK li fu de (ls.take q)).length + i) W ∧ Old A w W ∧ Blk W w.heap.size 85 #[.func (.yield l) #[] #[]] ∧ MarksO Oq ds W ∧ (∀ k, Of O k → k < W.heap.size))
   (fun c O W => c = .ret ∧ (∃ i, Jx (Of O) i W) ∧ MarksO Oq ds W) ?_ ?_ ?_ ?_ ?_ ?_
  ·rw [hA'] at h; rw [hs2]; exact h.1
  ·obtain ⟨W3, hW3⟩ : ∃ W3, (W2.alloc (.deferred (some []))).alloc (.loop r) = W3 := ⟨_, rfl⟩
   have hs3 : W3.heap.size = n1 + 4 := by rw [← hW3]; simp [hs2]
   have hb1 : Blk W3 n1 23 #[.int .i64 g, .int .i64 s, .int .i64 d, .int .i64 k, .int .i64 fu, .int .i64 li, .int .i64 de, .int .i64 id] := by rw [← hW3]; exact (hb1.alloc _).alloc _
   have hb2 : Blk W3 (n1 + 1) 48 #[.slice ad1 es.length c1] := by rw [← hW3]; exact (hb2.alloc _).alloc _
   have ht3 : TurnO (fun _ => False) W2 W3 := by rw [← hW3]; exact (TurnO.alloc _ _ _).trans (TurnO.alloc (fun _ => False) _ _) (fun _ h => h.elim)
   have hO3 := hO2.turn ht3 (fun _ h => h.elim)
   have hre3 : ReadsA W3 A' ad1 (es.flatMap Et.cells) := by
    have hlt1 : ∀ b o, ad1 = some ⟨b, o, none⟩ → es.flatMap Et.cells = [] ∨ b < w.heap.size := fun b o e => by
     rcases hre1 with h | ⟨b', o', h, h1, h2, _⟩
     ·exact .inl h
     ·rw [e] at h; injection h with h; injection h with h; subst h; exact .inr h2
    rcases hO3.reads hre1 with h | ⟨b, o, h1, h2, h3, h4⟩
    ·exact .inl h
    ·rcases hlt1 b o h1 with h | h
     ·exact .inl h
     ·refine .inr ⟨b, o, h1, ?_, h3, h4⟩
      rw [hA']
      exact fun hc => hc.2 (.inl ⟨h, h2⟩)
   rw [hW3]
   refine (seq_kept g s d k fu li de id es hlq.1 hli hlq.2).2.2 W3 A' (fun _ => undef) [.pointer (some ⟨n1, 0, none⟩), .pointer (some ⟨n1 + 1, 0, none⟩)] (fun k hk => by rw [hA'] at hk; have := hk.1; omega) ?_
   simp only [repL, rep, repC]
   refine ⟨_, _, rfl, ⟨n1, 0, [.int .i64 g, .int .i64 s, .int .i64 d, .int .i64 k, .int .i64 fu, .int .i64 li, .int .i64 de, .int .i64 id], rfl, .inr ⟨n1, 0, rfl, ?_, by omega, blk_cells (off := 0) hb1⟩, ?_⟩, _, _, rfl, ⟨n1 + 1, 0, [.slice ad1 es.length c1], rfl, .inr ⟨n1 + 1, 0, rfl, ?_, by omega, blk_cells (off := 0) hb2⟩, _, _, rfl, rfl, ⟨ad1, c1, es.flatMap Et.cells, ?_, ?_, hc2, hre3, et_repLL es⟩, rfl⟩, rfl⟩
   ·rw [hA']; exact fun hc => hc.2 (.inr (.inr (.inl rfl)))
   ·exact ⟨_, _, rfl, rfl, ⟨rfl, rfl⟩, _, _, rfl, rfl, ⟨rfl, rfl⟩, _, _, rfl, rfl, ⟨rfl, rfl⟩, _, _, rfl, rfl, ⟨rfl, rfl⟩, _, _, rfl, rfl, ⟨rfl, rfl⟩, _, _, rfl, rfl, ⟨rfl, rfl⟩, _, _, rfl, rfl, ⟨rfl, rfl⟩, _, _, rfl, rfl, ⟨rfl, rfl⟩, rfl⟩
   ·rw [hA']; exact fun hc => hc.2 (.inr (.inr (.inr rfl)))
   ·simp
   ·simpa using hc1
  ·obtain ⟨y, _, rfl⟩ := List.mem_map.1 hx; rfl
  ·rintro O O' i X Y ho ⟨h1, h2, h3, h4, h5⟩ ht hsub hnew
   refine ⟨hJ (Of O) (Of O') _ X Y (hOfge O ho) h1 (ht.mono (hOO O)) (fun k hk => ?_) (fun k hk => ?_), h2.turn ht (fun k hk => by have := ho k hk; omega), ?_, ?_, fun k hk => ?_⟩
   ·rw [hOf] at hk ⊢; exact hk.imp (hsub k) (fun h => h)
   ·rw [hOf] at hk ⊢
    rcases hk with h | h
    ·exact (hnew k h).imp .inl (fun h => h)
    ·exact .inl (.inr h)
   ·exact (ht.2.2.2.2 _ h3.lt (fun hc => by have := ho _ hc; omega)).trans h3
   ·exact h4.kept (fun _ h => h) (fun k hk hkl => ht.2.2.2.2 k hkl (fun hc => by have := ho _ hc; have := hOqn k hk; omega))
   ·rw [hOf] at hk
    have hsz := ht.2.2.2.1
    rcases hk with h | h
    ·rcases hnew k h with h | h
     ·have := h5 k (hOO O k h); omega
     ·exact h.2
    ·have := h5 k (by rw [hOf]; exact .inr h); omega
  ·rintro c O O' i X Y ho ⟨h1, ⟨j, h2⟩, h3⟩ ht hsub hnew
   refine ⟨h1, ⟨j, hJx (Of O) (Of O') _ X Y (hOfge O ho) h2 (ht.mono (hOO O)) (fun k hk => ?_) (fun k hk => ?_)⟩, ?_⟩
   ·rw [hOf] at hk ⊢; exact hk.imp (hsub k) (fun h => h)
   ·rw [hOf] at hk ⊢
    rcases hk with h | h
    ·exact (hnew k h).imp .inl (fun h => h)
    ·exact .inl (.inr h)
   ·exact h3.kept (fun _ h => h) (fun k hk hkl => ht.2.2.2.2 k hkl (fun hc => by have := ho _ hc; have := hOqn k hk; omega))
  ·refine ⟨hJ Oq _ _ wr W2 (fun k hk => (hOq k hk).1) hJq (ht2.mono fun _ h => h.elim) (hOQ _) (fun k hk => ?_), hO2, ?_, ?_, fun k hk => ?_⟩
   ·rw [hOf] at hk
    rcases hk with h | h | h | h
    ·exact h.elim
    ·exact .inl h
    ·right; omega
    ·right; omega
   ·exact (ht2.2.2.2.2 _ hB.lt (fun h => h.elim)).trans hB
   ·exact hM.kept (fun _ h => h) (fun k hk hkl => ht2.2.2.2.2 k hkl (fun h => h.elim))
   ·rw [hOf] at hk
    rcases hk with h | h | h | h
    ·exact h.elim
    ·have := hOqn k h; omega
    ·omega
    ·omega
  ·rintro L O i x W hL hOge ⟨h1, h2, h3, h4, h5⟩ hx
   rw [List.getElem?_map] at hx
   cases hxi : (keptE li fu de 0 es)[i]? with
   | none => rw [hxi] at hx; cases hx
   | some e =>
    rw [hxi] at hx
    simp only [Option.map_some, Option.some.injEq] at hx
    subst hx
    obtain ⟨key, t, v⟩ := e
    dsimp only [Et.val]
    simp only [List.zip_toArray, List.zip_cons_cons, List.zip_nil_left, List.foldl_toArray, List.foldl_cons, List.foldl_nil, List.setIfInBounds_toArray, List.set_cons_succ, List.set_cons_zero]
    have hnW : n1 + 1 < W.heap.size := h5 _ (by rw [hOf]; exact .inr (.inr (.inr rfl)))
    have hLW := h5 L (hOO O L hL)
    have hLn := hOge L hL
    have hwO : Of O w.heap.size := hOQ O _ hOw
    have hxs : ((allK li fu de ls).map fun e => #[e.val])[(allK li fu de (ls.take q)).length + i]? = some #[Et.val ⟨key, t, v⟩] := by
     rw [List.getElem?_map, allK_at hlt (by rw [hes]; exact hxi)]; rfl
    gi_wp2
    refine ⟨⟨by simp, fun k hk => Below.heap_alloc W _ k ?_⟩, fun r => ?_⟩
    ·rcases hk with ⟨h, _⟩ | h
     ·omega
     ·exact h5 k (hOO O k h)
    obtain ⟨W5, hW5⟩ : ∃ W5, (W.alloc (Obj.cells #[Value.string key, Value.int IntKind.i64 t, Value.int IntKind.i64 v] 57)).putObj L (Obj.loop r) = W5 := ⟨_, rfl⟩
    have ht5 : TurnO (Of O) W W5 := by rw [← hW5]; exact (TurnO.alloc _ _ _).trans (TurnO.put _ _ (hOO O L hL)) (fun _ h => .inl h)
    have hs5 : W.heap.size < W5.heap.size := by rw [← hW5]; simp
    have hE5 : Blk W5 W.heap.size 57 #[Value.string key, Value.int IntKind.i64 t, Value.int IntKind.i64 v] := by
     rw [← hW5]; exact (World.putObj_heap_other (by omega)).trans (Blk.new W _ _)
    have hB5 : Blk W5 w.heap.size 85 #[.func (.yield l) #[] #[]] := by
     rw [← hW5]; exact (World.putObj_heap_other (by omega)).trans ((Blk.alloc h3 _))
    have hM5 : MarksO Oq ds W5 := h4.kept (fun _ h => h) (fun k hk hkl => by
     rw [← hW5]
     exact (World.putObj_heap_other (by have := hOqn k hk; omega)).trans (Below.heap_alloc W _ k hkl))
    have hO5 := h2.turn ht5 (hOfge O hOge)
    have hJ5 := hJ (Of O) (Of O) _ W W5 (hOfge O hOge) h1 ht5 (fun _ h => h) (fun _ h => .inl h)
    obtain ⟨fn, tmps, assign, body, hy, hR⟩ := hY (Of O) _ _ W5 (hOfge O hOge) hJ5 hxs
    dsimp only [Et.val] at hy
    rw [hW5]
    clear hW5
    have k0 := hB5.cell 0
    have k1 := hE5.cell 0
    have k2 := hE5.cell 1
    have k3 := hE5.cell 2
    gi_wp2
    refine ⟨rfl, RoundIn.mono (F := Fence.wide.inRound L) hR ?_⟩
    rintro e W6 (⟨rfl, hJ6, hk6⟩ | ⟨rfl, hJx6, hk6⟩)
    ·gi_wp2
     refine ⟨⟨by have := hk6.1; omega, fun k hk => hk6.2 k ?_⟩, hJ6, hO5.ko hk6, (hk6.2 _ (.inr hwO)).trans hB5, hM5.kept (fun _ h => h) (fun k hk _ => hk6.2 k (.inr (hOQ O k hk))), fun k hk => by have := h5 k hk; have := hk6.1; omega⟩
     rcases hk with ⟨h6, h7⟩ | h
     ·rw [hA'] at h7
      rcases Classical.not_and_iff_not_or_not.1 h7 with h8 | h8
      ·omega
      ·rcases Classical.not_not.1 h8 with h9 | h9
       ·exact .inl h9
       ·right; rw [hOf]; exact .inr h9
     ·exact .inr (hOO O k h)
    ·gi_wp2
     exact ⟨⟨by have := hk6.1; omega, fun k hk => hk6.2 k (hOO O k hk)⟩, rfl, ⟨_, hJx6⟩, hM5.kept (fun _ h => h) (fun k hk _ => hk6.2 k (hOQ O k hk))⟩
  ·rintro O W ho hOD ⟨h1, h2, h3, h4, h5⟩ hD
   gi_wp2
   have e : ((q + 1 : Nat) : Int) = (q : Int) + 1 := by omega
   rw [← e]
   rw [List.length_map, ← hes, ← allK_snoc hlt] at h1
   refine ⟨⟨q + 1, Of O, _, _, _, _, _, _, _, _, _, rfl, by omega, fun k hk => ⟨hOfge O ho k hk, h5 k hk⟩, hOQ O _ hOw, h1, h3, h2, List.nodup_cons.2 ⟨fun hc => ?_, h4.1⟩, fun d hd => ?_⟩, ?_⟩
   ·obtain ⟨D, g1, g2, g3⟩ := h4.2 _ hc
    injection g1 with g1 _; injection g1 with g1
    have := hOqn D g2
    omega
   ·rcases List.mem_cons.1 hd with rfl | hd
    ·exact ⟨_, rfl, hOO O _ hOD, hD⟩
    ·obtain ⟨D, g1, g2, g3⟩ := h4.2 d hd
     exact ⟨D, g1, hOQ O D g2, g3⟩
   ·simp [intOf]; omega
  ·rintro O cc W ho hOD ⟨rfl, ⟨j, h1⟩, h2⟩ hD
   gi_wp2
   refine leave_marks (O := Of O) (hresN _) _ W ⟨List.nodup_cons.2 ⟨fun hc => ?_, h2.1⟩, fun d hd => ?_⟩ (fun W' ht => ⟨⟨_, rfl⟩, Of O, hOfge O ho, .inr ⟨j, hJx (Of O) (Of O) _ W W' (hOfge O ho) h1 ht (fun _ h => h) (fun _ h => .inl h)⟩⟩)
   ·obtain ⟨D, g1, g2, g3⟩ := h2.2 _ hc
    injection g1 with g1 _; injection g1 with g1
    have := hOqn D g2
    omega
   ·rcases List.mem_cons.1 hd with rfl | hd
    ·exact ⟨_, rfl, hOO O _ hOD, hD⟩
    ·obtain ⟨D, g1, g2, g3⟩ := h2.2 d hd
     exact ⟨D, g1, hOQ O D g2, g3⟩
 ·subst heq
  rw [List.take_length] at hJq
  gi_wp2
  exact leave_marks (O := Oq) (hresN _) _ wr hM (fun W' ht => ⟨⟨_, rfl⟩, Oq, fun k hk => (hOq k hk).1, .inl (hJ Oq Oq _ wr W' (fun k hk => (hOq k hk).1) hJq ht (fun _ h => h) (fun _ h => .inl h))⟩)
theorem seq_all (g s d k fu li de id : Int) (ls : List (List Et)) (hls : ∀ es ∈ ls, (∀ e ∈ es, -9223372036854775808 ≤ e.v ∧ e.v ≤ 9223372036854775807) ∧ es.length ≤ 1000000) (hli : li ≤ 9223372036854775807) (hlen : ls.length ≤ 1000000) :
  SeqAV Tryz.prog 30 [.el [.sl 1 (ls.map inAv)], .el [.v (.int .i64 g), .v (.int .i64 s), .v (.int .i64 d), .v (.int .i64 k), .v (.int .i64 fu), .v (.int .i64 li), .v (.int .i64 de), .v (.int .i64 id)]] ((allK li fu de ls).map fun e => #[e.val]) := by
 refine ⟨⟨_, Tryz.func30, by kernel_rfl, rfl⟩, by rfl, fun w A μ ks hA hks l J Jx hJ hJx hY h0 => ?_⟩
 simp only [repL, rep, repC] at hks
 obtain ⟨k2, ks2, rfl, ⟨bl, ol, us2, rfl, rl, a9, m9, rfl, _, ⟨ad, c, us3, rfl, hc1, hc2, re, hre⟩, rfl⟩, k1, ks1, rfl, ⟨bj, oj, us, rfl, rj, a1, m1, rfl, _, ⟨rfl, _⟩, a2, m2, rfl, _, ⟨rfl, _⟩, a3, m3, rfl, _, ⟨rfl, _⟩, a4, m4, rfl, _, ⟨rfl, _⟩, a5, m5, rfl, _, ⟨rfl, _⟩, a6, m6, rfl, _, ⟨rfl, _⟩, a7, m7, rfl, _, ⟨rfl, _⟩, a8, m8, rfl, _, ⟨rfl, _⟩, rfl⟩, rfl⟩ := hks
 have hin := in_cells hre
 rw [List.length_map] at hc1 rl
 rw [List.length_map]
 exact callsIn_wide.1 (it_all g s d k fu li de id ls hls hli hlen A w l bl ol bj oj c ad us3 hA rl ⟨hc1, hc2⟩ re hin rj J Jx hJ hJx hY h0)
end Go.Proofs.YtilgagmfcdfjaaaGreat
namespace Go.Proofs.YtilgagmfcdfjaaaGreat
open Go.RowKit
theorem job_parts {g s d k fu li de id : Int} (h : jobOK g s d k fu li de id = true) : fRight k = true ∧ winB s d = true := by
 unfold jobOK at h
 simp only [Bool.and_eq_true] at h
 simp [h]
theorem check_parts {g s d k fu li de id : Int} {ls : List (List Et)} (h : checkN g s d k fu li de id ls = 0) : fRight k = true ∧ winB s d = true ∧ ls.length ≤ 4 ∧ ∀ es ∈ ls, es.length ≤ 200 ∧ ∀ e ∈ es, evR e.key e.at' = true := by
 unfold checkN at h
 split at h
 ·cases h
 ·rename_i hj
  have hj := job_parts (by simpa using hj)
  split at h
  ·cases h
  ·rename_i hi
   have hi : okIn ls = true := by simpa using hi
   unfold okIn at hi
   simp only [Bool.and_eq_true, decide_eq_true_eq, List.all_eq_true] at hi
   refine ⟨hj.1, hj.2, hi.2.1, fun es he => ?_⟩
   have := hi.2.2 es he
   unfold okEs at this
   simp only [Bool.and_eq_true, decide_eq_true_eq, List.all_eq_true] at this
   exact this
theorem et_cav (x : Et) (σ : Store) (μ : Nat → Value) (w : World) (A : Nat → Prop) : rep σ μ w A (.agg (Et.av x)) (Et.val x) := by
 simp only [rep, repC, Et.av, Et.val]
 exact ⟨[.string x.key, .int .i64 x.at', .int .i64 x.v], rfl, _, _, rfl, rfl, ⟨rfl, rfl⟩, _, _, rfl, rfl, ⟨rfl, rfl⟩, _, _, rfl, rfl, ⟨rfl, rfl⟩, rfl⟩
def markN (g s d k fu li de id : Int) (es : List Et) : Int := if checkN g s d k fu li de id [es] = 0 then markE de 0 es else 0
section
variable (g s d k fu li de id : Int) (es : List Et)
theorem m_Mark (hx : Small [es]) (hes : ∀ e ∈ es, -9223372036854775808 ≤ e.v ∧ e.v ≤ 9223372036854775807) (hli : li ≤ 9223372036854775807) :
  PC Tryz.prog 40 [.agg [.v (.int .i64 g), .v (.int .i64 s), .v (.int .i64 d), .v (.int .i64 k), .v (.int .i64 fu), .v (.int .i64 li), .v (.int .i64 de), .v (.int .i64 id)], .sl 3 (es.map Et.av)] (.v (.int .i64 (markN g s d k fu li de id es))) := by
 have hc := m_check g s d k fu li de id [es] hx
 have hlen := hx.2 es (by simp)
 unfold markN
 by_cases h0 : checkN g s d k fu li de id [es] = 0
 ·rw [h0] at hc
  simp only [h0, if_true]
  refine PC.mk (ac_body tab_ok Tryz.func40 rfl (by kernel_rfl) rfl ?_); intro w0 M μ0; simp only [Tryz.ntmps40, List.length_cons, List.length_nil, Nat.reduceAdd, Nat.reduceSub, numb]
  repeat' (first | ((first | apply o_do | apply d_do | apply d_yes rfl rfl rfl); first | exact lcs (hc) | exact lsq) | refine a_seq ?_ | refine a_region ?_ | refine o_nil ?_ | refine a_block ?_ | refine a_ret ?_ | refine a_exit ?_ | refine a_skip ?_ | refine a_draw mixed ?_ | refine d_nil (by kernel_rfl) ?_ | refine o_yes rfl rfl rfl ?_ | refine o_no rfl rfl rfl (by decide) ?_ | refine o_no' rfl rfl rfl ?_ | refine a_condT rfl ?_ | refine a_condF rfl ?_ | refine d_no rfl rfl rfl (by decide) ?_ | refine d_no' rfl rfl rfl ?_ | (refine wq2 (fun hb => ?_) (fun hb => ?_) <;> (simp only [hb]; try simp only [hbs, ne_eq] at hb; try (exfalso; first | omega | exact hb trivial))) | fail)
  refine a_loop (X := {q : Nat // q ≤ es.length}) (fun x => ⟨[(5, .ref 1 0), (16, .sl 3 (es.map Et.av)), (17, .v (.int .i64 es.length)), (18, .v (.int .i64 x.1))], [(1, .box 116 (srcAv g s d k fu li de id (markE de 0 (es.take x.1))))]⟩) (fun x => es.length - x.1) ⟨0, Nat.zero_le _⟩ ?_ ?_
  ·exact wkS
  rintro ⟨q, hq⟩
  dsimp only
  by_cases hlt : q < es.length
  ·have hel : (es.map Et.av)[q]? = some (Et.av es[q]) := by simp [hlt]
   have hv := hes _ (List.getElem_mem hlt)
   have hms := markE_step (de := de) (m := 0) hlt
   have hS := c_see g s d k fu li de id (markE de 0 (es.take q)) es[q].key es[q].at' es[q].v hv hli
   generalize es[q] = e at *
   repeat' (first | ((first | apply o_do | apply d_do | apply d_yes rfl rfl rfl); first | exact ls_indexAddr_sl tab_ok rfl rfl rfl rfl hel rfl | exact lca [1] 5 hS | exact lsq) | refine a_seq ?_ | refine a_region ?_ | refine o_nil ?_ | refine a_block ?_ | refine a_ret ?_ | refine a_exit ?_ | refine a_skip ?_ | refine a_draw mixed ?_ | refine d_nil (by kernel_rfl) ?_ | refine o_yes rfl rfl rfl ?_ | refine o_no rfl rfl rfl (by decide) ?_ | refine o_no' rfl rfl rfl ?_ | refine a_condT rfl ?_ | refine a_condF rfl ?_ | refine d_no rfl rfl rfl (by decide) ?_ | refine d_no' rfl rfl rfl ?_ | (refine wq2 (fun hb => ?_) (fun hb => ?_) <;> (simp only [hb]; try simp only [hbs, ne_eq] at hb; try (exfalso; first | omega | exact hb trivial))) | fail)
   refine ⟨⟨q + 1, by omega⟩, by dsimp only; omega, ?_⟩
   refine ⟨by repeat' (first | exact trivial | exact FinA.one (FinB.cell (FinC.same rfl)) | exact FinA.one (FinB.cell FinC.nil) | exact FinA.bound rfl | exact FinA.one (FinB.cell (FinC.own rfl rfl rfl rfl)) | exact FinA.one (FinB.cell (FinC.v (by first | rfl | ((first | (simp; done) | (simp only [hms]; rfl)))))) | exact FinA.one (FinB.cell (FinC.ow rfl (by first | rfl | ((first | (simp; done) | (simp only [hms]; rfl)))))) | exact FinA.one (FinB.agg' rfl rfl) | refine ⟨⟨_, rfl, ?_⟩, ?_⟩), by repeat' (first | exact trivial | refine ⟨⟨_, rfl, by first | rfl | ((first | (simp; done) | (simp only [hms]; rfl)); done) | (simp [renO, *]; done)⟩, by first | rfl | assumption, ?_⟩), rfl⟩
  ·obtain rfl : q = es.length := by omega
   rw [List.take_length]
   repeat' (first | ((first | apply o_do | apply d_do | apply d_yes rfl rfl rfl); first | exact ls_nilCheck rfl rfl | exact lsq) | refine a_seq ?_ | refine a_region ?_ | refine o_nil ?_ | refine a_block ?_ | refine a_ret ?_ | refine a_exit ?_ | refine a_skip ?_ | refine a_draw mixed ?_ | refine d_nil (by kernel_rfl) ?_ | refine o_yes rfl rfl rfl ?_ | refine o_no rfl rfl rfl (by decide) ?_ | refine o_no' rfl rfl rfl ?_ | refine a_condT rfl ?_ | refine a_condF rfl ?_ | refine d_no rfl rfl rfl (by decide) ?_ | refine d_no' rfl rfl rfl ?_ | (refine wq2 (fun hb => ?_) (fun hb => ?_) <;> (simp only [hb]; try simp only [hbs, ne_eq] at hb; try (exfalso; first | omega | exact hb trivial))) | fail)
   all_goals refine rq rfl ?_
   all_goals exact fnq
 ·rw [if_neg h0]
  generalize checkN g s d k fu li de id [es] = r at *
  refine PC.mk (ac_body tab_ok Tryz.func40 rfl (by kernel_rfl) rfl ?_); intro w0 M μ0; simp only [Tryz.ntmps40, List.length_cons, List.length_nil, Nat.reduceAdd, Nat.reduceSub, numb]
  repeat' (first | ((first | apply o_do | apply d_do | apply d_yes rfl rfl rfl); first | exact lcs (hc) | exact lsq) | refine a_seq ?_ | refine a_region ?_ | refine o_nil ?_ | refine a_block ?_ | refine a_ret ?_ | refine a_exit ?_ | refine a_skip ?_ | refine a_draw mixed ?_ | refine d_nil (by kernel_rfl) ?_ | refine o_yes rfl rfl rfl ?_ | refine o_no rfl rfl rfl (by decide) ?_ | refine o_no' rfl rfl rfl ?_ | refine a_condT rfl ?_ | refine a_condF rfl ?_ | refine d_no rfl rfl rfl (by decide) ?_ | refine d_no' rfl rfl rfl ?_ | (refine wq2 (fun hb => ?_) (fun hb => ?_) <;> (simp only [hb]; try simp only [hbs, ne_eq] at hb; try (exfalso; first | omega | exact hb trivial))) | fail)
  all_goals refine rq rfl ?_
  all_goals (first | refine FinA.tup ?_ | refine FinA.clo ?_ ?_ | refine FinA.one ?_); repeat' (first | exact FinBs.nil | exact FinCs.nil | refine FinBs.cons ?_ ?_ | refine FinCs.cons ?_ ?_ | refine FinB.cell (FinC.v ?_) | refine FinB.cell (FinC.own rfl rfl rfl ?_) | exact FinB.cell (FinC.el rfl rfl rfl rfl) | exact FinB.cell FinC.nil | refine FinB.cell (FinC.sl ?_) | exact FinB.agg' rfl rfl | exact FinB.cell (FinC.same rfl) | refine FinB.agg ?_ | refine FinC.v ?_ | refine FinC.own rfl rfl rfl ?_ | exact FinC.nil | refine FinC.sl ?_ | exact FinC.same rfl); all_goals try rfl
def KR.av (r : List Et × Int) : AV := .tup [.sl 3 (r.1.map Et.av), .v (.int .i64 r.2)]
end
end Go.Proofs.YtilgagmfcdfjaaaGreat
namespace Go.Proofs.YtilgagmfcdfjaaaGreat
open Go.RowKit
section
variable (g s d k fu li de id : Int) (es : List Et)
end
section
variable {Γ : Ctx} {s : ASt} {dst : Option Tmp} {ty yt : TypeId} {pos : String} {after : Array Edge} {x y : Operand}
end
structure It where
 kind : Int
 key : ByteArray
 at' : Int
 val : Int
 mark : Int
 n : Int
 lo : Int
 hi : Int
 rkey : ByteArray
 rn : Int
 rval : Int
deriving DecidableEq
def It.vals (x : It) : List Value := [.int .i64 x.kind, .string x.key, .int .i64 x.at', .int .i64 x.val, .int .i64 x.mark, .int .i64 x.n, .int .i64 x.lo, .int .i64 x.hi, .string x.rkey, .int .i64 x.rn, .int .i64 x.rval]
def It.av (x : It) : List AV := [.v (.int .i64 x.kind), .v (.string x.key), .v (.int .i64 x.at'), .v (.int .i64 x.val), .v (.int .i64 x.mark), .v (.int .i64 x.n), .v (.int .i64 x.lo), .v (.int .i64 x.hi), .v (.string x.rkey), .v (.int .i64 x.rn), .v (.int .i64 x.rval)]
def noE (k : ByteArray) (a v : Int) : Bool := decide (k = .empty) && (decide (a = 0) && decide (v = 0))
def noR (lo hi : Int) (k : ByteArray) (n v : Int) : Bool := decide (lo = 0) && (decide (hi = 0) && (decide (k = .empty) && (decide (n = 0) && decide (v = 0))))
def resR (lo hi : Int) (k : ByteArray) (n : Int) : Bool := keyB k && (decide (0 ≤ lo) && (decide (lo < hi) && (decide (hi ≤ 1099511627776) && (decide (1 ≤ n) && decide (n ≤ 1073741824)))))
def itR (x : It) : Bool := match x with
 | ⟨kind, k, a, v, m, n, lo, hi, rk, rn, rv⟩ =>
  if kind = 1 then decide (m = 0) && (decide (n = 0) && (noR lo hi rk rn rv && evR k a))
  else if kind = 2 then noE k a v && (decide (n = 0) && (noR lo hi rk rn rv && (decide (0 ≤ m) && decide (m ≤ 1099511627776))))
  else if kind = 3 then noE k a v && (decide (m = 0) && (decide (n = 0) && noR lo hi rk rn rv))
  else if kind = 4 then noE k a v && (decide (m = 0) && (noR lo hi rk rn rv && (decide (1 ≤ n) && decide (n ≤ 1073741824))))
  else if kind = 5 then noE k a v && (decide (m = 0) && (decide (n = 0) && resR lo hi rk rn))
  else false
theorem p_iresult (lo hi : Int) (k : ByteArray) (n v : Int) : PC Tryz.prog 127 [.agg [.v (.int .i64 lo), .v (.int .i64 hi), .v (.string k), .v (.int .i64 n), .v (.int .i64 v)]] (.v (.bool (resR lo hi k n))) := by
 have h := p_ikey k
 unfold resR
 cases hk : keyB k
 all_goals
  rw [hk] at h
  refine PC.mk (ac_body tab_ok Tryz.func127 rfl (by kernel_rfl) rfl ?_); intro w0 M μ0; simp only [Tryz.ntmps127, List.length_cons, List.length_nil, Nat.reduceAdd, Nat.reduceSub, numb]
  repeat' (first | ((first | apply o_do | apply d_do | apply d_yes rfl rfl rfl); first | exact lsc (h) | exact lsq) | refine a_seq ?_ | refine a_region ?_ | refine o_nil ?_ | refine a_block ?_ | refine a_ret ?_ | refine a_exit ?_ | refine a_skip ?_ | refine a_draw mixed ?_ | refine d_nil (by kernel_rfl) ?_ | refine o_yes rfl rfl rfl ?_ | refine o_no rfl rfl rfl (by decide) ?_ | refine o_no' rfl rfl rfl ?_ | refine a_condT rfl ?_ | refine a_condF rfl ?_ | refine d_no rfl rfl rfl (by decide) ?_ | refine d_no' rfl rfl rfl ?_ | (refine wq2 (fun hb => ?_) (fun hb => ?_) <;> (simp only [hb]; try simp only [hbs, ne_eq] at hb; try (exfalso; first | omega | exact hb trivial))) | fail)
  all_goals refine rq rfl ?_
  all_goals (first | refine FinA.tup ?_ | refine FinA.one ?_); repeat' (first | exact FinBs.nil | exact FinCs.nil | refine FinBs.cons ?_ ?_ | refine FinCs.cons ?_ ?_ | refine FinB.cell (FinC.v ?_) | refine FinB.cell (FinC.own rfl rfl rfl ?_) | exact FinB.cell FinC.nil | refine FinB.cell (FinC.sl ?_) | exact FinB.agg' rfl rfl | exact FinB.cell (FinC.same rfl) | refine FinB.agg ?_ | refine FinC.v ?_ | refine FinC.own rfl rfl rfl ?_ | exact FinC.nil | refine FinC.sl ?_ | exact FinC.same rfl); all_goals try rfl
  all_goals simp [*]
theorem bytes_same {a b : ByteArray} : a.toList = b.toList ↔ a = b := by
 rw [ByteArray.toList_eq, ByteArray.toList_eq]
 exact ⟨fun h => ByteArray.ext (Array.toList_inj.1 h), fun h => by rw [h]⟩
theorem run_eql_It (x y : Operand) (p q : It) (w : World) : (do eqGuard .eql 63 x y (.agg p.vals.toArray) (.agg q.vals.toArray); binOp .eql 63 (.agg p.vals.toArray) (.agg q.vals.toArray) : Sem Value).run Tryz.prog w = .ok (.bool (decide (p = q))) w := by
 obtain ⟨a1, a2, a3, a4, a5, a6, a7, a8, a9, a10, a11⟩ := p
 obtain ⟨b1, b2, b3, b4, b5, b6, b7, b8, b9, b10, b11⟩ := q
 unfold It.vals
 simp only [It.mk.injEq]
 by_cases h1 : a1 = b1
 ·by_cases h2 : a2 = b2
  ·by_cases h3 : a3 = b3
   ·by_cases h4 : a4 = b4
    ·by_cases h5 : a5 = b5
     ·by_cases h6 : a6 = b6
      ·by_cases h7 : a7 = b7
       ·by_cases h8 : a8 = b8
        ·by_cases h9 : a9 = b9
         ·by_cases h10 : a10 = b10
          ·by_cases h11 : a11 = b11
           ·subst h1 h2 h3 h4 h5 h6 h7 h8 h9 h10 h11; go_simp
           ·subst h1 h2 h3 h4 h5 h6 h7 h8 h9 h10; go_simp; first | done | simp [h11]
          ·subst h1 h2 h3 h4 h5 h6 h7 h8 h9; go_simp; first | done | simp [h10]
         ·subst h1 h2 h3 h4 h5 h6 h7 h8; go_simp; first | done | simp [h9, bytes_same] | (intro h'; exact h9 (bytes_same.1 h'))
        ·subst h1 h2 h3 h4 h5 h6 h7; go_simp; first | done | simp [h8]
       ·subst h1 h2 h3 h4 h5 h6; go_simp; first | done | simp [h7]
      ·subst h1 h2 h3 h4 h5; go_simp; first | done | simp [h6]
     ·subst h1 h2 h3 h4; go_simp; first | done | simp [h5]
    ·subst h1 h2 h3; go_simp; first | done | simp [h4]
   ·subst h1 h2; go_simp; first | done | simp [h3]
  ·subst h1; go_simp; first | done | simp [h2, bytes_same] | (intro h'; exact h2 (bytes_same.1 h'))
 ·go_simp; first | done | simp [h1]
def bareIt (x : It) : It := match x with
 | ⟨kind, k, a, v, m, n, lo, hi, rk, rn, rv⟩ =>
  if kind = 1 then ⟨kind, k, a, v, 0, 0, 0, 0, .empty, 0, 0⟩
  else if kind = 2 then ⟨kind, .empty, 0, 0, m, 0, 0, 0, .empty, 0, 0⟩
  else if kind = 4 then ⟨kind, .empty, 0, 0, 0, n, 0, 0, .empty, 0, 0⟩
  else if kind = 5 then ⟨kind, .empty, 0, 0, 0, 0, lo, hi, rk, rn, rv⟩
  else ⟨kind, .empty, 0, 0, 0, 0, 0, 0, .empty, 0, 0⟩
def bareOk (x : It) : Bool := match x with
 | ⟨kind, k, a, v, m, n, lo, hi, rk, rn, rv⟩ =>
  if kind = 1 then evR k a
  else if kind = 2 then decide (0 ≤ m) && decide (m ≤ 1099511627776)
  else if kind = 3 then true
  else if kind = 4 then decide (1 ≤ n) && decide (n ≤ 1073741824)
  else if kind = 5 then resR lo hi rk rn
  else false
theorem itR_bare (x : It) : itR x = (bareOk x && decide (bareIt x = x)) := by
 obtain ⟨kind, k, a, v, m, n, lo, hi, rk, rn, rv⟩ := x
 simp only [itR, bareOk, bareIt]
 split
 ·subst kind
  simp only [It.mk.injEq, noR]
  rw [Bool.eq_iff_iff]
  simp only [Bool.and_eq_true, decide_eq_true_eq]
  constructor
  ·rintro ⟨h1, h2, ⟨h3, h4, h5, h6, h7⟩, h8⟩; simp [*]
  ·rintro ⟨h1, _, _, _, _, h2, h3, h4, h5, h6, h7, h8⟩; exact ⟨h2.symm, h3.symm, ⟨h4.symm, h5.symm, h6.symm, h7.symm, h8.symm⟩, h1⟩
 split
 ·subst kind
  simp only [It.mk.injEq, noR, noE]
  rw [Bool.eq_iff_iff]
  simp only [Bool.and_eq_true, decide_eq_true_eq]
  constructor
  ·rintro ⟨⟨h1, h2, h2'⟩, h3, ⟨h4, h5, h6, h7, h8⟩, h9, h10⟩; simp [*]
  ·rintro ⟨⟨h9, h10⟩, _, h1, h2, h2', _, h3, h4, h5, h6, h7, h8⟩; exact ⟨⟨h1.symm, h2.symm, h2'.symm⟩, h3.symm, ⟨h4.symm, h5.symm, h6.symm, h7.symm, h8.symm⟩, h9, h10⟩
 split
 ·subst kind
  simp only [It.mk.injEq, noR, noE]
  rw [Bool.eq_iff_iff]
  simp only [Bool.and_eq_true, decide_eq_true_eq]
  simp only [show ¬ (3 : Int) = 4 by decide, show ¬ (3 : Int) = 5 by decide, if_false, It.mk.injEq, true_and]
  constructor
  ·rintro ⟨⟨h1, h2, h2'⟩, h3, h4, h5, h6, h7, h8, h9⟩; simp [*]
  ·rintro ⟨h1, h2, h2', h3, h4, h5, h6, h7, h8, h9⟩; exact ⟨⟨h1.symm, h2.symm, h2'.symm⟩, h3.symm, h4.symm, h5.symm, h6.symm, h7.symm, h8.symm, h9.symm⟩
 split
 ·subst kind
  simp only [It.mk.injEq, noR, noE]
  rw [Bool.eq_iff_iff]
  simp only [Bool.and_eq_true, decide_eq_true_eq]
  constructor
  ·rintro ⟨⟨h1, h2, h2'⟩, h3, ⟨h4, h5, h6, h7, h8⟩, h9, h10⟩; simp [*]
  ·rintro ⟨⟨h9, h10⟩, _, h1, h2, h2', h3, _, h4, h5, h6, h7, h8⟩; exact ⟨⟨h1.symm, h2.symm, h2'.symm⟩, h3.symm, ⟨h4.symm, h5.symm, h6.symm, h7.symm, h8.symm⟩, h9, h10⟩
 split
 ·subst kind
  simp only [It.mk.injEq, noR, noE]
  rw [Bool.eq_iff_iff]
  simp only [Bool.and_eq_true, decide_eq_true_eq]
  constructor
  ·rintro ⟨⟨h1, h2, h2'⟩, h3, h4, h5⟩; simp [*]
  ·rintro ⟨h5, _, h1, h2, h2', h3, h4, _⟩; exact ⟨⟨h1.symm, h2.symm, h2'.symm⟩, h3.symm, h4.symm, h5⟩
 ·simp
def iTup (b : It) (o : Bool) : AV := .tup [.agg b.av, .v (.bool o)]
theorem i_bare (x : It) : PC Tryz.prog 96 [.agg x.av] (iTup (bareIt x) (bareOk x)) := by
 obtain ⟨kind, k, a, v, m, n, lo, hi, rk, rn, rv⟩ := x
 have h1 := p_Event k a v
 have h2 := p_iresult lo hi rk rn rv
 simp only [bareIt, bareOk, iTup, It.av]
 by_cases k1 : kind = 1
 ·subst k1
  simp only [if_true]
  refine PC.mk (ac_body tab_ok Tryz.func96 rfl (by kernel_rfl) rfl ?_); intro w0 M μ0; simp only [Tryz.ntmps96, List.length_cons, List.length_nil, Nat.reduceAdd, Nat.reduceSub, numb]
  repeat' (first | ((first | apply o_do | apply d_do | apply d_yes rfl rfl rfl); first | exact lsc (h1) | exact lsq) | refine a_seq ?_ | refine a_region ?_ | refine o_nil ?_ | refine a_block ?_ | refine a_ret ?_ | refine a_exit ?_ | refine a_skip ?_ | refine a_draw mixed ?_ | refine d_nil (by kernel_rfl) ?_ | refine o_yes rfl rfl rfl ?_ | refine o_no rfl rfl rfl (by decide) ?_ | refine o_no' rfl rfl rfl ?_ | refine a_condT rfl ?_ | refine a_condF rfl ?_ | refine d_no rfl rfl rfl (by decide) ?_ | refine d_no' rfl rfl rfl ?_ | (refine wq2 (fun hb => ?_) (fun hb => ?_) <;> (simp only [hb]; try simp only [hbs, ne_eq] at hb; try (exfalso; first | omega | exact hb trivial))) | fail)
  all_goals refine rq rfl ?_
  all_goals exact fnq
 by_cases k2 : kind = 2
 ·subst k2
  simp only [show ¬ (2 : Int) = 1 by decide, if_true, if_false]
  refine PC.mk (ac_body tab_ok Tryz.func96 rfl (by kernel_rfl) rfl ?_); intro w0 M μ0; simp only [Tryz.ntmps96, List.length_cons, List.length_nil, Nat.reduceAdd, Nat.reduceSub, numb]
  repeat' (first | ((first | apply o_do | apply d_do | apply d_yes rfl rfl rfl); exact lsq) | refine a_seq ?_ | refine a_region ?_ | refine o_nil ?_ | refine a_block ?_ | refine a_ret ?_ | refine a_exit ?_ | refine a_skip ?_ | refine a_draw mixed ?_ | refine d_nil (by kernel_rfl) ?_ | refine o_yes rfl rfl rfl ?_ | refine o_no rfl rfl rfl (by decide) ?_ | refine o_no' rfl rfl rfl ?_ | refine a_condT rfl ?_ | refine a_condF rfl ?_ | refine d_no rfl rfl rfl (by decide) ?_ | refine d_no' rfl rfl rfl ?_ | (refine wq2 (fun hb => ?_) (fun hb => ?_) <;> (simp only [hb]; try simp only [hbs, ne_eq] at hb; try (exfalso; first | omega | exact hb trivial))) | fail)
  all_goals refine rq rfl ?_
  all_goals (first | refine FinA.tup ?_ | refine FinA.one ?_); repeat' (first | exact FinBs.nil | exact FinCs.nil | refine FinBs.cons ?_ ?_ | refine FinCs.cons ?_ ?_ | refine FinB.cell (FinC.v ?_) | refine FinB.cell (FinC.own rfl rfl rfl ?_) | exact FinB.cell FinC.nil | refine FinB.cell (FinC.sl ?_) | exact FinB.agg' rfl rfl | exact FinB.cell (FinC.same rfl) | refine FinB.agg ?_ | refine FinC.v ?_ | refine FinC.own rfl rfl rfl ?_ | exact FinC.nil | refine FinC.sl ?_ | exact FinC.same rfl); all_goals try rfl
  all_goals simp [*]
 by_cases k3 : kind = 3
 ·subst k3
  simp only [show ¬ (3 : Int) = 1 by decide, show ¬ (3 : Int) = 2 by decide, show ¬ (3 : Int) = 4 by decide, show ¬ (3 : Int) = 5 by decide, if_true, if_false]
  refine PC.mk (ac_body tab_ok Tryz.func96 rfl (by kernel_rfl) rfl ?_); intro w0 M μ0; simp only [Tryz.ntmps96, List.length_cons, List.length_nil, Nat.reduceAdd, Nat.reduceSub, numb]
  repeat' (first | ((first | apply o_do | apply d_do | apply d_yes rfl rfl rfl); exact lsq) | refine a_seq ?_ | refine a_region ?_ | refine o_nil ?_ | refine a_block ?_ | refine a_ret ?_ | refine a_exit ?_ | refine a_skip ?_ | refine a_draw mixed ?_ | refine d_nil (by kernel_rfl) ?_ | refine o_yes rfl rfl rfl ?_ | refine o_no rfl rfl rfl (by decide) ?_ | refine o_no' rfl rfl rfl ?_ | refine a_condT rfl ?_ | refine a_condF rfl ?_ | refine d_no rfl rfl rfl (by decide) ?_ | refine d_no' rfl rfl rfl ?_ | (refine wq2 (fun hb => ?_) (fun hb => ?_) <;> (simp only [hb]; try simp only [hbs, ne_eq] at hb; try (exfalso; first | omega | exact hb trivial))) | fail)
  all_goals refine rq rfl ?_
  all_goals exact fnq
 by_cases k4 : kind = 4
 ·subst k4
  simp only [show ¬ (4 : Int) = 1 by decide, show ¬ (4 : Int) = 2 by decide, show ¬ (4 : Int) = 3 by decide, if_true, if_false]
  refine PC.mk (ac_body tab_ok Tryz.func96 rfl (by kernel_rfl) rfl ?_); intro w0 M μ0; simp only [Tryz.ntmps96, List.length_cons, List.length_nil, Nat.reduceAdd, Nat.reduceSub, numb]
  repeat' (first | ((first | apply o_do | apply d_do | apply d_yes rfl rfl rfl); exact lsq) | refine a_seq ?_ | refine a_region ?_ | refine o_nil ?_ | refine a_block ?_ | refine a_ret ?_ | refine a_exit ?_ | refine a_skip ?_ | refine a_draw mixed ?_ | refine d_nil (by kernel_rfl) ?_ | refine o_yes rfl rfl rfl ?_ | refine o_no rfl rfl rfl (by decide) ?_ | refine o_no' rfl rfl rfl ?_ | refine a_condT rfl ?_ | refine a_condF rfl ?_ | refine d_no rfl rfl rfl (by decide) ?_ | refine d_no' rfl rfl rfl ?_ | (refine wq2 (fun hb => ?_) (fun hb => ?_) <;> (simp only [hb]; try simp only [hbs, ne_eq] at hb; try (exfalso; first | omega | exact hb trivial))) | fail)
  all_goals refine rq rfl ?_
  all_goals (first | refine FinA.tup ?_ | refine FinA.one ?_); repeat' (first | exact FinBs.nil | exact FinCs.nil | refine FinBs.cons ?_ ?_ | refine FinCs.cons ?_ ?_ | refine FinB.cell (FinC.v ?_) | refine FinB.cell (FinC.own rfl rfl rfl ?_) | exact FinB.cell FinC.nil | refine FinB.cell (FinC.sl ?_) | exact FinB.agg' rfl rfl | exact FinB.cell (FinC.same rfl) | refine FinB.agg ?_ | refine FinC.v ?_ | refine FinC.own rfl rfl rfl ?_ | exact FinC.nil | refine FinC.sl ?_ | exact FinC.same rfl); all_goals try rfl
  all_goals simp [*]
 by_cases k5 : kind = 5
 ·subst k5
  simp only [show ¬ (5 : Int) = 1 by decide, show ¬ (5 : Int) = 2 by decide, show ¬ (5 : Int) = 3 by decide, show ¬ (5 : Int) = 4 by decide, if_true, if_false]
  refine PC.mk (ac_body tab_ok Tryz.func96 rfl (by kernel_rfl) rfl ?_); intro w0 M μ0; simp only [Tryz.ntmps96, List.length_cons, List.length_nil, Nat.reduceAdd, Nat.reduceSub, numb]
  repeat' (first | ((first | apply o_do | apply d_do | apply d_yes rfl rfl rfl); first | exact lsc (h2) | exact lsq) | refine a_seq ?_ | refine a_region ?_ | refine o_nil ?_ | refine a_block ?_ | refine a_ret ?_ | refine a_exit ?_ | refine a_skip ?_ | refine a_draw mixed ?_ | refine d_nil (by kernel_rfl) ?_ | refine o_yes rfl rfl rfl ?_ | refine o_no rfl rfl rfl (by decide) ?_ | refine o_no' rfl rfl rfl ?_ | refine a_condT rfl ?_ | refine a_condF rfl ?_ | refine d_no rfl rfl rfl (by decide) ?_ | refine d_no' rfl rfl rfl ?_ | (refine wq2 (fun hb => ?_) (fun hb => ?_) <;> (simp only [hb]; try simp only [hbs, ne_eq] at hb; try (exfalso; first | omega | exact hb trivial))) | fail)
  all_goals refine rq rfl ?_
  all_goals exact fnq
 ·simp only [k1, k2, k3, k4, k5, if_false]
  refine PC.mk (ac_body tab_ok Tryz.func96 rfl (by kernel_rfl) rfl ?_); intro w0 M μ0; simp only [Tryz.ntmps96, List.length_cons, List.length_nil, Nat.reduceAdd, Nat.reduceSub, numb]
  repeat' (first | ((first | apply o_do | apply d_do | apply d_yes rfl rfl rfl); exact lsq) | refine a_seq ?_ | refine a_region ?_ | refine o_nil ?_ | refine a_block ?_ | refine a_ret ?_ | refine a_exit ?_ | refine a_skip ?_ | refine a_draw mixed ?_ | refine d_nil (by kernel_rfl) ?_ | refine o_yes rfl rfl rfl ?_ | refine o_no rfl rfl rfl (by decide) ?_ | refine o_no' rfl rfl rfl ?_ | refine a_condT rfl ?_ | refine a_condF rfl ?_ | refine d_no rfl rfl rfl (by decide) ?_ | refine d_no' rfl rfl rfl ?_ | (refine wq2 (fun hb => ?_) (fun hb => ?_) <;> (simp only [hb]; try simp only [hbs, ne_eq] at hb; try (exfalso; first | omega | exact hb trivial))) | fail)
  all_goals refine rq rfl ?_
  all_goals exact fnq
theorem i_Right (x : It) : PC Tryz.prog 69 [.agg x.av] (.v (.bool (itR x))) := by
 have h := i_bare x
 rw [itR_bare]
 unfold iTup at h
 cases hb : bareOk x
 all_goals
  rw [hb] at h
  refine PC.mk (ac_body tab_ok Tryz.func69 rfl (by kernel_rfl) rfl ?_); intro w0 M μ0; simp only [Tryz.ntmps69, List.length_cons, List.length_nil, Nat.reduceAdd, Nat.reduceSub, numb]
  repeat' (first | ((first | apply o_do | apply d_do | apply d_yes rfl rfl rfl); first | exact lsc (h) | exact ls_eqA (It.vals (bareIt x)) (It.vals x) (run_eql_It _ _ _ _) rfl rfl rfl rfl rfl | exact lsq) | refine a_seq ?_ | refine a_region ?_ | refine o_nil ?_ | refine a_block ?_ | refine a_ret ?_ | refine a_exit ?_ | refine a_skip ?_ | refine a_draw mixed ?_ | refine d_nil (by kernel_rfl) ?_ | refine o_yes rfl rfl rfl ?_ | refine o_no rfl rfl rfl (by decide) ?_ | refine o_no' rfl rfl rfl ?_ | refine a_condT rfl ?_ | refine a_condF rfl ?_ | refine d_no rfl rfl rfl (by decide) ?_ | refine d_no' rfl rfl rfl ?_ | (refine wq2 (fun hb => ?_) (fun hb => ?_) <;> (simp only [hb]; try simp only [hbs, ne_eq] at hb; try (exfalso; first | omega | exact hb trivial))) | fail)
  all_goals refine rq rfl ?_
  all_goals exact fnq
structure Mk where
 ins : List (Int × Bool)
 hs : List (Int × Int)
 out : Int
def inAvM (x : Int × Bool) : List AV := [.v (.int .i64 x.1), .v (.bool x.2)]
def hoAv (x : Int × Int) : List AV := [.v (.int .i64 x.1), .v (.int .i64 x.2)]
def Mk.av (m : Mk) : List AV := [.sl 2 (m.ins.map inAvM), .sl 2 (m.hs.map hoAv), .v (.int .i64 m.out)]
def tmR (t : Int) : Bool := decide (0 ≤ t) && decide (t ≤ 1099511627776)
def hoG (hs : List (Int × Int)) (i : Nat) : Bool := decide (0 ≤ (hs.getD i (0, 0)).1) && (tmR (hs.getD i (0, 0)).2 && (decide (i = 0) || decide ((hs.getD (i - 1) (0, 0)).1 < (hs.getD i (0, 0)).1)))
def mkR (m : Mk) : Bool := decide (1 ≤ m.ins.length) && (decide (m.ins.length ≤ 8) && (decide (m.hs.length ≤ 32) && (tmR m.out && ((List.range m.hs.length).all (hoG m.hs) && m.ins.all fun x => tmR x.1))))
structure Al where
 n : Int
 got : List Bool
 held : List (List It)
def boAv (b : Bool) : List AV := [.v (.bool b)]
def heAv (l : List It) : List AV := [.sl 11 (l.map It.av)]
def Al.av (a : Al) : List AV := [.v (.int .i64 a.n), .sl 1 (a.got.map boAv), .sl 1 (a.held.map heAv)]
def heG (got : List Bool) (held : List (List It)) (i : Nat) : Bool := decide ((held.getD i []).length ≤ 16) && ((decide ((held.getD i []).length = 0) || got.getD i false) && (held.getD i []).all itR)
def alR (a : Al) : Bool := decide (1 ≤ a.got.length) && (decide (a.got.length ≤ 8) && (decide (a.held.length = a.got.length) && (decide (0 ≤ a.n) && (decide (a.n ≤ 1073741824) && ((a.got.any id == decide (0 < a.n)) && (a.got.any (!·) && (List.range a.held.length).all (heG a.got a.held)))))))
structure Gp where
 no : Int
 mark : Int
 ps : List Pn
def Gp.av (g : Gp) : List AV := [.v (.int .i64 g.no), .v (.int .i64 g.mark), .sl 6 (g.ps.map Pn.av)]
structure Wk where
 gs : List Gp
 mks : Mk
 al : Al
 told : Int
def Wk.av (k : Wk) : List AV := [.sl 3 (k.gs.map Gp.av), .sl 2 (k.mks.ins.map inAvM), .sl 2 (k.mks.hs.map hoAv), .v (.int .i64 k.mks.out), .v (.int .i64 k.al.n), .sl 1 (k.al.got.map boAv), .sl 1 (k.al.held.map heAv), .v (.int .i64 k.told)]
def gpG (gs : List Gp) (i : Nat) : Bool := grR (gs.getD i ⟨0, 0, []⟩).no (gs.getD i ⟨0, 0, []⟩).mark (gs.getD i ⟨0, 0, []⟩).ps && (decide (i = 0) || decide ((gs.getD (i - 1) ⟨0, 0, []⟩).no < (gs.getD i ⟨0, 0, []⟩).no))
def gsR (gs : List Gp) : Bool := (List.range gs.length).all (gpG gs)
def wkR (k : Wk) : Bool := gsR k.gs && (mkR k.mks && (decide (k.mks.hs.length = 0) && (alR k.al && (decide (k.al.got.length = k.mks.ins.length) && (decide (0 ≤ k.told) && decide (k.told ≤ 1099511627776))))))
theorem rall_snoc (p : Nat → Bool) (q : Nat) : (List.range (q + 1)).all p = ((List.range q).all p && p q) := by
 rw [List.range_succ, List.all_append]; simp
theorem rall_fail {p : Nat → Bool} {n q : Nat} (h : q < n) (hp : p q = false) : (List.range n).all p = false := by
 rw [List.all_eq_false]
 exact ⟨q, List.mem_range.2 h, by simp [hp]⟩
theorem getD_at {α : Type} {l : List α} {i : Nat} {d : α} (h : i < l.length) : l.getD i d = l[i] := by
 simp [List.getD, h]
theorem gsR_le {gs : List Gp} (h : gsR gs = true) : gs.length ≤ 32 := by
 have h1 : ∀ i, i < gs.length → gpG gs i = true := fun i hi => List.all_eq_true.1 h i (List.mem_range.2 hi)
 have h2 : ∀ i, i < gs.length → (i : Int) ≤ (gs.getD i ⟨0, 0, []⟩).no := by
  intro i
  induction i with
  | zero =>
   intro hi
   have := h1 0 hi
   simp only [gpG, grR, Bool.and_eq_true, decide_eq_true_eq] at this
   have := this.1.1
   simpa using this
  | succ i ih =>
   intro hi
   have h3 := ih (by omega)
   have := h1 (i + 1) hi
   simp only [gpG, Bool.and_eq_true, Bool.or_eq_true, decide_eq_true_eq, Nat.add_sub_cancel] at this
   rcases this.2 with h4 | h4
   ·omega
   ·omega
 rcases Nat.lt_or_ge 32 gs.length with hlt | hge
 ·have h3 := h2 32 hlt
  have h4 := h1 32 hlt
  simp only [gpG, grR, Bool.and_eq_true, decide_eq_true_eq] at h4
  have := h4.1.2.1
  omega
 ·exact hge
theorem made_list (zs : List Value) (hp : 0 < zs.length) (n : Nat) : (madeCells zs.toArray (n * zs.length)).toList = (List.replicate n zs).flatten := by
 have h : ∀ n, (List.range (n * zs.length)).map (fun i => zs.toArray[i % zs.toArray.size]!) = (List.replicate n zs).flatten := by
  intro n
  induction n with
  | zero => simp
  | succ n ih =>
   rw [Nat.succ_mul, List.range_add, List.map_append, ih, List.replicate_succ', List.flatten_append, List.flatten_singleton]
   congr 1
   apply List.ext_getElem
   ·simp
   ·intro i h1 h2
    have h3 : i < zs.length := h2
    have h4 : (n * zs.length + i) % zs.length = i := by rw [Nat.mul_comm, Nat.mul_add_mod]; exact Nat.mod_eq_of_lt h3
    simp only [List.getElem_map, List.getElem_range, List.size_toArray, h4]
    simp [h3]
 rw [← h n]
 simp [madeCells, Array.toList_map, Array.toList_range]
section
variable {P : Program} {Γ : Ctx} {s : ASt} {σ : Store} {μ : Nat → Value} {w : World} {A : Nat → Prop} {T : List TyI}
variable {dst : Option Tmp} {ty : TypeId} {pos : String} {after : Array Edge}
theorem repLL_rep (zs : List Value) (hs : (zs.all fun c => scal c && c.oneCell') = true) {size : Nat} (hl : zs.length = size) : ∀ n, repLL σ μ w A size (List.replicate n (zs.map .v)) (List.replicate n zs).flatten
 | 0 => by simp [repLL]
 | n + 1 => by
  simp only [List.replicate_succ, List.flatten_cons, repLL]
  exact ⟨zs, _, rfl, hl, repC_con hs, repLL_rep zs hs hl n⟩
theorem ls_make (hT : okTab P T = true) (hZ : okZero P T = true) {x y : Operand} {t e size bytes n k : Nat} {kl kc : IntKind} {L C : Int} {zs : List Value} (hx : ev s x = some (.v (.int kl L))) (hy : ev s y = some (.v (.int kc C))) (hL : L = (n : Int)) (hC : C = (n : Int))
  (hty : nth T t = some (.slice e size bytes)) (hz : zcells T 10 e = some zs) (hs : (zs.all fun c => scal c && c.oneCell') = true) (hn : n ≤ 1000000) (hby : Nat.ble bytes 1000 = true) (hk : find s.σ k = none) (hd : okDst Γ.n dst = true) (htag : Nat.blt e 1048576 = true := by rfl) :
  LS P Γ ⟨dst, .makeSlice t x y, ty, pos, after, none⟩ s (rd x (rd y [.obj k])) (dst1 dst (.own k (List.replicate n (zs.map AV.v)).length)) [(k, .row e size (List.replicate n (zs.map .v)))] := by
 refine ⟨fun t' ht Q μ a w hr K hK => ?_⟩
 obtain ⟨h1, ht⟩ := ht.ev hx
 obtain ⟨h2, ht⟩ := ht.ev hy
 have hk' : find t'.σ k = none := ht.1.trans hk
 have h1 := hr.ev h1
 have h2 := hr.ev h2
 simp only [rep] at h1 h2
 obtain ⟨hu, hpos, j, z, hj, hj2, hj3, hj4, hj5⟩ := slice_ty hT hty
 obtain ⟨i, z', hi, hiz, hzc⟩ := okZero_at hZ hz
 rw [hj] at hi; injection hi with hi; subst hi
 rw [hj4] at hiz; injection hiz with hiz; subst hiz
 have hlen : zs.length = size := by rw [hzc] at hj5; simpa using hj5
 have hby := Nat.le_of_ble_eq_true hby
 have hrun := run_make (P := P) w t e j z hu hj hj4 kl kc n n (by omega) (Int.le_refl _) (by
  have : ((j.bytes * n : Nat) : Int) ≤ 281474976710656 := by
   have h5 : j.bytes * n ≤ 1000 * 1000000 := Nat.mul_le_mul (by omega) hn
   omega
  rwa [Int.natCast_mul] at this) (by omega)
 simp only [Int.toNat_natCast, hj2] at hrun
 rw [hzc, ← hlen] at hrun
 have hrow := World.ownsRow_lit (base := 0) (e := e) (size := size) w (madeCells zs.toArray (n * zs.length)) n (Nat.zero_le _) (by simp only [maxLen]; omega) (by rw [size_madeCells, hlen])
 rw [made_list zs (by omega)] at hrow
 have hn2 := hr.new (w' := w.alloc (.cells (madeCells zs.toArray (n * zs.length)) e)) (v := .slice (some ⟨w.heap.size, 0, none⟩) n n) (o := .row e size (List.replicate n (zs.map .v))) hk' (below_alloc _ _) (by simp [blk]) (fun μ' A hμ hμk hA hst => by
  refine ⟨_, ?_, repLL_rep zs hs hlen n⟩
  rw [hμk, List.length_replicate]
  exact OwnS.of hrow htag)
 have hfin := hn2.put (d := dst) (x := .own k (List.replicate n (zs.map AV.v)).length) (y := .slice (some ⟨w.heap.size, 0, none⟩) n n) hd (by
  simp only [rep, ASt.eff, List.cons_append, List.nil_append, find_cons, if_true]
  exact ⟨rfl, .inr ⟨e, size, _, rfl, Nat.le_refl _, fun _ => (setμ_same _ _ _).symm⟩⟩)
 unfold Oper.wp
 have hrun2 : (execOp a.eval ⟨dst, .makeSlice t x y, ty, pos, after, none⟩).run P w = .ok (.value (.slice (some ⟨w.heap.size, 0, none⟩) n n)) (w.alloc (.cells (madeCells zs.toArray (n * zs.length)) e)) := by
  simp only [execOp, h1.1, h2.1, hL, hC]
  simp [hrun]
 rw [hrun2]
 refine hK (setμ μ k (.slice (some ⟨w.heap.size, 0, none⟩) n n)) _ _ ?_
 cases dst <;> exact hfin
theorem repC_set {x : AV} {u : Value} : ∀ {cs : List AV} {us : List Value} {i : Nat}, repC σ μ w A cs us → cs[i]? = some (.v u) → (u.oneCell' = true → rep σ μ w A x u) → repC σ μ w A (cs.set i x) us
 | [], us, i, h, hc, hx => by simp at hc
 | c :: cs, us, 0, h, hc, hx => by
  simp only [repC] at h
  obtain ⟨v, us', rfl, h1, h2, h3⟩ := h
  simp only [List.getElem?_cons_zero, Option.some.injEq] at hc
  subst hc
  simp only [rep] at h2
  obtain ⟨rfl, _⟩ := h2
  simp only [List.set_cons_zero, repC]
  exact ⟨v, us', rfl, h1, hx h1, h3⟩
 | c :: cs, us, i + 1, h, hc, hx => by
  simp only [repC] at h
  obtain ⟨v, us', rfl, h1, h2, h3⟩ := h
  simp only [List.getElem?_cons_succ] at hc
  simp only [List.set_cons_succ, repC]
  exact ⟨v, us', rfl, h1, h2, repC_set h3 hc hx⟩
theorem a_adoptB {Q : Exit → ASt → Prop} {c : Code} (b i k e size : Nat) {t : TypeId} {cs : List AV} (hb : find s.σ b = some (.box t cs)) (hv : cs[i]? = some (.v (.slice none 0 0))) (hk : find s.σ k = none) (h : AWP P Γ c Q ⟨s.regs, (b, .box t (cs.set i (.own k 0))) :: (k, .row e size []) :: s.σ⟩) : AWP P Γ c Q s := by
 refine ⟨fun μ a w hr => h.out (setμ μ k (.slice none 0 0)) a w ?_⟩
 have hn := hr.new (w' := w) (v := .slice none 0 0) (o := .row e size []) hk (Below.refl _ w) (by simp [blk]) (fun μ' A hμ hμk hA hst => ⟨[], by rw [hμk]; exact OwnS.nil, by simp [repLL]⟩)
 have hbk : k ≠ b := fun e1 => by subst e1; rw [hk] at hb; cases hb
 have hb' : find ((k, SObj.row e size []) :: s.σ) b = some (.box t cs) := by rw [find_cons, if_neg hbk]; exact hb
 obtain ⟨g, us, hg1, hg2, hg3⟩ := hn.store.obj b _ hb'
 have hs := store_rel (s := s.eff [] [(k, .row e size [])]) (o' := .box t (cs.set i (.own k 0))) (g := g) hn hb' (by rw [hg1]; rfl) rfl rfl rfl rfl (fun _ _ => rfl) ⟨rfl, List.length_set⟩ (fun A hst hA => by
  refine ⟨g, us, hg1, hg2, repC_set (repC_mono hst hg3) hv (fun _ => ?_)⟩
  simp only [rep]
  refine ⟨rfl, .inr ⟨e, size, [], ?_, Nat.le_refl _, fun _ => (setμ_same _ _ _).symm⟩⟩
  rw [find_cons, if_neg (Ne.symm hbk)]
  simp [ASt.eff, find_cons])
 exact hs
end
end Go.Proofs.YtilgagmfcdfjaaaGreat
