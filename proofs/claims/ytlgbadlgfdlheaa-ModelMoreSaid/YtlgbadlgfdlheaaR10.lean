/-
  What must come out, in plain Lean: which events are kept; windows of values; the document's way of laying panes.
    What must come out, in plain Lean: the row of many values, put one by one, or place by place.
  The iterator over the events that are kept: its contract.
    The iterator over the events that are kept of all inputs: its contract.
  What is kept of a source, walked over abstract values.
    What the document keeps of a source, walked over abstract values.
-/
import Derived.RangeFuncNested
import Derived.RangeFuncBound
import Derived.RangeFuncCalls
import Derived.RangeFuncLeaves
import Derived.Shelf.Abstract
import Derived.Shelf.RegionOpen
import Derived.WalkKit
import Derived.OwnWalkIn
import Derived.TacticsInMore
import Derived.LoopNIn
import Derived.LoopIn
import Derived.Maps.AppendAt
import Derived.Test.YtlgbadlgfdlheaaR4
import Derived.Test.YtlgbadlgfdlheaaR5
import Derived.Test.YtlgbadlgfdlheaaR8
import Derived.Test.YtlgbadlgfdlheaaR9
set_option linter.unusedSimpArgs false
set_option linter.unusedVariables false
set_option maxHeartbeats 20000000
namespace Go.Proofs.Ytlgbadlgfdlheaa
open Go.RowKit
def Et.ran (li fu : Int) (e : Et) : Et := ⟨e.key, e.at', (runE li fu e.v).1⟩
def keptE (li fu de : Int) : Int → List Et → List Et
 | _, [] => []
 | m, e :: es => (if e.at' < m then [] else [e.ran li fu]) ++ keptE li fu de (max m (subT e.at' de)) es
def markE (de : Int) (m : Int) (es : List Et) : Int := es.foldl (fun m e => max m (subT e.at' de)) m
section
variable {li fu de m : Int} {es fs : List Et} {e : Et}
theorem markE_snoc : markE de m (es ++ [e]) = max (markE de m es) (subT e.at' de) := by simp [markE]
theorem keptE_app : ∀ {es : List Et} {m : Int}, keptE li fu de m (es ++ fs) = keptE li fu de m es ++ keptE li fu de (markE de m es) fs
 | [], m => rfl
 | e :: es, m => by
  simp only [List.cons_append, keptE, List.append_assoc]
  rw [keptE_app]
  rfl
theorem keptE_snoc : keptE li fu de m (es ++ [e]) = keptE li fu de m es ++ (if e.at' < markE de m es then [] else [e.ran li fu]) := by rw [keptE_app]; simp [keptE]
theorem keptE_len : ∀ {es : List Et} {m : Int}, (keptE li fu de m es).length ≤ es.length
 | [], m => Nat.le_refl _
 | e :: es, m => by
  have := keptE_len (es := es) (m := max m (subT e.at' de))
  simp only [keptE, List.length_append, List.length_cons]
  split <;> simp <;> omega
theorem keptE_at {q : Nat} (hq : q < es.length) (h : ¬ es[q].at' < markE de m (es.take q)) : (keptE li fu de m es)[(keptE li fu de m (es.take q)).length]? = some (es[q].ran li fu) := by
 have e : keptE li fu de m es = keptE li fu de m (es.take q) ++ keptE li fu de (markE de m (es.take q)) (es.drop q) := by rw [← keptE_app, List.take_append_drop]
 rw [e, List.drop_eq_getElem_cons hq, keptE, if_neg h]
 simp
theorem keptE_step {q : Nat} (hq : q < es.length) : keptE li fu de m (es.take (q + 1)) = keptE li fu de m (es.take q) ++ (if es[q].at' < markE de m (es.take q) then [] else [es[q].ran li fu]) := by
 rw [take_snoc es q hq, keptE_snoc]
theorem markE_step {q : Nat} (hq : q < es.length) : markE de m (es.take (q + 1)) = max (markE de m (es.take q)) (subT es[q].at' de) := by
 rw [take_snoc es q hq, markE_snoc]
theorem keptE_ok : ∀ {es : List Et} {m : Int}, (∀ e ∈ es, evR e.key e.at' = true) → ∀ e ∈ keptE li fu de m es, evR e.key e.at' = true
 | [], m, _ => by simp [keptE]
 | e :: es, m, h => by
  intro x hx
  simp only [keptE, List.mem_append] at hx
  rcases hx with hx | hx
  ·split at hx
   ·simp at hx
   ·simp only [List.mem_singleton] at hx; subst hx; exact h e (by simp)
  ·exact keptE_ok (fun y hy => h y (by simp [hy])) x hx
end
section
variable {s d t : Int}
end
def valsV (s d : Int) (e : Et) : List Vl := (winL s d e.at').map fun w => ⟨e.key, w.lo, w.hi, e.v⟩
def allVals (s d : Int) (es : List Et) : List Vl := es.flatMap (valsV s d)
section
variable {s d k : Int} {es : List Et} {e : Et}
theorem valsV_len : (valsV s d e).length ≤ 16 := by unfold valsV; rw [List.length_map]; exact winL_len _ _ _
theorem allVals_len : (allVals s d es).length ≤ 16 * es.length := by
 induction es with
 | nil => simp [allVals]
 | cons e es ih =>
  have := valsV_len (s := s) (d := d) (e := e)
  simp only [allVals, List.flatMap_cons, List.length_append, List.length_cons] at ih ⊢
  omega
theorem allVals_snoc : allVals s d (es ++ [e]) = allVals s d es ++ valsV s d e := by simp [allVals]
theorem okT_of (hw : winB s d = true) (he : evR e.key e.at' = true) : okT s d e.at' = true := by
 unfold evR at he
 simp only [Bool.and_eq_true, decide_eq_true_eq] at he
 rw [okT, hw, Bool.true_and, Bool.and_eq_true, decide_eq_true_eq, decide_eq_true_eq]
 omega
theorem evR_key (he : evR e.key e.at' = true) : keyB e.key = true := by
 unfold evR at he
 simp only [Bool.and_eq_true] at he
 first | exact he.1 | exact he.1.1 | (simp only [keyB]; simp [he])
theorem valsV_ok (hk : fRight k = true) (hw : winB s d = true) (he : evR e.key e.at' = true) : ∀ x ∈ valsV s d e, okV k x = true := by
 intro x hx
 obtain ⟨w, hw1, rfl⟩ := List.mem_map.1 hx
 obtain ⟨a1, a2, a3⟩ := win_may (okT_of hw he) hw1
 have hn : (oneP k w.lo w.hi e.key e.v).n = 1 := fOne_n hk
 have hky := evR_key he
 unfold okV vP
 rw [hk, Bool.true_and]
 unfold mayB
 simp only [Bool.and_eq_true, decide_eq_true_eq]
 refine ⟨⟨⟨⟨hky, a1⟩, a2⟩, a3⟩, ?_⟩
 rw [hn]; omega
theorem allVals_ok (hk : fRight k = true) (hw : winB s d = true) (he : ∀ e ∈ es, evR e.key e.at' = true) : ∀ x ∈ allVals s d es, okV k x = true := by
 intro x hx
 obtain ⟨e, h1, h2⟩ := List.mem_flatMap.1 hx
 exact valsV_ok hk hw (he e h1) x h2
end
section
variable {k : Int} {l : List Pn} {x : Vl} {vs : List Vl}
end
end Go.Proofs.Ytlgbadlgfdlheaa
namespace Go.Proofs.Ytlgbadlgfdlheaa
open Go.RowKit
section
variable {k : Int} {l vs ws : List Vl} {x : Vl}
theorem rowM_good (h : fRight k = true) (hl : l.length ≤ 1000000) : (∀ p ∈ rowV k l, GoodP p) ∧ sumN (rowV k l) = l.length := by
 have := insAll_good (k := k) (l := []) h (by simp) (vPs_good (l := l) h) (by rw [vPs_sum h]; simp [sumN]; omega)
 rw [vPs_sum h] at this
 exact ⟨this.1, by rw [rowV, this.2]; simp [sumN]⟩
theorem rowM_mono : (rowV k l).length ≤ (rowV k (l ++ ws)).length := by
 refine snoc_ind (p := fun ws => (rowV k l).length ≤ (rowV k (l ++ ws)).length) (by simp) ?_ ws
 intro ws x ih
 rw [← List.append_assoc, rowV_snoc]
 exact Nat.le_trans ih ins_mono
theorem rowM_put (hk : fRight k = true) (hl : l.length + 1 ≤ 1000000) (h2 : (rowV k l).length ≤ 2000) :
  putL k (rowV k l) (vP k x) = if (rowV k (l ++ [x])).length ≤ 2000 then some (rowV k (l ++ [x])) else none := by
 obtain ⟨g1, g2⟩ := rowM_good (l := l) hk (by omega)
 have hn : okN k (rowV k l) (vP k x) := by
  refine okN_iff.2 fun hI p hp => ?_
  have hm := List.mem_of_getElem? hp
  have h3 := sumN_mem g1 hm
  have h4 := joinP_good (k := k) hk (g1 p hm) (vP_good (x := x) hk) (by rw [vP_n hk]; omega)
  have h5 := (g1 p hm).2
  rw [h4.2, vP_n hk]; omega
 rw [rowV_snoc]
 split
 ·rename_i h
  exact (putL_iff h2).2 ⟨rfl, hn, h⟩
 ·rename_i h
  cases hp : putL k (rowV k l) (vP k x) with
  | none => rfl
  | some r =>
   obtain ⟨e, _, h4⟩ := (putL_iff h2).1 hp
   subst e
   exact absurd h4 h
theorem rowM_right : (∀ x ∈ l, okV k x = true) → l.length ≤ 1000000 → (rowV k l).length ≤ 2000 → rightL (rowV k l) = true := by
 refine snoc_ind (p := fun l => (∀ x ∈ l, okV k x = true) → l.length ≤ 1000000 → (rowV k l).length ≤ 2000 → rightL (rowV k l) = true) ?_ ?_ l
 ·intro _ _ _; rfl
 ·intro l x ih h hl h2
  obtain ⟨hk, hm⟩ := okV_right (h x (by simp))
  rw [List.length_append] at hl
  simp only [List.length_cons, List.length_nil] at hl
  have h3 : (rowV k l).length ≤ 2000 := Nat.le_trans rowM_mono h2
  have ih := ih (fun y hy => h y (by simp [hy])) (by omega) h3
  have hp := rowM_put (x := x) hk (l := l) (by omega) h3
  rw [if_pos h2] at hp
  exact putL_right hp ih hm
theorem rowM_fold (hk : fRight k = true) : ∀ {ws vs : List Vl}, vs.length + ws.length ≤ 1000000 → (rowV k vs).length ≤ 2000 →
  (ws.map (vP k)).foldlM (putL k) (rowV k vs) = if (rowV k (vs ++ ws)).length ≤ 2000 then some (rowV k (vs ++ ws)) else none
 | [], vs, _, h2 => by simp [h2]
 | x :: ws, vs, hl, h2 => by
  rw [List.length_cons] at hl
  rw [List.map_cons, List.foldlM_cons, rowM_put hk (by omega) h2]
  have e : vs ++ x :: ws = (vs ++ [x]) ++ ws := by simp
  by_cases h3 : (rowV k (vs ++ [x])).length ≤ 2000
  ·rw [if_pos h3, e]
   exact rowM_fold hk (by simp; omega) h3
  ·rw [if_neg h3, if_neg]
   ·rfl
   ·intro h4
    rw [e] at h4
    exact h3 (Nat.le_trans rowM_mono h4)
theorem take_row {s d : Int} {e : Et} (hk : fRight k = true) (hw : winB s d = true) (he : evR e.key e.at' = true) (hok : ∀ x ∈ vs, okV k x = true) (hl : vs.length ≤ 900000) (h2 : (rowV k vs).length ≤ 2000) :
  takeW k e.key e.v (rowV k vs) (winL s d e.at') = if (rowV k (vs ++ valsV s d e)).length ≤ 2000 then (rowV k (vs ++ valsV s d e), 0) else ([], 3) := by
 have hl2 := valsV_len (s := s) (d := d) (e := e)
 have hv := valsV_ok (k := k) hk hw he
 have h3 : ((winL s d e.at').map fun w => oneP k w.lo w.hi e.key e.v) = (valsV s d e).map (vP k) := by
  unfold valsV
  rw [List.map_map]
  rfl
 rw [takeW_fold hk (rowM_right hok (by omega) h2) (fun w hw' => (okV_right (hv ⟨e.key, w.lo, w.hi, e.v⟩ (List.mem_map.2 ⟨w, hw', rfl⟩))).2), h3, rowM_fold hk (by omega) h2]
 by_cases h4 : (rowV k (vs ++ valsV s d e)).length ≤ 2000
 ·rw [if_pos h4, if_pos h4]
 ·rw [if_neg h4, if_neg h4]
end
def outR (k : Int) (vs : List Vl) : List Rs × Int := if (rowV k vs).length ≤ 2000 then (resultsL k (rowV k vs), 0) else ([], 3)
section
variable {k : Int} {full pre : List Vl} {x : Vl}
end
end Go.Proofs.Ytlgbadlgfdlheaa
namespace Go.Proofs.Ytlgbadlgfdlheaa
open Go.RowKit Go.Shelf
attribute [local go_sem] Oper.semAt_some
def Et.val (e : Et) : Value := .agg #[.string e.key, .int .i64 e.at', .int .i64 e.v]
theorem c_seeK (g s d k fu li de id mark : Int) (key : ByteArray) (t v : Int) (hv : -9223372036854775808 ≤ v ∧ v ≤ 9223372036854775807) (hl : li ≤ 9223372036854775807) {w : World} {b : Nat} (hb : Blk w b 56 (srcCells g s d k fu li de id mark).toArray) :
  Calls Try.prog 15 #[.pointer (some ⟨b, 0, none⟩), .agg #[.string key, .int .i64 t, .int .i64 v]] w fun e w' => e = .returned (.tuple #[.agg #[.string key, .int .i64 t, .int .i64 (runE li fu v).1], .bool (!decide (t < mark))]) ∧
   Blk w' b 56 (srcCells g s d k fu li de id (max mark (subT t de))).toArray ∧ TurnO (fun k => k = b) w w' := by
 refine ac_box1 (T := 56) (us := srcCells g s d k fu li de id mark) (us' := srcCells g s d k fu li de id (max mark (subT t de))) (vs := [.agg #[.string key, .int .i64 t, .int .i64 v]]) (c_see g s d k fu li de id mark key t v hv hl) rfl hb (fun σ μ A => ?_) (fun σ μ w A y h => ?_)
 ·simp only [repL, rep, repC]
  exact ⟨_, [], rfl, ⟨[.string key, .int .i64 t, .int .i64 v], rfl, _, _, rfl, rfl, ⟨rfl, rfl⟩, _, _, rfl, rfl, ⟨rfl, rfl⟩, _, _, rfl, rfl, ⟨rfl, rfl⟩, rfl⟩, rfl⟩
 ·simp only [repL, rep, repC] at h
  obtain ⟨us, rfl, u, us1, rfl, ⟨us2, rfl, a, l1, rfl, _, ⟨rfl, _⟩, b, l2, rfl, _, ⟨rfl, _⟩, c, l3, rfl, _, ⟨rfl, _⟩, rfl⟩, x, l4, rfl, ⟨rfl, _⟩, rfl⟩ := h
  rfl
def Old (A : Nat → Prop) (w W : World) : Prop := w.heap.size ≤ W.heap.size ∧ ∀ k, k < w.heap.size → ¬ A k → W.heap[k]? = w.heap[k]?
theorem Old.refl (A : Nat → Prop) (w : World) : Old A w w := ⟨Nat.le_refl _, fun _ _ _ => rfl⟩
theorem Old.turn {A O : Nat → Prop} {w W W' : World} (h : Old A w W) (ht : TurnO O W W') (ho : ∀ k, O k → w.heap.size ≤ k) : Old A w W' :=
 ⟨Nat.le_trans h.1 ht.2.2.2.1, fun k hk hn => (ht.2.2.2.2 k (Nat.lt_of_lt_of_le hk h.1) (fun hc => by have := ho k hc; omega)).trans (h.2 k hk hn)⟩
theorem Old.ko {A O : Nat → Prop} {w W W' : World} (h : Old A w W) (ht : KO A O w.heap.size W W') : Old A w W' :=
 ⟨Nat.le_trans h.1 ht.1, fun k hk hn => (ht.2 k (.inl ⟨hk, hn⟩)).trans (h.2 k hk hn)⟩
theorem Old.reads {A : Nat → Prop} {w W : World} (h : Old A w W) {ad : Option Addr} {us : List Value} (hr : ReadsA w A ad us) : ReadsA W A ad us := by
 rcases hr with hr | ⟨b, off, e, h1, h2, h3⟩
 ·exact .inl hr
 ·exact .inr ⟨b, off, e, h1, Nat.lt_of_lt_of_le h2 h.1, fun j u hj => (World.cell?_of_block (w := w) (a := ⟨b, off + j, none⟩) (h.2 b h2 h1)).trans (h3 j u hj)⟩
theorem reads_cell {A : Nat → Prop} {W : World} {b off : Nat} {us : List Value} (hr : ReadsA W A (some ⟨b, off, none⟩) us) {j : Nat} {u : Value} (hj : us[j]? = some u) : W.cell? ⟨b, off + j, none⟩ = some u := by
 rcases hr with hr | ⟨b', off', e, _, _, h3⟩
 ·subst hr; simp at hj
 ·injection e with e; injection e with e1 e2; subst e1 e2
  exact h3 j u hj
theorem reads_lt {A : Nat → Prop} {W : World} {b off : Nat} {us : List Value} (hr : ReadsA W A (some ⟨b, off, none⟩) us) (hn : us ≠ []) : b < W.heap.size := by
 rcases hr with hr | ⟨b', off', e, _, h2, _⟩
 ·exact absurd hr hn
 ·injection e with e; injection e with e1 e2; subst e1
  exact h2
theorem et_cells {es : List Et} {q : Nat} (hq : q < es.length) : (es.flatMap Et.cells)[q * 3]? = some (.string es[q].key) ∧ (es.flatMap Et.cells)[q * 3 + 1]? = some (.int .i64 es[q].at') ∧ (es.flatMap Et.cells)[q * 3 + 2]? = some (.int .i64 es[q].v) := by
 induction es generalizing q with
 | nil => simp at hq
 | cons e es ih =>
  cases q with
  | zero => simp [Et.cells]
  | succ q =>
   have := ih (q := q) (by simpa using hq)
   simp only [List.flatMap_cons, List.getElem_cons_succ]
   have hl : (Et.cells e).length = 3 := rfl
   rw [List.getElem?_append_right (by rw [hl]; omega), List.getElem?_append_right (by rw [hl]; omega), List.getElem?_append_right (by rw [hl]; omega), hl]
   rw [show (q + 1) * 3 - 3 = q * 3 by omega, show (q + 1) * 3 + 1 - 3 = q * 3 + 1 by omega, show (q + 1) * 3 + 2 - 3 = q * 3 + 2 by omega]
   exact this
set_option maxRecDepth 100000 in
theorem it_kept (g s d k fu li de id : Int) (es : List Et) (hes : ∀ e ∈ es, -9223372036854775808 ≤ e.v ∧ e.v ≤ 9223372036854775807) (hli : li ≤ 9223372036854775807) (hlen : es.length ≤ 1000000) (A : Nat → Prop) (w : World) (l bj oj bl ol c : Nat) (ad : Option Addr)
  (rj : ReadsA w A (some ⟨bj, oj, none⟩) [.int .i64 g, .int .i64 s, .int .i64 d, .int .i64 k, .int .i64 fu, .int .i64 li, .int .i64 de, .int .i64 id])
  (rl : ReadsA w A (some ⟨bl, ol, none⟩) [.slice ad es.length c]) (re : ReadsA w A ad (es.flatMap Et.cells)) (hc : es.length ≤ c ∧ c ≤ maxLen)
  (J Jx : (Nat → Prop) → Nat → World → Prop) (hJ : Goes w.heap.size J) (hJx : Goes w.heap.size Jx)
  (hY : ∀ (O : Nat → Prop) i x W1, (∀ k, O k → w.heap.size ≤ k) → J O i W1 → ((keptE li fu de 0 es).map fun e => #[e.val])[i]? = some x → YieldAt Fence.wide 0 Try.prog l x W1 fun e W' =>
   (e = .returned (.bool true) ∧ J O (i + 1) W' ∧ KO A O w.heap.size W1 W') ∨ (e = .returned (.bool false) ∧ Jx O (i + 1) W' ∧ KX O W1.heap.size W1 W'))
  (h0 : J (fun _ => False) 0 w) :
  CallsIn Fence.wide 1 Try.prog 14 #[.func (.yield l) #[] #[], .pointer (some ⟨bj, oj, none⟩), .pointer (some ⟨bl, ol, none⟩)] w fun e W' => (∃ v, e = .returned v) ∧
   ∃ O : Nat → Prop, (∀ k, O k → w.heap.size ≤ k) ∧ (J O (keptE li fu de 0 es).length W' ∨ ∃ i, Jx O i W') := by
 have j0 := reads_cell rj (j := 0) rfl
 have j1 := reads_cell rj (j := 1) rfl
 have j2 := reads_cell rj (j := 2) rfl
 have j3 := reads_cell rj (j := 3) rfl
 have j4 := reads_cell rj (j := 4) rfl
 have j5 := reads_cell rj (j := 5) rfl
 have j6 := reads_cell rj (j := 6) rfl
 have j7 := reads_cell rj (j := 7) rfl
 have l0 := reads_cell rl (j := 0) rfl
 simp only [Nat.add_zero] at j0 l0
 have hbl := reads_lt rl (by simp)
 have hbj := reads_lt rj (by simp)
 refine callsIn_of_wp Try.func14 rfl trivial ?_ rfl
 simp only [Try.ntmps14, List.size_toArray, List.length_cons, List.length_nil, Nat.reduceAdd, Nat.reduceSub, Array.replicate_succ, Array.replicate_zero, List.push_toArray, List.append_toArray, List.nil_append, List.cons_append]
 gi_wp2
 have hOb : ∀ k, k = w.heap.size → w.heap.size ≤ k := by rintro k rfl; omega
 have htn : ∀ i W W', J (fun k => k = w.heap.size) i W → TurnO (fun k => k = w.heap.size) W W' → J (fun k => k = w.heap.size) i W' := fun i W W' h ht => hJ _ _ i W W' hOb h ht (fun _ h => h) (fun _ h => .inl h)
 have hal : ∀ i W o, J (fun k => k = w.heap.size) i W → J (fun k => k = w.heap.size) i (W.alloc o) := fun i W o h => htn i _ _ h (TurnO.alloc _ _ _)
 gi_loopw [15] (fun p wr => ∃ q : Nat, p = .int .i64 q ∧ q ≤ es.length ∧ J (fun k => k = w.heap.size) (keptE li fu de 0 (es.take q)).length wr ∧ Blk wr w.heap.size 56 (srcCells g s d k fu li de id (markE de 0 (es.take q))).toArray ∧ Old A w wr)
  (fun p wr => es.length - (intOf p).toNat)
 case atStart =>
  refine ⟨0, rfl, Nat.zero_le _, ?_, ?_, ?_⟩
  ·refine hJ _ _ _ _ _ (fun _ h => h.elim) h0 (TurnO.alloc _ _ _) (fun _ h => h.elim) (fun k hk => .inr ?_)
   simp; omega
  ·exact Blk.new _ _ _
  ·exact (Old.refl A w).turn (TurnO.alloc (fun _ => False) _ _) (fun _ h => h.elim)
 case round =>
  obtain ⟨q, rfl, hq, hJq, hB, hO⟩ := hrel
  rcases Nat.lt_or_eq_of_le hq with hlt | heq
  ·have hre := hO.reads re
   obtain ⟨ba, oa, rfl⟩ : ∃ ba oa, ad = some ⟨ba, oa, none⟩ := by
    rcases hre with h | ⟨b', o', h, _⟩
    ·have := (et_cells hlt).1; rw [h] at this; simp at this
    ·exact ⟨_, _, h⟩
   obtain ⟨f0, f1, f2⟩ := et_cells hlt
   have e0 := reads_cell hre f0
   have e1 := reads_cell hre f1
   have e2 := reads_cell hre f2
   rw [← Nat.add_assoc] at e1 e2
   have hba := reads_lt hre (by intro h; rw [h] at f0; simp at f0)
   have hcl := hc.2
   have hv := hes _ (List.getElem_mem hlt)
   have hat := keptE_at (li := li) (fu := fu) (de := de) (m := 0) hlt
   have hks := keptE_step (li := li) (fu := fu) (de := de) (m := 0) hlt
   have hms := markE_step (de := de) (m := 0) hlt
   obtain ⟨m, hm⟩ : ∃ m, markE de 0 (es.take q) = m := ⟨_, rfl⟩
   rw [hm] at hB hat hks hms
   obtain ⟨⟨key, t, v⟩, hx⟩ : ∃ x, es[q] = x := ⟨_, rfl⟩
   rw [hx] at e0 e1 e2 hv hat hks hms
   dsimp only at e0 e1 e2 hv hat hks hms
   have hq0 : (0 : Int) ≤ q := by omega
   have hqn : (q : Int) < es.length := by omega
   by_cases hlate : t < m
   ·gi_wp2_with (first | (refine ⟨trivial, (callsIn_wide.2 (c_seeK g s d k fu li de id m key t v hv hli (hB.alloc _))).mono ?_⟩; rintro e w2 ⟨rfl, hB2, hT2⟩; rw [decide_eq_true hlate]))
    all_goals (try (refine ⟨fun f hf => (by cases hf), ?_⟩; gi_wp2))
    go_roundw
    case rel =>
     rw [if_pos hlate, List.append_nil] at hks
     refine ⟨q + 1, rfl, by omega, ?_, ?_, ?_⟩
     ·rw [hks]
      exact hal _ _ _ (htn _ _ _ (hal _ _ _ hJq) hT2)
     ·rw [hms]; exact hB2.alloc _
     ·exact ((hO.turn (TurnO.alloc (fun _ => False) _ _) (fun _ h => h.elim)).turn hT2 hOb).turn (TurnO.alloc (fun _ => False) _ _) (fun _ h => h.elim)
    case measure =>
     simp [intOf]; omega
   ·gi_wp2_with (refine ⟨trivial, (callsIn_wide.2 (c_seeK g s d k fu li de id m key t v hv hli (hB.alloc _))).mono ?_⟩; rintro e w2 ⟨rfl, hB2, hT2⟩; rw [decide_eq_false hlate]; have hJ3 : J (fun k => k = w.heap.size) (keptE li fu de 0 (es.take q)).length (w2.alloc (Obj.cells #[Value.string key, Value.int IntKind.i64 t, Value.int IntKind.i64 (runE li fu v).1] 49)) := hal _ _ _ (htn _ _ _ (hal _ _ _ hJq) hT2); obtain ⟨fn, tmps, assign, body, hy, hR⟩ := hY (fun k => k = w.heap.size) _ _ _ hOb hJ3 (by rw [List.getElem?_map, hat hlate]; rfl); dsimp only [Et.val, Et.ran] at hy)
    refine hR.mono ?_
    rintro e W3 (⟨rfl, hJ4, hk3⟩ | ⟨rfl, hJx3, _⟩)
    ·gi_wp2
     go_roundw
     case rel =>
      rw [if_neg (by omega)] at hks
      refine ⟨q + 1, rfl, by omega, ?_, ?_, ?_⟩
      ·rw [hks, List.length_append]; exact hJ4
      ·rw [hms]; exact (hk3.2 w.heap.size (.inr rfl)).trans (hB2.alloc _)
      ·exact (((hO.turn (TurnO.alloc (fun _ => False) _ _) (fun _ h => h.elim)).turn hT2 hOb).turn (TurnO.alloc (fun _ => False) _ _) (fun _ h => h.elim)).ko hk3
     case measure =>
      simp [intOf]; omega
    ·gi_wp2
     refine bodyPost_ret (results_none rfl _ _ _) rfl ?_
     exact ⟨⟨_, rfl⟩, _, hOb, .inr ⟨_, hJx3⟩⟩
  ·subst heq
   rw [List.take_length] at hJq
   gi_wp2
   all_goals go_end0
   all_goals exact ⟨⟨_, rfl⟩, _, hOb, .inl hJq⟩
theorem repLL_et {μ : Nat → Value} {w : World} {A : Nat → Prop} : ∀ {es : List Et} {us : List Value}, repLL [] μ w A 3 (es.map Et.av) us → us = es.flatMap Et.cells
 | [], us, h => by simpa [repLL] using h
 | x :: es, us, h => by
  simp only [List.map_cons, repLL] at h
  obtain ⟨u1, u2, rfl, _, h2, h3⟩ := h
  have e1 : u1 = Et.cells x := by
   simp only [Et.av, repC, rep] at h2
   obtain ⟨a, l, rfl, _, ⟨rfl, _⟩, b, m, rfl, _, ⟨rfl, _⟩, c, n, rfl, _, ⟨rfl, _⟩, rfl⟩ := h2
   rfl
  rw [e1, repLL_et h3]; simp
theorem seq_kept (g s d k fu li de id : Int) (es : List Et) (hes : ∀ e ∈ es, -9223372036854775808 ≤ e.v ∧ e.v ≤ 9223372036854775807) (hli : li ≤ 9223372036854775807) (hlen : es.length ≤ 1000000) :
  SeqAV Try.prog 14 [.el [.v (.int .i64 g), .v (.int .i64 s), .v (.int .i64 d), .v (.int .i64 k), .v (.int .i64 fu), .v (.int .i64 li), .v (.int .i64 de), .v (.int .i64 id)], .el [.sl 3 (es.map Et.av)]] ((keptE li fu de 0 es).map fun e => #[e.val]) := by
 refine ⟨⟨_, Try.func14, by kernel_rfl, rfl⟩, by rfl, fun w A μ ks hA hks l J Jx hJ hJx hY h0 => ?_⟩
 simp only [repL, rep, repC] at hks
 obtain ⟨k1, ks1, rfl, ⟨bj, oj, us, rfl, rj, a1, m1, rfl, _, ⟨rfl, _⟩, a2, m2, rfl, _, ⟨rfl, _⟩, a3, m3, rfl, _, ⟨rfl, _⟩, a4, m4, rfl, _, ⟨rfl, _⟩, a5, m5, rfl, _, ⟨rfl, _⟩, a6, m6, rfl, _, ⟨rfl, _⟩, a7, m7, rfl, _, ⟨rfl, _⟩, a8, m8, rfl, _, ⟨rfl, _⟩, rfl⟩, k2, ks2, rfl, ⟨bl, ol, us2, rfl, rl, a9, m9, rfl, _, ⟨ad, c, us3, rfl, hc1, hc2, re, hre⟩, rfl⟩, rfl⟩ := hks
 rw [List.length_map] at hc1 rl
 rw [repLL_et hre] at re
 rw [List.length_map]
 exact callsIn_wide.1 (it_kept g s d k fu li de id es hes hli hlen A w l bj oj bl ol c ad rj rl re ⟨hc1, hc2⟩ J Jx hJ hJx hY h0)
end Go.Proofs.Ytlgbadlgfdlheaa
namespace Go.Proofs.Ytlgbadlgfdlheaa
open Go.RowKit Go.Shelf
attribute [local go_sem] Oper.semAt_some
def allK (li fu de : Int) (ls : List (List Et)) : List Et := ls.flatMap (keptE li fu de 0)
theorem kept_in (g s d k fu li de id : Int) (ad : Option Addr) (n c : Nat) (w : World) :
  CallsIn Fence.wide 0 Try.prog 9 #[.agg #[.int .i64 g, .int .i64 s, .int .i64 d, .int .i64 k, .int .i64 fu, .int .i64 li, .int .i64 de, .int .i64 id], .slice ad n c] w fun e w' => e = .returned (.func (.func 14) #[] #[.pointer (some ⟨w.heap.size, 0, none⟩), .pointer (some ⟨w.heap.size + 1, 0, none⟩)]) ∧
   w' = (w.alloc (.cells #[.int .i64 g, .int .i64 s, .int .i64 d, .int .i64 k, .int .i64 fu, .int .i64 li, .int .i64 de, .int .i64 id] 23)).alloc (.cells #[.slice ad n c] 25) := by
 refine callsIn_of_wp Try.func9 rfl trivial ?_ rfl
 simp only [Try.ntmps9, List.size_toArray, List.length_cons, List.length_nil, Nat.reduceAdd, Nat.reduceSub, Array.replicate_succ, Array.replicate_zero, List.push_toArray, List.append_toArray, List.nil_append, List.cons_append]
 gi_wp2
 go_ret
 exact ⟨rfl, rfl⟩
theorem in_cells {μ : Nat → Value} {w : World} {A : Nat → Prop} : ∀ {ls : List (List Et)} {us : List Value}, repLL [] μ w A 1 (ls.map inAv) us → ∀ q (h : q < ls.length), ∃ ad c, us[q]? = some (.slice ad ls[q].length c) ∧ ls[q].length ≤ c ∧ c ≤ maxLen ∧ ReadsA w A ad (ls[q].flatMap Et.cells)
 | [], us, h, q, hq => by simp at hq
 | es :: ls, us, h, q, hq => by
  simp only [List.map_cons, repLL] at h
  obtain ⟨u1, u2, rfl, _, h2, h3⟩ := h
  simp only [inAv, repC, rep] at h2
  obtain ⟨a, l, rfl, _, ⟨ad, c, us3, rfl, hc1, hc2, re, hre⟩, rfl⟩ := h2
  cases q with
  | zero =>
   rw [repLL_et hre] at re
   rw [List.length_map] at hc1
   refine ⟨ad, c, ?_, hc1, hc2, re⟩
   simp
  | succ q =>
   obtain ⟨ad', c', h4, h5⟩ := in_cells h3 q (by simpa using hq)
   exact ⟨ad', c', by simpa using h4, h5⟩
theorem allK_at {li fu de : Int} {ls : List (List Et)} {q i : Nat} {e : Et} (hq : q < ls.length) (h : (keptE li fu de 0 ls[q])[i]? = some e) : (allK li fu de ls)[(allK li fu de (ls.take q)).length + i]? = some e := by
 have e1 : allK li fu de ls = allK li fu de (ls.take q) ++ (keptE li fu de 0 ls[q] ++ allK li fu de (ls.drop (q + 1))) := by
  unfold allK
  rw [← List.flatMap_cons, ← List.drop_eq_getElem_cons hq, ← List.flatMap_append, List.take_append_drop]
 have hi := (List.getElem?_eq_some_iff.1 h).1
 rw [e1, List.getElem?_append_right (by omega), Nat.add_sub_cancel_left, List.getElem?_append_left hi]
 exact h
theorem allK_snoc {li fu de : Int} {ls : List (List Et)} {q : Nat} (hq : q < ls.length) : (allK li fu de (ls.take (q + 1))).length = (allK li fu de (ls.take q)).length + (keptE li fu de 0 ls[q]).length := by
 rw [take_snoc ls q hq]
 unfold allK
 rw [List.flatMap_append, List.length_append]
 simp only [List.flatMap_cons, List.flatMap_nil, List.append_nil]
def MarksO (O : Nat → Prop) (ds : List Deferred) (W : World) : Prop := ds.Nodup ∧ ∀ d ∈ ds, ∃ D, d = { target := .collected D, args := #[] } ∧ O D ∧ W.heap[D]? = some (.deferred (some []))
theorem MarksO.kept {O O' : Nat → Prop} {ds : List Deferred} {W W' : World} (h : MarksO O ds W) (hO : ∀ k, O k → O' k) (hk : ∀ k, O k → k < W.heap.size → W'.heap[k]? = W.heap[k]?) : MarksO O' ds W' :=
 ⟨h.1, fun d hd => by obtain ⟨D, h1, h2, h3⟩ := h.2 d hd; exact ⟨D, h1, hO D h2, (hk D h2 (Array.getElem?_eq_some_iff.1 h3).1).trans h3⟩⟩
theorem et_repLL {μ : Nat → Value} {w : World} {A : Nat → Prop} : ∀ (es : List Et), repLL [] μ w A 3 (es.map Et.av) (es.flatMap Et.cells)
 | [] => by simp [repLL]
 | e :: es => by
  simp only [List.map_cons, List.flatMap_cons, repLL]
  refine ⟨_, _, rfl, rfl, ?_, et_repLL es⟩
  simp only [Et.av, Et.cells, repC, rep]
  exact ⟨_, _, rfl, rfl, ⟨rfl, rfl⟩, _, _, rfl, rfl, ⟨rfl, rfl⟩, _, _, rfl, rfl, ⟨rfl, rfl⟩, rfl⟩
theorem leave_marks {P : Program} {O : Nat → Prop} {fn : Func} {R : Ending → World → Prop} {tmps : Array Value} {v : Value} (hres : ∀ w, (results fn tmps).run P w = .ok v w) : ∀ (ds : List Deferred) (W : World), MarksO O ds W → (∀ W', TurnO O W W' → R (.returned v) W') → LeavesInM Fence.wide 0 P fn tmps R ds .returning W
 | [], W, _, hR => ⟨v, hres W, hR W (TurnO.refl O W)⟩
 | d :: ds, W, h, hR => by
  obtain ⟨D, h1, h2, h3⟩ := h.2 d (by simp)
  refine ⟨by simp, .inl ⟨D, _, by rw [h1], run_takeDeferred h3, leave_marks hres ds _ ⟨(List.nodup_cons.1 h.1).2, fun e he => ?_⟩ fun W' ht => hR W' ((TurnO.put W _ h2).trans ht fun j hj => .inl hj)⟩⟩
  obtain ⟨D', h4, h5, h6⟩ := h.2 e (by simp [he])
  refine ⟨D', h4, h5, (World.putObj_heap_other ?_).trans h6⟩
  rintro rfl
  rw [← h1] at h4
  subst h4
  exact (List.nodup_cons.1 h.1).1 he
set_option maxRecDepth 100000 in
theorem it_all (g s d k fu li de id : Int) (ls : List (List Et)) (hls : ∀ es ∈ ls, (∀ e ∈ es, -9223372036854775808 ≤ e.v ∧ e.v ≤ 9223372036854775807) ∧ es.length ≤ 1000000) (hli : li ≤ 9223372036854775807) (hlen : ls.length ≤ 1000000) (A : Nat → Prop) (w : World) (l bi oi bj oj c : Nat) (ad : Option Addr) (us : List Value) (hA : ∀ k, A k → k < w.heap.size)
  (ri : ReadsA w A (some ⟨bi, oi, none⟩) [.slice ad ls.length c]) (hc : ls.length ≤ c ∧ c ≤ maxLen) (re : ReadsA w A ad us) (hel : ∀ q (h : q < ls.length), ∃ ad c, us[q]? = some (.slice ad ls[q].length c) ∧ ls[q].length ≤ c ∧ c ≤ maxLen ∧ ReadsA w A ad (ls[q].flatMap Et.cells))
  (rj : ReadsA w A (some ⟨bj, oj, none⟩) [.int .i64 g, .int .i64 s, .int .i64 d, .int .i64 k, .int .i64 fu, .int .i64 li, .int .i64 de, .int .i64 id])
  (J Jx : (Nat → Prop) → Nat → World → Prop) (hJ : Goes w.heap.size J) (hJx : Goes w.heap.size Jx)
  (hY : ∀ (O : Nat → Prop) i x W1, (∀ k, O k → w.heap.size ≤ k) → J O i W1 → ((allK li fu de ls).map fun e => #[e.val])[i]? = some x → YieldAt Fence.wide 0 Try.prog l x W1 fun e W' =>
   (e = .returned (.bool true) ∧ J O (i + 1) W' ∧ KO A O w.heap.size W1 W') ∨ (e = .returned (.bool false) ∧ Jx O (i + 1) W' ∧ KX O W1.heap.size W1 W'))
  (h0 : J (fun _ => False) 0 w) :
  CallsIn Fence.wide 0 Try.prog 8 #[.func (.yield l) #[] #[], .pointer (some ⟨bi, oi, none⟩), .pointer (some ⟨bj, oj, none⟩)] w fun e W' => (∃ v, e = .returned v) ∧
   ∃ O : Nat → Prop, (∀ k, O k → w.heap.size ≤ k) ∧ (J O (allK li fu de ls).length W' ∨ ∃ i, Jx O i W') := by
 have l0 := reads_cell ri (j := 0) rfl
 simp only [Nat.add_zero] at l0
 have hbi := reads_lt ri (by simp)
 refine callsIn_of_wp_marks Try.func8 rfl trivial ?_ rfl
 simp only [Try.ntmps8, List.size_toArray, List.length_cons, List.length_nil, Nat.reduceAdd, Nat.reduceSub, Array.replicate_succ, Array.replicate_zero, List.push_toArray, List.append_toArray, List.nil_append, List.cons_append]
 gi_wp2
 have hresN : ∀ (tm : Array Value) W, (results Try.f8 tm).run Try.prog W = .ok (.tuple #[]) W := fun tm W => results_none rfl _ _ _
 refine wpIn_loop (fun a' wr => ∃ (q : Nat) (Oq : Nat → Prop) (ds : List Deferred) (u5 u10 u11 u12 u13 u14 u15 u21 : Value), a' = { tmps := #[.func (.yield l) #[] #[], .pointer (some ⟨bi, oi, none⟩), .pointer (some ⟨bj, oj, none⟩), .pointer (some ⟨w.heap.size, 0, none⟩), undef, u5, undef, .slice ad ls.length c, .int .i64 ls.length, .int .i64 q, u10, u11, u12, u13, u14, u15, undef, undef, undef, undef, undef, u21], defers := ds } ∧
   q ≤ ls.length ∧ (∀ k, Oq k → w.heap.size ≤ k ∧ k < wr.heap.size) ∧ Oq w.heap.size ∧ J Oq (allK li fu de (ls.take q)).length wr ∧ Blk wr w.heap.size 44 #[.func (.yield l) #[] #[]] ∧ Old A w wr ∧ MarksO Oq ds wr)
  (fun a' _ => ls.length - (intOf (a'.tmps.getD 9 undef)).toNat) ?_ ?_
 ·refine ⟨0, fun k => k = w.heap.size, [], _, _, _, _, _, _, _, _, rfl, Nat.zero_le _, ?_, rfl, ?_, Blk.new _ _ _, ?_, List.nodup_nil, fun _ h => nomatch h⟩
  ·rintro k rfl; simp
  ·exact hJ _ _ _ _ _ (fun _ h => h.elim) h0 (TurnO.alloc _ _ _) (fun _ h => h.elim) (fun k hk => .inr (by subst hk; simp))
  ·exact (Old.refl A w).turn (TurnO.alloc (fun _ => False) _ _) (fun _ h => h.elim)
 rintro _ wr ⟨q, Oq, ds, u5, u10, u11, u12, u13, u14, u15, u21, rfl, hq, hOq, hOw, hJq, hB, hO, hM⟩
 rcases Nat.lt_or_eq_of_le hq with hlt | heq
 ·have hre := hO.reads re
  obtain ⟨ad1, c1, f0, hc1, hc2, hre1⟩ := hel q hlt
  obtain ⟨ba, oa, rfl⟩ : ∃ ba oa, ad = some ⟨ba, oa, none⟩ := by
   rcases hre with h | ⟨b', o', h, _⟩
   ·rw [h] at f0; simp at f0
   ·exact ⟨_, _, h⟩
  have e0 := reads_cell hre f0
  have hcl := hc.2
  have hrj := hO.reads rj
  have j0 := reads_cell hrj (j := 0) rfl
  have j1 := reads_cell hrj (j := 1) rfl
  have j2 := reads_cell hrj (j := 2) rfl
  have j3 := reads_cell hrj (j := 3) rfl
  have j4 := reads_cell hrj (j := 4) rfl
  have j5 := reads_cell hrj (j := 5) rfl
  have j6 := reads_cell hrj (j := 6) rfl
  have j7 := reads_cell hrj (j := 7) rfl
  simp only [Nat.add_zero] at j0
  have hq0 : (0 : Int) ≤ q := by omega
  have hqn : (q : Int) < ls.length := by omega
  have hsn := take_snoc ls q hlt
  have hlq := hls _ (List.getElem_mem hlt)
  obtain ⟨es, hes⟩ : ∃ es, ls[q] = es := ⟨_, rfl⟩
  rw [hes] at e0 hc1 hre1 hsn hlq
  gi_wp2_with (refine ⟨trivial, rfl, (kept_in g s d k fu li de id ad1 es.length c1 _).mono ?_⟩; rintro e w2 ⟨rfl, rfl⟩)
  obtain ⟨n1, hn1⟩ : ∃ n1, wr.heap.size = n1 := ⟨_, rfl⟩
  have hwn : w.heap.size ≤ n1 := by rw [← hn1]; exact hO.1
  obtain ⟨W2, hW2⟩ : ∃ W2, (wr.alloc (.cells #[.int .i64 g, .int .i64 s, .int .i64 d, .int .i64 k, .int .i64 fu, .int .i64 li, .int .i64 de, .int .i64 id] 23)).alloc (.cells #[.slice ad1 es.length c1] 25) = W2 := ⟨_, rfl⟩
  have hs2 : W2.heap.size = n1 + 2 := by rw [← hW2]; simp [hn1]
  have hb1 : Blk W2 n1 23 #[.int .i64 g, .int .i64 s, .int .i64 d, .int .i64 k, .int .i64 fu, .int .i64 li, .int .i64 de, .int .i64 id] := by rw [← hW2, ← hn1]; exact (Blk.new _ _ _).alloc _
  have hb2 : Blk W2 (n1 + 1) 25 #[.slice ad1 es.length c1] := by rw [← hW2]; exact Blk.new_at (by simp [hn1])
  have ht2 : TurnO (fun _ => False) wr W2 := by rw [← hW2]; exact (TurnO.alloc _ _ _).trans (TurnO.alloc (fun _ => False) _ _) (fun _ h => h.elim)
  have hO2 := hO.turn ht2 (fun _ h => h.elim)
  simp only [hn1]
  rw [hW2]
  clear hW2
  obtain ⟨Of, hOf⟩ : ∃ Of : (Nat → Prop) → Nat → Prop, Of = fun O k => O k ∨ Oq k ∨ k = n1 ∨ k = n1 + 1 := ⟨_, rfl⟩
  have hOqn : ∀ k, Oq k → k < n1 := fun k h => by rw [← hn1]; exact (hOq k h).2
  have hOfge : ∀ O : Nat → Prop, (∀ k, O k → W2.heap.size ≤ k) → ∀ k, Of O k → w.heap.size ≤ k := fun O ho k hk => by
   rw [hOf] at hk
   rcases hk with h | h | h | h
   ·have := ho k h; omega
   ·exact (hOq k h).1
   ·omega
   ·omega
  have hOO : ∀ (O : Nat → Prop) k, O k → Of O k := fun O k h => by rw [hOf]; exact .inl h
  have hOQ : ∀ (O : Nat → Prop) k, Oq k → Of O k := fun O k h => by rw [hOf]; exact .inr (.inl h)
  obtain ⟨A', hA'⟩ : ∃ A' : Nat → Prop, A' = fun k => k < n1 + 2 ∧ ¬ ((k < w.heap.size ∧ ¬ A k) ∨ Oq k ∨ k = n1 ∨ k = n1 + 1) := ⟨_, rfl⟩
  refine wp_rangeO (gf := 14) (lb := #[.pointer (some ⟨n1, 0, none⟩), .pointer (some ⟨n1 + 1, 0, none⟩)]) rfl (run_enterOK ⟨_, Try.func14, by kernel_rfl, rfl⟩) (A := A') (fun k h => ?_) (xs := (keptE li fu de 0 es).map fun e => #[e.val]) (fun r => ?_) (fun x hx => ?_)
   (fun O i W => J (Of O) ((allK li fu de (ls.take q)).length + i) W ∧ Old A w W ∧ Blk W w.heap.size 44 #[.func (.yield l) #[] #[]] ∧ MarksO Oq ds W ∧ (∀ k, Of O k → k < W.heap.size))
   (fun c O W => c = .ret ∧ (∃ i, Jx (Of O) i W) ∧ MarksO Oq ds W) ?_ ?_ ?_ ?_ ?_ ?_
  ·rw [hA'] at h; rw [hs2]; exact h.1
  ·obtain ⟨W3, hW3⟩ : ∃ W3, (W2.alloc (.deferred (some []))).alloc (.loop r) = W3 := ⟨_, rfl⟩
   have hs3 : W3.heap.size = n1 + 4 := by rw [← hW3]; simp [hs2]
   have hb1 : Blk W3 n1 23 #[.int .i64 g, .int .i64 s, .int .i64 d, .int .i64 k, .int .i64 fu, .int .i64 li, .int .i64 de, .int .i64 id] := by rw [← hW3]; exact (hb1.alloc _).alloc _
   have hb2 : Blk W3 (n1 + 1) 25 #[.slice ad1 es.length c1] := by rw [← hW3]; exact (hb2.alloc _).alloc _
   have ht3 : TurnO (fun _ => False) W2 W3 := by rw [← hW3]; exact (TurnO.alloc _ _ _).trans (TurnO.alloc (fun _ => False) _ _) (fun _ h => h.elim)
   have hO3 := hO2.turn ht3 (fun _ h => h.elim)
   have hre3 : ReadsA W3 A' ad1 (es.flatMap Et.cells) := by
    have hlt1 : ∀ b o, ad1 = some ⟨b, o, none⟩ → es.flatMap Et.cells = [] ∨ b < w.heap.size := fun b o e => by
     rcases hre1 with h | ⟨b', o', h, h1, h2, _⟩
     ·exact .inl h
     ·rw [e] at h; injection h with h; injection h with h; subst h; exact .inr h2
    rcases hO3.reads hre1 with h | ⟨b, o, h1, h2, h3, h4⟩
    ·exact .inl h
    ·rcases hlt1 b o h1 with h | h
     ·exact .inl h
     ·refine .inr ⟨b, o, h1, ?_, h3, h4⟩
      rw [hA']
      exact fun hc => hc.2 (.inl ⟨h, h2⟩)
   rw [hW3]
   refine (seq_kept g s d k fu li de id es hlq.1 hli hlq.2).2.2 W3 A' (fun _ => undef) [.pointer (some ⟨n1, 0, none⟩), .pointer (some ⟨n1 + 1, 0, none⟩)] (fun k hk => by rw [hA'] at hk; have := hk.1; omega) ?_
   simp only [repL, rep, repC]
   refine ⟨_, _, rfl, ⟨n1, 0, [.int .i64 g, .int .i64 s, .int .i64 d, .int .i64 k, .int .i64 fu, .int .i64 li, .int .i64 de, .int .i64 id], rfl, .inr ⟨n1, 0, rfl, ?_, by omega, blk_cells (off := 0) hb1⟩, ?_⟩, _, _, rfl, ⟨n1 + 1, 0, [.slice ad1 es.length c1], rfl, .inr ⟨n1 + 1, 0, rfl, ?_, by omega, blk_cells (off := 0) hb2⟩, _, _, rfl, rfl, ⟨ad1, c1, es.flatMap Et.cells, ?_, ?_, hc2, hre3, et_repLL es⟩, rfl⟩, rfl⟩
   ·rw [hA']; exact fun hc => hc.2 (.inr (.inr (.inl rfl)))
   ·exact ⟨_, _, rfl, rfl, ⟨rfl, rfl⟩, _, _, rfl, rfl, ⟨rfl, rfl⟩, _, _, rfl, rfl, ⟨rfl, rfl⟩, _, _, rfl, rfl, ⟨rfl, rfl⟩, _, _, rfl, rfl, ⟨rfl, rfl⟩, _, _, rfl, rfl, ⟨rfl, rfl⟩, _, _, rfl, rfl, ⟨rfl, rfl⟩, _, _, rfl, rfl, ⟨rfl, rfl⟩, rfl⟩
   ·rw [hA']; exact fun hc => hc.2 (.inr (.inr (.inr rfl)))
   ·simp
   ·simpa using hc1
  ·obtain ⟨y, _, rfl⟩ := List.mem_map.1 hx; rfl
  ·rintro O O' i X Y ho ⟨h1, h2, h3, h4, h5⟩ ht hsub hnew
   refine ⟨hJ (Of O) (Of O') _ X Y (hOfge O ho) h1 (ht.mono (hOO O)) (fun k hk => ?_) (fun k hk => ?_), h2.turn ht (fun k hk => by have := ho k hk; omega), ?_, ?_, fun k hk => ?_⟩
   ·rw [hOf] at hk ⊢; exact hk.imp (hsub k) (fun h => h)
   ·rw [hOf] at hk ⊢
    rcases hk with h | h
    ·exact (hnew k h).imp .inl (fun h => h)
    ·exact .inl (.inr h)
   ·exact (ht.2.2.2.2 _ h3.lt (fun hc => by have := ho _ hc; omega)).trans h3
   ·exact h4.kept (fun _ h => h) (fun k hk hkl => ht.2.2.2.2 k hkl (fun hc => by have := ho _ hc; have := hOqn k hk; omega))
   ·rw [hOf] at hk
    have hsz := ht.2.2.2.1
    rcases hk with h | h
    ·rcases hnew k h with h | h
     ·have := h5 k (hOO O k h); omega
     ·exact h.2
    ·have := h5 k (by rw [hOf]; exact .inr h); omega
  ·rintro c O O' i X Y ho ⟨h1, ⟨j, h2⟩, h3⟩ ht hsub hnew
   refine ⟨h1, ⟨j, hJx (Of O) (Of O') _ X Y (hOfge O ho) h2 (ht.mono (hOO O)) (fun k hk => ?_) (fun k hk => ?_)⟩, ?_⟩
   ·rw [hOf] at hk ⊢; exact hk.imp (hsub k) (fun h => h)
   ·rw [hOf] at hk ⊢
    rcases hk with h | h
    ·exact (hnew k h).imp .inl (fun h => h)
    ·exact .inl (.inr h)
   ·exact h3.kept (fun _ h => h) (fun k hk hkl => ht.2.2.2.2 k hkl (fun hc => by have := ho _ hc; have := hOqn k hk; omega))
  ·refine ⟨hJ Oq _ _ wr W2 (fun k hk => (hOq k hk).1) hJq (ht2.mono fun _ h => h.elim) (hOQ _) (fun k hk => ?_), hO2, ?_, ?_, fun k hk => ?_⟩
   ·rw [hOf] at hk
    rcases hk with h | h | h | h
    ·exact h.elim
    ·exact .inl h
    ·right; omega
    ·right; omega
   ·exact (ht2.2.2.2.2 _ hB.lt (fun h => h.elim)).trans hB
   ·exact hM.kept (fun _ h => h) (fun k hk hkl => ht2.2.2.2.2 k hkl (fun h => h.elim))
   ·rw [hOf] at hk
    rcases hk with h | h | h | h
    ·exact h.elim
    ·have := hOqn k h; omega
    ·omega
    ·omega
  ·rintro L O i x W hL hOge ⟨h1, h2, h3, h4, h5⟩ hx
   rw [List.getElem?_map] at hx
   cases hxi : (keptE li fu de 0 es)[i]? with
   | none => rw [hxi] at hx; cases hx
   | some e =>
    rw [hxi] at hx
    simp only [Option.map_some, Option.some.injEq] at hx
    subst hx
    obtain ⟨key, t, v⟩ := e
    dsimp only [Et.val]
    simp only [List.zip_toArray, List.zip_cons_cons, List.zip_nil_left, List.foldl_toArray, List.foldl_cons, List.foldl_nil, List.setIfInBounds_toArray, List.set_cons_succ, List.set_cons_zero]
    have hnW : n1 + 1 < W.heap.size := h5 _ (by rw [hOf]; exact .inr (.inr (.inr rfl)))
    have hLW := h5 L (hOO O L hL)
    have hLn := hOge L hL
    have hwO : Of O w.heap.size := hOQ O _ hOw
    have hxs : ((allK li fu de ls).map fun e => #[e.val])[(allK li fu de (ls.take q)).length + i]? = some #[Et.val ⟨key, t, v⟩] := by
     rw [List.getElem?_map, allK_at hlt (by rw [hes]; exact hxi)]; rfl
    gi_wp2
    refine ⟨⟨by simp, fun k hk => Below.heap_alloc W _ k ?_⟩, fun r => ?_⟩
    ·rcases hk with ⟨h, _⟩ | h
     ·omega
     ·exact h5 k (hOO O k h)
    obtain ⟨W5, hW5⟩ : ∃ W5, (W.alloc (Obj.cells #[Value.string key, Value.int IntKind.i64 t, Value.int IntKind.i64 v] 49)).putObj L (Obj.loop r) = W5 := ⟨_, rfl⟩
    have ht5 : TurnO (Of O) W W5 := by rw [← hW5]; exact (TurnO.alloc _ _ _).trans (TurnO.put _ _ (hOO O L hL)) (fun _ h => .inl h)
    have hs5 : W.heap.size < W5.heap.size := by rw [← hW5]; simp
    have hE5 : Blk W5 W.heap.size 49 #[Value.string key, Value.int IntKind.i64 t, Value.int IntKind.i64 v] := by
     rw [← hW5]; exact (World.putObj_heap_other (by omega)).trans (Blk.new W _ _)
    have hB5 : Blk W5 w.heap.size 44 #[.func (.yield l) #[] #[]] := by
     rw [← hW5]; exact (World.putObj_heap_other (by omega)).trans ((Blk.alloc h3 _))
    have hM5 : MarksO Oq ds W5 := h4.kept (fun _ h => h) (fun k hk hkl => by
     rw [← hW5]
     exact (World.putObj_heap_other (by have := hOqn k hk; omega)).trans (Below.heap_alloc W _ k hkl))
    have hO5 := h2.turn ht5 (hOfge O hOge)
    have hJ5 := hJ (Of O) (Of O) _ W W5 (hOfge O hOge) h1 ht5 (fun _ h => h) (fun _ h => .inl h)
    obtain ⟨fn, tmps, assign, body, hy, hR⟩ := hY (Of O) _ _ W5 (hOfge O hOge) hJ5 hxs
    dsimp only [Et.val] at hy
    rw [hW5]
    clear hW5
    have k0 := hB5.cell 0
    have k1 := hE5.cell 0
    have k2 := hE5.cell 1
    have k3 := hE5.cell 2
    gi_wp2
    refine ⟨rfl, RoundIn.mono (F := Fence.wide.inRound L) hR ?_⟩
    rintro e W6 (⟨rfl, hJ6, hk6⟩ | ⟨rfl, hJx6, hk6⟩)
    ·gi_wp2
     refine ⟨⟨by have := hk6.1; omega, fun k hk => hk6.2 k ?_⟩, hJ6, hO5.ko hk6, (hk6.2 _ (.inr hwO)).trans hB5, hM5.kept (fun _ h => h) (fun k hk _ => hk6.2 k (.inr (hOQ O k hk))), fun k hk => by have := h5 k hk; have := hk6.1; omega⟩
     rcases hk with ⟨h6, h7⟩ | h
     ·rw [hA'] at h7
      rcases Classical.not_and_iff_not_or_not.1 h7 with h8 | h8
      ·omega
      ·rcases Classical.not_not.1 h8 with h9 | h9
       ·exact .inl h9
       ·right; rw [hOf]; exact .inr h9
     ·exact .inr (hOO O k h)
    ·gi_wp2
     exact ⟨⟨by have := hk6.1; omega, fun k hk => hk6.2 k (hOO O k hk)⟩, rfl, ⟨_, hJx6⟩, hM5.kept (fun _ h => h) (fun k hk _ => hk6.2 k (hOQ O k hk))⟩
  ·rintro O W ho hOD ⟨h1, h2, h3, h4, h5⟩ hD
   gi_wp2
   have e : ((q + 1 : Nat) : Int) = (q : Int) + 1 := by omega
   rw [← e]
   rw [List.length_map, ← hes, ← allK_snoc hlt] at h1
   refine ⟨⟨q + 1, Of O, _, _, _, _, _, _, _, _, _, rfl, by omega, fun k hk => ⟨hOfge O ho k hk, h5 k hk⟩, hOQ O _ hOw, h1, h3, h2, List.nodup_cons.2 ⟨fun hc => ?_, h4.1⟩, fun d hd => ?_⟩, ?_⟩
   ·obtain ⟨D, g1, g2, g3⟩ := h4.2 _ hc
    injection g1 with g1 _; injection g1 with g1
    have := hOqn D g2
    omega
   ·rcases List.mem_cons.1 hd with rfl | hd
    ·exact ⟨_, rfl, hOO O _ hOD, hD⟩
    ·obtain ⟨D, g1, g2, g3⟩ := h4.2 d hd
     exact ⟨D, g1, hOQ O D g2, g3⟩
   ·simp [intOf]; omega
  ·rintro O cc W ho hOD ⟨rfl, ⟨j, h1⟩, h2⟩ hD
   gi_wp2
   refine leave_marks (O := Of O) (hresN _) _ W ⟨List.nodup_cons.2 ⟨fun hc => ?_, h2.1⟩, fun d hd => ?_⟩ (fun W' ht => ⟨⟨_, rfl⟩, Of O, hOfge O ho, .inr ⟨j, hJx (Of O) (Of O) _ W W' (hOfge O ho) h1 ht (fun _ h => h) (fun _ h => .inl h)⟩⟩)
   ·obtain ⟨D, g1, g2, g3⟩ := h2.2 _ hc
    injection g1 with g1 _; injection g1 with g1
    have := hOqn D g2
    omega
   ·rcases List.mem_cons.1 hd with rfl | hd
    ·exact ⟨_, rfl, hOO O _ hOD, hD⟩
    ·obtain ⟨D, g1, g2, g3⟩ := h2.2 d hd
     exact ⟨D, g1, hOQ O D g2, g3⟩
 ·subst heq
  rw [List.take_length] at hJq
  gi_wp2
  exact leave_marks (O := Oq) (hresN _) _ wr hM (fun W' ht => ⟨⟨_, rfl⟩, Oq, fun k hk => (hOq k hk).1, .inl (hJ Oq Oq _ wr W' (fun k hk => (hOq k hk).1) hJq ht (fun _ h => h) (fun _ h => .inl h))⟩)
theorem seq_all (g s d k fu li de id : Int) (ls : List (List Et)) (hls : ∀ es ∈ ls, (∀ e ∈ es, -9223372036854775808 ≤ e.v ∧ e.v ≤ 9223372036854775807) ∧ es.length ≤ 1000000) (hli : li ≤ 9223372036854775807) (hlen : ls.length ≤ 1000000) :
  SeqAV Try.prog 8 [.el [.sl 1 (ls.map inAv)], .el [.v (.int .i64 g), .v (.int .i64 s), .v (.int .i64 d), .v (.int .i64 k), .v (.int .i64 fu), .v (.int .i64 li), .v (.int .i64 de), .v (.int .i64 id)]] ((allK li fu de ls).map fun e => #[e.val]) := by
 refine ⟨⟨_, Try.func8, by kernel_rfl, rfl⟩, by rfl, fun w A μ ks hA hks l J Jx hJ hJx hY h0 => ?_⟩
 simp only [repL, rep, repC] at hks
 obtain ⟨k2, ks2, rfl, ⟨bl, ol, us2, rfl, rl, a9, m9, rfl, _, ⟨ad, c, us3, rfl, hc1, hc2, re, hre⟩, rfl⟩, k1, ks1, rfl, ⟨bj, oj, us, rfl, rj, a1, m1, rfl, _, ⟨rfl, _⟩, a2, m2, rfl, _, ⟨rfl, _⟩, a3, m3, rfl, _, ⟨rfl, _⟩, a4, m4, rfl, _, ⟨rfl, _⟩, a5, m5, rfl, _, ⟨rfl, _⟩, a6, m6, rfl, _, ⟨rfl, _⟩, a7, m7, rfl, _, ⟨rfl, _⟩, a8, m8, rfl, _, ⟨rfl, _⟩, rfl⟩, rfl⟩ := hks
 have hin := in_cells hre
 rw [List.length_map] at hc1 rl
 rw [List.length_map]
 exact callsIn_wide.1 (it_all g s d k fu li de id ls hls hli hlen A w l bl ol bj oj c ad us3 hA rl ⟨hc1, hc2⟩ re hin rj J Jx hJ hJx hY h0)
end Go.Proofs.Ytlgbadlgfdlheaa
namespace Go.Proofs.Ytlgbadlgfdlheaa
open Go.RowKit
theorem job_parts {g s d k fu li de id : Int} (h : jobOK g s d k fu li de id = true) : fRight k = true ∧ winB s d = true := by
 unfold jobOK at h
 simp only [Bool.and_eq_true] at h
 simp [h]
theorem check_parts {g s d k fu li de id : Int} {ls : List (List Et)} (h : checkN g s d k fu li de id ls = 0) : fRight k = true ∧ winB s d = true ∧ ls.length ≤ 4 ∧ ∀ es ∈ ls, es.length ≤ 200 ∧ ∀ e ∈ es, evR e.key e.at' = true := by
 unfold checkN at h
 split at h
 ·cases h
 ·rename_i hj
  have hj := job_parts (by simpa using hj)
  split at h
  ·cases h
  ·rename_i hi
   have hi : okIn ls = true := by simpa using hi
   unfold okIn at hi
   simp only [Bool.and_eq_true, decide_eq_true_eq, List.all_eq_true] at hi
   refine ⟨hj.1, hj.2, hi.2.1, fun es he => ?_⟩
   have := hi.2.2 es he
   unfold okEs at this
   simp only [Bool.and_eq_true, decide_eq_true_eq, List.all_eq_true] at this
   exact this
theorem et_cav (x : Et) (σ : Store) (μ : Nat → Value) (w : World) (A : Nat → Prop) : rep σ μ w A (.agg (Et.av x)) (Et.val x) := by
 simp only [rep, repC, Et.av, Et.val]
 exact ⟨[.string x.key, .int .i64 x.at', .int .i64 x.v], rfl, _, _, rfl, rfl, ⟨rfl, rfl⟩, _, _, rfl, rfl, ⟨rfl, rfl⟩, _, _, rfl, rfl, ⟨rfl, rfl⟩, rfl⟩
section
variable (g s d k fu li de id : Int) (es : List Et)
def KR.av (r : List Et × Int) : AV := .tup [.sl 3 (r.1.map Et.av), .v (.int .i64 r.2)]
end
end Go.Proofs.Ytlgbadlgfdlheaa
namespace Go.Proofs.Ytlgbadlgfdlheaa
open Go.RowKit
section
variable (g s d k fu li de id : Int) (es : List Et)
end
section
variable {Γ : Ctx} {s : ASt} {dst : Option Tmp} {ty yt : TypeId} {pos : String} {after : Array Edge} {x y : Operand}
end
end Go.Proofs.Ytlgbadlgfdlheaa
