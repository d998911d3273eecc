/-
  Walks over abstract values: a method's value (a function with a bound receiver) called; a nil check; a shift by one. Over whatever program. No condition.
  Walks over abstract values: maps of one's own. Over whatever program. No condition.
  A range over a function whose iterator hands on in an order that isn't known ahead, and leans on memory that the rounds keep. Over whatever program. No condition.
  This program's types, for walks over abstract values. No condition.
  Walks over abstract values: what shortens a text. Over whatever program. No condition.
  One step of a walk over abstract values, found by trying. No condition.
  Walks over abstract values: bits of numbers. Over whatever program. No condition.
  Numbers written in digits, and how many bits a number has: by the shelf's contracts, laid at this seat's numbers.
  Heaps in rows: pushed, popped, made. Plain.
-/
import Derived.DeepKeys3
import Derived.StringKeys
import Derived.Maps.Range
import Derived.RangeFuncNested
import Derived.RangeFuncCalls
import Derived.Laws.OwnMore
import Derived.Shelf.Strconv.Itoa4
import Derived.Shelf.Small.Bits
import Derived.Test.YtcfidmdkioccdaaDoorRows
import Derived.Test.YtcfidmdkioccdaaDoorChecked
import Derived.Test.YtcfidmdkioccdaaDoorS1
import Derived.Test.YtcfidmdkioccdaaDoorS3
set_option linter.unusedSimpArgs false
set_option linter.unusedVariables false
set_option maxHeartbeats 20000000
namespace Go.Proofs.YtcfidmdkioccdaaDoor
open Go.RowKit
section
variable {P : Program} {T : List TyI} {Γ : Ctx} {s : ASt} {μ : Nat → Value} {w : World} {dst : Option Tmp} {ty : TypeId} {pos : String} {after : Array Edge}
theorem Rel.calleeB {t : ASt} {a : Act} (hr : Rel Γ t μ a w) {c : Operand} {f : FuncId} {first caps : List AV} (h : Proofs.YtcfidmdkioccdaaDoor.ev t c = some (.clo (.func f) first caps)) : ∃ fs ks : List Value, a.eval c = .func (.func f) fs.toArray ks.toArray ∧ repL t.σ μ w (av t.σ μ Γ.M) first fs ∧ repL t.σ μ w (av t.σ μ Γ.M) caps ks := by
 have h1 := hr.ev h
 simp only [rep] at h1
 obtain ⟨us, ks, h2, h3, h4⟩ := h1
 exact ⟨us, ks, h2, h3, h4⟩
theorem ls_nilCheck {x : Operand} {id off : Nat} (hx : ev s x = some (.ref id off)) (hd : okDst Γ.n dst = true) :
  LS P Γ ⟨dst, .nilCheck x, ty, pos, after, none⟩ s (rd x []) (dst1 dst (.ref id off)) [] :=
 ls_pure hd fun t' ht μ a w hr => by
  obtain ⟨e1, ht⟩ := ht.ev hx
  have e1 := hr.ev e1
  simp only [rep] at e1 ⊢
  obtain ⟨t, cs, g, h1, h2, h3, h4⟩ := e1
  refine ⟨.pointer (some ⟨g, off, none⟩), ?_, t, cs, g, h1, h2, h3, rfl⟩
  simp [execOp, h4]
end
def convL : List AV → Option (List Value)
 | [] => some []
 | .v x :: l => match convL l with
  | some us => some (x :: us)
  | none => none
 | _ => none
def conv : AV → Option Value
 | .v x => some x
 | .agg cs => match convL cs with
  | some us => some (.agg us.toArray)
  | none => none
 | _ => none
section
variable {P : Program} {Γ : Ctx} {s : ASt} {σ : Store} {μ : Nat → Value} {w : World} {A : Nat → Prop}
variable {dst : Option Tmp} {ty : TypeId} {pos : String} {after : Array Edge}
theorem convL_rep : ∀ {cs : List AV} {xs us : List Value}, convL cs = some xs → repC σ μ w A cs us → us = xs
 | [], xs, us, h, h2 => by
  simp only [convL, Option.some.injEq] at h; subst h
  simpa only [repC] using h2
 | .v x :: cs, xs, us, h, h2 => by
  simp only [convL] at h
  split at h
  ·rename_i ys hy
   injection h with h; subst h
   simp only [repC, rep] at h2
   obtain ⟨u, us', rfl, _, ⟨rfl, _⟩, h3⟩ := h2
   rw [convL_rep hy h3]
  ·cases h
 | .agg _ :: _, _, _, h, _ => by simp [convL] at h
 | .tup _ :: _, _, _, h, _ => by simp [convL] at h
 | .sl _ _ :: _, _, _, h, _ => by simp [convL] at h
 | .own _ _ :: _, _, _, h, _ => by simp [convL] at h
 | .ref _ _ :: _, _, _, h, _ => by simp [convL] at h
 | .eref _ _ _ _ :: _, _, _, h, _ => by simp [convL] at h
 | .el _ :: _, _, _, h, _ => by simp [convL] at h
 | .clo _ _ _ :: _, _, _, h, _ => by simp [convL] at h
 | .mp _ :: _, _, _, h, _ => by simp [convL] at h
theorem conv_rep {v : AV} {x y : Value} (h : conv v = some x) (hr : rep σ μ w A v y) : y = x := by
 cases v with
 | v z => simp only [conv, Option.some.injEq] at h; subst h; simp only [rep] at hr; exact hr.1
 | agg cs =>
  simp only [conv] at h
  split at h
  ·rename_i us hu
   injection h with h; subst h
   simp only [rep] at hr
   obtain ⟨us', rfl, h2⟩ := hr
   rw [convL_rep hu h2]
  ·cases h
 | _ => cases h
theorem borns_push {ents : Array MapEntry} {ck : Nat} (h : Borns ents ck) (key val : Value) : Borns (ents.push { key, val := val, born := ck }) (ck + 1) := by
 refine ⟨by simp [h.1], fun i e he => ?_⟩
 rw [Array.getElem?_push] at he
 split at he
 ·rename_i h1; injection he with he; subst he; exact h.1.trans h1.symm
 ·exact h.2 i e he
theorem borns_modify {ents : Array MapEntry} {ck : Nat} (h : Borns ents ck) (j : Nat) (f : MapEntry → MapEntry) (hf : ∀ e, (f e).born = e.born) : Borns (ents.modify j f) ck := by
 refine ⟨by simp [h.1], fun i e he => ?_⟩
 rw [Array.getElem?_modify] at he
 split at he
 ·cases hi : ents[i]? with
  | none => rw [hi] at he; cases he
  | some e' =>
   rw [hi] at he
   simp only [Option.map_some, Option.some.injEq] at he
   subst he
   rw [hf]; exact h.2 i e' hi
 ·exact h.2 i e he
theorem obj_map {id : Nat} {es : List (Value × Value)} (h : ObjRel σ μ w A id (.mp (.m es))) : ∃ g ents ck, μ id = .map (some g) ∧ w.heap[g]? = some (.map ents ck) ∧ ents.toList.map (fun e => (e.key, e.val)) = es ∧ Borns ents ck := by
 obtain ⟨g, v, ob, h1, h2, h3, g', ents, ck, rfl, rfl, h4, h5⟩ := h
 simp only [blk, Option.some.injEq] at h2
 subst h2
 exact ⟨_, ents, ck, h1, h3, h4, h5⟩
theorem obj_mapI {id : Nat} {es : List (Value × Value)} (h : ∃ g ents ck, μ id = .map (some g) ∧ w.heap[g]? = some (.map ents ck) ∧ ents.toList.map (fun e => (e.key, e.val)) = es ∧ Borns ents ck) : ObjRel σ μ w A id (.mp (.m es)) := by
 obtain ⟨g, ents, ck, h1, h2, h3, h4⟩ := h
 exact ⟨g, _, _, h1, rfl, h2, g, ents, ck, rfl, rfl, h3, h4⟩
theorem ls_makeMap {t k : Nat} (hk : find s.σ k = none) (hd : okDst Γ.n dst = true) : LS P Γ ⟨dst, .makeMap t none, ty, pos, after, none⟩ s [.obj k] (dst1 dst (.mp k)) [(k, .mp (.m []))] := by
 refine ⟨fun t' ht Q μ a w hr K hK => ?_⟩
 have hk' : find t'.σ k = none := ht.1.trans hk
 have hn := hr.new (w' := w.alloc (.map #[] 0)) (v := .map (some w.heap.size)) (o := .mp (.m [])) hk' (below_alloc _ _) (by simp [blk]) (fun μ' A hμ hμk hA hst => by
  exact obj_mapI ⟨w.heap.size, #[], 0, hμk, (MapKept.heap_alloc w _).1, rfl, rfl, fun i e h => by simp at h⟩)
 have hfin := hn.put (d := dst) (x := .mp k) (y := .map (some w.heap.size)) hd (by
  simp only [rep, ASt.eff, List.cons_append, List.nil_append, find_cons, if_true]
  exact ⟨rfl, (setμ_same _ _ _).symm, _, rfl⟩)
 unfold Oper.wp
 have hrun : (execOp a.eval ⟨dst, .makeMap t none, ty, pos, after, none⟩).run P w = .ok (.value (.map (some w.heap.size))) (w.alloc (.map #[] 0)) := by
  simp [execOp, Instr.makeMap, run_newObj]
 rw [hrun]
 refine hK (setμ μ k (.map (some w.heap.size))) _ _ ?_
 cases dst <;> exact hfin
end
def TurnOg (O : Nat → Prop) (W W' : World) : Prop := W'.os = W.os ∧ W'.tape = W.tape ∧ W'.output = W.output ∧ W.heap.size ≤ W'.heap.size ∧ ∀ k, k < W.heap.size → ¬ O k → W'.heap[k]? = W.heap[k]?
theorem TurnOg.refl (O : Nat → Prop) (W : World) : TurnOg O W W := ⟨rfl, rfl, rfl, Nat.le_refl _, fun _ _ _ => rfl⟩
theorem TurnOg.mono {O O' : Nat → Prop} {W W' : World} (h : TurnOg O W W') (ho : ∀ k, O k → O' k) : TurnOg O' W W' := ⟨h.1, h.2.1, h.2.2.1, h.2.2.2.1, fun k hk hn => h.2.2.2.2 k hk fun hc => hn (ho k hc)⟩
theorem TurnOg.alloc (O : Nat → Prop) (W : World) (o : Obj) : TurnOg O W (W.alloc o) := ⟨rfl, rfl, rfl, by simp, fun k hk _ => Below.heap_alloc W o k hk⟩
theorem TurnOg.trans {O O' : Nat → Prop} {A B C : World} (h : TurnOg O A B) (k : TurnOg O' B C) (hO : ∀ j, O' j → O j ∨ A.heap.size ≤ j) : TurnOg O A C :=
 ⟨k.1.trans h.1, k.2.1.trans h.2.1, k.2.2.1.trans h.2.2.1, Nat.le_trans h.2.2.2.1 k.2.2.2.1, fun j hj hn => (k.2.2.2.2 j (Nat.lt_of_lt_of_le hj h.2.2.2.1) (fun hc => (hO j hc).elim hn (fun h => absurd hj (by omega)))).trans (h.2.2.2.2 j hj hn)⟩
theorem TurnOg.below {O : Nat → Prop} {W W' : World} (h : Below W.heap.size W W') : TurnOg O W W' := ⟨h.os, h.tape, h.output, h.size, fun k hk _ => h.block k hk⟩
theorem TurnOg.grown {O : Nat → Prop} {W W' : World} {r : Option Nat} (h : W.grownBy W' r) (ho : ∀ k, r = some k → O k) : TurnOg O W W' := ⟨h.os, h.tape, h.output, h.size, fun k hk hn => h.block k hk (fun e => hn (ho k e.symm))⟩
theorem TurnOg.put {O : Nat → Prop} (W : World) {l : Nat} (o : Obj) (ho : O l) : TurnOg O W (W.putObj l o) := TurnOg.grown (grownBy_putObj' W l o) (fun k e => by cases e; exact ho)
def Goesg {ι : Type} (n : Nat) (J : (Nat → Prop) → ι → World → Prop) : Prop :=
 ∀ (O O' : Nat → Prop) i W W', (∀ k, O k → n ≤ k) → J O i W → TurnOg O W W' → (∀ k, O k → O' k) → (∀ k, O' k → O k ∨ (W.heap.size ≤ k ∧ k < W'.heap.size)) → J O' i W'
def KOg (A O : Nat → Prop) (n : Nat) (W W' : World) : Prop := W.heap.size ≤ W'.heap.size ∧ ∀ k, (k < n ∧ ¬ A k) ∨ O k → W'.heap[k]? = W.heap[k]?
theorem KOg.refl (A O : Nat → Prop) (n : Nat) (W : World) : KOg A O n W W := ⟨Nat.le_refl _, fun _ _ => rfl⟩
theorem KOg.trans {A O : Nat → Prop} {n : Nat} {X Y Z : World} (h : KOg A O n X Y) (k : KOg A O n Y Z) : KOg A O n X Z := ⟨Nat.le_trans h.1 k.1, fun j hj => (k.2 j hj).trans (h.2 j hj)⟩
def KXg (O : Nat → Prop) (m : Nat) (W W' : World) : Prop := m ≤ W'.heap.size ∧ ∀ k, O k → W'.heap[k]? = W.heap[k]?
def SeqOg {ι : Type} (P : Program) (g : FuncId) (lb : Array Value) (A : Nat → Prop) (i0 : ι) (stp : ι → Array Value → ι → Prop) (fin : ι → Prop) (K : World → Prop) (w : World) : Prop :=
 ∀ (l : Nat) (J Jx : (Nat → Prop) → ι → World → Prop), Goesg w.heap.size J → Goesg w.heap.size Jx → (∀ (O : Nat → Prop) i W, (∀ k, O k → w.heap.size ≤ k) → J O i W → K W) →
  (∀ (O : Nat → Prop) i x j W1, (∀ k, O k → w.heap.size ≤ k) → J O i W1 → stp i x j → YieldAt Fence.wide 0 P l x W1 fun e W' =>
   (e = .returned (.bool true) ∧ J O j W' ∧ KOg A O w.heap.size W1 W') ∨ (e = .returned (.bool false) ∧ Jx O j W' ∧ KXg O W1.heap.size W1 W')) →
  J (fun _ => False) i0 w →
  Calls P g (#[.func (.yield l) #[] #[]] ++ lb) w fun e W' => (∃ v, e = .returned v) ∧ ∃ O : Nat → Prop, (∀ k, O k → w.heap.size ≤ k) ∧ ((∃ i, fin i ∧ J O i W') ∨ ∃ i, Jx O i W')
def KBg (A O : Nat → Prop) (n m : Nat) (W W' : World) : Prop := m ≤ W'.heap.size ∧ ∀ k, (k < n ∧ ¬ A k) ∨ O k → W'.heap[k]? = W.heap[k]?
def roundOg (A O : Nat → Prop) (n m : Nat) (W : World) (I : World → Prop) (Ix : Code → World → Prop) : Exit → Act → World → Prop
 | .normal, _, W' => KBg A O n m W W' ∧ I W'
 | .ret, _, W' => KXg O m W W' ∧ Ix .ret W'
 | .exit id, _, W' => KXg O m W W' ∧ Ix (.exit id) W'
 | .goto t, _, W' => KXg O m W W' ∧ Ix (.goto t) W'
 | .panic _, _, _ => False
 | .outgrown, _, _ => False
section
variable {P : Program}
theorem wp_rangeOg {g : Operand} {ps : Array Tmp} {assign body : Code} {Q : Exit → Act → World → Prop} {a : Act} {w : World} {gf : Nat} {lb : Array Value}
  (hg : a.eval g = .func (.func gf) #[] lb) (eg : ∀ args w, (callFunc gf args).run P w = .ok (.enter gf args) w)
  {ι : Type} {i0 : ι} {stp : ι → Array Value → ι → Prop} {fin : ι → Prop} {K : World → Prop} {A : Nat → Prop} (hA : ∀ k, A k → k < w.heap.size) (hseq : ∀ r, SeqOg P gf lb A i0 stp fin K ((w.alloc (.deferred (some []))).alloc (.loop r))) (hps : ∀ i x j, stp i x j → x.size = ps.size)
  (I : (Nat → Prop) → ι → World → Prop) (Ix : Code → (Nat → Prop) → World → Prop) (hI : Goesg w.heap.size I) (hIx : ∀ c, Goesg w.heap.size (fun O (_ : ι) => Ix c O)) (hK : ∀ (O : Nat → Prop) i W, (∀ k, O k → w.heap.size ≤ k) → I O i W → K W) (h0 : I (fun _ => False) i0 w)
  (hround : ∀ (L : Nat) (O : Nat → Prop) i x j W, O L → (∀ k, O k → w.heap.size ≤ k) → I O i W → stp i x j →
   assign.wpIn (Fence.wide.inRound L) 0 P (Exit.then (fun a1 W1 => KOg A O w.heap.size W W1 ∧ ∀ r, body.wpIn (Fence.wide.inRound L) 0 P (roundOg A O w.heap.size W.heap.size (W1.putObj L (.loop r)) (I O j) (fun c => Ix c O)) a1 (W1.putObj L (.loop r))) (fun _ _ _ => False))
    { tmps := (ps.zip x).foldl (fun t (p, v) => t.setIfInBounds p v) a.tmps, defers := [] } W)
  (hdone : ∀ (O : Nat → Prop) i W, (∀ k, O k → w.heap.size ≤ k) → O w.heap.size → fin i → I O i W → W.heap[w.heap.size]? = some (.deferred (some [])) → Q .normal { a with defers := { target := .collected w.heap.size, args := #[] } :: a.defers } W)
  (hstop : ∀ (O : Nat → Prop) c W, (∀ k, O k → w.heap.size ≤ k) → O w.heap.size → Ix c O W → W.heap[w.heap.size]? = some (.deferred (some [])) → c.wpIn Fence.wide 0 P Q { a with defers := { target := .collected w.heap.size, args := #[] } :: a.defers } W) :
  (Code.rangeFunc g ps assign body).wpIn Fence.wide 0 P Q a w := by
 refine wpIn_rangeFunc ?_
 intro fn hfn
 obtain ⟨rec, hrec⟩ : ∃ rec : LoopState → Option Code → Loop, rec = fun st pe => { state := st, pending := pe, fn, tmps := a.tmps, params := ps, assign, body, defers := w.heap.size } := ⟨_, rfl⟩
 obtain ⟨D, hD⟩ : ∃ D, D = w.heap.size := ⟨_, rfl⟩
 obtain ⟨L, hL⟩ : ∃ L, L = w.heap.size + 1 := ⟨_, rfl⟩
 obtain ⟨W1, hW1⟩ : ∃ W1, (w.alloc (.deferred (some []))).alloc (.loop (rec .ready none)) = W1 := ⟨_, rfl⟩
 have hs1 : W1.heap.size = w.heap.size + 2 := by rw [← hW1]; simp
 have hL1 : W1.heap[L]? = some (.loop (rec .ready none)) := by
  rw [← hW1, hL]; have := World.alloc_heap_new (w.alloc (.deferred (some []))) (.loop (rec .ready none)); rwa [World.size_alloc] at this
 have hK1 : W1.heap[D]? = some (.deferred (some [])) := by
  rw [← hW1, hD]; exact (Below.heap_alloc _ _ _ (by simp)).trans (World.alloc_heap_new w _)
 have ht1 : TurnOg (fun _ => False) w W1 := by rw [← hW1]; exact (TurnOg.alloc _ _ _).trans (TurnOg.alloc (fun _ => False) _ _) (fun _ h => h.elim)
 obtain ⟨full, hfull⟩ : ∃ full : (Nat → Prop) → Nat → Prop, full = fun O k => O k ∨ k = D ∨ k = L := ⟨_, rfl⟩
 have hfD : ∀ O, full O D := fun O => by rw [hfull]; exact .inr (.inl rfl)
 have hfL : ∀ O, full O L := fun O => by rw [hfull]; exact .inr (.inr rfl)
 have hfO : ∀ O k, O k → full O k := fun O k h => by rw [hfull]; exact .inl h
 have hge : ∀ O : Nat → Prop, (∀ k, O k → W1.heap.size ≤ k) → ∀ k, full O k → w.heap.size ≤ k := fun O ho k hk => by
  rw [hfull] at hk
  rcases hk with h | h | h
  ·have := ho k h; omega
  ·omega
  ·omega
 have hI1 : I (full fun _ => False) i0 W1 := hI _ _ _ _ _ (fun _ h => h.elim) h0 ht1 (fun _ h => h.elim) (fun k hk => by
  rw [hfull] at hk
  rcases hk with h | h | h
  ·exact h.elim
  ·right; omega
  ·right; omega)
 refine ⟨L, [{ target := .collected w.heap.size, args := #[] }], W1, { target := .fn (.func gf) lb, args := #[.func (.yield L) #[] #[]] }, W1, gf,
  #[.func (.yield L) #[] #[]] ++ lb, W1, ?_, ?_, ?_, ?_, fun h => (by cases h), ?_⟩
 ·rw [← hW1, hrec, hL]; exact run_enterLoop_outer _ _ _ _ _
 ·simp only [resolve, hg]
  simp [go_sem]
 ·intro f' hf'; trivial
 ·simp [invoke, go_sem, eg]
 ·have hgoes : ∀ (I' : (Nat → Prop) → ι → World → Prop) (r : Loop), Goesg w.heap.size I' → Goesg W1.heap.size (fun O i W => I' (full O) i W ∧ W.heap[L]? = some (.loop r) ∧ W.heap[D]? = some (.deferred (some []))) := by
   intro I' r hI' O O' i X Y ho hs ht hsub hnew
   have hnD : ¬ O D := fun h => by have := ho D h; omega
   have hnL : ¬ O L := fun h => by have := ho L h; omega
   refine ⟨hI' (full O) (full O') i X Y (hge O ho) hs.1 (ht.mono (hfO O)) (fun k hk => ?_) (fun k hk => ?_), (ht.2.2.2.2 L (Array.getElem?_eq_some_iff.1 hs.2.1).1 hnL).trans hs.2.1, (ht.2.2.2.2 D (Array.getElem?_eq_some_iff.1 hs.2.2).1 hnD).trans hs.2.2⟩
   ·rw [hfull] at hk ⊢; exact hk.imp (hsub k) id
   ·rw [hfull] at hk ⊢
    rcases hk with h | h
    ·exact (hnew k h).imp .inl id
    ·exact .inl (.inr h)
  have hq := hseq (rec .ready none)
  rw [hW1] at hq
  refine callsIn_wide.2 ((hq L
   (fun O i W => I (full O) i W ∧ W.heap[L]? = some (.loop (rec .ready none)) ∧ W.heap[D]? = some (.deferred (some [])))
   (fun O i W => ∃ c, Ix c (full O) W ∧ W.heap[L]? = some (.loop (rec .done (some c))) ∧ W.heap[D]? = some (.deferred (some [])))
   (hgoes I _ hI)
   (by
    intro O O' i X Y ho hs ht hsub hnew
    obtain ⟨c, hc⟩ := hs
    exact ⟨c, hgoes (fun O (_ : ι) => Ix c O) _ (hIx c) O O' i X Y ho hc ht hsub hnew⟩)
   (fun O i W ho hj => hK (full O) i W (hge O ho) hj.1) ?_ ⟨hI1, hL1, hK1⟩).mono ?_)
  ·
   rintro O i x j W ho ⟨hi, hl, hk⟩ hx
   have hnD : ¬ O D := fun h => by have := ho D h; omega
   have hnL : ¬ O L := fun h => by have := ho L h; omega
   have hlt : L < W.heap.size := (Array.getElem?_eq_some_iff.1 hl).1
   have hy := run_yield (P := P) (args := x) hl (by rw [hrec]; exact hps i x j hx)
   rw [hrec] at hy
   refine ⟨fn, _, assign, body, hy, roundIn_of_wpIn hfn (wpIn_mono (hround L (full O) i x j W (hfL O) (hge O ho) hi hx) ?_)⟩
   clear hy
   rintro e a1 Wa hp
   cases e with
   | normal =>
    obtain ⟨hka, hbody⟩ := hp
    have hla : Wa.heap[L]? = some (.loop (rec .ready none)) := (hka.2 L (.inr (hfL O))).trans hl
    have hlta : L < Wa.heap.size := (Array.getElem?_eq_some_iff.1 hla).1
    refine ⟨_, run_beginRound hla (by rw [hrec]), ?_⟩
    obtain ⟨W2, hW2⟩ : ∃ W2, W2 = Wa.putObj L (.loop { rec .ready none with state := .busy }) := ⟨_, rfl⟩
    have hb := hbody { rec .ready none with state := .busy }
    rw [← hW2] at hb ⊢
    have hl2 : W2.heap[L]? = some (.loop { rec .ready none with state := .busy }) := by rw [hW2]; exact World.putObj_heap_same hlta
    have ho2 : ∀ k, k ≠ L → W2.heap[k]? = Wa.heap[k]? := fun k hk => by rw [hW2]; exact World.putObj_heap_other hk
    have hsz2 : W2.heap.size = Wa.heap.size := by rw [hW2]; simp
    have fin : ∀ (jump : Option Code) (W3 : World), KXg (full O) W.heap.size W2 W3 →
      (Instr.endRound L jump).run P W3 = .ok (.bool jump.isNone) (W3.putObj L (.loop (rec (if jump.isNone then .ready else .done) jump))) ∧
      (W3.putObj L (.loop (rec (if jump.isNone then .ready else .done) jump))).heap[L]? = some (.loop (rec (if jump.isNone then .ready else .done) jump)) ∧
      (W3.putObj L (.loop (rec (if jump.isNone then .ready else .done) jump))).heap[D]? = some (.deferred (some [])) ∧
      TurnOg (full O) W3 (W3.putObj L (.loop (rec (if jump.isNone then .ready else .done) jump))) := fun jump W3 hk3 => by
     have hl3 := (hk3.2 L (hfL O)).trans hl2
     have := run_endRound (P := P) jump hl3
     rw [hrec] at this ⊢
     refine ⟨this, World.putObj_heap_same (Array.getElem?_eq_some_iff.1 hl3).1, (World.putObj_heap_other (by omega)).trans ?_, TurnOg.put _ _ (hfL O)⟩
     exact (hk3.2 D (hfD O)).trans ((ho2 D (by omega)).trans ((hka.2 D (.inr (hfD O))).trans hk))
    have stay : ∀ (o : Obj) (W3 : World), KXg (full O) W.heap.size W2 W3 → KXg O W.heap.size W (W3.putObj L o) := fun o W3 hk3 => by
     refine ⟨by have := hk3.1; simp; omega, fun k hk' => ?_⟩
     have e : k ≠ L := by rintro rfl; exact hnL hk'
     rw [World.putObj_heap_other e]
     exact (hk3.2 k (hfO O k hk')).trans ((ho2 k e).trans (hka.2 k (.inr (hfO O k hk'))))
    have keep : ∀ {X Y : World} (I' : (Nat → Prop) → ι → World → Prop), Goesg w.heap.size I' → ∀ j, I' (full O) j X → TurnOg (full O) X Y → I' (full O) j Y := fun I' hI' j h ht => hI' _ _ _ _ _ (hge O ho) h ht (fun _ h => h) (fun _ h => .inl h)
    refine wpIn_mono hb ?_
    rintro e a3 W3 hp
    cases e with
    | normal =>
     obtain ⟨hk3, hi3⟩ := hp
     obtain ⟨hr, hl4, hk4, ht4⟩ := fin none W3 ⟨hk3.1, fun k h => hk3.2 k (.inr h)⟩
     refine ⟨_, _, hr, .inl ⟨rfl, ⟨keep I hI _ hi3 ht4, hl4, hk4⟩, by have := hk3.1; simp; omega, fun k hk' => ?_⟩⟩
     by_cases e : k = L
     ·subst e; exact hl4.trans hl.symm
     ·rw [World.putObj_heap_other e]
      have hk'' : (k < w.heap.size ∧ ¬ A k) ∨ full O k := by
       rcases hk' with ⟨h1, h2⟩ | h
       ·by_cases e2 : k = D
        ·subst e2; exact .inr (hfD O)
        ·exact .inl ⟨by omega, h2⟩
       ·exact .inr (hfO O k h)
      exact (hk3.2 k hk'').trans ((ho2 k e).trans (hka.2 k hk''))
    | ret =>
     obtain ⟨hk3, hi3⟩ := hp
     obtain ⟨hr, hl4, hk4, ht4⟩ := fin (some .ret) W3 hk3
     exact ⟨_, _, hr, .inr ⟨rfl, ⟨.ret, keep (fun O (_ : ι) => Ix .ret O) (hIx _) i hi3 ht4, hl4, hk4⟩, stay _ _ hk3⟩⟩
    | exit id =>
     obtain ⟨hk3, hi3⟩ := hp
     obtain ⟨hr, hl4, hk4, ht4⟩ := fin (some (.exit id)) W3 hk3
     exact ⟨_, _, hr, .inr ⟨rfl, ⟨.exit id, keep (fun O (_ : ι) => Ix (.exit id) O) (hIx _) i hi3 ht4, hl4, hk4⟩, stay _ _ hk3⟩⟩
    | goto t =>
     obtain ⟨hk3, hi3⟩ := hp
     obtain ⟨hr, hl4, hk4, ht4⟩ := fin (some (.goto t)) W3 hk3
     exact ⟨_, _, hr, .inr ⟨rfl, ⟨.goto t, keep (fun O (_ : ι) => Ix (.goto t) O) (hIx _) i hi3 ht4, hl4, hk4⟩, stay _ _ hk3⟩⟩
    | panic ch => exact hp.elim
    | outgrown => exact hp.elim
   | _ => exact hp.elim
  ·
   rintro e W2 ⟨⟨v, rfl⟩, O, ho, (⟨i, hfin, hi, hl, hk⟩ | ⟨i, c, hi, hl, hk⟩)⟩
   ·refine ⟨none, _, by have := run_endLoop (P := P) hl (by rw [hrec]; simp); rw [hrec] at this; exact this, hdone (full O) i _ (hge O ho) (by rw [← hD]; exact hfD O) hfin (hI _ _ _ _ _ (hge O ho) hi (TurnOg.put _ _ (hfL O)) (fun _ h => h) (fun _ h => .inl h)) (by rw [← hD]; exact (World.putObj_heap_other (by omega)).trans hk)⟩
   ·refine ⟨some c, _, by have := run_endLoop (P := P) hl (by rw [hrec]; simp); rw [hrec] at this; exact this, hstop (full O) c _ (hge O ho) (by rw [← hD]; exact hfD O) ((hIx c) _ _ i _ _ (hge O ho) hi (TurnOg.put _ _ (hfL O)) (fun _ h => h) (fun _ h => .inl h)) (by rw [← hD]; exact (World.putObj_heap_other (by omega)).trans hk)⟩
end
end Go.Proofs.YtcfidmdkioccdaaDoor
namespace Go.Proofs.YtcfidmdkioccdaaDoor
open Go.RowKit

section
variable {σ σ' : Store} {μ μ' : Nat → Value} {w w' w0 : World} {M O O' : Nat → Prop} {σ0 : Store} {μ0 : Nat → Value}
theorem run_enterOKg {P : Program} {f : FuncId} (h : CallOK P f) (args : Array Value) (w : World) : (callFunc f args).run P w = .ok (.enter f args) w := by
 obtain ⟨fn, h1, h2, h3⟩ := h
 have h2' : ¬ fn.name = "runtime.NumGoroutine" := by simpa using h2
 have h3' : fn.body ≠ none := by
  intro h; rw [h] at h3; cases h3
 simp [callFunc, h1, h2', h3']
theorem gro_turng (h : Gro σ0 μ0 w0 σ μ w) (ht : TurnOg O w w') (ho : ∀ k, O k → w0.heap.size ≤ k) : Gro σ0 μ0 w0 σ μ w' :=
 ⟨ht.1.trans h.os, ht.2.1.trans h.tape, ht.2.2.1.trans h.output, Nat.le_trans h.size ht.2.2.2.1, fun b hb hn => (ht.2.2.2.2 b (Nat.lt_of_lt_of_le hb h.size) (fun hc => by have := ho b hc; omega)).trans (h.same b hb hn), h.fresh, h.box, h.row, h.mp, h.dead⟩
theorem step_turng (hs : SRel σ μ w (fun b => M b ∨ O b)) (ht : TurnOg O w w') (hnew : ∀ k, O' k → O k ∨ (w.heap.size ≤ k ∧ k < w'.heap.size)) : Step σ μ w (av σ μ (fun b => M b ∨ O b)) σ μ w' (av σ μ (fun b => M b ∨ O' b)) := by
 refine ⟨fun b hb hl => ⟨ht.2.2.2.2 b hl (fun hc => hb (.inl (.inr hc))), fun hc => ?_⟩, ht.2.2.2.1, fun _ _ cs h => ⟨cs, h, rfl, rfl⟩, fun _ _ _ xs h => .inr ⟨xs, h, Nat.le_refl _, fun _ => rfl⟩, fun _ es h => ⟨es, h, rfl⟩, fun _ h => h⟩
 rcases hc with (hc | hc) | hc
 ·exact hb (.inl (.inl hc))
 ·rcases hnew b hc with h | h
  ·exact hb (.inl (.inr h))
  ·omega
 ·exact hb (.inr hc)
theorem srel_turng (hs : SRel σ μ w (fun b => M b ∨ O b)) (ht : TurnOg O w w') (hnew : ∀ k, O' k → O k ∨ (w.heap.size ≤ k ∧ k < w'.heap.size)) : SRel σ μ w' (fun b => M b ∨ O' b) := by
 have hst := step_turng hs ht hnew
 refine ⟨fun id o hf => ?_, hs.inj, fun b hb => ?_, fun id o b hf hb hc => ?_⟩
 ·have h1 := hs.obj id o hf
  cases o with
  | box t cs =>
   obtain ⟨g, us, h2, h3, h4⟩ := h1
   have hb : blk (μ id) = some g := by rw [h2]; rfl
   exact ⟨g, us, h2, (ht.2.2.2.2 g (ObjRel.lt hs hf hb) (fun hc => hs.dis id _ g hf hb (.inr hc))).trans h3, repC_mono hst h4⟩
  | row e size xs =>
   obtain ⟨us, h2, h3⟩ := h1
   refine ⟨us, ⟨h2.1, ?_⟩, repLL_mono hst.pure h3⟩
   rcases h2.2 with h4 | ⟨g, cap, cur, h4, h5, ⟨e', fz, h6, h8⟩, h7⟩
   ·exact .inl h4
   ·have hb : blk (μ id) = some g := by rw [h4]; rfl
    exact .inr ⟨g, cap, cur, h4, h5, ⟨e', fz, (ht.2.2.2.2 g (ObjRel.lt hs hf hb) (fun hc => hs.dis id _ g hf hb (.inr hc))).trans h6, h8⟩, h7⟩
  | dead => exact h1
  | mp es =>
   obtain ⟨g, v, ob, h2, hb2, h3, h4⟩ := h1
   have hb : blk (μ id) = some g := by rw [h2]; exact hb2
   exact ⟨g, v, ob, h2, hb2, (ht.2.2.2.2 g (ObjRel.lt hs hf hb) (fun hc => hs.dis id _ g hf hb (.inr hc))).trans h3, h4⟩
 ·rcases hb with hb | hb
  ·exact Nat.lt_of_lt_of_le (hs.lt b (.inl hb)) ht.2.2.2.1
  ·rcases hnew b hb with h | h
   ·exact Nat.lt_of_lt_of_le (hs.lt b (.inr h)) ht.2.2.2.1
   ·exact h.2
 ·rcases hc with hc | hc
  ·exact hs.dis id o b hf hb (.inl hc)
  ·rcases hnew b hc with h | h
   ·exact hs.dis id o b hf hb (.inr h)
   ·have := ObjRel.lt hs hf hb; omega
theorem srel_lessg {M' : Nat → Prop} (hs : SRel σ μ w M) (h : ∀ b, M' b → M b) : SRel σ μ w M' := by
 have hA : ∀ b, ¬ av σ μ M b → ¬ av σ μ M' b := fun b hb hc => hb (hc.imp (h b) id)
 have hst : Step σ μ w (av σ μ M) σ μ w (av σ μ M') := ⟨fun b hb _ => ⟨rfl, hA b hb⟩, Nat.le_refl _, fun _ _ cs h => ⟨cs, h, rfl, rfl⟩, fun _ _ _ xs h => .inr ⟨xs, h, Nat.le_refl _, fun _ => rfl⟩, fun _ es h => ⟨es, h, rfl⟩, fun _ h => h⟩
 refine ⟨fun id o hf => ?_, hs.inj, fun b hb => hs.lt b (h b hb), fun id o b hf hb hc => hs.dis id o b hf hb (h b hc)⟩
 have h1 := hs.obj id o hf
 cases o with
 | box t cs => obtain ⟨g, us, h2, h3, h4⟩ := h1; exact ⟨g, us, h2, h3, repC_mono hst h4⟩
 | row e size xs => obtain ⟨us, h2, h3⟩ := h1; exact ⟨us, h2, repLL_mono hst.pure h3⟩
 | mp es => exact h1
 | dead => exact h1
theorem goesIg {ι : Type} (hO : True) : Goesg w.heap.size (fun O (_ : ι) W => ∃ μ', SRel σ' μ' W (fun b => M b ∨ O b) ∧ Gro σ μ w σ' μ' W) := by
 rintro O O' i X Y ho ⟨μ', h1, h2⟩ ht hsub hnew
 exact ⟨μ', srel_turng h1 ht hnew, gro_turng h2 ht ho⟩
theorem step_goneg (h : Gro σ μ w σ' μ' w') (hO : ∀ b, O b → w.heap.size ≤ b) : Step σ μ w (av σ μ M) σ' μ' w' (av σ' μ' (fun b => M b ∨ O b)) := by
 have hst := h.step (M := M)
 refine ⟨fun b hb hl => ⟨(hst.same b hb hl).1, fun hc => ?_⟩, hst.size, hst.box, hst.row, hst.mp, hst.dead⟩
 rcases hc with (hc | hc) | hc
 ·exact hb (.inl hc)
 ·have := hO b hc; omega
 ·exact (hst.same b hb hl).2 (.inr hc)
end
def AThen1g (next : ASt → Prop) : Exit → ASt → Prop
 | .normal, s => next s
 | _, _ => False
def ROg (σ : Store) (regs : List (Nat × AV)) (ok1 : Prop) (S1 : Store) (Q : Exit → ASt → Prop) : Exit → ASt → Prop
 | .normal, s => ok1 ∧ Kept s.σ S1 S1
 | .ret, s => ∃ σ', Kept s.σ σ' σ' ∧ σ.all (fun p => has σ' p.1) = true ∧ Q .ret ⟨regs, σ'⟩
 | .exit id, s => ∃ σ', Kept s.σ σ' σ' ∧ σ.all (fun p => has σ' p.1) = true ∧ Q (.exit id) ⟨regs, σ'⟩
 | _, _ => False
def leftByg (Q : Exit → ASt → Prop) : Code → ASt → Prop
 | .ret => Q .ret
 | .exit id => Q (.exit id)
 | _ => fun _ => False
section
variable {P : Program} {Γ : Ctx} {Q : Exit → ASt → Prop} {s : ASt}
theorem has_allg {σ σ' : Store} (h : σ.all (fun p => has σ' p.1) = true) : ∀ id o, find σ id = some o → has σ' id = true := fun id o hf => List.all_eq_true.1 h _ (find_mem hf)
theorem a_rangeG {ι α : Type} {g : Operand} {p : Tmp} {assign body : Code} {gf : FuncId} {caps : List AV} {enc : α → Value} (cav : α → AV) (i0 : ι) (st : ι → α → ι → Prop) (fin : ι → Prop) (hrd : Γ.rd = none) (hok : CallOK P gf) (S : ι → Store) (ok : ι → Prop)
  (hit : ∀ (μ : Nat → Value) (w : World) (ks : List Value), SRel s.σ μ w Γ.M → repL s.σ μ w (av s.σ μ Γ.M) caps ks → ∃ K : World → Prop, (∀ r, SeqOg P gf ks.toArray (av s.σ μ Γ.M) i0 (fun i x j => ∃ e, x = #[enc e] ∧ st i e j) fin K ((w.alloc (.deferred (some []))).alloc (.loop r))) ∧
   ∀ (O : Nat → Prop) i W μ', ok i → SRel (S i) μ' W (fun b => Γ.M b ∨ O b) → Gro s.σ μ w (S i) μ' W → K W)
  (hg : ev s g = some (.clo (.func gf) [] caps))
  (hcav : ∀ x σ μ w A, rep σ μ w A (cav x) (enc x)) (hp : Nat.ble (p + 1) Γ.n = true) (hS0 : S i0 = s.σ) (hall : ∀ i, ok i → s.σ.all (fun p => has (S i) p.1) = true) (h0 : ok i0)
  (hround : ∀ i x j, st i x j → ok i → ∀ W M' μi L, AWP P ⟨W, M', S i, μi, Γ.n, L, W.heap.size⟩ assign (AThen1g fun s1 => ∀ W M' μi L d0, AWP P ⟨W, M', S i, μi, Γ.n, L, d0⟩ body (ROg s.σ s.regs (ok j) (S j) Q) s1) ⟨(p, cav x) :: s.regs, S i⟩)
  (hend : ∀ i, fin i → ok i → Q .normal ⟨s.regs, S i⟩) (hd0 : Γ.d0 ≤ Γ.w0.heap.size := by exact Nat.le_refl _) : AWP P Γ (.rangeFunc g #[p] assign body) Q s := by
 refine ⟨fun μ a w hr => ?_⟩
 have hF : Γ.F = Fence.wide := by unfold Ctx.F; rw [hrd]; rfl
 rw [hF]
 obtain ⟨fs, ks, hks, hfs, hcs⟩ := hr.calleeB hg
 simp only [repL] at hfs
 subst hfs
 have hAlt : ∀ k, av s.σ μ Γ.M k → k < w.heap.size := by
  intro b hb
  rcases hb with hb | ⟨id, o, h3, h4⟩
  ·exact hr.store.lt b hb
  ·exact ObjRel.lt hr.store h3 h4
 obtain ⟨K, hseq, hKK⟩ := hit μ w ks hr.store hcs
 refine wp_rangeOg (gf := gf) (lb := ks.toArray) (A := av s.σ μ Γ.M) (i0 := i0) (stp := fun i x j => ∃ e, x = #[enc e] ∧ st i e j) (fin := fin) (K := K) hks (run_enterOKg hok) hAlt (fun r => hseq r) (fun i x j hx => ?_)
  (fun O i W => ok i ∧ ∃ μ', SRel (S i) μ' W (fun b => Γ.M b ∨ O b) ∧ Gro s.σ μ w (S i) μ' W)
  (fun c O W => ∃ σ', leftByg Q c ⟨s.regs, σ'⟩ ∧ ∃ μ', SRel σ' μ' W (fun b => Γ.M b ∨ O b) ∧ Gro s.σ μ w σ' μ' W) ?_ ?_ ?_ ?_ ?_ ?_ ?_
 ·obtain ⟨e, rfl, _⟩ := hx; rfl
 ·rintro O O' i X Y ho ⟨h1, h2⟩ ht hsub hnew
  exact ⟨h1, goesIg trivial O O' i X Y ho h2 ht hsub hnew⟩
 ·rintro c O O' i X Y ho ⟨σ', h1, h2⟩ ht hsub hnew
  exact ⟨σ', h1, goesIg trivial O O' i X Y ho h2 ht hsub hnew⟩
 ·rintro O i W ho ⟨h1, μ', h2, h3⟩
  exact hKK O i W μ' h1 h2 h3
 ·exact ⟨h0, μ, by rw [hS0]; exact srel_lessg hr.store (fun b hb => hb.elim id False.elim), by rw [hS0]; exact Gro.refl⟩
 ·
  rintro L O i x j W hOL hO ⟨hoki, μi, hs, hgr⟩ hx
  obtain ⟨x0, rfl, hxi⟩ := hx
  ·clear hit
   have hold : ∀ k, (k < w.heap.size ∧ ¬ av s.σ μ Γ.M k) ∨ O k → k < W.heap.size ∧ ∀ id o, find (S i) id = some o → blk (μi id) ≠ some k := by
    rintro k (⟨h1, h2⟩ | h1)
    ·refine ⟨Nat.lt_of_lt_of_le h1 hgr.size, fun id o hf hb => ?_⟩
     obtain ⟨id0, o0, h3, h4⟩ := hgr.fresh id o k hf hb h1
     exact h2 (.inr ⟨id0, o0, h3, h4⟩)
    ·exact ⟨hs.lt k (.inr h1), fun id o hf hb => hs.dis id o k hf hb (.inr h1)⟩
   have hLW : L < W.heap.size := hs.lt L (.inr hOL)
   have hrel : Rel ⟨W, fun b => Γ.M b ∨ O b, S i, μi, Γ.n, some L, W.heap.size⟩ ⟨(p, cav x0) :: s.regs, S i⟩ μi { tmps := ((#[p] : Array Tmp).zip #[enc x0]).foldl (fun t (p, v) => t.setIfInBounds p v) a.tmps, defers := [] } W := by
    refine ⟨marks_nil, by simpa using hr.tmps, fun t y hy => ?_, hs, Gro.refl⟩
    have hplt : p < a.tmps.size := by rw [hr.tmps]; exact Nat.le_of_ble_eq_true hp
    simp only [find_cons] at hy
    split at hy
    ·rename_i e
     subst e; injection hy with hy; subst hy
     have : (((#[p] : Array Tmp).zip #[enc x0]).foldl (fun t (p, v) => t.setIfInBounds p v) a.tmps).getD p undef = enc x0 := by
      simp [Array.getD_eq_getD_getElem?, hplt]
     rw [this]
     exact hcav x0 _ _ _ _
    ·rename_i e
     have : (((#[p] : Array Tmp).zip #[enc x0]).foldl (fun t (p, v) => t.setIfInBounds p v) a.tmps).getD t undef = a.tmps.getD t undef := by
      simp [Array.getD_eq_getD_getElem?, Array.getElem?_setIfInBounds_ne e]
     rw [this]
     exact rep_mono (step_goneg hgr hO) (hr.regs t y hy)
   refine wpIn_mono ((hround i x0 j hxi hoki W (fun b => Γ.M b ∨ O b) μi (some L)).out μi _ W hrel) ?_
   rintro e a1 W1 ⟨s1, μ1, hr1, hq⟩
   cases e with
   | normal =>
    refine ⟨⟨hr1.gro.size, fun k hk => hr1.gro.same k (hold k hk).1 (hold k hk).2⟩, fun r => ?_⟩
    have ht1 : TurnOg O W1 (W1.putObj L (.loop r)) := TurnOg.put _ _ hOL
    have hsz : (W.putObj L (.loop r)).heap.size = W.heap.size := by simp
    have hgs := hr1.gro
    have hg2 : Gro (S i) μi (W.putObj L (.loop r)) s1.σ μ1 (W1.putObj L (.loop r)) := by
     refine ⟨hgs.os, hgs.tape, hgs.output, by simpa using hgs.size, fun b hb hn => ?_, fun id o b h1 h2 h3 => hgs.fresh id o b h1 h2 (by rw [hsz] at h3; exact h3), hgs.box, hgs.row, hgs.mp, hgs.dead⟩
     rw [hsz] at hb
     by_cases e : b = L
     ·subst e
      rw [World.putObj_heap_same hLW, World.putObj_heap_same (Nat.lt_of_lt_of_le hLW hgs.size)]
     ·rw [World.putObj_heap_other e, World.putObj_heap_other e]
      exact hgs.same b hb hn
    have hst1 : Step s1.σ μ1 W1 (av s1.σ μ1 (fun b => Γ.M b ∨ O b)) s1.σ μ1 (W1.putObj L (.loop r)) (av s1.σ μ1 (fun b => Γ.M b ∨ O b)) := step_turng hr1.store ht1 (fun k h => .inl h)
    have hm1 : Marks W.heap.size a1.defers (W1.putObj L (.loop r)) := by
     refine ⟨hr1.defers.1, fun d hd => ?_⟩
     obtain ⟨D, h1, h2, h3⟩ := hr1.defers.2 d hd
     refine ⟨D, h1, h2, (World.putObj_heap_other ?_).trans h3⟩
     have h2 : W.heap.size ≤ D := h2
     omega
    have hrel2 : Rel ⟨W.putObj L (.loop r), fun b => Γ.M b ∨ O b, S i, μi, Γ.n, some L, W.heap.size⟩ s1 μ1 a1 (W1.putObj L (.loop r)) :=
     ⟨hm1, hr1.tmps, fun t y hy => rep_mono hst1 (hr1.regs t y hy), srel_turng hr1.store ht1 (fun k h => .inl h), hg2⟩
    refine wpIn_mono ((hq (W.putObj L (.loop r)) (fun b => Γ.M b ∨ O b) μi (some L) W.heap.size).out μ1 _ _ hrel2) ?_
    rintro e a3 W3 ⟨s3, μ3, hr3, hq3⟩
    have hko : KBg (av s.σ μ Γ.M) O w.heap.size W.heap.size (W1.putObj L (.loop r)) W3 := by
     refine ⟨by have : (W.putObj L (.loop r)).heap.size ≤ W3.heap.size := hr3.gro.size
                omega, fun k hk => ?_⟩
     ·obtain ⟨h1, h2⟩ := hold k hk
      exact (hr3.gro.same k (by show k < (W.putObj L (.loop r)).heap.size; rw [hsz]; exact h1) h2).trans (hg2.same k (by rw [hsz]; exact h1) h2).symm
    have hgw : Gro s.σ μ w s3.σ μ3 W3 := (gro_turng hgr (TurnOg.put W (.loop r) hOL) hO).trans hr3.gro
    cases e with
    | normal =>
     obtain ⟨h1, h2⟩ := hq3
     exact ⟨hko, h1, μ3, h2.srel hr3.store, h2.gro hgw (has_allg (hall _ h1))⟩
    | ret =>
     obtain ⟨σ', h1, h2, h3⟩ := hq3
     exact ⟨⟨hko.1, fun k h => hko.2 k (.inr h)⟩, σ', h3, μ3, h1.srel hr3.store, h1.gro hgw (has_allg h2)⟩
    | exit id =>
     obtain ⟨σ', h1, h2, h3⟩ := hq3
     exact ⟨⟨hko.1, fun k h => hko.2 k (.inr h)⟩, σ', h3, μ3, h1.srel hr3.store, h1.gro hgw (has_allg h2)⟩
    | _ => exact hq3.elim
   | _ => exact hq.elim
 all_goals
  have key : ∀ (O : Nat → Prop) W σ', (∀ k, O k → w.heap.size ≤ k) → (∃ μ', SRel σ' μ' W (fun b => Γ.M b ∨ O b) ∧ Gro s.σ μ w σ' μ' W) → W.heap[w.heap.size]? = some (.deferred (some [])) → ∃ μ', Rel Γ ⟨s.regs, σ'⟩ μ' { a with defers := { target := .collected w.heap.size, args := #[] } :: a.defers } W := by
   rintro O W σ' hO ⟨μ', h1, h2⟩ hD
   have hm := marks_gro hr.store h2 hr.defers
   refine ⟨μ', ⟨List.nodup_cons.2 ⟨fun hc => ?_, hm.1⟩, fun d hd => ?_⟩, hr.tmps, fun t y hy => rep_mono h2.step (hr.regs t y hy), srel_lessg h1 (fun b hb => .inl hb), hr.gro.trans h2⟩
   ·obtain ⟨D', h3, h4, h5⟩ := hr.defers.2 _ hc
    injection h3 with h3 _; injection h3 with h3; subst h3
    have := (Array.getElem?_eq_some_iff.1 h5).1
    omega
   ·rcases List.mem_cons.1 hd with rfl | hd
    ·exact ⟨_, rfl, Nat.le_trans hd0 hr.gro.size, hD⟩
    ·exact hm.2 d hd
 ·rintro O i W hO _ hfin ⟨h1, h2⟩ hD
  obtain ⟨μ', h3⟩ := key O W _ hO h2 hD
  exact ⟨_, μ', h3, hend i hfin h1⟩
 ·rintro O c W hO _ ⟨σ', h1, h2⟩ hD
  obtain ⟨μ', h3⟩ := key O W _ hO h2 hD
  cases c <;> first | exact h1.elim | exact wpIn_ret ⟨_, μ', h3, h1⟩ | exact wpIn_exit ⟨_, μ', h3, h1⟩
end
end Go.Proofs.YtcfidmdkioccdaaDoor
namespace Go.Proofs.YtcfidmdkioccdaaDoor
open Go.RowKit
def tab : List TyI := [.none,
 .func,
 .int .i64,
 .int .i64,
 .bool,
 .int .u8,
 .int .u8,
 .struct 4 [(0, 2), (1, 3), (2, 4), (3, 6)],
 .struct 4 [(0, 2), (1, 3), (2, 4), (3, 6)],
 .string,
 .string,
 .string,
 .int .u64,
 .struct 2 [(0, 9), (1, 12)],
 .struct 2 [(0, 9), (1, 12)],
 .pointer,
 .pointer,
 .pointer,
 .struct 1 [(0, 17)],
 .struct 1 [(0, 17)],
 .none,
 .int .i32,
 .slice 3 1 8,
 .int .i64,
 .none,
 .func,
 .func,
 .func,
 .func,
 .func,
 .func,
 .func,
 .func,
 .slice 36 3 24,
 .func,
 .struct 3 [(0, 3), (1, 3), (2, 3)],
 .struct 3 [(0, 3), (1, 3), (2, 3)],
 .func,
 .map,
 .slice 46 1 4,
 .struct 2 [(0, 38), (1, 39)],
 .struct 2 [(0, 38), (1, 39)],
 .func,
 .func,
 .func,
 .int .u64,
 .int .u32,
 .func,
 .func,
 .none,
 .func,
 .func,
 .func,
 .func,
 .func,
 .func,
 .func,
 .func,
 .int .u64,
 .func,
 .func,
 .func,
 .int .i64,
 .none,
 .func,
 .func,
 .func,
 .func,
 .func,
 .func,
 .none,
 .func,
 .slice 5 1 1,
 .none,
 .func,
 .int .u64,
 .func,
 .func,
 .func,
 .pointer,
 .func,
 .func,
 .none,
 .none,
 .func,
 .pointer,
 .none,
 .func,
 .none,
 .none,
 .func,
 .struct 4 [(0, 17), (1, 17), (2, 17), (3, 9)],
 .struct 4 [(0, 17), (1, 17), (2, 17), (3, 9)],
 .none,
 .none,
 .none,
 .func,
 .int .u8,
 .int .u8,
 .func,
 .pointer,
 .int .i32,
 .int .i32,
 .struct 11 [(0, 12), (1, 12), (2, 46), (3, 97), (4, 5), (5, 5), (6, 98), (7, 99), (8, 100), (9, 101), (10, 102)],
 .struct 11 [(0, 12), (1, 12), (2, 46), (3, 97), (4, 5), (5, 5), (6, 98), (7, 99), (8, 100), (9, 101), (10, 102)],
 .none]
theorem tab_ok : okTab Tryd.prog tab = true := by kernel_rfl
theorem tab_zero : okZero Tryd.prog tab = true := by kernel_rfl
theorem mixed : (Tryd.prog).follows .mixedOrders = true := by kernel_rfl
end Go.Proofs.YtcfidmdkioccdaaDoor
namespace Go.Proofs.YtcfidmdkioccdaaDoor
open Go.RowKit
theorem hbs : (∀ (p : Prop) [Decidable p], decide p = true ↔ p) ∧ (∀ (p : Prop) [Decidable p], decide p = false ↔ ¬ p) ∧ (∀ b : Bool, (!b) = true ↔ b = false) ∧ (∀ b : Bool, (!b) = false ↔ b = true) ∧ (∀ b : Bool, ¬ b = true ↔ b = false) ∧ (∀ b : Bool, ¬ b = false ↔ b = true) ∧ (∀ (p : Prop) [Decidable p], ¬ ¬ p ↔ p) :=
 ⟨fun p _ => decide_eq_true_iff, fun p _ => decide_eq_false_iff_not, fun b => by cases b <;> simp, fun b => by cases b <;> simp, fun b => by cases b <;> simp, fun b => by cases b <;> simp, fun p _ => Decidable.not_not⟩
theorem wkS {Γ : Ctx} {s t : ASt} (h : Weak Γ s t := by first | (refine ⟨by repeat' (first | exact trivial | exact FinA.one (FinB.cell (FinC.same rfl)) | exact FinA.one (FinB.cell FinC.nil) | exact FinA.bound rfl | exact FinA.one (FinB.cell (FinC.own rfl rfl rfl rfl)) | exact FinA.one (FinB.cell (FinC.v (by first | rfl | (simp)))) | exact FinA.one (FinB.cell (FinC.ow rfl (by first | rfl | (simp)))) | exact FinA.one (FinB.agg' rfl rfl) | refine ⟨⟨_, rfl, ?_⟩, ?_⟩), by repeat' (first | exact trivial | refine ⟨⟨_, rfl, by first | rfl | (simp; done) | (simp [renO, *]; done)⟩, by first | rfl | assumption, ?_⟩), rfl⟩; done) | fail) : Weak Γ s t := h
theorem fnq {σ σ' : Store} {v u : AV} (h : FinA σ σ' v u := by first | (((first | refine FinA.tup ?_ | refine FinA.one ?_); repeat' (first | exact FinBs.nil | exact FinCs.nil | refine FinBs.cons ?_ ?_ | refine FinCs.cons ?_ ?_ | refine FinB.cell (FinC.v ?_) | refine FinB.cell (FinC.own rfl rfl rfl ?_) | exact FinB.cell FinC.nil | refine FinB.cell (FinC.sl ?_) | exact FinB.agg' rfl rfl | exact FinB.cell (FinC.same rfl) | refine FinB.agg ?_ | refine FinC.v ?_ | refine FinC.own rfl rfl rfl ?_ | exact FinC.nil | refine FinC.sl ?_ | exact FinC.same rfl); all_goals try rfl); done) | fail) : FinA σ σ' v u := h
theorem rq {T : List TyI} {res : List ResultVar} {r : AV} {σ' : Store} {e : Exit} {s : ASt} {vs : List AV} (h2 : resL T s res = some vs) (h3 : FinA s.σ σ' (single vs) r) (h1 : e = .normal ∨ e = .ret := by first | exact .inr rfl | exact .inl rfl | fail) (h4 : Kept s.σ σ' σ' := by repeat' (first | exact trivial | refine ⟨⟨_, rfl, by first | rfl | (simp [renO, *]; done)⟩, by first | rfl | assumption, ?_⟩ | fail)) : RetQ T res r σ' e s := ⟨h1, vs, h2, h3, h4⟩
def Tag (l : List Nat) (b : Nat) : Prop := l = l ∧ b = b
theorem Tag.mk (l : List Nat) (b : Nat) : Tag l b := ⟨rfl, rfl⟩
section
variable {P : Program} {Γ : Ctx} {s : ASt} {dst : Option Tmp} {ty : TypeId} {pos : String} {after : Array Edge}
theorem ls_callAt {f : FuncId} {args : Array Operand} {argTypes : Array TypeId} {c : Operand} {vs us caps : List AV} {r : AV} {σc σc' : Store} {l : List Nat} {b : Nat} (t : Tag l b) (h : AC P f us σc r σc') (hc : ev s c = some (.clo (.func f) [] caps)) (hargs : evL s args.toList = some vs) (hn : NilL (vs ++ caps) (us.map (renB (rho l b)))) (hcl : us.all (closB σc) = true)
  (hpass : Pass (rho l b) s σc) (hco : σc.all (fun p => closO σc p.2) = true) (hinj : injB (rho l b) (σc.map Prod.fst) = true) (hinj' : injB (rho l b) (σc'.map Prod.fst) = true)
  (hnew : σc'.all (fun p => has σc p.1 || !has s.σ (rho l b p.1)) = true) (hcr : closA σc' r = true) (hco' : σc'.all (fun p => closO σc' p.2) = true) (hd : okDst Γ.n dst = true) :
  LS P Γ ⟨dst, .call { callee := .value c, args := args, argTypes := argTypes }, ty, pos, after, none⟩ s (rd c (rdL args.toList (objs (rho l b) σc ++ (objs (rho l b) σc' ++ [])))) (dst1 dst (renA (rho l b) r)) (σc'.map fun p => (rho l b p.1, renO (rho l b) p.2)) :=
 ls_callA l b h hc hargs hn hcl hpass hco hinj hinj' hnew hcr hco' hd
theorem lca {f : FuncId} {us : List AV} {r : AV} {σc σc' : Store} {i : Oper} {R : List Loc} {D : List (Nat × AV)} {M : List (Nat × SObj)} (l : List Nat) (b : Nat) (h : AC P f us σc r σc') (H : Tag l b → AC P f us σc r σc' → LS P Γ i s R D M := by
 first | (intro t h; exact ls_callAt t h rfl rfl (by (repeat' (first | exact NilL.nil | refine NilL.cons Nil.same ?_ | refine NilL.cons Nil.nil ?_ | refine NilL.cons (Nil.agg ?_) ?_ | exact Nil1s.nil | refine Nil1s.cons Nil1.same ?_ | refine Nil1s.cons Nil1.nil ?_)); first | done | fail) rfl (by (repeat' (first | exact trivial | refine ⟨⟨_, rfl, by first | rfl | (simp [renO, *]; done) | fail⟩, ?_⟩)); first | done | fail) (by first | rfl | (simp [closO, *]; done) | fail) rfl rfl rfl rfl (by first | rfl | (simp [closO, *]; done) | fail) rfl) | fail) : LS P Γ i s R D M := H (Tag.mk l b) h
end
end Go.Proofs.YtcfidmdkioccdaaDoor
namespace Go.Proofs.YtcfidmdkioccdaaDoor
open Go.RowKit
theorem lsq {Γ : Ctx} {i : Oper} {s : ASt} {R : List Loc} {D : List (Nat × AV)} {M : List (Nat × SObj)} (h : LS Tryd.prog Γ i s R D M := by
 first
 | exact ls_move rfl rfl
 | exact ls_assign rfl rfl
 | exact ls_load_ref tab_ok rfl rfl rfl rfl rfl rfl
 | exact ls_load_el tab_ok rfl rfl rfl rfl
 | exact ls_fieldAddr_ref tab_ok rfl rfl rfl rfl rfl rfl
 | exact ls_fieldAddr_el tab_ok rfl rfl rfl rfl rfl
 | exact ls_extract rfl rfl rfl
 | exact ls_pickT rfl rfl rfl
 | exact ls_pickF rfl rfl rfl
 | exact ls_add64 rfl rfl (by omega) rfl
 | exact ls_sub64 rfl rfl (by omega) rfl
 | exact ls_lss rfl rfl rfl
 | exact ls_leq rfl rfl rfl
 | exact ls_gtr rfl rfl rfl
 | exact ls_geq rfl rfl rfl
 | exact ls_eql rfl rfl rfl
 | exact ls_neq rfl rfl rfl
 | exact ls_seq rfl rfl rfl
 | exact ls_sne rfl rfl rfl
 | exact ls_slt rfl rfl rfl
 | exact ls_sgt rfl rfl rfl
 | exact ls_sle rfl rfl rfl
 | exact ls_sge rfl rfl rfl
 | exact ls_cat rfl rfl (by omega) rfl
 | exact ls_beq tab_ok rfl rfl rfl rfl
 | exact ls_bne tab_ok rfl rfl rfl rfl
 | exact ls_not rfl rfl
 | exact ls_len_str tab_ok rfl rfl rfl
 | exact ls_len_sl tab_ok rfl rfl rfl
 | exact ls_len_own tab_ok rfl rfl rfl rfl rfl
 | exact ls_len_nil tab_ok rfl rfl rfl
 | exact ls_field tab_ok rfl rfl rfl rfl rfl rfl rfl
 | exact ls_build tab_ok tab_zero rfl rfl rfl rfl rfl rfl
 | exact ls_build0 (k := 0) tab_ok rfl rfl rfl rfl | exact ls_build0 (k := 1) tab_ok rfl rfl rfl rfl | exact ls_build0 (k := 2) tab_ok rfl rfl rfl rfl | exact ls_build0 (k := 3) tab_ok rfl rfl rfl rfl | exact ls_build0 (k := 4) tab_ok rfl rfl rfl rfl | exact ls_build0 (k := 5) tab_ok rfl rfl rfl rfl | exact ls_build0 (k := 6) tab_ok rfl rfl rfl rfl | exact ls_build0 (k := 7) tab_ok rfl rfl rfl rfl | exact ls_build0 (k := 8) tab_ok rfl rfl rfl rfl | exact ls_build0 (k := 9) tab_ok rfl rfl rfl rfl | exact ls_build0 (k := 10) tab_ok rfl rfl rfl rfl | exact ls_build0 (k := 11) tab_ok rfl rfl rfl rfl
 | exact ls_buildS tab_ok rfl rfl rfl rfl rfl rfl
 | exact ls_store_ref tab_ok rfl rfl rfl rfl rfl rfl rfl rfl rfl
 | exact ls_add rfl rfl rfl
 | exact ls_sub rfl rfl rfl
 | exact ls_mul rfl rfl rfl
 | exact ls_neg rfl rfl
 | exact ls_func rfl rfl rfl
 | exact ls_min rfl rfl rfl
 | exact ls_max rfl rfl rfl
 | exact ls_box (k := 0) rfl rfl rfl rfl | exact ls_box (k := 1) rfl rfl rfl rfl | exact ls_box (k := 2) rfl rfl rfl rfl | exact ls_box (k := 3) rfl rfl rfl rfl | exact ls_box (k := 4) rfl rfl rfl rfl | exact ls_box (k := 5) rfl rfl rfl rfl | exact ls_box (k := 6) rfl rfl rfl rfl | exact ls_box (k := 7) rfl rfl rfl rfl | exact ls_box (k := 8) rfl rfl rfl rfl | exact ls_box (k := 9) rfl rfl rfl rfl | exact ls_box (k := 10) rfl rfl rfl rfl | exact ls_box (k := 11) rfl rfl rfl rfl | exact ls_alloc (k := 0) tab_zero rfl rfl rfl rfl | exact ls_alloc (k := 1) tab_zero rfl rfl rfl rfl | exact ls_alloc (k := 2) tab_zero rfl rfl rfl rfl | exact ls_alloc (k := 3) tab_zero rfl rfl rfl rfl | exact ls_alloc (k := 4) tab_zero rfl rfl rfl rfl | exact ls_alloc (k := 5) tab_zero rfl rfl rfl rfl | exact ls_alloc (k := 6) tab_zero rfl rfl rfl rfl | exact ls_alloc (k := 7) tab_zero rfl rfl rfl rfl | exact ls_alloc (k := 8) tab_zero rfl rfl rfl rfl | exact ls_alloc (k := 9) tab_zero rfl rfl rfl rfl | exact ls_alloc (k := 10) tab_zero rfl rfl rfl rfl | exact ls_alloc (k := 11) tab_zero rfl rfl rfl rfl | exact ls_indexAddr_sl tab_ok rfl rfl rfl rfl (by assumption) rfl | focus (apply ls_append tab_ok rfl rfl ?hn rfl ?hsrc rfl ?hlen rfl rfl; (case hn => rfl); (case hsrc => first | exact SrcIs.sl | exact SrcIs.nil | exact SrcIs.own rfl rfl | fail); (case hlen => (try simp only [List.length_cons, List.length_nil]); omega); first | done | fail) | fail) : LS Tryd.prog Γ i s R D M := h
theorem lsc {f : FuncId} {us : List AV} {r : AV} {Γ : Ctx} {i : Oper} {s : ASt} {R : List Loc} {D : List (Nat × AV)} {M : List (Nat × SObj)} (h : PC Tryd.prog f us r) (H : PC Tryd.prog f us r → LS Tryd.prog Γ i s R D M := by
 first | (intro h; apply ls_call h rfl rfl _ rfl rfl; (repeat' (first | exact NilL.nil | refine NilL.cons Nil.same ?_ | refine NilL.cons Nil.nil ?_ | refine NilL.cons (Nil.agg ?_) ?_ | exact Nil1s.nil | refine Nil1s.cons Nil1.same ?_ | refine Nil1s.cons Nil1.nil ?_)); first | done | fail) | fail) : LS Tryd.prog Γ i s R D M := H h
theorem lcs {f : FuncId} {us : List AV} {r : AV} {Γ : Ctx} {i : Oper} {s : ASt} {R : List Loc} {D : List (Nat × AV)} {M : List (Nat × SObj)} (h : PC Tryd.prog f us r) (H : PC Tryd.prog f us r → LS Tryd.prog Γ i s R D M := by
 first | (intro h; apply ls_callR h rfl rfl _ rfl rfl rfl; (repeat' (first | exact AsL.nil | refine AsL.own rfl rfl ?_ | refine AsL.vnil ?_ | refine AsL.same ?_)); first | done | fail) | fail) : LS Tryd.prog Γ i s R D M := H h
section
variable {Γ : Ctx} {Q : Exit → ASt → Prop} {s : ASt} {A B : Prop}
theorem wq2 {b : Bool} {G : Prop} (k : b = true → A) (l : b = false → B) (h : (b = true → A) → (b = false → B) → G := by
 intro k l
 first
 | exact o_split_t rfl rfl rfl k l
 | exact o_split_f rfl rfl rfl k l
 | exact a_cond rfl k l
 | exact d_split rfl rfl k l
 | fail) : G := h k l
end
end Go.Proofs.YtcfidmdkioccdaaDoor
namespace Go.Proofs.YtcfidmdkioccdaaDoor
open Go.RowKit
section
variable {P : Program} {T : List TyI} {Γ : Ctx} {s : ASt} {dst : Option Tmp} {ty : TypeId} {pos : String} {after : Array Edge}
theorem ls_shrB {xt yt : TypeId} {x y : Operand} {k yk : IntKind} {a b r : Int} (hr : a.fdiv (2 ^ min b.toNat k.bits) = r) (hx : ev s x = some (.v (.int k a))) (hy : ev s y = some (.v (.int yk b))) (hb : 0 ≤ b) (hd : okDst Γ.n dst = true) : LS P Γ ⟨dst, .binOp .shr xt x y yt, ty, pos, after, none⟩ s (rd x (rd y [])) (dst1 dst (.v (.int k r))) [] :=
 ls_bin hx hy (fun w => by
  have h : ¬ b < 0 := by omega
  simp [eqGuard, binOp, Op.shift, h, hr]) rfl hd
theorem ls_andB {xt yt : TypeId} {x y : Operand} {k : IntKind} {a b r : Int} (hr : k.wrap (BitVec.ofInt k.bits a &&& BitVec.ofInt k.bits b).toNat = r) (hx : ev s x = some (.v (.int k a))) (hy : ev s y = some (.v (.int k b))) (hd : okDst Γ.n dst = true) : LS P Γ ⟨dst, .binOp .and xt x y yt, ty, pos, after, none⟩ s (rd x (rd y [])) (dst1 dst (.v (.int k r))) [] :=
 ls_bin hx hy (fun w => by
  subst hr
  simp [eqGuard, binOp, Op.intBits]) rfl hd
theorem ls_convC (hT : okTab P T = true) {x : Operand} {a b : Nat} {i : Int} {k q : IntKind} (hx : ev s x = some (.v (.int k i))) (ha : P.underlying a = some (.int k)) (hb : P.underlying b = some (.int q)) (hd : okDst Γ.n dst = true) :
  LS P Γ ⟨dst, .convert a b x, ty, pos, after, none⟩ s (rd x []) (dst1 dst (.v (.int q (q.wrap i)))) [] :=
 ls_pure hd fun t' ht μ ac w hr => by
  obtain ⟨e1, ht⟩ := ht.ev hx
  have e1 := hr.ev e1
  simp only [rep] at e1 ⊢
  refine ⟨.int q (q.wrap i), ?_, rfl, rfl⟩
  simp [execOp, e1.1, Go.convert, run_underlying ha, run_underlying hb, Conv.intToInt]
theorem ls_convB (hT : okTab P T = true) {x : Operand} {a b : Nat} {i r : Int} {k q : IntKind} (hr : q.wrap i = r) (hx : ev s x = some (.v (.int k i))) (ha : P.underlying a = some (.int k)) (hb : P.underlying b = some (.int q)) (hd : okDst Γ.n dst = true) :
  LS P Γ ⟨dst, .convert a b x, ty, pos, after, none⟩ s (rd x []) (dst1 dst (.v (.int q r))) [] := by subst hr; exact ls_convC hT hx ha hb hd
end
section
open Go.Shelf Go.Proofs
def layI_ren : Go.Shelf.Ren := ⟨fun | 171 => 19 | 243 => 24 | 246 => 30 | 283 => 42 | 284 => 43 | 285 => 44 | 286 => 45 | 129 => 40 | 317 => 51 | 318 => 52 | 319 => 53 | 320 => 54 | 337 => 56 | 338 => 57 | n => n, fun | 3 => 3 | 9 => 9 | 2 => 2 | 4 => 4 | 171 => 70 | 0 => 0 | 53 => 45 | 37 => 72 | 5 => 5 | 173 => 73 | 212 => 82 | 51 => 46 | 20 => 20 | 213 => 83 | 46 => 58 | 232 => 88 | 233 => 89 | n => n, fun | 17 => 0 | 18 => 1 | 19 => 2 | n => n⟩
theorem layI : Go.Proofs.Lays.n171 Tryd.prog layI_ren := {
 mixed := by kernel_rfl
 f129 := Tryd.func40.trans (congrArg some (by kernel_rfl))
 f171 := Tryd.func19.trans (congrArg some (by kernel_rfl))
 f243 := Tryd.func24.trans (congrArg some (by kernel_rfl))
 f246 := Tryd.func30.trans (congrArg some (by kernel_rfl))
 f283 := Tryd.func42.trans (congrArg some (by kernel_rfl))
 f284 := Tryd.func43.trans (congrArg some (by kernel_rfl))
 f285 := Tryd.func44.trans (congrArg some (by kernel_rfl))
 f286 := Tryd.func45.trans (congrArg some (by kernel_rfl))
 f317 := Tryd.func51.trans (congrArg some (by kernel_rfl))
 f318 := Tryd.func52.trans (congrArg some (by kernel_rfl))
 f319 := Tryd.func53.trans (congrArg some (by kernel_rfl))
 f320 := Tryd.func54.trans (congrArg some (by kernel_rfl))
 f337 := Tryd.func56.trans (congrArg some (by kernel_rfl))
 f338 := Tryd.func57.trans (congrArg some (by kernel_rfl))
 t0 := Tryd.underlying0
 a0 := Tryd.isAgg0
 z0 := Tryd.sizeOf0
 v0 := Tryd.zeroValue0
 t2 := Tryd.underlying2
 a2 := Tryd.isAgg2
 z2 := Tryd.sizeOf2
 v2 := Tryd.zeroValue2
 t3 := Tryd.underlying3
 a3 := Tryd.isAgg3
 z3 := Tryd.sizeOf3
 v3 := Tryd.zeroValue3
 t4 := Tryd.underlying4
 a4 := Tryd.isAgg4
 z4 := Tryd.sizeOf4
 v4 := Tryd.zeroValue4
 t5 := Tryd.underlying5
 a5 := Tryd.isAgg5
 z5 := Tryd.sizeOf5
 v5 := Tryd.zeroValue5
 t9 := Tryd.underlying9
 a9 := Tryd.isAgg9
 z9 := Tryd.sizeOf9
 v9 := Tryd.zeroValue9
 t20 := Tryd.underlying20
 a20 := Tryd.isAgg20
 z20 := Tryd.sizeOf20
 v20 := Tryd.zeroValue20
 t37 := Tryd.underlying72
 a37 := Tryd.isAgg72
 z37 := Tryd.sizeOf72
 v37 := Tryd.zeroValue72
 t46 := Tryd.underlying58
 a46 := Tryd.isAgg58
 z46 := Tryd.sizeOf58
 v46 := Tryd.zeroValue58
 t51 := Tryd.underlying46
 a51 := Tryd.isAgg46
 z51 := Tryd.sizeOf46
 v51 := Tryd.zeroValue46
 t53 := Tryd.underlying45
 a53 := Tryd.isAgg45
 z53 := Tryd.sizeOf45
 v53 := Tryd.zeroValue45
 t171 := Tryd.underlying70
 a171 := Tryd.isAgg70
 z171 := Tryd.sizeOf70
 v171 := Tryd.zeroValue70
 t173 := Tryd.underlying73
 a173 := Tryd.isAgg73
 z173 := Tryd.sizeOf73
 v173 := Tryd.zeroValue73
 t212 := Tryd.underlying82
 a212 := Tryd.isAgg82
 z212 := Tryd.sizeOf82
 v212 := Tryd.zeroValue82
 t213 := Tryd.underlying83
 a213 := Tryd.isAgg83
 z213 := Tryd.sizeOf83
 t232 := Tryd.underlying88
 a232 := Tryd.isAgg88
 z232 := Tryd.sizeOf88
 v232 := Tryd.zeroValue88
 t233 := Tryd.underlying89
 a233 := Tryd.isAgg89
 z233 := Tryd.sizeOf89
 v233 := Tryd.zeroValue89
 g17 := by kernel_rfl
 g18 := by kernel_rfl
 g19 := by kernel_rfl }


def layB_ren : Go.Shelf.Ren := ⟨fun | 125 => 27 | 128 => 39 | 129 => 40 | n => n, fun | 46 => 58 | 3 => 3 | 51 => 46 | 53 => 45 | 4 => 4 | 5 => 5 | 9 => 9 | n => n, fun | n => n⟩
theorem layB : Go.Proofs.Lays.n125 Tryd.prog layB_ren := {
 mixed := by kernel_rfl
 f125 := Tryd.func27.trans (congrArg some (by kernel_rfl))
 f128 := Tryd.func39.trans (congrArg some (by kernel_rfl))
 f129 := Tryd.func40.trans (congrArg some (by kernel_rfl))
 t3 := Tryd.underlying3
 a3 := Tryd.isAgg3
 z3 := Tryd.sizeOf3
 v3 := Tryd.zeroValue3
 t4 := Tryd.underlying4
 a4 := Tryd.isAgg4
 z4 := Tryd.sizeOf4
 v4 := Tryd.zeroValue4
 t5 := Tryd.underlying5
 a5 := Tryd.isAgg5
 z5 := Tryd.sizeOf5
 v5 := Tryd.zeroValue5
 t9 := Tryd.underlying9
 a9 := Tryd.isAgg9
 z9 := Tryd.sizeOf9
 v9 := Tryd.zeroValue9
 t46 := Tryd.underlying58
 a46 := Tryd.isAgg58
 z46 := Tryd.sizeOf58
 v46 := Tryd.zeroValue58
 t51 := Tryd.underlying46
 a51 := Tryd.isAgg46
 z51 := Tryd.sizeOf46
 v51 := Tryd.zeroValue46
 t53 := Tryd.underlying45
 a53 := Tryd.isAgg45
 z53 := Tryd.sizeOf45
 v53 := Tryd.zeroValue45 }


end
theorem dig_size : ∀ i : Fin 100, (Lib.decDigits i.1).length ≤ 2 := by decide +kernel
def itoB (n : Nat) : ByteArray := ⟨(Lib.decDigits n).toArray⟩
theorem itoB_size {n : Nat} (h : n < 100) : (itoB n).data.size ≤ 2 := by
 simpa [itoB] using dig_size ⟨n, h⟩
theorem ok_Itoa : CallOK Tryd.prog 19 := ⟨_, Tryd.func19, by kernel_rfl, rfl⟩
theorem p_Itoa {n : Nat} (h : n < 100) : PC Tryd.prog 19 [.v (.int .i64 n)] (.v (.string (itoB n))) :=
 pc_of_calls (xs := [.int .i64 n]) ok_Itoa (fun w => (Any.strconv_Itoa_small layI n h w).mono fun e w' ⟨he, hw⟩ => ⟨he, by rw [hw]; exact Below.refl _ _⟩) rfl
theorem ok_Len : CallOK Tryd.prog 27 := ⟨_, Tryd.func27, by kernel_rfl, rfl⟩
theorem p_Len (n : Nat) (h1 : n ≤ 18446744073709551615) : PC Tryd.prog 27 [.v (.int .u64 n)] (.v (.int .i64 (Lib.bitLen n))) :=
 pc_of_calls (xs := [.int .u64 n]) ok_Len (fun w => (Any.bits_Len layB n w (by omega) (by omega)).mono fun e w' ⟨he, hw⟩ => ⟨he, by rw [hw]; exact Below.refl _ _⟩) rfl
section
variable {α : Type} (lt : α → α → Bool) (d : α)
def swp (l : List α) (i j : Nat) : List α := (l.set i (l.getD j d)).set j (l.getD i d)
def hkid (l : List α) (i n : Nat) : Nat := if 2 * i + 2 < n ∧ lt (l.getD (2 * i + 2) d) (l.getD (2 * i + 1) d) = true then 2 * i + 2 else 2 * i + 1
def hdown : Nat → List α → Nat → Nat → List α
 | 0, l, _, _ => l
 | f + 1, l, i, n => if n ≤ 2 * i + 1 then l else if lt (l.getD (hkid lt d l i n) d) (l.getD i d) = false then l else hdown f (swp d l i (hkid lt d l i n)) (hkid lt d l i n) n
def HpT (l : List α) (n i : Nat) : Prop := ∀ k, 0 < k → k < n → i ≤ (k - 1) / 2 → lt (l.getD k d) (l.getD ((k - 1) / 2) d) = false
end
section
variable {α : Type} {lt : α → α → Bool} {d : α}
theorem swp_len (l : List α) (i j : Nat) : (swp d l i j).length = l.length := by simp [swp]
theorem swp_at {l : List α} {i j : Nat} (hi : i < l.length) (hj : j < l.length) (k : Nat) : (swp d l i j).getD k d = if k = j then l.getD i d else if k = i then l.getD j d else l.getD k d := by
 unfold swp
 simp only [List.getD_eq_getElem?_getD, List.getElem?_set, List.length_set]
 by_cases h1 : j = k
 ·subst h1; simp [hj]
 ·have h1' : ¬ k = j := fun h => h1 h.symm
  by_cases h2 : i = k
  ·subst h2; simp [h1, h1', hi]
  ·have h2' : ¬ k = i := fun h => h2 h.symm
   simp [h1, h1', h2, h2']
theorem swp_perm {l : List α} {i j : Nat} (hi : i < l.length) (hj : j < l.length) : (swp d l i j).Perm l := by
 unfold swp
 by_cases h : i = j
 ·subst h
  have : l.getD i d = l[i] := by simp [List.getD, hi]
  rw [this]; simp
 ·have e1 : l.getD i d = l[i] := by simp [List.getD, hi]
  have e2 : l.getD j d = l[j] := by simp [List.getD, hj]
  rw [e1, e2]
  exact List.set_set_perm hi hj
theorem hkid_lt {l : List α} {i n : Nat} (h : ¬ n ≤ 2 * i + 1) : hkid lt d l i n < n ∧ (hkid lt d l i n = 2 * i + 1 ∨ hkid lt d l i n = 2 * i + 2) := by
 unfold hkid
 split
 ·omega
 ·omega
variable (h1 : ∀ a b, lt a b = true → lt b a = false) (h2 : ∀ a b c, lt b a = false → lt c b = false → lt c a = false)
include h1 h2
omit h2 in
theorem hkid_min {l : List α} {i n : Nat} (h : ¬ n ≤ 2 * i + 1) {k : Nat} (hk : 0 < k) (hkn : k < n) (hp : (k - 1) / 2 = i) : lt (l.getD k d) (l.getD (hkid lt d l i n) d) = false := by
 have hirr : ∀ a, lt a a = false := fun a => by
  cases e : lt a a
  ·rfl
  ·exact (h1 a a e).symm.trans e |>.symm
 have hk2 : k = 2 * i + 1 ∨ k = 2 * i + 2 := by omega
 unfold hkid
 split
 ·rename_i hc
  rcases hk2 with rfl | rfl
  ·exact h1 _ _ hc.2
  ·exact hirr _
 ·rename_i hc
  rcases hk2 with rfl | rfl
  ·exact hirr _
  ·cases e : lt (l.getD (2 * i + 2) d) (l.getD (2 * i + 1) d)
   ·rfl
   ·exact absurd ⟨hkn, e⟩ hc
theorem hdown_heap : ∀ (f : Nat) (l : List α) (i n i0 : Nat), n ≤ l.length → i0 ≤ i → n ≤ i + f →
  (∀ k, 0 < k → k < n → i0 ≤ (k - 1) / 2 → (k - 1) / 2 ≠ i → lt (l.getD k d) (l.getD ((k - 1) / 2) d) = false) →
  (∀ k, 0 < k → k < n → (k - 1) / 2 = i → 0 < i → i0 ≤ (i - 1) / 2 → lt (l.getD k d) (l.getD ((i - 1) / 2) d) = false) → HpT lt d (hdown lt d f l i n) n i0
 | 0, l, i, n, i0, hn, hi, hf, ha, _ => by
  intro k hk hkn hp
  exact ha k hk hkn hp (by omega)
 | f + 1, l, i, n, i0, hn, hi, hf, ha, hb => by
  simp only [hdown]
  split
  ·intro k hk hkn hp
   exact ha k hk hkn hp (by omega)
  rename_i hlt
  obtain ⟨h3, h4⟩ := hkid_lt (lt := lt) (d := d) (l := l) hlt
  have hmin := fun k a b c => hkid_min (lt := lt) (d := d) (l := l) h1 (i := i) (n := n) hlt (k := k) a b c
  generalize hkid lt d l i n = j at *
  have hpj : (j - 1) / 2 = i := by omega
  split
  ·rename_i hc
   intro k hk hkn hp
   by_cases e : (k - 1) / 2 = i
   ·rw [e]; exact h2 _ _ _ hc (hmin k hk hkn e)
   ·exact ha k hk hkn hp e
  ·rename_i hc
   have hc : lt (l.getD j d) (l.getD i d) = true := by
    cases e : lt (l.getD j d) (l.getD i d)
    ·exact absurd e hc
    ·rfl
   have hsw := fun k => swp_at (d := d) (l := l) (i := i) (j := j) (by omega) (by omega) k
   refine hdown_heap f _ j n i0 (by rw [swp_len]; exact hn) (by omega) (by omega) (fun k hk hkn hp hne => ?_) (fun k hk hkn hp h0 h5 => ?_)
   ·rw [hsw, hsw]
    by_cases e : k = j
    ·subst e
     rw [if_pos rfl, hpj, if_neg (by omega), if_pos rfl]
     exact h1 _ _ hc
    ·rw [if_neg e, if_neg hne]
     by_cases e2 : k = i
     ·subst e2
      rw [if_pos rfl, if_neg (show ¬ (k - 1) / 2 = k by omega)]
      exact hb j (by omega) h3 hpj hk hp
     ·rw [if_neg e2]
      by_cases e3 : (k - 1) / 2 = i
      ·rw [if_pos e3]; exact hmin k hk hkn e3
      ·rw [if_neg e3]; exact ha k hk hkn hp e3
   ·rw [hsw, hsw, hpj, if_neg (show ¬ k = j by omega), if_neg (show ¬ k = i by omega), if_neg (show ¬ i = j by omega), if_pos rfl]
    have := ha k hk hkn (by omega) (by omega)
    rw [hp] at this
    exact this
theorem hp_min {l : List α} {n : Nat} (h : HpT lt d l n 0) : ∀ k, k < n → lt (l.getD k d) (l.getD 0 d) = false := by
 intro k
 induction k using Nat.strongRecOn with
 | ind k ih =>
  intro hk
  rcases Nat.eq_zero_or_pos k with rfl | h0
  ·cases e : lt (l.getD 0 d) (l.getD 0 d)
   ·rfl
   ·exact (h1 _ _ e).symm.trans e |>.symm
  ·exact h2 _ _ _ (ih ((k - 1) / 2) (by omega) (by omega)) (h k h0 hk (Nat.zero_le _))
end
section
variable {α : Type} {lt : α → α → Bool} {d : α}
end
end Go.Proofs.YtcfidmdkioccdaaDoor
