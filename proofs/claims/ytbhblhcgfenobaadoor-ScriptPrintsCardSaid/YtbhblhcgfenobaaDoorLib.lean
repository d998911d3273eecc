/-
  Words for memory, over whatever program: a slice that reads as a list, a block that is known whole, steps of the relation 'Below'. No condition.
-/
import Derived.WalkKit
import Derived.WalkSpells
import Derived.WalkLawsBesides
import Derived.Deep.QuietTactic
import Derived.BigQuiet
import Derived.Deep.RegionHeld3
import Derived.Deep.DrawnRows
import Derived.Deep.AppendLies
import Derived.Maps.AppendAt
import Derived.Deep.Draws
import Derived.Lib.Hide
namespace Go.Proofs.YtbhblhcgfenobaaDoor
open Go.RowKit
set_option linter.unusedSimpArgs false
set_option linter.unusedVariables false

theorem hide {p : Prop} (h : p) : Hid p := h

theorem below_lt {B n : Nat} {W w1 : World} (hb : Below B W w1) (h : n < W.heap.size) : n < w1.heap.size := Nat.lt_of_lt_of_le h hb.size
theorem below_le {B n : Nat} {W w1 : World} (hb : Below B W w1) (h : n ≤ W.heap.size) : n ≤ w1.heap.size := Nat.le_trans h hb.size
theorem below_drewN {B : Nat} {a w : World} (h : Below B a w) (n : Nat) : Below B a (w.drewN n) := ⟨h.os, h.tape, h.output, h.size, h.block⟩
theorem below_from {B : Nat} {a w w' : World} (h : Below B a w) (k : Below w.heap.size w w') (hB : B ≤ w.heap.size) : Below B a w' := h.trans (k.mono hB)

section
variable {a w w' : World}
theorem Gr.drew (h : Below a.heap.size a w) : Below a.heap.size a w.drew := h.drew
theorem Gr.drewN (h : Below a.heap.size a w) (n : Nat) : Below a.heap.size a (w.drewN n) := below_drewN h n
theorem Gr.alloc (h : Below a.heap.size a w) (o : Obj) : Below a.heap.size a (w.alloc o) := h.alloc h.size o
theorem Gr.set_ (h : Below a.heap.size a w) {p : Addr} (hp : a.heap.size ≤ p.block) (u : Value) : Below a.heap.size a (w.setCell p u) := h.setCell hp u
theorem Gr.on (h : Below a.heap.size a w) {n : Nat} {W w' : World} (k : Below n W w') (hW : W.heap = w.heap) (ho : W.os = w.os) (ht : W.tape = w.tape) (hu : W.output = w.output) (hn : n = W.heap.size) : Below a.heap.size a w' := by
  subst hn
  refine ⟨k.os.trans (ho.trans h.os), k.tape.trans (ht.trans h.tape), k.output.trans (hu.trans h.output), Nat.le_trans h.size (by rw [← hW]; exact k.size), fun i hi => ?_⟩
  rw [k.block i (by rw [hW]; exact Nat.lt_of_lt_of_le hi h.size), hW]
  exact h.block i hi
theorem Gr.call (h : Below a.heap.size a w) (k : Below w.heap.size w w') : Below a.heap.size a w' := h.trans (k.mono h.size)
theorem Gr.call_drew (h : Below a.heap.size a w) (k : Below w.drew.heap.size w.drew w') : Below a.heap.size a w' := h.drew.trans (k.mono h.size)
theorem Gr.call_drewN {n : Nat} (h : Below a.heap.size a w) (k : Below (w.drewN n).heap.size (w.drewN n) w') : Below a.heap.size a w' := (below_drewN h n).trans (k.mono h.size)
theorem Gr.grown {row : Option Nat} (h : Below a.heap.size a w) (hg : w.grownBy w' row) (hr : ∀ k, row = some k → a.heap.size ≤ k) : Below a.heap.size a w' := h.grown hg h.size hr
end

/-- A block that is known whole: the cells cs of type t, none frozen. -/
def Blk (w : World) (g : Nat) (t : TypeId) (cs : Array Value) : Prop := w.heap[g]? = some (.cells cs t (0, 0))

section
variable {w w' : World} {g : Nat} {t : TypeId} {cs : Array Value}
theorem Blk.lt (h : Blk w g t cs) : g < w.heap.size := by
  rcases Nat.lt_or_ge g w.heap.size with hlt | hge
  · exact hlt
  · unfold Blk at h; rw [Array.getElem?_eq_none hge] at h; cases h
theorem Blk.cell (h : Blk w g t cs) (i : Nat) : w.cell? ⟨g, i, none⟩ = cs[i]? := by
  unfold Blk at h
  simp [World.cell?, h]
theorem Blk.frozen (h : Blk w g t cs) (i : Nat) : w.frozen? ⟨g, i, none⟩ = false := by
  unfold Blk at h
  simp [World.frozen?, h]
theorem Blk.facts (h : Blk w g t cs) : (∀ i, w.cell? ⟨g, i, none⟩ = cs[i]?) ∧ (∀ i, w.frozen? ⟨g, i, none⟩ = false) := ⟨h.cell, h.frozen⟩
theorem Blk.new (w : World) (t : TypeId) (cs : Array Value) : Blk (w.alloc (.cells cs t)) w.heap.size t cs := heap_alloc_new w _
theorem Blk.new_at (hg : g = w.heap.size) : Blk (w.alloc (.cells cs t)) g t cs := by subst hg; exact heap_alloc_new w _
theorem Blk.drew (h : Blk w g t cs) : Blk w.drew g t cs := h
theorem Blk.drewN (h : Blk w g t cs) (n : Nat) : Blk (w.drewN n) g t cs := h
theorem Blk.alloc (h : Blk w g t cs) (o : Obj) : Blk (w.alloc o) g t cs := (Below.heap_alloc w o g h.lt).trans h
theorem Blk.set_ (h : Blk w g t cs) (i : Nat) (u : Value) : Blk (w.setCell ⟨g, i, none⟩ u) g t (cs.setIfInBounds i u) := by
  unfold Blk at h ⊢
  simp [World.setCell, Array.getElem?_modify, h]
theorem Blk.far (h : Blk w g t cs) {p : Addr} (hp : g ≠ p.block) (u : Value) : Blk (w.setCell p u) g t cs := (Below.heap_setCell w p u g hp).trans h
theorem Blk.below {B : Nat} (h : Blk w g t cs) (hb : Below B w w') (hg : g < B) : Blk w' g t cs := (hb.block g hg).trans h
/-- Over a call (draws ahead of it do not matter). -/
theorem Blk.on (h : Blk w g t cs) {n : Nat} {W w' : World} (hb : Below n W w') (hW : W.heap = w.heap) (hn : n = W.heap.size) : Blk w' g t cs := by
  subst hn
  exact (hb.block g (by rw [hW]; exact h.lt)).trans (by rw [hW]; exact h)
theorem Blk.call (h : Blk w g t cs) (hb : Below w.heap.size w w') : Blk w' g t cs := h.below hb h.lt
theorem Blk.call_drew (h : Blk w g t cs) (hb : Below w.drew.heap.size w.drew w') : Blk w' g t cs := h.below (w := w.drew) hb h.lt
theorem Blk.call_drewN {n : Nat} (h : Blk w g t cs) (hb : Below (w.drewN n).heap.size (w.drewN n) w') : Blk w' g t cs := h.below (w := w.drewN n) hb h.lt
theorem Blk.set1 {x x' : Value} (h : Blk w g t #[x]) : Blk (w.setCell ⟨g, 0, none⟩ x') g t #[x'] := h.set_ 0 x'
theorem Blk.set2 {x y x' y' : Value} (h : Blk w g t #[x, y]) : Blk ((w.setCell ⟨g, 0, none⟩ x').setCell ⟨g, 1, none⟩ y') g t #[x', y'] := (h.set_ 0 x').set_ 1 y'
theorem Blk.set3 {x y z x' y' z' : Value} (h : Blk w g t #[x, y, z]) : Blk (((w.setCell ⟨g, 0, none⟩ x').setCell ⟨g, 1, none⟩ y').setCell ⟨g, 2, none⟩ z') g t #[x', y', z'] := ((h.set_ 0 x').set_ 1 y').set_ 2 z'
theorem Blk.s30 {x y z x' : Value} (h : Blk w g t #[x, y, z]) : Blk (w.setCell ⟨g, 0, none⟩ x') g t #[x', y, z] := h.set_ 0 x'
theorem Blk.s31 {x y z y' : Value} (h : Blk w g t #[x, y, z]) : Blk (w.setCell ⟨g, 1, none⟩ y') g t #[x, y', z] := h.set_ 1 y'
theorem Blk.s32 {x y z z' : Value} (h : Blk w g t #[x, y, z]) : Blk (w.setCell ⟨g, 2, none⟩ z') g t #[x, y, z'] := h.set_ 2 z'
theorem Blk.grown {row : Option Nat} (h : Blk w g t cs) (hb : w.grownBy w' row) (hg : some g ≠ row) : Blk w' g t cs := (hb.block g h.lt hg).trans h
end

/-- A slice's address A and length n read as the cells xs (size cells an element), in a block below B. -/
def Reads (w : World) (B size : Nat) (A : Option Addr) (n : Nat) (xs : List Value) : Prop :=
  xs.length = n * size ∧ (0 < n → ∃ b off, A = some ⟨b, off, none⟩ ∧ b < B ∧ ∀ j u, xs[j]? = some u → w.cell? ⟨b, off + j, none⟩ = some u)

section
variable {w w' : World} {B B' size n : Nat} {A : Option Addr} {xs : List Value}
theorem Reads.none_ : Reads w B size A 0 [] := ⟨by simp, fun h => absurd h (by omega)⟩
theorem Reads.keep (h : Reads w B size A n xs) (hk : ∀ p : Addr, p.block < B → w'.cell? p = w.cell? p) : Reads w' B size A n xs :=
  ⟨h.1, fun hn => by
    obtain ⟨b, off, e, hb, hc⟩ := h.2 hn
    exact ⟨b, off, e, hb, fun j u hu => (hk ⟨b, off + j, none⟩ hb).trans (hc j u hu)⟩⟩
theorem Reads.more (h : Reads w B size A n xs) (hB : B ≤ B') : Reads w B' size A n xs :=
  ⟨h.1, fun hn => by
    obtain ⟨b, off, e, hb, hc⟩ := h.2 hn
    exact ⟨b, off, e, by omega, hc⟩⟩
theorem Reads.below (h : Reads w B size A n xs) (hb : Below B w w') : Reads w' B size A n xs := h.keep fun _ hp => hb.cell hp
theorem Reads.below_le {C : Nat} (h : Reads w B size A n xs) (hb : Below C w w') (hC : B ≤ C) : Reads w' B size A n xs := h.below (hb.mono hC)
theorem Reads.on (h : Reads w B size A n xs) {m : Nat} {W w' : World} (hb : Below m W w') (hB : B ≤ w.heap.size) (hW : W.heap = w.heap) (hn : m = W.heap.size) : Reads w' B size A n xs := by
  subst hn
  exact h.keep fun p hp => World.cell?_of_block (w := w) ((hb.block p.block (by rw [hW]; omega)).trans (by rw [hW]))
theorem Reads.drew (h : Reads w B size A n xs) : Reads w.drew B size A n xs := h
theorem Reads.drewN (h : Reads w B size A n xs) (k : Nat) : Reads (w.drewN k) B size A n xs := h
theorem Reads.alloc (h : Reads w B size A n xs) (hB : B ≤ w.heap.size) (o : Obj) : Reads (w.alloc o) B size A n xs := h.keep fun p hp => World.cell?_alloc_lt w o p (by omega)
theorem Reads.setCell (h : Reads w B size A n xs) {p : Addr} (hB : B ≤ p.block) (u : Value) : Reads (w.setCell p u) B size A n xs :=
  h.keep fun q hq => World.cell?_setCell_other w p q u (fun e => by subst e; omega)
theorem Reads.grown (h : Reads w B size A n xs) {row : Option Nat} (hg : w.grownBy w' row) (hB : B ≤ w.heap.size) (hr : ∀ g, row = some g → B ≤ g) : Reads w' B size A n xs :=
  h.keep fun p hp => World.cell?_of_block (hg.block p.block (by omega) (fun e => by have := hr _ e.symm; omega))
theorem Reads.take (h : Reads w B size A n xs) {k : Nat} (hk : k ≤ n) : Reads w B size A k (xs.take (k * size)) := by
  refine ⟨by rw [List.length_take, h.1]; exact Nat.min_eq_left (Nat.mul_le_mul_right _ hk), fun hn => ?_⟩
  obtain ⟨b, off, e, hb, hc⟩ := h.2 (by omega)
  refine ⟨b, off, e, hb, fun j u hu => hc j u ?_⟩
  rw [List.getElem?_take] at hu
  split at hu
  · exact hu
  · cases hu
end

/-- The world behind a name, with what is known of it. -/
theorem wp_gen {P : Program} {c : Code} {Q : Exit → Act → World → Prop} {a : Act} {W : World} (R : World → Prop) (hR : R W) (h : ∀ W', R W' → c.wp P Q a W') : c.wp P Q a W := h W hR

theorem take_snoc {α} (l : List α) (k : Nat) (h : k < l.length) : l.take (k + 1) = l.take k ++ [l[k]] := by
  rw [List.take_succ_eq_append_getElem h]
end Go.Proofs.YtbhblhcgfenobaaDoor
