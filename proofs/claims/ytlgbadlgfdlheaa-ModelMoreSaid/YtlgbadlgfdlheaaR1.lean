/-
  Words for memory, over whatever program: a slice that reads as a list, a block that is known whole, steps of the relation 'Below'. No condition.
  append onto a row of the call's own, the source nil, empty or not; over whatever program. No condition but the row's room.
-/
import Derived.WalkKit
import Derived.WalkSpells
import Derived.WalkLawsBesides
import Derived.Deep.QuietTactic
import Derived.BigQuiet
import Derived.Deep.RegionHeld3
import Derived.Deep.DrawnRows
import Derived.Deep.AppendLies
import Derived.Maps.AppendAt
import Derived.Deep.Draws
import Derived.Lib.Hide
import Derived.RegionTactic
import Derived.OwnWalk
import Derived.WideShapes
set_option linter.unusedSimpArgs false
set_option linter.unusedVariables false
set_option maxHeartbeats 20000000
namespace Go.Proofs.Ytlgbadlgfdlheaa
open Go.RowKit

theorem below_drewN {B : Nat} {a w : World} (h : Below B a w) (n : Nat) : Below B a (w.drewN n) := ⟨h.os, h.tape, h.output, h.size, h.block⟩
section
variable {a w w' : World}
theorem Gr.drew (h : Below a.heap.size a w) : Below a.heap.size a w.drew := h.drew
theorem Gr.drewN (h : Below a.heap.size a w) (n : Nat) : Below a.heap.size a (w.drewN n) := below_drewN h n
theorem Gr.alloc (h : Below a.heap.size a w) (o : Obj) : Below a.heap.size a (w.alloc o) := h.alloc h.size o
theorem Gr.set_ (h : Below a.heap.size a w) {p : Addr} (hp : a.heap.size ≤ p.block) (u : Value) : Below a.heap.size a (w.setCell p u) := h.setCell hp u
theorem Gr.on (h : Below a.heap.size a w) {n : Nat} {W w' : World} (k : Below n W w') (hW : W.heap = w.heap) (ho : W.os = w.os) (ht : W.tape = w.tape) (hu : W.output = w.output) (hn : n = W.heap.size) : Below a.heap.size a w' := by
 subst hn
 refine ⟨k.os.trans (ho.trans h.os), k.tape.trans (ht.trans h.tape), k.output.trans (hu.trans h.output), Nat.le_trans h.size (by rw [← hW]; exact k.size), fun i hi => ?_⟩
 rw [k.block i (by rw [hW]; exact Nat.lt_of_lt_of_le hi h.size), hW]
 exact h.block i hi
theorem Gr.call (h : Below a.heap.size a w) (k : Below w.heap.size w w') : Below a.heap.size a w' := h.trans (k.mono h.size)
theorem Gr.grown {row : Option Nat} (h : Below a.heap.size a w) (hg : w.grownBy w' row) (hr : ∀ k, row = some k → a.heap.size ≤ k) : Below a.heap.size a w' := h.grown hg h.size hr
end

def Blk (w : World) (g : Nat) (t : TypeId) (cs : Array Value) : Prop := w.heap[g]? = some (.cells cs t (0, 0))

section
variable {w w' : World} {g : Nat} {t : TypeId} {cs : Array Value}
theorem Blk.lt (h : Blk w g t cs) : g < w.heap.size := by
 rcases Nat.lt_or_ge g w.heap.size with hlt | hge
 ·exact hlt
 ·unfold Blk at h; rw [Array.getElem?_eq_none hge] at h; cases h
theorem Blk.cell (h : Blk w g t cs) (i : Nat) : w.cell? ⟨g, i, none⟩ = cs[i]? := by
 unfold Blk at h
 simp [World.cell?, h]
theorem Blk.frozen (h : Blk w g t cs) (i : Nat) : w.frozen? ⟨g, i, none⟩ = false := by
 unfold Blk at h
 simp [World.frozen?, h]
theorem Blk.new (w : World) (t : TypeId) (cs : Array Value) : Blk (w.alloc (.cells cs t)) w.heap.size t cs := heap_alloc_new w _
theorem Blk.new_at (hg : g = w.heap.size) : Blk (w.alloc (.cells cs t)) g t cs := by subst hg; exact heap_alloc_new w _
theorem Blk.drew (h : Blk w g t cs) : Blk w.drew g t cs := h
theorem Blk.drewN (h : Blk w g t cs) (n : Nat) : Blk (w.drewN n) g t cs := h
theorem Blk.alloc (h : Blk w g t cs) (o : Obj) : Blk (w.alloc o) g t cs := (Below.heap_alloc w o g h.lt).trans h
theorem Blk.set_ (h : Blk w g t cs) (i : Nat) (u : Value) : Blk (w.setCell ⟨g, i, none⟩ u) g t (cs.setIfInBounds i u) := by
 unfold Blk at h ⊢
 simp [World.setCell, Array.getElem?_modify, h]
theorem Blk.far (h : Blk w g t cs) {p : Addr} (hp : g ≠ p.block) (u : Value) : Blk (w.setCell p u) g t cs := (Below.heap_setCell w p u g hp).trans h
theorem Blk.below {B : Nat} (h : Blk w g t cs) (hb : Below B w w') (hg : g < B) : Blk w' g t cs := (hb.block g hg).trans h
theorem Blk.on (h : Blk w g t cs) {n : Nat} {W w' : World} (hb : Below n W w') (hW : W.heap = w.heap) (hn : n = W.heap.size) : Blk w' g t cs := by
 subst hn
 exact (hb.block g (by rw [hW]; exact h.lt)).trans (by rw [hW]; exact h)
theorem Blk.call (h : Blk w g t cs) (hb : Below w.heap.size w w') : Blk w' g t cs := h.below hb h.lt
theorem Blk.grown {row : Option Nat} (h : Blk w g t cs) (hb : w.grownBy w' row) (hg : some g ≠ row) : Blk w' g t cs := (hb.block g h.lt hg).trans h
end

def Reads (w : World) (B size : Nat) (A : Option Addr) (n : Nat) (xs : List Value) : Prop :=
 xs.length = n * size ∧ (0 < n → ∃ b off, A = some ⟨b, off, none⟩ ∧ b < B ∧ ∀ j u, xs[j]? = some u → w.cell? ⟨b, off + j, none⟩ = some u)

section
variable {w w' : World} {B B' size n : Nat} {A : Option Addr} {xs : List Value}
theorem Reads.none_ : Reads w B size A 0 [] := ⟨by simp, fun h => absurd h (by omega)⟩
theorem Reads.keep (h : Reads w B size A n xs) (hk : ∀ p : Addr, p.block < B → w'.cell? p = w.cell? p) : Reads w' B size A n xs :=
 ⟨h.1, fun hn => by
  obtain ⟨b, off, e, hb, hc⟩ := h.2 hn
  exact ⟨b, off, e, hb, fun j u hu => (hk ⟨b, off + j, none⟩ hb).trans (hc j u hu)⟩⟩
theorem Reads.more (h : Reads w B size A n xs) (hB : B ≤ B') : Reads w B' size A n xs :=
 ⟨h.1, fun hn => by
  obtain ⟨b, off, e, hb, hc⟩ := h.2 hn
  exact ⟨b, off, e, by omega, hc⟩⟩
theorem Reads.below (h : Reads w B size A n xs) (hb : Below B w w') : Reads w' B size A n xs := h.keep fun _ hp => hb.cell hp
theorem Reads.on (h : Reads w B size A n xs) {m : Nat} {W w' : World} (hb : Below m W w') (hB : B ≤ w.heap.size) (hW : W.heap = w.heap) (hn : m = W.heap.size) : Reads w' B size A n xs := by
 subst hn
 exact h.keep fun p hp => World.cell?_of_block (w := w) ((hb.block p.block (by rw [hW]; omega)).trans (by rw [hW]))
theorem Reads.drew (h : Reads w B size A n xs) : Reads w.drew B size A n xs := h
theorem Reads.drewN (h : Reads w B size A n xs) (k : Nat) : Reads (w.drewN k) B size A n xs := h
theorem Reads.alloc (h : Reads w B size A n xs) (hB : B ≤ w.heap.size) (o : Obj) : Reads (w.alloc o) B size A n xs := h.keep fun p hp => World.cell?_alloc_lt w o p (by omega)
theorem Reads.setCell (h : Reads w B size A n xs) {p : Addr} (hB : B ≤ p.block) (u : Value) : Reads (w.setCell p u) B size A n xs :=
 h.keep fun q hq => World.cell?_setCell_other w p q u (fun e => by subst e; omega)
theorem Reads.grown (h : Reads w B size A n xs) {row : Option Nat} (hg : w.grownBy w' row) (hB : B ≤ w.heap.size) (hr : ∀ g, row = some g → B ≤ g) : Reads w' B size A n xs :=
 h.keep fun p hp => World.cell?_of_block (hg.block p.block (by omega) (fun e => by have := hr _ e.symm; omega))
theorem Reads.take (h : Reads w B size A n xs) {k : Nat} (hk : k ≤ n) : Reads w B size A k (xs.take (k * size)) := by
 refine ⟨by rw [List.length_take, h.1]; exact Nat.min_eq_left (Nat.mul_le_mul_right _ hk), fun hn => ?_⟩
 obtain ⟨b, off, e, hb, hc⟩ := h.2 (by omega)
 refine ⟨b, off, e, hb, fun j u hu => hc j u ?_⟩
 rw [List.getElem?_take] at hu
 split at hu
 ·exact hu
 ·cases hu
end

theorem take_snoc {α} (l : List α) (k : Nat) (h : k < l.length) : l.take (k + 1) = l.take k ++ [l[k]] := by
 rw [List.take_succ_eq_append_getElem h]
theorem Reads.of_own {w : World} {size n c base : Nat} {A : Option Addr} {e : TypeId} {xs : List Value} (h : w.ownsRow base e size (.slice A n c) n xs) : Reads w w.heap.size size A n xs := by
 refine ⟨h.1, fun hn => ?_⟩
 obtain ⟨g, cap, hv, _, hlt⟩ := h.form hn
 have hA : A = some ⟨g, 0, none⟩ := by injection hv
 subst hA
 refine ⟨g, 0, rfl, hlt, fun j u hu => ?_⟩
 have := h.cells (g := g) rfl j u hu
 rw [Go.WideShapes.add_plain] at this
 exact this
theorem own_slice {w : World} {size n base : Nat} {v : Value} {e : TypeId} {xs : List Value} (h : w.ownsRow base e size v n xs) : ∃ A c, v = .slice A n c ∧ n ≤ c ∧ c ≤ 9223372036854775807 := by
 rcases h.2 with ⟨rfl, rfl⟩ | ⟨g, cap, cur, rfl, _, _, hn, hc, _⟩
 ·exact ⟨none, 0, rfl, Nat.le_refl _, by omega⟩
 ·exact ⟨_, cap, rfl, hn, by simpa [maxLen] using hc⟩
theorem own_new {w : World} {g base : Nat} {e : TypeId} {size : Nat} (h : Blk w g e #[]) (hb : base ≤ g) : w.ownsRow base e size (.slice (some ⟨g, 0, none⟩) 0 0) 0 [] :=
 ⟨by simp, .inr ⟨g, 0, #[], rfl, hb, h, Nat.le_refl _, by simp [maxLen], by simp, by simp⟩⟩
theorem own_nil {w : World} {base : Nat} {e : TypeId} {size : Nat} : w.ownsRow base e size (.slice none 0 0) 0 [] := ⟨by simp, .inl ⟨rfl, rfl⟩⟩
theorem grow_own {a w w' : World} {base : Nat} {e : TypeId} {size n : Nat} {v : Value} {xs : List Value} (h : Below a.heap.size a w) (hg : w.grownBy w' v.ownBlock) (ho : w.ownsRow base e size v n xs) (hb : a.heap.size ≤ base) : Below a.heap.size a w' := by
 refine Gr.grown h hg (fun k hk => ?_)
 rcases ho.2 with ⟨rfl, _⟩ | ⟨g, cap, cur, rfl, hg', _⟩
 ·simp [Value.ownBlock] at hk
 ·simp only [Value.ownBlock, Option.some.injEq] at hk
  omega

theorem flatMap_at {α : Type} (cells : α → List Value) (size : Nat) (hc : ∀ x, (cells x).length = size) (xs : List α) (q j : Nat) (hq : q < xs.length) (hj : j < size) : (xs.flatMap cells)[q * size + j]? = (cells xs[q])[j]? := by
 induction xs generalizing q with
 | nil => simp at hq
 | cons x xs ih =>
  rw [List.flatMap_cons]
  cases q with
  | zero =>
   rw [List.getElem?_append_left (by rw [hc]; omega)]
   simp
  | succ q =>
   rw [List.getElem?_append_right (by rw [hc, Nat.add_mul]; omega), hc]
   have : (q + 1) * size + j - size = q * size + j := by rw [Nat.add_mul]; omega
   rw [this, ih q (by simpa using hq)]
   simp
theorem Reads.el {α : Type} {w : World} {B size n : Nat} {A : Option Addr} {cells : α → List Value} {xs : List α} (h : Reads w B size A n (xs.flatMap cells)) (hc : ∀ x, (cells x).length = size) {q : Nat} (hq : q < xs.length) (hn : n = xs.length) :
  ∃ b off, A = some ⟨b, off, none⟩ ∧ b < B ∧ ∀ j u, j < size → (cells xs[q])[j]? = some u → w.cell? ⟨b, off + (q * size + j), none⟩ = some u := by
 obtain ⟨b, off, e, hb, hcell⟩ := h.2 (by omega)
 exact ⟨b, off, e, hb, fun j u hj hu => hcell _ u (by rw [flatMap_at cells size hc xs q j hq hj]; exact hu)⟩

section
variable {P : Program} (w : World)

theorem run_append_of_nil (base : Nat) (t ty e : TypeId) (i : TypeInfo) (size : Nat) (ht : P.underlying t = some (.slice e)) (hi : P.info? e = some i)
  (v : Value) (n : Nat) (xs : List Value) (hown : w.ownsRow base e size v n xs) (c : Nat) : (Builtin.append_ #[t, t] ty #[v, .slice none 0 c]).run P w = .ok v w := by
 rcases hown.2 with ⟨rfl, rfl⟩ | ⟨g, cap, cur, rfl, _, _, hnc, _⟩
 ·simp [Builtin.append_, run_underlying ht, sizeOf, typeInfo, hi, Builtin.lenOf, Builtin.firstCells]
 ·simp [Builtin.append_, run_underlying ht, sizeOf, typeInfo, hi, Builtin.lenOf, Builtin.firstCells, hnc, storeCells]

theorem run_append_any (base : Nat) (t ty e : TypeId) (i : TypeInfo) (z : Value) (size bytes : Nat) (ht : P.underlying t = some (.slice e)) (hi : P.info? e = some i) (hz : i.zero = some z)
  (hsize : i.size = size) (hby : i.bytes = bytes) (hzs : z.cells.size = size) (hsz : 0 < size)
  (v : Value) (n : Nat) (xs : List Value) (hown : w.ownsRow base e size v n xs)
  (B : Nat) (A : Option Addr) (m c : Nat) (news : List Value) (hr : Reads w B size A m news) (h1 : ∀ u ∈ news, u.oneCell' = true)
  (h63 : n + m ≤ maxLen) (hbytes : (n + m) * bytes ≤ 140737488355328) (hbase : base ≤ w.heap.size) :
  ∃ v' w', (Builtin.append_ #[t, t] ty #[v, .slice A m c]).run P w = .ok v' w' ∧ w'.ownsRow base e size v' (n + m) (xs ++ news) ∧ w.grownBy w' v.ownBlock ∧
   (v'.ownBlock = v.ownBlock ∨ v'.ownBlock = some w.heap.size) := by
 rcases A with _ | ad
 ·have hm : m = 0 := by
   rcases Nat.eq_zero_or_pos m with h0 | h0
   ·exact h0
   ·obtain ⟨b, off, h, _⟩ := hr.2 h0
    cases h
  subst hm
  have hn : news = [] := List.eq_nil_of_length_eq_zero (by simpa using hr.1)
  subst hn
  exact ⟨v, w, run_append_of_nil w base t ty e i size ht hi v n xs hown c, by simpa using hown, World.grownBy.refl w _, .inl rfl⟩
 ·have hcells : ∀ j u, news[j]? = some u → w.cell? (ad.add j) = some u := by
   intro j u hu
   rcases Nat.eq_zero_or_pos m with h0 | h0
   ·subst h0
    have hn : news = [] := List.eq_nil_of_length_eq_zero (by simpa using hr.1)
    subst hn
    simp at hu
   ·obtain ⟨b, off, h, _, hc⟩ := hr.2 h0
    injection h with h
    subst h
    rw [Go.WideShapes.add_plain]
    exact hc j u hu
  obtain ⟨v', w', hrun, h2, h3, _, h5⟩ := run_append_own_at (P := P) w base t ty e i z size bytes ht hi hz hsize hby hzs hsz v n xs hown ad m c news hr.1 hcells h1 h63 hbytes hbase
  exact ⟨v', w', hrun, h2, h3, h5⟩

theorem wp_append_any {o : Oper} {a : Act} {K : Act → World → Prop} {Q : Exit → Act → World → Prop} (s x : Operand) (t : TypeId)
  (ho : o.op = .call { callee := .builtin .append, args := #[s, x], argTypes := #[t, t] })
  (base : Nat) (e : TypeId) (i : TypeInfo) (z : Value) (size bytes : Nat) (ht : P.underlying t = some (.slice e)) (hi : P.info? e = some i) (hz : i.zero = some z)
  (hsize : i.size = size) (hby : i.bytes = bytes) (hzs : z.cells.size = size) (hsz : 0 < size)
  (v : Value) (n : Nat) (xs : List Value) (hs : a.eval s = v) (hown : w.ownsRow base e size v n xs)
  (B : Nat) (A : Option Addr) (m c : Nat) (news : List Value) (hx : a.eval x = .slice A m c) (hr : Reads w B size A m news) (h1 : ∀ u ∈ news, u.oneCell' = true)
  (h63 : n + m ≤ maxLen) (hbytes : (n + m) * bytes ≤ 140737488355328) (hbase : base ≤ w.heap.size)
  (h : ∀ v' w', w'.ownsRow base e size v' (n + m) (xs ++ news) → w.grownBy w' v.ownBlock → (v'.ownBlock = v.ownBlock ∨ v'.ownBlock = some w.heap.size) → K (a.put o.dst v') w') : o.wp P a w K Q := by
 obtain ⟨v', w', hrun, h2, h3, h4⟩ := run_append_any (P := P) w base t o.type e i z size bytes ht hi hz hsize hby hzs hsz v n xs hown B A m c news hr h1 h63 hbytes hbase
 unfold Oper.wp execOp
 simp only [ho, resolve, invoke, builtin, Sem.run_bind, Sem.run_pure, Result.andThen_ok, List.map_toArray, List.map_cons, List.map_nil, hs, hx, hrun]
 exact h v' w' h2 h3 h4

theorem wpList_append_any {ops : Array Oper} {rest : List Oper} {o : Oper} {a : Act} {Q : Exit → Act → World → Prop} (hgd : o.guard = none) (s x : Operand) (t : TypeId)
  (ho : o.op = .call { callee := .builtin .append, args := #[s, x], argTypes := #[t, t] })
  (base : Nat) (e : TypeId) (i : TypeInfo) (z : Value) (size bytes : Nat) (ht : P.underlying t = some (.slice e)) (hi : P.info? e = some i) (hz : i.zero = some z)
  (hsize : i.size = size) (hby : i.bytes = bytes) (hzs : z.cells.size = size) (hsz : 0 < size)
  (v : Value) (n : Nat) (xs : List Value) (hs : a.eval s = v) (hown : w.ownsRow base e size v n xs)
  (B : Nat) (A : Option Addr) (m c : Nat) (news : List Value) (hx : a.eval x = .slice A m c) (hr : Reads w B size A m news) (h1 : ∀ u ∈ news, u.oneCell' = true)
  (h63 : n + m ≤ maxLen) (hbytes : (n + m) * bytes ≤ 140737488355328) (hbase : base ≤ w.heap.size)
  (h : ∀ v' w', w'.ownsRow base e size v' (n + m) (xs ++ news) → w.grownBy w' v.ownBlock → (v'.ownBlock = v.ownBlock ∨ v'.ownBlock = some w.heap.size) → wpList P ops Q rest (a.put o.dst v') w') : wpList P ops Q (o :: rest) a w :=
 wpList_plain hgd fun _ hK => wp_append_any w s x t ho base e i z size bytes ht hi hz hsize hby hzs hsz v n xs hs hown B A m c news hx hr h1 h63 hbytes hbase fun v' w' h2 h3 h4 => hK _ _ (h v' w' h2 h3 h4)

end

theorem app_any {P : Program} {ops : Array Oper} {rest : List Oper} {o : Oper} {a : Act} {Q : Exit → Act → World → Prop} {w : World} (s x : Operand) {t : TypeId} (hgd : o.guard = none)
  (ho : o.op = .call { callee := .builtin .append, args := #[s, x], argTypes := #[t, t] })
  {base : Nat} {e : TypeId} {z : Value} {size bytes : Nat} (ht : P.underlying t = some (.slice e)) (hi : (P.info? e).map (fun i => (i.zero, i.size, i.bytes)) = some (some z, size, bytes))
  (hzs : z.cells.size = size) (hsz : 0 < size)
  {v : Value} {n : Nat} {xs : List Value} (hs : a.eval s = v) (hown : w.ownsRow base e size v n xs)
  {B : Nat} {A : Option Addr} {m c : Nat} {news : List Value} (hx : a.eval x = .slice A m c) (hr : Reads w B size A m news) (h1 : ∀ u ∈ news, u.oneCell' = true)
  (k : Nat) (ys : List Value) (hk : n + m = k) (hys : xs ++ news = ys) (hlen : k ≤ 1000000000) (hby : bytes ≤ 1000) (hbase : base ≤ w.heap.size)
  (h : ∀ A' c' w', w'.ownsRow base e size (.slice A' k c') k ys → w.grownBy w' v.ownBlock → k ≤ c' → c' ≤ 9223372036854775807 → wpList P ops Q rest (a.put o.dst (.slice A' k c')) w') : wpList P ops Q (o :: rest) a w := by
 obtain ⟨i, hi1, hi2⟩ := Option.map_eq_some_iff.1 hi
 simp only [Prod.mk.injEq] at hi2
 refine wpList_append_any w hgd s x t ho base e i z size bytes ht hi1 hi2.1 hi2.2.1 hi2.2.2 hzs hsz v n xs hs hown B A m c news hx hr h1 (by simp only [maxLen]; omega) ?_ hbase ?_
 ·have h2 : (n + m) * bytes ≤ 1000000000 * 1000 := Nat.mul_le_mul (by omega) hby
  omega
 ·intro v' w' ho' hg' _
  rw [hk, hys] at ho'
  obtain ⟨A', c', rfl, h3, h4⟩ := own_slice ho'
  exact h A' c' w' ho' hg' h3 h4
theorem Reads.made {w : World} {g size : Nat} {t : TypeId} {cs : Array Value} (h : Blk w g t cs) (hs : cs.size = size) : Reads w (g + 1) size (some ⟨g, 0, none⟩) 1 cs.toList := by
 refine ⟨by simp [hs], fun _ => ⟨g, 0, rfl, by omega, fun j x hx => ?_⟩⟩
 rw [h.cell, Nat.zero_add]
 simpa using hx
def RowI (w : World) (g : Nat) (t : TypeId) (zs : List Int) : Prop := ∃ cur : Array Value, Blk w g t cur ∧ ∀ (j : Nat) (h : j < zs.length), cur[j]? = some (.int .i64 zs[j])
theorem RowI.cell {w : World} {g : Nat} {t : TypeId} {zs : List Int} (h : RowI w g t zs) (j : Nat) (hj : j < zs.length) : w.cell? ⟨g, j, none⟩ = some (.int .i64 zs[j]) := by
 obtain ⟨cur, hb, hc⟩ := h
 rw [hb.cell]; exact hc j hj
theorem RowI.frozen {w : World} {g : Nat} {t : TypeId} {zs : List Int} (h : RowI w g t zs) (j : Nat) : w.frozen? ⟨g, j, none⟩ = false := by
 obtain ⟨cur, hb, hc⟩ := h
 exact hb.frozen j
theorem RowI.lt {w : World} {g : Nat} {t : TypeId} {zs : List Int} (h : RowI w g t zs) : g < w.heap.size := by
 obtain ⟨cur, hb, hc⟩ := h
 exact hb.lt
theorem RowI.drew {w : World} {g : Nat} {t : TypeId} {zs : List Int} (h : RowI w g t zs) : RowI w.drew g t zs := h
theorem RowI.set_ {w : World} {g : Nat} {t : TypeId} {zs : List Int} (h : RowI w g t zs) (i : Nat) (hi : i < zs.length) (v : Int) : RowI (w.setCell ⟨g, i, none⟩ (.int .i64 v)) g t (zs.set i v) := by
 obtain ⟨cur, hb, hc⟩ := h
 refine ⟨_, hb.set_ i _, fun j hj => ?_⟩
 have hj' : j < zs.length := by simpa using hj
 have hcj := hc j hj'
 have hlt : j < cur.size := (Array.getElem?_eq_some_iff.1 hcj).1
 rw [List.getElem_set]
 by_cases e : i = j
 ·subst e; simp [hlt]
 ·rw [Array.getElem?_setIfInBounds_ne e, if_neg e]; exact hcj
theorem RowI.reads {w : World} {g : Nat} {t : TypeId} {zs : List Int} (h : RowI w g t zs) : Reads w w.heap.size 1 (some ⟨g, 0, none⟩) zs.length (zs.map (Value.int .i64)) := by
 refine ⟨by simp, fun _ => ⟨g, 0, rfl, h.lt, fun j u hu => ?_⟩⟩
 obtain ⟨hj, e⟩ := List.getElem?_eq_some_iff.1 hu
 simp only [List.length_map] at hj
 simp only [List.getElem_map] at e
 rw [Nat.zero_add, h.cell j hj, e]
theorem RowI.of_own {w : World} {base g n c : Nat} {t : TypeId} {zs : List Int} (h : w.ownsRow base t 1 (.slice (some ⟨g, 0, none⟩) n c) n (zs.map (Value.int .i64))) : RowI w g t zs ∧ base ≤ g := by
 rcases h.2 with ⟨h1, _⟩ | ⟨g', cap, cur, hv, hb, hg, _, _, _, ht⟩
 ·cases h1
 ·injection hv with h1 _ h2
  injection h1 with h1
  injection h1 with h1
  subst h1
  refine ⟨⟨cur, hg, fun j hj => ?_⟩, hb⟩
  have hl := h.1
  simp only [List.length_map, Nat.mul_one] at hl
  have := congrArg (fun l => l[j]?) ht
  simp only [Nat.mul_one, List.getElem?_take, List.getElem?_map, List.getElem?_eq_getElem hj, Option.map_some] at this
  rw [if_pos (by omega)] at this
  simpa using this

theorem RowI.far {w : World} {g : Nat} {t : TypeId} {zs : List Int} (h : RowI w g t zs) {p : Addr} (hp : g ≠ p.block) (u : Value) : RowI (w.setCell p u) g t zs := by
 obtain ⟨cur, hb, hc⟩ := h
 exact ⟨cur, hb.far hp u, hc⟩
theorem RowI.alloc {w : World} {g : Nat} {t : TypeId} {zs : List Int} (h : RowI w g t zs) (o : Obj) : RowI (w.alloc o) g t zs := by
 obtain ⟨cur, hb, hc⟩ := h
 exact ⟨cur, hb.alloc o, hc⟩
theorem RowI.chain {w w' : World} {g : Nat} {t : TypeId} {zs : List Int} (h : RowI w g t zs) (hb : Below w.heap.size w w') : RowI w' g t zs := by
 obtain ⟨cur, hk, hc⟩ := h
 exact ⟨cur, hk.call hb, hc⟩

end Go.Proofs.Ytlgbadlgfdlheaa
