/-
  Walks over abstract values: what a slot holds is said by what it reads as, not where it lies. Over whatever program. No condition.
-/
import Derived.Test.YtimlkhbedhjehaaLib
import Derived.Test.YtimlkhbedhjehaaApp
import Derived.OrdersIn
import Derived.TacticsIn
import Derived.RangeFuncLeaves
import Derived.RangeFuncRecord
namespace Go.Proofs.Ytimlkhbedhjehaa
open Go.RowKit
set_option linter.unusedSimpArgs false
set_option linter.unusedVariables false

/-- An abstract value. -/
inductive AV where
  | v (x : Value)
  | agg (cs : List AV)
  | tup (vs : List AV)
  | sl (size : Nat) (xs : List (List AV))
  | own (id n : Nat)
  | ref (id off : Nat)
  | eref (id n i off : Nat)
  | el (cs : List AV)
  | clo (fn : Fn) (first cap : List AV)

inductive SObj where
  | box (t : TypeId) (cs : List AV)
  | row (e : TypeId) (size : Nat) (xs : List (List AV))
abbrev Store := List (Nat × SObj)

def find {α : Type} : List (Nat × α) → Nat → Option α
  | [], _ => none
  | (k, x) :: l, i => match Nat.beq k i with
    | true => some x
    | false => find l i
def upd {α : Type} : List (Nat × α) → Nat → α → List (Nat × α)
  | [], i, x => [(i, x)]
  | (k, y) :: l, i, x => match Nat.beq k i with
    | true => (k, x) :: l
    | false => (k, y) :: upd l i x
def del {α : Type} : List (Nat × α) → Nat → List (Nat × α)
  | [], _ => []
  | (k, y) :: l, i => match Nat.beq k i with
    | true => del l i
    | false => (k, y) :: del l i
theorem find_cons {α : Type} (k i : Nat) (x : α) (l : List (Nat × α)) : find ((k, x) :: l) i = if k = i then some x else find l i := by
  simp only [find]
  by_cases h : k = i
  · subst h; rw [Nat.beq_refl]; simp
  · rw [if_neg h]
    have : Nat.beq k i = false := by
      cases hb : Nat.beq k i
      · rfl
      · exact absurd (Nat.eq_of_beq_eq_true hb) h
    rw [this]
theorem find_upd {α : Type} (l : List (Nat × α)) (i j : Nat) (x : α) : find (upd l i x) j = if i = j then some x else find l j := by
  induction l with
  | nil => simp [upd, find_cons, find]
  | cons p l ih =>
    obtain ⟨k, y⟩ := p
    simp only [upd]
    cases hb : Nat.beq k i
    · have hk : k ≠ i := fun h => by subst h; rw [Nat.beq_refl] at hb; cases hb
      simp only [find_cons, ih]
      by_cases h1 : k = j
      · subst h1; simp [Ne.symm hk]
      · simp [h1]
    · have hk := Nat.eq_of_beq_eq_true hb
      subst hk
      simp only [find_cons]
      by_cases h1 : k = j <;> simp [h1]
theorem find_del {α : Type} (l : List (Nat × α)) (i j : Nat) : find (del l i) j = if i = j then none else find l j := by
  induction l with
  | nil => simp [del, find]
  | cons p l ih =>
    obtain ⟨k, y⟩ := p
    simp only [del]
    cases hb : Nat.beq k i
    · have hk : k ≠ i := fun h => by subst h; rw [Nat.beq_refl] at hb; cases hb
      simp only [find_cons, ih]
      by_cases h1 : k = j
      · subst h1; simp [Ne.symm hk]
      · simp [h1]
    · have hk := Nat.eq_of_beq_eq_true hb
      subst hk
      simp only [find_cons, ih]
      by_cases h1 : k = j <;> simp [h1]

/-- A value that holds no memory. -/
def scal : Value → Bool
  | .bool _ | .int _ _ | .string _ | .nilFunc | .nilIface | .pointer none | .slice none 0 0 | .tuple #[] => true
  | _ => false
def blk : Value → Option Nat
  | .pointer (some a) => some a.block
  | .slice (some a) _ _ => some a.block
  | _ => none

/-- Cells that are read from an address on; not in the blocks A. -/
def ReadsA (w : World) (A : Nat → Prop) (ad : Option Addr) (us : List Value) : Prop :=
  us = [] ∨ ∃ b off, ad = some ⟨b, off, none⟩ ∧ ¬ A b ∧ b < w.heap.size ∧ ∀ j u, us[j]? = some u → w.cell? ⟨b, off + j, none⟩ = some u

mutual
/-- A value stands for an abstract one. -/
def rep (σ : Store) (μ : Nat → Value) (w : World) (A : Nat → Prop) : AV → Value → Prop
  | .v x, y => y = x ∧ scal x = true
  | .agg cs, y => ∃ us : List Value, y = .agg us.toArray ∧ repC σ μ w A cs us
  | .tup vs, y => ∃ us : List Value, y = .tuple us.toArray ∧ repL σ μ w A vs us
  | .sl size xs, y => ∃ ad c us, y = .slice ad xs.length c ∧ xs.length ≤ c ∧ c ≤ maxLen ∧ ReadsA w A ad us ∧ repLL [] μ w A size xs us
  | .own id n, y => y.oneCell' = true ∧ ∃ e size xs, find σ id = some (.row e size xs) ∧ n ≤ xs.length ∧ (n = xs.length → y = μ id)
  | .ref id off, y => ∃ t cs g, find σ id = some (.box t cs) ∧ off ≤ cs.length ∧ μ id = .pointer (some ⟨g, 0, none⟩) ∧ y = .pointer (some ⟨g, off, none⟩)
  | .eref id n i off, y => y.oneCell' = true ∧ ∃ e size xs, find σ id = some (.row e size xs) ∧ n ≤ xs.length ∧ (n = xs.length → ∃ g c, i < n ∧ off ≤ size ∧ μ id = .slice (some ⟨g, 0, none⟩) n c ∧ y = .pointer (some ⟨g, i * size + off, none⟩))
  | .el cs, y => ∃ b off us, y = .pointer (some ⟨b, off, none⟩) ∧ ReadsA w A (some ⟨b, off, none⟩) us ∧ repC [] μ w A cs us
  | .clo fn first cap, y => ∃ us ks : List Value, y = .func fn us.toArray ks.toArray ∧ repL σ μ w A first us ∧ repL σ μ w A cap ks
def repL (σ : Store) (μ : Nat → Value) (w : World) (A : Nat → Prop) : List AV → List Value → Prop
  | [], us => us = []
  | c :: cs, us => ∃ u us', us = u :: us' ∧ rep σ μ w A c u ∧ repL σ μ w A cs us'
def repC (σ : Store) (μ : Nat → Value) (w : World) (A : Nat → Prop) : List AV → List Value → Prop
  | [], us => us = []
  | c :: cs, us => ∃ u us', us = u :: us' ∧ u.oneCell' = true ∧ rep σ μ w A c u ∧ repC σ μ w A cs us'
def repLL (σ : Store) (μ : Nat → Value) (w : World) (A : Nat → Prop) (size : Nat) : List (List AV) → List Value → Prop
  | [], us => us = []
  | x :: xs, us => ∃ u1 u2, us = u1 ++ u2 ∧ u1.length = size ∧ repC σ μ w A x u1 ∧ repLL σ μ w A size xs u2
end

section
variable {σ σ' : Store} {μ μ' : Nat → Value} {w w' : World} {A A' : Nat → Prop}
theorem ReadsA.mono {ad : Option Addr} {us : List Value} (h : ReadsA w A ad us) (h1 : ∀ b, ¬ A b → b < w.heap.size → w'.heap[b]? = w.heap[b]? ∧ ¬ A' b) (h2 : w.heap.size ≤ w'.heap.size) : ReadsA w' A' ad us := by
  rcases h with h | ⟨b, off, e, ha, hb, hc⟩
  · exact .inl h
  · obtain ⟨h3, h4⟩ := h1 b ha hb
    exact .inr ⟨b, off, e, h4, by omega, fun j u hu => (World.cell?_of_block (w := w) (a := ⟨b, off + j, none⟩) h3).trans (hc j u hu)⟩

/-- how a store and a world may go on -/
structure Step (σ : Store) (μ : Nat → Value) (w : World) (A : Nat → Prop) (σ' : Store) (μ' : Nat → Value) (w' : World) (A' : Nat → Prop) : Prop where
  same : ∀ b, ¬ A b → b < w.heap.size → w'.heap[b]? = w.heap[b]? ∧ ¬ A' b
  size : w.heap.size ≤ w'.heap.size
  box : ∀ id t cs, find σ id = some (.box t cs) → ∃ cs', find σ' id = some (.box t cs') ∧ cs'.length = cs.length ∧ μ' id = μ id
  row : ∀ id e size xs, find σ id = some (.row e size xs) → ∃ xs', find σ' id = some (.row e size xs') ∧ xs.length ≤ xs'.length ∧ (xs'.length = xs.length → μ' id = μ id)
theorem Step.pure (h : Step σ μ w A σ' μ' w' A') : Step [] μ w A [] μ' w' A' := ⟨h.same, h.size, fun _ _ _ h => by simp [find] at h, fun _ _ _ _ h => by simp [find] at h⟩

mutual
theorem rep_mono {σ σ' : Store} {μ μ' : Nat → Value} {w w' : World} {A A' : Nat → Prop} (hs : Step σ μ w A σ' μ' w' A') : ∀ {x : AV} {y : Value}, rep σ μ w A x y → rep σ' μ' w' A' x y
  | .v x, y, h => by simpa only [rep] using h
  | .agg cs, y, h => by
    simp only [rep] at h ⊢
    obtain ⟨us, e, h1⟩ := h
    exact ⟨us, e, repC_mono hs h1⟩
  | .tup cs, y, h => by
    simp only [rep] at h ⊢
    obtain ⟨us, e, h1⟩ := h
    exact ⟨us, e, repL_mono hs h1⟩
  | .sl size xs, y, h => by
    simp only [rep] at h ⊢
    obtain ⟨ad, c, us, e, h1, h2, h3, h4⟩ := h
    exact ⟨ad, c, us, e, h1, h2, h3.mono hs.same hs.size, repLL_mono hs.pure h4⟩
  | .own id n, y, h => by
    simp only [rep] at h ⊢
    obtain ⟨h0, e, size, xs, h1, h2, h3⟩ := h
    obtain ⟨xs', h4, h5, h6⟩ := hs.row _ _ _ _ h1
    exact ⟨h0, e, size, xs', h4, by omega, fun hn => (h3 (by omega)).trans (h6 (by omega)).symm⟩
  | .ref id off, y, h => by
    simp only [rep] at h ⊢
    obtain ⟨t, cs, g, h1, h2, h3, h4⟩ := h
    obtain ⟨cs', h5, h6, h7⟩ := hs.box _ _ _ h1
    exact ⟨t, cs', g, h5, by omega, h7.trans h3, h4⟩
  | .eref id n i off, y, h => by
    simp only [rep] at h ⊢
    obtain ⟨h0, e, size, xs, h1, h2, h3⟩ := h
    obtain ⟨xs', h4, h5, h6⟩ := hs.row _ _ _ _ h1
    refine ⟨h0, e, size, xs', h4, by omega, fun hn => ?_⟩
    obtain ⟨g, c, h7, h8, h9, h10⟩ := h3 (by omega)
    exact ⟨g, c, h7, h8, (h6 (by omega)).trans h9, h10⟩
  | .el cs, y, h => by
    simp only [rep] at h ⊢
    obtain ⟨b, off, us, e, h1, h2⟩ := h
    exact ⟨b, off, us, e, h1.mono hs.same hs.size, repC_mono hs.pure h2⟩
  | .clo fn first cap, y, h => by
    simp only [rep] at h ⊢
    obtain ⟨us, ks, e, h1, h2⟩ := h
    exact ⟨us, ks, e, repL_mono hs h1, repL_mono hs h2⟩
theorem repL_mono {σ σ' : Store} {μ μ' : Nat → Value} {w w' : World} {A A' : Nat → Prop} (hs : Step σ μ w A σ' μ' w' A') : ∀ {x : List AV} {y : List Value}, repL σ μ w A x y → repL σ' μ' w' A' x y
  | [], y, h => by simpa only [repL] using h
  | c :: cs, y, h => by
    simp only [repL] at h ⊢
    obtain ⟨u, us', e, h1, h2⟩ := h
    exact ⟨u, us', e, rep_mono hs h1, repL_mono hs h2⟩
theorem repC_mono {σ σ' : Store} {μ μ' : Nat → Value} {w w' : World} {A A' : Nat → Prop} (hs : Step σ μ w A σ' μ' w' A') : ∀ {x : List AV} {y : List Value}, repC σ μ w A x y → repC σ' μ' w' A' x y
  | [], y, h => by simpa only [repC] using h
  | c :: cs, y, h => by
    simp only [repC] at h ⊢
    obtain ⟨u, us', e, h0, h1, h2⟩ := h
    exact ⟨u, us', e, h0, rep_mono hs h1, repC_mono hs h2⟩
theorem repLL_mono {σ σ' : Store} {μ μ' : Nat → Value} {w w' : World} {A A' : Nat → Prop} {size : Nat} (hs : Step σ μ w A σ' μ' w' A') : ∀ {x : List (List AV)} {y : List Value}, repLL σ μ w A size x y → repLL σ' μ' w' A' size x y
  | [], y, h => by simpa only [repLL] using h
  | c :: cs, y, h => by
    simp only [repLL] at h ⊢
    obtain ⟨u, us', e, h0, h1, h2⟩ := h
    exact ⟨u, us', e, h0, repC_mono hs h1, repLL_mono hs h2⟩
end
end

/-- the blocks that no reading may meet: those that are kept from it, and those of the store -/
def av (σ : Store) (μ : Nat → Value) (M : Nat → Prop) : Nat → Prop := fun b => M b ∨ ∃ id o, find σ id = some o ∧ blk (μ id) = some b

def ObjRel (σ : Store) (μ : Nat → Value) (w : World) (A : Nat → Prop) (id : Nat) : SObj → Prop
  | .box t cs => ∃ g us, μ id = .pointer (some ⟨g, 0, none⟩) ∧ Blk w g t us.toArray ∧ repC σ μ w A cs us
  | .row e size xs => ∃ us, w.ownsRow 0 e size (μ id) xs.length us ∧ repLL [] μ w A size xs us
structure SRel (σ : Store) (μ : Nat → Value) (w : World) (M : Nat → Prop) : Prop where
  obj : ∀ id o, find σ id = some o → ObjRel σ μ w (av σ μ M) id o
  inj : ∀ id id' o o' g, find σ id = some o → find σ id' = some o' → blk (μ id) = some g → blk (μ id') = some g → id = id'
  lt : ∀ b, M b → b < w.heap.size
  dis : ∀ id o b, find σ id = some o → blk (μ id) = some b → ¬ M b

/-- how a store and a world have gone on since -/
structure Gro (σ : Store) (μ : Nat → Value) (w : World) (σ' : Store) (μ' : Nat → Value) (w' : World) : Prop where
  os : w'.os = w.os
  tape : w'.tape = w.tape
  output : w'.output = w.output
  size : w.heap.size ≤ w'.heap.size
  same : ∀ b, b < w.heap.size → (∀ id o, find σ id = some o → blk (μ id) ≠ some b) → w'.heap[b]? = w.heap[b]?
  fresh : ∀ id o b, find σ' id = some o → blk (μ' id) = some b → b < w.heap.size → ∃ id0 o0, find σ id0 = some o0 ∧ blk (μ id0) = some b
  box : ∀ id t cs, find σ id = some (.box t cs) → ∃ cs', find σ' id = some (.box t cs') ∧ cs'.length = cs.length ∧ μ' id = μ id
  row : ∀ id e size xs, find σ id = some (.row e size xs) → ∃ xs', find σ' id = some (.row e size xs') ∧ xs.length ≤ xs'.length ∧ (xs'.length = xs.length → μ' id = μ id)
section
variable {σ σ' σ'' : Store} {μ μ' μ'' : Nat → Value} {w w' w'' : World} {M : Nat → Prop}
theorem Gro.refl : Gro σ μ w σ μ w := ⟨rfl, rfl, rfl, Nat.le_refl _, fun _ _ _ => rfl, fun id o _ h h1 _ => ⟨id, o, h, h1⟩, fun _ _ cs h => ⟨cs, h, rfl, rfl⟩, fun _ _ _ xs h => ⟨xs, h, Nat.le_refl _, fun _ => rfl⟩⟩
theorem Gro.trans (h : Gro σ μ w σ' μ' w') (k : Gro σ' μ' w' σ'' μ'' w'') : Gro σ μ w σ'' μ'' w'' := by
  refine ⟨k.os.trans h.os, k.tape.trans h.tape, k.output.trans h.output, Nat.le_trans h.size k.size, fun b hb hn => ?_, fun id o b hf hb hl => ?_, fun id t cs hf => ?_, fun id e size xs hf => ?_⟩
  · rw [k.same b (Nat.lt_of_lt_of_le hb h.size) ?_]
    · exact h.same b hb hn
    · intro id o hf he
      obtain ⟨id0, o0, h1, h2⟩ := h.fresh id o b hf he hb
      exact hn id0 o0 h1 h2
  · obtain ⟨id0, o0, h1, h2⟩ := k.fresh id o b hf hb (Nat.lt_of_lt_of_le hl h.size)
    exact h.fresh id0 o0 b h1 h2 hl
  · obtain ⟨cs1, h1, h2, h3⟩ := h.box id t cs hf
    obtain ⟨cs2, h4, h5, h6⟩ := k.box id t cs1 h1
    exact ⟨cs2, h4, h5.trans h2, h6.trans h3⟩
  · obtain ⟨xs1, h1, h2, h3⟩ := h.row id e size xs hf
    obtain ⟨xs2, h4, h5, h6⟩ := k.row id e size xs1 h1
    exact ⟨xs2, h4, by omega, fun hn => (h6 (by omega)).trans (h3 (by omega))⟩
theorem Gro.step (h : Gro σ μ w σ' μ' w') : Step σ μ w (av σ μ M) σ' μ' w' (av σ' μ' M) := by
  refine ⟨fun b hb hl => ⟨h.same b hl (fun id o hf he => hb (.inr ⟨id, o, hf, he⟩)), fun hc => ?_⟩, h.size, h.box, h.row⟩
  rcases hc with hc | ⟨id, o, hf, he⟩
  · exact hb (.inl hc)
  · obtain ⟨id0, o0, h1, h2⟩ := h.fresh id o b hf he hl
    exact hb (.inr ⟨id0, o0, h1, h2⟩)
/-- Only the object at one place has turned. -/
theorem SRel.at_ (h : SRel σ μ w M) (hg : Gro σ μ w σ' μ' w') (k : Nat) (hσ : ∀ id, id ≠ k → find σ' id = find σ id) (hμ : ∀ id, id ≠ k → μ' id = μ id)
    (hw : ∀ id o b, id ≠ k → find σ id = some o → blk (μ id) = some b → w'.heap[b]? = w.heap[b]?)
    (hk : ∀ o, find σ' k = some o → ObjRel σ' μ' w' (av σ' μ' M) k o)
    (hn : ∀ id o b, id ≠ k → find σ id = some o → blk (μ id) = some b → blk (μ' k) ≠ some b) (hm : ∀ b, blk (μ' k) = some b → ¬ M b) : SRel σ' μ' w' M := by
  refine ⟨fun id o hf => ?_, fun id id' o o' g hf hf' hb hb' => ?_, fun b hb => Nat.lt_of_lt_of_le (h.lt b hb) hg.size, fun id o b hf hb => ?_⟩
  rotate_right
  · by_cases e : id = k
    · subst e; exact hm b hb
    · rw [hσ id e] at hf
      rw [hμ id e] at hb
      exact h.dis id o b hf hb
  · by_cases e : id = k
    · subst e; exact hk o hf
    · rw [hσ id e] at hf
      have h1 := h.obj id o hf
      have hst : Step σ μ w (av σ μ M) σ' μ' w' (av σ' μ' M) := hg.step
      cases o with
      | box t cs =>
        obtain ⟨g, us, h2, h3, h4⟩ := h1
        exact ⟨g, us, (hμ id e).trans h2, (hw id _ g e hf (by rw [h2]; rfl)).trans h3, repC_mono hst h4⟩
      | row e' size xs =>
        obtain ⟨us, h2, h3⟩ := h1
        refine ⟨us, ⟨h2.1, ?_⟩, repLL_mono hst.pure h3⟩
        rw [hμ id e]
        rcases h2.2 with h4 | ⟨g, cap, cur, h4, h5, h6, h7⟩
        · exact .inl h4
        · exact .inr ⟨g, cap, cur, h4, h5, (hw id _ g e hf (by rw [h4]; rfl)).trans h6, h7⟩
  · by_cases e : id = k
    · by_cases e' : id' = k
      · rw [e, e']
      · subst e
        rw [hσ id' e'] at hf'
        rw [hμ id' e'] at hb'
        exact absurd hb (hn id' o' g e' hf' hb')
    · by_cases e' : id' = k
      · subst e'
        rw [hσ id e] at hf
        rw [hμ id e] at hb
        exact absurd hb' (hn id o g e hf hb)
      · rw [hσ id e] at hf
        rw [hμ id e] at hb
        rw [hσ id' e'] at hf'
        rw [hμ id' e'] at hb'
        exact h.inj id id' o o' g hf hf' hb hb'
/-- Nothing of the store has turned. -/
theorem SRel.keep (h : SRel σ μ w M) (hb : Below w.heap.size w w') : Gro σ μ w σ μ w' ∧ SRel σ μ w' M := by
  have hg : Gro σ μ w σ μ w' := ⟨hb.os, hb.tape, hb.output, hb.size, fun b hl _ => hb.block b hl, fun id o _ h h1 _ => ⟨id, o, h, h1⟩, fun _ _ cs h => ⟨cs, h, rfl, rfl⟩, fun _ _ _ xs h => ⟨xs, h, Nat.le_refl _, fun _ => rfl⟩⟩
  refine ⟨hg, ⟨fun id o hf => ?_, h.inj, fun b hb => Nat.lt_of_lt_of_le (h.lt b hb) hg.size, h.dis⟩⟩
  have h1 := h.obj id o hf
  have hst : Step σ μ w (av σ μ M) σ μ w' (av σ μ M) := hg.step
  cases o with
  | box t cs =>
    obtain ⟨g, us, h2, h3, h4⟩ := h1
    exact ⟨g, us, h2, h3.call hb, repC_mono hst h4⟩
  | row e' size xs =>
    obtain ⟨us, h2, h3⟩ := h1
    exact ⟨us, own_chain h2 hb, repLL_mono hst.pure h3⟩
end

/-- A frame, as the walk knows it. -/
structure ASt where
  regs : List (Nat × AV)
  σ : Store
/-- What a walk stands in: the world in which the function was entered, the blocks that are kept from it, the store that was handed in. -/
structure Ctx where
  w0 : World
  M : Nat → Prop
  σ0 : Store
  μ0 : Nat → Value
  n : Nat
  rd : Option Nat
  d0 : Nat
def Ctx.F (Γ : Ctx) : Fence := { Fence.wide with round := Γ.rd }
/-- what a function has laid ahead for its way out: nothing but shut lists of deferred calls -/
def Marks (d0 : Nat) (ds : List Deferred) (w : World) : Prop := ds.Nodup ∧ ∀ d ∈ ds, ∃ D, d = { target := .collected D, args := #[] } ∧ d0 ≤ D ∧ w.heap[D]? = some (.deferred (some []))
theorem marks_nil {d0 : Nat} {w : World} : Marks d0 [] w := ⟨List.nodup_nil, fun _ h => nomatch h⟩
theorem marks_gro {σ σ' : Store} {μ μ' : Nat → Value} {d0 : Nat} {w w' : World} {M : Nat → Prop} {ds : List Deferred} (hs : SRel σ μ w M) (hg : Gro σ μ w σ' μ' w') (h : Marks d0 ds w) : Marks d0 ds w' := by
  refine ⟨h.1, fun d hd => ?_⟩
  obtain ⟨D, h1, h2, h3⟩ := h.2 d hd
  refine ⟨D, h1, h2, (hg.same D (Array.getElem?_eq_some_iff.1 h3).1 fun id o hf hb => ?_).trans h3⟩
  have h4 := hs.obj id o hf
  cases o with
  | box t cs =>
    obtain ⟨g, us, h5, h6, _⟩ := h4
    rw [h5] at hb; simp only [blk, Option.some.injEq] at hb; subst hb
    rw [show w.heap[g]? = _ from h6] at h3; cases h3
  | row e size xs =>
    obtain ⟨us, h5, _⟩ := h4
    rcases h5.2 with ⟨h6, _⟩ | ⟨g, cap, cur, h6, _, h7, _⟩
    · rw [h6] at hb; simp [blk] at hb
    · rw [h6] at hb; simp only [blk, Option.some.injEq] at hb; subst hb
      rw [h7] at h3; cases h3
structure Rel (Γ : Ctx) (s : ASt) (μ : Nat → Value) (a : Act) (w : World) : Prop where
  defers : Marks Γ.d0 a.defers w
  tmps : a.tmps.size = Γ.n
  regs : ∀ t x, find s.regs t = some x → rep s.σ μ w (av s.σ μ Γ.M) x (a.tmps.getD t undef)
  store : SRel s.σ μ w Γ.M
  gro : Gro Γ.σ0 Γ.μ0 Γ.w0 s.σ μ w

def noDefer : Op → Bool
  | .defer _ => false
  | _ => true
def nodef : List Oper → Bool
  | [] => true
  | o :: l => noDefer o.op && nodef l
theorem nodef_cons {o : Oper} {l : List Oper} (h : nodef (o :: l) = true) : noDefer o.op = true ∧ nodef l = true := by
  simpa only [nodef, Bool.and_eq_true] using h
theorem nodef_at : ∀ {l : List Oper} {i : Nat} {o : Oper}, nodef l = true → l[i]? = some o → noDefer o.op = true
  | [], i, o, _, h => by simp at h
  | x :: l, 0, o, h, hi => by simp at hi; subst hi; exact (nodef_cons h).1
  | x :: l, i + 1, o, h, hi => nodef_at (nodef_cons h).2 (by simpa using hi)
/-- what an operation does, within a round too -/
theorem up_in {P : Program} {Γ : Ctx} {o : Oper} {a : Act} {w : World} {K : Act → World → Prop} {Q : Exit → Act → World → Prop} (hnd : noDefer o.op = true) (h : o.wp P a w K Q) : o.wpIn Γ.F 0 P a w K Q := by
  refine ⟨fun _ _ => trivial, ?_⟩
  rw [Oper.semAt_eq _ _ _ (fun c hc => by rw [hc] at hnd; cases hnd)]
  unfold Oper.wp at h
  generalize (execOp a.eval o).run P w = r at *
  have hd : Γ.F.depth.isSome = true → 1 ≤ 0 := fun h => by cases h
  cases r with
  | ok x w' =>
    cases x with
    | enter f args => exact ⟨hd, (callsIn_wide (n := 0 - 1)).2 h⟩
    | row row args => exact ⟨hd, fun c cs _ => let ⟨v, w', r, s⟩ := h c cs; ⟨v, w', r, stepsIn_wide.2 s⟩⟩
    | _ => first | exact h | exact h.elim
  | halt x w' => cases x <;> first | exact h | exact h.elim
theorem plain_in {P : Program} {Γ : Ctx} {o : Oper} {ops : Array Oper} {rest : List Oper} {a : Act} {w : World} {Q : Exit → Act → World → Prop} (hnd : nodef (o :: rest) = true) (hg : o.guard = none)
    (h : ∀ K : Act → World → Prop, (∀ a w, wpListIn Γ.F 0 P ops Q rest a w → K a w) → o.wp P a w K Q) : wpListIn Γ.F 0 P ops Q (o :: rest) a w :=
  wpListIn_plain hg fun K hK => up_in (nodef_cons hnd).1 (h K hK)
section
variable (P : Program) (Γ : Ctx)
def AK (Q : Exit → ASt → Prop) : Exit → Act → World → Prop := fun e a w => ∃ s μ, Rel Γ s μ a w ∧ Q e s
structure AWP (c : Code) (Q : Exit → ASt → Prop) (s : ASt) : Prop where
  out : ∀ μ a w, Rel Γ s μ a w → c.wpIn Γ.F 0 P (AK Γ Q) a w
structure AOps (ops : Array Oper) (rest : List Oper) (Q : Exit → ASt → Prop) (s : ASt) : Prop where
  out : nodef rest = true → ∀ μ a w, Rel Γ s μ a w → wpListIn Γ.F 0 P ops (AK Γ Q) rest a w
end
section
variable {P : Program} {Γ : Ctx} {Q Q' : Exit → ASt → Prop} {s : ASt}
theorem AWP.mono {c : Code} (h : AWP P Γ c Q s) (hq : ∀ e s, Q e s → Q' e s) : AWP P Γ c Q' s :=
  ⟨fun μ a w hr => wpIn_mono (h.out μ a w hr) (fun e a w ⟨s', μ', h1, h2⟩ => ⟨s', μ', h1, hq _ _ h2⟩)⟩
def AThen (next : ASt → Prop) (Q : Exit → ASt → Prop) : Exit → ASt → Prop
  | .normal, s => next s
  | e, s => Q e s
def AInBlock (id : Nat) (Q : Exit → ASt → Prop) : Exit → ASt → Prop
  | .exit id', s => match Nat.beq id' id with | true => Q .normal s | false => Q (.exit id') s
  | e, s => Q e s
theorem a_seq {x y : Code} (h : AWP P Γ x (AThen (AWP P Γ y Q) Q) s) : AWP P Γ (.seq x y) Q s := by
  refine ⟨fun μ a w hr => ?_⟩
  refine wpIn_seq (wpIn_mono (h.out μ a w hr) ?_)
  rintro e a w ⟨s', μ', h1, h2⟩
  cases e <;> first | exact AWP.out h2 μ' a w h1 | exact ⟨s', μ', h1, h2⟩
theorem a_skip (h : Q .normal s) : AWP P Γ .skip Q s := ⟨fun μ a w hr => wpIn_skip ⟨s, μ, hr, h⟩⟩
theorem a_ret (h : Q .ret s) : AWP P Γ .ret Q s := ⟨fun μ a w hr => wpIn_ret ⟨s, μ, hr, h⟩⟩
theorem a_exit {id : Nat} (h : Q (.exit id) s) : AWP P Γ (.exit id) Q s := ⟨fun μ a w hr => wpIn_exit ⟨s, μ, hr, h⟩⟩
theorem a_block {id : Nat} {c : Code} (h : AWP P Γ c (AInBlock id Q) s) : AWP P Γ (.block id c) Q s := by
  refine ⟨fun μ a w hr => ?_⟩
  refine wpIn_block (wpIn_mono (h.out μ a w hr) ?_)
  rintro e a w ⟨s', μ', h1, h2⟩
  cases e with
  | exit id' =>
    by_cases hid : id' = id
    · have hb : Nat.beq id' id = true := by rw [hid]; exact Nat.beq_refl id
      have h3 : Q .normal s' := by simpa only [AInBlock, hb] using h2
      simp only [Exit.inBlock, hid, if_true]
      exact ⟨s', μ', h1, h3⟩
    · have hb : Nat.beq id' id = false := by
        cases h : Nat.beq id' id
        · rfl
        · exact absurd (Nat.eq_of_beq_eq_true h) hid
      have h3 : Q (.exit id') s' := by simpa only [AInBlock, hb] using h2
      simp only [Exit.inBlock, hid, if_false]
      exact ⟨s', μ', h1, h3⟩
  | _ => exact ⟨s', μ', h1, h2⟩
theorem a_cond {t : Nat} {b : Bool} {x y : Code} (hv : find s.regs t = some (.v (.bool b))) (ht : b = true → AWP P Γ x Q s) (hf : b = false → AWP P Γ y Q s) : AWP P Γ (.cond (.tmp t) x y) Q s := by
  refine ⟨fun μ a w hr => ?_⟩
  have h1 := hr.regs t _ hv
  simp only [rep] at h1
  exact wpIn_cond_split (t := b) (show a.eval (.tmp t) = _ from h1.1) (fun h => (ht h).out μ a w hr) (fun h => (hf h).out μ a w hr)
theorem a_region {id : Nat} {l : List Oper} (h : AOps P Γ l.toArray l Q s) (hnd : nodef l = true := by rfl) : AWP P Γ (.region id l.toArray false) Q s := ⟨fun μ a w hr => wpIn_region_lit (h.out hnd μ a w hr)⟩
theorem o_nil {ops : Array Oper} (h : Q .normal s) : AOps P Γ ops [] Q s := ⟨fun _ μ a w hr => ⟨s, μ, hr, h⟩⟩
end
/-- what an operand stands for -/
def con : Value → AV
  | .agg cs => .agg (cs.toList.map .v)
  | x => .v x
def okCon : Value → Bool
  | .agg cs => cs.toList.all fun c => scal c && c.oneCell'
  | x => scal x
def ev (s : ASt) : Operand → Option AV
  | .tmp t => find s.regs t
  | .const x => match okCon x with | true => some (con x) | false => none
  | .func f => some (.clo (.func f) [] [])
  | .global _ => none
section
variable {P : Program} {Γ : Ctx} {Q Q' : Exit → ASt → Prop} {s : ASt} {σ : Store} {μ : Nat → Value} {w : World} {A : Nat → Prop}
theorem repC_con : ∀ {cs : List Value}, (cs.all fun c => scal c && c.oneCell') = true → repC σ μ w A (cs.map .v) cs
  | [], _ => by simp [repC]
  | c :: cs, h => by
    simp only [List.all_cons, Bool.and_eq_true] at h
    obtain ⟨⟨h1, h2⟩, h3⟩ := h
    simp only [List.map_cons, repC]
    exact ⟨c, cs, rfl, h2, by simp only [rep]; exact ⟨trivial, h1⟩, repC_con h3⟩
theorem rep_con {x : Value} (h : okCon x = true) : rep σ μ w A (con x) x := by
  cases x with
  | agg cs =>
    simp only [okCon] at h
    simp only [con, rep]
    exact ⟨cs.toList, by simp, repC_con h⟩
  | _ => simp only [okCon] at h; simp only [con, rep]; exact ⟨trivial, h⟩
theorem Rel.ev {a : Act} (hr : Rel Γ s μ a w) {x : Operand} {y : AV} (h : ev s x = some y) : rep s.σ μ w (av s.σ μ Γ.M) y (a.eval x) := by
  cases x with
  | tmp t => exact hr.regs t y h
  | const c =>
    simp only [Proofs.Ytimlkhbedhjehaa.ev] at h
    split at h
    · rename_i hc; injection h with h; subst h; exact rep_con hc
    · cases h
  | func f =>
    simp only [Proofs.Ytimlkhbedhjehaa.ev, Option.some.injEq] at h
    subst h
    simp only [rep, repL]
    exact ⟨[], [], rfl, rfl, rfl⟩
  | global g => simp [Proofs.Ytimlkhbedhjehaa.ev] at h
/-- what an operation lays down -/
def ASt.eff (s : ASt) (er : List (Nat × AV)) (eσ : List (Nat × SObj)) : ASt := ⟨er ++ s.regs, eσ ++ s.σ⟩
def dst1 (d : Option Tmp) (x : AV) : List (Nat × AV) := match d with
  | some d => [(d, x)]
  | none => []
def okDst (n : Nat) : Option Tmp → Bool
  | some d => Nat.ble (d + 1) n
  | none => true
theorem Rel.put {a : Act} (hr : Rel Γ s μ a w) {d : Option Tmp} (hd : okDst Γ.n d = true) {x : AV} {y : Value} (h : rep s.σ μ w (av s.σ μ Γ.M) x y) : Rel Γ (s.eff (dst1 d x) []) μ (a.put d y) w := by
  cases d with
  | none => exact hr
  | some d =>
    have hlt : d < a.tmps.size := by rw [hr.tmps]; exact Nat.le_of_ble_eq_true hd
    refine ⟨hr.defers, by simpa [Act.put] using hr.tmps, fun t z hz => ?_, hr.store, hr.gro⟩
    simp only [ASt.eff, dst1, List.cons_append, List.nil_append, find_cons] at hz ⊢
    simp only [Act.put]
    split at hz
    · rename_i e; subst e; injection hz with hz; subst hz
      simpa [Array.getD_eq_getD_getElem?, hlt] using h
    · rename_i e
      have := hr.regs t z hz
      simpa [Array.getD_eq_getD_getElem?, Array.getElem?_setIfInBounds_ne e] using this
/-- The world goes on, the store does not. -/
theorem Rel.world {a : Act} {w' : World} (hr : Rel Γ s μ a w) (hb : Below w.heap.size w w') : Rel Γ s μ a w' := by
  obtain ⟨hg, hs⟩ := hr.store.keep hb
  exact ⟨marks_gro hr.store hg hr.defers, hr.tmps, fun t x hx => rep_mono hg.step (hr.regs t x hx), hs, hr.gro.trans hg⟩
/-- The store goes on. -/
theorem Rel.goes {a : Act} {w' : World} {σ' : Store} {μ' : Nat → Value} (hr : Rel Γ s μ a w) (hg : Gro s.σ μ w σ' μ' w') (hs : SRel σ' μ' w' Γ.M) : Rel Γ ⟨s.regs, σ'⟩ μ' a w' :=
  ⟨marks_gro hr.store hg hr.defers, hr.tmps, fun t x hx => rep_mono hg.step (hr.regs t x hx), hs, hr.gro.trans hg⟩

end
inductive Loc where
  | reg (t : Nat)
  | obj (id : Nat)
def Agree (s t : ASt) : List Loc → Prop
  | [] => True
  | .reg r :: l => find t.regs r = find s.regs r ∧ Agree s t l
  | .obj i :: l => find t.σ i = find s.σ i ∧ Agree s t l
theorem Agree.refl (s : ASt) : ∀ l, Agree s s l
  | [] => trivial
  | .reg _ :: l => ⟨rfl, Agree.refl s l⟩
  | .obj _ :: l => ⟨rfl, Agree.refl s l⟩
def rd (x : Operand) (l : List Loc) : List Loc := match x with
  | .tmp t => .reg t :: l
  | _ => l
theorem Agree.ev {s t : ASt} {x : Operand} {l : List Loc} (h : Agree s t (rd x l)) {y : Option AV} (hx : ev s x = y) : ev t x = y ∧ Agree s t l := by
  cases x with
  | tmp t => exact ⟨h.1.trans hx, h.2⟩
  | _ => exact ⟨hx, h⟩
section
variable (P : Program) (Γ : Ctx)
/-- An operation goes from an abstract frame to another one. -/
def Does (o : Oper) (s s' : ASt) : Prop := ∀ (Q : Exit → Act → World → Prop) μ a w, Rel Γ s μ a w → ∀ K : Act → World → Prop, (∀ μ' a' w', Rel Γ s' μ' a' w' → K a' w') → o.wp P a w K Q
/-- .. whatever else the frame holds: it looks at the places R, and lays down er and eσ. -/
structure LS (o : Oper) (s : ASt) (R : List Loc) (er : List (Nat × AV)) (eσ : List (Nat × SObj)) : Prop where
  out : ∀ t, Agree s t R → ∀ (Q : Exit → Act → World → Prop) μ a w, Rel Γ t μ a w → ∀ K : Act → World → Prop, (∀ μ' a' w', Rel Γ (t.eff er eσ) μ' a' w' → K a' w') → o.wp P a w K Q
end
section
variable {P : Program} {Γ : Ctx} {Q Q' : Exit → ASt → Prop} {s : ASt} {σ : Store} {μ : Nat → Value} {w : World} {A : Nat → Prop} {ops : Array Oper} {rest : List Oper}
theorem o_do {dst : Option Tmp} {op : Op} {ty : TypeId} {pos : String} {after : Array Edge} {R : List Loc} {er : List (Nat × AV)} {eσ : List (Nat × SObj)} (h : LS P Γ ⟨dst, op, ty, pos, after, none⟩ s R er eσ) (hk : AOps P Γ ops rest Q (s.eff er eσ)) : AOps P Γ ops (⟨dst, op, ty, pos, after, none⟩ :: rest) Q s :=
  ⟨fun hnd μ a w hr => plain_in hnd rfl fun K hK => h.out s (Agree.refl s R) _ μ a w hr K fun μ' a' w' hr' => hK _ _ (hk.out (nodef_cons hnd).2 μ' a' w' hr')⟩
/-- A value that turns nothing. -/
theorem ls_pure {o : Oper} {R : List Loc} {x : AV} (hd : okDst Γ.n o.dst = true)
    (h : ∀ t, Agree s t R → ∀ μ a w, Rel Γ t μ a w → ∃ y, (execOp a.eval o).run P w = .ok (.value y) w ∧ rep t.σ μ w (av t.σ μ Γ.M) x y) : LS P Γ o s R (dst1 o.dst x) [] := by
  refine ⟨fun t ht Q μ a w hr K hK => ?_⟩
  obtain ⟨y, h1, h2⟩ := h t ht μ a w hr
  unfold Oper.wp
  rw [h1]
  exact hK _ _ _ (hr.put hd h2)
theorem yielded_reg {ops : Array Oper} {a : Act} (hr : Rel Γ s μ a w) {j : Nat} {t : Tmp} {x : Value} (hj : (ops[j]?).bind (·.dst) = some t) (hb : find s.regs t = some (.v x)) (hx : x ≠ undef) : yielded ops a.tmps j = match x with | .bool b => some b | _ => none := by
  have h1 := hr.regs t _ hb
  simp only [rep] at h1
  have hlt : t < a.tmps.size := by
    rcases Nat.lt_or_ge t a.tmps.size with h | h
    · exact h
    · rw [Array.getD_eq_getD_getElem?, Array.getElem?_eq_none h] at h1
      exact absurd h1.1.symm hx
  have h2 : a.tmps[t]? = some x := by
    have := h1.1
    rw [Array.getD_eq_getD_getElem?, Array.getElem?_eq_getElem hlt] at this
    rw [Array.getElem?_eq_getElem hlt]
    simpa using this
  unfold yielded
  rw [hj]
  simp only [Option.bind_some, h2]
  cases x <;> rfl
/-- a guard that says yes -/
theorem o_yes {ops : Array Oper} {dst : Option Tmp} {op : Op} {ty : TypeId} {pos : String} {after : Array Edge} {rest : List Oper} {j : Nat} {want b : Bool} {t : Tmp} (hj : (ops[j]?).bind (·.dst) = some t)
    (hb : find s.regs t = some (.v (.bool b))) (he : b = want) (hk : AOps P Γ ops (⟨dst, op, ty, pos, after, none⟩ :: rest) Q s) : AOps P Γ ops (⟨dst, op, ty, pos, after, some (j, want)⟩ :: rest) Q s := by
  refine ⟨fun hnd μ a w hr => ?_⟩
  have h1 := hk.out hnd μ a w hr
  unfold wpListIn at h1 ⊢
  have h2 : Region.wanted ⟨dst, op, ty, pos, after, some (j, want)⟩ (yielded ops a.tmps) = true := by
    simp only [Region.wanted, yielded_reg hr hj hb (by simp [undef]), he]
    simp
  rw [h2]
  rw [if_pos (by rfl)] at h1
  exact h1
/-- a guard that says no -/
theorem o_no {ops : Array Oper} {dst : Option Tmp} {op : Op} {ty : TypeId} {pos : String} {after : Array Edge} {rest : List Oper} {j : Nat} {want b : Bool} {t : Tmp} (hd : okDst Γ.n dst = true) (hj : (ops[j]?).bind (·.dst) = some t)
    (hb : find s.regs t = some (.v (.bool b))) (he : b ≠ want) (hk : AOps P Γ ops rest Q (s.eff (dst1 dst (.v undef)) [])) : AOps P Γ ops (⟨dst, op, ty, pos, after, some (j, want)⟩ :: rest) Q s := by
  refine ⟨fun hnd μ a w hr => ?_⟩
  unfold wpListIn
  have h2 : Region.wanted ⟨dst, op, ty, pos, after, some (j, want)⟩ (yielded ops a.tmps) = false := by
    simp only [Region.wanted, yielded_reg hr hj hb (by simp [undef])]
    simpa using he
  rw [h2]
  refine ⟨fun _ _ => trivial, ?_⟩
  exact hk.out (nodef_cons hnd).2 _ _ _ (hr.put hd (by simp only [rep]; exact ⟨trivial, rfl⟩))
/-- .. because what it looks at was not asked itself -/
theorem o_no' {ops : Array Oper} {dst : Option Tmp} {op : Op} {ty : TypeId} {pos : String} {after : Array Edge} {rest : List Oper} {j : Nat} {want : Bool} {t : Tmp} (hd : okDst Γ.n dst = true) (hj : (ops[j]?).bind (·.dst) = some t)
    (hb : find s.regs t = some (.v undef)) (hk : AOps P Γ ops rest Q (s.eff (dst1 dst (.v undef)) [])) : AOps P Γ ops (⟨dst, op, ty, pos, after, some (j, want)⟩ :: rest) Q s := by
  refine ⟨fun hnd μ a w hr => ?_⟩
  have h1 := hr.regs t _ hb
  simp only [rep] at h1
  unfold wpListIn
  have h3 : yielded ops a.tmps j = none := by
    unfold yielded
    rw [hj]
    simp only [Option.bind_some]
    cases h : a.tmps[t]? with
    | none => rfl
    | some x =>
      have := h1.1
      rw [Array.getD_eq_getD_getElem?, h] at this
      simp only [Option.getD_some] at this
      subst this
      rfl
  have h2 : Region.wanted ⟨dst, op, ty, pos, after, some (j, want)⟩ (yielded ops a.tmps) = false := by
    simp only [Region.wanted, h3]
    rfl
  rw [h2]
  refine ⟨fun _ _ => trivial, ?_⟩
  exact hk.out (nodef_cons hnd).2 _ _ _ (hr.put hd (by simp only [rep]; exact ⟨trivial, rfl⟩))
/-- a guard that is not known -/
theorem o_split_t {ops : Array Oper} {dst : Option Tmp} {op : Op} {ty : TypeId} {pos : String} {after : Array Edge} {rest : List Oper} {j : Nat} {b : Bool} {t : Tmp} (hd : okDst Γ.n dst = true) (hj : (ops[j]?).bind (·.dst) = some t)
    (hb : find s.regs t = some (.v (.bool b))) (h1 : b = true → AOps P Γ ops (⟨dst, op, ty, pos, after, none⟩ :: rest) Q s) (h2 : b = false → AOps P Γ ops rest Q (s.eff (dst1 dst (.v undef)) [])) : AOps P Γ ops (⟨dst, op, ty, pos, after, some (j, true)⟩ :: rest) Q s := by
  cases hv : b with
  | true => exact o_yes hj hb hv (h1 hv)
  | false => exact o_no hd hj hb (by rw [hv]; decide) (h2 hv)
theorem o_split_f {ops : Array Oper} {dst : Option Tmp} {op : Op} {ty : TypeId} {pos : String} {after : Array Edge} {rest : List Oper} {j : Nat} {b : Bool} {t : Tmp} (hd : okDst Γ.n dst = true) (hj : (ops[j]?).bind (·.dst) = some t)
    (hb : find s.regs t = some (.v (.bool b))) (h1 : b = true → AOps P Γ ops rest Q (s.eff (dst1 dst (.v undef)) [])) (h2 : b = false → AOps P Γ ops (⟨dst, op, ty, pos, after, none⟩ :: rest) Q s) : AOps P Γ ops (⟨dst, op, ty, pos, after, some (j, false)⟩ :: rest) Q s := by
  cases hv : b with
  | true => exact o_no hd hj hb (by rw [hv]; decide) (h1 hv)
  | false => exact o_yes hj hb hv (h2 hv)
theorem a_condT {t : Nat} {x y : Code} (hv : find s.regs t = some (.v (.bool true))) (h : AWP P Γ x Q s) : AWP P Γ (.cond (.tmp t) x y) Q s := a_cond hv (fun _ => h) (fun h => nomatch h)
theorem a_condF {t : Nat} {x y : Code} (hv : find s.regs t = some (.v (.bool false))) (h : AWP P Γ y Q s) : AWP P Γ (.cond (.tmp t) x y) Q s := a_cond hv (fun h => nomatch h) (fun _ => h)
end
end Go.Proofs.Ytimlkhbedhjehaa
