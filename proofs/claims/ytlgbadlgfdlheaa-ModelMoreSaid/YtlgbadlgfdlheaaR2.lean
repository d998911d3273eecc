/-
  Walks over abstract values: what a slot holds is said by what it reads as, not where it lies. Over whatever program. No condition.
    Walks over abstract values: the operations. Over whatever program. No condition.
    Walks over abstract values: memory. Over whatever program. No condition.
    Walks over abstract values: what makes and writes memory. Over whatever program. No condition.
    Walks over abstract values: values of parts, rows. Over whatever program. No condition.
-/
import Derived.OrdersIn
import Derived.TacticsIn
import Derived.RangeFuncLeaves
import Derived.RangeFuncRecord
import Derived.Test.YtlgbadlgfdlheaaR1
set_option linter.unusedSimpArgs false
set_option linter.unusedVariables false
set_option maxHeartbeats 20000000
namespace Go.Proofs.Ytlgbadlgfdlheaa
open Go.RowKit

inductive AV where
 | v (x : Value)
 | agg (cs : List AV)
 | tup (vs : List AV)
 | sl (size : Nat) (xs : List (List AV))
 | own (id n : Nat)
 | ref (id off : Nat)
 | eref (id n i off : Nat)
 | el (cs : List AV)
 | clo (fn : Fn) (first cap : List AV)
 | mp (id : Nat)
 | ifr (t : TypeId) (id off : Nat)
 | ifa (t : TypeId) (vs : List Value)
 | ife

inductive MO where
 | m (es : List (Value × Value))
 | g (es : List (Value × Value)) (b : Nat)
 | it (b n : Nat) (seen : List Nat)
inductive SObj where
 | box (t : TypeId) (cs : List AV)
 | row (e : TypeId) (size : Nat) (xs : List (List AV))
 | mp (es : MO)
 | dead
abbrev Store := List (Nat × SObj)

def find {α : Type} : List (Nat × α) → Nat → Option α
 | [], _ => none
 | (k, x) :: l, i => match Nat.beq k i with
  | true => some x
  | false => find l i
def upd {α : Type} : List (Nat × α) → Nat → α → List (Nat × α)
 | [], i, x => [(i, x)]
 | (k, y) :: l, i, x => match Nat.beq k i with
  | true => (k, x) :: l
  | false => (k, y) :: upd l i x
theorem find_cons {α : Type} (k i : Nat) (x : α) (l : List (Nat × α)) : find ((k, x) :: l) i = if k = i then some x else find l i := by
 simp only [find]
 by_cases h : k = i
 ·subst h; rw [Nat.beq_refl]; simp
 ·rw [if_neg h]
  have : Nat.beq k i = false := by
   cases hb : Nat.beq k i
   ·rfl
   ·exact absurd (Nat.eq_of_beq_eq_true hb) h
  rw [this]
theorem find_upd {α : Type} (l : List (Nat × α)) (i j : Nat) (x : α) : find (upd l i x) j = if i = j then some x else find l j := by
 induction l with
 | nil => simp [upd, find_cons, find]
 | cons p l ih =>
  obtain ⟨k, y⟩ := p
  simp only [upd]
  cases hb : Nat.beq k i
  ·have hk : k ≠ i := fun h => by subst h; rw [Nat.beq_refl] at hb; cases hb
   simp only [find_cons, ih]
   by_cases h1 : k = j
   ·subst h1; simp [Ne.symm hk]
   ·simp [h1]
  ·have hk := Nat.eq_of_beq_eq_true hb
   subst hk
   simp only [find_cons]
   by_cases h1 : k = j <;> simp [h1]
def scal : Value → Bool
 | .bool _ | .int _ _ | .string _ | .nilFunc | .nilIface | .pointer none | .slice none 0 0 | .map none | .tuple #[] => true
 | _ => false
def blk : Value → Option Nat
 | .pointer (some a) => some a.block
 | .slice (some a) _ _ => some a.block
 | .map (some g) => some g
 | _ => none

def ReadsA (w : World) (A : Nat → Prop) (ad : Option Addr) (us : List Value) : Prop :=
 us = [] ∨ ∃ b off, ad = some ⟨b, off, none⟩ ∧ ¬ A b ∧ b < w.heap.size ∧ ∀ j u, us[j]? = some u → w.cell? ⟨b, off + j, none⟩ = some u

mutual
def rep (σ : Store) (μ : Nat → Value) (w : World) (A : Nat → Prop) : AV → Value → Prop
 | .v x, y => y = x ∧ scal x = true
 | .agg cs, y => ∃ us : List Value, y = .agg us.toArray ∧ repC σ μ w A cs us
 | .tup vs, y => ∃ us : List Value, y = .tuple us.toArray ∧ repL σ μ w A vs us
 | .sl size xs, y => ∃ ad c us, y = .slice ad xs.length c ∧ xs.length ≤ c ∧ c ≤ maxLen ∧ ReadsA w A ad us ∧ repLL [] μ w A size xs us
 | .own id n, y => y.oneCell' = true ∧ (find σ id = some .dead ∨ ∃ e size xs, find σ id = some (.row e size xs) ∧ n ≤ xs.length ∧ (n = xs.length → y = μ id))
 | .ref id off, y => ∃ t cs g, find σ id = some (.box t cs) ∧ off ≤ cs.length ∧ μ id = .pointer (some ⟨g, 0, none⟩) ∧ y = .pointer (some ⟨g, off, none⟩)
 | .eref id n i off, y => y.oneCell' = true ∧ (find σ id = some .dead ∨ ∃ e size xs, find σ id = some (.row e size xs) ∧ n ≤ xs.length ∧ (n = xs.length → ∃ g c, i < n ∧ off ≤ size ∧ μ id = .slice (some ⟨g, 0, none⟩) n c ∧ y = .pointer (some ⟨g, i * size + off, none⟩)))
 | .el cs, y => ∃ b off us, y = .pointer (some ⟨b, off, none⟩) ∧ ReadsA w A (some ⟨b, off, none⟩) us ∧ repC [] μ w A cs us
 | .clo fn first cap, y => ∃ us ks : List Value, y = .func fn us.toArray ks.toArray ∧ repL σ μ w A first us ∧ repL σ μ w A cap ks
 | .mp id, y => y.oneCell' = true ∧ y = μ id ∧ ∃ es, find σ id = some (.mp es)
 | .ifr t id off, y => ∃ bt cs g, find σ id = some (.box bt cs) ∧ off ≤ cs.length ∧ μ id = .pointer (some ⟨g, 0, none⟩) ∧ y = .iface t (.pointer (some ⟨g, off, none⟩))
 | .ifa t vs, y => y = .iface t (.agg vs.toArray) ∧ (vs.all fun c => scal c && c.oneCell') = true
 | .ife, y => ∃ t z, y = .iface t z
def repL (σ : Store) (μ : Nat → Value) (w : World) (A : Nat → Prop) : List AV → List Value → Prop
 | [], us => us = []
 | c :: cs, us => ∃ u us', us = u :: us' ∧ rep σ μ w A c u ∧ repL σ μ w A cs us'
def repC (σ : Store) (μ : Nat → Value) (w : World) (A : Nat → Prop) : List AV → List Value → Prop
 | [], us => us = []
 | c :: cs, us => ∃ u us', us = u :: us' ∧ u.oneCell' = true ∧ rep σ μ w A c u ∧ repC σ μ w A cs us'
def repLL (σ : Store) (μ : Nat → Value) (w : World) (A : Nat → Prop) (size : Nat) : List (List AV) → List Value → Prop
 | [], us => us = []
 | x :: xs, us => ∃ u1 u2, us = u1 ++ u2 ∧ u1.length = size ∧ repC σ μ w A x u1 ∧ repLL σ μ w A size xs u2
end

section
variable {σ σ' : Store} {μ μ' : Nat → Value} {w w' : World} {A A' : Nat → Prop}
theorem ReadsA.mono {ad : Option Addr} {us : List Value} (h : ReadsA w A ad us) (h1 : ∀ b, ¬ A b → b < w.heap.size → w'.heap[b]? = w.heap[b]? ∧ ¬ A' b) (h2 : w.heap.size ≤ w'.heap.size) : ReadsA w' A' ad us := by
 rcases h with h | ⟨b, off, e, ha, hb, hc⟩
 ·exact .inl h
 ·obtain ⟨h3, h4⟩ := h1 b ha hb
  exact .inr ⟨b, off, e, h4, by omega, fun j u hu => (World.cell?_of_block (w := w) (a := ⟨b, off + j, none⟩) h3).trans (hc j u hu)⟩

structure Step (σ : Store) (μ : Nat → Value) (w : World) (A : Nat → Prop) (σ' : Store) (μ' : Nat → Value) (w' : World) (A' : Nat → Prop) : Prop where
 same : ∀ b, ¬ A b → b < w.heap.size → w'.heap[b]? = w.heap[b]? ∧ ¬ A' b
 size : w.heap.size ≤ w'.heap.size
 box : ∀ id t cs, find σ id = some (.box t cs) → ∃ cs', find σ' id = some (.box t cs') ∧ cs'.length = cs.length ∧ μ' id = μ id
 row : ∀ id e size xs, find σ id = some (.row e size xs) → find σ' id = some .dead ∨ ∃ xs', find σ' id = some (.row e size xs') ∧ xs.length ≤ xs'.length ∧ (xs'.length = xs.length → μ' id = μ id)
 mp : ∀ id es, find σ id = some (.mp es) → ∃ es', find σ' id = some (.mp es') ∧ μ' id = μ id
 dead : ∀ id, find σ id = some .dead → find σ' id = some .dead
theorem Step.pure (h : Step σ μ w A σ' μ' w' A') : Step [] μ w A [] μ' w' A' := ⟨h.same, h.size, fun _ _ _ h => by simp [find] at h, fun _ _ _ _ h => by simp [find] at h, fun _ _ h => by simp [find] at h, fun _ h => by simp [find] at h⟩

mutual
theorem rep_mono {σ σ' : Store} {μ μ' : Nat → Value} {w w' : World} {A A' : Nat → Prop} (hs : Step σ μ w A σ' μ' w' A') : ∀ {x : AV} {y : Value}, rep σ μ w A x y → rep σ' μ' w' A' x y
 | .v x, y, h => by simpa only [rep] using h
 | .agg cs, y, h => by
  simp only [rep] at h ⊢
  obtain ⟨us, e, h1⟩ := h
  exact ⟨us, e, repC_mono hs h1⟩
 | .tup cs, y, h => by
  simp only [rep] at h ⊢
  obtain ⟨us, e, h1⟩ := h
  exact ⟨us, e, repL_mono hs h1⟩
 | .sl size xs, y, h => by
  simp only [rep] at h ⊢
  obtain ⟨ad, c, us, e, h1, h2, h3, h4⟩ := h
  exact ⟨ad, c, us, e, h1, h2, h3.mono hs.same hs.size, repLL_mono hs.pure h4⟩
 | .own id n, y, h => by
  simp only [rep] at h ⊢
  obtain ⟨h0, hd | ⟨e, size, xs, h1, h2, h3⟩⟩ := h
  ·exact ⟨h0, .inl (hs.dead _ hd)⟩
  rcases hs.row _ _ _ _ h1 with hd | ⟨xs', h4, h5, h6⟩
  ·exact ⟨h0, .inl hd⟩
  exact ⟨h0, .inr ⟨e, size, xs', h4, by omega, fun hn => (h3 (by omega)).trans (h6 (by omega)).symm⟩⟩
 | .ref id off, y, h => by
  simp only [rep] at h ⊢
  obtain ⟨t, cs, g, h1, h2, h3, h4⟩ := h
  obtain ⟨cs', h5, h6, h7⟩ := hs.box _ _ _ h1
  exact ⟨t, cs', g, h5, by omega, h7.trans h3, h4⟩
 | .eref id n i off, y, h => by
  simp only [rep] at h ⊢
  obtain ⟨h0, hd | ⟨e, size, xs, h1, h2, h3⟩⟩ := h
  ·exact ⟨h0, .inl (hs.dead _ hd)⟩
  rcases hs.row _ _ _ _ h1 with hd | ⟨xs', h4, h5, h6⟩
  ·exact ⟨h0, .inl hd⟩
  refine ⟨h0, .inr ⟨e, size, xs', h4, by omega, fun hn => ?_⟩⟩
  obtain ⟨g, c, h7, h8, h9, h10⟩ := h3 (by omega)
  exact ⟨g, c, h7, h8, (h6 (by omega)).trans h9, h10⟩
 | .el cs, y, h => by
  simp only [rep] at h ⊢
  obtain ⟨b, off, us, e, h1, h2⟩ := h
  exact ⟨b, off, us, e, h1.mono hs.same hs.size, repC_mono hs.pure h2⟩
 | .clo fn first cap, y, h => by
  simp only [rep] at h ⊢
  obtain ⟨us, ks, e, h1, h2⟩ := h
  exact ⟨us, ks, e, repL_mono hs h1, repL_mono hs h2⟩
 | .mp id, y, h => by
  simp only [rep] at h ⊢
  obtain ⟨h0, h1, es, h2⟩ := h
  obtain ⟨es', h3, h4⟩ := hs.mp _ _ h2
  exact ⟨h0, h1.trans h4.symm, es', h3⟩
 | .ifr t id off, y, h => by
  simp only [rep] at h ⊢
  obtain ⟨bt, cs, g, h1, h2, h3, h4⟩ := h
  obtain ⟨cs', h5, h6, h7⟩ := hs.box _ _ _ h1
  exact ⟨bt, cs', g, h5, by omega, h7.trans h3, h4⟩
 | .ifa t vs, y, h => by simpa only [rep] using h
 | .ife, y, h => by simpa only [rep] using h
theorem repL_mono {σ σ' : Store} {μ μ' : Nat → Value} {w w' : World} {A A' : Nat → Prop} (hs : Step σ μ w A σ' μ' w' A') : ∀ {x : List AV} {y : List Value}, repL σ μ w A x y → repL σ' μ' w' A' x y
 | [], y, h => by simpa only [repL] using h
 | c :: cs, y, h => by
  simp only [repL] at h ⊢
  obtain ⟨u, us', e, h1, h2⟩ := h
  exact ⟨u, us', e, rep_mono hs h1, repL_mono hs h2⟩
theorem repC_mono {σ σ' : Store} {μ μ' : Nat → Value} {w w' : World} {A A' : Nat → Prop} (hs : Step σ μ w A σ' μ' w' A') : ∀ {x : List AV} {y : List Value}, repC σ μ w A x y → repC σ' μ' w' A' x y
 | [], y, h => by simpa only [repC] using h
 | c :: cs, y, h => by
  simp only [repC] at h ⊢
  obtain ⟨u, us', e, h0, h1, h2⟩ := h
  exact ⟨u, us', e, h0, rep_mono hs h1, repC_mono hs h2⟩
theorem repLL_mono {σ σ' : Store} {μ μ' : Nat → Value} {w w' : World} {A A' : Nat → Prop} {size : Nat} (hs : Step σ μ w A σ' μ' w' A') : ∀ {x : List (List AV)} {y : List Value}, repLL σ μ w A size x y → repLL σ' μ' w' A' size x y
 | [], y, h => by simpa only [repLL] using h
 | c :: cs, y, h => by
  simp only [repLL] at h ⊢
  obtain ⟨u, us', e, h0, h1, h2⟩ := h
  exact ⟨u, us', e, h0, repC_mono hs h1, repLL_mono hs h2⟩
end
end

def av (σ : Store) (μ : Nat → Value) (M : Nat → Prop) : Nat → Prop := fun b => M b ∨ ∃ id o, find σ id = some o ∧ blk (μ id) = some b

def Borns (ents : Array MapEntry) (ck : Nat) : Prop := ck = ents.size ∧ ∀ (i : Nat) (e : MapEntry), ents[i]? = some e → e.born = i
def HP (w : World) (g : Nat) (cur : Array Value) (e : TypeId) : Prop := ∃ (e' : TypeId) (fz : Nat × Nat), w.heap[g]? = some (.cells cur e' fz) ∧ (Nat.blt e 1048576 = true → e' = e ∧ fz = (0, 0)) ∧ (Nat.blt e 1048576 = false → e' = e - 1048576 ∧ (fz = (0, 0) ∨ fz.1 = cur.size))
def OwnS (w : World) (e : TypeId) (size : Nat) (v : Value) (n : Nat) (xs : List Value) : Prop :=
 xs.length = n * size ∧ ((v = .slice none 0 0 ∧ n = 0) ∨ ∃ g cap cur, v = .slice (some ⟨g, 0, none⟩) n cap ∧ 0 ≤ g ∧ HP w g cur e ∧ n ≤ cap ∧ cap ≤ maxLen ∧ cur.size = cap * size ∧ cur.toList.take (n * size) = xs)
theorem HP.tr {w w' : World} {g : Nat} {cur : Array Value} {e : TypeId} (h : w'.heap[g]? = w.heap[g]?) (k : HP w g cur e) : HP w' g cur e := by
 obtain ⟨e', fz, h1, h2⟩ := k
 exact ⟨e', fz, h.trans h1, h2⟩
theorem HP.lt {w : World} {g : Nat} {cur : Array Value} {e : TypeId} (k : HP w g cur e) : g < w.heap.size := by
 obtain ⟨e', fz, h1, _⟩ := k
 exact (Array.getElem?_eq_some_iff.1 h1).1
theorem OwnS.of {w : World} {e : TypeId} {size n : Nat} {v : Value} {xs : List Value} (h : w.ownsRow 0 e size v n xs) (ht : Nat.blt e 1048576 = true) : OwnS w e size v n xs := by
 refine ⟨h.1, h.2.imp id ?_⟩
 rintro ⟨g, cap, cur, h1, h2, h3, h4⟩
 exact ⟨g, cap, cur, h1, h2, ⟨e, (0, 0), h3, fun _ => ⟨rfl, rfl⟩, fun h => by rw [ht] at h; cases h⟩, h4⟩
theorem OwnS.own {w : World} {e : TypeId} {size n : Nat} {v : Value} {xs : List Value} (h : OwnS w e size v n xs) (ht : Nat.blt e 1048576 = true) : w.ownsRow 0 e size v n xs := by
 refine ⟨h.1, h.2.imp id ?_⟩
 rintro ⟨g, cap, cur, h1, h2, ⟨e', fz, h3, h5, _⟩, h4⟩
 obtain ⟨rfl, rfl⟩ := h5 ht
 exact ⟨g, cap, cur, h1, h2, h3, h4⟩
theorem OwnS.nil {w : World} {e : TypeId} {size : Nat} : OwnS w e size (.slice none 0 0) 0 [] := ⟨by simp, .inl ⟨rfl, rfl⟩⟩
theorem OwnS.slice {w : World} {e : TypeId} {size n : Nat} {v : Value} {xs : List Value} (h : OwnS w e size v n xs) : ∃ A c, v = .slice A n c ∧ n ≤ c ∧ c ≤ 9223372036854775807 := by
 rcases h.2 with ⟨rfl, rfl⟩ | ⟨g, cap, cur, rfl, _, _, hn, hc, _⟩
 ·exact ⟨none, 0, rfl, Nat.le_refl _, by omega⟩
 ·exact ⟨_, cap, rfl, hn, by simpa [maxLen] using hc⟩
theorem OwnS.addr {w : World} {g c n : Nat} {e : TypeId} {size : Nat} {us : List Value} (h : OwnS w e size (.slice (some ⟨g, 0, none⟩) n c) n us) : ∀ j u, us[j]? = some u → w.cell? ⟨g, 0 + j, none⟩ = some u := by
 intro j u hu
 rcases h.2 with ⟨h1, _⟩ | ⟨g', cap, cur, h1, _, ⟨e', fz, h3, _⟩, _, _, _, h4⟩
 ·cases h1
 injection h1 with h1 _ _
 injection h1 with h1; injection h1 with h1; subst h1
 rw [← h4, List.getElem?_take] at hu
 split at hu
 ·rw [Nat.zero_add]
  simp [World.cell?, h3]
  simpa using hu
 ·cases hu
theorem OwnS.reads {w : World} {size n c : Nat} {A : Option Addr} {e : TypeId} {xs : List Value} (h : OwnS w e size (.slice A n c) n xs) : Reads w w.heap.size size A n xs := by
 refine ⟨h.1, fun hn => ?_⟩
 rcases h.2 with ⟨_, h1⟩ | ⟨g, cap, cur, h1, _, h3, _⟩
 ·omega
 injection h1 with hA _ _
 subst hA
 exact ⟨g, 0, rfl, h3.lt, OwnS.addr h⟩
theorem OwnS.chain {w w' : World} {e : TypeId} {size n : Nat} {v : Value} {xs : List Value} (h : OwnS w e size v n xs) (hb : Below w.heap.size w w') : OwnS w' e size v n xs := by
 refine ⟨h.1, ?_⟩
 rcases h.2 with h2 | ⟨g, cap, cur, hv, hle, hh, r⟩
 ·exact .inl h2
 ·exact .inr ⟨g, cap, cur, hv, hle, hh.tr (hb.block g hh.lt), r⟩
def MOk : MO → Value → Obj → Prop
 | .m es, v, ob => ∃ g ents ck, v = .map (some g) ∧ ob = .map ents ck ∧ ents.toList.map (fun e => (e.key, e.val)) = es ∧ Borns ents ck
 | .g es b, v, ob => ∃ ents ck, v = .map (some b) ∧ ob = .map ents ck ∧ ents.toList.map (fun e => (e.key, e.val)) = es ∧ Borns ents ck
 | .it b n seen, v, ob => ∃ r, v = .pointer (some ⟨r, 0, none⟩) ∧ ob = .mapIter (some b) n seen.toArray n
theorem MOk.kind {o : MO} {v : Value} {ob : Obj} (h : MOk o v ob) : (∃ a b, ob = .map a b) ∨ ∃ a b c d, ob = .mapIter a b c d := by
 cases o with
 | m es => obtain ⟨_, _, _, _, h, _⟩ := h; exact .inl ⟨_, _, h⟩
 | g es b => obtain ⟨_, _, _, h, _⟩ := h; exact .inl ⟨_, _, h⟩
 | it b n seen => obtain ⟨_, _, h⟩ := h; exact .inr ⟨_, _, _, _, h⟩
def ObjRel (σ : Store) (μ : Nat → Value) (w : World) (A : Nat → Prop) (id : Nat) : SObj → Prop
 | .box t cs => ∃ g us, μ id = .pointer (some ⟨g, 0, none⟩) ∧ Blk w g t us.toArray ∧ repC σ μ w A cs us
 | .row e size xs => ∃ us, OwnS w e size (μ id) xs.length us ∧ repLL [] μ w A size xs us
 | .mp es => ∃ g v ob, μ id = v ∧ blk v = some g ∧ w.heap[g]? = some ob ∧ MOk es v ob
 | .dead => blk (μ id) = none
structure SRel (σ : Store) (μ : Nat → Value) (w : World) (M : Nat → Prop) : Prop where
 obj : ∀ id o, find σ id = some o → ObjRel σ μ w (av σ μ M) id o
 inj : ∀ id id' o o' g, find σ id = some o → find σ id' = some o' → blk (μ id) = some g → blk (μ id') = some g → id = id'
 lt : ∀ b, M b → b < w.heap.size
 dis : ∀ id o b, find σ id = some o → blk (μ id) = some b → ¬ M b

structure Gro (σ : Store) (μ : Nat → Value) (w : World) (σ' : Store) (μ' : Nat → Value) (w' : World) : Prop where
 os : w'.os = w.os
 tape : w'.tape = w.tape
 output : w'.output = w.output
 size : w.heap.size ≤ w'.heap.size
 same : ∀ b, b < w.heap.size → (∀ id o, find σ id = some o → blk (μ id) ≠ some b) → w'.heap[b]? = w.heap[b]?
 fresh : ∀ id o b, find σ' id = some o → blk (μ' id) = some b → b < w.heap.size → ∃ id0 o0, find σ id0 = some o0 ∧ blk (μ id0) = some b
 box : ∀ id t cs, find σ id = some (.box t cs) → ∃ cs', find σ' id = some (.box t cs') ∧ cs'.length = cs.length ∧ μ' id = μ id
 row : ∀ id e size xs, find σ id = some (.row e size xs) → find σ' id = some .dead ∨ ∃ xs', find σ' id = some (.row e size xs') ∧ xs.length ≤ xs'.length ∧ (xs'.length = xs.length → μ' id = μ id)
 mp : ∀ id es, find σ id = some (.mp es) → ∃ es', find σ' id = some (.mp es') ∧ μ' id = μ id
 dead : ∀ id, find σ id = some .dead → find σ' id = some .dead
section
variable {σ σ' σ'' : Store} {μ μ' μ'' : Nat → Value} {w w' w'' : World} {M : Nat → Prop}
theorem Gro.refl : Gro σ μ w σ μ w := ⟨rfl, rfl, rfl, Nat.le_refl _, fun _ _ _ => rfl, fun id o _ h h1 _ => ⟨id, o, h, h1⟩, fun _ _ cs h => ⟨cs, h, rfl, rfl⟩, fun _ _ _ xs h => .inr ⟨xs, h, Nat.le_refl _, fun _ => rfl⟩, fun _ es h => ⟨es, h, rfl⟩, fun _ h => h⟩
theorem Gro.trans (h : Gro σ μ w σ' μ' w') (k : Gro σ' μ' w' σ'' μ'' w'') : Gro σ μ w σ'' μ'' w'' := by
 refine ⟨k.os.trans h.os, k.tape.trans h.tape, k.output.trans h.output, Nat.le_trans h.size k.size, fun b hb hn => ?_, fun id o b hf hb hl => ?_, fun id t cs hf => ?_, fun id e size xs hf => ?_, fun id es hf => ?_, fun id hf => k.dead id (h.dead id hf)⟩
 ·rw [k.same b (Nat.lt_of_lt_of_le hb h.size) ?_]
  ·exact h.same b hb hn
  ·intro id o hf he
   obtain ⟨id0, o0, h1, h2⟩ := h.fresh id o b hf he hb
   exact hn id0 o0 h1 h2
 ·obtain ⟨id0, o0, h1, h2⟩ := k.fresh id o b hf hb (Nat.lt_of_lt_of_le hl h.size)
  exact h.fresh id0 o0 b h1 h2 hl
 ·obtain ⟨cs1, h1, h2, h3⟩ := h.box id t cs hf
  obtain ⟨cs2, h4, h5, h6⟩ := k.box id t cs1 h1
  exact ⟨cs2, h4, h5.trans h2, h6.trans h3⟩
 ·rcases h.row id e size xs hf with hd | ⟨xs1, h1, h2, h3⟩
  ·exact .inl (k.dead id hd)
  rcases k.row id e size xs1 h1 with hd | ⟨xs2, h4, h5, h6⟩
  ·exact .inl hd
  exact .inr ⟨xs2, h4, by omega, fun hn => (h6 (by omega)).trans (h3 (by omega))⟩
 ·obtain ⟨es1, h1, h2⟩ := h.mp id es hf
  obtain ⟨es2, h3, h4⟩ := k.mp id es1 h1
  exact ⟨es2, h3, h4.trans h2⟩
theorem Gro.step (h : Gro σ μ w σ' μ' w') : Step σ μ w (av σ μ M) σ' μ' w' (av σ' μ' M) := by
 refine ⟨fun b hb hl => ⟨h.same b hl (fun id o hf he => hb (.inr ⟨id, o, hf, he⟩)), fun hc => ?_⟩, h.size, h.box, h.row, h.mp, h.dead⟩
 rcases hc with hc | ⟨id, o, hf, he⟩
 ·exact hb (.inl hc)
 ·obtain ⟨id0, o0, h1, h2⟩ := h.fresh id o b hf he hl
  exact hb (.inr ⟨id0, o0, h1, h2⟩)
theorem SRel.at_ (h : SRel σ μ w M) (hg : Gro σ μ w σ' μ' w') (k : Nat) (hσ : ∀ id, id ≠ k → find σ' id = find σ id) (hμ : ∀ id, id ≠ k → μ' id = μ id)
  (hw : ∀ id o b, id ≠ k → find σ id = some o → blk (μ id) = some b → w'.heap[b]? = w.heap[b]?)
  (hk : ∀ o, find σ' k = some o → ObjRel σ' μ' w' (av σ' μ' M) k o)
  (hn : ∀ id o b, id ≠ k → find σ id = some o → blk (μ id) = some b → blk (μ' k) ≠ some b) (hm : ∀ b, blk (μ' k) = some b → ¬ M b) : SRel σ' μ' w' M := by
 refine ⟨fun id o hf => ?_, fun id id' o o' g hf hf' hb hb' => ?_, fun b hb => Nat.lt_of_lt_of_le (h.lt b hb) hg.size, fun id o b hf hb => ?_⟩
 rotate_right
 ·by_cases e : id = k
  ·subst e; exact hm b hb
  ·rw [hσ id e] at hf
   rw [hμ id e] at hb
   exact h.dis id o b hf hb
 ·by_cases e : id = k
  ·subst e; exact hk o hf
  ·rw [hσ id e] at hf
   have h1 := h.obj id o hf
   have hst : Step σ μ w (av σ μ M) σ' μ' w' (av σ' μ' M) := hg.step
   cases o with
   | box t cs =>
    obtain ⟨g, us, h2, h3, h4⟩ := h1
    exact ⟨g, us, (hμ id e).trans h2, (hw id _ g e hf (by rw [h2]; rfl)).trans h3, repC_mono hst h4⟩
   | row e' size xs =>
    obtain ⟨us, h2, h3⟩ := h1
    refine ⟨us, ⟨h2.1, ?_⟩, repLL_mono hst.pure h3⟩
    rw [hμ id e]
    rcases h2.2 with h4 | ⟨g, cap, cur, h4, h5, h6, h7⟩
    ·exact .inl h4
    ·exact .inr ⟨g, cap, cur, h4, h5, h6.tr (hw id _ g e hf (by rw [h4]; rfl)), h7⟩
   | mp es =>
    obtain ⟨g, v, ob, h2, hb2, h3, h4⟩ := h1
    exact ⟨g, v, ob, (hμ id e).trans h2, hb2, (hw id _ g e hf (by rw [h2]; exact hb2)).trans h3, h4⟩
   | dead => exact (congrArg blk (hμ id e)).trans h1
 ·by_cases e : id = k
  ·by_cases e' : id' = k
   ·rw [e, e']
   ·subst e
    rw [hσ id' e'] at hf'
    rw [hμ id' e'] at hb'
    exact absurd hb (hn id' o' g e' hf' hb')
  ·by_cases e' : id' = k
   ·subst e'
    rw [hσ id e] at hf
    rw [hμ id e] at hb
    exact absurd hb' (hn id o g e hf hb)
   ·rw [hσ id e] at hf
    rw [hμ id e] at hb
    rw [hσ id' e'] at hf'
    rw [hμ id' e'] at hb'
    exact h.inj id id' o o' g hf hf' hb hb'
theorem SRel.keep (h : SRel σ μ w M) (hb : Below w.heap.size w w') : Gro σ μ w σ μ w' ∧ SRel σ μ w' M := by
 have hg : Gro σ μ w σ μ w' := ⟨hb.os, hb.tape, hb.output, hb.size, fun b hl _ => hb.block b hl, fun id o _ h h1 _ => ⟨id, o, h, h1⟩, fun _ _ cs h => ⟨cs, h, rfl, rfl⟩, fun _ _ _ xs h => .inr ⟨xs, h, Nat.le_refl _, fun _ => rfl⟩, fun _ es h => ⟨es, h, rfl⟩, fun _ h => h⟩
 refine ⟨hg, ⟨fun id o hf => ?_, h.inj, fun b hb => Nat.lt_of_lt_of_le (h.lt b hb) hg.size, h.dis⟩⟩
 have h1 := h.obj id o hf
 have hst : Step σ μ w (av σ μ M) σ μ w' (av σ μ M) := hg.step
 cases o with
 | box t cs =>
  obtain ⟨g, us, h2, h3, h4⟩ := h1
  exact ⟨g, us, h2, h3.call hb, repC_mono hst h4⟩
 | row e' size xs =>
  obtain ⟨us, h2, h3⟩ := h1
  exact ⟨us, h2.chain hb, repLL_mono hst.pure h3⟩
 | mp es =>
  obtain ⟨g, v, ob, h2, hb2, h3, h4⟩ := h1
  exact ⟨g, v, ob, h2, hb2, (hb.block g (Array.getElem?_eq_some_iff.1 h3).1).trans h3, h4⟩
 | dead => exact h1
end

structure ASt where
 regs : List (Nat × AV)
 σ : Store
structure Ctx where
 w0 : World
 M : Nat → Prop
 σ0 : Store
 μ0 : Nat → Value
 n : Nat
 rd : Option Nat
 d0 : Nat
def Ctx.F (Γ : Ctx) : Fence := { Fence.wide with round := Γ.rd }
def Marks (d0 : Nat) (ds : List Deferred) (w : World) : Prop := ds.Nodup ∧ ∀ d ∈ ds, ∃ D, d = { target := .collected D, args := #[] } ∧ d0 ≤ D ∧ w.heap[D]? = some (.deferred (some []))
theorem marks_nil {d0 : Nat} {w : World} : Marks d0 [] w := ⟨List.nodup_nil, fun _ h => nomatch h⟩
theorem marks_gro {σ σ' : Store} {μ μ' : Nat → Value} {d0 : Nat} {w w' : World} {M : Nat → Prop} {ds : List Deferred} (hs : SRel σ μ w M) (hg : Gro σ μ w σ' μ' w') (h : Marks d0 ds w) : Marks d0 ds w' := by
 refine ⟨h.1, fun d hd => ?_⟩
 obtain ⟨D, h1, h2, h3⟩ := h.2 d hd
 refine ⟨D, h1, h2, (hg.same D (Array.getElem?_eq_some_iff.1 h3).1 fun id o hf hb => ?_).trans h3⟩
 have h4 := hs.obj id o hf
 cases o with
 | box t cs =>
  obtain ⟨g, us, h5, h6, _⟩ := h4
  rw [h5] at hb; simp only [blk, Option.some.injEq] at hb; subst hb
  rw [show w.heap[g]? = _ from h6] at h3; cases h3
 | row e size xs =>
  obtain ⟨us, h5, _⟩ := h4
  rcases h5.2 with ⟨h6, _⟩ | ⟨g, cap, cur, h6, _, ⟨_, _, h7, _⟩, _⟩
  ·rw [h6] at hb; simp [blk] at hb
  ·rw [h6] at hb; simp only [blk, Option.some.injEq] at hb; subst hb
   rw [h7] at h3; cases h3
 | mp es =>
  obtain ⟨g, v, ob, h5, hb2, h6, h7⟩ := h4
  rw [h5, hb2] at hb; simp only [Option.some.injEq] at hb; subst hb
  rw [h6] at h3
  rcases h7.kind with ⟨_, _, rfl⟩ | ⟨_, _, _, _, rfl⟩ <;> cases h3
 | dead => rw [show blk (μ id) = none from h4] at hb; cases hb
theorem live {σ : Store} {id : Nat} {e : TypeId} {size : Nat} {xs : List (List AV)} {a b : Prop} (h0 : find σ id = some (.row e size xs)) (h : a ∧ (find σ id = some .dead ∨ b)) : a ∧ b := ⟨h.1, h.2.resolve_left (by rw [h0]; simp)⟩
structure Rel (Γ : Ctx) (s : ASt) (μ : Nat → Value) (a : Act) (w : World) : Prop where
 defers : Marks Γ.d0 a.defers w
 tmps : a.tmps.size = Γ.n
 regs : ∀ t x, find s.regs t = some x → rep s.σ μ w (av s.σ μ Γ.M) x (a.tmps.getD t undef)
 store : SRel s.σ μ w Γ.M
 gro : Gro Γ.σ0 Γ.μ0 Γ.w0 s.σ μ w

def noDefer : Op → Bool
 | .defer _ => false
 | _ => true
def nodef : List Oper → Bool
 | [] => true
 | o :: l => noDefer o.op && nodef l
theorem nodef_cons {o : Oper} {l : List Oper} (h : nodef (o :: l) = true) : noDefer o.op = true ∧ nodef l = true := by
 simpa only [nodef, Bool.and_eq_true] using h
theorem nodef_at : ∀ {l : List Oper} {i : Nat} {o : Oper}, nodef l = true → l[i]? = some o → noDefer o.op = true
 | [], i, o, _, h => by simp at h
 | x :: l, 0, o, h, hi => by simp at hi; subst hi; exact (nodef_cons h).1
 | x :: l, i + 1, o, h, hi => nodef_at (nodef_cons h).2 (by simpa using hi)
theorem up_in {P : Program} {Γ : Ctx} {o : Oper} {a : Act} {w : World} {K : Act → World → Prop} {Q : Exit → Act → World → Prop} (hnd : noDefer o.op = true) (h : o.wp P a w K Q) : o.wpIn Γ.F 0 P a w K Q := by
 refine ⟨fun _ _ => trivial, ?_⟩
 rw [Oper.semAt_eq _ _ _ (fun c hc => by rw [hc] at hnd; cases hnd)]
 unfold Oper.wp at h
 generalize (execOp a.eval o).run P w = r at *
 have hd : Γ.F.depth.isSome = true → 1 ≤ 0 := fun h => by cases h
 cases r with
 | ok x w' =>
  cases x with
  | enter f args => exact ⟨hd, (callsIn_wide (n := 0 - 1)).2 h⟩
  | row row args => exact ⟨hd, fun c cs _ => let ⟨v, w', r, s⟩ := h c cs; ⟨v, w', r, stepsIn_wide.2 s⟩⟩
  | _ => first | exact h | exact h.elim
 | halt x w' => cases x <;> first | exact h | exact h.elim
theorem plain_in {P : Program} {Γ : Ctx} {o : Oper} {ops : Array Oper} {rest : List Oper} {a : Act} {w : World} {Q : Exit → Act → World → Prop} (hnd : nodef (o :: rest) = true) (hg : o.guard = none)
  (h : ∀ K : Act → World → Prop, (∀ a w, wpListIn Γ.F 0 P ops Q rest a w → K a w) → o.wp P a w K Q) : wpListIn Γ.F 0 P ops Q (o :: rest) a w :=
 wpListIn_plain hg fun K hK => up_in (nodef_cons hnd).1 (h K hK)
section
variable (P : Program) (Γ : Ctx)
def AK (Q : Exit → ASt → Prop) : Exit → Act → World → Prop := fun e a w => ∃ s μ, Rel Γ s μ a w ∧ Q e s
structure AWP (c : Code) (Q : Exit → ASt → Prop) (s : ASt) : Prop where
 out : ∀ μ a w, Rel Γ s μ a w → c.wpIn Γ.F 0 P (AK Γ Q) a w
structure AOps (ops : Array Oper) (rest : List Oper) (Q : Exit → ASt → Prop) (s : ASt) : Prop where
 out : nodef rest = true → ∀ μ a w, Rel Γ s μ a w → wpListIn Γ.F 0 P ops (AK Γ Q) rest a w
end
section
variable {P : Program} {Γ : Ctx} {Q Q' : Exit → ASt → Prop} {s : ASt}
theorem AWP.mono {c : Code} (h : AWP P Γ c Q s) (hq : ∀ e s, Q e s → Q' e s) : AWP P Γ c Q' s :=
 ⟨fun μ a w hr => wpIn_mono (h.out μ a w hr) (fun e a w ⟨s', μ', h1, h2⟩ => ⟨s', μ', h1, hq _ _ h2⟩)⟩
def AThen (next : ASt → Prop) (Q : Exit → ASt → Prop) : Exit → ASt → Prop
 | .normal, s => next s
 | e, s => Q e s
def AInBlock (id : Nat) (Q : Exit → ASt → Prop) : Exit → ASt → Prop
 | .exit id', s => match Nat.beq id' id with | true => Q .normal s | false => Q (.exit id') s
 | e, s => Q e s
theorem a_seq {x y : Code} (h : AWP P Γ x (AThen (AWP P Γ y Q) Q) s) : AWP P Γ (.seq x y) Q s := by
 refine ⟨fun μ a w hr => ?_⟩
 refine wpIn_seq (wpIn_mono (h.out μ a w hr) ?_)
 rintro e a w ⟨s', μ', h1, h2⟩
 cases e <;> first | exact AWP.out h2 μ' a w h1 | exact ⟨s', μ', h1, h2⟩
theorem a_skip (h : Q .normal s) : AWP P Γ .skip Q s := ⟨fun μ a w hr => wpIn_skip ⟨s, μ, hr, h⟩⟩
theorem a_ret (h : Q .ret s) : AWP P Γ .ret Q s := ⟨fun μ a w hr => wpIn_ret ⟨s, μ, hr, h⟩⟩
theorem a_exit {id : Nat} (h : Q (.exit id) s) : AWP P Γ (.exit id) Q s := ⟨fun μ a w hr => wpIn_exit ⟨s, μ, hr, h⟩⟩
theorem a_block {id : Nat} {c : Code} (h : AWP P Γ c (AInBlock id Q) s) : AWP P Γ (.block id c) Q s := by
 refine ⟨fun μ a w hr => ?_⟩
 refine wpIn_block (wpIn_mono (h.out μ a w hr) ?_)
 rintro e a w ⟨s', μ', h1, h2⟩
 cases e with
 | exit id' =>
  by_cases hid : id' = id
  ·have hb : Nat.beq id' id = true := by rw [hid]; exact Nat.beq_refl id
   have h3 : Q .normal s' := by simpa only [AInBlock, hb] using h2
   simp only [Exit.inBlock, hid, if_true]
   exact ⟨s', μ', h1, h3⟩
  ·have hb : Nat.beq id' id = false := by
    cases h : Nat.beq id' id
    ·rfl
    ·exact absurd (Nat.eq_of_beq_eq_true h) hid
   have h3 : Q (.exit id') s' := by simpa only [AInBlock, hb] using h2
   simp only [Exit.inBlock, hid, if_false]
   exact ⟨s', μ', h1, h3⟩
 | _ => exact ⟨s', μ', h1, h2⟩
theorem a_cond {t : Nat} {b : Bool} {x y : Code} (hv : find s.regs t = some (.v (.bool b))) (ht : b = true → AWP P Γ x Q s) (hf : b = false → AWP P Γ y Q s) : AWP P Γ (.cond (.tmp t) x y) Q s := by
 refine ⟨fun μ a w hr => ?_⟩
 have h1 := hr.regs t _ hv
 simp only [rep] at h1
 exact wpIn_cond_split (t := b) (show a.eval (.tmp t) = _ from h1.1) (fun h => (ht h).out μ a w hr) (fun h => (hf h).out μ a w hr)
theorem a_region {id : Nat} {l : List Oper} (h : AOps P Γ l.toArray l Q s) (hnd : nodef l = true := by rfl) : AWP P Γ (.region id l.toArray false) Q s := ⟨fun μ a w hr => wpIn_region_lit (h.out hnd μ a w hr)⟩
theorem o_nil {ops : Array Oper} (h : Q .normal s) : AOps P Γ ops [] Q s := ⟨fun _ μ a w hr => ⟨s, μ, hr, h⟩⟩
end
def con : Value → AV
 | .agg cs => .agg (cs.toList.map .v)
 | x => .v x
def okCon : Value → Bool
 | .agg cs => cs.toList.all fun c => scal c && c.oneCell'
 | x => scal x
def ev (s : ASt) : Operand → Option AV
 | .tmp t => find s.regs t
 | .const x => match okCon x with | true => some (con x) | false => none
 | .func f => some (.clo (.func f) [] [])
 | .global _ => none
section
variable {P : Program} {Γ : Ctx} {Q Q' : Exit → ASt → Prop} {s : ASt} {σ : Store} {μ : Nat → Value} {w : World} {A : Nat → Prop}
theorem repC_con : ∀ {cs : List Value}, (cs.all fun c => scal c && c.oneCell') = true → repC σ μ w A (cs.map .v) cs
 | [], _ => by simp [repC]
 | c :: cs, h => by
  simp only [List.all_cons, Bool.and_eq_true] at h
  obtain ⟨⟨h1, h2⟩, h3⟩ := h
  simp only [List.map_cons, repC]
  exact ⟨c, cs, rfl, h2, by simp only [rep]; exact ⟨trivial, h1⟩, repC_con h3⟩
theorem rep_con {x : Value} (h : okCon x = true) : rep σ μ w A (con x) x := by
 cases x with
 | agg cs =>
  simp only [okCon] at h
  simp only [con, rep]
  exact ⟨cs.toList, by simp, repC_con h⟩
 | _ => simp only [okCon] at h; simp only [con, rep]; exact ⟨trivial, h⟩
theorem Rel.ev {a : Act} (hr : Rel Γ s μ a w) {x : Operand} {y : AV} (h : ev s x = some y) : rep s.σ μ w (av s.σ μ Γ.M) y (a.eval x) := by
 cases x with
 | tmp t => exact hr.regs t y h
 | const c =>
  simp only [Proofs.Ytlgbadlgfdlheaa.ev] at h
  split at h
  ·rename_i hc; injection h with h; subst h; exact rep_con hc
  ·cases h
 | func f =>
  simp only [Proofs.Ytlgbadlgfdlheaa.ev, Option.some.injEq] at h
  subst h
  simp only [rep, repL]
  exact ⟨[], [], rfl, rfl, rfl⟩
 | global g => simp [Proofs.Ytlgbadlgfdlheaa.ev] at h
def ASt.eff (s : ASt) (er : List (Nat × AV)) (eσ : List (Nat × SObj)) : ASt := ⟨er ++ s.regs, eσ ++ s.σ⟩
def dst1 (d : Option Tmp) (x : AV) : List (Nat × AV) := match d with
 | some d => [(d, x)]
 | none => []
def okDst (n : Nat) : Option Tmp → Bool
 | some d => Nat.ble (d + 1) n
 | none => true
theorem Rel.put {a : Act} (hr : Rel Γ s μ a w) {d : Option Tmp} (hd : okDst Γ.n d = true) {x : AV} {y : Value} (h : rep s.σ μ w (av s.σ μ Γ.M) x y) : Rel Γ (s.eff (dst1 d x) []) μ (a.put d y) w := by
 cases d with
 | none => exact hr
 | some d =>
  have hlt : d < a.tmps.size := by rw [hr.tmps]; exact Nat.le_of_ble_eq_true hd
  refine ⟨hr.defers, by simpa [Act.put] using hr.tmps, fun t z hz => ?_, hr.store, hr.gro⟩
  simp only [ASt.eff, dst1, List.cons_append, List.nil_append, find_cons] at hz ⊢
  simp only [Act.put]
  split at hz
  ·rename_i e; subst e; injection hz with hz; subst hz
   simpa [Array.getD_eq_getD_getElem?, hlt] using h
  ·rename_i e
   have := hr.regs t z hz
   simpa [Array.getD_eq_getD_getElem?, Array.getElem?_setIfInBounds_ne e] using this
theorem Rel.world {a : Act} {w' : World} (hr : Rel Γ s μ a w) (hb : Below w.heap.size w w') : Rel Γ s μ a w' := by
 obtain ⟨hg, hs⟩ := hr.store.keep hb
 exact ⟨marks_gro hr.store hg hr.defers, hr.tmps, fun t x hx => rep_mono hg.step (hr.regs t x hx), hs, hr.gro.trans hg⟩
theorem Rel.goes {a : Act} {w' : World} {σ' : Store} {μ' : Nat → Value} (hr : Rel Γ s μ a w) (hg : Gro s.σ μ w σ' μ' w') (hs : SRel σ' μ' w' Γ.M) : Rel Γ ⟨s.regs, σ'⟩ μ' a w' :=
 ⟨marks_gro hr.store hg hr.defers, hr.tmps, fun t x hx => rep_mono hg.step (hr.regs t x hx), hs, hr.gro.trans hg⟩

end
inductive Loc where
 | reg (t : Nat)
 | obj (id : Nat)
def Agree (s t : ASt) : List Loc → Prop
 | [] => True
 | .reg r :: l => find t.regs r = find s.regs r ∧ Agree s t l
 | .obj i :: l => find t.σ i = find s.σ i ∧ Agree s t l
theorem Agree.refl (s : ASt) : ∀ l, Agree s s l
 | [] => trivial
 | .reg _ :: l => ⟨rfl, Agree.refl s l⟩
 | .obj _ :: l => ⟨rfl, Agree.refl s l⟩
def rd (x : Operand) (l : List Loc) : List Loc := match x with
 | .tmp t => .reg t :: l
 | _ => l
theorem Agree.ev {s t : ASt} {x : Operand} {l : List Loc} (h : Agree s t (rd x l)) {y : Option AV} (hx : ev s x = y) : ev t x = y ∧ Agree s t l := by
 cases x with
 | tmp t => exact ⟨h.1.trans hx, h.2⟩
 | _ => exact ⟨hx, h⟩
section
variable (P : Program) (Γ : Ctx)
structure LS (o : Oper) (s : ASt) (R : List Loc) (er : List (Nat × AV)) (eσ : List (Nat × SObj)) : Prop where
 out : ∀ t, Agree s t R → ∀ (Q : Exit → Act → World → Prop) μ a w, Rel Γ t μ a w → ∀ K : Act → World → Prop, (∀ μ' a' w', Rel Γ (t.eff er eσ) μ' a' w' → K a' w') → o.wp P a w K Q
end
section
variable {P : Program} {Γ : Ctx} {Q Q' : Exit → ASt → Prop} {s : ASt} {σ : Store} {μ : Nat → Value} {w : World} {A : Nat → Prop} {ops : Array Oper} {rest : List Oper}
theorem o_do {dst : Option Tmp} {op : Op} {ty : TypeId} {pos : String} {after : Array Edge} {R : List Loc} {er : List (Nat × AV)} {eσ : List (Nat × SObj)} (h : LS P Γ ⟨dst, op, ty, pos, after, none⟩ s R er eσ) (hk : AOps P Γ ops rest Q (s.eff er eσ)) : AOps P Γ ops (⟨dst, op, ty, pos, after, none⟩ :: rest) Q s :=
 ⟨fun hnd μ a w hr => plain_in hnd rfl fun K hK => h.out s (Agree.refl s R) _ μ a w hr K fun μ' a' w' hr' => hK _ _ (hk.out (nodef_cons hnd).2 μ' a' w' hr')⟩
theorem ls_pure {o : Oper} {R : List Loc} {x : AV} (hd : okDst Γ.n o.dst = true)
  (h : ∀ t, Agree s t R → ∀ μ a w, Rel Γ t μ a w → ∃ y, (execOp a.eval o).run P w = .ok (.value y) w ∧ rep t.σ μ w (av t.σ μ Γ.M) x y) : LS P Γ o s R (dst1 o.dst x) [] := by
 refine ⟨fun t ht Q μ a w hr K hK => ?_⟩
 obtain ⟨y, h1, h2⟩ := h t ht μ a w hr
 unfold Oper.wp
 rw [h1]
 exact hK _ _ _ (hr.put hd h2)
theorem yielded_reg {ops : Array Oper} {a : Act} (hr : Rel Γ s μ a w) {j : Nat} {t : Tmp} {x : Value} (hj : (ops[j]?).bind (·.dst) = some t) (hb : find s.regs t = some (.v x)) (hx : x ≠ undef) : yielded ops a.tmps j = match x with | .bool b => some b | _ => none := by
 have h1 := hr.regs t _ hb
 simp only [rep] at h1
 have hlt : t < a.tmps.size := by
  rcases Nat.lt_or_ge t a.tmps.size with h | h
  ·exact h
  ·rw [Array.getD_eq_getD_getElem?, Array.getElem?_eq_none h] at h1
   exact absurd h1.1.symm hx
 have h2 : a.tmps[t]? = some x := by
  have := h1.1
  rw [Array.getD_eq_getD_getElem?, Array.getElem?_eq_getElem hlt] at this
  rw [Array.getElem?_eq_getElem hlt]
  simpa using this
 unfold yielded
 rw [hj]
 simp only [Option.bind_some, h2]
 cases x <;> rfl
theorem o_yes {ops : Array Oper} {dst : Option Tmp} {op : Op} {ty : TypeId} {pos : String} {after : Array Edge} {rest : List Oper} {j : Nat} {want b : Bool} {t : Tmp} (hj : (ops[j]?).bind (·.dst) = some t)
  (hb : find s.regs t = some (.v (.bool b))) (he : b = want) (hk : AOps P Γ ops (⟨dst, op, ty, pos, after, none⟩ :: rest) Q s) : AOps P Γ ops (⟨dst, op, ty, pos, after, some (j, want)⟩ :: rest) Q s := by
 refine ⟨fun hnd μ a w hr => ?_⟩
 have h1 := hk.out hnd μ a w hr
 unfold wpListIn at h1 ⊢
 have h2 : Region.wanted ⟨dst, op, ty, pos, after, some (j, want)⟩ (yielded ops a.tmps) = true := by
  simp only [Region.wanted, yielded_reg hr hj hb (by simp [undef]), he]
  simp
 rw [h2]
 rw [if_pos (by rfl)] at h1
 exact h1
theorem o_no {ops : Array Oper} {dst : Option Tmp} {op : Op} {ty : TypeId} {pos : String} {after : Array Edge} {rest : List Oper} {j : Nat} {want b : Bool} {t : Tmp} (hd : okDst Γ.n dst = true) (hj : (ops[j]?).bind (·.dst) = some t)
  (hb : find s.regs t = some (.v (.bool b))) (he : b ≠ want) (hk : AOps P Γ ops rest Q (s.eff (dst1 dst (.v undef)) [])) : AOps P Γ ops (⟨dst, op, ty, pos, after, some (j, want)⟩ :: rest) Q s := by
 refine ⟨fun hnd μ a w hr => ?_⟩
 unfold wpListIn
 have h2 : Region.wanted ⟨dst, op, ty, pos, after, some (j, want)⟩ (yielded ops a.tmps) = false := by
  simp only [Region.wanted, yielded_reg hr hj hb (by simp [undef])]
  simpa using he
 rw [h2]
 refine ⟨fun _ _ => trivial, ?_⟩
 exact hk.out (nodef_cons hnd).2 _ _ _ (hr.put hd (by simp only [rep]; exact ⟨trivial, rfl⟩))
theorem o_no' {ops : Array Oper} {dst : Option Tmp} {op : Op} {ty : TypeId} {pos : String} {after : Array Edge} {rest : List Oper} {j : Nat} {want : Bool} {t : Tmp} (hd : okDst Γ.n dst = true) (hj : (ops[j]?).bind (·.dst) = some t)
  (hb : find s.regs t = some (.v undef)) (hk : AOps P Γ ops rest Q (s.eff (dst1 dst (.v undef)) [])) : AOps P Γ ops (⟨dst, op, ty, pos, after, some (j, want)⟩ :: rest) Q s := by
 refine ⟨fun hnd μ a w hr => ?_⟩
 have h1 := hr.regs t _ hb
 simp only [rep] at h1
 unfold wpListIn
 have h3 : yielded ops a.tmps j = none := by
  unfold yielded
  rw [hj]
  simp only [Option.bind_some]
  cases h : a.tmps[t]? with
  | none => rfl
  | some x =>
   have := h1.1
   rw [Array.getD_eq_getD_getElem?, h] at this
   simp only [Option.getD_some] at this
   subst this
   rfl
 have h2 : Region.wanted ⟨dst, op, ty, pos, after, some (j, want)⟩ (yielded ops a.tmps) = false := by
  simp only [Region.wanted, h3]
  rfl
 rw [h2]
 refine ⟨fun _ _ => trivial, ?_⟩
 exact hk.out (nodef_cons hnd).2 _ _ _ (hr.put hd (by simp only [rep]; exact ⟨trivial, rfl⟩))
theorem o_split_t {ops : Array Oper} {dst : Option Tmp} {op : Op} {ty : TypeId} {pos : String} {after : Array Edge} {rest : List Oper} {j : Nat} {b : Bool} {t : Tmp} (hd : okDst Γ.n dst = true) (hj : (ops[j]?).bind (·.dst) = some t)
  (hb : find s.regs t = some (.v (.bool b))) (h1 : b = true → AOps P Γ ops (⟨dst, op, ty, pos, after, none⟩ :: rest) Q s) (h2 : b = false → AOps P Γ ops rest Q (s.eff (dst1 dst (.v undef)) [])) : AOps P Γ ops (⟨dst, op, ty, pos, after, some (j, true)⟩ :: rest) Q s := by
 cases hv : b with
 | true => exact o_yes hj hb hv (h1 hv)
 | false => exact o_no hd hj hb (by rw [hv]; decide) (h2 hv)
theorem o_split_f {ops : Array Oper} {dst : Option Tmp} {op : Op} {ty : TypeId} {pos : String} {after : Array Edge} {rest : List Oper} {j : Nat} {b : Bool} {t : Tmp} (hd : okDst Γ.n dst = true) (hj : (ops[j]?).bind (·.dst) = some t)
  (hb : find s.regs t = some (.v (.bool b))) (h1 : b = true → AOps P Γ ops rest Q (s.eff (dst1 dst (.v undef)) [])) (h2 : b = false → AOps P Γ ops (⟨dst, op, ty, pos, after, none⟩ :: rest) Q s) : AOps P Γ ops (⟨dst, op, ty, pos, after, some (j, false)⟩ :: rest) Q s := by
 cases hv : b with
 | true => exact o_no hd hj hb (by rw [hv]; decide) (h1 hv)
 | false => exact o_yes hj hb hv (h2 hv)
theorem a_condT {t : Nat} {x y : Code} (hv : find s.regs t = some (.v (.bool true))) (h : AWP P Γ x Q s) : AWP P Γ (.cond (.tmp t) x y) Q s := a_cond hv (fun _ => h) (fun h => nomatch h)
theorem a_condF {t : Nat} {x y : Code} (hv : find s.regs t = some (.v (.bool false))) (h : AWP P Γ y Q s) : AWP P Γ (.cond (.tmp t) x y) Q s := a_cond hv (fun h => nomatch h) (fun _ => h)
end
end Go.Proofs.Ytlgbadlgfdlheaa
namespace Go.Proofs.Ytlgbadlgfdlheaa
open Go.RowKit

inductive TyI where
 | int (k : IntKind)
 | string
 | bool
 | pointer
 | func
 | map
 | struct (size : Nat) (fs : List (Nat × Nat))
 | slice (e size bytes : Nat)
 | none
def nth {α : Type} : List α → Nat → Option α
 | [], _ => .none
 | x :: _, 0 => some x
 | _ :: l, n + 1 => nth l n
def okTy (P : Program) (t : Nat) : TyI → Bool
 | .int k => match P.underlying t, P.info? t with
  | some (.int k'), some i => decide (k = k') && Nat.beq i.size 1
  | _, _ => false
 | .string => match P.underlying t, P.info? t with
  | some .string, some i => Nat.beq i.size 1
  | _, _ => false
 | .bool => match P.underlying t, P.info? t with
  | some .bool, some i => Nat.beq i.size 1
  | _, _ => false
 | .pointer => match P.underlying t, P.info? t with
  | some (.pointer _), some i => Nat.beq i.size 1
  | _, _ => false
 | .func => match P.underlying t, P.info? t with
  | some (.func _ _ _), some i => Nat.beq i.size 1
  | _, _ => false
 | .map => match P.underlying t, P.info? t with
  | some (.map _ _), some i => Nat.beq i.size 1
  | _, _ => false
 | .struct n fs => match P.underlying t, P.info? t with
  | some (.struct fields), some i => Nat.beq i.size n && decide (fields.toList.map (fun f => (f.offset, f.type)) = fs) && (fields.toList.all fun f => match P.info? f.type with | some j => !Nat.beq j.size 0 | .none => false)
  | _, _ => false
 | .slice e n b => match P.underlying t, P.info? t, P.info? e with
  | some (.slice e'), some i, some j => Nat.beq i.size 1 && Nat.beq e e' && Nat.beq j.size n && Nat.beq j.bytes b && !Nat.beq n 0 && (match j.zero with | some z => Nat.beq z.cells.size n | .none => false)
  | _, _, _ => false
 | .none => true
def okTab (P : Program) (l : List TyI) : Bool := (List.range l.length).all fun t => match nth l t with | some x => okTy P t x | .none => true
theorem nth_lt {α : Type} : ∀ {l : List α} {n : Nat} {x : α}, nth l n = some x → n < l.length
 | [], _, _, h => by simp [nth] at h
 | _ :: _, 0, _, _ => by simp
 | _ :: l, n + 1, _, h => by
  have := nth_lt (l := l) (n := n) h
  simp; omega
theorem okTab_at {P : Program} {l : List TyI} (h : okTab P l = true) {t : Nat} {x : TyI} (hx : nth l t = some x) : okTy P t x = true := by
 have := List.all_eq_true.1 h t (by simpa using nth_lt hx)
 simpa [hx] using this
def TyI.ag : TyI → Bool
 | .struct _ _ => true
 | _ => false
def TyI.size : TyI → Nat
 | .struct n _ => n
 | .none => 0
 | _ => 1
theorem ty_size {P : Program} {l : List TyI} (h : okTab P l = true) {t : Nat} {x : TyI} (hx : nth l t = some x) (hn : x.size ≠ 0) :
  (∃ i, P.info? t = some i ∧ i.size = x.size) ∧ ∀ w, (isAgg t).run P w = .ok x.ag w := by
 have h1 := okTab_at h hx
 cases x <;> simp only [okTy] at h1 <;> (try exact absurd rfl hn)
 all_goals
  split at h1
  ·simp only [Bool.and_eq_true, Nat.beq_eq] at h1
   rename_i hu
   refine ⟨⟨_, by assumption, ?_⟩, fun w => ?_⟩
   ·first | exact h1 | exact h1.2 | exact h1.1.1 | exact h1.1.1.1.1.1
   ·have hu2 := run_underlying (P := P) (t := t) (by assumption) w
    simp [isAgg, hu2, TyI.ag]
  ·cases h1

section
variable {P : Program} {Γ : Ctx} {Q Q' : Exit → ASt → Prop} {s : ASt} {σ : Store} {μ : Nat → Value} {w : World} {A : Nat → Prop} {T : List TyI}
variable {dst : Option Tmp} {ty : TypeId} {pos : String} {after : Array Edge}
theorem ls_move {x : Operand} {v : AV} (hx : ev s x = some v) (hd : okDst Γ.n dst = true) : LS P Γ ⟨dst, .move x, ty, pos, after, none⟩ s (rd x []) (dst1 dst v) [] :=
 ls_pure hd fun t ht μ a w hr => ⟨_, rfl, hr.ev (ht.ev hx).1⟩
theorem ls_assign {x : Operand} {v : AV} (hx : ev s x = some v) (hd : okDst Γ.n dst = true) : LS P Γ ⟨dst, .assign x, ty, pos, after, none⟩ s (rd x []) (dst1 dst v) [] :=
 ls_pure hd fun t ht μ a w hr => ⟨_, rfl, hr.ev (ht.ev hx).1⟩
theorem ls_pick {c x y : Operand} {b : Bool} {v : AV} (hc : ev s c = some (.v (.bool b))) (hx : b = true → ev s x = some v) (hy : b = false → ev s y = some v) (hd : okDst Γ.n dst = true) :
  LS P Γ ⟨dst, .pick c x y, ty, pos, after, none⟩ s (rd c (rd x (rd y []))) (dst1 dst v) [] :=
 ls_pure hd fun t ht μ a w hr => by
  obtain ⟨h1, ht⟩ := ht.ev hc
  have h2 := hr.ev h1
  simp only [rep] at h2
  cases b with
  | true =>
   obtain ⟨h3, ht⟩ := ht.ev (hx rfl)
   exact ⟨_, by simp [execOp, asBool, h2.1], hr.ev h3⟩
  | false =>
   obtain ⟨_, ht⟩ := ht.ev (x := x) rfl
   obtain ⟨h3, ht⟩ := ht.ev (hy rfl)
   exact ⟨_, by simp [execOp, asBool, h2.1], hr.ev h3⟩
theorem ls_pickT {c x y : Operand} {v : AV} (hc : ev s c = some (.v (.bool true))) (hx : ev s x = some v) (hd : okDst Γ.n dst = true) : LS P Γ ⟨dst, .pick c x y, ty, pos, after, none⟩ s (rd c (rd x (rd y []))) (dst1 dst v) [] :=
 ls_pick hc (fun _ => hx) (fun h => nomatch h) hd
theorem ls_pickF {c x y : Operand} {v : AV} (hc : ev s c = some (.v (.bool false))) (hy : ev s y = some v) (hd : okDst Γ.n dst = true) : LS P Γ ⟨dst, .pick c x y, ty, pos, after, none⟩ s (rd c (rd x (rd y []))) (dst1 dst v) [] :=
 ls_pick hc (fun h => nomatch h) (fun _ => hy) hd
theorem ls_bin {op : BinOp} {xt yt : TypeId} {x y : Operand} {p q r : Value} (hx : ev s x = some (.v p)) (hy : ev s y = some (.v q)) (hr : ∀ w, (do eqGuard op xt x y p q; binOp op xt p q : Sem Value).run P w = .ok r w) (hs : scal r = true) (hd : okDst Γ.n dst = true) :
  LS P Γ ⟨dst, .binOp op xt x y yt, ty, pos, after, none⟩ s (rd x (rd y [])) (dst1 dst (.v r)) [] :=
 ls_pure hd fun t ht μ a w hrel => by
  obtain ⟨h1, ht⟩ := ht.ev hx
  obtain ⟨h2, ht⟩ := ht.ev hy
  have h1 := hrel.ev h1
  have h2 := hrel.ev h2
  simp only [rep] at h1 h2
  refine ⟨r, ?_, by simp only [rep]; exact ⟨trivial, hs⟩⟩
  have := hr w
  simp only [execOp, h1.1, h2.1, Sem.run_bind, this, Result.andThen, Sem.run_pure]
section
variable {xt yt : TypeId} {x y : Operand} {k : IntKind} {a b c : Int} {p q : ByteArray}
theorem ls_add (hx : ev s x = some (.v (.int k a))) (hy : ev s y = some (.v (.int k b))) (hd : okDst Γ.n dst = true) : LS P Γ ⟨dst, .binOp .add xt x y yt, ty, pos, after, none⟩ s (rd x (rd y [])) (dst1 dst (.v (.int k (k.wrap (a + b))))) [] :=
 ls_bin hx hy (fun w => by simp [eqGuard, binOp, Op.intArith]) rfl hd
theorem ls_sub (hx : ev s x = some (.v (.int k a))) (hy : ev s y = some (.v (.int k b))) (hd : okDst Γ.n dst = true) : LS P Γ ⟨dst, .binOp .sub xt x y yt, ty, pos, after, none⟩ s (rd x (rd y [])) (dst1 dst (.v (.int k (k.wrap (a - b))))) [] :=
 ls_bin hx hy (fun w => by simp [eqGuard, binOp, Op.intArith]) rfl hd
theorem ls_mul (hx : ev s x = some (.v (.int k a))) (hy : ev s y = some (.v (.int k b))) (hd : okDst Γ.n dst = true) : LS P Γ ⟨dst, .binOp .mul xt x y yt, ty, pos, after, none⟩ s (rd x (rd y [])) (dst1 dst (.v (.int k (k.wrap (a * b))))) [] :=
 ls_bin hx hy (fun w => by simp [eqGuard, binOp, Op.intArith]) rfl hd
theorem ls_add64 (hx : ev s x = some (.v (.int .i64 a))) (hy : ev s y = some (.v (.int .i64 b))) (h : -9223372036854775808 ≤ a + b ∧ a + b ≤ 9223372036854775807) (hd : okDst Γ.n dst = true) : LS P Γ ⟨dst, .binOp .add xt x y yt, ty, pos, after, none⟩ s (rd x (rd y [])) (dst1 dst (.v (.int .i64 (a + b)))) [] := by
 have := ls_add (P := P) (Γ := Γ) (ty := ty) (pos := pos) (after := after) (xt := xt) (yt := yt) hx hy hd
 rwa [IntWalk.i64_in _ (by omega)] at this
theorem ls_sub64 (hx : ev s x = some (.v (.int .i64 a))) (hy : ev s y = some (.v (.int .i64 b))) (h : -9223372036854775808 ≤ a - b ∧ a - b ≤ 9223372036854775807) (hd : okDst Γ.n dst = true) : LS P Γ ⟨dst, .binOp .sub xt x y yt, ty, pos, after, none⟩ s (rd x (rd y [])) (dst1 dst (.v (.int .i64 (a - b)))) [] := by
 have := ls_sub (P := P) (Γ := Γ) (ty := ty) (pos := pos) (after := after) (xt := xt) (yt := yt) hx hy hd
 rwa [IntWalk.i64_in _ (by omega)] at this
theorem ls_lss (hx : ev s x = some (.v (.int k a))) (hy : ev s y = some (.v (.int k b))) (hd : okDst Γ.n dst = true) : LS P Γ ⟨dst, .binOp .lss xt x y yt, ty, pos, after, none⟩ s (rd x (rd y [])) (dst1 dst (.v (.bool (decide (a < b))))) [] :=
 ls_bin hx hy (fun w => by simp [eqGuard, binOp, Op.intCmp]) rfl hd
theorem ls_leq (hx : ev s x = some (.v (.int k a))) (hy : ev s y = some (.v (.int k b))) (hd : okDst Γ.n dst = true) : LS P Γ ⟨dst, .binOp .leq xt x y yt, ty, pos, after, none⟩ s (rd x (rd y [])) (dst1 dst (.v (.bool (decide (a ≤ b))))) [] :=
 ls_bin hx hy (fun w => by simp [eqGuard, binOp, Op.intCmp]) rfl hd
theorem ls_gtr (hx : ev s x = some (.v (.int k a))) (hy : ev s y = some (.v (.int k b))) (hd : okDst Γ.n dst = true) : LS P Γ ⟨dst, .binOp .gtr xt x y yt, ty, pos, after, none⟩ s (rd x (rd y [])) (dst1 dst (.v (.bool (decide (b < a))))) [] :=
 ls_bin hx hy (fun w => by simp [eqGuard, binOp, Op.intCmp]) rfl hd
theorem ls_geq (hx : ev s x = some (.v (.int k a))) (hy : ev s y = some (.v (.int k b))) (hd : okDst Γ.n dst = true) : LS P Γ ⟨dst, .binOp .geq xt x y yt, ty, pos, after, none⟩ s (rd x (rd y [])) (dst1 dst (.v (.bool (decide (b ≤ a))))) [] :=
 ls_bin hx hy (fun w => by simp [eqGuard, binOp, Op.intCmp]) rfl hd
theorem ls_eql (hx : ev s x = some (.v (.int k a))) (hy : ev s y = some (.v (.int k b))) (hd : okDst Γ.n dst = true) : LS P Γ ⟨dst, .binOp .eql xt x y yt, ty, pos, after, none⟩ s (rd x (rd y [])) (dst1 dst (.v (.bool (decide (a = b))))) [] :=
 ls_bin hx hy (fun w => by simp [eqGuard, binOp, Op.intCmp]; rfl) rfl hd
theorem ls_neq (hx : ev s x = some (.v (.int k a))) (hy : ev s y = some (.v (.int k b))) (hd : okDst Γ.n dst = true) : LS P Γ ⟨dst, .binOp .neq xt x y yt, ty, pos, after, none⟩ s (rd x (rd y [])) (dst1 dst (.v (.bool (decide (a ≠ b))))) [] :=
 ls_bin hx hy (fun w => by simp [eqGuard, binOp, Op.intCmp]; rfl) rfl hd
theorem ls_seq (hx : ev s x = some (.v (.string p))) (hy : ev s y = some (.v (.string q))) (hd : okDst Γ.n dst = true) : LS P Γ ⟨dst, .binOp .eql xt x y yt, ty, pos, after, none⟩ s (rd x (rd y [])) (dst1 dst (.v (.bool (p.toList == q.toList)))) [] :=
 ls_bin hx hy (fun w => by simp [eqGuard, binOp, Op.stringOp]) rfl hd
theorem ls_sne (hx : ev s x = some (.v (.string p))) (hy : ev s y = some (.v (.string q))) (hd : okDst Γ.n dst = true) : LS P Γ ⟨dst, .binOp .neq xt x y yt, ty, pos, after, none⟩ s (rd x (rd y [])) (dst1 dst (.v (.bool (!(p.toList == q.toList))))) [] :=
 ls_bin hx hy (fun w => by simp [eqGuard, binOp, Op.stringOp]) rfl hd
theorem ls_slt (hx : ev s x = some (.v (.string p))) (hy : ev s y = some (.v (.string q))) (hd : okDst Γ.n dst = true) : LS P Γ ⟨dst, .binOp .lss xt x y yt, ty, pos, after, none⟩ s (rd x (rd y [])) (dst1 dst (.v (.bool (Op.bytesLess p.toList q.toList)))) [] :=
 ls_bin hx hy (fun w => by simp [eqGuard, binOp, Op.stringOp]) rfl hd
theorem ls_sgt (hx : ev s x = some (.v (.string p))) (hy : ev s y = some (.v (.string q))) (hd : okDst Γ.n dst = true) : LS P Γ ⟨dst, .binOp .gtr xt x y yt, ty, pos, after, none⟩ s (rd x (rd y [])) (dst1 dst (.v (.bool (!(Op.bytesLess p.toList q.toList || p.toList == q.toList))))) [] :=
 ls_bin hx hy (fun w => by simp [eqGuard, binOp, Op.stringOp]) rfl hd
theorem ls_sle (hx : ev s x = some (.v (.string p))) (hy : ev s y = some (.v (.string q))) (hd : okDst Γ.n dst = true) : LS P Γ ⟨dst, .binOp .leq xt x y yt, ty, pos, after, none⟩ s (rd x (rd y [])) (dst1 dst (.v (.bool (Op.bytesLess p.toList q.toList || p.toList == q.toList)))) [] :=
 ls_bin hx hy (fun w => by simp [eqGuard, binOp, Op.stringOp]) rfl hd
theorem ls_sge (hx : ev s x = some (.v (.string p))) (hy : ev s y = some (.v (.string q))) (hd : okDst Γ.n dst = true) : LS P Γ ⟨dst, .binOp .geq xt x y yt, ty, pos, after, none⟩ s (rd x (rd y [])) (dst1 dst (.v (.bool (!Op.bytesLess p.toList q.toList)))) [] :=
 ls_bin hx hy (fun w => by simp [eqGuard, binOp, Op.stringOp]) rfl hd
theorem ls_cat (hx : ev s x = some (.v (.string p))) (hy : ev s y = some (.v (.string q))) (h : p.size + q.size ≤ 9223372036854775807) (hd : okDst Γ.n dst = true) : LS P Γ ⟨dst, .binOp .add xt x y yt, ty, pos, after, none⟩ s (rd x (rd y [])) (dst1 dst (.v (.string (p ++ q)))) [] :=
 ls_bin hx hy (fun w => by
  have : ¬ ((p.size + q.size : Nat) : Int) > IntKind.i64.max := by simp [IntKind.max, IntKind.signed, IntKind.bits]; omega
  simp only [eqGuard, binOp, Op.stringOp, if_neg this]; rfl) rfl hd
theorem ls_beq {p q : Bool} (hT : okTab P T = true) (hx : ev s x = some (.v (.bool p))) (hy : ev s y = some (.v (.bool q))) (hu : nth T xt = some .bool) (hd : okDst Γ.n dst = true) : LS P Γ ⟨dst, .binOp .eql xt x y yt, ty, pos, after, none⟩ s (rd x (rd y [])) (dst1 dst (.v (.bool (p == q)))) [] := by
 have h1 := okTab_at hT hu
 simp only [okTy] at h1
 split at h1
 ·rename_i hu2 _
  exact ls_bin hx hy (fun w => by simp [eqGuard, run_eql_bool w xt p q hu2]) rfl hd
 ·cases h1
theorem ls_bne {p q : Bool} (hT : okTab P T = true) (hx : ev s x = some (.v (.bool p))) (hy : ev s y = some (.v (.bool q))) (hu : nth T xt = some .bool) (hd : okDst Γ.n dst = true) : LS P Γ ⟨dst, .binOp .neq xt x y yt, ty, pos, after, none⟩ s (rd x (rd y [])) (dst1 dst (.v (.bool (!(p == q))))) [] := by
 have h1 := okTab_at hT hu
 simp only [okTy] at h1
 split at h1
 ·rename_i hu2 _
  exact ls_bin hx hy (fun w => by simp [eqGuard, run_neq_bool w xt p q hu2]) rfl hd
 ·cases h1
theorem ls_not {p : Bool} {xt : TypeId} (hx : ev s x = some (.v (.bool p))) (hd : okDst Γ.n dst = true) : LS P Γ ⟨dst, .unOp .not xt x, ty, pos, after, none⟩ s (rd x []) (dst1 dst (.v (.bool (!p)))) [] :=
 ls_pure hd fun t ht μ a w hr => by
  obtain ⟨h1, ht⟩ := ht.ev hx
  have h1 := hr.ev h1
  simp only [rep] at h1
  exact ⟨.bool (!p), by simp [execOp, h1.1, Op.unary], by simp only [rep]; exact ⟨trivial, rfl⟩⟩
theorem ls_neg {xt : TypeId} (hx : ev s x = some (.v (.int k a))) (hd : okDst Γ.n dst = true) : LS P Γ ⟨dst, .unOp .neg xt x, ty, pos, after, none⟩ s (rd x []) (dst1 dst (.v (.int k (k.wrap (0 - a))))) [] :=
 ls_pure hd fun t ht μ ac w hr => by
  obtain ⟨h1, ht⟩ := ht.ev hx
  have h1 := hr.ev h1
  simp only [rep] at h1
  exact ⟨.int k (k.wrap (0 - a)), by simp [execOp, h1.1, Op.unary, Op.intArith], by simp only [rep]; exact ⟨trivial, rfl⟩⟩
end
theorem ls_extract {x : Operand} {i : Nat} {vs : List AV} {v : AV} (hx : ev s x = some (.tup vs)) (hi : nth vs i = some v) (hd : okDst Γ.n dst = true) : LS P Γ ⟨dst, .extract x i, ty, pos, after, none⟩ s (rd x []) (dst1 dst v) [] :=
 ls_pure hd fun t ht μ a w hr => by
  obtain ⟨h1, ht⟩ := ht.ev hx
  have h1 := hr.ev h1
  simp only [rep] at h1
  obtain ⟨us, e, h2⟩ := h1
  have key : ∀ (vs : List AV) (us : List Value) (i : Nat), repL t.σ μ w (av t.σ μ Γ.M) vs us → nth vs i = some v → ∃ u, us[i]? = some u ∧ rep t.σ μ w (av t.σ μ Γ.M) v u := by
   intro vs
   induction vs with
   | nil => intro us i _ h; simp [nth] at h
   | cons c cs ih =>
    intro us i h hi
    simp only [repL] at h
    obtain ⟨u, us', rfl, h3, h4⟩ := h
    cases i with
    | zero => simp only [nth, Option.some.injEq] at hi; subst hi; exact ⟨u, rfl, h3⟩
    | succ i => exact ih us' i h4 hi
  obtain ⟨u, h3, h4⟩ := key vs us i h2 hi
  exact ⟨u, by simp [execOp, e, Instr.extract, h3], h4⟩
end
end Go.Proofs.Ytlgbadlgfdlheaa
namespace Go.Proofs.Ytlgbadlgfdlheaa
open Go.RowKit

def dropN {α : Type} : List α → Nat → Option (List α)
 | l, 0 => some l
 | [], _ + 1 => none
 | _ :: l, n + 1 => dropN l n
def takeK {α β : Type} : List α → Nat → (List α → β) → Option β
 | _, 0, k => some (k [])
 | [], _ + 1, _ => none
 | c :: cs, n + 1, k => takeK cs n fun r => k (c :: r)
def putK {β : Type} : List AV → Nat → List AV → (List AV → β) → Option β
 | cs, 0, [], k => some (k cs)
 | _ :: cs, 0, v :: vs, k => putK cs 0 vs fun r => k (v :: r)
 | c :: cs, n + 1, vs, k => putK cs n vs fun r => k (c :: r)
 | [], _, _, _ => none
def acells : AV → List AV
 | .agg cs => cs
 | x => [x]
def ldv (ti : TyI) (cs : List AV) : Option AV := match ti with
 | .none => none
 | .struct n _ => takeK cs n .agg
 | _ => nth cs 0
theorem dropN_spec {α : Type} : ∀ {l r : List α} {n : Nat}, dropN l n = some r → n ≤ l.length ∧ r = l.drop n
 | l, r, 0, h => by simp [dropN] at h; exact ⟨Nat.zero_le _, by simp [h]⟩
 | [], r, n + 1, h => by simp [dropN] at h
 | x :: l, r, n + 1, h => by
  have := dropN_spec (l := l) (n := n) h
  exact ⟨by simp; omega, this.2⟩
theorem takeK_spec {α β : Type} : ∀ {l : List α} {n : Nat} {k : List α → β} {b : β}, takeK l n k = some b → n ≤ l.length ∧ b = k (l.take n)
 | l, 0, k, b, h => by simp [takeK] at h; exact ⟨Nat.zero_le _, by simp [h]⟩
 | [], n + 1, k, b, h => by simp [takeK] at h
 | x :: l, n + 1, k, b, h => by
  have := takeK_spec (l := l) (n := n) h
  exact ⟨by simp; omega, this.2⟩
theorem putK_spec {β : Type} : ∀ {cs : List AV} {n : Nat} {vs : List AV} {k : List AV → β} {b : β}, putK cs n vs k = some b → n + vs.length ≤ cs.length ∧ b = k (cs.take n ++ vs ++ cs.drop (n + vs.length))
 | [], 0, [], k, b, h => by simp [putK] at h; exact ⟨by simp, by simp [h]⟩
 | c :: cs, 0, [], k, b, h => by simp [putK] at h; exact ⟨by simp, by simp [h]⟩
 | c :: cs, 0, v :: vs, k, b, h => by
  have := putK_spec (cs := cs) (n := 0) (vs := vs) h
  refine ⟨by simp at this ⊢; omega, by rw [this.2]; simp⟩
 | c :: cs, n + 1, vs, k, b, h => by
  have := putK_spec (cs := cs) (n := n) (vs := vs) (by cases vs <;> exact h)
  refine ⟨by simp; omega, by rw [this.2]; simp [Nat.add_right_comm]⟩
 | [], 0, v :: vs, k, b, h => by simp [putK] at h
 | [], n + 1, vs, k, b, h => by cases vs <;> simp [putK] at h

section
variable {σ : Store} {μ : Nat → Value} {w : World} {A : Nat → Prop}
theorem repC_len : ∀ {cs : List AV} {us : List Value}, repC σ μ w A cs us → us.length = cs.length
 | [], us, h => by simp only [repC] at h; simp [h]
 | c :: cs, us, h => by
  simp only [repC] at h
  obtain ⟨u, us', rfl, _, _, h2⟩ := h
  simp [repC_len h2]
theorem repC_one : ∀ {cs : List AV} {us : List Value}, repC σ μ w A cs us → ∀ u ∈ us, u.oneCell' = true
 | [], us, h => by simp only [repC] at h; simp [h]
 | c :: cs, us, h => by
  simp only [repC] at h
  obtain ⟨u, us', rfl, h0, _, h2⟩ := h
  intro v hv
  simp only [List.mem_cons] at hv
  rcases hv with rfl | hv
  ·exact h0
  ·exact repC_one h2 v hv
theorem repC_drop : ∀ (n : Nat) {cs : List AV} {us : List Value}, repC σ μ w A cs us → repC σ μ w A (cs.drop n) (us.drop n)
 | 0, cs, us, h => by simpa using h
 | n + 1, [], us, h => by simp only [repC] at h; subst h; simp [repC]
 | n + 1, c :: cs, us, h => by
  simp only [repC] at h
  obtain ⟨u, us', rfl, _, _, h2⟩ := h
  exact repC_drop n h2
theorem repC_take : ∀ (n : Nat) {cs : List AV} {us : List Value}, repC σ μ w A cs us → repC σ μ w A (cs.take n) (us.take n)
 | 0, cs, us, h => by simp [repC]
 | n + 1, [], us, h => by simp only [repC] at h; subst h; simp [repC]
 | n + 1, c :: cs, us, h => by
  simp only [repC] at h
  obtain ⟨u, us', rfl, h0, h1, h2⟩ := h
  simp only [List.take_succ_cons, repC]
  exact ⟨u, _, rfl, h0, h1, repC_take n h2⟩
theorem repC_append : ∀ {cs ds : List AV} {us vs : List Value}, repC σ μ w A cs us → repC σ μ w A ds vs → repC σ μ w A (cs ++ ds) (us ++ vs)
 | [], ds, us, vs, h, k => by simp only [repC] at h; subst h; simpa using k
 | c :: cs, ds, us, vs, h, k => by
  simp only [repC] at h
  obtain ⟨u, us', rfl, h0, h1, h2⟩ := h
  simp only [List.cons_append, repC]
  exact ⟨u, _, rfl, h0, h1, repC_append h2 k⟩
theorem repC_nth : ∀ {i : Nat} {cs : List AV} {us : List Value} {c : AV}, repC σ μ w A cs us → nth cs i = some c → ∃ u, us[i]? = some u ∧ u.oneCell' = true ∧ rep σ μ w A c u
 | i, [], us, c, h, hi => by simp [nth] at hi
 | 0, d :: cs, us, c, h, hi => by
  simp only [nth, Option.some.injEq] at hi; subst hi
  simp only [repC] at h
  obtain ⟨u, us', rfl, h0, h1, h2⟩ := h
  exact ⟨u, rfl, h0, h1⟩
 | i + 1, d :: cs, us, c, h, hi => by
  simp only [repC] at h
  obtain ⟨u, us', rfl, _, _, h2⟩ := h
  exact repC_nth (i := i) h2 hi
theorem Step.up : Step [] μ w A σ μ w A := ⟨fun b hb _ => ⟨rfl, hb⟩, Nat.le_refl _, fun _ _ _ h => by simp [find] at h, fun _ _ _ _ h => by simp [find] at h, fun _ _ h => by simp [find] at h, fun _ h => by simp [find] at h⟩
theorem repLL_get {size : Nat} : ∀ {i : Nat} {xs : List (List AV)} {us : List Value} {x : List AV}, repLL σ μ w A size xs us → xs[i]? = some x → repC σ μ w A x ((us.drop (i * size)).take size) ∧ ((us.drop (i * size)).take size).length = size
 | i, [], us, x, h, hi => by simp at hi
 | 0, d :: xs, us, x, h, hi => by
  simp only [List.getElem?_cons_zero, Option.some.injEq] at hi; subst hi
  simp only [repLL] at h
  obtain ⟨u1, u2, rfl, h0, h1, h2⟩ := h
  subst h0
  simp only [Nat.zero_mul, List.drop_zero, List.take_left]
  exact ⟨h1, by simp⟩
 | i + 1, d :: xs, us, x, h, hi => by
  simp only [repLL] at h
  obtain ⟨u1, u2, rfl, h0, h1, h2⟩ := h
  have := repLL_get (i := i) h2 (by simpa using hi)
  have e : (u1 ++ u2).drop ((i + 1) * size) = u2.drop (i * size) := by
   rw [List.drop_append, Nat.add_mul, Nat.one_mul, List.drop_of_length_le (by omega), h0, List.nil_append]
   congr 1
   omega
  rw [e]; exact this
theorem repLL_len {size : Nat} : ∀ {xs : List (List AV)} {us : List Value}, repLL σ μ w A size xs us → us.length = xs.length * size
 | [], us, h => by simp only [repLL] at h; simp [h]
 | d :: xs, us, h => by
  simp only [repLL] at h
  obtain ⟨u1, u2, rfl, h0, h1, h2⟩ := h
  rw [List.length_append, h0, repLL_len h2, List.length_cons, Nat.add_mul]; omega
theorem repLL_one {size : Nat} : ∀ {xs : List (List AV)} {us : List Value}, repLL σ μ w A size xs us → ∀ u ∈ us, u.oneCell' = true
 | [], us, h => by simp only [repLL] at h; simp [h]
 | d :: xs, us, h => by
  simp only [repLL] at h
  obtain ⟨u1, u2, rfl, h0, h1, h2⟩ := h
  intro v hv
  rcases List.mem_append.1 hv with hv | hv
  ·exact repC_one h1 v hv
  ·exact repLL_one h2 v hv
theorem repLL_append {size : Nat} : ∀ {xs ys : List (List AV)} {us vs : List Value}, repLL σ μ w A size xs us → repLL σ μ w A size ys vs → repLL σ μ w A size (xs ++ ys) (us ++ vs)
 | [], ys, us, vs, h, k => by simp only [repLL] at h; subst h; simpa using k
 | d :: xs, ys, us, vs, h, k => by
  simp only [repLL] at h
  obtain ⟨u1, u2, rfl, h0, h1, h2⟩ := h
  simp only [List.cons_append, repLL]
  exact ⟨u1, u2 ++ vs, by rw [List.append_assoc], h0, h1, repLL_append h2 k⟩
theorem repLL_set {size : Nat} : ∀ {i : Nat} {xs : List (List AV)} {us : List Value} {x : List AV} {u : List Value}, repLL σ μ w A size xs us → i < xs.length → repC σ μ w A x u → u.length = size → repLL σ μ w A size (xs.set i x) (us.take (i * size) ++ u ++ us.drop (i * size + size))
 | i, [], us, x, u, h, hi, hx, hu => by simp at hi
 | 0, d :: xs, us, x, u, h, hi, hx, hu => by
  simp only [repLL] at h
  obtain ⟨u1, u2, rfl, h0, h1, h2⟩ := h
  subst h0
  simp only [List.set_cons_zero, Nat.zero_mul, List.take_zero, List.nil_append, Nat.zero_add, List.drop_left, repLL]
  exact ⟨u, u2, rfl, hu, hx, h2⟩
 | i + 1, d :: xs, us, x, u, h, hi, hx, hu => by
  simp only [repLL] at h
  obtain ⟨u1, u2, rfl, h0, h1, h2⟩ := h
  have := repLL_set (i := i) h2 (by simpa using hi) hx hu
  simp only [List.set_cons_succ, repLL]
  refine ⟨u1, _, ?_, h0, h1, this⟩
  have e1 : (u1 ++ u2).take ((i + 1) * size) = u1 ++ u2.take (i * size) := by
   rw [List.take_append, List.take_of_length_le (by rw [h0, Nat.add_mul]; omega), h0]
   congr 2
   rw [Nat.add_mul]; omega
  have e2 : (u1 ++ u2).drop ((i + 1) * size + size) = u2.drop (i * size + size) := by
   rw [List.drop_append, List.drop_of_length_le (by rw [h0, Nat.add_mul]; omega), h0, List.nil_append]
   congr 1
   rw [Nat.add_mul]; omega
  rw [e1, e2]; simp [List.append_assoc]
variable {P : Program} {T : List TyI}
theorem load_ok (hT : okTab P T = true) {t b off : Nat} {ti : TyI} {cs : List AV} {us : List Value} {v : AV} (ht : nth T t = some ti) (hl : ldv ti cs = some v) (hr : repC σ μ w A cs us)
  (hc : ∀ j u, us[j]? = some u → w.cell? ⟨b, off + j, none⟩ = some u) : ∃ y, (loadVar t ⟨b, off, none⟩).run P w = .ok y w ∧ rep σ μ w A v y := by
 have single : nth cs 0 = some v → ti.ag = false → ti.size ≠ 0 → ∃ y, (loadVar t ⟨b, off, none⟩).run P w = .ok y w ∧ rep σ μ w A v y := by
  intro hn ha hs
  obtain ⟨_, h2⟩ := ty_size hT ht hs
  obtain ⟨u, h3, _, h4⟩ := repC_nth hr hn
  have h5 := hc 0 u h3
  simp only [Nat.add_zero] at h5
  exact ⟨u, by simp [loadVar, h2, ha, h5], h4⟩
 cases ti with
 | struct n fs =>
  simp only [ldv] at hl
  obtain ⟨h1, rfl⟩ := takeK_spec hl
  rcases Nat.eq_zero_or_pos n with h0 | h0
  ·subst h0
   have h3 := okTab_at hT ht
   simp only [okTy] at h3
   split at h3
   ·rename_i hu hi
    simp only [Bool.and_eq_true, Nat.beq_eq] at h3
    have h4 : (isAgg t).run P w = .ok true w := by simp [isAgg, run_underlying hu]
    refine ⟨.agg #[], ?_, by simp [rep, repC]⟩
    simp [loadVar, h4, sizeOf, typeInfo, hi, h3.1.1, loadCells, loadCellsFrom]
   ·cases h3
  ·obtain ⟨⟨i, hi, hs⟩, h2⟩ := ty_size hT ht (by simp [TyI.size]; omega)
   have hr2 := repC_take n hr
   have hlen : (us.take n).length = n := by rw [List.length_take, repC_len hr]; exact Nat.min_eq_left h1
   have h3 := run_loadCells_list (P := P) w ⟨b, off, none⟩ (us.take n) (fun j u hu => by
    rw [Go.WideShapes.add_plain]
    rw [List.getElem?_take] at hu
    split at hu
    ·exact hc j u hu
    ·cases hu)
   rw [hlen] at h3
   refine ⟨.agg (us.take n).toArray, ?_, by simp only [rep]; exact ⟨_, rfl, hr2⟩⟩
   simp only [TyI.size] at hs
   simp [loadVar, h2, TyI.ag, sizeOf, typeInfo, hi, hs, h3]
 | none => simp [ldv] at hl
 | int _ => exact single hl rfl (by simp [TyI.size])
 | string => exact single hl rfl (by simp [TyI.size])
 | bool => exact single hl rfl (by simp [TyI.size])
 | pointer => exact single hl rfl (by simp [TyI.size])
 | func => exact single hl rfl (by simp [TyI.size])
 | map => exact single hl rfl (by simp [TyI.size])
 | slice _ _ _ => exact single hl rfl (by simp [TyI.size])
theorem blk_cells {g : Nat} {t : TypeId} {us : List Value} (h : Blk w g t us.toArray) (off : Nat) : ∀ j u, (us.drop off)[j]? = some u → w.cell? ⟨g, off + j, none⟩ = some u := by
 intro j u hu
 rw [h.cell]
 rw [List.getElem?_drop] at hu
 simpa using hu
end
section
variable {P : Program} {Γ : Ctx} {Q Q' : Exit → ASt → Prop} {s : ASt} {σ : Store} {μ : Nat → Value} {w : World} {A : Nat → Prop} {T : List TyI}
variable {dst : Option Tmp} {ty : TypeId} {pos : String} {after : Array Edge}
theorem ls_load_ref (hT : okTab P T = true) {x : Operand} {t id off : Nat} {bt : TypeId} {cs cs1 : List AV} {ti : TyI} {v : AV} (hx : ev s x = some (.ref id off)) (hσ : find s.σ id = some (.box bt cs)) (hty : nth T t = some ti) (h1 : dropN cs off = some cs1) (h2 : ldv ti cs1 = some v) (hd : okDst Γ.n dst = true) :
  LS P Γ ⟨dst, .load t x, ty, pos, after, none⟩ s (rd x [.obj id]) (dst1 dst v) [] :=
 ls_pure hd fun t' ht μ a w hr => by
  obtain ⟨e1, ht⟩ := ht.ev hx
  have e2 : find t'.σ id = some (.box bt cs) := ht.1.trans hσ
  have e1 := hr.ev e1
  simp only [rep] at e1
  obtain ⟨bt', cs', g, e3, e4, e5, e6⟩ := e1
  rw [e2] at e3
  injection e3 with e3; injection e3 with e3 e7; subst e3 e7
  obtain ⟨g', us, e8, e9, e10⟩ := hr.store.obj id _ e2
  rw [e5] at e8
  injection e8 with e8; injection e8 with e8; injection e8 with e8; subst e8
  obtain ⟨_, rfl⟩ := dropN_spec h1
  obtain ⟨y, h3, h4⟩ := load_ok hT hty h2 (repC_drop off e10) (blk_cells e9 off)
  exact ⟨y, by simp [execOp, Instr.loadAt, Instr.sureAddr, e6, h3], h4⟩
theorem ls_load_el (hT : okTab P T = true) {x : Operand} {t : Nat} {cs : List AV} {ti : TyI} {v : AV} (hx : ev s x = some (.el cs)) (hty : nth T t = some ti) (h2 : ldv ti cs = some v) (hd : okDst Γ.n dst = true) :
  LS P Γ ⟨dst, .load t x, ty, pos, after, none⟩ s (rd x []) (dst1 dst v) [] :=
 ls_pure hd fun t' ht μ a w hr => by
  obtain ⟨e1, ht⟩ := ht.ev hx
  have e1 := hr.ev e1
  simp only [rep] at e1
  obtain ⟨b, off, us, e3, e4, e5⟩ := e1
  have hc : ∀ j u, us[j]? = some u → w.cell? ⟨b, off + j, none⟩ = some u := by
   rcases e4 with rfl | ⟨b', off', e6, _, _, e7⟩
   ·intro j u hu; simp at hu
   ·injection e6 with e6; injection e6 with e6 e8; subst e6 e8; exact e7
  obtain ⟨y, h3, h4⟩ := load_ok hT hty h2 e5 hc
  exact ⟨y, by simp [execOp, Instr.loadAt, Instr.sureAddr, e3, h3], rep_mono Step.up h4⟩
theorem ls_load_eref (hT : okTab P T = true) {x : Operand} {t id n i off : Nat} {e : TypeId} {size : Nat} {xs : List (List AV)} {cs cs1 : List AV} {ti : TyI} {v : AV} (hx : ev s x = some (.eref id n i off)) (hσ : find s.σ id = some (.row e size xs)) (hn : n = xs.length) (hi : xs[i]? = some cs)
  (hty : nth T t = some ti) (h1 : dropN cs off = some cs1) (h2 : ldv ti cs1 = some v) (hd : okDst Γ.n dst = true) : LS P Γ ⟨dst, .load t x, ty, pos, after, none⟩ s (rd x [.obj id]) (dst1 dst v) [] :=
 ls_pure hd fun t' ht μ a w hr => by
  obtain ⟨e1, ht⟩ := ht.ev hx
  have e2 : find t'.σ id = some (.row e size xs) := ht.1.trans hσ
  have e1 := hr.ev e1
  simp only [rep] at e1
  obtain ⟨_, e', size', xs', e3, e4, e5⟩ := live e2 e1
  rw [e2] at e3
  injection e3 with e3; injection e3 with e3 e7 e8; subst e3 e7 e8
  obtain ⟨g, c, _, _, e9, e10⟩ := e5 hn
  obtain ⟨us, e11, e12⟩ := hr.store.obj id _ e2
  subst hn
  rw [e9] at e11
  obtain ⟨h5, h6⟩ := repLL_get e12 hi
  obtain ⟨_, rfl⟩ := dropN_spec h1
  obtain ⟨y, h3, h4⟩ := load_ok (b := g) (off := i * size + off) hT hty h2 (repC_drop off h5) (fun j u hu => by
   rw [List.getElem?_drop, List.getElem?_take] at hu
   split at hu
   ·rw [List.getElem?_drop] at hu
    have := e11.addr _ u hu
    rw [← this]
    congr 2
    omega
   ·cases hu)
  exact ⟨y, by simp [execOp, Instr.loadAt, Instr.sureAddr, e10, h3], rep_mono Step.up h4⟩
theorem ls_field (hT : okTab P T = true) {x : Operand} {t f : Nat} {cs cs1 : List AV} {n off ft : Nat} {fs : List (Nat × Nat)} {ti : TyI} {v : AV} (hx : ev s x = some (.agg cs)) (hty : nth T t = some (.struct n fs)) (hf : nth fs f = some (off, ft)) (htf : nth T ft = some ti)
  (h1 : dropN cs off = some cs1) (h2 : ldv ti cs1 = some v) (hd : okDst Γ.n dst = true) : LS P Γ ⟨dst, .field t x f, ty, pos, after, none⟩ s (rd x []) (dst1 dst v) [] :=
 ls_pure hd fun t' ht μ a w hr => by
  obtain ⟨e1, ht⟩ := ht.ev hx
  have e1 := hr.ev e1
  simp only [rep] at e1
  obtain ⟨us, e2, e3⟩ := e1
  have h3 := okTab_at hT hty
  simp only [okTy] at h3
  split at h3
  ·rename_i fields i hu hi
   simp only [Bool.and_eq_true, Nat.beq_eq, decide_eq_true_eq] at h3
   obtain ⟨⟨h4, h5⟩, h6⟩ := h3
   have h7 : ∃ fi, fields[f]? = some fi ∧ fi.offset = off ∧ fi.type = ft := by
    subst h5
    have key : ∀ (l : List Field) (f : Nat), nth (l.map fun f => (f.offset, f.type)) f = some (off, ft) → ∃ fi, l[f]? = some fi ∧ fi.offset = off ∧ fi.type = ft := by
     intro l
     induction l with
     | nil => intro f h; simp [nth] at h
     | cons y l ih =>
      intro f h
      cases f with
      | zero => simp only [List.map_cons, nth, Option.some.injEq, Prod.mk.injEq] at h; exact ⟨y, rfl, h⟩
      | succ f => exact ih f h
    obtain ⟨fi, h8, h9⟩ := key _ f hf
    exact ⟨fi, by rw [← Array.getElem?_toList]; exact h8, h9⟩
   obtain ⟨fi, h8, rfl, rfl⟩ := h7
   obtain ⟨h10, rfl⟩ := dropN_spec h1
   have e4 := repC_drop fi.offset e3
   cases ti with
   | none => simp [ldv] at h2
   | struct m gs =>
    simp only [ldv] at h2
    obtain ⟨h11, rfl⟩ := takeK_spec h2
    have h12 := okTab_at hT htf
    simp only [okTy] at h12
    split at h12
    ·rename_i hu' hi'
     simp only [Bool.and_eq_true, Nat.beq_eq] at h12
     refine ⟨.agg ((us.drop fi.offset).take m).toArray, ?_, by simp only [rep]; exact ⟨_, rfl, repC_take m e4⟩⟩
     simp only [execOp, Instr.field, Sem.run_bind, run_underlying hu, Result.andThen_ok, h8, e2, asAgg, part, isAgg, run_underlying hu', sizeOf, typeInfo, run_program, hi', Sem.run_pure, if_true, h12.1.1]
     congr 3
     simp [List.extract_toArray, List.extract_eq_take_drop]
    ·cases h12
   | _ =>
    obtain ⟨u, h11, _, h12⟩ := repC_nth e4 h2
    obtain ⟨_, h13⟩ := ty_size hT htf (by simp [TyI.size])
    refine ⟨u, ?_, h12⟩
    rw [List.getElem?_drop] at h11
    simp only [Nat.add_zero] at h11
    simp [execOp, Instr.field, run_underlying hu, h8, e2, asAgg, part, h13, TyI.ag, h11]
  ·cases h3
theorem fieldAt_ok (hT : okTab P T = true) {t f n off ft b o : Nat} {fs : List (Nat × Nat)} (hty : nth T t = some (.struct n fs)) (hf : nth fs f = some (off, ft)) : (Instr.fieldAt t (.pointer (some ⟨b, o, none⟩)) f).run P w = .ok (.pointer (some ⟨b, o + off, none⟩)) w := by
 have h3 := okTab_at hT hty
 simp only [okTy] at h3
 split at h3
 ·rename_i fields i hu hi
  simp only [Bool.and_eq_true, Nat.beq_eq, decide_eq_true_eq] at h3
  obtain ⟨⟨h4, h5⟩, h6⟩ := h3
  subst h5
  have key : ∀ (l : List Field) (f : Nat), nth (l.map fun f => (f.offset, f.type)) f = some (off, ft) → ∃ fi, l[f]? = some fi ∧ fi ∈ l ∧ fi.offset = off ∧ fi.type = ft := by
   intro l
   induction l with
   | nil => intro f h; simp [nth] at h
   | cons y l ih =>
    intro f h
    cases f with
    | zero => simp only [List.map_cons, nth, Option.some.injEq, Prod.mk.injEq] at h; exact ⟨y, rfl, by simp, h⟩
    | succ f => obtain ⟨fi, h1, h2, h3⟩ := ih f h; exact ⟨fi, h1, by simp [h2], h3⟩
  obtain ⟨fi, h8, h9, rfl, rfl⟩ := key _ f hf
  have h10 := List.all_eq_true.1 h6 fi h9
  split at h10
  ·rename_i j hj
   have h11 : ¬ j.size = 0 := fun h => by rw [h] at h10; cases h10
   simp [Instr.fieldAt, run_underlying hu, ← Array.getElem?_toList, h8, Instr.sureAddr, fieldPlace, sizeOf, typeInfo, hj, h11, Go.WideShapes.add_plain]
  ·cases h10
 ·cases h3
theorem ls_fieldAddr_ref (hT : okTab P T = true) {x : Operand} {t f id o : Nat} {bt : TypeId} {cs : List AV} {n off ft : Nat} {fs : List (Nat × Nat)} (hx : ev s x = some (.ref id o)) (hσ : find s.σ id = some (.box bt cs)) (hty : nth T t = some (.struct n fs)) (hf : nth fs f = some (off, ft)) (hle : Nat.ble (o + off) cs.length = true) (hd : okDst Γ.n dst = true) :
  LS P Γ ⟨dst, .fieldAddr t x f, ty, pos, after, none⟩ s (rd x [.obj id]) (dst1 dst (.ref id (o + off))) [] :=
 ls_pure hd fun t' ht μ a w hr => by
  obtain ⟨e1, ht⟩ := ht.ev hx
  have e0 : find t'.σ id = some (.box bt cs) := ht.1.trans hσ
  have e1 := hr.ev e1
  simp only [rep] at e1 ⊢
  obtain ⟨bt', cs', g, e3, e4, e5, e6⟩ := e1
  rw [e0] at e3
  injection e3 with e3; injection e3 with e3 e7; subst e3 e7
  exact ⟨_, by simp [execOp, e6, fieldAt_ok hT hty hf], bt, cs, g, e0, Nat.le_of_ble_eq_true hle, e5, rfl⟩
theorem ls_fieldAddr_el (hT : okTab P T = true) {x : Operand} {t f : Nat} {cs cs1 : List AV} {n off ft : Nat} {fs : List (Nat × Nat)} (hx : ev s x = some (.el cs)) (hty : nth T t = some (.struct n fs)) (hf : nth fs f = some (off, ft)) (h1 : dropN cs off = some cs1) (hd : okDst Γ.n dst = true) :
  LS P Γ ⟨dst, .fieldAddr t x f, ty, pos, after, none⟩ s (rd x []) (dst1 dst (.el cs1)) [] :=
 ls_pure hd fun t' ht μ a w hr => by
  obtain ⟨e1, ht⟩ := ht.ev hx
  have e1 := hr.ev e1
  simp only [rep] at e1 ⊢
  obtain ⟨b, o, us, e3, e4, e5⟩ := e1
  obtain ⟨_, rfl⟩ := dropN_spec h1
  refine ⟨_, by simp [execOp, e3, fieldAt_ok hT hty hf], b, o + off, us.drop off, rfl, ?_, repC_drop off e5⟩
  rcases e4 with rfl | ⟨b', off', e6, e8, e9, e10⟩
  ·exact .inl (by simp)
  ·injection e6 with e6; injection e6 with e6 e7; subst e6 e7
   refine .inr ⟨b, o + off, rfl, e8, e9, fun j u hu => ?_⟩
   rw [List.getElem?_drop] at hu
   rw [← e10 _ u hu]
   congr 2
   omega
theorem ls_fieldAddr_eref (hT : okTab P T = true) {x : Operand} {t f id m i o : Nat} {e : TypeId} {size : Nat} {xs : List (List AV)} {n off ft : Nat} {fs : List (Nat × Nat)} (hx : ev s x = some (.eref id m i o)) (hσ : find s.σ id = some (.row e size xs)) (hty : nth T t = some (.struct n fs)) (hf : nth fs f = some (off, ft)) (hle : Nat.ble (o + off) size = true) (hd : okDst Γ.n dst = true) :
  (hm : m = xs.length) → LS P Γ ⟨dst, .fieldAddr t x f, ty, pos, after, none⟩ s (rd x [.obj id]) (dst1 dst (.eref id m i (o + off))) [] := fun hm =>
 ls_pure hd fun t' ht μ a w hr => by
  obtain ⟨e1, ht⟩ := ht.ev hx
  have e0 : find t'.σ id = some (.row e size xs) := ht.1.trans hσ
  have e1 := hr.ev e1
  simp only [rep] at e1 ⊢
  obtain ⟨_, e', size', xs', e3, e4, e5⟩ := live e0 e1
  rw [e0] at e3
  injection e3 with e3; injection e3 with e3 e7 e8; subst e3 e7 e8
  obtain ⟨g, c, h1, h2, h3, h4⟩ := e5 hm
  exact ⟨.pointer (some ⟨g, i * size + (o + off), none⟩), by simp [execOp, h4, fieldAt_ok hT hty hf, Nat.add_assoc], rfl, .inr ⟨e, size, xs, e0, e4, fun _ => ⟨g, c, h1, Nat.le_of_ble_eq_true hle, h3, rfl⟩⟩⟩
theorem slice_ty (hT : okTab P T = true) {t e size bytes : Nat} (hty : nth T t = some (.slice e size bytes)) : P.underlying t = some (.slice e) ∧ 0 < size ∧ ∃ j z, P.info? e = some j ∧ j.size = size ∧ j.bytes = bytes ∧ j.zero = some z ∧ z.cells.size = size := by
 have h3 := okTab_at hT hty
 simp only [okTy] at h3
 split at h3
 ·rename_i e' i j hu hi hj
  simp only [Bool.and_eq_true, Nat.beq_eq, Bool.not_eq_true', Bool.eq_false_iff, ne_eq] at h3
  obtain ⟨⟨⟨⟨⟨h4, rfl⟩, h6⟩, h7⟩, h8⟩, h9⟩ := h3
  split at h9
  ·rename_i z hz
   exact ⟨hu, by omega, j, z, hj, h6, h7, hz, by simpa using h9⟩
  ·cases h9
 ·cases h3
theorem ls_indexAddr_sl (hT : okTab P T = true) {x y : Operand} {t : Nat} {xs : List (List AV)} {k : IntKind} {i : Int} {q : Nat} {cs : List AV} {e size bytes : Nat} (hx : ev s x = some (.sl size xs)) (hy : ev s y = some (.v (.int k i))) (hty : nth T t = some (.slice e size bytes)) (hi : i = (q : Int)) (hq : xs[q]? = some cs) (hd : okDst Γ.n dst = true) :
  LS P Γ ⟨dst, .indexAddr t x y, ty, pos, after, none⟩ s (rd x (rd y [])) (dst1 dst (.el cs)) [] :=
 ls_pure hd fun t' ht μ a w hr => by
  obtain ⟨e1, ht⟩ := ht.ev hx
  obtain ⟨e2, ht⟩ := ht.ev hy
  have e1 := hr.ev e1
  have e2 := hr.ev e2
  simp only [rep] at e1 e2 ⊢
  obtain ⟨ad, c, us, e3, e4, e5, e6, e7⟩ := e1
  obtain ⟨hu, hpos, j, z, hj, hj2, _⟩ := slice_ty hT hty
  obtain ⟨h5, h6⟩ := repLL_get e7 hq
  have hlt : q < xs.length := (List.getElem?_eq_some_iff.1 hq).1
  have hul : 0 < us.length := by rw [repLL_len e7]; exact Nat.mul_pos (by omega) hpos
  rcases e6 with rfl | ⟨b, off, rfl, hA, hb, hc⟩
  ·simp at hul
  subst hi
  refine ⟨.pointer (some ⟨b, off + q * size, none⟩), ?_, b, off + q * size, (us.drop (q * size)).take size, rfl, ?_, h5⟩
  ·have hlt' : (q : Int) < (xs.length : Int) := by omega
   simp [execOp, e3, e2.1, Instr.indexAt, asIntOf, run_underlying hu, hlt', sizeOf, typeInfo, hj, hj2, Go.WideShapes.add_plain]
   try (intro h; omega)
  ·refine .inr ⟨b, off + q * size, rfl, hA, hb, fun j u hu => ?_⟩
   rw [List.getElem?_take] at hu
   split at hu
   ·rw [List.getElem?_drop] at hu
    rw [← hc _ u hu]
    congr 2
    omega
   ·cases hu
theorem ls_indexAddr_own (hT : okTab P T = true) {x y : Operand} {t : Nat} {id n : Nat} {xs : List (List AV)} {k : IntKind} {i : Int} {q : Nat} {e size bytes : Nat} (hx : ev s x = some (.own id n)) (hσ : find s.σ id = some (.row e size xs)) (hn : n = xs.length) (hy : ev s y = some (.v (.int k i))) (hty : nth T t = some (.slice e size bytes)) (hi : i = (q : Int)) (hq : q < xs.length) (hd : okDst Γ.n dst = true) :
  LS P Γ ⟨dst, .indexAddr t x y, ty, pos, after, none⟩ s (rd x (rd y [.obj id])) (dst1 dst (.eref id n q 0)) [] :=
 ls_pure hd fun t' ht μ a w hr => by
  obtain ⟨e1, ht⟩ := ht.ev hx
  obtain ⟨e2, ht⟩ := ht.ev hy
  have e0 : find t'.σ id = some (.row e size xs) := ht.1.trans hσ
  have e1 := hr.ev e1
  have e2 := hr.ev e2
  simp only [rep] at e1 e2 ⊢
  obtain ⟨_, e', size', xs', e3, e4, e5⟩ := live e0 e1
  rw [e0] at e3
  injection e3 with e3; injection e3 with e3 e7 e8; subst e3 e7 e8
  have e5 := e5 hn
  obtain ⟨us, e11, e12⟩ := hr.store.obj id _ e0
  obtain ⟨hu, hpos, j, z, hj, hj2, _⟩ := slice_ty hT hty
  subst hn hi
  rcases e11.2 with ⟨_, h0⟩ | ⟨g, cap, cur, h1, _, h2, h3, h4, h5⟩
  ·omega
  refine ⟨.pointer (some ⟨g, q * size, none⟩), ?_, rfl, .inr ⟨e, size, xs, e0, Nat.le_refl _, fun _ => ⟨g, cap, hq, Nat.zero_le _, h1, rfl⟩⟩⟩
  have hlt' : (q : Int) < (xs.length : Int) := by omega
  simp [execOp, e5, h1, e2.1, Instr.indexAt, asIntOf, run_underlying hu, hlt', sizeOf, typeInfo, hj, hj2, Go.WideShapes.add_plain]
  try (intro h; omega)
theorem ls_len_str (hT : okTab P T = true) {x : Operand} {t : Nat} {z : ByteArray} (hx : ev s x = some (.v (.string z))) (hty : nth T t = some .string) (hd : okDst Γ.n dst = true) : LS P Γ ⟨dst, .call { callee := .builtin .len, args := #[x], argTypes := #[t] }, ty, pos, after, none⟩ s (rd x []) (dst1 dst (.v (.int .i64 (z.size : Int)))) [] :=
 ls_pure hd fun t' ht μ a w hr => by
  obtain ⟨e1, ht⟩ := ht.ev hx
  have e1 := hr.ev e1
  simp only [rep] at e1 ⊢
  have h3 := okTab_at hT hty
  simp only [okTy] at h3
  split at h3
  ·rename_i hu hi
   exact ⟨_, by simp [execOp, resolve, invoke, builtin, Builtin.len_, e1.1, run_underlying hu, goInt], rfl, rfl⟩
  ·cases h3
theorem ls_len_sl (hT : okTab P T = true) {x : Operand} {t e size bytes sz : Nat} {xs : List (List AV)} (hx : ev s x = some (.sl sz xs)) (hty : nth T t = some (.slice e size bytes)) (hd : okDst Γ.n dst = true) : LS P Γ ⟨dst, .call { callee := .builtin .len, args := #[x], argTypes := #[t] }, ty, pos, after, none⟩ s (rd x []) (dst1 dst (.v (.int .i64 (xs.length : Int)))) [] :=
 ls_pure hd fun t' ht μ a w hr => by
  obtain ⟨e1, ht⟩ := ht.ev hx
  have e1 := hr.ev e1
  simp only [rep] at e1 ⊢
  obtain ⟨ad, c, us, e3, e4, e5, e6, e7⟩ := e1
  obtain ⟨hu, _⟩ := slice_ty hT hty
  exact ⟨_, by simp [execOp, resolve, invoke, builtin, Builtin.len_, e3, run_underlying hu, goInt], rfl, rfl⟩
theorem ls_len_nil (hT : okTab P T = true) {x : Operand} {t e size bytes : Nat} (hx : ev s x = some (.v (.slice none 0 0))) (hty : nth T t = some (.slice e size bytes)) (hd : okDst Γ.n dst = true) : LS P Γ ⟨dst, .call { callee := .builtin .len, args := #[x], argTypes := #[t] }, ty, pos, after, none⟩ s (rd x []) (dst1 dst (.v (.int .i64 0))) [] :=
 ls_pure hd fun t' ht μ a w hr => by
  obtain ⟨e1, ht⟩ := ht.ev hx
  have e1 := hr.ev e1
  simp only [rep] at e1 ⊢
  obtain ⟨hu, _⟩ := slice_ty hT hty
  exact ⟨_, by simp [execOp, resolve, invoke, builtin, Builtin.len_, e1.1, run_underlying hu, goInt], rfl, rfl⟩
theorem ls_len_own (hT : okTab P T = true) {x : Operand} {t e size bytes id n : Nat} {xs : List (List AV)} {e' size' : Nat} (hx : ev s x = some (.own id n)) (hσ : find s.σ id = some (.row e' size' xs)) (hn : n = xs.length) (hty : nth T t = some (.slice e size bytes)) (hd : okDst Γ.n dst = true) : LS P Γ ⟨dst, .call { callee := .builtin .len, args := #[x], argTypes := #[t] }, ty, pos, after, none⟩ s (rd x [.obj id]) (dst1 dst (.v (.int .i64 (xs.length : Int)))) [] :=
 ls_pure hd fun t' ht μ a w hr => by
  obtain ⟨e1, ht⟩ := ht.ev hx
  have e0 : find t'.σ id = some (.row e' size' xs) := ht.1.trans hσ
  have e1 := hr.ev e1
  simp only [rep] at e1 ⊢
  obtain ⟨_, _, _, xs', e3, e4, e5⟩ := live e0 e1
  rw [e0] at e3
  injection e3 with e3; injection e3 with _ _ e8; subst e8
  obtain ⟨us, e11, e12⟩ := hr.store.obj id _ e0
  obtain ⟨A', c', h6, _, _⟩ := e11.slice
  obtain ⟨hu, _⟩ := slice_ty hT hty
  have e5 := (e5 hn).trans h6
  exact ⟨_, by simp [execOp, resolve, invoke, builtin, Builtin.len_, e5, run_underlying hu, goInt], rfl, rfl⟩
end
end Go.Proofs.Ytlgbadlgfdlheaa
namespace Go.Proofs.Ytlgbadlgfdlheaa
open Go.RowKit

def cellOK : AV → Bool
 | .v x => x.oneCell'
 | .tup _ => false
 | _ => true
section
variable {σ : Store} {μ : Nat → Value} {w : World} {A : Nat → Prop}
theorem rep_cells {v : AV} {y : Value} (h : rep σ μ w A v y) (hv : cellOK v = true) : repC σ μ w A (acells v) y.cells.toList := by
 have one : ∀ {v : AV} {y : Value}, rep σ μ w A v y → acells v = [v] → y.oneCell' = true → repC σ μ w A (acells v) y.cells.toList := by
  intro v y h1 h2 h3
  rw [h2]
  have h4 : y.cells = #[y] := by cases y <;> first | rfl | simp [Value.oneCell'] at h3
  rw [h4]
  simp only [repC]
  exact ⟨y, [], rfl, h3, h1, rfl⟩
 cases v with
 | v x =>
  refine one h rfl ?_
  simp only [rep] at h
  rw [h.1]; exact hv
 | agg cs =>
  simp only [rep] at h
  obtain ⟨us, rfl, h1⟩ := h
  simpa [acells, Value.cells] using h1
 | tup vs => simp [cellOK] at hv
 | sl size xs =>
  refine one h rfl ?_
  simp only [rep] at h
  obtain ⟨ad, c, us, rfl, _⟩ := h
  rfl
 | own id n =>
  refine one h rfl ?_
  simp only [rep] at h
  exact h.1
 | ref id off =>
  refine one h rfl ?_
  simp only [rep] at h
  obtain ⟨t, cs, g, _, _, _, rfl⟩ := h
  rfl
 | eref id n i off =>
  refine one h rfl ?_
  simp only [rep] at h
  exact h.1
 | el cs =>
  refine one h rfl ?_
  simp only [rep] at h
  obtain ⟨b, off, us, rfl, _⟩ := h
  rfl
 | clo fn f c =>
  refine one h rfl ?_
  simp only [rep] at h
  obtain ⟨us, ks, rfl, _⟩ := h
  rfl
 | mp id =>
  refine one h rfl ?_
  simp only [rep] at h
  exact h.1
 | ifr t id off =>
  refine one h rfl ?_
  simp only [rep] at h
  obtain ⟨bt, cs, g, _, _, _, rfl⟩ := h
  rfl
 | ifa t vs =>
  refine one h rfl ?_
  simp only [rep] at h
  rw [h.1]; rfl
 | ife =>
  refine one h rfl ?_
  simp only [rep] at h
  obtain ⟨t, z, rfl⟩ := h
  rfl
end
def setμ (μ : Nat → Value) (k : Nat) (v : Value) : Nat → Value := fun i => if i = k then v else μ i
theorem setμ_same (μ : Nat → Value) (k : Nat) (v : Value) : setμ μ k v k = v := by simp [setμ]
theorem setμ_ne (μ : Nat → Value) {k i : Nat} (v : Value) (h : i ≠ k) : setμ μ k v i = μ i := by simp [setμ, h]
section
variable {σ : Store} {μ : Nat → Value} {w w' : World} {M : Nat → Prop} {Γ : Ctx} {s : ASt} {a : Act}
theorem ObjRel.lt (h : SRel σ μ w M) {id : Nat} {o : SObj} {b : Nat} (hf : find σ id = some o) (hb : blk (μ id) = some b) : b < w.heap.size := by
 have h1 := h.obj id o hf
 cases o with
 | box t cs =>
  obtain ⟨g, us, h2, h3, _⟩ := h1
  rw [h2] at hb
  simp only [blk, Option.some.injEq] at hb
  subst hb
  exact h3.lt
 | row e size xs =>
  obtain ⟨us, h2, _⟩ := h1
  rcases h2.2 with ⟨h3, _⟩ | ⟨g, cap, cur, h3, _, h4, _⟩
  ·rw [h3] at hb; simp [blk] at hb
  ·rw [h3] at hb
   simp only [blk, Option.some.injEq] at hb
   subst hb
   exact h4.lt
 | mp es =>
  obtain ⟨g, v, ob, h2, hb2, h3, _⟩ := h1
  rw [h2, hb2] at hb
  simp only [Option.some.injEq] at hb
  subst hb
  exact (Array.getElem?_eq_some_iff.1 h3).1
 | dead => rw [show blk (μ id) = none from h1] at hb; cases hb
theorem new_obj (h : SRel σ μ w M) {k : Nat} (hk : find σ k = none) {o : SObj} {v : Value} (hb : Below w.heap.size w w') (hv : ∀ b, blk v = some b → w.heap.size ≤ b)
  (ho : ∀ μ' A, (∀ id, id ≠ k → μ' id = μ id) → μ' k = v → (∀ b, ¬ A b → ¬ av σ μ M b) → Step σ μ w (av σ μ M) ((k, o) :: σ) μ' w' A → ObjRel ((k, o) :: σ) μ' w' A k o) : Gro σ μ w ((k, o) :: σ) (setμ μ k v) w' ∧ SRel ((k, o) :: σ) (setμ μ k v) w' M := by
 have hne : ∀ id o', find σ id = some o' → id ≠ k := fun id o' hf e => by subst e; rw [hk] at hf; cases hf
 have hg : Gro σ μ w ((k, o) :: σ) (setμ μ k v) w' := by
  refine ⟨hb.os, hb.tape, hb.output, hb.size, fun b hl _ => hb.block b hl, fun id o' b hf hbl hl => ?_, fun id t cs hf => ?_, fun id e size xs hf => ?_, fun id es hf => ?_, fun id hf => ?_⟩
  ·rw [find_cons] at hf
   split at hf
   ·rename_i e; subst e
    rw [setμ_same] at hbl
    have := hv b hbl; omega
   ·rename_i e
    rw [setμ_ne μ v (Ne.symm e)] at hbl
    exact ⟨id, o', hf, hbl⟩
  ·have := hne id _ hf
   exact ⟨cs, by rw [find_cons, if_neg (Ne.symm this)]; exact hf, rfl, setμ_ne μ v this⟩
  ·have := hne id _ hf
   exact .inr ⟨xs, by rw [find_cons, if_neg (Ne.symm this)]; exact hf, Nat.le_refl _, fun _ => setμ_ne μ v this⟩
  ·have := hne id _ hf
   exact ⟨es, by rw [find_cons, if_neg (Ne.symm this)]; exact hf, setμ_ne μ v this⟩
  ·have := hne id _ hf
   rw [find_cons, if_neg (Ne.symm this)]; exact hf
 refine ⟨hg, h.at_ hg k (fun id e => by rw [find_cons, if_neg (Ne.symm e)]) (fun id e => setμ_ne μ v e) (fun id o' b e hf hbl => hb.block b (ObjRel.lt h hf hbl)) (fun o' ho' => ?_) (fun id o' b e hf hbl => ?_) (fun b hb1 hc => ?_)⟩
 ·rw [find_cons, if_pos rfl] at ho'
  injection ho' with ho'; subst ho'
  refine ho _ _ (fun id e => setμ_ne μ v e) (setμ_same μ k v) (fun b hb' hc => hb' ?_) hg.step
  rcases hc with hc | ⟨id, o', h1, h2⟩
  ·exact .inl hc
  ·have := hne id _ h1
   exact .inr ⟨id, o', by rw [find_cons, if_neg (Ne.symm this)]; exact h1, by rw [setμ_ne μ v this]; exact h2⟩
 ·rw [setμ_same]
  intro hc
  have := hv b hc
  have := ObjRel.lt h hf hbl
  omega
 ·rw [setμ_same] at hb1
  have := hv b hb1
  have := h.lt b hc
  omega
theorem Rel.new (hr : Rel Γ s μ a w) {k : Nat} (hk : find s.σ k = none) {o : SObj} {v : Value} (hb : Below w.heap.size w w') (hv : ∀ b, blk v = some b → w.heap.size ≤ b)
  (ho : ∀ μ' A, (∀ id, id ≠ k → μ' id = μ id) → μ' k = v → (∀ b, ¬ A b → ¬ av s.σ μ Γ.M b) → Step s.σ μ w (av s.σ μ Γ.M) ((k, o) :: s.σ) μ' w' A → ObjRel ((k, o) :: s.σ) μ' w' A k o) : Rel Γ (s.eff [] [(k, o)]) (setμ μ k v) a w' := by
 obtain ⟨hg, hs⟩ := new_obj hr.store hk hb hv ho
 exact hr.goes hg hs
theorem below_alloc (w : World) (o : Obj) : Below w.heap.size w (w.alloc o) := (Below.refl _ w).alloc (Nat.le_refl _) o
end
section
variable {P : Program} {Γ : Ctx} {Q Q' : Exit → ASt → Prop} {s : ASt} {σ : Store} {μ : Nat → Value} {w : World} {A : Nat → Prop} {T : List TyI}
variable {dst : Option Tmp} {ty : TypeId} {pos : String} {after : Array Edge}
theorem ls_box {x : Operand} {e k : Nat} {v : AV} (hx : ev s x = some v) (hv : cellOK v = true) (hk : find s.σ k = none) (hd : okDst Γ.n dst = true) :
  LS P Γ ⟨dst, .box e x, ty, pos, after, none⟩ s (rd x [.obj k]) (dst1 dst (.ref k 0)) [(k, .box e (acells v))] := by
 refine ⟨fun t ht Q μ a w hr K hK => ?_⟩
 obtain ⟨e1, ht⟩ := ht.ev hx
 have hk' : find t.σ k = none := ht.1.trans hk
 have e2 := hr.ev e1
 have hn := hr.new (w' := w.alloc (.cells (a.eval x).cells e)) (v := .pointer (some ⟨w.heap.size, 0, none⟩)) (o := .box e (acells v)) hk' (below_alloc _ _) (by simp [blk]) (fun μ' A hμ hμk hA hst => by
  refine ⟨w.heap.size, (a.eval x).cells.toList, hμk, by simpa using Blk.new w e (a.eval x).cells, ?_⟩
  exact rep_cells (rep_mono hst e2) hv)
 have hfin := hn.put (d := dst) (x := .ref k 0) (y := .pointer (some ⟨w.heap.size, 0, none⟩)) hd (by
  simp only [rep, ASt.eff, List.cons_append, List.nil_append, find_cons, if_true]
  exact ⟨e, acells v, w.heap.size, rfl, Nat.zero_le _, setμ_same _ _ _, rfl⟩)
 unfold Oper.wp
 have hrun : (execOp a.eval ⟨dst, .box e x, ty, pos, after, none⟩).run P w = .ok (.value (.pointer (some ⟨w.heap.size, 0, none⟩))) (w.alloc (.cells (a.eval x).cells e)) := by
  simp only [execOp, Instr.box, newVar, newRow, Sem.run_bind, run_newObj, Result.andThen_ok, Sem.run_pure]
  rfl
 rw [hrun]
 refine hK (setμ μ k (.pointer (some ⟨w.heap.size, 0, none⟩))) _ _ ?_
 cases dst <;> exact hfin
def zcells (T : List TyI) : Nat → Nat → Option (List Value)
 | 0, _ => none
 | d + 1, t => match nth T t with
  | some (.int k) => some [.int k 0]
  | some .string => some [.string ByteArray.empty]
  | some .bool => some [.bool false]
  | some .pointer => some [.pointer none]
  | some .func => some [.nilFunc]
  | some .map => some [.map none]
  | some (.slice _ _ _) => some [.slice none 0 0]
  | some (.struct _ fs) => fs.foldr (fun f acc => match zcells T d f.2, acc with | some x, some y => some (x ++ y) | _, _ => none) (some [])
  | _ => none
def zeq : Value → Value → Bool
 | .int k a, .int k' b => decide (k = k') && decide (a = b)
 | .string a, .string b => Nat.beq a.size 0 && Nat.beq b.size 0
 | .bool a, .bool b => a == b
 | .pointer none, .pointer none => true
 | .nilFunc, .nilFunc => true
 | .map none, .map none => true
 | .slice none 0 0, .slice none 0 0 => true
 | _, _ => false
theorem zeq_eq : ∀ {x y : Value}, zeq x y = true → x = y
 | .int k a, .int k' b, h => by simp [zeq] at h; rw [h.1, h.2]
 | .string a, .string b, h => by
  simp only [zeq, Bool.and_eq_true, Nat.beq_eq] at h
  rw [ByteArray.size_eq_zero_iff.1 h.1, ByteArray.size_eq_zero_iff.1 h.2]
 | .bool a, .bool b, h => by simp [zeq] at h; rw [h]
 | .pointer none, .pointer none, _ => rfl
 | .nilFunc, .nilFunc, _ => rfl
 | .map none, .map none, _ => rfl
 | .slice none 0 0, .slice none 0 0, _ => rfl
def zeqL : List Value → List Value → Bool
 | [], [] => true
 | x :: l, y :: m => zeq x y && zeqL l m
 | _, _ => false
theorem zeqL_eq : ∀ {l m : List Value}, zeqL l m = true → l = m
 | [], [], _ => rfl
 | x :: l, y :: m, h => by
  simp only [zeqL, Bool.and_eq_true] at h
  rw [zeq_eq h.1, zeqL_eq h.2]
 | [], _ :: _, h => by simp [zeqL] at h
 | _ :: _, [], h => by simp [zeqL] at h
def okZero (P : Program) (T : List TyI) : Bool := (List.range T.length).all fun t => match zcells T 10 t, P.info? t with
 | some zs, some i => (match i.zero with | some z => zeqL z.cells.toList zs | none => false)
 | some _, none => false
 | none, _ => true
theorem okZero_at (h : okZero P T = true) {t : Nat} {zs : List Value} (hz : zcells T 10 t = some zs) : ∃ i z, P.info? t = some i ∧ i.zero = some z ∧ z.cells = zs.toArray := by
 have hlt : t < T.length := by
  rcases Nat.lt_or_ge t T.length with h1 | h1
  ·exact h1
  ·have : nth T t = none := by
    cases h2 : nth T t with
    | none => rfl
    | some x => have := nth_lt h2; omega
   simp [zcells, this] at hz
 have := List.all_eq_true.1 h t (by simpa using hlt)
 rw [hz] at this
 split at this
 ·rename_i zs' i hz' hi
  injection hz' with hz'; subst hz'
  split at this
  ·rename_i z hzz
   exact ⟨i, z, hi, hzz, by rw [← zeqL_eq this]⟩
  ·cases this
 ·cases this
 ·rename_i h1; cases h1
theorem ls_alloc (hZ : okZero P T = true) {e k : Nat} {zs : List Value} (hz : zcells T 10 e = some zs) (hs : (zs.all fun c => scal c && c.oneCell') = true) (hk : find s.σ k = none) (hd : okDst Γ.n dst = true) :
  LS P Γ ⟨dst, .alloc e, ty, pos, after, none⟩ s [.obj k] (dst1 dst (.ref k 0)) [(k, .box e (zs.map .v))] := by
 refine ⟨fun t ht Q μ a w hr K hK => ?_⟩
 have hk' : find t.σ k = none := ht.1.trans hk
 obtain ⟨i, z, hi, hiz, hzc⟩ := okZero_at hZ hz
 have hn := hr.new (w' := w.alloc (.cells z.cells e)) (v := .pointer (some ⟨w.heap.size, 0, none⟩)) (o := .box e (zs.map .v)) hk' (below_alloc _ _) (by simp [blk]) (fun μ' A hμ hμk hA hst => by
  refine ⟨w.heap.size, zs, hμk, by rw [hzc]; exact Blk.new w e _, repC_con hs⟩)
 have hfin := hn.put (d := dst) (x := .ref k 0) (y := .pointer (some ⟨w.heap.size, 0, none⟩)) hd (by
  simp only [rep, ASt.eff, List.cons_append, List.nil_append, find_cons, if_true]
  exact ⟨e, zs.map .v, w.heap.size, rfl, Nat.zero_le _, setμ_same _ _ _, rfl⟩)
 unfold Oper.wp
 have hrun : (execOp a.eval ⟨dst, .alloc e, ty, pos, after, none⟩).run P w = .ok (.value (.pointer (some ⟨w.heap.size, 0, none⟩))) (w.alloc (.cells z.cells e)) := by
  simp only [execOp, Instr.alloc, newVar, newRow, zeroValue, typeInfo, Sem.run_bind, run_program, run_newObj, Result.andThen_ok, Sem.run_pure, hi, hiz]
  rfl
 rw [hrun]
 refine hK (setμ μ k (.pointer (some ⟨w.heap.size, 0, none⟩))) _ _ ?_
 cases dst <;> exact hfin
end
section
variable {P : Program} {Γ : Ctx} {Q Q' : Exit → ASt → Prop} {s : ASt} {σ : Store} {μ : Nat → Value} {w : World} {A : Nat → Prop} {T : List TyI}
variable {dst : Option Tmp} {ty : TypeId} {pos : String} {after : Array Edge}
theorem store_rel {a : Act} {k : Nat} {o o' : SObj} {g : Nat} {w' : World} (hr : Rel Γ s μ a w) (hf : find s.σ k = some o) (hg : blk (μ k) = some g)
  (hsz : w'.heap.size = w.heap.size) (hos : w'.os = w.os) (htp : w'.tape = w.tape) (hout : w'.output = w.output) (hoth : ∀ b, b ≠ g → w'.heap[b]? = w.heap[b]?)
  (hsh : match o, o' with | .box t cs, .box t' cs' => t = t' ∧ cs'.length = cs.length | .row e n xs, .row e' n' xs' => e = e' ∧ n = n' ∧ xs'.length = xs.length | .mp _, .mp _ => True | _, _ => False)
  (ho : ∀ A, Step s.σ μ w (av s.σ μ Γ.M) ((k, o') :: s.σ) μ w' A → (∀ b, ¬ A b → ¬ av s.σ μ Γ.M b) → ObjRel ((k, o') :: s.σ) μ w' A k o') : Rel Γ (s.eff [] [(k, o')]) μ a w' := by
 have hgro : Gro s.σ μ w ((k, o') :: s.σ) μ w' := by
  refine ⟨hos, htp, hout, by omega, fun b hl hn => hoth b (fun e => hn k o hf (by rw [hg, e])), fun id o1 b hf1 hb1 hl => ?_, fun id t cs hf1 => ?_, fun id e size xs hf1 => ?_, fun id es hf1 => ?_, fun id hf1 => ?_⟩
  ·rw [find_cons] at hf1
   split at hf1
   ·rename_i e; subst e; exact ⟨k, o, hf, hb1⟩
   ·exact ⟨id, o1, hf1, hb1⟩
  ·by_cases e : k = id
   ·subst e
    rw [hf] at hf1; injection hf1 with hf1; subst hf1
    cases o' with
    | box t' cs' =>
     simp only at hsh
     exact ⟨cs', by rw [find_cons, if_pos rfl, hsh.1], hsh.2, rfl⟩
    | row _ _ _ => exact hsh.elim
    | mp _ => exact hsh.elim
    | dead => exact hsh.elim
   ·exact ⟨cs, by rw [find_cons, if_neg e]; exact hf1, rfl, rfl⟩
  ·by_cases e1 : k = id
   ·subst e1
    rw [hf] at hf1; injection hf1 with hf1; subst hf1
    cases o' with
    | row e' n' xs' =>
     simp only at hsh
     exact .inr ⟨xs', by rw [find_cons, if_pos rfl, hsh.1, hsh.2.1], by omega, fun _ => rfl⟩
    | box _ _ => exact hsh.elim
    | mp _ => exact hsh.elim
    | dead => exact hsh.elim
   ·exact .inr ⟨xs, by rw [find_cons, if_neg e1]; exact hf1, Nat.le_refl _, fun _ => rfl⟩
  ·by_cases e1 : k = id
   ·subst e1
    rw [hf] at hf1; injection hf1 with hf1; subst hf1
    cases o' with
    | row _ _ _ => exact hsh.elim
    | box _ _ => exact hsh.elim
    | mp es' => exact ⟨es', by rw [find_cons, if_pos rfl], rfl⟩
    | dead => exact hsh.elim
   ·exact ⟨es, by rw [find_cons, if_neg e1]; exact hf1, rfl⟩
  ·have hne : k ≠ id := fun e1 => by
    subst e1
    rw [hf] at hf1; injection hf1 with hf1; subst hf1
    have := hr.store.obj _ _ hf
    rw [show blk (μ k) = none from this] at hg; cases hg
   rw [find_cons, if_neg hne]; exact hf1
 show Rel Γ ⟨s.regs, (k, o') :: s.σ⟩ μ a w'
 refine hr.goes hgro (hr.store.at_ (σ' := (k, o') :: s.σ) hgro k (fun id e => by rw [find_cons, if_neg (Ne.symm e)]) (fun _ _ => rfl) (fun id o1 b e hf1 hb1 => ?_) (fun o1 ho1 => ?_) (fun id o1 b e hf1 hb1 hc => e (hr.store.inj id k o1 o b hf1 hf hb1 hc)) (fun b hb1 => hr.store.dis k o b hf hb1))
 ·refine hoth b (fun e1 => e (hr.store.inj id k o1 o b hf1 hf hb1 (by rw [hg, e1])))
 ·rw [find_cons, if_pos rfl] at ho1
  injection ho1 with ho1; subst ho1
  refine ho _ hgro.step (fun b hb hc => hb ?_)
  rcases hc with hc | ⟨id, o1, h1, h2⟩
  ·exact .inl hc
  ·by_cases e : id = k
   ·subst e
    exact .inr ⟨id, o', by rw [find_cons, if_pos rfl], h2⟩
   ·exact .inr ⟨id, o1, by rw [find_cons, if_neg (Ne.symm e)]; exact h1, h2⟩
theorem store_run {g off t bt : Nat} {cur : Array Value} {y : Value} (hsz : (P.info? t).map (·.size) = some y.cells.size) (hg : w.heap[g]? = some (.cells cur bt (0, 0))) (hl : off + y.cells.size ≤ cur.size) (h1 : ∀ u ∈ y.cells.toList, u.oneCell' = true) :
  (storeVar t ⟨g, off, none⟩ y).run P w = .ok () (w.setRow g (cur.toList.take off ++ y.cells.toList ++ cur.toList.drop (off + y.cells.size)).toArray) := by
 have := run_storeCells_at P g off bt y.cells.toList 0 cur w hg (by simpa using hl) h1
 cases hi : P.info? t with
 | none => simp [hi] at hsz
 | some i =>
  have hs : y.cells.size = i.size := by simp [hi] at hsz; omega
  simp only [Nat.add_zero, Array.length_toList] at this
  simp [storeVar, sizeOf, typeInfo, hi, hs]
  rw [this]; simp [hs]
theorem ty_size1 (hT : okTab P T = true) {t n : Nat} {ti : TyI} (ht : nth T t = some ti) (hn : ti.size = n) (h0 : n ≠ 0) : (P.info? t).map (·.size) = some n := by
 obtain ⟨⟨i, hi, hs⟩, _⟩ := ty_size hT ht (by omega)
 rw [hi]; simp [hs, hn]
theorem ls_store_ref (hT : okTab P T = true) {x z : Operand} {t id off : Nat} {bt : TypeId} {cs cs' : List AV} {ti : TyI} {v : AV} (hx : ev s x = some (.ref id off)) (hz : ev s z = some v) (hσ : find s.σ id = some (.box bt cs)) (hty : nth T t = some ti) (hv : cellOK v = true)
  (hs : Nat.beq ti.size (acells v).length = true) (h0 : Nat.beq ti.size 0 = false) (hp : putK cs off (acells v) (fun r => r) = some cs') (hdst : dst = none) :
  LS P Γ ⟨dst, .store t x z, ty, pos, after, none⟩ s (rd x (rd z [.obj id])) [] [(id, .box bt cs')] := by
 refine ⟨fun t' ht Q μ a w hr K hK => ?_⟩
 subst hdst
 obtain ⟨e1, ht⟩ := ht.ev hx
 obtain ⟨e2, ht⟩ := ht.ev hz
 have e0 : find t'.σ id = some (.box bt cs) := ht.1.trans hσ
 have e1 := hr.ev e1
 have e2 := hr.ev e2
 simp only [rep] at e1
 obtain ⟨bt', cs0, g, e3, e4, e5, e6⟩ := e1
 rw [e0] at e3
 injection e3 with e3; injection e3 with e3 e7; subst e3 e7
 obtain ⟨g', us, e8, e9, e10⟩ := hr.store.obj id _ e0
 rw [e5] at e8
 injection e8 with e8; injection e8 with e8; injection e8 with e8; subst e8
 have hs := Nat.eq_of_beq_eq_true hs
 have h0 : ti.size ≠ 0 := fun h => by rw [h] at h0; cases h0
 have e11 := rep_cells e2 hv
 have e12 : (a.eval z).cells.size = ti.size := by rw [hs, ← repC_len e11]; simp
 obtain ⟨h3, rfl⟩ := putK_spec hp
 have hlen := repC_len e10
 have hrun := store_run (P := P) (w := w) (t := t) (off := off) (y := a.eval z) (by rw [ty_size1 hT hty rfl h0, e12]) e9 (by simp; omega) (repC_one e11)
 unfold Oper.wp
 have hrun2 : (execOp a.eval ⟨none, .store t x z, ty, pos, after, none⟩).run P w = .ok .skip (w.setRow g (us.take off ++ (a.eval z).cells.toList ++ us.drop (off + (a.eval z).cells.size)).toArray) := by
  simp only [execOp, Instr.storeAt, Instr.sureAddr, e6, Sem.run_bind, Sem.run_pure, Result.andThen_ok, hrun]
 rw [hrun2]
 refine hK μ _ _ ?_
 refine store_rel hr e0 (g := g) (by rw [e5]; rfl) (by simp) rfl rfl rfl (fun b hb => setRow_other w g b _ hb) ⟨rfl, ?_⟩ (fun A hst hA => ?_)
 ·simp only [List.length_append, List.length_take, List.length_drop]; omega
 ·refine ⟨g, _, e5, setRow_heap w g us.toArray _ bt (0, 0) e9, ?_⟩
  have e13 := rep_mono hst e2
  have e14 := repC_mono hst e10
  refine repC_append (repC_append (repC_take off e14) (rep_cells e13 hv)) ?_
  have h := repC_drop (off + (acells v).length) e14
  have he : us.drop (off + (acells v).length) = us.drop (off + (a.eval z).cells.size) := by rw [e12, hs]
  rw [he] at h
  exact h
theorem splice_row {cur us z : List Value} {n i size off m : Nat} (hus : us = cur.take (n * size)) (hi : i < n) (hm : off + m ≤ size) (hz : z.length = m) (hcur : n * size ≤ cur.length) :
  us.take (i * size) ++ (((us.drop (i * size)).take size).take off ++ z ++ ((us.drop (i * size)).take size).drop (off + m)) ++ us.drop (i * size + size) = (cur.take (i * size + off) ++ z ++ cur.drop (i * size + off + m)).take (n * size) := by
 have hb : i * size + size ≤ n * size := by
  have : (i + 1) * size ≤ n * size := Nat.mul_le_mul_right _ hi
  rw [Nat.add_mul] at this; omega
 have e1 : us.take (i * size) ++ ((us.drop (i * size)).take size).take off = cur.take (i * size + off) := by
  rw [List.take_take, Nat.min_eq_left (by omega), ← List.take_add, hus, List.take_take, Nat.min_eq_left (by omega)]
 have e2 : ((us.drop (i * size)).take size).drop (off + m) ++ us.drop (i * size + size) = (cur.drop (i * size + off + m)).take (n * size - (i * size + off + m)) := by
  have h1 : us.drop (i * size + (off + m)) = (us.drop (i * size)).drop (off + m) := by rw [List.drop_drop]
  have h2 : us.drop (i * size + size) = (us.drop (i * size)).drop size := by rw [List.drop_drop]
  have h3 : ((us.drop (i * size)).take size).drop (off + m) ++ (us.drop (i * size)).drop size = (us.drop (i * size)).drop (off + m) := by
   generalize us.drop (i * size) = l
   have h4 : l.drop size = (l.drop (off + m)).drop (size - (off + m)) := by rw [List.drop_drop]; congr 1; omega
   rw [List.drop_take, h4, List.take_append_drop]
  rw [h2, h3, ← h1, hus, List.drop_take, Nat.add_assoc]
 have e3 : (cur.take (i * size + off) ++ z ++ cur.drop (i * size + off + m)).take (n * size) = cur.take (i * size + off) ++ z ++ (cur.drop (i * size + off + m)).take (n * size - (i * size + off + m)) := by
  rw [List.take_append, List.take_of_length_le (by simp; omega)]
  congr 2
  simp; omega
 rw [e3, ← e1, ← e2]
 simp [List.append_assoc]
theorem ls_store_eref (hT : okTab P T = true) {x z : Operand} {t id n i off : Nat} {e : TypeId} {size : Nat} {xs : List (List AV)} {cs cs' : List AV} {ti : TyI} {v : AV} (hx : ev s x = some (.eref id n i off)) (hz : ev s z = some v) (hσ : find s.σ id = some (.row e size xs)) (hn : n = xs.length) (hi : xs[i]? = some cs) (hty : nth T t = some ti) (hv : cellOK v = true)
  (hpure : ∀ σ μ w A y, rep σ μ w A v y → rep [] μ w A v y) (hs : Nat.beq ti.size (acells v).length = true) (h0 : Nat.beq ti.size 0 = false) (hp : putK cs off (acells v) (fun r => r) = some cs') (hdst : dst = none) (htag : Nat.blt e 1048576 = true := by rfl) :
  LS P Γ ⟨dst, .store t x z, ty, pos, after, none⟩ s (rd x (rd z [.obj id])) [] [(id, .row e size (xs.set i cs'))] := by
 refine ⟨fun t' ht Q μ a w hr K hK => ?_⟩
 subst hdst
 obtain ⟨e1, ht⟩ := ht.ev hx
 obtain ⟨e2, ht⟩ := ht.ev hz
 have e0 : find t'.σ id = some (.row e size xs) := ht.1.trans hσ
 have e1 := hr.ev e1
 have e2 := hpure _ _ _ _ _ (hr.ev e2)
 simp only [rep] at e1
 obtain ⟨_, e', size', xs', e3, e4, e5⟩ := live e0 e1
 rw [e0] at e3
 injection e3 with e3; injection e3 with e3 e7 e8; subst e3 e7 e8
 obtain ⟨g, c, hlt, h2, h3, h4⟩ := e5 hn
 obtain ⟨us, e11, e12⟩ := hr.store.obj id _ e0
 have e11 := e11.own htag
 have hs := Nat.eq_of_beq_eq_true hs
 have h0 : ti.size ≠ 0 := fun h => by rw [h] at h0; cases h0
 have e13 := rep_cells e2 hv
 have e14 : (a.eval z).cells.size = ti.size := by rw [hs, ← repC_len e13]; simp
 obtain ⟨h5, rfl⟩ := putK_spec hp
 obtain ⟨h6, h7⟩ := repLL_get e12 hi
 have h8 : cs.length = size := by rw [← repC_len h6]; exact h7
 subst hn
 rw [h3] at e11
 rcases e11.2 with ⟨h9, _⟩ | ⟨g', cap, cur, h9, _, h10, h11, h12, h13, h14⟩
 ·cases h9
 injection h9 with h9 _ h15
 injection h9 with h9
 injection h9 with h9
 subst h9 h15
 have hul := repLL_len e12
 have hbound : i * size + size ≤ xs.length * size := by
  have : (i + 1) * size ≤ xs.length * size := Nat.mul_le_mul_right _ hlt
  rw [Nat.add_mul] at this; omega
 have hcap : xs.length * size ≤ c * size := Nat.mul_le_mul_right _ h11
 have hrun := store_run (P := P) (w := w) (t := t) (off := i * size + off) (y := a.eval z) (by rw [ty_size1 hT hty rfl h0, e14]) h10 (by omega) (repC_one e13)
 unfold Oper.wp
 have hrun2 : (execOp a.eval ⟨none, .store t x z, ty, pos, after, none⟩).run P w = .ok .skip (w.setRow g (cur.toList.take (i * size + off) ++ (a.eval z).cells.toList ++ cur.toList.drop (i * size + off + (a.eval z).cells.size)).toArray) := by
  simp only [execOp, Instr.storeAt, Instr.sureAddr, h4, Sem.run_bind, Sem.run_pure, Result.andThen_ok, hrun]
 rw [hrun2]
 refine hK μ _ _ ?_
 refine store_rel hr e0 (g := g) (by rw [h3]; rfl) (by simp) rfl rfl rfl (fun b hb => setRow_other w g b _ hb) ⟨rfl, rfl, by simp⟩ (fun A hst hA => ?_)
 have e15 := rep_mono hst.pure e2
 have e16 := repLL_mono hst.pure e12
 have e17 := repC_mono hst.pure h6
 have hnew := repLL_set e16 hlt (repC_append (repC_append (repC_take off e17) (rep_cells e15 hv)) (repC_drop (off + (acells v).length) e17)) (by
  simp only [List.length_append, List.length_take, List.length_drop, Array.length_toList]
  rw [e14]; omega)
 refine ⟨_, OwnS.of ⟨repLL_len hnew, .inr ⟨g, c, _, by rw [h3]; simp, Nat.zero_le _, setRow_heap w g cur _ e (0, 0) h10, by simpa using h11, h12, ?_, ?_⟩⟩ htag, hnew⟩
 ·simp only [List.size_toArray, List.length_append, List.length_take, List.length_drop, Array.length_toList]; omega
 ·rw [List.length_set]
  have hs2 : (a.eval z).cells.size = (acells v).length := by omega
  have := splice_row (cur := cur.toList) (us := us) (z := (a.eval z).cells.toList) (n := xs.length) (i := i) (size := size) (off := off) (m := (acells v).length) h14.symm hlt (by omega) (by simpa using hs2) (by simp; omega)
  rw [this]
  simp only [List.toList_toArray]
  rw [hs2]
end
end Go.Proofs.Ytlgbadlgfdlheaa
namespace Go.Proofs.Ytlgbadlgfdlheaa
open Go.RowKit

theorem splice_fold (off : Nat) : ∀ (vs : List Value) (j : Nat) (cells : Array Value), off + j + vs.length ≤ cells.size →
  ((vs.zipIdx j).foldl (fun cs (p : Value × Nat) => cs.setIfInBounds (off + p.2) p.1) cells).toList = cells.toList.take (off + j) ++ vs ++ cells.toList.drop (off + j + vs.length)
 | [], j, cells, _ => by simp
 | v :: vs, j, cells, h => by
  simp only [List.length_cons] at h
  have ih := splice_fold off vs (j + 1) (cells.setIfInBounds (off + j) v) (by simp; omega)
  simp only [List.zipIdx_cons, List.foldl_cons, ih, Array.toList_setIfInBounds, List.length_cons]
  have h1 : (cells.toList.set (off + j) v).take (off + (j + 1)) = cells.toList.take (off + j) ++ [v] := by
   rw [← Nat.add_assoc, List.take_succ_eq_append_getElem (by simp; omega), List.take_set_of_le (by omega)]
   simp
  have h2 : (cells.toList.set (off + j) v).drop (off + (j + 1) + vs.length) = cells.toList.drop (off + j + (vs.length + 1)) := by
   rw [List.drop_set_of_lt (by omega)]
   congr 1; omega
  rw [h1, h2]
  simp
def bldK (T : List TyI) (fs : List (Nat × Nat)) : List (Nat × AV) → List AV → Option (List AV)
 | [], cs => some cs
 | (i, v) :: rest, cs => match nth fs i with
  | none => none
  | some (off, ft) => match nth T ft with
   | none => none
   | some ti => match Nat.beq ti.size (acells v).length && cellOK v && !Nat.beq ti.size 0 with
    | false => none
    | true => match putK cs off (acells v) (fun r => bldK T fs rest r) with
     | some r => r
     | none => none
def evParts (s : ASt) : List (Nat × Operand) → Option (List (Nat × AV))
 | [] => some []
 | (i, x) :: l => match ev s x, evParts s l with
  | some v, some r => some ((i, v) :: r)
  | _, _ => none
def rdParts : List (Nat × Operand) → List Loc → List Loc
 | [], R => R
 | (_, x) :: l, R => rd x (rdParts l R)
def PartsRep (σ : Store) (μ : Nat → Value) (w : World) (A : Nat → Prop) : List (Nat × AV) → List (Nat × Value) → Prop
 | [], [] => True
 | (i, v) :: vs, (j, u) :: us => i = j ∧ rep σ μ w A v u ∧ PartsRep σ μ w A vs us
 | _, _ => False
section
variable {P : Program} {Γ : Ctx} {Q Q' : Exit → ASt → Prop} {s : ASt} {σ : Store} {μ : Nat → Value} {w : World} {A : Nat → Prop} {T : List TyI}
variable {dst : Option Tmp} {ty : TypeId} {pos : String} {after : Array Edge}
theorem Agree.parts {s t : ASt} {a : Act} (hr : Rel Γ t μ a w) : ∀ {l : List (Nat × Operand)} {R : List Loc} {vs : List (Nat × AV)}, Agree s t (rdParts l R) → evParts s l = some vs →
  PartsRep t.σ μ w (av t.σ μ Γ.M) vs (l.map fun p => (p.1, a.eval p.2)) ∧ Agree s t R
 | [], R, vs, h, e => by simp [evParts] at e; subst e; exact ⟨trivial, h⟩
 | (i, x) :: l, R, vs, h, e => by
  simp only [evParts] at e
  split at e
  ·rename_i v r hv hl
   injection e with e; subst e
   obtain ⟨h1, h2⟩ := Agree.ev h hv
   obtain ⟨h3, h4⟩ := Agree.parts hr h2 hl
   exact ⟨⟨rfl, hr.ev h1, h3⟩, h4⟩
  ·cases e
theorem fill_ok (place : Nat → Option (Nat × Nat)) (fs : List (Nat × Nat)) (hpl : ∀ i off ft ti, nth fs i = some (off, ft) → nth T ft = some ti → ti.size ≠ 0 → place i = some (off, ti.size)) :
  ∀ {vs : List (Nat × AV)} {us : List (Nat × Value)} {cs cs' : List AV} {cells : Array Value}, PartsRep σ μ w A vs us → bldK T fs vs cs = some cs' → repC σ μ w A cs cells.toList →
   ∃ cells', Instr.fill place cells us = some cells' ∧ repC σ μ w A cs' cells'.toList
 | [], _ :: _, cs, cs', cells, h, hb, hc => h.elim
 | _ :: _, [], cs, cs', cells, h, hb, hc => h.elim
 | [], [], cs, cs', cells, _, hb, hc => by
  simp only [bldK, Option.some.injEq] at hb; subst hb
  exact ⟨cells, rfl, hc⟩
 | (i, v) :: vs, (j, u) :: us, cs, cs', cells, ⟨h1, h2, h3⟩, hb, hc => by
  subst h1
  simp only [bldK] at hb
  split at hb
  ·cases hb
  ·rename_i off ft hf
   split at hb
   ·cases hb
   ·rename_i ti hti
    split at hb
    ·cases hb
    ·rename_i hcond
     simp only [Bool.and_eq_true, Nat.beq_eq, Bool.not_eq_true', ne_eq] at hcond
     obtain ⟨⟨h4, h5⟩, h6⟩ := hcond
     have h0 : ti.size ≠ 0 := fun h => by rw [h] at h6; cases h6
     split at hb
     ·rename_i r hp
      obtain ⟨h7, rfl⟩ := putK_spec hp
      have h8 := rep_cells h2 h5
      have h9 : u.cells.size = ti.size := by rw [h4, ← repC_len h8]; simp
      have hlen := repC_len hc
      have h10 := splice_fold off u.cells.toList 0 cells (by simp at hlen ⊢; omega)
      simp only [Nat.add_zero] at h10
      have hz : u.cells.zipIdx.toList = u.cells.toList.zipIdx 0 := by simp
      obtain ⟨cells', h11, h12⟩ := fill_ok place fs hpl h3 hb (cells := (u.cells.toList.zipIdx 0).foldl (fun cs (p : Value × Nat) => cs.setIfInBounds (off + p.2) p.1) cells) (by
       rw [h10]
       refine repC_append (repC_append (repC_take off hc) h8) ?_
       have h13 : off + u.cells.toList.length = off + (acells v).length := by rw [repC_len h8]
       rw [h13]
       exact repC_drop _ hc)
      refine ⟨cells', ?_, h12⟩
      simp only [Instr.fill, hpl i off ft ti hf hti h0]
      have h14 : ¬ (u.cells.size ≠ ti.size || decide (off + u.cells.size > cells.size)) = true := by
       simp only [Array.length_toList] at hlen
       simp [h9]; omega
      rw [if_neg (by simpa using h14)]
      rw [← h11, ← Array.foldl_toList, hz]
     ·cases hb
theorem ls_build (hT : okTab P T = true) (hZ : okZero P T = true) {t n : Nat} {fs : List (Nat × Nat)} {parts : Array (Nat × Operand)} {vs : List (Nat × AV)} {zs : List Value} {cs : List AV} (hty : nth T t = some (.struct n fs)) (hz : zcells T 10 t = some zs) (hzs : (zs.all fun c => scal c && c.oneCell') = true)
  (hp : evParts s parts.toList = some vs) (hb : bldK T fs vs (zs.map .v) = some cs) (hd : okDst Γ.n dst = true) : LS P Γ ⟨dst, .build t parts, ty, pos, after, none⟩ s (rdParts parts.toList []) (dst1 dst (.agg cs)) [] :=
 ls_pure hd fun t' ht μ a w hr => by
  obtain ⟨h1, _⟩ := ht.parts hr hp
  obtain ⟨i, z, hi, hiz, hzc⟩ := okZero_at hZ hz
  have h3 := okTab_at hT hty
  simp only [okTy] at h3
  split at h3
  ·rename_i fields i' hu hi'
   simp only [Bool.and_eq_true, Nat.beq_eq, decide_eq_true_eq] at h3
   obtain ⟨⟨h4, h5⟩, h6⟩ := h3
   have key : ∀ (l : List Field), (l.all fun f => match P.info? f.type with | some j => !Nat.beq j.size 0 | .none => false) = true → ∃ places, l.mapM (fun f => (P.info? f.type).map fun i => (f.offset, i.size)) = some places ∧
     ∀ i off ft ti, nth (l.map fun f => (f.offset, f.type)) i = some (off, ft) → nth T ft = some ti → ti.size ≠ 0 → places[i]? = some (off, ti.size) := by
    intro l
    induction l with
    | nil => intro _; exact ⟨[], rfl, fun i off ft ti h => by simp [nth] at h⟩
    | cons f l ih =>
     intro h
     simp only [List.all_cons, Bool.and_eq_true] at h
     obtain ⟨h7, h8⟩ := h
     obtain ⟨places, h9, h10⟩ := ih h8
     split at h7
     ·rename_i j hj
      refine ⟨(f.offset, j.size) :: places, by simp [List.mapM_cons, hj, h9], fun i off ft ti h11 h12 h13 => ?_⟩
      cases i with
      | zero =>
       simp only [List.map_cons, nth, Option.some.injEq, Prod.mk.injEq] at h11
       obtain ⟨rfl, rfl⟩ := h11
       obtain ⟨⟨j', hj', hs⟩, _⟩ := ty_size hT h12 h13
       rw [hj] at hj'; injection hj' with hj'; subst hj'
       simp [hs]
      | succ i => exact h10 i off ft ti h11 h12 h13
     ·cases h7
   obtain ⟨places, h9, h10⟩ := key _ h6
   obtain ⟨cells, h7, h8⟩ := fill_ok (σ := t'.σ) (μ := μ) (w := w) (A := av t'.σ μ Γ.M) (fun i => places.toArray[i]?) fs (T := T) (fun j off ft ti hj hti h0 => by
    subst h5
    simpa using h10 j off ft ti hj hti h0) h1 hb (cells := z.cells) (by rw [hzc]; exact repC_con hzs)
   refine ⟨.agg cells, ?_, by simp only [rep]; exact ⟨cells.toList, by simp, h8⟩⟩
   have h11 : P.built t (parts.map fun p => (p.1, a.eval p.2)).toList = some cells := by
    unfold Program.built
    simp only [hi, hu, hiz, h9]
    simpa using h7
   simp only [execOp, Sem.run_bind, run_build w t _ cells h11, Sem.run_pure, Result.andThen_ok]
  ·cases h3
def pureC : AV → Bool
 | .v _ | .sl _ _ | .el _ | .ifa _ _ | .ife => true
 | .clo _ f c => f.isEmpty && c.isEmpty
 | _ => false
def pureB : AV → Bool
 | .agg cs => cs.all pureC
 | .tup _ => false
 | x => pureC x
theorem rep_pureC {v : AV} {y : Value} {μ' : Nat → Value} (h : rep σ μ w A v y) (hp : pureC v = true) : rep [] μ' w A v y := by
 cases v with
 | v x => simpa only [rep] using h
 | sl n xs =>
  simp only [rep] at h ⊢
  obtain ⟨ad, c, us, e, h1, h2, h3, h4⟩ := h
  exact ⟨ad, c, us, e, h1, h2, h3, repLL_mono (Step.up (σ := []) (μ := μ)) h4 |> fun h => repLL_mono ⟨fun b hb _ => ⟨rfl, hb⟩, Nat.le_refl _, fun _ _ _ h => by simp [find] at h, fun _ _ _ _ h => by simp [find] at h, fun _ _ h => by simp [find] at h, fun _ h => by simp [find] at h⟩ h⟩
 | el cs =>
  simp only [rep] at h ⊢
  obtain ⟨b, off, us, e, h3, h4⟩ := h
  exact ⟨b, off, us, e, h3, repC_mono ⟨fun b hb _ => ⟨rfl, hb⟩, Nat.le_refl _, fun _ _ _ h => by simp [find] at h, fun _ _ _ _ h => by simp [find] at h, fun _ _ h => by simp [find] at h, fun _ h => by simp [find] at h⟩ h4⟩
 | clo fn f c =>
  simp only [pureC, Bool.and_eq_true, List.isEmpty_iff] at hp
  obtain ⟨rfl, rfl⟩ := hp
  simpa only [rep, repL] using h
 | ifa t vs => simpa only [rep] using h
 | ife => simpa only [rep] using h
 | _ => cases hp
theorem repC_pure {μ' : Nat → Value} : ∀ {cs : List AV} {us : List Value}, repC σ μ w A cs us → cs.all pureC = true → repC [] μ' w A cs us
 | [], us, h, _ => by simpa only [repC] using h
 | c :: cs, us, h, hp => by
  simp only [List.all_cons, Bool.and_eq_true] at hp
  simp only [repC] at h ⊢
  obtain ⟨u, us', e, h0, h1, h2⟩ := h
  exact ⟨u, us', e, h0, rep_pureC h1 hp.1, repC_pure h2 hp.2⟩
theorem rep_pureB {v : AV} {y : Value} {μ' : Nat → Value} (h : rep σ μ w A v y) (hp : pureB v = true) : rep [] μ' w A v y := by
 cases v with
 | agg cs =>
  simp only [rep] at h ⊢
  obtain ⟨us, e, h1⟩ := h
  exact ⟨us, e, repC_pure h1 hp⟩
 | tup _ => cases hp
 | _ => exact rep_pureC h hp
theorem repL_pure {μ' : Nat → Value} : ∀ {cs : List AV} {us : List Value}, repL σ μ w A cs us → cs.all pureB = true → repL [] μ' w A cs us
 | [], us, h, _ => by simpa only [repL] using h
 | c :: cs, us, h, hp => by
  simp only [List.all_cons, Bool.and_eq_true] at hp
  simp only [repL] at h ⊢
  obtain ⟨u, us', e, h1, h2⟩ := h
  exact ⟨u, us', e, rep_pureB h1 hp.1, repL_pure h2 hp.2⟩
def bldS (size : Nat) : Nat → List (Nat × AV) → Option (List (List AV))
 | _, [] => some []
 | j, (i, v) :: l => match Nat.beq i j && Nat.beq (acells v).length size && cellOK v && (acells v).all pureC with
  | true => match bldS size (j + 1) l with
   | some r => some (acells v :: r)
   | none => none
  | false => none
theorem fill_ord (size : Nat) (hs : 0 < size) : ∀ {vs : List (Nat × AV)} {us : List (Nat × Value)} {j : Nat} {xs : List (List AV)} {cells : Array Value}, PartsRep σ μ w A vs us → bldS size j vs = some xs → (j + xs.length) * size ≤ cells.size →
   ∃ cells' zs, Instr.fill (fun i => some (i * size, size)) cells us = some cells' ∧ cells'.toList = cells.toList.take (j * size) ++ zs ++ cells.toList.drop ((j + xs.length) * size) ∧ repLL [] μ w A size xs zs
 | [], _ :: _, j, xs, cells, h, hb, hc => h.elim
 | _ :: _, [], j, xs, cells, h, hb, hc => h.elim
 | [], [], j, xs, cells, _, hb, hc => by
  simp only [bldS, Option.some.injEq] at hb; subst hb
  exact ⟨cells, [], rfl, by simp, by simp [repLL]⟩
 | (i, v) :: vs, (j', u) :: us, j, xs, cells, ⟨h1, h2, h3⟩, hb, hc => by
  subst h1
  simp only [bldS] at hb
  split at hb
  ·rename_i hcond
   simp only [Bool.and_eq_true, Nat.beq_eq] at hcond
   obtain ⟨⟨⟨rfl, h4⟩, h5⟩, h6⟩ := hcond
   split at hb
   ·rename_i r hr
    injection hb with hb; subst hb
    simp only [List.length_cons] at hc
    have h8 := rep_cells h2 h5
    have h9 : u.cells.size = size := by rw [← h4, ← repC_len h8]; simp
    have hb1 : i * size + size ≤ cells.size := by
     have : (i + 1) * size ≤ (i + (r.length + 1)) * size := Nat.mul_le_mul_right _ (by omega)
     rw [Nat.add_mul] at this; omega
    have h10 := splice_fold (i * size) u.cells.toList 0 cells (by simp; omega)
    simp only [Nat.add_zero] at h10
    have hsz : ((u.cells.toList.zipIdx 0).foldl (fun cs (p : Value × Nat) => cs.setIfInBounds (i * size + p.2) p.1) cells).size = cells.size := by
     have := congrArg List.length h10
     simp only [Array.length_toList, List.length_append, List.length_take, List.length_drop] at this
     omega
    have hz : u.cells.zipIdx.toList = u.cells.toList.zipIdx 0 := by simp
    obtain ⟨cells', zs, h11, h12, h13⟩ := fill_ord size hs h3 hr (cells := (u.cells.toList.zipIdx 0).foldl (fun cs (p : Value × Nat) => cs.setIfInBounds (i * size + p.2) p.1) cells) (by rw [hsz]; refine Nat.le_trans (Nat.mul_le_mul_right _ ?_) hc; omega)
    refine ⟨cells', u.cells.toList ++ zs, ?_, ?_, ?_⟩
    ·simp only [Instr.fill]
     have h14 : ¬ (u.cells.size ≠ size || decide (i * size + u.cells.size > cells.size)) = true := by
      simp [h9]; omega
     rw [if_neg (by simpa using h14)]
     rw [← h11, ← Array.foldl_toList, hz]
    ·rw [h12, h10]
     have e1 : (i + 1) * size = i * size + size := by rw [Nat.add_mul]; omega
     have e2 : (i + 1 + r.length) * size = (i + (r.length + 1)) * size := by congr 1; omega
     have e3 : u.cells.toList.length = size := by simpa using h9
     have e4 : (cells.toList.take (i * size) ++ u.cells.toList).length = i * size + size := by
      simp only [List.length_append, List.length_take, Array.length_toList, e3]; omega
     rw [e1, e2]
     have e5 : (cells.toList.take (i * size) ++ u.cells.toList ++ cells.toList.drop (i * size + u.cells.toList.length)).take (i * size + size) = cells.toList.take (i * size) ++ u.cells.toList := by
      rw [← e4]; exact List.take_left
     have e6 : (cells.toList.take (i * size) ++ u.cells.toList ++ cells.toList.drop (i * size + u.cells.toList.length)).drop ((i + (r.length + 1)) * size) = cells.toList.drop ((i + (r.length + 1)) * size) := by
      have : (i + (r.length + 1)) * size = (i * size + size) + r.length * size := by rw [Nat.add_mul, Nat.add_mul]; omega
      rw [this, ← List.drop_drop, ← e4, List.drop_left, e3, List.drop_drop, e4]
     rw [e5, e6]
     simp [List.append_assoc]
    ·simp only [List.length_cons, repLL]
     exact ⟨u.cells.toList, zs, rfl, by simpa using h9, repC_pure h8 h6, h13⟩
   ·cases hb
  ·cases hb
theorem ls_buildS (hT : okTab P T = true) {t len e size bytes : Nat} {parts : Array (Nat × Operand)} {vs : List (Nat × AV)} {xs : List (List AV)} (hty : nth T t = some (.slice e size bytes)) (hp : evParts s parts.toList = some vs) (hb : bldS size 0 vs = some xs) (hl : Nat.beq xs.length len = true) (hle : Nat.ble (len * size) 16777216 = true) (hd : okDst Γ.n dst = true) :
  LS P Γ ⟨dst, .buildSlice t len parts, ty, pos, after, none⟩ s (rdParts parts.toList []) (dst1 dst (.sl size xs)) [] := by
 refine ⟨fun t' ht Q μ a w hr K hK => ?_⟩
 obtain ⟨h1, _⟩ := ht.parts hr hp
 obtain ⟨hu, hpos, j, z, hj, hj2, hj3, hj4, hj5⟩ := slice_ty hT hty
 have hl := Nat.eq_of_beq_eq_true hl
 subst hl
 have hle := Nat.le_of_ble_eq_true hle
 obtain ⟨cells, zs, h2, h3, h4⟩ := fill_ord size hpos h1 hb (cells := (Array.range (xs.length * size)).map fun i => (if xs.length * size = 0 then #[] else z.cells)[i % (if xs.length * size = 0 then #[] else z.cells).size]!) (by simp)
 have h3' : cells.toList = zs := by
  rw [h3]
  simp [List.drop_of_length_le]
 have h9 : parts.map (fun p => (p.1, a.eval p.2)) = (parts.toList.map fun p => (p.1, a.eval p.2)).toArray := by simp [← Array.toList_map]
 have hrun : (execOp a.eval ⟨dst, .buildSlice t xs.length parts, ty, pos, after, none⟩).run P w = .ok (.value (.slice (some ⟨w.heap.size, 0, none⟩) xs.length xs.length)) (w.alloc (.cells cells e)) := by
  have hn : ¬ xs.length * size > 2 ^ 24 := by omega
  by_cases h0 : xs.length * size = 0
  ·simp only [h0, if_true] at h2
   simp [execOp, Instr.buildSlice, run_underlying hu, sizeOf, typeInfo, hj, hj2, h0, newRow, h9]
   have hz0 : ∀ f : Nat → Value, (Array.range 0).map f = #[] := by intro f; simp [Array.range]
   rw [hz0] at h2 ⊢
   rw [h2]
   simp
  ·simp only [h0, if_false] at h2
   simp [execOp, Instr.buildSlice, run_underlying hu, sizeOf, typeInfo, hj, hj2, h0, hn, newRow, zeroValue, hj4, h9]
   rw [h2]
   simp
 unfold Oper.wp
 rw [hrun]
 have hr2 := hr.world (below_alloc w (.cells cells e))
 refine hK μ _ _ (hr2.put (d := dst) hd ?_)
 have hst := (hr.store.keep (below_alloc w (.cells cells e))).1.step (M := Γ.M)
 simp only [rep]
 refine ⟨some ⟨w.heap.size, 0, none⟩, xs.length, zs, rfl, Nat.le_refl _, ?_, ?_, repLL_mono hst.pure h4⟩
 ·simp only [maxLen]
  have : xs.length ≤ xs.length * size := Nat.le_mul_of_pos_right _ hpos
  omega
 ·refine .inr ⟨w.heap.size, 0, rfl, fun hc => ?_, by simp, fun j u hu => ?_⟩
  ·rcases hc with hc | ⟨id, o, h5, h6⟩
   ·have := hr.store.lt _ hc; omega
   ·have := ObjRel.lt hr.store h5 h6; omega
  ·have := (Blk.new w e cells).cell (0 + j)
   rw [this, Nat.zero_add, ← Array.getElem?_toList, h3']; exact hu
theorem ls_build0 (hT : okTab P T = true) {t e size bytes k : Nat} {parts : Array (Nat × Operand)} (hty : nth T t = some (.slice e size bytes)) (hp : parts = #[]) (hk : find s.σ k = none) (hd : okDst Γ.n dst = true) (htag : Nat.blt e 1048576 = true := by rfl) :
  LS P Γ ⟨dst, .buildSlice t 0 parts, ty, pos, after, none⟩ s [.obj k] (dst1 dst (.own k 0)) [(k, .row e size [])] := by
 refine ⟨fun t' ht Q μ a w hr K hK => ?_⟩
 subst hp
 have hk' : find t'.σ k = none := ht.1.trans hk
 obtain ⟨hu, hpos, j, z, hj, hj2, hj3, hj4, hj5⟩ := slice_ty hT hty
 have hn := hr.new (w' := w.alloc (.cells #[] e)) (v := .slice (some ⟨w.heap.size, 0, none⟩) 0 0) (o := .row e size []) hk' (below_alloc _ _) (by simp [blk]) (fun μ' A hμ hμk hA hst => by
  refine ⟨[], ?_, by simp [repLL]⟩
  rw [hμk]
  exact OwnS.of (own_new (Blk.new w e #[]) (Nat.zero_le _)) htag)
 have hfin := hn.put (d := dst) (x := .own k 0) (y := .slice (some ⟨w.heap.size, 0, none⟩) 0 0) hd (by
  simp only [rep, ASt.eff, List.cons_append, List.nil_append, find_cons, if_true]
  exact ⟨rfl, .inr ⟨e, size, [], rfl, Nat.le_refl _, fun _ => (setμ_same _ _ _).symm⟩⟩)
 unfold Oper.wp
 have hrun : (execOp a.eval ⟨dst, .buildSlice t 0 #[], ty, pos, after, none⟩).run P w = .ok (.value (.slice (some ⟨w.heap.size, 0, none⟩) 0 0)) (w.alloc (.cells #[] e)) := by
  have hz0 : ∀ f : Nat → Value, (Array.range 0).map f = #[] := by intro f; simp [Array.range]
  simp [execOp, Instr.buildSlice, run_underlying hu, sizeOf, typeInfo, hj, hj2, newRow, Instr.fill, hz0]
 rw [hrun]
 refine hK (setμ μ k (.slice (some ⟨w.heap.size, 0, none⟩) 0 0)) _ _ ?_
 cases dst <;> exact hfin
inductive SrcIs (s : ASt) (size : Nat) : AV → List (List AV) → List Loc → Prop
 | sl {ys : List (List AV)} : SrcIs s size (.sl size ys) ys []
 | nil : SrcIs s size (.v (.slice none 0 0)) [] []
 | own {id n : Nat} {e : Nat} {ys : List (List AV)} (h : find s.σ id = some (.row e size ys)) (hn : n = ys.length) : SrcIs s size (.own id n) ys [.obj id]
theorem src_reads {t : ASt} {a : Act} {size : Nat} {x : Operand} {v : AV} {ys : List (List AV)} {R : List Loc} (hr : Rel Γ t μ a w) (hag : Agree s t R) (hv : rep t.σ μ w (av t.σ μ Γ.M) v (a.eval x)) (h : SrcIs s size v ys R) (hs : 0 < size) :
  ∃ ad c us, a.eval x = .slice ad ys.length c ∧ Reads w w.heap.size size ad ys.length us ∧ repLL [] μ w (av t.σ μ Γ.M) size ys us := by
 cases h with
 | sl =>
  simp only [rep] at hv
  obtain ⟨ad, c, us, e, h1, h2, h3, h4⟩ := hv
  refine ⟨ad, c, us, e, ⟨repLL_len h4, fun hn => ?_⟩, h4⟩
  rcases h3 with rfl | ⟨b, off, rfl, _, hb, hc⟩
  ·have := repLL_len h4
   simp only [List.length_nil] at this
   have : 0 < ys.length * size := Nat.mul_pos hn hs
   omega
  ·exact ⟨b, off, rfl, hb, hc⟩
 | nil =>
  simp only [rep] at hv
  exact ⟨none, 0, [], hv.1, Reads.none_, by simp [repLL]⟩
 | own h hn =>
  have h0 := hag.1.trans h
  simp only [rep] at hv
  obtain ⟨_, e, size', xs, h1, h2, h3⟩ := live h0 hv
  rw [h0] at h1
  injection h1 with h1; injection h1 with _ h4 h5; subst h4 h5
  obtain ⟨us, h6, h7⟩ := hr.store.obj _ _ h0
  obtain ⟨A', c', h8, _, _⟩ := h6.slice
  rw [h8] at h6
  exact ⟨A', c', us, (h3 hn).trans h8, h6.reads, h7⟩
theorem Agree.app {s t : ASt} : ∀ {l R : List Loc}, Agree s t (l ++ R) → Agree s t l ∧ Agree s t R
 | [], R, h => ⟨trivial, h⟩
 | .reg _ :: l, R, h => by
  obtain ⟨h1, h2⟩ := h
  obtain ⟨h3, h4⟩ := Agree.app h2
  exact ⟨⟨h1, h3⟩, h4⟩
 | .obj _ :: l, R, h => by
  obtain ⟨h1, h2⟩ := h
  obtain ⟨h3, h4⟩ := Agree.app h2
  exact ⟨⟨h1, h3⟩, h4⟩
theorem run_append_zero (w : World) (base : Nat) (t ty e : TypeId) (i : TypeInfo) (size : Nat) (ht : P.underlying t = some (.slice e)) (hi : P.info? e = some i)
  (v : Value) (n : Nat) (xs : List Value) (hown : w.ownsRow base e size v n xs) (ad : Option Addr) (c : Nat) : (Builtin.append_ #[t, t] ty #[v, .slice ad 0 c]).run P w = .ok v w := by
 rcases hown.2 with ⟨rfl, rfl⟩ | ⟨g, cap, cur, rfl, _, _, hnc, _⟩ <;> cases ad <;>
  simp [Builtin.append_, run_underlying ht, sizeOf, typeInfo, hi, Builtin.lenOf, Builtin.firstCells, loadCells, loadCellsFrom, storeCells, *]
theorem ls_append (hT : okTab P T = true) {x z : Operand} {t e size bytes id n : Nat} {xs ys : List (List AV)} {v : AV} {R : List Loc} (hx : ev s x = some (.own id n)) (hσ : find s.σ id = some (.row e size xs)) (hn : n = xs.length) (hz : ev s z = some v) (hsrc : SrcIs s size v ys R)
  (hty : nth T t = some (.slice e size bytes)) (hlen : xs.length + ys.length ≤ 1000000000) (hby : Nat.ble bytes 1000 = true) (hd : okDst Γ.n dst = true) (htag : Nat.blt e 1048576 = true := by rfl) :
  LS P Γ ⟨dst, .call { callee := .builtin .append, args := #[x, z], argTypes := #[t, t] }, ty, pos, after, none⟩ s (rd x (rd z (R ++ [.obj id]))) (dst1 dst (.own id (xs ++ ys).length)) [(id, .row e size (xs ++ ys))] := by
 refine ⟨fun t' ht Q μ a w hr K hK => ?_⟩
 obtain ⟨e1, ht⟩ := ht.ev hx
 obtain ⟨e2, ht⟩ := ht.ev hz
 obtain ⟨hag, ht⟩ := ht.app
 have e0 : find t'.σ id = some (.row e size xs) := ht.1.trans hσ
 have e1 := hr.ev e1
 have e2 := hr.ev e2
 obtain ⟨hu, hpos, j, zz, hj, hj2, hj3, hj4, hj5⟩ := slice_ty hT hty
 have hby := Nat.le_of_ble_eq_true hby
 obtain ⟨ad, c, news, e3, e4, e5⟩ := src_reads hr hag e2 hsrc hpos
 simp only [rep] at e1
 obtain ⟨_, e', size', xs', e6, e7, e8⟩ := live e0 e1
 rw [e0] at e6
 injection e6 with e6; injection e6 with e6 e9 e10; subst e6 e9 e10
 have e8 := e8 hn
 subst hn
 obtain ⟨us, e11, e12⟩ := hr.store.obj id _ e0
 have e11 := e11.own htag
 have happ : ∃ v' w', (Builtin.append_ #[t, t] ty #[μ id, .slice ad ys.length c]).run P w = .ok v' w' ∧ w'.ownsRow 0 e size v' (xs.length + ys.length) (us ++ news) ∧ w.grownBy w' (μ id).ownBlock ∧
   (v'.ownBlock = (μ id).ownBlock ∨ v'.ownBlock = some w.heap.size) ∧ (ys = [] → v' = μ id) := by
  by_cases hy : ys = []
  ·subst hy
   have hnews : news = [] := List.eq_nil_of_length_eq_zero (by simpa using e4.1)
   subst hnews
   exact ⟨μ id, w, run_append_zero w 0 t ty e j size hu hj _ _ _ e11 ad c, by simpa using e11, World.grownBy.refl w _, .inl rfl, fun _ => rfl⟩
  ·obtain ⟨v', w', h1, h2, h3, h4⟩ := run_append_any (P := P) w 0 t ty e j zz size bytes hu hj hj4 hj2 hj3 hj5 hpos (μ id) xs.length us e11 w.heap.size ad ys.length c news e4 (repLL_one e5) (by simp only [maxLen]; omega) (by
    have h2 : (xs.length + ys.length) * bytes ≤ 1000000000 * 1000 := Nat.mul_le_mul hlen hby
    omega) (Nat.zero_le _)
   exact ⟨v', w', h1, h2, h3, h4, fun h => absurd h hy⟩
 obtain ⟨v', w', hrun, hown, hgr, hbk, hzero⟩ := happ
 have hblk : ∀ y : Value, y.ownBlock = blk y ∨ (∃ p, y = .pointer p) ∨ ∃ p, y = .map p := by
  intro y
  cases y with
  | slice a n c => cases a <;> exact .inl rfl
  | pointer p => exact .inr (.inl ⟨p, rfl⟩)
  | map p => exact .inr (.inr ⟨p, rfl⟩)
  | _ => exact .inl rfl
 have hb0 : (μ id).ownBlock = blk (μ id) := by
  rcases hblk (μ id) with h | ⟨p, h⟩ | ⟨p, h⟩
  ·exact h
  all_goals
   obtain ⟨A', c', h2, _⟩ := own_slice e11
   rw [h] at h2; cases h2
 have hb1 : v'.ownBlock = blk v' := by
  rcases hblk v' with h | ⟨p, h⟩ | ⟨p, h⟩
  ·exact h
  all_goals
   obtain ⟨A', c', h2, _⟩ := own_slice hown
   rw [h] at h2; cases h2
 have hne : ∀ i o, find t'.σ i = some o → i = id ∨ i ≠ id := fun i o _ => by by_cases h : i = id <;> simp [h]
 have hother : ∀ i o b, i ≠ id → find t'.σ i = some o → blk (μ i) = some b → some b ≠ (μ id).ownBlock := by
  intro i o b h1 h2 h3 h4
  rw [hb0] at h4
  exact h1 (hr.store.inj i id o _ b h2 e0 h3 h4.symm)
 have hgro : Gro t'.σ μ w ((id, .row e size (xs ++ ys)) :: t'.σ) (setμ μ id v') w' := by
  refine ⟨hgr.os, hgr.tape, hgr.output, hgr.size, fun b hl hn => hgr.block b hl (fun h => ?_), fun i o b hf hb hl => ?_, fun i t cs hf => ?_, fun i e' size' xs' hf => ?_, fun i es hf => ?_, fun i hf => ?_⟩
  ·rw [hb0] at h
   exact hn id _ e0 h.symm
  ·rw [find_cons] at hf
   split at hf
   ·rename_i h; subst h
    rw [setμ_same, ← hb1] at hb
    rcases hbk with h | h
    ·rw [h, hb0] at hb; exact ⟨_, _, e0, hb⟩
    ·rw [h] at hb; injection hb with hb; omega
   ·rename_i h
    rw [setμ_ne μ v' (Ne.symm h)] at hb
    exact ⟨i, o, hf, hb⟩
  ·have h : id ≠ i := fun h => by subst h; rw [e0] at hf; cases hf
   exact ⟨cs, by rw [find_cons, if_neg h]; exact hf, rfl, setμ_ne μ v' (Ne.symm h)⟩
  ·by_cases h : id = i
   ·subst h
    rw [e0] at hf; injection hf with hf; injection hf with h1 h2 h3; subst h1 h2 h3
    refine .inr ⟨xs ++ ys, by rw [find_cons, if_pos rfl], by simp, fun hl => ?_⟩
    rw [setμ_same]
    exact hzero (by simpa using hl)
   ·exact .inr ⟨xs', by rw [find_cons, if_neg h]; exact hf, Nat.le_refl _, fun _ => setμ_ne μ v' (Ne.symm h)⟩
  ·have h : id ≠ i := fun h => by subst h; rw [e0] at hf; cases hf
   exact ⟨es, by rw [find_cons, if_neg h]; exact hf, setμ_ne μ v' (Ne.symm h)⟩
  ·have h : id ≠ i := fun h => by subst h; rw [e0] at hf; cases hf
   rw [find_cons, if_neg h]; exact hf
 have hs : SRel ((id, .row e size (xs ++ ys)) :: t'.σ) (setμ μ id v') w' Γ.M := by
  refine hr.store.at_ hgro id (fun i h => by rw [find_cons, if_neg (Ne.symm h)]) (fun i h => setμ_ne μ v' h) (fun i o b h1 h2 h3 => hgr.block b (ObjRel.lt hr.store h2 h3) (hother i o b h1 h2 h3)) (fun o ho => ?_) (fun i o b h1 h2 h3 h4 => ?_) (fun b h1 h2 => ?_)
  ·rw [find_cons, if_pos rfl] at ho
   injection ho with ho; subst ho
   have hst := hgro.step (M := Γ.M)
   refine ⟨us ++ news, ?_, repLL_mono hst.pure (repLL_append e12 e5)⟩
   rw [setμ_same, List.length_append]
   exact OwnS.of hown htag
  ·rw [setμ_same, ← hb1] at h4
   rcases hbk with h | h
   ·rw [h] at h4
    exact hother i o b h1 h2 h3 h4.symm
   ·rw [h] at h4; injection h4 with h4
    have := ObjRel.lt hr.store h2 h3
    omega
  ·rw [setμ_same, ← hb1] at h1
   rcases hbk with h | h
   ·rw [h, hb0] at h1
    exact hr.store.dis id _ b e0 h1 h2
   ·rw [h] at h1; injection h1 with h1
    have := hr.store.lt b h2
    omega
 have hfin := (hr.goes hgro hs).put (d := dst) (x := .own id (xs ++ ys).length) (y := v') hd (by
  simp only [rep, find_cons, if_true]
  obtain ⟨A', c', h2, _⟩ := own_slice hown
  exact ⟨by rw [h2]; rfl, .inr ⟨e, size, xs ++ ys, rfl, Nat.le_refl _, fun _ => (setμ_same _ _ _).symm⟩⟩)
 unfold Oper.wp
 have hrun2 : (execOp a.eval ⟨dst, .call { callee := .builtin .append, args := #[x, z], argTypes := #[t, t] }, ty, pos, after, none⟩).run P w = .ok (.value v') w' := by
  simp only [execOp, resolve, Sem.run_bind, Sem.run_pure, Result.andThen_ok, invoke, builtin, List.map_toArray, List.map_cons, List.map_nil, e8, e3, hrun]
 rw [hrun2]
 refine hK (setμ μ id v') _ _ ?_
 cases dst <;> exact hfin
end
end Go.Proofs.Ytlgbadlgfdlheaa
