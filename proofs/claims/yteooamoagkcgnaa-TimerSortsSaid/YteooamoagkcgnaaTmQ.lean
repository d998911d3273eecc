/-
  Timers: a row in order, and a heap of the same ones. Plain.
-/
import Derived.Test.YteooamoagkcgnaaTmP
import Derived.Test.YteooamoagkcgnaaPnS
import Derived.Test.YteooamoagkcgnaaAvX
namespace Go.Proofs.Yteooamoagkcgnaa
open Go.RowKit
set_option linter.unusedSimpArgs false
set_option linter.unusedVariables false
structure Tm where
  at' : Int
  name : ByteArray
def Tm.av (t : Tm) : List AV := [.v (.int .i64 t.at'), .v (.string t.name)]
def Tm.vals (t : Tm) : List Value := [.int .i64 t.at', .string t.name]
def tmZ : Tm := ⟨0, ByteArray.empty⟩
def tLt (a b : Tm) : Bool := decide (a.at' < b.at') || (decide (a.at' = b.at') && Op.bytesLess a.name.toList b.name.toList)
theorem tLt_iff {a b : Tm} : tLt a b = true ↔ a.at' < b.at' ∨ (a.at' = b.at' ∧ Op.bytesLess a.name.toList b.name.toList = true) := by simp [tLt]
theorem tLt_not {a b : Tm} : tLt a b = false ↔ ¬ a.at' < b.at' ∧ (a.at' = b.at' → Op.bytesLess a.name.toList b.name.toList = false) := by
  simp [tLt]
theorem bless_asymm {a b : List UInt8} (h : Op.bytesLess a b = true) : Op.bytesLess b a = false := by
  cases e : Op.bytesLess b a
  · rfl
  · have := bless_trans a b a h e
    rw [bless_irrefl] at this; cases this
theorem tLt_asymm (a b : Tm) (h : tLt a b = true) : tLt b a = false := by
  rw [tLt_iff] at h
  rw [tLt_not]
  rcases h with h | ⟨h, k⟩
  · exact ⟨by omega, fun e => by omega⟩
  · exact ⟨by omega, fun _ => bless_asymm k⟩
theorem tLt_trans (a b c : Tm) (h : tLt b a = false) (k : tLt c b = false) : tLt c a = false := by
  rw [tLt_not] at h k ⊢
  refine ⟨by omega, fun e => ?_⟩
  have e1 : b.at' = a.at' := by omega
  have e2 : c.at' = b.at' := by omega
  have h1 := h.2 e1
  have k1 := k.2 e2
  cases e3 : Op.bytesLess c.name.toList a.name.toList
  · rfl
  · exfalso
    cases e4 : Op.bytesLess a.name.toList b.name.toList
    · have := bless_total _ _ h1 e4
      rw [this] at k1; rw [k1] at e3; cases e3
    · have := bless_trans _ _ _ e3 e4
      rw [this] at k1; cases k1
theorem tLt_eq {a b : Tm} (h : tLt a b = false) (k : tLt b a = false) : a = b := by
  rw [tLt_not] at h k
  have e : a.at' = b.at' := by omega
  have e2 := bless_total _ _ (h.2 e) (k.2 e.symm)
  obtain ⟨x, n⟩ := a
  obtain ⟨y, m⟩ := b
  dsimp only at e e2
  subst e
  have : n = m := by
    rw [ByteArray.toList_eq, ByteArray.toList_eq] at e2
    exact ByteArray.ext (Array.toList_inj.1 e2)
  subst this; rfl
/-- rows in order -/
abbrev TSorted (l : List Tm) : Prop := l.Pairwise fun a b => tLt b a = false
theorem sorted_eq : ∀ {l m : List Tm}, TSorted l → TSorted m → l.Perm m → l = m
  | [], m, _, _, h => (List.nil_perm.1 h).symm
  | a :: l, m, hl, hm, h => by
    cases m with
    | nil => exact absurd (List.perm_nil.1 h) (by simp)
    | cons b m =>
      have e : a = b := by
        have ha : a ∈ b :: m := h.subset (by simp)
        have hb : b ∈ a :: l := h.symm.subset (by simp)
        rcases List.mem_cons.1 ha with e | ha
        · exact e
        rcases List.mem_cons.1 hb with e | hb
        · exact e.symm
        exact tLt_eq ((List.pairwise_cons.1 hm).1 a ha) ((List.pairwise_cons.1 hl).1 b hb)
      subst e
      rw [sorted_eq (List.pairwise_cons.1 hl).2 (List.pairwise_cons.1 hm).2 ((List.perm_cons a).1 h)]
/-- one more, in its place -/
def tIns (x : Tm) : List Tm → List Tm
  | [] => [x]
  | t :: l => if tLt x t = true then x :: t :: l else t :: tIns x l
theorem tIns_perm (x : Tm) : ∀ l, (tIns x l).Perm (x :: l)
  | [] => List.Perm.refl _
  | t :: l => by
    simp only [tIns]
    split
    · exact List.Perm.refl _
    · exact ((List.perm_cons t).2 (tIns_perm x l)).trans (List.Perm.swap x t l)
theorem tIns_sorted (x : Tm) : ∀ {l}, TSorted l → TSorted (tIns x l)
  | [], _ => by simp [tIns, TSorted]
  | t :: l, h => by
    simp only [tIns]
    have h1 := (List.pairwise_cons.1 h).1
    split
    · rename_i hx
      refine List.pairwise_cons.2 ⟨fun y hy => ?_, h⟩
      rcases List.mem_cons.1 hy with rfl | hy
      · exact tLt_asymm _ _ hx
      · exact tLt_trans _ _ _ (tLt_asymm _ _ hx) (h1 y hy)
    · rename_i hx
      refine List.pairwise_cons.2 ⟨fun y hy => ?_, tIns_sorted x (List.pairwise_cons.1 h).2⟩
      rcases List.mem_cons.1 ((tIns_perm x l).subset hy) with rfl | hy
      · cases e : tLt y t
        · rfl
        · exact absurd e hx
      · exact h1 y hy
theorem tIns_len (x : Tm) (l : List Tm) : (tIns x l).length = l.length + 1 := by rw [(tIns_perm x l).length_eq]; rfl
/-- a heap of just those of a row in order -/
structure Inv (l r : List Tm) : Prop where
  so : TSorted l
  pm : r.Perm l
  hp : HP tLt tmZ r r.length 0
theorem inv_nil : Inv [] [] := ⟨List.Pairwise.nil, List.Perm.refl _, fun k _ hk _ => absurd hk (Nat.not_lt_zero _)⟩
theorem Inv.len {l r : List Tm} (h : Inv l r) : r.length = l.length := h.pm.length_eq
theorem Inv.push {l r : List Tm} (h : Inv l r) (x : Tm) : Inv (tIns x l) (hpush tLt tmZ r x) := by
  refine ⟨tIns_sorted x h.so, (hpush_perm r x).trans (((List.perm_cons x).2 h.pm).trans (tIns_perm x l).symm), ?_⟩
  rw [hpush_len]
  exact hpush_heap tLt_asymm tLt_trans h.hp
theorem getD_mem {r : List Tm} {k : Nat} (h : k < r.length) : r.getD k tmZ ∈ r := by
  rw [List.getD_eq_getElem?_getD, List.getElem?_eq_getElem h]
  exact List.getElem_mem h
theorem Inv.pop {a : Tm} {l r : List Tm} (h : Inv (a :: l) r) : r.getD 0 tmZ = a ∧ Inv l (hpop tLt tmZ r) := by
  have hlen := h.len
  have h0 : 0 < r.length := by rw [hlen]; simp
  have e : r.getD 0 tmZ = a := by
    have ha : a ∈ r := h.pm.symm.subset (by simp)
    obtain ⟨k, hk, hka⟩ := List.getElem_of_mem ha
    have h1 := hp_min tLt_asymm tLt_trans h.hp k hk
    have h2 : r.getD k tmZ = a := by rw [List.getD_eq_getElem?_getD, List.getElem?_eq_getElem hk]; exact hka
    rw [h2] at h1
    rcases List.mem_cons.1 (h.pm.subset (getD_mem h0)) with e | hm
    · exact e
    · exact tLt_eq ((List.pairwise_cons.1 h.so).1 _ hm) h1
  have hp := hpop_perm (lt := tLt) (d := tmZ) h0
  rw [e] at hp
  refine ⟨e, (List.pairwise_cons.1 h.so).2, (List.perm_cons a).1 (hp.trans h.pm), ?_⟩
  rw [hpop_len]
  exact hp_take (Nat.le_refl _) (hpopL_heap tLt_asymm tLt_trans h.hp)
/-- those that are due, popped one by one -/
def dueN (mark : Int) : Nat → List Tm → List Tm × List Tm
  | 0, r => ([], r)
  | f + 1, r => if 0 < r.length ∧ (r.getD 0 tmZ).at' ≤ mark then (r.getD 0 tmZ :: (dueN mark f (hpop tLt tmZ r)).1, (dueN mark f (hpop tLt tmZ r)).2) else ([], r)
def dueP (mark : Int) (l : List Tm) : List Tm := l.filter fun t => decide (t.at' ≤ mark)
def restP (mark : Int) (l : List Tm) : List Tm := l.filter fun t => !decide (t.at' ≤ mark)
theorem Inv.due (mark : Int) : ∀ {l r : List Tm}, Inv l r → ∀ f, l.length ≤ f → (dueN mark f r).1 = dueP mark l ∧ Inv (restP mark l) (dueN mark f r).2
  | [], r, h, f, _ => by
    have h0 : r.length = 0 := h.len
    cases f with
    | zero => exact ⟨rfl, h⟩
    | succ f =>
      simp only [dueN, h0, Nat.lt_irrefl, false_and, if_false]
      exact ⟨rfl, h⟩
  | a :: l, r, h, 0, hf => by simp at hf
  | a :: l, r, h, f + 1, hf => by
    have h0 : 0 < r.length := by rw [h.len]; simp
    obtain ⟨e, hi⟩ := h.pop
    simp only [dueN]
    by_cases hm : a.at' ≤ mark
    · rw [if_pos ⟨h0, by rw [e]; exact hm⟩]
      obtain ⟨h1, h2⟩ := hi.due mark f (by simpa using hf)
      refine ⟨?_, ?_⟩
      · rw [e, h1]; simp [dueP, hm]
      · have : restP mark (a :: l) = restP mark l := by simp [restP, hm]
        rw [this]; exact h2
    · rw [if_neg (by rw [e]; exact fun h => hm h.2)]
      have hall : ∀ t ∈ a :: l, ¬ t.at' ≤ mark := by
        intro t ht
        rcases List.mem_cons.1 ht with rfl | ht
        · exact hm
        · have := (tLt_not.1 ((List.pairwise_cons.1 h.so).1 t ht)).1
          omega
      refine ⟨?_, ?_⟩
      · exact (List.filter_eq_nil_iff.2 fun t ht => by simpa using hall t ht).symm
      · have : restP mark (a :: l) = a :: l := List.filter_eq_self.2 fun t ht => by simpa using hall t ht
        rw [this]; exact h
def outP (name : ByteArray) (l : List Tm) : List Tm := l.filter fun t => !(t.name.toList == name.toList)
theorem Inv.drop {l r : List Tm} (h : Inv l r) (name : ByteArray) : Inv (outP name l) (hinit tLt tmZ (outP name r)) := by
  refine ⟨h.so.filter _, (hinit_perm _).trans (h.pm.filter _), ?_⟩
  rw [hinit_len]
  exact hinit_heap tLt_asymm tLt_trans _
theorem Inv.outs {l r : List Tm} (h : Inv l r) (name : ByteArray) : (outP name r).length = (outP name l).length := (h.pm.filter _).length_eq
theorem Inv.all {l r s : List Tm} (h : Inv l r) (hs : TSorted s) (hp : s.Perm r) : s = l := sorted_eq hs h.so (hp.trans h.pm)
end Go.Proofs.Yteooamoagkcgnaa
