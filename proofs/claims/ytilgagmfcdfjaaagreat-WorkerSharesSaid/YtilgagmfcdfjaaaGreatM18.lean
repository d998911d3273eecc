/-
  Workers, walked over abstract values: the law of an item that is taken.
  Workers: an item and all that waited for it. Plain.
  A worker that is told events and marks by inputs: what it holds and tells. Plain.
  A worker that is told an event, or a mark, by an input. Plain.
  Sources that go on one by one, and what a worker of them has taken. Plain.
  A turn of a source, told to a worker item by item. Plain.
  Items told to a worker one behind the other: values, marks, results. Plain.
  A worker that is told the next item of a row, whichever row. Plain.
  The items that a source tells from its beginning to its end. Plain.
-/
import Derived.Test.YtilgagmfcdfjaaaGreatM4
import Derived.Test.YtilgagmfcdfjaaaGreatM13
import Derived.Test.YtilgagmfcdfjaaaGreatM14
import Derived.Test.YtilgagmfcdfjaaaGreatM17
set_option linter.unusedSimpArgs false
set_option linter.unusedVariables false
set_option maxHeartbeats 20000000
namespace Go.Proofs.YtilgagmfcdfjaaaGreat
open Go.RowKit
def Lt.vals (x : Lt) : List Value := [.int .i64 x.input, .int .i64 x.it.kind, .string x.it.key, .int .i64 x.it.at', .int .i64 x.it.val, .int .i64 x.it.mark, .int .i64 x.it.n, .int .i64 x.it.lo, .int .i64 x.it.hi, .string x.it.rkey, .int .i64 x.it.rn, .int .i64 x.it.rval]
theorem ok_rGrp : CallOK Tryz.prog 131 := ⟨_, Tryz.func131, by kernel_rfl, rfl⟩
theorem ok_rrGrp : CallOK Tryz.prog 25 := ⟨_, Tryz.func25, by kernel_rfl, rfl⟩
theorem p_rGrp (s : ByteArray) (g : Int) (hs : s.size ≤ 1000000) (hg : -9223372036854775808 ≤ g ∧ g ≤ 9223372036854775807) : PC Tryz.prog 131 [.v (.string s), .v (.int .i64 g)] (.v (.int .i64 (grpV s.data.toList g))) :=
 pc_of_calls (xs := [.string s, .int .i64 g]) ok_rGrp (fun w => (ring_Group s g w hs hg).mono fun e w' ⟨h1, h2⟩ => ⟨h1, by rw [← h2]; exact Below.refl _ _⟩) rfl
theorem p_rrGrp (s : ByteArray) (g : Int) (hs : s.size ≤ 1000000) (hg : -9223372036854775808 ≤ g ∧ g ≤ 9223372036854775807) : PC Tryz.prog 25 [.v (.string s), .v (.int .i64 g)] (.v (.int .i64 (grpV s.data.toList g))) :=
 pc_of_calls (xs := [.string s, .int .i64 g]) ok_rrGrp (fun w => (ref11_Group s g w hs hg).mono fun e w' ⟨h1, h2⟩ => ⟨h1, by rw [← h2]; exact Below.refl _ _⟩) rfl
theorem itR_key {x : It} (h : itR x = true) (hk : x.kind = 1) : x.key.size ≤ 1000000 := by
 obtain ⟨kind, k, av, v, m, n, lo, hi, rk, rn, rv⟩ := x
 dsimp only at hk ⊢
 subst hk
 simp only [itR, if_true, evR, keyB, Bool.and_eq_true, decide_eq_true_eq] at h
 omega
theorem al_len {a : Al} {i : Int} {x : It} (h1 : a.got.length ≤ 9223372036854775807) (h2 : a.held.length ≤ 9223372036854775807) (h3 : ∀ l ∈ a.held, l.length ≤ 9223372036854775807) :
  (alOffer a i x).a.got.length ≤ 9223372036854775807 ∧ (alOffer a i x).a.held.length ≤ 9223372036854775807 ∧ (∀ l ∈ (alOffer a i x).a.held, l.length ≤ 9223372036854775807) ∧ (alOffer a i x).late.length ≤ 1000 := by
 have hz : alZ.got.length ≤ 9223372036854775807 ∧ alZ.held.length ≤ 9223372036854775807 ∧ (∀ l ∈ alZ.held, l.length ≤ 9223372036854775807) ∧ ([] : List Lt).length ≤ 1000 := ⟨by simp [alZ], by simp [alZ], by simp [alZ], by simp⟩
 unfold alOffer
 split
 ·exact hz
 rename_i hc
 have hR : alR a = true := by
  cases h : alR a
  ·exfalso; apply hc; simp [alHas, h]
  ·rfl
 obtain ⟨b1, b2, b3, b4, b5, b6, b7, b8⟩ := alR_ok hR
 split
 ·split
  ·exact hz
  ·rename_i hl
   refine ⟨h1, by dsimp only; rw [List.length_set]; exact h2, fun l hm => ?_, by simp⟩
   dsimp only at hm
   rcases List.mem_or_eq_of_mem_set hm with hm | rfl
   ·exact h3 l hm
   ·rw [List.length_append]; simp only [List.length_cons, List.length_nil]; omega
 ·split
  ·exact ⟨h1, h2, h3, by simp⟩
  ·split
   ·exact hz
   ·split
    ·exact ⟨by dsimp only; rw [List.length_set]; exact h1, h2, h3, by simp⟩
    ·have g1 : (newGot a.got.length).length ≤ 8 := by unfold newGot; split <;> simp <;> omega
     have g2 : (newHeld a.got.length).length ≤ 8 := by unfold newHeld; split <;> simp <;> omega
     refine ⟨by dsimp only; omega, by dsimp only; omega, fun l hl => ?_, ?_⟩
     ·dsimp only [newHeld] at hl
      split at hl
      ·rw [(List.mem_replicate.1 hl).2]; simp
      ·simp at hl
     ·have := latesN_le (held := a.held) (by omega) b8 a.held.length (Nat.le_refl _)
      dsimp only
      omega
theorem tell_len (m : Mk) : (mkTell m).m.ins.length ≤ m.ins.length ∧ (mkTell m).m.hs.length ≤ m.hs.length := by
 unfold mkTell
 split
 ·simp [mkZ]
 ·split <;> simp
structure TkOk (r : TkW) : Prop where
 w : WkOk r.w
 told : r.told.length ≤ 9223372036854775807
 late : r.late.length ≤ 9223372036854775807
theorem fail_ok (e : Int) : TkOk (wkFail e) := ⟨wkZ_ok, Nat.zero_le _, Nat.zero_le _⟩
theorem go_ok {j : Jb} {gs : List Gp} {m : Mk} {al : Al} {told : Int} (h1 : gs.length ≤ 1000) (h2 : ∀ g ∈ gs, g.ps.length ≤ 9223372036854775807) (h3 : m.ins.length ≤ 9223372036854775807) (h4 : m.hs.length ≤ 9223372036854775807) (h5 : al.got.length ≤ 9223372036854775807) (h6 : al.held.length ≤ 9223372036854775807) (h7 : ∀ l ∈ al.held, l.length ≤ 9223372036854775807) : TkOk (wkGo j gs m al told) := by
 have ht := tell_len m
 unfold wkGo
 split
 ·refine ⟨⟨by simp [advM]; omega, fun g hg => ?_, by dsimp only; omega, by dsimp only; omega, h5, h6, h7⟩, ?_, Nat.zero_le _⟩
  ·obtain ⟨y, hy, rfl⟩ := List.mem_map.1 hg
   have := h2 y hy
   show (gpAdv j (mkTell m).t y).ps.length ≤ _
   unfold gpAdv adv
   split
   ·simp
   split
   ·simp
   split
   ·exact this
   ·dsimp only
    unfold dueRB
    split
    ·exact Nat.le_trans (dueB_le _ _) this
    ·simp
  ·have := advT_le j (mkTell m).t gs
   dsimp only
   rw [List.length_append]
   simp
   omega
 ·exact ⟨⟨by dsimp only; omega, h2, by dsimp only; omega, by dsimp only; omega, h5, h6, h7⟩, Nat.zero_le _, Nat.zero_le _⟩
theorem take_ok (ok : Bool) (j : Jb) (no : Int) (w : Wk) (input : Int) (x : It) (hw : WkOk w) : TkOk (wkTake ok j no w input x) := by
 obtain ⟨a1, a2, a3, a4⟩ := al_len (i := input) (x := x) hw.got hw.held hw.its
 have k1 := mkSet_len w.mks input 0
 have k2 := mkSet_len w.mks input x.mark
 have k3 := mkIdle_len w.mks input
 have g3 := hw.ins
 have g4 := hw.hs
 unfold wkTake
 split
 ·exact fail_ok _
 split
 ·exact fail_ok _
 rename_i he
 have hgl : w.gs.length ≤ 1000 := by
  have h : wkR w = true := by
   cases h : wkR w
   ·exfalso; apply he; left; rw [h]; rfl
   ·rfl
  simp only [wkR, Bool.and_eq_true] at h
  have := gsR_le h.1
  omega
 split
 ·exact fail_ok _
 split
 ·exact ⟨⟨hw.gs, hw.ps, hw.ins, hw.hs, a1, a2, a3⟩, by simp, by dsimp only; omega⟩
 split
 ·exact ⟨⟨hw.gs, hw.ps, hw.ins, hw.hs, a1, a2, a3⟩, by simp, by simp⟩
 split
 ·split
  ·exact fail_ok _
  ·exact go_ok (by simp [putM]; exact hgl) (putM_ok hw.ps) (by omega) (by omega) a1 a2 a3
 split
 ·exact go_ok hgl hw.ps (by omega) (by omega) a1 a2 a3
 split
 ·exact go_ok hgl hw.ps (by omega) (by omega) a1 a2 a3
 ·exact go_ok hgl hw.ps hw.ins hw.hs a1 a2 a3
def tkJ (j : Jb) (w : Wk) (i : Int) (x : It) : TkW := wkTake (jobOK j.g j.s j.d j.k j.fu j.li j.de j.id) j (grpV x.key.data.toList j.g) w i x
structure RnW where
 w : Wk
 told : List It
 e : Int
def rnFail (e : Int) : RnW := ⟨wkZ, [], e⟩
def rnLoop (f : Wk → Int → It → RnW) : List Lt → Wk → List It → RnW
 | [], w, out => ⟨w, out, 0⟩
 | x :: l, w, out => if (f w x.input x.it).e ≠ 0 then rnFail (f w x.input x.it).e else rnLoop f l (f w x.input x.it).w (out ++ (f w x.input x.it).told)
def rnT (f : Wk → Int → It → RnW) (t : TkW) : RnW := if t.e ≠ 0 then rnFail t.e else rnLoop f t.late t.w t.told
def wkRun (j : Jb) : Nat → Wk → Int → It → RnW
 | 0, _, _, _ => rnFail 0
 | n + 1, w, i, x => rnT (wkRun j n) (tkJ j w i x)
def RnW.av (x : RnW) : AV := .tup [.agg x.w.av, .sl 11 (x.told.map It.av), .v (.int .i64 x.e)]
def heldN (a : Al) : Nat := (a.held.map List.length).sum
def tri : Nat → Nat
 | 0 => 0
 | n + 1 => tri n + (n + 1)
def ItV (x : It) : Prop := -9223372036854775808 ≤ x.val ∧ x.val ≤ 9223372036854775807
def HV (w : Wk) : Prop := ∀ l ∈ w.al.held, ∀ x ∈ l, ItV x
theorem tri_mono {m n : Nat} (h : m ≤ n) : tri m ≤ tri n := by
 induction n with
 | zero => have : m = 0 := by omega
           subst this; exact Nat.le_refl _
 | succ n ih =>
  by_cases e : m = n + 1
  ·subst e; exact Nat.le_refl _
  ·have := ih (by omega)
   simp only [tri]; omega
theorem tri_le {n : Nat} (h : n ≤ 128) : tri n ≤ 8256 := Nat.le_trans (tri_mono h) (by decide +kernel)
theorem sum_set {l : List (List It)} {i : Nat} {x : It} : ((l.set i (l.getD i [] ++ [x])).map List.length).sum ≤ (l.map List.length).sum + 1 := by
 induction l generalizing i with
 | nil => simp
 | cons a l ih =>
  cases i with
  | zero => simp; omega
  | succ i => simp only [List.set_cons_succ, List.map_cons, List.sum_cons]; have := @ih i; simp only [List.getD_cons_succ]; omega
theorem latesN_len (held : List (List It)) : ∀ q, q ≤ held.length → (latesN held q).length = ((held.take q).map List.length).sum := by
 intro q
 induction q with
 | zero => intro _; simp [latesN]
 | succ q ih =>
  intro hq
  rw [latesN_succ held q (by omega), List.length_append, ih (by omega), List.take_succ_eq_append_getElem (by omega), List.map_append, List.sum_append, List.map_cons, List.map_nil, List.sum_cons, List.sum_nil]
  simp only [lts, List.length_map, Nat.add_zero]
theorem latesN_mem {held : List (List It)} {q : Nat} {x : Lt} (h : x ∈ latesN held q) : ∃ l ∈ held, x.it ∈ l := by
 obtain ⟨k, _, h1⟩ := List.mem_flatMap.1 h
 obtain ⟨y, hy, rfl⟩ := List.mem_map.1 h1
 by_cases hk : k < held.length
 ·rw [getD_at hk] at hy; exact ⟨_, List.getElem_mem hk, hy⟩
 ·simp [List.getD, List.getElem?_eq_none (Nat.le_of_not_lt hk)] at hy
theorem newHeld_sum (n : Nat) : ((newHeld n).map List.length).sum = 0 := by
 unfold newHeld
 split
 ·simp [List.map_replicate, List.sum_replicate_nat]
 ·rfl
theorem offer_held (a : Al) (i : Int) (x : It) (hx : ItV x) (ha : ∀ l ∈ a.held, ∀ y ∈ l, ItV y) :
  heldN (alOffer a i x).a ≤ heldN a + 1 ∧ (∀ l ∈ (alOffer a i x).a.held, ∀ y ∈ l, ItV y) ∧ (∀ y ∈ (alOffer a i x).late, ItV y.it) ∧ ((alOffer a i x).late ≠ [] → heldN (alOffer a i x).a = 0 ∧ (alOffer a i x).late.length = heldN a) := by
 have hz : heldN alZ ≤ heldN a + 1 ∧ (∀ l ∈ alZ.held, ∀ y ∈ l, ItV y) ∧ (∀ y ∈ ([] : List Lt), ItV y.it) ∧ (([] : List Lt) ≠ [] → heldN alZ = 0 ∧ ([] : List Lt).length = heldN a) := ⟨by simp [alZ, heldN], by simp [alZ], by simp, by simp⟩
 unfold alOffer
 split
 ·exact hz
 split
 ·split
  ·exact hz
  ·refine ⟨by simp only [heldN]; exact sum_set, fun l hl y hy => ?_, by simp, by simp⟩
   rcases List.mem_or_eq_of_mem_set hl with h | rfl
   ·exact ha l h y hy
   ·rcases List.mem_append.1 hy with h | h
    ·by_cases hk : i.toNat < a.held.length
     ·rw [getD_at hk] at h; exact ha _ (List.getElem_mem hk) y h
     ·simp [List.getD, List.getElem?_eq_none (Nat.le_of_not_lt hk)] at h
    ·simp only [List.mem_singleton] at h; subst h; exact hx
 split
 ·exact ⟨Nat.le_succ _, ha, by simp, by simp⟩
 split
 ·exact hz
 split
 ·exact ⟨Nat.le_succ _, ha, by simp, by simp⟩
 ·refine ⟨by simp only [heldN, newHeld_sum]; omega, fun l hl y hy => ?_, fun y hy => ?_, fun _ => ⟨by simp only [heldN, newHeld_sum], ?_⟩⟩
  ·dsimp only [newHeld] at hl
   split at hl
   ·rw [(List.mem_replicate.1 hl).2] at hy; simp at hy
   ·simp at hl
  ·obtain ⟨l, h1, h2⟩ := latesN_mem hy
   exact ha l h1 _ h2
  ·dsimp only
   rw [latesN_len _ _ (Nat.le_refl _), List.take_length]; rfl
structure TkHd (w : Wk) (t : TkW) : Prop where
 n : heldN t.w.al ≤ heldN w.al + 1
 hv : HV t.w
 late : ∀ y ∈ t.late, ItV y.it
 all : t.late ≠ [] → heldN t.w.al = 0 ∧ t.late.length = heldN w.al ∧ t.e = 0
 told : t.told.length ≤ 100000
 one : t.late ≠ [] → t.told.length = 1
theorem fail_hd (w : Wk) (e : Int) : TkHd w (wkFail e) := ⟨by simp [wkFail, wkZ, heldN], by simp [wkFail, wkZ, HV], by simp [wkFail], by simp [wkFail], by simp [wkFail], by simp [wkFail]⟩
theorem go_hd (j : Jb) (w : Wk) (gs : List Gp) (m : Mk) (al : Al) (told : Int) (h1 : gs.length ≤ 32) (h2 : heldN al ≤ heldN w.al + 1) (h3 : ∀ l ∈ al.held, ∀ x ∈ l, ItV x) : TkHd w (wkGo j gs m al told) := by
 unfold wkGo
 split
 ·refine ⟨h2, h3, by simp, by simp, ?_, by simp⟩
  have := advT_le j (mkTell m).t gs
  dsimp only
  rw [List.length_append]
  simp
  omega
 ·exact ⟨h2, h3, by simp, by simp, by simp, by simp⟩
theorem take_hd (ok : Bool) (j : Jb) (no : Int) (w : Wk) (i : Int) (x : It) (hw : HV w) (hx : ItV x) : TkHd w (wkTake ok j no w i x) := by
 obtain ⟨a1, a2, a3, a4⟩ := offer_held w.al i x hx hw
 unfold wkTake
 split
 ·exact fail_hd _ _
 split
 ·exact fail_hd _ _
 rename_i he
 have hgl : w.gs.length ≤ 32 := by
  have h : wkR w = true := by
   cases h : wkR w
   ·exfalso; apply he; left; rw [h]; rfl
   ·rfl
  simp only [wkR, Bool.and_eq_true] at h
  exact gsR_le h.1
 split
 ·exact fail_hd _ _
 split
 ·exact ⟨a1, a2, a3, fun h => ⟨(a4 h).1, (a4 h).2, rfl⟩, by simp, by simp⟩
 split
 ·exact ⟨a1, a2, by simp, by simp, by simp, by simp⟩
 split
 ·split
  ·exact fail_hd _ _
  ·exact go_hd j w _ _ _ _ (by simp [putM]; exact hgl) a1 a2
 split
 ·exact go_hd j w _ _ _ _ hgl a1 a2
 split
 ·exact go_hd j w _ _ _ _ hgl a1 a2
 ·exact go_hd j w _ _ _ _ hgl a1 a2
theorem late_le (ok : Bool) (j : Jb) (no : Int) (w : Wk) (i : Int) (x : It) : (wkTake ok j no w i x).late.length ≤ 128 := by
 have hz : ∀ e, (wkFail e).late.length ≤ 128 := fun e => by simp [wkFail]
 have hg : ∀ gs m al told, (wkGo j gs m al told).late.length ≤ 128 := fun gs m al told => by unfold wkGo; split <;> simp
 have ho : (alOffer w.al i x).late.length ≤ 128 := by
  unfold alOffer
  split
  ·simp
  rename_i hc
  have hR : alR w.al = true := by
   cases h : alR w.al
   ·exfalso; apply hc; simp [alHas, h]
   ·rfl
  obtain ⟨b1, b2, b3, b4, b5, b6, b7, b8⟩ := alR_ok hR
  split
  ·split <;> simp
  ·split
   ·simp
   split
   ·simp
   split
   ·simp
   ·have := latesN_le (held := w.al.held) (by omega) b8 w.al.held.length (Nat.le_refl _)
    dsimp only
    omega
 unfold wkTake
 split
 ·exact hz _
 split
 ·exact hz _
 split
 ·exact hz _
 split
 ·exact ho
 split
 ·simp
 split
 ·split
  ·exact hz _
  ·exact hg _ _ _ _
 split
 ·exact hg _ _ _ _
 split
 ·exact hg _ _ _ _
 ·exact hg _ _ _ _
structure RnOk (w : Wk) (r : RnW) : Prop where
 ok : WkOk r.w
 hv : HV r.w
 n : heldN r.w.al ≤ heldN w.al + 1
 told : r.told.length + 100000 * tri (heldN r.w.al) ≤ 100000 * (tri (heldN w.al + 1) + 1)
theorem rnFail_ok (w : Wk) (e : Int) : RnOk w (rnFail e) := ⟨wkZ_ok, by simp [rnFail, wkZ, HV], by simp [rnFail, wkZ, heldN], by simp [rnFail, wkZ, heldN, tri]⟩
structure LpOk (w : Wk) (out : List It) (q : Nat) : Prop where
 ok : WkOk w
 hv : HV w
 n : heldN w.al ≤ q
 told : out.length + 100000 * tri (heldN w.al) ≤ 1 + 100000 * (tri q + q)
theorem LpOk.step {w : Wk} {out : List It} {q : Nat} {r : RnW} (h : LpOk w out q) (k : RnOk w r) : LpOk r.w (out ++ r.told) (q + 1) := by
 obtain ⟨h1, h2, h3, h4⟩ := h
 obtain ⟨k1, k2, k3, k4⟩ := k
 refine ⟨k1, k2, by omega, ?_⟩
 rw [List.length_append]
 simp only [tri] at k4 ⊢
 omega
theorem loop_ok {f : Wk → Int → It → RnW} : ∀ (l : List Lt) (w : Wk) (out : List It) (q : Nat), LpOk w out q → (∀ y ∈ l, ItV y.it) → (∀ w i x, WkOk w → HV w → ItV x → heldN w.al < q + l.length → RnOk w (f w i x)) → ((rnLoop f l w out).e = 0 ∧ LpOk (rnLoop f l w out).w (rnLoop f l w out).told (q + l.length)) ∨ ∃ e, rnLoop f l w out = rnFail e
 | [], w, out, q, h, _, _ => .inl ⟨rfl, h⟩
 | y :: l, w, out, q, h, hl, hf => by
  simp only [rnLoop]
  have hk := hf w y.input y.it h.ok h.hv (hl y (by simp)) (by have := h.n; simp only [List.length_cons]; omega)
  split
  ·exact .inr ⟨_, rfl⟩
  ·have := loop_ok l _ _ (q + 1) (h.step hk) (fun z hz => hl z (by simp [hz])) (fun w i x a b c d => hf w i x a b c (by simp only [List.length_cons]; omega))
   rw [List.length_cons, Nat.add_comm l.length 1, ← Nat.add_assoc]
   exact this
theorem start_ok {j : Jb} {w : Wk} {i : Int} {x : It} (hw : WkOk w) (hv : HV w) (hx : ItV x) (hl : (tkJ j w i x).late ≠ []) : LpOk (tkJ j w i x).w (tkJ j w i x).told 0 := by
 have h := take_hd (jobOK j.g j.s j.d j.k j.fu j.li j.de j.id) j (grpV x.key.data.toList j.g) w i x hv hx
 have h2 := take_ok (jobOK j.g j.s j.d j.k j.fu j.li j.de j.id) j (grpV x.key.data.toList j.g) w i x hw
 refine ⟨h2.w, h.hv, by rw [show heldN (tkJ j w i x).w.al = 0 from (h.all hl).1]; exact Nat.le_refl _, ?_⟩
 rw [show heldN (tkJ j w i x).w.al = 0 from (h.all hl).1, show (tkJ j w i x).told.length = 1 from h.one hl]
 simp [tri]
theorem run_ok (j : Jb) : ∀ (n : Nat) (w : Wk) (i : Int) (x : It), WkOk w → HV w → ItV x → RnOk w (wkRun j n w i x)
 | 0, w, i, x, _, _, _ => rnFail_ok w 0
 | n + 1, w, i, x, hw, hv, hx => by
  have h := take_hd (jobOK j.g j.s j.d j.k j.fu j.li j.de j.id) j (grpV x.key.data.toList j.g) w i x hv hx
  have h2 := take_ok (jobOK j.g j.s j.d j.k j.fu j.li j.de j.id) j (grpV x.key.data.toList j.g) w i x hw
  simp only [wkRun, rnT]
  split
  ·exact rnFail_ok w _
  by_cases hl : (tkJ j w i x).late = []
  ·rw [hl]
   simp only [rnLoop]
   refine ⟨h2.w, h.hv, h.n, ?_⟩
   have h3 := h.n
   have h4 := h.told
   have h5 := tri_mono h3
   show (tkJ j w i x).told.length + 100000 * tri (heldN (tkJ j w i x).w.al) ≤ _
   change (tkJ j w i x).told.length ≤ _ at h4
   change tri (heldN (tkJ j w i x).w.al) ≤ _ at h5
   omega
  ·have ho := start_ok hw hv hx hl
   rcases loop_ok (tkJ j w i x).late (tkJ j w i x).w (tkJ j w i x).told 0 ho h.late (fun w i x a b c _ => run_ok j n w i x a b c) with ⟨h3, h4⟩ | ⟨e, h3⟩
   ·obtain ⟨k1, k2, k3, k4⟩ := h4
    have hlen : (tkJ j w i x).late.length = heldN w.al := (h.all hl).2.1
    rw [hlen] at k3 k4
    refine ⟨k1, k2, by omega, ?_⟩
    simp only [tri, Nat.zero_add] at k4 ⊢
    omega
   ·rw [h3]; exact rnFail_ok w e
def inG (j : Jb) (no : Int) (v : Vl) : Bool := decide (grpV v.key.data.toList j.g = no)
def allG (j : Jb) (V : List Vl) (no : Int) : List Pn := rowV j.k (V.filter (inG j no))
def gpOf (j : Jb) (V : List Vl) (told no : Int) : Gp := ⟨no, told, dueB (allG j V no) told⟩
structure JG (j : Jb) (nos : List Int) : Prop where
 ok : jobOK j.g j.s j.d j.k j.fu j.li j.de j.id = true
 lt : nos.Pairwise (· < ·)
 rng : ∀ no ∈ nos, 0 ≤ no ∧ no < 32
structure MG (mk : List Int) : Prop where
 n1 : 1 ≤ mk.length
 n8 : mk.length ≤ 8
 rng : ∀ t ∈ mk, 0 ≤ t ∧ t ≤ 1099511627776
structure VG (k : Int) (V : List Vl) : Prop where
 ok : ∀ x ∈ V, okV k x = true
 len : V.length ≤ 900000
 few : (rowV k V).length ≤ 2000
structure WI (j : Jb) (nos : List Int) (V : List Vl) (mk : List Int) (w : Wk) : Prop where
 gs : w.gs = nos.map (gpOf j V w.told)
 mks : w.mks = ⟨mk.map fun t => (t, false), [], w.told⟩
 al : w.al = ⟨0, List.replicate mk.length false, List.replicate mk.length []⟩
 told : w.told = firstT mk
section
variable {j : Jb} {nos : List Int} {V : List Vl} {mk : List Int} {w : Wk} {no : Int}
theorem JG.job (h : JG j nos) : jobR j.s j.d j.k = true ∧ fRight j.k = true ∧ winB j.s j.d = true := by
 have := h.ok
 simp only [jobOK, Bool.and_eq_true] at this
 exact ⟨by unfold jobR; simp [this.2.2.1, this.2.2.2.1], this.2.2.2.1, this.2.2.1⟩
theorem VG.sub {k : Int} (h : VG k V) (p : Vl → Bool) : VG k (V.filter p) :=
 ⟨fun x hx => h.ok x (List.mem_filter.1 hx).1, Nat.le_trans (List.length_filter_le _ _) h.len, Nat.le_trans (row_sub p (by have := h.len; omega) h.ok) h.few⟩
theorem VG.right {k : Int} (h : VG k V) : rightL (rowV k V) = true := rowM_right h.ok (by have := h.len; omega) h.few
theorem allG_right (h : VG j.k V) (no : Int) : rightL (allG j V no) = true := (h.sub _).right
theorem sorted_row (k : Int) (vs : List Vl) : (rowV k vs).Pairwise (fun p q => ahead p q = true) := insAll_sorted List.Pairwise.nil
theorem firstT_range : ∀ (l : List Int), 0 ≤ firstT l ∧ firstT l ≤ 1099511627776 := by
 intro l
 refine rev_ind (p := fun l => 0 ≤ firstT l ∧ firstT l ≤ 1099511627776) (by decide) (fun l t ih => ?_) l
 rw [firstT_snoc]
 have := clampT_in t
 omega
theorem firstT_le : ∀ {l : List Int} {t : Int}, t ∈ l → firstT l ≤ clampT t := by
 intro l
 refine rev_ind (p := fun l => ∀ {t : Int}, t ∈ l → firstT l ≤ clampT t) (by intro t h; cases h) (fun l x ih => ?_) l
 intro t h
 rw [firstT_snoc]
 rcases List.mem_append.1 h with h | h
 ·have := ih h; omega
 ·rw [List.mem_singleton.1 h]; omega
theorem le_firstT {a : Int} (ha : a ≤ 1099511627776) : ∀ {l : List Int}, (∀ t ∈ l, a ≤ clampT t) → a ≤ firstT l := by
 intro l
 refine rev_ind (p := fun l => (∀ t ∈ l, a ≤ clampT t) → a ≤ firstT l) (fun _ => ha) (fun l x ih => ?_) l
 intro h
 rw [firstT_snoc]
 have h1 := ih fun t ht => h t (by simp [ht])
 have h2 := h x (by simp)
 omega
theorem dueB_hi {l : List Pn} {m : Int} : ∀ p ∈ dueB l m, m < p.hi := by
 intro p hp
 have := (List.mem_filter.1 hp).2
 simp at this
 exact this
theorem gp_right (hJ : JG j nos) (hV : VG j.k V) {told : Int} (ht : 0 ≤ told ∧ told ≤ 1099511627776) (hn : no ∈ nos) : grR no told (dueB (allG j V no) told) = true :=
 grR_iff.2 ⟨(hJ.rng no hn).1, (hJ.rng no hn).2, ht.1, ht.2, rightL_sub (dueB_sub _ _) (allG_right hV no), dueB_hi⟩
theorem WI.right (hJ : JG j nos) (hM : MG mk) (hV : VG j.k V) (h : WI j nos V mk w) : wkR w = true := by
 have ht := firstT_range mk
 rw [← h.told] at ht
 have h1 : gsR w.gs = true := by
  unfold gsR
  rw [List.all_eq_true]
  intro i hi
  have hi := List.mem_range.1 hi
  rw [h.gs, List.length_map] at hi
  unfold gpG
  have e : ∀ q, q < nos.length → w.gs.getD q ⟨0, 0, []⟩ = gpOf j V w.told (nos.getD q 0) := by
   intro q hq
   rw [h.gs]
   simp [List.getD, hq]
  rw [e i hi]
  have hm : nos.getD i 0 ∈ nos := by simp [List.getD, hi]
  have hg := gp_right hJ hV ht hm
  unfold gpOf
  dsimp only
  rw [hg, Bool.true_and]
  rcases Nat.eq_zero_or_pos i with h0 | h0
  ·simp [h0]
  ·rw [e (i - 1) (by omega)]
   have : nos.getD (i - 1) 0 < nos.getD i 0 := by
    have e1 : nos.getD (i - 1) 0 = nos[i - 1] := by simp [List.getD, show i - 1 < nos.length by omega]
    have e2 : nos.getD i 0 = nos[i] := by simp [List.getD, hi]
    rw [e1, e2]
    exact List.pairwise_iff_getElem.1 hJ.lt (i - 1) i (by omega) hi (by omega)
   unfold gpOf
   dsimp only
   rw [decide_eq_true this]; simp
 have h2 : mkR w.mks = true := by
  rw [h.mks]
  unfold mkR
  simp only [List.length_map, List.length_nil, List.range_zero, List.all_nil, Bool.true_and, Bool.and_eq_true, decide_eq_true_eq, List.all_map, List.all_eq_true, tmR, Function.comp]
  exact ⟨hM.n1, hM.n8, by omega, ⟨ht.1, ht.2⟩, fun t htm => hM.rng t htm⟩
 have h3 : alR w.al = true := by
  rw [h.al]
  unfold alR
  have hm8 := hM.n8
  have := hM.n1
  simp only [List.length_replicate, Bool.and_eq_true, decide_eq_true_eq]
  refine ⟨hM.n1, hM.n8, trivial, by omega, by omega, by simp, ?_, ?_⟩
  ·simp [List.any_replicate]
   intro e
   rw [e] at this
   simp_all
  ·rw [List.all_eq_true]
   intro q hq
   have hq := List.mem_range.1 hq
   unfold heG
   simp [List.getD, hq]
 have e1 : w.mks.hs.length = 0 := by rw [h.mks]; rfl
 have e2 : w.al.got.length = w.mks.ins.length := by rw [h.mks, h.al]; simp
 unfold wkR
 rw [h1, h2, h3, decide_eq_true e1, decide_eq_true e2, decide_eq_true ht.1, decide_eq_true ht.2]
 rfl
theorem al_pass (hM : MG mk) (h : WI j nos V mk w) (hR : wkR w = true) {q : Nat} (hq : q < mk.length) {x : It} (hx : itR x = true) (h4 : x.kind ≠ 4) : alOffer w.al (q : Int) x = ⟨w.al, true, 0, [], 0⟩ := by
 have hal : alR w.al = true := by
  unfold wkR at hR
  simp only [Bool.and_eq_true] at hR
  exact hR.2.2.2.1
 have hhas : alHas w.al (q : Int) = true := by
  unfold alHas
  rw [hal, h.al]
  simp only [List.length_replicate, Bool.true_and, Bool.and_eq_true, decide_eq_true_eq]
  omega
 have hg : w.al.got.getD (q : Int).toNat false = false := by
  rw [h.al]
  simp [List.getD, hq]
 unfold alOffer
 rw [hhas, hx, hg, if_neg (by simp), if_neg (by simp), if_pos h4]
theorem mk_set (hM : MG mk) (h : WI j nos V mk w) (hR : wkR w = true) {q : Nat} (hq : q < mk.length) (t : Int) : mkSet w.mks (q : Int) t = ⟨⟨(mk.set q (max mk[q] (clampT t))).map fun t => (t, false), [], w.told⟩, 0⟩ := by
 have hm : mkR w.mks = true := by
  unfold wkR at hR
  simp only [Bool.and_eq_true] at hR
  exact hR.2.1
 have hin : mkIn w.mks (q : Int) = true := by
  unfold mkIn
  rw [hm, h.mks]
  simp only [List.length_map, Bool.true_and, Bool.and_eq_true, decide_eq_true_eq]
  omega
 unfold mkSet
 rw [hin, if_neg (by simp), h.mks]
 unfold mkPut
 simp [List.getD, hq, List.map_set]
theorem mk_tell {mk' : List Int} {told : Int} (hM : MG mk') (ht : 0 ≤ told ∧ told ≤ 1099511627776) : mkTell ⟨mk'.map fun t => (t, false), [], told⟩ = if firstT mk' ≤ told then ⟨⟨mk'.map fun t => (t, false), [], told⟩, told, false⟩ else ⟨⟨mk'.map fun t => (t, false), [], firstT mk'⟩, firstT mk', true⟩ := by
 have hm : mkR ⟨mk'.map fun t => (t, false), [], told⟩ = true := by
  unfold mkR
  simp only [List.length_map, List.length_nil, List.range_zero, List.all_nil, Bool.true_and, Bool.and_eq_true, decide_eq_true_eq, List.all_map, List.all_eq_true, tmR, Function.comp]
  exact ⟨hM.n1, hM.n8, by omega, ⟨ht.1, ht.2⟩, fun t htm => hM.rng t htm⟩
 have hb : backI (mk'.map fun t => (t, false)) = mk' := by
  unfold backI
  rw [List.filter_eq_self.2 (by intro a ha; obtain ⟨t, _, rfl⟩ := List.mem_map.1 ha; rfl), List.map_map]
  exact List.map_id' mk'
 have hne : mk' ≠ [] := by
  intro e
  have := hM.n1
  rw [e] at this; simp at this
 unfold mkTell
 rw [hm, if_neg (by simp), hb]
 show (if mk' ++ backH [] = [] ∨ firstT (mk' ++ backH []) ≤ told then _ else _) = _
 have e0 : backH ([] : List (Int × Int)) = [] := rfl
 rw [e0, List.append_nil]
 by_cases hf : firstT mk' ≤ told
 ·rw [if_pos (.inr hf), if_pos hf]
 ·rw [if_neg (by intro h; rcases h with h | h; exact hne h; exact hf h), if_neg hf]
theorem MG.set (hM : MG mk) {q : Nat} (hq : q < mk.length) (t : Int) : MG (mk.set q (max mk[q] (clampT t))) := by
 refine ⟨by rw [List.length_set]; exact hM.n1, by rw [List.length_set]; exact hM.n8, fun x hx => ?_⟩
 rcases List.mem_or_eq_of_mem_set hx with h | h
 ·exact hM.rng x h
 ·have := hM.rng _ (List.getElem_mem hq)
  have h2 := clampT_in t
  rw [h]
  unfold clampT at *
  omega
theorem set_mono (hM : MG mk) {q : Nat} (hq : q < mk.length) (t : Int) : firstT mk ≤ firstT (mk.set q (max mk[q] (clampT t))) := by
 refine le_firstT (firstT_range mk).2 fun x hx => ?_
 have hx2 := (hM.set hq t).rng x hx
 have hc : clampT x = x := by unfold clampT; omega
 rw [hc]
 rcases List.mem_or_eq_of_mem_set hx with h | h
 ·have := firstT_le h; rw [hc] at this; exact this
 ·have h1 := firstT_le (List.getElem_mem hq)
  have h3 := hM.rng _ (List.getElem_mem hq)
  have hc2 : clampT mk[q] = mk[q] := by unfold clampT; omega
  rw [hc2] at h1
  omega
end
section
variable {j : Jb} {nos : List Int} {V : List Vl} {mk : List Int} {w : Wk} {no : Int} {e : Et} {s d k : Int}
theorem VG.pre {W : List Vl} (h : VG k (V ++ W)) : VG k V :=
 ⟨fun x hx => h.ok x (by simp [hx]), by have := h.len; rw [List.length_append] at this; omega, Nat.le_trans rowM_mono h.few⟩
theorem vals_key : ∀ v ∈ valsV s d e, v.key = e.key := by
 intro v hv
 obtain ⟨w, _, rfl⟩ := List.mem_map.1 hv
 rfl
theorem vals_hi (h : okT s d e.at' = true) : ∀ v ∈ valsV s d e, e.at' < v.hi := by
 intro v hv
 obtain ⟨w, hw, rfl⟩ := List.mem_map.1 hv
 exact ((win_holds h h hw).1 hw).2
theorem open_all (h : okT s d e.at' = true) {told : Int} (ht : told ≤ e.at') : openL s d e.at' told = winL s d e.at' := by
 unfold openL openW
 refine List.filter_eq_self.2 fun w hw => ?_
 have := ((win_holds h h hw).1 hw).2
 simp [closedW]
 omega
theorem inG_vals (hno : grpV e.key.data.toList j.g = no) : ∀ v ∈ valsV s d e, inG j no v = true := by
 intro v hv
 unfold inG
 rw [vals_key v hv, hno]; simp
theorem inG_other {no' : Int} (hno : grpV e.key.data.toList j.g = no) (hne : no' ≠ no) : ∀ v ∈ valsV s d e, inG j no' v = false := by
 intro v hv
 unfold inG
 rw [vals_key v hv, hno]
 simp [Ne.symm hne]
theorem filter_none' {α : Type} {p : α → Bool} {l : List α} (h : ∀ x ∈ l, p x = false) : l.filter p = [] := by
 rw [List.filter_eq_nil_iff]
 intro x hx; rw [h x hx]; simp
theorem filter_all' {α : Type} {p : α → Bool} {l : List α} (h : ∀ x ∈ l, p x = true) : l.filter p = l := List.filter_eq_self.2 h
theorem take_gp (hJ : JG j nos) (hV : VG j.k (V ++ valsV j.s j.d e)) (he : evR e.key e.at' = true) (hno : grpV e.key.data.toList j.g = no) (hn : no ∈ nos) {told : Int} (ht : 0 ≤ told ∧ told ≤ 1099511627776) (hat : told ≤ e.at') :
  (gpTake j (evItem e) (gpOf j V told no)).gp = gpOf j (V ++ valsV j.s j.d e) told no ∧ (gpTake j (evItem e) (gpOf j V told no)).e = 0 := by
 obtain ⟨hj, hk, hw⟩ := hJ.job
 have hT := okT_of hw he
 have hV0 := hV.pre
 have hg := gp_right hJ hV0 ht hn
 have hX : dueB (allG j V no) told = rowV j.k ((V.filter (inG j no)).filter fun v => !decide (v.hi ≤ told)) := dueB_row _ _
 have hY : dueB (allG j (V ++ valsV j.s j.d e) no) told = rowV j.k ((V.filter (inG j no)).filter (fun v => !decide (v.hi ≤ told)) ++ valsV j.s j.d e) := by
  unfold allG
  rw [dueB_row, List.filter_append, List.filter_append, filter_all' (inG_vals (j := j) hno), filter_all' (l := valsV j.s j.d e)]
  intro v hv
  have := vals_hi hT v hv
  simp; omega
 have hsub : VG j.k ((V.filter (inG j no)).filter (fun v => !decide (v.hi ≤ told)) ++ valsV j.s j.d e) := by
  have h1 := (hV.sub (inG j no)).sub (fun v => !decide (v.hi ≤ told))
  rw [List.filter_append, List.filter_append, filter_all' (inG_vals (j := j) hno), filter_all' (l := valsV j.s j.d e)] at h1
  ·exact h1
  ·intro v hv
   have := vals_hi hT v hv
   simp; omega
 have hT2 := take_row (s := j.s) (d := j.d) (e := e) (vs := (V.filter (inG j no)).filter fun v => !decide (v.hi ≤ told)) hk hw he hsub.pre.ok hsub.pre.len hsub.pre.few
 rw [if_pos hsub.few] at hT2
 have hres : gpTake j (evItem e) (gpOf j V told no) = ⟨no, told, dueB (allG j (V ++ valsV j.s j.d e) no) told, (winL j.s j.d e.at').length, 0⟩ := by
  unfold gpTake evItem gpOf takeR
  dsimp only
  rw [hj, if_neg (by simp), hg, he, if_neg (by simp), open_all hT hat, hX, hT2, if_pos rfl, hY]
 rw [hres]
 exact ⟨rfl, rfl⟩
theorem groups_put (hJ : JG j nos) (hV : VG j.k (V ++ valsV j.s j.d e)) (he : evR e.key e.at' = true) (hno : grpV e.key.data.toList j.g = no) (hn : no ∈ nos) {told : Int} (ht : 0 ≤ told ∧ told ≤ 1099511627776) (hat : told ≤ e.at') (hR : gsR (nos.map (gpOf j V told)) = true) :
  putM j no (evItem e) (nos.map (gpOf j V told)) = nos.map (gpOf j (V ++ valsV j.s j.d e) told) ∧ putB j no (evItem e) (nos.map (gpOf j V told)) = 0 := by
 obtain ⟨t1, t2⟩ := take_gp hJ hV he hno hn ht hat
 constructor
 ·unfold putM
  rw [List.map_map]
  refine List.map_congr_left fun n' hn' => ?_
  show (if (gpOf j V told n').no = no then (gpTake j (evItem e) (gpOf j V told n')).gp else gpOf j V told n') = _
  by_cases h : n' = no
  ·subst h
   rw [show (gpOf j V told n').no = n' from rfl, if_pos rfl, t1]
  ·rw [show (gpOf j V told n').no = n' from rfl, if_neg h]
   unfold gpOf allG
   rw [List.filter_append, filter_none' (inG_other (j := j) hno h), List.append_nil]
 ·obtain ⟨p, hp, hpe⟩ := List.getElem_of_mem hn
  have hq : p < (nos.map (gpOf j V told)).length := by rw [List.length_map]; exact hp
  have h1 := (put_at (j := j) (no := no) (x := evItem e) hR hq (by rw [List.getElem_map]; exact hpe)).2
  rw [h1, List.getElem_map, hpe, t2]
theorem itR_ev (he : evR e.key e.at' = true) : itR (evItem e) = true := by
 unfold itR evItem
 simp [he, noR]
theorem ev_step (hJ : JG j nos) (hM : MG mk) (hV : VG j.k (V ++ valsV j.s j.d e)) (h : WI j nos V mk w) (he : evR e.key e.at' = true) (hn : grpV e.key.data.toList j.g ∈ nos) {q : Nat} (hq : q < mk.length) (hat : w.told ≤ e.at') (n : Nat) :
  ∃ w', wkRun j (n + 1) w (q : Int) (evItem e) = ⟨w', [], 0⟩ ∧ WI j nos (V ++ valsV j.s j.d e) mk w' ∧ w'.told = w.told := by
 have hR := h.right hJ hM hV.pre
 have ht := firstT_range mk
 rw [← h.told] at ht
 have hgs : gsR (nos.map (gpOf j V w.told)) = true := by
  have := hR
  unfold wkR at this
  simp only [Bool.and_eq_true] at this
  rw [← h.gs]; exact this.1
 obtain ⟨p1, p2⟩ := groups_put hJ hV he rfl hn ht hat hgs
 have hal := al_pass hM h hR hq (itR_ev he) (show (1 : Int) ≠ 4 by decide)
 have hms := mk_set hM h hR hq 0
 have hm0 : max mk[q] (clampT 0) = mk[q] := by
  have := hM.rng _ (List.getElem_mem hq)
  unfold clampT; omega
 rw [hm0, List.set_getElem_self] at hms
 have htl := mk_tell (told := w.told) hM ht
 rw [if_pos (by rw [h.told]; exact Int.le_refl _)] at htl
 refine ⟨⟨nos.map (gpOf j (V ++ valsV j.s j.d e) w.told), ⟨mk.map fun t => (t, false), [], w.told⟩, w.al, w.told⟩, ?_, ⟨rfl, rfl, h.al, h.told⟩, rfl⟩
 have hk1 : (evItem e).kind = 1 := rfl
 have hTk : tkJ j w (q : Int) (evItem e) = ⟨⟨nos.map (gpOf j (V ++ valsV j.s j.d e) w.told), ⟨mk.map fun t => (t, false), [], w.told⟩, w.al, w.told⟩, [], [], 0⟩ := by
  unfold tkJ wkTake
  rw [hJ.ok, if_neg (by simp), hR, itR_ev he, if_neg (by rw [hk1]; simp), hal]
  dsimp only
  rw [if_neg (by simp), if_neg (by simp), if_neg (by simp), if_pos hk1]
  rw [show (evItem e).key = e.key from rfl, h.gs, p1, p2, if_neg (by simp), hms]
  unfold wkGo
  dsimp only
  rw [htl]
  rfl
 rw [wkRun, hTk]
 rfl
def toldG (j : Jb) (nos : List Int) (V : List Vl) (told t : Int) : List It := nos.flatMap fun no => (resultsL j.k (dueA (dueB (allG j V no) told) t)).map resItem
theorem mk_step (hJ : JG j nos) (hM : MG mk) (hV : VG j.k V) (h : WI j nos V mk w) {q : Nat} (hq : q < mk.length) {t : Int} (ht : 0 ≤ t ∧ t ≤ 1099511627776) (n : Nat) :
  ∃ w', wkRun j (n + 1) w (q : Int) (markItem t) = ⟨w', if w.told < w'.told then toldG j nos V w.told w'.told ++ [markItem w'.told] else [], 0⟩ ∧ WI j nos V (mk.set q (max mk[q] t)) w' ∧ w.told ≤ w'.told := by
 have hR := h.right hJ hM hV
 have hr := firstT_range mk
 rw [← h.told] at hr
 have hct : clampT t = t := by unfold clampT; omega
 have hms := mk_set hM h hR hq t
 have hM' := hM.set hq t
 have hmo := set_mono hM hq t
 rw [hct] at hms hM' hmo
 have hit : itR (markItem t) = true := by
  unfold itR markItem
  simp [noR, noE, ht.1, ht.2]
 have hal := al_pass hM h hR hq hit (show (2 : Int) ≠ 4 by decide)
 have htl := mk_tell (told := w.told) hM' hr
 rw [← h.told] at hmo
 have hk2 : (markItem t).kind = 2 := rfl
 have hlen : (mk.set q (max mk[q] t)).length = mk.length := List.length_set
 generalize hmk : mk.set q (max mk[q] t) = mk' at *
 by_cases hf : firstT mk' ≤ w.told
 ·rw [if_pos hf] at htl
  have he : w.told = firstT mk' := by omega
  refine ⟨⟨w.gs, ⟨mk'.map fun t => (t, false), [], w.told⟩, w.al, w.told⟩, ?_, ⟨h.gs, rfl, by rw [hlen]; exact h.al, he⟩, Int.le_refl _⟩
  dsimp only
  rw [if_neg (Int.lt_irrefl _)]
  have hTk : tkJ j w (q : Int) (markItem t) = ⟨⟨w.gs, ⟨mk'.map fun t => (t, false), [], w.told⟩, w.al, w.told⟩, [], [], 0⟩ := by
   unfold tkJ wkTake
   rw [hJ.ok, if_neg (by simp), hR, hit, if_neg (by rw [hk2]; simp), hal]
   dsimp only
   rw [if_neg (by simp), if_neg (by simp), if_neg (by simp), if_neg (by rw [hk2]; decide), if_pos hk2]
   rw [show (markItem t).mark = t from rfl, hms]
   unfold wkGo
   dsimp only
   rw [htl]
   rfl
  rw [wkRun, hTk]
  rfl
 ·rw [if_neg hf] at htl
  obtain ⟨hj, hk, _⟩ := hJ.job
  have hfr := firstT_range mk'
  generalize hT : firstT mk' = T at *
  have hadv : ∀ no ∈ nos, gpAdv j T (gpOf j V w.told no) = ⟨no, T, dueB (allG j V no) T, resultsL j.k (dueA (dueB (allG j V no) w.told) T), 0⟩ := by
   intro no hn
   have hg := gp_right hJ hV hr hn
   have hrt := (grR_iff.1 hg).2.2.2.2.1
   have hmin : min T 1099511627776 = T := by omega
   unfold gpAdv gpOf adv
   dsimp only
   rw [hj, if_neg (by simp), hg, if_neg (by simp), if_neg (by omega), hmin]
   unfold dueRB dueRA
   rw [if_pos hrt, if_pos hrt, dueB_dueB _ (by omega)]
  refine ⟨⟨nos.map (gpOf j V T), ⟨mk'.map fun t => (t, false), [], T⟩, w.al, T⟩, ?_, ⟨rfl, rfl, by rw [hlen]; exact h.al, hT.symm⟩, by dsimp only; omega⟩
  dsimp only
  rw [if_pos (by omega)]
  have e1 : advM j T w.gs = nos.map (gpOf j V T) := by
   unfold advM
   rw [h.gs, List.map_map]
   refine List.map_congr_left fun no hn => ?_
   show (gpAdv j T (gpOf j V w.told no)).gp = _
   rw [hadv no hn]; rfl
  have e2 : advT j T w.gs = toldG j nos V w.told T := by
   unfold advT toldG
   rw [h.gs, List.flatMap_map]
   rw [List.flatMap_def, List.flatMap_def]
   refine congrArg List.flatten (List.map_congr_left fun no hn => ?_)
   rw [hadv no hn]
  have hTk : tkJ j w (q : Int) (markItem t) = ⟨⟨nos.map (gpOf j V T), ⟨mk'.map fun t => (t, false), [], T⟩, w.al, T⟩, toldG j nos V w.told T ++ [markItem T], [], 0⟩ := by
   unfold tkJ wkTake
   rw [hJ.ok, if_neg (by simp), hR, hit, if_neg (by rw [hk2]; simp), hal]
   dsimp only
   rw [if_neg (by simp), if_neg (by simp), if_neg (by simp), if_neg (by rw [hk2]; decide), if_pos hk2]
   rw [show (markItem t).mark = t from rfl, hms]
   unfold wkGo
   dsimp only
   rw [htl]
   dsimp only
   rw [if_pos rfl, e1, e2]
  rw [wkRun, hTk]
  rfl
end
structure Src where
 es : List Et
 n : Nat
 en : Bool
def Src.sr (de : Int) (s : Src) : Sr := ⟨s.es, s.n, markE de 0 (s.es.take s.n), 0, s.en⟩
def Src.mk' (de : Int) (s : Src) : Int := if s.en = true then 1099511627776 else markE de 0 (s.es.take s.n)
structure SrcOk (s : Src) : Prop where
 n : s.n ≤ s.es.length
 en : s.en = true → s.n = s.es.length
 ev : ∀ e ∈ s.es, evR e.key e.at' = true
 len : s.es.length ≤ 200
section
variable {li fu de : Int} {s : Src} {ss : List Src}
theorem ev_at {k : ByteArray} {t : Int} (h : evR k t = true) : 0 ≤ t ∧ t < 1099511627776 := by
 unfold evR at h
 simp only [Bool.and_eq_true, decide_eq_true_eq] at h
 exact h.2
theorem subT_lt {t : Int} (h : 0 ≤ t ∧ t < 1099511627776) (hd : 0 ≤ de) : 0 ≤ subT t de ∧ subT t de < 1099511627776 := by
 unfold subT clampT
 omega
theorem markE_lt (hd : 0 ≤ de) : ∀ {es : List Et} {m : Int}, 0 ≤ m ∧ m < 1099511627776 → (∀ e ∈ es, evR e.key e.at' = true) → 0 ≤ markE de m es ∧ markE de m es < 1099511627776
 | [], m, hm, _ => hm
 | e :: es, m, hm, h => by
  have h1 := subT_lt (ev_at (h e (by simp))) hd
  exact markE_lt hd (es := es) (m := max m (subT e.at' de)) (by omega) fun x hx => h x (by simp [hx])
theorem SrcOk.mark (h : SrcOk s) (hd : 0 ≤ de) : 0 ≤ markE de 0 (s.es.take s.n) ∧ markE de 0 (s.es.take s.n) < 1099511627776 :=
 markE_lt hd ⟨by omega, by omega⟩ fun e he => h.ev e (List.mem_of_mem_take he)
theorem SrcOk.mk_in (h : SrcOk s) (hd : 0 ≤ de) : 0 ≤ s.mk' de ∧ s.mk' de ≤ 1099511627776 := by
 have := h.mark hd
 unfold Src.mk'
 split <;> omega
theorem SrcOk.right (h : SrcOk s) (hd : 0 ≤ de) : srR (s.sr de) = true := by
 have h1 := h.mark hd
 have h2 := h.n
 have h3 := h.len
 have ho : okIn [s.es] = true := by
  unfold okIn okEs
  simp [h3, h.ev]
  exact fun e he => h.ev e he
 unfold srR Src.sr
 dsimp only
 rw [ho]
 simp only [Bool.true_and, Bool.and_eq_true, decide_eq_true_eq, Bool.or_eq_true, Bool.not_eq_true']
 refine ⟨by omega, by omega, h1.1, by omega, by omega, by omega, ?_⟩
 cases he : s.en
 ·exact .inl rfl
 ·exact .inr (by rw [h.en he])
theorem set_flat {α β : Type} (f : α → List β) : ∀ {l : List α} {q : Nat} {x y : α} {z : List β}, l[q]? = some x → f y = f x ++ z → ((l.set q y).flatMap f).Perm (l.flatMap f ++ z)
 | [], _, _, _, _, h, _ => by simp at h
 | a :: l, 0, x, y, z, h, he => by
  simp only [List.getElem?_cons_zero, Option.some.injEq] at h
  subst h
  rw [List.set_cons_zero, List.flatMap_cons, List.flatMap_cons, he, List.append_assoc, List.append_assoc]
  exact List.Perm.append_left _ List.perm_append_comm
 | a :: l, q + 1, x, y, z, h, he => by
  rw [List.set_cons_succ, List.flatMap_cons, List.flatMap_cons, List.append_assoc]
  exact List.Perm.append_left _ (set_flat f (by simpa using h) he)
end
theorem goV_rng (lim : Int) : ∀ (f : Nat) (v : Int) (n : Nat), (-9223372036854775808 ≤ v ∧ v ≤ 9223372036854775807) → (-9223372036854775808 ≤ (goV lim f v n).1 ∧ (goV lim f v n).1 ≤ 9223372036854775807)
 | 0, v, n, h => h
 | f + 1, v, n, h => by
  unfold goV
  split
  ·exact h
  ·exact goV_rng lim f _ _ (halfI_range h)
theorem WI.okk {j : Jb} {nos : List Int} {V : List Vl} {mk : List Int} {w : Wk} (hJ : JG j nos) (hM : MG mk) (hV : VG j.k V) (h : WI j nos V mk w) : WkOk w ∧ HV w ∧ heldN w.al < 1 := by
 have hn : nos.length ≤ 9223372036854775807 := by
  refine Classical.byContradiction fun hc => ?_
  have h0 : ∀ i, (hi : i < nos.length) → (i : Int) ≤ nos[i] := by
   intro i
   induction i with
   | zero => intro hi; exact (hJ.rng _ (List.getElem_mem hi)).1
   | succ i ih =>
    intro hi
    have h1 := ih (by omega)
    have h2 := List.pairwise_iff_getElem.1 hJ.lt i (i + 1) (by omega) hi (by omega)
    omega
  have := h0 32 (by omega)
  have := (hJ.rng _ (List.getElem_mem (show 32 < nos.length by omega))).2
  omega
 have hm8 := hM.n8
 refine ⟨⟨?_, ?_, ?_, ?_, ?_, ?_, ?_⟩, ?_, ?_⟩
 ·rw [h.gs, List.length_map]; exact hn
 ·intro g hg
  rw [h.gs] at hg
  obtain ⟨no, _, rfl⟩ := List.mem_map.1 hg
  have h1 : (dueB (allG j V no) w.told).length ≤ (allG j V no).length := List.length_filter_le _ _
  have h2 := (hV.sub (inG j no)).few
  show (dueB (allG j V no) w.told).length ≤ _
  unfold allG at *
  omega
 ·rw [h.mks]; simp; omega
 ·rw [h.mks]; simp
 ·rw [h.al]; simp; omega
 ·rw [h.al]; simp; omega
 ·intro l hl
  rw [h.al] at hl
  have := List.eq_of_mem_replicate hl
  subst this; simp
 ·intro l hl x hx
  rw [h.al] at hl
  have := List.eq_of_mem_replicate hl
  subst this; simp at hx
 ·rw [h.al]
  unfold heldN
  simp
structure TG (j : Jb) (nos : List Int) (T : List Et) : Prop where
 jg : JG j nos
 all : ∀ e ∈ T, grpV e.key.data.toList j.g ∈ nos
 ev : ∀ e ∈ T, evR e.key e.at' = true
 len : T.length ≤ 1000
 few : (rowV j.k (allVals j.s j.d T)).length ≤ 2000
section
variable {j : Jb} {nos : List Int} {T K R : List Et} {mk : List Int} {w : Wk} {ss : List Src} {s : Src} {q : Nat}
theorem TG.vg (h : TG j nos T) (hp : T.Perm (K ++ R)) : VG j.k (allVals j.s j.d K) := by
 obtain ⟨_, hk, hw⟩ := h.jg.job
 have hmem : ∀ e ∈ K, e ∈ T := fun e he => hp.mem_iff.2 (by simp [he])
 have hlen : K.length + R.length = T.length := by rw [hp.length_eq, List.length_append]
 have hl := h.len
 have h1 := allVals_len (s := j.s) (d := j.d) (es := K)
 have h2 := allVals_len (s := j.s) (d := j.d) (es := T)
 refine ⟨allVals_ok hk hw fun e he => h.ev e (hmem e he), by omega, ?_⟩
 have hp2 : (allVals j.s j.d T).Perm (allVals j.s j.d K ++ allVals j.s j.d R) := by
  unfold allVals
  rw [← List.flatMap_append]
  exact hp.flatMap_right _
 have := h.few
 rw [rowM_perm hp2 (by omega) (allVals_ok hk hw h.ev)] at this
 exact Nat.le_trans rowM_mono this
theorem firstT_end {l : List Int} (h : ∀ t ∈ l, 0 ≤ t ∧ t ≤ 1099511627776) : firstT l = 1099511627776 ↔ ∀ t ∈ l, t = 1099511627776 := by
 constructor
 ·intro he t ht
  have h1 := firstT_le ht
  have h2 := h t ht
  unfold clampT at h1
  omega
 ·intro he
  have h1 := le_firstT (a := 1099511627776) (by omega) (l := l) fun t ht => by rw [he t ht]; decide
  have := firstT_range l
  omega
theorem firstT_under {l : List Int} (h : ∀ t ∈ l, 0 ≤ t ∧ t ≤ 1099511627776) : ∀ t ∈ l, firstT l ≤ t := by
 intro t ht
 have h1 := firstT_le ht
 have h2 := h t ht
 unfold clampT at h1
 omega
structure Rn (j : Jb) (ss : List Src) (T : List Et) : Prop where
 ok : ∀ s ∈ ss, SrcOk s
 n1 : 1 ≤ ss.length
 n8 : ss.length ≤ 8
 de : 0 ≤ j.de
 all : T = allK j.li j.fu j.de (ss.map Src.es)
theorem Rn.mg (h : Rn j ss T) : MG (ss.map (Src.mk' j.de)) := by
 refine ⟨by rw [List.length_map]; exact h.n1, by rw [List.length_map]; exact h.n8, fun t ht => ?_⟩
 obtain ⟨s, hs, rfl⟩ := List.mem_map.1 ht
 exact (h.ok s hs).mk_in h.de
theorem Rn.set (h : Rn j ss T) (hs : ss[q]? = some s) {s' : Src} (he : s'.es = s.es) (hk : SrcOk s') : Rn j (ss.set q s') T := by
 refine ⟨fun x hx => ?_, by rw [List.length_set]; exact h.n1, by rw [List.length_set]; exact h.n8, h.de, ?_⟩
 ·rcases List.mem_or_eq_of_mem_set hx with hx | rfl
  ·exact h.ok x hx
  ·exact hk
 ·have e : (ss.set q s').map Src.es = ss.map Src.es := by
   rw [List.map_set, he]
   obtain ⟨hq, rfl⟩ := List.getElem?_eq_some_iff.1 hs
   have : (ss[q]).es = (ss.map Src.es)[q]'(by rw [List.length_map]; exact hq) := by simp
   rw [this, List.set_getElem_self]
  rw [e]; exact h.all
theorem start (hJ : JG j nos) {n : Nat} (h1 : 1 ≤ n) (h8 : n ≤ 8) : WI j nos [] (List.replicate n 0) ⟨nos.map (gpOf j [] 0), ⟨newIns n, [], 0⟩, ⟨0, newGot n, newHeld n⟩, 0⟩ ∧ newW true n (nos.map (gpOf j [] 0)) = ⟨⟨nos.map (gpOf j [] 0), ⟨newIns n, [], 0⟩, ⟨0, newGot n, newHeld n⟩, 0⟩, 0⟩ := by
 have hM : MG (List.replicate n 0) := ⟨by simp; omega, by simp; omega, fun t ht => by rw [List.eq_of_mem_replicate ht]; omega⟩
 have hf : firstT (List.replicate n 0) = 0 := by
  have h2 := firstT_le (l := List.replicate n 0) (t := 0) (by rw [List.mem_replicate]; omega)
  have h3 := firstT_range (List.replicate n 0)
  unfold clampT at h2
  omega
 have hW : WI j nos [] (List.replicate n 0) ⟨nos.map (gpOf j [] 0), ⟨newIns n, [], 0⟩, ⟨0, newGot n, newHeld n⟩, 0⟩ := by
  refine ⟨rfl, ?_, ?_, hf.symm⟩
  ·unfold newIns
   rw [if_pos (by omega)]
   simp
  ·unfold newGot newHeld
   rw [if_pos (by omega), if_pos (by omega)]
   simp
 refine ⟨hW, ?_⟩
 have hV : VG j.k [] := ⟨by simp, by simp, by simp [rowV, insAll]⟩
 have hr := hW.right hJ hM hV
 unfold wkR at hr
 simp only [Bool.and_eq_true] at hr
 unfold newW
 rw [if_neg (by simp), if_pos ⟨by omega, by omega, hr.1⟩]
end
def evsI (l : List It) : List Et := l.filterMap fun x => if x.kind = 1 then some ⟨x.key, x.at', x.val⟩ else none
def mkI (l : List It) : Int := l.foldl (fun m x => if x.kind = 2 then x.mark else m) 0
def ev64 (e : Et) : Prop := -9223372036854775808 ≤ e.v ∧ e.v ≤ 9223372036854775807
def RowOk (row : List It) : Prop := ∀ d x r, row = d ++ x :: r → (∃ e : Et, x = evItem e ∧ evR e.key e.at' = true ∧ mkI d ≤ e.at' ∧ ev64 e) ∨ (∃ t : Int, x = markItem t ∧ mkI d ≤ t ∧ t ≤ 1099511627776)
section
variable {j : Jb} {nos : List Int} {V : List Vl} {mk : List Int} {w : Wk} {d r : List It} {x : It} {e : Et} {t : Int}
theorem evsI_app : evsI (d ++ r) = evsI d ++ evsI r := List.filterMap_append
theorem evsI_ev : evsI (d ++ [evItem e]) = evsI d ++ [e] := by rw [evsI_app]; rfl
theorem evsI_mk : evsI (d ++ [markItem t]) = evsI d := by rw [evsI_app]; show evsI d ++ [] = _; rw [List.append_nil]
theorem mkI_ev : mkI (d ++ [evItem e]) = mkI d := by unfold mkI; rw [List.foldl_append]; rfl
theorem mkI_mk : mkI (d ++ [markItem t]) = t := by unfold mkI; rw [List.foldl_append]; rfl
theorem RowOk.pre (h : RowOk (d ++ r)) : RowOk d := fun a y b hy => h a y (b ++ r) (by rw [hy]; simp)
theorem mkI_rng (h : RowOk d) : 0 ≤ mkI d ∧ mkI d ≤ 1099511627776 := by
 refine rev_ind (p := fun d => RowOk d → 0 ≤ mkI d ∧ mkI d ≤ 1099511627776) (fun _ => by decide) (fun l x ih hl => ?_) d h
 have h1 := ih hl.pre
 rcases hl l x [] rfl with ⟨e, rfl, _, _, _⟩ | ⟨t, rfl, h2, h3⟩
 ·rw [mkI_ev]; exact h1
 ·rw [mkI_mk]; omega
def outD (j : Jb) (nos : List Int) (V : List Vl) (t : Int) : List Rs := nos.flatMap fun no => resultsL j.k (dueA (allG j V no) t)
theorem VG.perm {k : Int} {V W : List Vl} (h : VG k V) (hp : V.Perm W) : VG k W :=
 ⟨fun x hx => h.ok x (hp.mem_iff.2 hx), by rw [← hp.length_eq]; exact h.len, by rw [← rowM_perm hp (by have := h.len; omega) h.ok]; exact h.few⟩
theorem allG_perm {W : List Vl} (h : VG j.k V) (hp : V.Perm W) (no : Int) : allG j V no = allG j W no :=
 rowM_perm (hp.filter _) (by have := h.len; have := List.length_filter_le (inG j no) V; omega) fun x hx => h.ok x (List.mem_filter.1 hx).1
theorem outD_perm {W : List Vl} (h : VG j.k V) (hp : V.Perm W) (t : Int) : outD j nos V t = outD j nos W t := by
 unfold outD
 simp only [allG_perm h hp]
theorem WI.perm {W : List Vl} (h : WI j nos V mk w) (hV : VG j.k V) (hp : V.Perm W) : WI j nos W mk w := by
 refine ⟨?_, h.mks, h.al, h.told⟩
 rw [h.gs]
 refine List.map_congr_left fun no _ => ?_
 unfold gpOf
 rw [allG_perm hV hp]
theorem outD_ev (hT : okT j.s j.d e.at' = true) {told : Int} (h : told ≤ e.at') : outD j nos (V ++ valsV j.s j.d e) told = outD j nos V told := by
 unfold outD allG
 congr 1
 funext no
 rw [dueA_row, dueA_row, List.filter_append, List.filter_append]
 have : (List.filter (inG j no) (valsV j.s j.d e)).filter (fun v => decide (v.hi ≤ told)) = [] := by
  rw [List.filter_eq_nil_iff]
  intro v hv
  have := vals_hi hT v (List.mem_filter.1 hv).1
  simp; omega
 rw [this, List.append_nil]
theorem outD_step (hV : VG j.k V) {t u : Int} (h : t ≤ u) : (outD j nos V t ++ nos.flatMap fun no => resultsL j.k (dueA (dueB (allG j V no) t) u)).Perm (outD j nos V u) := by
 have key : ∀ no : Int, resultsL j.k (dueA (allG j V no) u) = resultsL j.k (dueA (allG j V no) t) ++ resultsL j.k (dueA (dueB (allG j V no) t) u) := fun no => by
  have hr := allG_right hV no
  exact (resultsL_app (rightL_sub (dueA_sub _ _) hr) (rightL_sub ((dueA_sub _ _).trans (dueB_sub _ _)) hr) (rightL_sub (dueA_sub _ _) hr) (dueA_steps h _ (sorted_row _ _))).symm
 unfold outD
 simp only [key]
 induction nos with
 | nil => exact List.Perm.refl _
 | cons no nos ih =>
  simp only [List.flatMap_cons]
  refine List.Perm.trans ?_ (List.Perm.append_left _ ih)
  simp only [List.append_assoc]
  refine List.Perm.append_left _ ?_
  rw [← List.append_assoc, ← List.append_assoc]
  exact List.Perm.append_right _ List.perm_append_comm
theorem res_hi {k : Int} {l : List Pn} {m : Int} (h : ∀ p ∈ l, m < p.hi) : ∀ r ∈ resultsL k l, m < r.hi := by
 intro r hr
 unfold resultsL at hr
 split at hr
 ·obtain ⟨p, hp, rfl⟩ := List.mem_map.1 hr
  exact h p hp
 ·cases hr
theorem by_group {α : Type} (f : α → Int) : ∀ {nos : List Int} {L : List α}, nos.Pairwise (· < ·) → (∀ a ∈ L, f a ∈ nos) → (nos.flatMap fun n => L.filter fun a => decide (f a = n)).Perm L
 | [], L, _, h => by
  cases L with
  | nil => exact List.Perm.refl _
  | cons a L => exact absurd (h a (by simp)) (by simp)
 | n :: nos, L, hn, h => by
  obtain ⟨h1, h2⟩ := List.pairwise_cons.1 hn
  have ih := by_group f (L := L.filter fun a => !decide (f a = n)) h2 (fun a ha => by
   obtain ⟨h3, h4⟩ := List.mem_filter.1 ha
   rcases List.mem_cons.1 (h a h3) with h5 | h5
   ·rw [h5] at h4; simp at h4
   ·exact h5)
  rw [List.flatMap_cons]
  refine List.Perm.trans (List.Perm.append_left _ ?_) (filter_parts (fun a => decide (f a = n)) L).symm
  refine List.Perm.trans (List.Perm.of_eq ?_) ih
  rw [List.flatMap_def, List.flatMap_def]
  refine congrArg List.flatten (List.map_congr_left fun m hm => ?_)
  rw [List.filter_filter]
  refine List.filter_congr fun a _ => ?_
  have := h1 m hm
  by_cases c : f a = m
  ·simp [c, show ¬ m = n by omega]
  ·simp [c]
theorem outD_all (hV : VG j.k V) (hk : fRight j.k = true) (hn : nos.Pairwise (· < ·)) (hg : ∀ v ∈ V, grpV v.key.data.toList j.g ∈ nos) : (outD j nos V 1099511627776).Perm (resultsL j.k (rowV j.k V)) := by
 have hr := hV.right
 have hG : ∀ no, allG j V no = (rowV j.k V).filter fun p => decide (grpV p.key.data.toList j.g = no) := fun no =>
  (row_filter (P := fun p => decide (grpV p.key.data.toList j.g = no)) (fun p q h => by show decide _ = decide _; rw [h.2.2]) V).symm
 have hhi : ∀ p ∈ rowV j.k V, p.hi ≤ 1099511627776 := fun p hp => by
  have := (rightL_ok hr).2.1 p hp
  unfold mayB at this
  simp only [Bool.and_eq_true, decide_eq_true_eq] at this
  exact this.1.2
 have hmem : ∀ p ∈ rowV j.k V, grpV p.key.data.toList j.g ∈ nos := by
  intro p hp
  have h0 := row_filter (k := j.k) (P := fun p => !decide (grpV p.key.data.toList j.g ∈ nos)) (fun p q h => by show (!decide _) = !decide _; rw [h.2.2]) V
  rw [show (V.filter fun v => !decide (grpV (vP j.k v).key.data.toList j.g ∈ nos)) = [] from List.filter_eq_nil_iff.2 fun v hv => by
   have := hg v hv
   simp [vP, oneP, this]] at h0
  have h1 := List.filter_eq_nil_iff.1 h0 p hp
  simpa using h1
 have hO : outD j nos V 1099511627776 = nos.flatMap fun no => ((rowV j.k V).filter fun p => decide (grpV p.key.data.toList j.g = no)).map (resOf j.k) := by
  unfold outD
  rw [List.flatMap_def, List.flatMap_def]
  refine congrArg List.flatten (List.map_congr_left fun no _ => ?_)
  rw [hG]
  have e : dueA ((rowV j.k V).filter fun p => decide (grpV p.key.data.toList j.g = no)) 1099511627776 = (rowV j.k V).filter fun p => decide (grpV p.key.data.toList j.g = no) :=
   List.filter_eq_self.2 fun p hp => by have := hhi p (List.mem_filter.1 hp).1; simp [this]
  rw [e]
  unfold resultsL
  rw [if_pos (by rw [rightL_sub List.filter_sublist hr, hk]; rfl)]
 rw [hO, show resultsL j.k (rowV j.k V) = (rowV j.k V).map (resOf j.k) by unfold resultsL; rw [if_pos (by rw [hr, hk]; rfl)]]
 rw [← List.map_flatMap]
 exact (by_group (fun p : Pn => grpV p.key.data.toList j.g) hn hmem).map _
end
def Pre (D rows : List (List It)) : Prop := D.length = rows.length ∧ ∀ (q : Nat) (d : List It), D[q]? = some d → ∃ r : List It, rows[q]? = some (d ++ r)
structure RW (j : Jb) (nos : List Int) (rows : List (List It)) : Prop where
 ok : ∀ r ∈ rows, RowOk r
 n1 : 1 ≤ rows.length
 n8 : rows.length ≤ 8
 tg : TG j nos (rows.flatMap evsI)
structure PI (j : Jb) (nos : List Int) (D : List (List It)) (w : Wk) (out : List Rs) : Prop where
 wi : WI j nos (allVals j.s j.d (D.flatMap evsI)) (D.map mkI) w
 out : out.Perm (outD j nos (allVals j.s j.d (D.flatMap evsI)) w.told)
def mkTail (a b : Int) : List It := if a < b then [markItem b] else []
section
variable {j : Jb} {nos : List Int} {rows D : List (List It)} {w : Wk} {out : List Rs} {d : List It} {x : It} {q : Nat}
theorem flat_pre : ∀ {D rows : List (List It)}, Pre D rows → ∃ R, (rows.flatMap evsI).Perm (D.flatMap evsI ++ R)
 | [], rows, h => ⟨rows.flatMap evsI, by simp⟩
 | d :: D, [], h => by have := h.1; simp at this
 | d :: D, r :: rows, h => by
  obtain ⟨R, hR⟩ := flat_pre (D := D) (rows := rows) ⟨by have := h.1; simpa using this, fun q d' hd => h.2 (q + 1) d' (by simpa using hd)⟩
  obtain ⟨r', hr⟩ := h.2 0 d rfl
  simp only [List.getElem?_cons_zero, Option.some.injEq] at hr
  subst hr
  refine ⟨evsI r' ++ R, ?_⟩
  rw [List.flatMap_cons, List.flatMap_cons, evsI_app, List.append_assoc, List.append_assoc]
  refine List.Perm.append_left _ ?_
  refine (List.Perm.append_left _ hR).trans ?_
  rw [← List.append_assoc, ← List.append_assoc]
  exact List.Perm.append_right R List.perm_append_comm
theorem Pre.mg (hR : RW j nos rows) (h : Pre D rows) : MG (D.map mkI) := by
 refine ⟨by rw [List.length_map, h.1]; exact hR.n1, by rw [List.length_map, h.1]; exact hR.n8, fun t ht => ?_⟩
 obtain ⟨d, hd, rfl⟩ := List.mem_map.1 ht
 obtain ⟨q, hq, rfl⟩ := List.getElem_of_mem hd
 obtain ⟨r, hr⟩ := h.2 q _ (List.getElem?_eq_getElem hq)
 exact mkI_rng (hR.ok _ (List.mem_of_getElem? hr)).pre
theorem Pre.vg (hR : RW j nos rows) (h : Pre D rows) : VG j.k (allVals j.s j.d (D.flatMap evsI)) := by
 obtain ⟨R, hp⟩ := flat_pre h
 exact hR.tg.vg hp
theorem Pre.okk (hR : RW j nos rows) (h : Pre D rows) (hW : PI j nos D w out) : WkOk w ∧ HV w ∧ heldN w.al < 1 := hW.wi.okk hR.tg.jg (h.mg hR) (h.vg hR)
theorem Pre.set (h : Pre D rows) (hd : D[q]? = some d) {r : List It} (hr : rows[q]? = some (d ++ x :: r)) : Pre (D.set q (d ++ [x])) rows := by
 refine ⟨by rw [List.length_set]; exact h.1, fun p d' hp => ?_⟩
 obtain ⟨hq, rfl⟩ := List.getElem?_eq_some_iff.1 hd
 by_cases c : q = p
 ·subst c
  rw [List.getElem?_set_self (by simpa using hq)] at hp
  cases hp
  exact ⟨r, by rw [hr]; simp⟩
 ·rw [List.getElem?_set_ne c] at hp
  exact h.2 p d' hp
theorem tell_item (hR : RW j nos rows) (hD : Pre D rows) (h : PI j nos D w out) (hd : D[q]? = some d) {r : List It} (hr : rows[q]? = some (d ++ x :: r)) (n : Nat) :
  ∃ w' rs, wkRun j (n + 1) w (q : Int) x = ⟨w', rs.map resItem ++ mkTail w.told w'.told, 0⟩ ∧ (∀ s ∈ rs, w.told < s.hi) ∧ w.told ≤ w'.told ∧ (¬ w.told < w'.told → rs = []) ∧ PI j nos (D.set q (d ++ [x])) w' (out ++ rs) ∧ ItV x := by
 have hD' := hD.set hd hr
 have hV := hD.vg hR
 have hV' := hD'.vg hR
 have hM := hD.mg hR
 obtain ⟨hq, hdq⟩ := List.getElem?_eq_some_iff.1 hd
 have hq2 : q < (D.map mkI).length := by rw [List.length_map]; exact hq
 have hmq : (D.map mkI)[q] = mkI d := by simp [hdq]
 have ht := firstT_range (D.map mkI)
 have htold := h.wi.told
 rcases hR.ok _ (List.mem_of_getElem? hr) d x r rfl with ⟨e, rfl, he, hm, hv⟩ | ⟨t, rfl, hm, ht2⟩
 ·have hp : (D.flatMap evsI ++ [e]).Perm ((D.set q (d ++ [evItem e])).flatMap evsI) := (set_flat evsI hd evsI_ev).symm
  have hvp := (show (allVals j.s j.d (D.flatMap evsI ++ [e])).Perm (allVals j.s j.d ((D.set q (d ++ [evItem e])).flatMap evsI)) from hp.flatMap_right _)
  have hVe : VG j.k (allVals j.s j.d (D.flatMap evsI ++ [e])) := hV'.perm hvp.symm
  have hgr : grpV e.key.data.toList j.g ∈ nos := hR.tg.all e (by
   obtain ⟨R, h1⟩ := flat_pre hD'
   exact h1.mem_iff.2 (by simp [← hp.mem_iff]))
  have hle : w.told ≤ e.at' := by
   have h1 := firstT_under hM.rng _ (List.getElem_mem hq2)
   rw [hmq, ← htold] at h1
   omega
  have hVe2 := hVe
  rw [allVals_snoc] at hVe2
  obtain ⟨w', h1, h2, h3⟩ := ev_step hR.tg.jg hM hVe2 h.wi he hgr hq2 hle n
  have hmk : (D.set q (d ++ [evItem e])).map mkI = D.map mkI := by
   rw [List.map_set, mkI_ev, ← hmq, List.set_getElem_self]
  refine ⟨w', [], ?_, by simp, by omega, fun _ => rfl, ⟨?_, ?_⟩, hv⟩
  ·rw [h1, h3, mkTail, if_neg (Int.lt_irrefl _)]; rfl
  ·rw [hmk]
   exact h2.perm hVe2 (by rw [← allVals_snoc]; exact hvp)
  ·rw [List.append_nil, h3, ← outD_perm hVe hvp, allVals_snoc, outD_ev (okT_of hR.tg.jg.job.2.2 he) hle]
   exact h.out
 ·have hfm : (D.set q (d ++ [markItem t])).flatMap evsI = D.flatMap evsI := by
   have e1 : (D.set q (d ++ [markItem t])).map evsI = D.map evsI := by
    rw [List.map_set, evsI_mk]
    have : evsI d = (D.map evsI)[q]'(by rw [List.length_map]; exact hq) := by simp [hdq]
    rw [this, List.set_getElem_self]
   rw [List.flatMap_def, List.flatMap_def, e1]
  have hm0 := mkI_rng (hR.ok _ (List.mem_of_getElem? hr)).pre
  obtain ⟨w', h1, h2, h3⟩ := mk_step hR.tg.jg hM hV h.wi hq2 (t := t) (by omega) n
  have hmk : (D.set q (d ++ [markItem t])).map mkI = (D.map mkI).set q (max (D.map mkI)[q] t) := by
   rw [List.map_set, mkI_mk, hmq, show max (mkI d) t = t by omega]
  have htr := firstT_range ((D.map mkI).set q (max (D.map mkI)[q] t))
  rw [← h2.told] at htr
  refine ⟨w', if w.told < w'.told then nos.flatMap (fun no => resultsL j.k (dueA (dueB (allG j (allVals j.s j.d (D.flatMap evsI)) no) w.told) w'.told)) else [], ?_, ?_, h3, ?_, ⟨?_, ?_⟩, (show (-9223372036854775808 : Int) ≤ 0 by decide), (show (0 : Int) ≤ 9223372036854775807 by decide)⟩
  ·rw [h1]
   unfold mkTail toldG
   split
   ·congr 1
    rw [List.map_flatMap]
   ·rfl
  ·intro s hs
   split at hs
   ·obtain ⟨no, _, hs⟩ := List.mem_flatMap.1 hs
    exact res_hi (fun p hp => dueB_hi p (List.mem_filter.1 hp).1) s hs
   ·cases hs
  ·intro hn; rw [if_neg hn]
  ·rw [hfm, hmk]; exact h2
  ·rw [hfm]
   by_cases c : w.told < w'.told
   ·rw [if_pos c]
    exact (List.Perm.append_right _ h.out).trans (outD_step hV (by omega))
   ·rw [if_neg c, List.append_nil, show w'.told = w.told by omega]
    exact h.out
theorem told_all (hR : RW j nos rows) (h : PI j nos rows w out) (hend : ∀ r ∈ rows, mkI r = 1099511627776) : w.told = 1099511627776 ∧ out.Perm (outD j nos (allVals j.s j.d (rows.flatMap evsI)) 1099511627776) := by
 have hP : Pre rows rows := ⟨rfl, fun q d hd => ⟨[], by rw [hd]; simp⟩⟩
 have e : w.told = 1099511627776 := by
  rw [h.wi.told]
  exact (firstT_end (hP.mg hR).rng).2 fun t ht => by
   obtain ⟨r, hr, rfl⟩ := List.mem_map.1 ht
   exact hend r hr
 have := h.out
 rw [e] at this
 exact ⟨e, this⟩
end
def tellL (j : Jb) : Int → List Et → List It
 | _, [] => []
 | m, e :: es => tellX j m e ++ tellL j (max m (subT e.at' j.de)) es
def rowI (j : Jb) (es : List Et) : List It := tellL j 0 es ++ [markItem 1099511627776]
section
variable {j : Jb} {es fs : List Et} {m : Int} {d : List It} {e : Et} {x : It}
theorem tellL_app : ∀ {es : List Et} {m : Int}, tellL j m (es ++ fs) = tellL j m es ++ tellL j (markE j.de m es) fs
 | [], m => by simp [tellL, markE]
 | e :: es, m => by
  simp only [List.cons_append, tellL, tellL_app (es := es), List.append_assoc]
  rfl
theorem tellL_step {q : Nat} (hq : q < es.length) : tellL j m (es.take (q + 1)) = tellL j m (es.take q) ++ tellX j (markE j.de m (es.take q)) es[q] := by
 rw [take_snoc es q hq, tellL_app]
 simp [tellL]
theorem tellL_len : ∀ {es : List Et} {m : Int}, (tellL j m es).length ≤ 2 * es.length
 | [], m => by simp [tellL]
 | e :: es, m => by
  have h := tellL_len (es := es) (m := max m (subT e.at' j.de))
  have h2 : (tellX j m e).length ≤ 2 := by
   unfold tellX
   rw [List.length_append]
   split <;> split <;> simp
  simp only [tellL, List.length_append, List.length_cons]
  omega
theorem tellL_evs : ∀ {es : List Et} {m : Int}, evsI (tellL j m es) = keptE j.li j.fu j.de m es
 | [], m => by simp [tellL, keptE, evsI]
 | e :: es, m => by
  have h := tellL_evs (es := es) (m := max m (subT e.at' j.de))
  rw [tellL, evsI_app, h, keptE]
  have h2 : evsI (tellX j m e) = if e.at' < m then [] else [e.ran j.li j.fu] := by
   unfold tellX
   have h3 : ∀ c : Prop, [Decidable c] → evsI (if c then [markItem (subT e.at' j.de)] else []) = [] := fun c _ => by split <;> rfl
   rw [evsI_app, h3, List.append_nil]
   by_cases c : m ≤ e.at'
   ·rw [if_pos c, if_neg (by omega)]; rfl
   ·rw [if_neg c, if_pos (by omega)]; rfl
  rw [h2]
theorem RowOk.snoc (h : RowOk d) (hx : (∃ e : Et, x = evItem e ∧ evR e.key e.at' = true ∧ mkI d ≤ e.at' ∧ ev64 e) ∨ (∃ t : Int, x = markItem t ∧ mkI d ≤ t ∧ t ≤ 1099511627776)) : RowOk (d ++ [x]) := by
 intro a y b he
 rcases List.append_eq_append_iff.1 he with ⟨c, h1, h2⟩ | ⟨c, h1, h2⟩
 ·cases c with
  | nil =>
   simp only [List.append_nil, List.nil_append] at h1 h2
   injection h2 with h2 h3
   subst h1; subst h2; exact hx
  | cons z c => simp at h2
 ·cases c with
  | nil =>
   simp only [List.append_nil, List.nil_append] at h1 h2
   injection h2 with h2 h3
   subst h1; subst h2; exact hx
  | cons z c =>
   simp only [List.cons_append] at h2
   injection h2 with h2 h3
   subst h2
   exact h a y c h1
theorem tellX_ok (h : RowOk d) (hm : mkI d = m) (hd : 0 ≤ j.de) (he : evR e.key e.at' = true) (hv : ev64 e) : RowOk (d ++ tellX j m e) ∧ mkI (d ++ tellX j m e) = max m (subT e.at' j.de) := by
 have hat := ev_at he
 have ht := subT_lt hat hd
 have hv2 : ev64 (e.ran j.li j.fu) := goV_rng _ _ _ _ hv
 have h1 : RowOk (d ++ (if m ≤ e.at' then [evItem (e.ran j.li j.fu)] else [])) ∧ mkI (d ++ (if m ≤ e.at' then [evItem (e.ran j.li j.fu)] else [])) = m := by
  by_cases c : m ≤ e.at'
  ·rw [if_pos c]
   exact ⟨h.snoc (.inl ⟨_, rfl, he, by rw [hm]; exact c, hv2⟩), by rw [mkI_ev]; exact hm⟩
  ·rw [if_neg c, List.append_nil]; exact ⟨h, hm⟩
 unfold tellX
 rw [← List.append_assoc]
 generalize d ++ (if m ≤ e.at' then [evItem (e.ran j.li j.fu)] else []) = d1 at *
 by_cases c : m < subT e.at' j.de
 ·rw [if_pos c]
  exact ⟨h1.1.snoc (.inr ⟨_, rfl, by rw [h1.2]; omega, by omega⟩), by rw [mkI_mk]; omega⟩
 ·rw [if_neg c, List.append_nil]
  exact ⟨h1.1, by rw [h1.2]; omega⟩
theorem tellL_ok (hd : 0 ≤ j.de) : ∀ {es : List Et} {m : Int} {d : List It}, RowOk d → mkI d = m → (∀ e ∈ es, evR e.key e.at' = true ∧ ev64 e) → RowOk (d ++ tellL j m es) ∧ mkI (d ++ tellL j m es) = markE j.de m es
 | [], m, d, h, hm, _ => by simp [tellL, markE, h, hm]
 | e :: es, m, d, h, hm, hes => by
  obtain ⟨h1, h2⟩ := tellX_ok (j := j) h hm hd (hes e (by simp)).1 (hes e (by simp)).2
  have := tellL_ok hd (es := es) h1 h2 fun x hx => hes x (List.mem_cons_of_mem _ hx)
  rw [tellL, ← List.append_assoc]
  exact this
theorem rowI_ok (hd : 0 ≤ j.de) (hes : ∀ e ∈ es, evR e.key e.at' = true ∧ ev64 e) : RowOk (rowI j es) ∧ mkI (rowI j es) = 1099511627776 ∧ evsI (rowI j es) = keptE j.li j.fu j.de 0 es := by
 obtain ⟨h1, h2⟩ := tellL_ok (j := j) hd (es := es) (m := 0) (d := []) (fun a y b h => by simp at h) rfl hes
 rw [List.nil_append] at h1 h2
 have h3 := markE_lt hd (es := es) (m := 0) ⟨by omega, by omega⟩ fun e he => (hes e he).1
 unfold rowI
 refine ⟨h1.snoc (.inr ⟨_, rfl, by rw [h2]; omega, Int.le_refl _⟩), mkI_mk, ?_⟩
 rw [evsI_mk, tellL_evs]
theorem rowI_len : (rowI j es).length ≤ 2 * es.length + 1 := by
 have := tellL_len (j := j) (es := es) (m := 0)
 unfold rowI
 simp only [List.length_append, List.length_cons, List.length_nil]
 omega
theorem rows_evs (hd : 0 ≤ j.de) : ∀ {F : List (List Et)}, (∀ es ∈ F, ∀ e ∈ es, evR e.key e.at' = true ∧ ev64 e) → (F.map (rowI j)).flatMap evsI = allK j.li j.fu j.de F
 | [], _ => rfl
 | es :: F, h => by
  have ih := rows_evs hd (F := F) fun x hx => h x (by simp [hx])
  rw [List.map_cons, List.flatMap_cons, ih, (rowI_ok hd (h es (by simp))).2.2]
  rfl
end
end Go.Proofs.YtilgagmfcdfjaaaGreat
