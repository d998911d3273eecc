/-
  Workers: an item and all that waited for it. Plain.
-/
import Derived.Test.YtagfjnjpgphnjaaGreatK23
namespace Go.Proofs.YtagfjnjpgphnjaaGreat
open Go.RowKit
set_option linter.unusedSimpArgs false
set_option linter.unusedVariables false
/-- an item at one's own number of groups -/
def tkJ (j : Jb) (w : Wk) (i : Int) (x : It) : TkW := wkTake (jobOK j.g j.s j.d j.k j.fu j.li j.de j.id) j (grpV x.key.data.toList j.g) w i x
structure RnW where
  w : Wk
  told : List It
  e : Int
def rnFail (e : Int) : RnW := ⟨wkZ, [], e⟩
def rnLoop (f : Wk → Int → It → RnW) : List Lt → Wk → List It → RnW
  | [], w, out => ⟨w, out, 0⟩
  | x :: l, w, out => if (f w x.input x.it).e ≠ 0 then rnFail (f w x.input x.it).e else rnLoop f l (f w x.input x.it).w (out ++ (f w x.input x.it).told)
def rnT (f : Wk → Int → It → RnW) (t : TkW) : RnW := if t.e ≠ 0 then rnFail t.e else rnLoop f t.late t.w t.told
/-- .. and all that waited, one behind the other -/
def wkRun (j : Jb) : Nat → Wk → Int → It → RnW
  | 0, _, _, _ => rnFail 0
  | n + 1, w, i, x => rnT (wkRun j n) (tkJ j w i x)
def RnW.av (x : RnW) : AV := .tup [.agg x.w.av, .sl 11 (x.told.map It.av), .v (.int .i64 x.e)]
def RnW.avR (x : RnW) : AV := (⟨x.w, x.told, [], x.e⟩ : TkW).avR
/-- how many items wait -/
def heldN (a : Al) : Nat := (a.held.map List.length).sum
def tri : Nat → Nat
  | 0 => 0
  | n + 1 => tri n + (n + 1)
def ItV (x : It) : Prop := -9223372036854775808 ≤ x.val ∧ x.val ≤ 9223372036854775807
def HV (w : Wk) : Prop := ∀ l ∈ w.al.held, ∀ x ∈ l, ItV x
theorem tri_mono {m n : Nat} (h : m ≤ n) : tri m ≤ tri n := by
  induction n with
  | zero => have : m = 0 := by omega
            subst this; exact Nat.le_refl _
  | succ n ih =>
    by_cases e : m = n + 1
    · subst e; exact Nat.le_refl _
    · have := ih (by omega)
      simp only [tri]; omega
theorem tri_le {n : Nat} (h : n ≤ 128) : tri n ≤ 8256 := Nat.le_trans (tri_mono h) (by decide +kernel)
theorem sum_set {l : List (List It)} {i : Nat} {x : It} : ((l.set i (l.getD i [] ++ [x])).map List.length).sum ≤ (l.map List.length).sum + 1 := by
  induction l generalizing i with
  | nil => simp
  | cons a l ih =>
    cases i with
    | zero => simp; omega
    | succ i => simp only [List.set_cons_succ, List.map_cons, List.sum_cons]; have := @ih i; simp only [List.getD_cons_succ]; omega
theorem latesN_len (held : List (List It)) : ∀ q, q ≤ held.length → (latesN held q).length = ((held.take q).map List.length).sum := by
  intro q
  induction q with
  | zero => intro _; simp [latesN]
  | succ q ih =>
    intro hq
    rw [latesN_succ held q (by omega), List.length_append, ih (by omega), List.take_succ_eq_append_getElem (by omega), List.map_append, List.sum_append, List.map_cons, List.map_nil, List.sum_cons, List.sum_nil]
    simp only [lts, List.length_map, Nat.add_zero]
theorem latesN_mem {held : List (List It)} {q : Nat} {x : Lt} (h : x ∈ latesN held q) : ∃ l ∈ held, x.it ∈ l := by
  obtain ⟨k, _, h1⟩ := List.mem_flatMap.1 h
  obtain ⟨y, hy, rfl⟩ := List.mem_map.1 h1
  by_cases hk : k < held.length
  · rw [getD_at hk] at hy; exact ⟨_, List.getElem_mem hk, hy⟩
  · simp [List.getD, List.getElem?_eq_none (Nat.le_of_not_lt hk)] at hy
theorem newHeld_sum (n : Nat) : ((newHeld n).map List.length).sum = 0 := by
  unfold newHeld
  split
  · simp [List.map_replicate, List.sum_replicate_nat]
  · rfl
/-- what an offer makes of those that wait -/
theorem offer_held (a : Al) (i : Int) (x : It) (hx : ItV x) (ha : ∀ l ∈ a.held, ∀ y ∈ l, ItV y) :
    heldN (alOffer a i x).a ≤ heldN a + 1 ∧ (∀ l ∈ (alOffer a i x).a.held, ∀ y ∈ l, ItV y) ∧ (∀ y ∈ (alOffer a i x).late, ItV y.it) ∧ ((alOffer a i x).late ≠ [] → heldN (alOffer a i x).a = 0 ∧ (alOffer a i x).late.length = heldN a) := by
  have hz : heldN alZ ≤ heldN a + 1 ∧ (∀ l ∈ alZ.held, ∀ y ∈ l, ItV y) ∧ (∀ y ∈ ([] : List Lt), ItV y.it) ∧ (([] : List Lt) ≠ [] → heldN alZ = 0 ∧ ([] : List Lt).length = heldN a) := ⟨by simp [alZ, heldN], by simp [alZ], by simp, by simp⟩
  unfold alOffer
  split
  · exact hz
  split
  · split
    · exact hz
    · refine ⟨by simp only [heldN]; exact sum_set, fun l hl y hy => ?_, by simp, by simp⟩
      rcases List.mem_or_eq_of_mem_set hl with h | rfl
      · exact ha l h y hy
      · rcases List.mem_append.1 hy with h | h
        · by_cases hk : i.toNat < a.held.length
          · rw [getD_at hk] at h; exact ha _ (List.getElem_mem hk) y h
          · simp [List.getD, List.getElem?_eq_none (Nat.le_of_not_lt hk)] at h
        · simp only [List.mem_singleton] at h; subst h; exact hx
  split
  · exact ⟨Nat.le_succ _, ha, by simp, by simp⟩
  split
  · exact hz
  split
  · exact ⟨Nat.le_succ _, ha, by simp, by simp⟩
  · refine ⟨by simp only [heldN, newHeld_sum]; omega, fun l hl y hy => ?_, fun y hy => ?_, fun _ => ⟨by simp only [heldN, newHeld_sum], ?_⟩⟩
    · dsimp only [newHeld] at hl
      split at hl
      · rw [(List.mem_replicate.1 hl).2] at hy; simp at hy
      · simp at hl
    · obtain ⟨l, h1, h2⟩ := latesN_mem hy
      exact ha l h1 _ h2
    · dsimp only
      rw [latesN_len _ _ (Nat.le_refl _), List.take_length]; rfl
structure TkHd (w : Wk) (t : TkW) : Prop where
  n : heldN t.w.al ≤ heldN w.al + 1
  hv : HV t.w
  late : ∀ y ∈ t.late, ItV y.it
  all : t.late ≠ [] → heldN t.w.al = 0 ∧ t.late.length = heldN w.al ∧ t.e = 0
  told : t.told.length ≤ 100000
  one : t.late ≠ [] → t.told.length = 1
theorem fail_hd (w : Wk) (e : Int) : TkHd w (wkFail e) := ⟨by simp [wkFail, wkZ, heldN], by simp [wkFail, wkZ, HV], by simp [wkFail], by simp [wkFail], by simp [wkFail], by simp [wkFail]⟩
theorem go_hd (j : Jb) (w : Wk) (gs : List Gp) (m : Mk) (al : Al) (told : Int) (h1 : gs.length ≤ 32) (h2 : heldN al ≤ heldN w.al + 1) (h3 : ∀ l ∈ al.held, ∀ x ∈ l, ItV x) : TkHd w (wkGo j gs m al told) := by
  unfold wkGo
  split
  · refine ⟨h2, h3, by simp, by simp, ?_, by simp⟩
    have := advT_le j (mkTell m).t gs
    dsimp only
    rw [List.length_append]
    simp
    omega
  · exact ⟨h2, h3, by simp, by simp, by simp, by simp⟩
theorem take_hd (ok : Bool) (j : Jb) (no : Int) (w : Wk) (i : Int) (x : It) (hw : HV w) (hx : ItV x) : TkHd w (wkTake ok j no w i x) := by
  obtain ⟨a1, a2, a3, a4⟩ := offer_held w.al i x hx hw
  unfold wkTake
  split
  · exact fail_hd _ _
  split
  · exact fail_hd _ _
  rename_i he
  have hgl : w.gs.length ≤ 32 := by
    have h : wkR w = true := by
      cases h : wkR w
      · exfalso; apply he; left; rw [h]; rfl
      · rfl
    simp only [wkR, Bool.and_eq_true] at h
    exact gsR_le h.1
  split
  · exact fail_hd _ _
  split
  · exact ⟨a1, a2, a3, fun h => ⟨(a4 h).1, (a4 h).2, rfl⟩, by simp, by simp⟩
  split
  · exact ⟨a1, a2, by simp, by simp, by simp, by simp⟩
  split
  · split
    · exact fail_hd _ _
    · exact go_hd j w _ _ _ _ (by simp [putM]; exact hgl) a1 a2
  split
  · exact go_hd j w _ _ _ _ hgl a1 a2
  split
  · exact go_hd j w _ _ _ _ hgl a1 a2
  · exact go_hd j w _ _ _ _ hgl a1 a2
theorem late_le (ok : Bool) (j : Jb) (no : Int) (w : Wk) (i : Int) (x : It) : (wkTake ok j no w i x).late.length ≤ 128 := by
  have hz : ∀ e, (wkFail e).late.length ≤ 128 := fun e => by simp [wkFail]
  have hg : ∀ gs m al told, (wkGo j gs m al told).late.length ≤ 128 := fun gs m al told => by unfold wkGo; split <;> simp
  have ho : (alOffer w.al i x).late.length ≤ 128 := by
    unfold alOffer
    split
    · simp
    rename_i hc
    have hR : alR w.al = true := by
      cases h : alR w.al
      · exfalso; apply hc; simp [alHas, h]
      · rfl
    obtain ⟨b1, b2, b3, b4, b5, b6, b7, b8⟩ := alR_ok hR
    split
    · split <;> simp
    · split
      · simp
      split
      · simp
      split
      · simp
      · have := latesN_le (held := w.al.held) (by omega) b8 w.al.held.length (Nat.le_refl _)
        dsimp only
        omega
  unfold wkTake
  split
  · exact hz _
  split
  · exact hz _
  split
  · exact hz _
  split
  · exact ho
  split
  · simp
  split
  · split
    · exact hz _
    · exact hg _ _ _ _
  split
  · exact hg _ _ _ _
  split
  · exact hg _ _ _ _
  · exact hg _ _ _ _
/-- what is known of a run -/
structure RnOk (w : Wk) (r : RnW) : Prop where
  ok : WkOk r.w
  hv : HV r.w
  n : heldN r.w.al ≤ heldN w.al + 1
  told : r.told.length + 100000 * tri (heldN r.w.al) ≤ 100000 * (tri (heldN w.al + 1) + 1)
theorem rnFail_ok (w : Wk) (e : Int) : RnOk w (rnFail e) := ⟨wkZ_ok, by simp [rnFail, wkZ, HV], by simp [rnFail, wkZ, heldN], by simp [rnFail, wkZ, heldN, tri]⟩
/-- on the way -/
structure LpOk (w : Wk) (out : List It) (q : Nat) : Prop where
  ok : WkOk w
  hv : HV w
  n : heldN w.al ≤ q
  told : out.length + 100000 * tri (heldN w.al) ≤ 1 + 100000 * (tri q + q)
theorem LpOk.step {w : Wk} {out : List It} {q : Nat} {r : RnW} (h : LpOk w out q) (k : RnOk w r) : LpOk r.w (out ++ r.told) (q + 1) := by
  obtain ⟨h1, h2, h3, h4⟩ := h
  obtain ⟨k1, k2, k3, k4⟩ := k
  refine ⟨k1, k2, by omega, ?_⟩
  rw [List.length_append]
  simp only [tri] at k4 ⊢
  omega
theorem loop_ok {f : Wk → Int → It → RnW} : ∀ (l : List Lt) (w : Wk) (out : List It) (q : Nat), LpOk w out q → (∀ y ∈ l, ItV y.it) → (∀ w i x, WkOk w → HV w → ItV x → heldN w.al < q + l.length → RnOk w (f w i x)) → ((rnLoop f l w out).e = 0 ∧ LpOk (rnLoop f l w out).w (rnLoop f l w out).told (q + l.length)) ∨ ∃ e, rnLoop f l w out = rnFail e
  | [], w, out, q, h, _, _ => .inl ⟨rfl, h⟩
  | y :: l, w, out, q, h, hl, hf => by
    simp only [rnLoop]
    have hk := hf w y.input y.it h.ok h.hv (hl y (by simp)) (by have := h.n; simp only [List.length_cons]; omega)
    split
    · exact .inr ⟨_, rfl⟩
    · have := loop_ok l _ _ (q + 1) (h.step hk) (fun z hz => hl z (by simp [hz])) (fun w i x a b c d => hf w i x a b c (by simp only [List.length_cons]; omega))
      rw [List.length_cons, Nat.add_comm l.length 1, ← Nat.add_assoc]
      exact this
theorem start_ok {j : Jb} {w : Wk} {i : Int} {x : It} (hw : WkOk w) (hv : HV w) (hx : ItV x) (hl : (tkJ j w i x).late ≠ []) : LpOk (tkJ j w i x).w (tkJ j w i x).told 0 := by
  have h := take_hd (jobOK j.g j.s j.d j.k j.fu j.li j.de j.id) j (grpV x.key.data.toList j.g) w i x hv hx
  have h2 := take_ok (jobOK j.g j.s j.d j.k j.fu j.li j.de j.id) j (grpV x.key.data.toList j.g) w i x hw
  refine ⟨h2.w, h.hv, by rw [show heldN (tkJ j w i x).w.al = 0 from (h.all hl).1]; exact Nat.le_refl _, ?_⟩
  rw [show heldN (tkJ j w i x).w.al = 0 from (h.all hl).1, show (tkJ j w i x).told.length = 1 from h.one hl]
  simp [tri]
theorem run_ok (j : Jb) : ∀ (n : Nat) (w : Wk) (i : Int) (x : It), WkOk w → HV w → ItV x → RnOk w (wkRun j n w i x)
  | 0, w, i, x, _, _, _ => rnFail_ok w 0
  | n + 1, w, i, x, hw, hv, hx => by
    have h := take_hd (jobOK j.g j.s j.d j.k j.fu j.li j.de j.id) j (grpV x.key.data.toList j.g) w i x hv hx
    have h2 := take_ok (jobOK j.g j.s j.d j.k j.fu j.li j.de j.id) j (grpV x.key.data.toList j.g) w i x hw
    simp only [wkRun, rnT]
    split
    · exact rnFail_ok w _
    by_cases hl : (tkJ j w i x).late = []
    · rw [hl]
      simp only [rnLoop]
      refine ⟨h2.w, h.hv, h.n, ?_⟩
      have h3 := h.n
      have h4 := h.told
      have h5 := tri_mono h3
      show (tkJ j w i x).told.length + 100000 * tri (heldN (tkJ j w i x).w.al) ≤ _
      change (tkJ j w i x).told.length ≤ _ at h4
      change tri (heldN (tkJ j w i x).w.al) ≤ _ at h5
      omega
    · have ho := start_ok hw hv hx hl
      rcases loop_ok (tkJ j w i x).late (tkJ j w i x).w (tkJ j w i x).told 0 ho h.late (fun w i x a b c _ => run_ok j n w i x a b c) with ⟨h3, h4⟩ | ⟨e, h3⟩
      · obtain ⟨k1, k2, k3, k4⟩ := h4
        have hlen : (tkJ j w i x).late.length = heldN w.al := (h.all hl).2.1
        rw [hlen] at k3 k4
        refine ⟨k1, k2, by omega, ?_⟩
        simp only [tri, Nat.zero_add] at k4 ⊢
        omega
      · rw [h3]; exact rnFail_ok w e
end Go.Proofs.YtagfjnjpgphnjaaGreat
