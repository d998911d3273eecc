/-
  What must come out, in plain Lean: which events are kept; windows of values; the document's way of laying panes.
  What must come out, in plain Lean: the row of many values, put one by one, or place by place.
-/
import Derived.Test.YtimlkhbedhjehaaMdC
import Derived.Test.YtimlkhbedhjehaaPnX
import Derived.Test.YtimlkhbedhjehaaGrK
namespace Go.Proofs.Ytimlkhbedhjehaa
open Go.RowKit
set_option linter.unusedSimpArgs false
set_option linter.unusedVariables false
def Et.ran (li fu : Int) (e : Et) : Et := ⟨e.key, e.at', (runE li fu e.v).1⟩
def keptE (li fu de : Int) : Int → List Et → List Et
  | _, [] => []
  | m, e :: es => (if e.at' < m then [] else [e.ran li fu]) ++ keptE li fu de (max m (subT e.at' de)) es
def markE (de : Int) (m : Int) (es : List Et) : Int := es.foldl (fun m e => max m (subT e.at' de)) m
section
variable {li fu de m : Int} {es fs : List Et} {e : Et}
theorem markE_snoc : markE de m (es ++ [e]) = max (markE de m es) (subT e.at' de) := by simp [markE]
theorem markE_app : markE de m (es ++ fs) = markE de (markE de m es) fs := by simp [markE]
theorem keptE_app : ∀ {es : List Et} {m : Int}, keptE li fu de m (es ++ fs) = keptE li fu de m es ++ keptE li fu de (markE de m es) fs
  | [], m => rfl
  | e :: es, m => by
    simp only [List.cons_append, keptE, List.append_assoc]
    rw [keptE_app]
    rfl
theorem keptE_snoc : keptE li fu de m (es ++ [e]) = keptE li fu de m es ++ (if e.at' < markE de m es then [] else [e.ran li fu]) := by rw [keptE_app]; simp [keptE]
theorem keptE_len : ∀ {es : List Et} {m : Int}, (keptE li fu de m es).length ≤ es.length
  | [], m => Nat.le_refl _
  | e :: es, m => by
    have := keptE_len (es := es) (m := max m (subT e.at' de))
    simp only [keptE, List.length_append, List.length_cons]
    split <;> simp <;> omega
theorem keptE_at {q : Nat} (hq : q < es.length) (h : ¬ es[q].at' < markE de m (es.take q)) : (keptE li fu de m es)[(keptE li fu de m (es.take q)).length]? = some (es[q].ran li fu) := by
  have e : keptE li fu de m es = keptE li fu de m (es.take q) ++ keptE li fu de (markE de m (es.take q)) (es.drop q) := by rw [← keptE_app, List.take_append_drop]
  rw [e, List.drop_eq_getElem_cons hq, keptE, if_neg h]
  simp
theorem keptE_step {q : Nat} (hq : q < es.length) : keptE li fu de m (es.take (q + 1)) = keptE li fu de m (es.take q) ++ (if es[q].at' < markE de m (es.take q) then [] else [es[q].ran li fu]) := by
  rw [take_snoc es q hq, keptE_snoc]
theorem markE_step {q : Nat} (hq : q < es.length) : markE de m (es.take (q + 1)) = max (markE de m (es.take q)) (subT es[q].at' de) := by
  rw [take_snoc es q hq, markE_snoc]
theorem markE_le : m ≤ markE de m es := by
  induction es generalizing m with
  | nil => exact Int.le_refl _
  | cons e es ih => exact Int.le_trans (Int.le_max_left _ _) (ih (m := max m (subT e.at' de)))
theorem markE_range (h : 0 ≤ m ∧ m ≤ 1099511627776) : 0 ≤ markE de m es ∧ markE de m es ≤ 1099511627776 := by
  induction es generalizing m with
  | nil => exact h
  | cons e es ih =>
    refine ih (m := max m (subT e.at' de)) ?_
    have := clampT_range (clampT e.at' - clampT de)
    unfold subT
    omega
theorem keptE_ok : ∀ {es : List Et} {m : Int}, (∀ e ∈ es, evR e.key e.at' = true) → ∀ e ∈ keptE li fu de m es, evR e.key e.at' = true
  | [], m, _ => by simp [keptE]
  | e :: es, m, h => by
    intro x hx
    simp only [keptE, List.mem_append] at hx
    rcases hx with hx | hx
    · split at hx
      · simp at hx
      · simp only [List.mem_singleton] at hx; subst hx; exact h e (by simp)
    · exact keptE_ok (fun y hy => h y (by simp [hy])) x hx
/-- none that is kept is below the mark ahead of it -/
theorem keptE_above : ∀ {es : List Et} {m : Int}, ∀ e ∈ keptE li fu de m es, m ≤ e.at'
  | [], m => by simp [keptE]
  | e :: es, m => by
    intro x hx
    simp only [keptE, List.mem_append] at hx
    rcases hx with hx | hx
    · split at hx
      · simp at hx
      · simp only [List.mem_singleton] at hx; subst hx; simp only [Et.ran]; omega
    · have := keptE_above x hx; omega
end
/-! windows -/
theorem filter_one {α : Type} {p : α → Bool} {a : α} (hp : ∀ x, p x = true ↔ x = a) : ∀ {l : List α}, l.Nodup → a ∈ l → l.filter p = [a]
  | [], _, h => by simp at h
  | x :: l, hn, h => by
    rw [List.nodup_cons] at hn
    rcases List.mem_cons.1 h with rfl | h
    · rw [List.filter_cons_of_pos ((hp _).2 rfl)]
      have : l.filter p = [] := by
        rw [List.filter_eq_nil_iff]
        intro y hy hc
        exact hn.1 (((hp y).1 hc) ▸ hy)
      rw [this]
    · have hx : ¬ p x = true := fun hc => hn.1 (((hp x).1 hc) ▸ h)
      rw [List.filter_cons_of_neg hx]
      exact filter_one hp hn.2 h
theorem filter_none {α : Type} {p : α → Bool} {a : α} (hp : ∀ x, p x = true ↔ x = a) {l : List α} (h : a ∉ l) : l.filter p = [] := by
  rw [List.filter_eq_nil_iff]
  intro y hy hc
  exact h (((hp y).1 hc) ▸ hy)
section
variable {s d t : Int}
theorem mem_winL (h : okT s d t = true) {w : Wn} : w ∈ winL s d t ↔ ∃ k, firstK s d t ≤ k ∧ k ≤ lastK d t ∧ w = winK s d k := by
  have hc := cntK_eq h
  unfold winL
  rw [if_pos h, List.mem_map]
  constructor
  · rintro ⟨i, hi, rfl⟩
    rw [List.mem_range] at hi
    exact ⟨_, by omega, by omega, rfl⟩
  · rintro ⟨k, h1, h2, rfl⟩
    refine ⟨(k - firstK s d t).toNat, List.mem_range.2 (by omega), ?_⟩
    congr 1; omega
theorem winK_inj (hd : 1 ≤ d) {j k : Int} (h : (winK s d j).lo = (winK s d k).lo) : j = k := by
  have h : j * d = k * d := h
  exact Int.eq_of_mul_eq_mul_right (by omega) h
theorem winL_nodup (s d t : Int) : (winL s d t).Nodup := by
  unfold winL
  split
  · rename_i h
    obtain ⟨⟨h1, h2, h3, h4⟩, h5, h6⟩ := okT_iff.1 h
    rw [List.nodup_iff_pairwise_ne, List.pairwise_map]
    refine List.Pairwise.imp_of_mem (R := fun a b => a ≠ b) ?_ (List.nodup_iff_pairwise_ne.1 List.nodup_range)
    intro a b _ _ hab hc
    have := winK_inj h1 (congrArg Wn.lo hc)
    omega
  · exact List.nodup_nil
theorem win_holds {t' : Int} (h : okT s d t = true) (h' : okT s d t' = true) {w : Wn} (hw : w ∈ winL s d t) : w ∈ winL s d t' ↔ w.lo ≤ t' ∧ t' < w.hi := by
  obtain ⟨⟨h1, h2, h3, h4⟩, h5, h6⟩ := okT_iff.1 h
  obtain ⟨_, h7, h8⟩ := okT_iff.1 h'
  obtain ⟨k, k1, k2, rfl⟩ := (mem_winL h).1 hw
  have h0 := first_nonneg s d t
  rw [mem_winL h', winK_hi h (by omega) k2]
  have hlo : (winK s d k).lo = k * d := rfl
  rw [hlo]
  constructor
  · rintro ⟨j, j1, j2, hj⟩
    obtain rfl : k = j := winK_inj h1 (congrArg Wn.lo hj)
    have e1 := (first_iff (size := s) (t := t') h1 k).1 j1
    have e2 := (last_iff (t := t') h1 k).1 j2
    omega
  · rintro ⟨e1, e2⟩
    exact ⟨k, (first_iff h1 k).2 (by omega), (last_iff h1 k).2 e1, rfl⟩
end
def valsV (s d : Int) (e : Et) : List Vl := (winL s d e.at').map fun w => ⟨e.key, w.lo, w.hi, e.v⟩
def allVals (s d : Int) (es : List Et) : List Vl := es.flatMap (valsV s d)
def plB (x y : Vl) : Bool := (y.key.toList == x.key.toList) && (decide (y.lo = x.lo) && decide (y.hi = x.hi))
theorem plB_iff {x y : Vl} : plB x y = true ↔ y.key = x.key ∧ y.lo = x.lo ∧ y.hi = x.hi := by
  simp only [plB, Bool.and_eq_true, beq_iff_eq, decide_eq_true_eq]
  exact ⟨fun h => ⟨bytes_ext h.1, h.2⟩, fun h => ⟨by rw [h.1], h.2⟩⟩
/-- the values of a key in a window, as the document has them -/
def inWin (key : ByteArray) (lo hi : Int) (e : Et) : Bool := (e.key.toList == key.toList) && (decide (lo ≤ e.at') && decide (e.at' < hi))
def valsR (key : ByteArray) (lo hi : Int) (es : List Et) : List Int := (es.filter (inWin key lo hi)).map Et.v
section
variable {s d k : Int} {es : List Et} {e : Et}
theorem valsV_len : (valsV s d e).length ≤ 16 := by unfold valsV; rw [List.length_map]; exact winL_len _ _ _
theorem allVals_len : (allVals s d es).length ≤ 16 * es.length := by
  induction es with
  | nil => simp [allVals]
  | cons e es ih =>
    have := valsV_len (s := s) (d := d) (e := e)
    simp only [allVals, List.flatMap_cons, List.length_append, List.length_cons] at ih ⊢
    omega
theorem allVals_snoc : allVals s d (es ++ [e]) = allVals s d es ++ valsV s d e := by simp [allVals]
theorem okT_of (hw : winB s d = true) (he : evR e.key e.at' = true) : okT s d e.at' = true := by
  unfold evR at he
  simp only [Bool.and_eq_true, decide_eq_true_eq] at he
  rw [okT, hw, Bool.true_and, Bool.and_eq_true, decide_eq_true_eq, decide_eq_true_eq]
  omega
theorem evR_key (he : evR e.key e.at' = true) : keyB e.key = true := by
  unfold evR at he
  simp only [Bool.and_eq_true] at he
  first | exact he.1 | exact he.1.1 | (simp only [keyB]; simp [he])
theorem valsV_ok (hk : fRight k = true) (hw : winB s d = true) (he : evR e.key e.at' = true) : ∀ x ∈ valsV s d e, okV k x = true := by
  intro x hx
  obtain ⟨w, hw1, rfl⟩ := List.mem_map.1 hx
  obtain ⟨a1, a2, a3⟩ := win_may (okT_of hw he) hw1
  have hn : (oneP k w.lo w.hi e.key e.v).n = 1 := fOne_n hk
  have hky := evR_key he
  unfold okV vP
  rw [hk, Bool.true_and]
  unfold mayB
  simp only [Bool.and_eq_true, decide_eq_true_eq]
  refine ⟨⟨⟨⟨hky, a1⟩, a2⟩, a3⟩, ?_⟩
  rw [hn]; omega
theorem allVals_ok (hk : fRight k = true) (hw : winB s d = true) (he : ∀ e ∈ es, evR e.key e.at' = true) : ∀ x ∈ allVals s d es, okV k x = true := by
  intro x hx
  obtain ⟨e, h1, h2⟩ := List.mem_flatMap.1 hx
  exact valsV_ok hk hw (he e h1) x h2
theorem vals_one (hw : winB s d = true) {t : Int} (ht : okT s d t = true) {w : Wn} (hin : w ∈ winL s d t) (key : ByteArray) (v0 : Int) (he : evR e.key e.at' = true) :
    ((valsV s d e).filter (plB ⟨key, w.lo, w.hi, v0⟩)).map Vl.v = if inWin key w.lo w.hi e then [e.v] else [] := by
  have hh := win_holds ht (okT_of hw he) hin
  unfold valsV
  rw [List.filter_map]
  by_cases hkey : e.key = key
  · have hp : ∀ x : Wn, (plB ⟨key, w.lo, w.hi, v0⟩ ∘ fun w : Wn => (⟨e.key, w.lo, w.hi, e.v⟩ : Vl)) x = true ↔ x = w := by
      intro x
      simp only [Function.comp, plB_iff]
      constructor
      · rintro ⟨_, h1, h2⟩; cases x; cases w; simp_all
      · rintro rfl; exact ⟨hkey, rfl, rfl⟩
    by_cases hm : w ∈ winL s d e.at'
    · rw [filter_one hp (winL_nodup _ _ _) hm]
      have := hh.1 hm
      simp [inWin, hkey, this]
    · rw [filter_none hp hm]
      have : ¬ (w.lo ≤ e.at' ∧ e.at' < w.hi) := fun h => hm (hh.2 h)
      have h2 : inWin key w.lo w.hi e = false := by
        simp only [inWin, hkey, beq_self_eq_true, Bool.true_and, Bool.and_eq_false_imp, decide_eq_true_eq, decide_eq_false_iff_not]
        omega
      simp [h2]
  · have h1 : (winL s d e.at').filter (plB ⟨key, w.lo, w.hi, v0⟩ ∘ fun w : Wn => (⟨e.key, w.lo, w.hi, e.v⟩ : Vl)) = [] := by
      rw [List.filter_eq_nil_iff]
      intro x _ hc
      simp only [Function.comp, plB_iff] at hc
      exact hkey hc.1
    have h2 : inWin key w.lo w.hi e = false := by
      have : ¬ e.key.toList = key.toList := fun h => hkey (bytes_ext h)
      simp [inWin, this]
    rw [h1, h2]; rfl
theorem vals_eq (hw : winB s d = true) {t : Int} (ht : okT s d t = true) {w : Wn} (hin : w ∈ winL s d t) (key : ByteArray) (v0 : Int) (he : ∀ e ∈ es, evR e.key e.at' = true) :
    valsR key w.lo w.hi es = ((allVals s d es).filter (plB ⟨key, w.lo, w.hi, v0⟩)).map Vl.v := by
  induction es with
  | nil => rfl
  | cons e es ih =>
    have h1 := vals_one hw ht hin key v0 (he e (by simp))
    have ih := ih fun x hx => he x (by simp [hx])
    unfold valsR allVals at *
    rw [List.flatMap_cons, List.filter_append, List.map_append, ← ih, h1, List.filter_cons]
    split <;> simp
end
/-! panes of values, place by place -/
def fAllV (k : Int) (vs : List Int) : Acc := vs.foldl (fun a v => fJoin k a (fOne k v)) ⟨0, 0, 0⟩
def paneOf (k : Int) (x : Vl) (vs : List Int) : Pn := ⟨x.lo, x.hi, x.key, (fAllV k vs).n, (fAllV k vs).a, (fAllV k vs).b⟩
def plP (x : Vl) (p : Pn) : Bool := (p.key.toList == x.key.toList) && (decide (p.lo = x.lo) && decide (p.hi = x.hi))
theorem plP_iff {x : Vl} {p : Pn} : plP x p = true ↔ p.key = x.key ∧ p.lo = x.lo ∧ p.hi = x.hi := by
  simp only [plP, Bool.and_eq_true, beq_iff_eq, decide_eq_true_eq]
  exact ⟨fun h => ⟨bytes_ext h.1, h.2⟩, fun h => ⟨by rw [h.1], h.2⟩⟩
section
variable {k : Int} {l : List Pn} {x : Vl} {vs : List Vl}
theorem plP_vP {x y : Vl} : plP x (vP k y) = plB x y := rfl
theorem ins_places {p : Pn} : (insP k l p).any (plP x) = (l.any (plP x) || plP x p) := by
  induction l with
  | nil => simp [insP]
  | cons q l ih =>
    rcases rel3 q p with h | h | h
    · rw [ins_a h, List.any_cons, List.any_cons, ih, Bool.or_assoc]
    · rw [ins_s h, List.any_cons, List.any_cons]
      have h1 : plP x (joinP k q p) = plP x q := rfl
      have h2 : plP x p = plP x q := by unfold plP; rw [h.1, h.2.1, h.2.2]
      rw [h1, h2]
      cases plP x q <;> simp
    · rw [ins_b h, List.any_cons, Bool.or_comm]
theorem rowV_places : (rowV k vs).any (plP x) = vs.any (plB x) := by
  refine snoc_ind (p := fun vs => (rowV k vs).any (plP x) = vs.any (plB x)) rfl ?_ vs
  intro vs y ih
  rw [rowV_snoc, ins_places, ih, plP_vP]
  simp
theorem fAllV_snoc {vs : List Int} {v : Int} : fAllV k (vs ++ [v]) = fJoin k (fAllV k vs) (fOne k v) := by simp [fAllV]
theorem fJoin_zero (hk : fRight k = true) (a : Acc) : fJoin k ⟨0, 0, 0⟩ a = a := by unfold fJoin; simp [hk]
theorem rowV_same (hk : fRight k = true) : ∀ n, ∀ vs : List Vl, vs.length = n + 1 → (∀ y ∈ vs, plB x y = true) → rowV k vs = [paneOf k x (vs.map Vl.v)]
  | 0, vs, hn, h => by
    obtain ⟨y, rfl⟩ := List.length_eq_one_iff.1 hn
    obtain ⟨h1, h2, h3⟩ := plB_iff.1 (h y (by simp))
    have : rowV k [y] = [vP k y] := rfl
    rw [this]
    unfold paneOf
    rw [show fAllV k ([y].map Vl.v) = fJoin k ⟨0, 0, 0⟩ (fOne k y.v) from rfl, fJoin_zero hk]
    unfold vP oneP
    rw [h1, h2, h3]
  | n + 1, vs, hn, h => by
    obtain ⟨ws, y, rfl⟩ : ∃ ws y, vs = ws ++ [y] := ⟨vs.dropLast, vs.getLast (by intro hc; subst hc; simp at hn), (List.dropLast_concat_getLast _).symm⟩
    have ih := rowV_same hk n ws (by simpa using hn) fun z hz => h z (by simp [hz])
    obtain ⟨h1, h2, h3⟩ := plB_iff.1 (h y (by simp))
    rw [rowV_snoc, ih, ins_s ⟨h3.symm, h2.symm, h1.symm⟩, List.map_append, List.map_cons, List.map_nil]
    unfold paneOf
    rw [fAllV_snoc]
    rfl
/-- the document's way: a pane for each place that is not there yet, of all that is of that place -/
def layP (k : Int) (full : List Vl) : List Pn → List Vl → List Pn
  | acc, [] => acc
  | acc, x :: xs => if acc.any (plP x) then layP k full acc xs else layP k full (insP k acc (paneOf k x ((full.filter (plB x)).map Vl.v))) xs
def seenV (pre : List Vl) (y : Vl) : Bool := pre.any fun x => plB x y
theorem plB_comm {x y : Vl} : plB x y = plB y x := by
  rw [Bool.eq_iff_iff, plB_iff, plB_iff]
  exact ⟨fun h => ⟨h.1.symm, h.2.1.symm, h.2.2.symm⟩, fun h => ⟨h.1.symm, h.2.1.symm, h.2.2.symm⟩⟩
theorem plB_trans {x y z : Vl} (h : plB x y = true) : plB x z = plB y z := by
  obtain ⟨h1, h2, h3⟩ := plB_iff.1 h
  rw [Bool.eq_iff_iff, plB_iff, plB_iff, h1, h2, h3]
theorem filter_perm {α : Type} (p q : α → Bool) : ∀ (l : List α), (∀ x ∈ l, p x = true → q x = false) → (l.filter fun x => p x || q x).Perm (l.filter p ++ l.filter q)
  | [], _ => List.Perm.refl _
  | x :: l, h => by
    have ih := filter_perm p q l fun y hy => h y (by simp [hy])
    cases hp : p x
    · cases hq : q x
      · simp [List.filter_cons, hp, hq]; exact ih
      · simp [List.filter_cons, hp, hq]
        exact (ih.cons x).trans List.perm_middle.symm
    · have hq := h x (by simp) hp
      simp [List.filter_cons, hp, hq]
      exact ih
end
end Go.Proofs.Ytimlkhbedhjehaa
namespace Go.Proofs.Ytimlkhbedhjehaa
open Go.RowKit
set_option linter.unusedSimpArgs false
set_option linter.unusedVariables false
section
variable {k : Int} {l vs ws : List Vl} {x : Vl}
theorem rowM_good (h : fRight k = true) (hl : l.length ≤ 1000000) : (∀ p ∈ rowV k l, GoodP p) ∧ sumN (rowV k l) = l.length := by
  have := insAll_good (k := k) (l := []) h (by simp) (vPs_good (l := l) h) (by rw [vPs_sum h]; simp [sumN]; omega)
  rw [vPs_sum h] at this
  exact ⟨this.1, by rw [rowV, this.2]; simp [sumN]⟩
theorem rowM_perm {m : List Vl} (hp : l.Perm m) (hl : l.length ≤ 1000000) (h : ∀ x ∈ l, okV k x = true) : rowV k l = rowV k m := by
  cases l with
  | nil => rw [List.nil_perm.1 hp]
  | cons x l =>
    obtain ⟨hk, _⟩ := okV_right (h x List.mem_cons_self)
    exact insAll_perm hk (hp.map (vP k)) (by simp) (vPs_good hk) (by rw [vPs_sum hk]; simp [sumN] at hl ⊢; omega)
theorem rowM_mono : (rowV k l).length ≤ (rowV k (l ++ ws)).length := by
  refine snoc_ind (p := fun ws => (rowV k l).length ≤ (rowV k (l ++ ws)).length) (by simp) ?_ ws
  intro ws x ih
  rw [← List.append_assoc, rowV_snoc]
  exact Nat.le_trans ih ins_mono
theorem rowM_put (hk : fRight k = true) (hl : l.length + 1 ≤ 1000000) (h2 : (rowV k l).length ≤ 2000) :
    putL k (rowV k l) (vP k x) = if (rowV k (l ++ [x])).length ≤ 2000 then some (rowV k (l ++ [x])) else none := by
  obtain ⟨g1, g2⟩ := rowM_good (l := l) hk (by omega)
  have hn : okN k (rowV k l) (vP k x) := by
    refine okN_iff.2 fun hI p hp => ?_
    have hm := List.mem_of_getElem? hp
    have h3 := sumN_mem g1 hm
    have h4 := joinP_good (k := k) hk (g1 p hm) (vP_good (x := x) hk) (by rw [vP_n hk]; omega)
    have h5 := (g1 p hm).2
    rw [h4.2, vP_n hk]; omega
  rw [rowV_snoc]
  split
  · rename_i h
    exact (putL_iff h2).2 ⟨rfl, hn, h⟩
  · rename_i h
    cases hp : putL k (rowV k l) (vP k x) with
    | none => rfl
    | some r =>
      obtain ⟨e, _, h4⟩ := (putL_iff h2).1 hp
      subst e
      exact absurd h4 h
theorem rowM_right : (∀ x ∈ l, okV k x = true) → l.length ≤ 1000000 → (rowV k l).length ≤ 2000 → rightL (rowV k l) = true := by
  refine snoc_ind (p := fun l => (∀ x ∈ l, okV k x = true) → l.length ≤ 1000000 → (rowV k l).length ≤ 2000 → rightL (rowV k l) = true) ?_ ?_ l
  · intro _ _ _; rfl
  · intro l x ih h hl h2
    obtain ⟨hk, hm⟩ := okV_right (h x (by simp))
    rw [List.length_append] at hl
    simp only [List.length_cons, List.length_nil] at hl
    have h3 : (rowV k l).length ≤ 2000 := Nat.le_trans rowM_mono h2
    have ih := ih (fun y hy => h y (by simp [hy])) (by omega) h3
    have hp := rowM_put (x := x) hk (l := l) (by omega) h3
    rw [if_pos h2] at hp
    exact putL_right hp ih hm
theorem rowM_fold (hk : fRight k = true) : ∀ {ws vs : List Vl}, vs.length + ws.length ≤ 1000000 → (rowV k vs).length ≤ 2000 →
    (ws.map (vP k)).foldlM (putL k) (rowV k vs) = if (rowV k (vs ++ ws)).length ≤ 2000 then some (rowV k (vs ++ ws)) else none
  | [], vs, _, h2 => by simp [h2]
  | x :: ws, vs, hl, h2 => by
    rw [List.length_cons] at hl
    rw [List.map_cons, List.foldlM_cons, rowM_put hk (by omega) h2]
    have e : vs ++ x :: ws = (vs ++ [x]) ++ ws := by simp
    by_cases h3 : (rowV k (vs ++ [x])).length ≤ 2000
    · rw [if_pos h3, e]
      exact rowM_fold hk (by simp; omega) h3
    · rw [if_neg h3, if_neg]
      · rfl
      · intro h4
        rw [e] at h4
        exact h3 (Nat.le_trans rowM_mono h4)
/-- an event put into its windows -/
theorem take_row {s d : Int} {e : Et} (hk : fRight k = true) (hw : winB s d = true) (he : evR e.key e.at' = true) (hok : ∀ x ∈ vs, okV k x = true) (hl : vs.length ≤ 900000) (h2 : (rowV k vs).length ≤ 2000) :
    takeW k e.key e.v (rowV k vs) (winL s d e.at') = if (rowV k (vs ++ valsV s d e)).length ≤ 2000 then (rowV k (vs ++ valsV s d e), 0) else ([], 3) := by
  have hl2 := valsV_len (s := s) (d := d) (e := e)
  have hv := valsV_ok (k := k) hk hw he
  have h3 : ((winL s d e.at').map fun w => oneP k w.lo w.hi e.key e.v) = (valsV s d e).map (vP k) := by
    unfold valsV
    rw [List.map_map]
    rfl
  rw [takeW_fold hk (rowM_right hok (by omega) h2) (fun w hw' => (okV_right (hv ⟨e.key, w.lo, w.hi, e.v⟩ (List.mem_map.2 ⟨w, hw', rfl⟩))).2), h3, rowM_fold hk (by omega) h2]
  by_cases h4 : (rowV k (vs ++ valsV s d e)).length ≤ 2000
  · rw [if_pos h4, if_pos h4]
  · rw [if_neg h4, if_neg h4]
end
/-- what must come out of all events that are kept -/
def outR (k : Int) (vs : List Vl) : List Rs × Int := if (rowV k vs).length ≤ 2000 then (resultsL k (rowV k vs), 0) else ([], 3)
theorem outR_perm {k : Int} {vs ws : List Vl} (hp : vs.Perm ws) (hl : vs.length ≤ 1000000) (h : ∀ x ∈ vs, okV k x = true) : outR k vs = outR k ws := by
  unfold outR
  rw [rowM_perm hp hl h]
section
variable {k : Int} {full pre : List Vl} {x : Vl}
theorem seen_all : full.filter (seenV full) = full := by
  rw [List.filter_eq_self]
  intro y hy
  simp only [seenV, List.any_eq_true]
  exact ⟨y, hy, plB_iff.2 ⟨rfl, rfl, rfl⟩⟩
theorem seen_none : full.filter (seenV []) = [] := by
  rw [List.filter_eq_nil_iff]
  intro y _; simp [seenV]
theorem filter_parts {α : Type} (p : α → Bool) : ∀ l : List α, l.Perm (l.filter p ++ l.filter fun x => !p x)
  | [] => List.Perm.refl _
  | x :: l => by
    have ih := filter_parts p l
    cases hp : p x
    · simp [List.filter_cons, hp]
      exact (ih.cons x).trans List.perm_middle.symm
    · simp [List.filter_cons, hp]
      exact ih
theorem lay_step (hk : fRight k = true) {full pre : List Vl} {x : Vl} (hok : ∀ y ∈ full, okV k y = true) (hl : full.length ≤ 1000000) (hx : x ∈ full) :
    (if (rowV k (full.filter (seenV pre))).any (plP x) then rowV k (full.filter (seenV pre)) else insP k (rowV k (full.filter (seenV pre))) (paneOf k x ((full.filter (plB x)).map Vl.v))) = rowV k (full.filter (seenV (pre ++ [x]))) := by
  have hseen : seenV (pre ++ [x]) = fun y => seenV pre y || plB x y := by funext y; simp [seenV]
  have hany : (rowV k (full.filter (seenV pre))).any (plP x) = seenV pre x := by
    rw [rowV_places, Bool.eq_iff_iff, List.any_eq_true]
    constructor
    · rintro ⟨y, hy, h⟩
      obtain ⟨_, h2⟩ := List.mem_filter.1 hy
      simp only [seenV, List.any_eq_true] at h2 ⊢
      obtain ⟨z, hz, h3⟩ := h2
      exact ⟨z, hz, by rw [plB_comm, ← plB_trans (plB_comm.trans h)]; rw [plB_comm]; exact h3⟩
    · intro h
      exact ⟨x, List.mem_filter.2 ⟨hx, h⟩, plB_iff.2 ⟨rfl, rfl, rfl⟩⟩
  rw [hany]
  cases hs : seenV pre x
  · simp only [Bool.false_eq_true, if_false]
    have hdis : ∀ y ∈ full, seenV pre y = true → plB x y = false := by
      intro y _ h
      cases hc : plB x y
      · rfl
      · simp only [seenV, List.any_eq_true] at h
        obtain ⟨z, hz, h3⟩ := h
        have : seenV pre x = true := by
          simp only [seenV, List.any_eq_true]
          exact ⟨z, hz, by rw [plB_comm, plB_trans hc, plB_comm]; exact h3⟩
        rw [hs] at this; cases this
    have hperm := filter_perm (seenV pre) (plB x) full hdis
    have hlen : (full.filter fun y => seenV pre y || plB x y).length ≤ 1000000 := Nat.le_trans (List.length_filter_le _ _) hl
    rw [hseen, rowM_perm hperm hlen fun y hy => hok y (List.mem_filter.1 hy).1]
    have hB : ∀ y ∈ full.filter (plB x), plB x y = true := fun y hy => (List.mem_filter.1 hy).2
    have hBp : 0 < (full.filter (plB x)).length := List.length_pos_of_mem (List.mem_filter.2 ⟨hx, plB_iff.2 ⟨rfl, rfl, rfl⟩⟩)
    have h1 := rowV_same hk ((full.filter (plB x)).length - 1) _ (by omega) hB
    have hlp := hperm.length_eq
    rw [List.length_append] at hlp
    obtain ⟨g1, g2⟩ := rowM_good (l := full.filter (seenV pre)) hk (by omega)
    have h2 := insAll_merge (k := k) hk (vs := (full.filter (plB x)).map (vP k)) (l := rowV k (full.filter (seenV pre))) (bs := []) g1 (by simp) (vPs_good hk) (by rw [g2, vPs_sum hk]; simp [sumN]; omega)
    have h3 : insAll k [] ((full.filter (plB x)).map (vP k)) = [paneOf k x ((full.filter (plB x)).map Vl.v)] := h1
    rw [h3] at h2
    have h4 : insAll k (rowV k (full.filter (seenV pre))) [] = rowV k (full.filter (seenV pre)) := rfl
    rw [h4] at h2
    have h5 : insAll k (rowV k (full.filter (seenV pre))) [paneOf k x ((full.filter (plB x)).map Vl.v)] = insP k (rowV k (full.filter (seenV pre))) (paneOf k x ((full.filter (plB x)).map Vl.v)) := rfl
    rw [← h5, h2]
    unfold rowV
    rw [List.map_append, insAll_app]
  · simp only [if_true]
    congr 1
    rw [hseen]
    apply List.filter_congr
    intro y _
    cases hc : plB x y
    · simp
    · have : seenV pre y = true := by
        simp only [seenV, List.any_eq_true] at hs ⊢
        obtain ⟨z, hz, h3⟩ := hs
        exact ⟨z, hz, by rw [plB_comm, ← plB_trans hc, plB_comm]; exact h3⟩
      simp [this]
theorem seen_mono (hl : full.length ≤ 1000000) (hok : ∀ y ∈ full, okV k y = true) : (rowV k (full.filter (seenV pre))).length ≤ (rowV k full).length := by
  rw [rowM_perm (filter_parts (seenV pre) full) hl hok]
  exact rowM_mono
end
end Go.Proofs.Ytimlkhbedhjehaa
