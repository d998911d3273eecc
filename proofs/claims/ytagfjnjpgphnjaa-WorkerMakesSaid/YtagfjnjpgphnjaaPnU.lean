/-
  Rows of panes in plain Lean: one put into a sorted row; rows joined. No program in sight.
-/
import Derived.Test.YtagfjnjpgphnjaaPnL
import Derived.Test.YtagfjnjpgphnjaaPnH
namespace Go.Proofs.Ytagfjnjpgphnjaa
open Go.RowKit
set_option linter.unusedSimpArgs false
set_option linter.unusedVariables false
/-- a pane put into a row -/
def insP (k : Int) : List Pn → Pn → List Pn
  | [], x => [x]
  | p :: l, x => if ahead p x = true then p :: insP k l x else if ahead x p = true then x :: p :: l else joinP k p x :: l
section
variable {k : Int} {l xs : List Pn} {p q x y : Pn}
theorem rel3 (p x : Pn) : ahead p x = true ∨ sameP p x ∨ ahead x p = true := by
  cases h : ahead p x
  · cases h2 : ahead x p
    · exact .inr (.inl (ahead_total h h2))
    · exact .inr (.inr rfl)
  · exact .inl rfl
theorem ins_a (h : ahead p x = true) : insP k (p :: l) x = p :: insP k l x := by simp [insP, h]
theorem ins_s (h : sameP p x) : insP k (p :: l) x = joinP k p x :: l := by simp [insP, same_ahead h, same_ahead h.symm]
theorem ins_b (h : ahead x p = true) : insP k (p :: l) x = x :: p :: l := by simp [insP, h, ahead_asymm h]
theorem joinP_same (p x : Pn) : sameP (joinP k p x) p := ⟨rfl, rfl, rfl⟩
theorem ins_new : isL xs x = false → insP k xs x = xs.take (atL xs x) ++ [x] ++ xs.drop (atL xs x) := by
  induction xs with
  | nil => intro _; rfl
  | cons p l ih =>
    intro h
    rcases rel3 p x with h1 | h1 | h1
    · rw [ins_a h1]
      have e : atL (p :: l) x = atL l x + 1 := by rw [atL_cons, if_pos h1]
      rw [e]
      have h2 : isL l x = false := by unfold isL at h ⊢; rw [e] at h; simpa using h
      rw [ih h2]
      simp
    · exfalso
      have e : atL (p :: l) x = 0 := by rw [atL_cons, if_neg (by rw [same_ahead h1]; simp)]
      unfold isL at h
      rw [e] at h
      simp [cmpP_zero.2 h1] at h
    · rw [ins_b h1]
      have e : atL (p :: l) x = 0 := by rw [atL_cons, if_neg (by rw [ahead_asymm h1]; simp)]
      rw [e]; simp
theorem ins_join : isL xs x = true → xs[atL xs x]? = some p → insP k xs x = xs.set (atL xs x) (joinP k p x) := by
  induction xs with
  | nil => intro h; simp [isL] at h
  | cons r l ih =>
    intro h hp
    rcases rel3 r x with h1 | h1 | h1
    · rw [ins_a h1]
      have e : atL (r :: l) x = atL l x + 1 := by rw [atL_cons, if_pos h1]
      rw [e] at hp ⊢
      have h2 : isL l x = true := by unfold isL at h ⊢; rw [e] at h; simpa using h
      rw [ih h2 (by simpa using hp)]
      simp
    · rw [ins_s h1]
      have e : atL (r :: l) x = 0 := by rw [atL_cons, if_neg (by rw [same_ahead h1]; simp)]
      rw [e] at hp ⊢
      simp at hp
      subst hp
      simp
    · exfalso
      have e : atL (r :: l) x = 0 := by rw [atL_cons, if_neg (by rw [ahead_asymm h1]; simp)]
      unfold isL at h
      rw [e] at h
      simp only [List.getElem?_cons_zero, decide_eq_true_eq] at h
      rw [same_ahead (cmpP_zero.1 h).symm] at h1
      cases h1
theorem putL_ins {r : List Pn} (h : putL k xs x = some r) : r = insP k xs x := by
  unfold putL at h
  cases hI : isL xs x
  · rw [hI] at h
    dsimp only at h
    split at h
    · cases h
    · injection h with h
      rw [ins_new hI, ← h]
  · obtain ⟨p, hp, _⟩ := isL_some hI
    rw [hI, hp] at h
    dsimp only at h
    split at h
    · cases h
    · injection h with h
      rw [ins_join hI hp, ← h]
theorem ins_ahead {r : Pn} (h1 : ∀ p ∈ l, ahead r p = true) (h2 : ahead r x = true) : ∀ p ∈ insP k l x, ahead r p = true := by
  induction l with
  | nil => intro p hp; simp [insP] at hp; subst hp; exact h2
  | cons q l ih =>
    have ih := ih (fun p hp => h1 p (List.mem_cons_of_mem _ hp))
    intro p hp
    rcases rel3 q x with h | h | h
    · rw [ins_a h] at hp
      rcases List.mem_cons.1 hp with rfl | hp
      · exact h1 _ List.mem_cons_self
      · exact ih p hp
    · rw [ins_s h] at hp
      rcases List.mem_cons.1 hp with rfl | hp
      · rw [sameP.right (joinP_same q x)]; exact h1 _ List.mem_cons_self
      · exact h1 _ (List.mem_cons_of_mem _ hp)
    · rw [ins_b h] at hp
      rcases List.mem_cons.1 hp with rfl | hp
      · exact h2
      · exact h1 _ hp
theorem ins_sorted (h : l.Pairwise (fun p q => ahead p q = true)) : (insP k l x).Pairwise (fun p q => ahead p q = true) := by
  induction l with
  | nil => simp [insP]
  | cons q l ih =>
    rw [List.pairwise_cons] at h
    rcases rel3 q x with h1 | h1 | h1
    · rw [ins_a h1, List.pairwise_cons]
      exact ⟨ins_ahead h.1 h1, ih h.2⟩
    · rw [ins_s h1, List.pairwise_cons]
      exact ⟨fun p hp => by rw [sameP.left (joinP_same q x)]; exact h.1 p hp, h.2⟩
    · rw [ins_b h1, List.pairwise_cons, List.pairwise_cons]
      refine ⟨fun p hp => ?_, h⟩
      rcases List.mem_cons.1 hp with rfl | hp
      · exact h1
      · exact ahead_trans h1 (h.1 p hp)
theorem ins_mem : ∀ q ∈ insP k l x, q ∈ l ∨ q = x ∨ ∃ p ∈ l, q = joinP k p x ∧ isL l x = true ∧ l[atL l x]? = some p := by
  induction l with
  | nil => intro q hq; simp [insP] at hq; exact .inr (.inl hq)
  | cons p l ih =>
    intro q hq
    rcases rel3 p x with h | h | h
    · rw [ins_a h] at hq
      have e : atL (p :: l) x = atL l x + 1 := by rw [atL_cons, if_pos h]
      rcases List.mem_cons.1 hq with rfl | hq
      · exact .inl List.mem_cons_self
      · rcases ih q hq with h1 | h1 | ⟨r, h1, h2, h3, h4⟩
        · exact .inl (List.mem_cons_of_mem _ h1)
        · exact .inr (.inl h1)
        · refine .inr (.inr ⟨r, List.mem_cons_of_mem _ h1, h2, ?_, ?_⟩)
          · unfold isL at h3 ⊢; rw [e]; simpa using h3
          · rw [e]; simpa using h4
    · rw [ins_s h] at hq
      have e : atL (p :: l) x = 0 := by rw [atL_cons, if_neg (by rw [same_ahead h]; simp)]
      rcases List.mem_cons.1 hq with rfl | hq
      · refine .inr (.inr ⟨p, List.mem_cons_self, rfl, ?_, ?_⟩)
        · unfold isL; rw [e]; simp [cmpP_zero.2 h]
        · rw [e]; simp
      · exact .inl (List.mem_cons_of_mem _ hq)
    · rw [ins_b h] at hq
      rcases List.mem_cons.1 hq with rfl | hq
      · exact .inr (.inl rfl)
      · exact .inl hq
theorem ins_len : (insP k l x).length ≤ l.length + 1 := by
  induction l with
  | nil => simp [insP]
  | cons p l ih =>
    rcases rel3 p x with h | h | h
    · rw [ins_a h]; simp; omega
    · rw [ins_s h]; simp
    · rw [ins_b h]; simp
theorem putL_len {r : List Pn} (h : putL k xs x = some r) (hx : xs.length ≤ 2000) : r.length ≤ 2000 := by
  unfold putL at h
  cases hI : isL xs x
  · rw [hI] at h
    dsimp only at h
    split at h
    · cases h
    · injection h with h
      rw [← h]
      have := atL_le xs x
      simp only [List.length_append, List.length_take, List.length_drop, List.length_cons, List.length_nil]
      omega
  · obtain ⟨p, hp, _⟩ := isL_some hI
    rw [hI, hp] at h
    dsimp only at h
    split at h
    · cases h
    · injection h with h
      rw [← h, List.length_set]; exact hx
theorem putL_join {r : List Pn} (h : putL k xs x = some r) (hI : isL xs x = true) (hp : xs[atL xs x]? = some p) : 1 ≤ (joinP k p x).n := by
  unfold putL at h
  rw [hI, hp] at h
  dsimp only at h
  split at h
  · cases h
  · omega
theorem may_join (h1 : mayB p = true) (h2 : 1 ≤ (joinP k p x).n) : mayB (joinP k p x) = true := by
  simp only [mayB, Bool.and_eq_true, decide_eq_true_eq] at h1 ⊢
  exact ⟨h1.1, h2⟩
theorem putL_right {r : List Pn} (h : putL k xs x = some r) (hx : rightL xs = true) (hm : mayB x = true) : rightL r = true := by
  obtain ⟨r1, r2, r3⟩ := rightL_ok hx
  have e := putL_ins h
  have hl := putL_len h r1
  refine rightL_mk hl ?_ ?_
  · intro q hq
    rw [e] at hq
    rcases ins_mem q hq with h1 | h1 | ⟨p, h1, h2, h3, h4⟩
    · exact r2 q h1
    · rw [h1]; exact hm
    · rw [h2]; exact may_join (r2 p h1) (putL_join h h3 h4)
  · rw [e]; exact ins_sorted r3
end
/-- all panes of a row, of few values -/
def accP (p : Pn) : Acc := ⟨p.n, p.a, p.b⟩
def GoodP (p : Pn) : Prop := Good (accP p) ∧ 1 ≤ p.n
def sumN (l : List Pn) : Int := (l.map Pn.n).sum
section
variable {k : Int} {l xs : List Pn} {p q x y : Pn}
theorem joinP_acc (p x : Pn) : accP (joinP k p x) = fJoin k (accP p) (accP x) := rfl
theorem sumN_nonneg (h : ∀ p ∈ l, GoodP p) : (l.length : Int) ≤ sumN l := by
  induction l with
  | nil => simp [sumN]
  | cons p l ih =>
    have h1 := (h p List.mem_cons_self).2
    have h2 := ih (fun q hq => h q (List.mem_cons_of_mem _ hq))
    simp only [sumN, List.map_cons, List.sum_cons, List.length_cons] at h2 ⊢
    omega
theorem sumN_mem (h : ∀ p ∈ l, GoodP p) (hp : p ∈ l) : p.n ≤ sumN l := by
  induction l with
  | nil => cases hp
  | cons q l ih =>
    have h1 := (h q List.mem_cons_self).2
    have h0 := fun r hr => h r (List.mem_cons_of_mem q hr)
    have h2 := sumN_nonneg h0
    have e : sumN (q :: l) = q.n + sumN l := by simp [sumN]
    rw [e]
    rcases List.mem_cons.1 hp with rfl | hp
    · omega
    · have := ih h0 hp; omega
theorem joinP_good (hk : fRight k = true) (hp : GoodP p) (hx : GoodP x) (hs : p.n + x.n ≤ 1000000000) : GoodP (joinP k p x) ∧ (joinP k p x).n = p.n + x.n := by
  have hn : (joinP k p x).n = p.n + x.n := join_n hk hp.1 hx.1
  exact ⟨⟨join_good hk hp.1 hx.1 hs, by have := hp.2; have := hx.2; omega⟩, hn⟩
theorem ins_good (hk : fRight k = true) (h : ∀ p ∈ l, GoodP p) (hx : GoodP x) (hs : sumN l + x.n ≤ 1000000000) : (∀ p ∈ insP k l x, GoodP p) ∧ sumN (insP k l x) = sumN l + x.n := by
  induction l with
  | nil => simp [insP, hx, sumN]
  | cons q l ih =>
    have h0 := fun r hr => h r (List.mem_cons_of_mem q hr)
    have hq := h q List.mem_cons_self
    have e : sumN (q :: l) = q.n + sumN l := by simp [sumN]
    have h2 := sumN_nonneg h0
    rw [e] at hs ⊢
    have hq2 := hq.2
    rcases rel3 q x with h1 | h1 | h1
    · obtain ⟨i1, i2⟩ := ih h0 (by omega)
      rw [ins_a h1]
      refine ⟨fun p hp => ?_, ?_⟩
      · rcases List.mem_cons.1 hp with rfl | hp
        · exact hq
        · exact i1 p hp
      · have : sumN (q :: insP k l x) = q.n + sumN (insP k l x) := by simp [sumN]
        rw [this, i2]; omega
    · obtain ⟨j1, j2⟩ := joinP_good hk hq hx (by omega)
      rw [ins_s h1]
      refine ⟨fun p hp => ?_, ?_⟩
      · rcases List.mem_cons.1 hp with rfl | hp
        · exact j1
        · exact h0 p hp
      · have : sumN (joinP k q x :: l) = (joinP k q x).n + sumN l := by simp [sumN]
        rw [this, j2]; omega
    · rw [ins_b h1]
      refine ⟨fun p hp => ?_, ?_⟩
      · rcases List.mem_cons.1 hp with rfl | hp
        · exact hx
        · exact h p hp
      · have : sumN (x :: q :: l) = x.n + (q.n + sumN l) := by simp [sumN]
        rw [this]; omega
theorem pn_ext {p q : Pn} (h1 : p.lo = q.lo) (h2 : p.hi = q.hi) (h3 : p.key = q.key) (h4 : accP p = accP q) : p = q := by
  cases p; cases q
  simp only [accP, Acc.mk.injEq] at h1 h2 h3 h4
  obtain ⟨h4, h5, h6⟩ := h4
  subst h1; subst h2; subst h3; subst h4; subst h5; subst h6; rfl
theorem joinP_comm (h : sameP x y) (hx : GoodP x) (hy : GoodP y) : joinP k x y = joinP k y x :=
  pn_ext h.2.1 h.1 h.2.2 (by rw [joinP_acc, joinP_acc]; exact join_comm hx.1 hy.1)
theorem joinP_assoc (hp : GoodP p) (hx : GoodP x) (hy : GoodP y) : joinP k (joinP k p x) y = joinP k p (joinP k x y) :=
  pn_ext rfl rfl rfl (by rw [joinP_acc, joinP_acc, joinP_acc, joinP_acc]; exact join_assoc hp.1 hx.1 hy.1)
theorem joinP_swap (hp : GoodP p) (hx : GoodP x) (hy : GoodP y) : joinP k (joinP k p x) y = joinP k (joinP k p y) x :=
  pn_ext rfl rfl rfl (by
    rw [joinP_acc, joinP_acc, joinP_acc, joinP_acc, join_assoc hp.1 hx.1 hy.1, join_assoc hp.1 hy.1 hx.1, join_comm hx.1 hy.1])
theorem ins_comm (h : ∀ p ∈ l, GoodP p) (hx : GoodP x) (hy : GoodP y) : insP k (insP k l x) y = insP k (insP k l y) x := by
  induction l with
  | nil =>
    show insP k [x] y = insP k [y] x
    rcases rel3 x y with h1 | h1 | h1
    · rw [ins_a h1, ins_b h1]; rfl
    · rw [ins_s h1, ins_s h1.symm, joinP_comm h1 hx hy]
    · rw [ins_b h1, ins_a h1]; rfl
  | cons p l ih =>
    have hp := h p List.mem_cons_self
    have ih := ih (fun q hq => h q (List.mem_cons_of_mem _ hq))
    rcases rel3 p x with h1 | h1 | h1
    · rw [ins_a (l := l) h1]
      rcases rel3 p y with h2 | h2 | h2
      · rw [ins_a h2, ins_a h2, ins_a h1, ih]
      · rw [ins_s h2, ins_s h2, ins_a (by rw [sameP.left (joinP_same p y)]; exact h1)]
      · rw [ins_b h2, ins_b h2, ins_a (ahead_trans h2 h1), ins_a h1]
    · rw [ins_s (l := l) h1]
      rcases rel3 p y with h2 | h2 | h2
      · rw [ins_a h2, ins_s h1, ins_a (by rw [sameP.left (joinP_same p x)]; exact h2)]
      · rw [ins_s h2, ins_s (show sameP (joinP k p x) y from h2), ins_s (show sameP (joinP k p y) x from h1), joinP_swap hp hx hy]
      · rw [ins_b h2, ins_b (show ahead y (joinP k p x) = true by rw [sameP.right (joinP_same p x)]; exact h2), ins_a (show ahead y x = true by rw [← sameP.right h1]; exact h2), ins_s h1]
    · rw [ins_b (l := l) h1]
      rcases rel3 p y with h2 | h2 | h2
      · rw [ins_a h2, ins_b h1, ins_a (ahead_trans h1 h2), ins_a h2]
      · rw [ins_s h2, ins_a (show ahead x y = true by rw [← sameP.right h2]; exact h1), ins_s h2, ins_b (show ahead x (joinP k p y) = true by rw [sameP.right (joinP_same p y)]; exact h1)]
      · rw [ins_b h2]
        rcases rel3 x y with h3 | h3 | h3
        · rw [ins_a h3, ins_b h3, ins_b h2]
        · rw [ins_s h3, ins_s h3.symm, joinP_comm h3 hx hy]
        · rw [ins_b h3, ins_a h3, ins_b h1]
theorem ins_joined (h : ∀ p ∈ l, GoodP p) (hp : GoodP p) (hx : GoodP x) (hs : sameP p x) : insP k l (joinP k p x) = insP k (insP k l p) x := by
  induction l with
  | nil => show [joinP k p x] = insP k [p] x; rw [ins_s hs]
  | cons q l ih =>
    have hq := h q List.mem_cons_self
    have ih := ih (fun r hr => h r (List.mem_cons_of_mem _ hr))
    rcases rel3 q p with h1 | h1 | h1
    · rw [ins_a h1, ins_a (by rw [sameP.right (joinP_same p x)]; exact h1), ins_a (by rw [← sameP.right hs]; exact h1), ih]
    · have h2 : sameP q x := ⟨h1.1.trans hs.1, h1.2.1.trans hs.2.1, h1.2.2.trans hs.2.2⟩
      rw [ins_s h1, ins_s (show sameP q (joinP k p x) from h1), ins_s (show sameP (joinP k q p) x from h2), joinP_assoc hq hp hx]
    · rw [ins_b h1, ins_b (by rw [sameP.left (joinP_same p x)]; exact h1), ins_s hs]
/-- many put, one behind the other -/
def insAll (k : Int) (l : List Pn) (vs : List Pn) : List Pn := vs.foldl (insP k) l
theorem insAll_snoc {vs : List Pn} : insAll k l (vs ++ [x]) = insP k (insAll k l vs) x := by simp [insAll]
theorem insAll_app {vs ws : List Pn} : insAll k l (vs ++ ws) = insAll k (insAll k l vs) ws := by simp [insAll]
theorem sumN_app {vs ws : List Pn} : sumN (vs ++ ws) = sumN vs + sumN ws := by simp [sumN]
theorem sumN_perm {vs ws : List Pn} (h : vs.Perm ws) : sumN vs = sumN ws := by
  induction h with
  | nil => rfl
  | cons x _ ih => simp only [sumN, List.map_cons, List.sum_cons] at ih ⊢; rw [ih]
  | swap x y l => simp only [sumN, List.map_cons, List.sum_cons]; omega
  | trans _ _ ih1 ih2 => rw [ih1, ih2]
theorem insAll_good {vs : List Pn} (hk : fRight k = true) : ∀ {l : List Pn}, (∀ p ∈ l, GoodP p) → (∀ p ∈ vs, GoodP p) → sumN l + sumN vs ≤ 1000000000 → (∀ p ∈ insAll k l vs, GoodP p) ∧ sumN (insAll k l vs) = sumN l + sumN vs := by
  induction vs with
  | nil => intro l h1 h2 h3; exact ⟨h1, by simp [insAll, sumN]⟩
  | cons x vs ih =>
    intro l h1 h2 h3
    have hx := h2 x List.mem_cons_self
    have h4 := fun r hr => h2 r (List.mem_cons_of_mem x hr)
    have h5 := sumN_nonneg h4
    have e : sumN (x :: vs) = x.n + sumN vs := by simp [sumN]
    rw [e] at h3 ⊢
    obtain ⟨i1, i2⟩ := ins_good hk h1 hx (by omega)
    obtain ⟨j1, j2⟩ := ih i1 h4 (by rw [i2]; omega)
    exact ⟨j1, by show sumN (insAll k (insP k l x) vs) = _; rw [j2, i2]; omega⟩
theorem insAll_sorted {vs : List Pn} : ∀ {l : List Pn}, l.Pairwise (fun p q => ahead p q = true) → (insAll k l vs).Pairwise (fun p q => ahead p q = true) := by
  induction vs with
  | nil => intro l h; exact h
  | cons x vs ih => intro l h; exact ih (ins_sorted h)
theorem insAll_perm (hk : fRight k = true) {vs ws : List Pn} (hp : vs.Perm ws) : ∀ {l : List Pn}, (∀ p ∈ l, GoodP p) → (∀ p ∈ vs, GoodP p) → sumN l + sumN vs ≤ 1000000000 → insAll k l vs = insAll k l ws := by
  induction hp with
  | nil => intros; rfl
  | cons x hp ih =>
    rename_i l1 l2
    intro l h1 h2 h3
    have hx := h2 x List.mem_cons_self
    have h4 := fun r hr => h2 r (List.mem_cons_of_mem x hr)
    have h5 := sumN_nonneg h4
    have e : sumN (x :: l1) = x.n + sumN l1 := by simp [sumN]
    rw [e] at h3
    obtain ⟨i1, i2⟩ := ins_good hk h1 hx (by omega)
    exact ih i1 h4 (by rw [i2]; omega)
  | swap x y vs =>
    intro l h1 h2 h3
    show insAll k (insP k (insP k l y) x) vs = insAll k (insP k (insP k l x) y) vs
    rw [ins_comm h1 (h2 y List.mem_cons_self) (h2 x (List.mem_cons_of_mem _ List.mem_cons_self))]
  | trans hp1 _ ih1 ih2 =>
    rename_i l1 l2 l3 _
    intro l h1 h2 h3
    rw [ih1 h1 h2 h3]
    refine ih2 h1 (fun p hp => h2 p (hp1.mem_iff.2 hp)) ?_
    rw [← sumN_perm hp1]; exact h3
/-- a row made of values, put: as the values are -/
theorem insAll_ins (hk : fRight k = true) {bs : List Pn} (hx : GoodP x) : ∀ {l : List Pn}, (∀ p ∈ l, GoodP p) → (∀ p ∈ bs, GoodP p) → sumN l + sumN bs + x.n ≤ 1000000000 → insAll k l (insP k bs x) = insP k (insAll k l bs) x := by
  have key : ∀ (bs l : List Pn), (∀ p ∈ l, GoodP p) → (∀ p ∈ bs, GoodP p) → sumN l + sumN bs + x.n ≤ 1000000000 → insAll k (insP k l x) bs = insP k (insAll k l bs) x := by
    intro bs
    induction bs with
    | nil => intros; rfl
    | cons q bs ih =>
      intro l h1 h2 h3
      have hq := h2 q List.mem_cons_self
      have h4 := fun r hr => h2 r (List.mem_cons_of_mem q hr)
      have h5 := sumN_nonneg h4
      have e : sumN (q :: bs) = q.n + sumN bs := by simp [sumN]
      rw [e] at h3
      have h6 := hx.2
      obtain ⟨i1, i2⟩ := ins_good hk h1 hq (by omega)
      show insAll k (insP k (insP k l x) q) bs = insP k (insAll k (insP k l q) bs) x
      rw [ins_comm h1 hx hq]
      exact ih _ i1 h4 (by rw [i2]; omega)
  induction bs with
  | nil => intros; rfl
  | cons q bs ih =>
    intro l h1 h2 h3
    have hq := h2 q List.mem_cons_self
    have h4 := fun r hr => h2 r (List.mem_cons_of_mem q hr)
    have h5 := sumN_nonneg h4
    have e : sumN (q :: bs) = q.n + sumN bs := by simp [sumN]
    rw [e] at h3
    have h6 := hx.2
    have h7 := hq.2
    obtain ⟨i1, i2⟩ := ins_good hk h1 hq (by omega)
    rcases rel3 q x with h | h | h
    · rw [ins_a h]
      exact ih i1 h4 (by rw [i2]; omega)
    · rw [ins_s h]
      show insAll k (insP k l (joinP k q x)) bs = _
      rw [ins_joined h1 hq hx h]
      exact key _ _ i1 h4 (by rw [i2]; omega)
    · rw [ins_b h]
      show insAll k (insP k l x) (q :: bs) = _
      exact key _ _ h1 h2 (by rw [e]; omega)
theorem insAll_merge (hk : fRight k = true) {vs : List Pn} : ∀ {l bs : List Pn}, (∀ p ∈ l, GoodP p) → (∀ p ∈ bs, GoodP p) → (∀ p ∈ vs, GoodP p) → sumN l + sumN bs + sumN vs ≤ 1000000000 → insAll k l (insAll k bs vs) = insAll k (insAll k l bs) vs := by
  induction vs with
  | nil => intros; rfl
  | cons x vs ih =>
    intro l bs h1 h2 h3 h4
    have hx := h3 x List.mem_cons_self
    have h5 := fun r hr => h3 r (List.mem_cons_of_mem x hr)
    have h6 := sumN_nonneg h5
    have h7 := sumN_nonneg h1
    have e : sumN (x :: vs) = x.n + sumN vs := by simp [sumN]
    rw [e] at h4
    obtain ⟨i1, i2⟩ := ins_good hk h2 hx (by omega)
    show insAll k l (insAll k (insP k bs x) vs) = insAll k (insP k (insAll k l bs) x) vs
    rw [ih h1 i1 h5 (by rw [i2]; omega), insAll_ins hk hx h1 h2 (by omega)]
/-- few values are never too many -/
theorem putL_few (hk : fRight k = true) (h : ∀ p ∈ l, GoodP p) (hx : GoodP x) (hs : sumN l + x.n ≤ 2000) : putL k l x = some (insP k l x) := by
  have h1 := sumN_nonneg h
  have h2 := hx.2
  unfold putL
  cases hI : isL l x
  · dsimp only
    rw [if_neg (by omega), ins_new hI]
  · obtain ⟨p, hp, _⟩ := isL_some hI
    have hm : p ∈ l := List.mem_of_getElem? hp
    have h3 := sumN_mem h hm
    have h4 := joinP_good hk (h p hm) hx (by omega)
    have h5 := (h p hm).2
    rw [hp]
    dsimp only
    rw [if_neg (by rw [h4.2]; omega), ins_join hI hp]
end
end Go.Proofs.Ytagfjnjpgphnjaa
