/-
  Rows of panes in plain Lean: single values put in any order, whatever the row; events taken in any order. No program in sight.
-/
import Derived.Test.YtagfjnjpgphnjaaGrE
namespace Go.Proofs.Ytagfjnjpgphnjaa
open Go.RowKit
set_option linter.unusedSimpArgs false
set_option linter.unusedVariables false
/-- a pane put does not make its like too great -/
def okN (k : Int) : List Pn → Pn → Prop
  | [], _ => True
  | p :: l, x => if ahead p x = true then okN k l x else if ahead x p = true then True else 1 ≤ (joinP k p x).n
section
variable {k : Int} {l xs : List Pn} {p q x y : Pn}
theorem okN_a (h : ahead p x = true) : okN k (p :: l) x ↔ okN k l x := by simp [okN, h]
theorem okN_s (h : sameP p x) : okN k (p :: l) x ↔ 1 ≤ (joinP k p x).n := by simp [okN, same_ahead h, same_ahead h.symm]
theorem okN_b (h : ahead x p = true) : okN k (p :: l) x ↔ True := by simp [okN, h, ahead_asymm h]
theorem okN_iff : okN k xs x ↔ (isL xs x = true → ∀ p, xs[atL xs x]? = some p → 1 ≤ (joinP k p x).n) := by
  induction xs with
  | nil => simp [okN, isL]
  | cons r l ih =>
    rcases rel3 r x with h | h | h
    · rw [okN_a h, ih]
      have e : atL (r :: l) x = atL l x + 1 := by rw [atL_cons, if_pos h]
      have e2 : isL (r :: l) x = isL l x := by unfold isL; rw [e]; simp
      rw [e, e2]; simp
    · rw [okN_s h]
      have e : atL (r :: l) x = 0 := by rw [atL_cons, if_neg (by rw [same_ahead h]; simp)]
      have e2 : isL (r :: l) x = true := by unfold isL; rw [e]; simp [cmpP_zero.2 h]
      rw [e, e2]; simp
    · rw [okN_b h]
      have e : atL (r :: l) x = 0 := by rw [atL_cons, if_neg (by rw [ahead_asymm h]; simp)]
      have e2 : isL (r :: l) x = false := by
        unfold isL; rw [e]
        simp only [List.getElem?_cons_zero, decide_eq_false_iff_not]
        intro h2
        rw [same_ahead (cmpP_zero.1 h2).symm] at h; cases h
      rw [e2]; simp
theorem ins_lenN : isL xs x = false → (insP k xs x).length = xs.length + 1 := by
  intro h
  rw [ins_new h]
  have := atL_le xs x
  simp only [List.length_append, List.length_take, List.length_drop, List.length_cons, List.length_nil]; omega
theorem ins_lenJ : isL xs x = true → (insP k xs x).length = xs.length := by
  intro h
  obtain ⟨p, hp, _⟩ := isL_some h
  rw [ins_join h hp, List.length_set]
theorem ins_mono : xs.length ≤ (insP k xs x).length := by
  cases h : isL xs x
  · rw [ins_lenN h]; omega
  · rw [ins_lenJ h]; omega
theorem putL_iff (hx : xs.length ≤ 2000) {r : List Pn} : putL k xs x = some r ↔ r = insP k xs x ∧ okN k xs x ∧ r.length ≤ 2000 := by
  constructor
  · intro h
    refine ⟨putL_ins h, okN_iff.2 (fun hI p hp => putL_join h hI hp), putL_len h hx⟩
  · rintro ⟨rfl, h1, h2⟩
    unfold putL
    cases hI : isL xs x
    · rw [ins_lenN hI] at h2
      dsimp only
      rw [if_neg (by omega), ins_new hI]
    · obtain ⟨p, hp, _⟩ := isL_some hI
      have := okN_iff.1 h1 hI p hp
      rw [hp]
      dsimp only
      rw [if_neg (by omega), ins_join hI hp]
theorem join_n1 (hk : fRight k = true) (hp : 1 ≤ p.n) (hx : x.n = 1) : (joinP k p x).n = wrap64 (p.n + 1) := by
  show (fJoin k ⟨p.n, p.a, p.b⟩ ⟨x.n, x.a, x.b⟩).n = _
  simp only [fJoin, hk, Bool.true_eq_false, if_false]
  rw [if_neg (by omega), if_neg (by omega), hx]
theorem fJoin_full (hk : fRight k = true) {a b : Acc} (ha : a.n ≠ 0) (hb : b.n ≠ 0) : fJoin k a b = ⟨wrap64 (a.n + b.n), joinA k a.a b.a, joinB k a.b b.b⟩ := by
  simp [fJoin, hk, ha, hb]
theorem joinP_comm' (hk : fRight k = true) (h : sameP x y) (hx : x.n ≠ 0) (hy : y.n ≠ 0) : joinP k x y = joinP k y x :=
  pn_ext h.2.1 h.1 h.2.2 (by
    rw [joinP_acc, joinP_acc, fJoin_full hk (a := accP x) (b := accP y) hx hy, fJoin_full hk (a := accP y) (b := accP x) hy hx, Int.add_comm, joinA_comm, joinB_comm])
theorem joinP_swap' (hk : fRight k = true) (hp : p.n ≠ 0) (hx : x.n ≠ 0) (hy : y.n ≠ 0) (h1 : (joinP k p x).n ≠ 0) (h2 : (joinP k p y).n ≠ 0) : joinP k (joinP k p x) y = joinP k (joinP k p y) x :=
  pn_ext rfl rfl rfl (by
    have e1 := fJoin_full hk (a := accP p) (b := accP x) hp hx
    have e2 := fJoin_full hk (a := accP p) (b := accP y) hp hy
    have e3 := fJoin_full hk (a := accP (joinP k p x)) (b := accP y) h1 hy
    have e4 := fJoin_full hk (a := accP (joinP k p y)) (b := accP x) h2 hx
    rw [joinP_acc p x, e1] at e3
    rw [joinP_acc p y, e2] at e4
    rw [joinP_acc (joinP k p x) y, joinP_acc (joinP k p y) x, joinP_acc p x, joinP_acc p y, e1, e2, e3, e4]
    simp only [Acc.mk.injEq]
    refine ⟨?_, ?_, ?_⟩
    · rw [wrap64_assoc, wrap64_assoc, Int.add_comm (accP x).n]
    · rw [joinA_assoc, joinA_assoc, joinA_comm k (accP x).a]
    · rw [joinB_assoc, joinB_assoc, joinB_comm k (accP x).b])
theorem swapN (hk : fRight k = true) (hx : x.n = 1) (hy : y.n = 1) : ∀ {l : List Pn}, (∀ p ∈ l, 1 ≤ p.n) → okN k l x → okN k (insP k l x) y → okN k l y ∧ okN k (insP k l y) x ∧ insP k (insP k l x) y = insP k (insP k l y) x
  | [], _, _, h2 => by
    refine ⟨trivial, ?_⟩
    rw [show insP k [] x = [x] from rfl] at h2 ⊢
    rw [show insP k [] y = [y] from rfl]
    rcases rel3 x y with h1 | h1 | h1
    · rw [ins_a h1, ins_b h1]; exact ⟨(okN_b h1).2 trivial, rfl⟩
    · have e := joinP_comm' hk h1 (by omega) (by omega)
      rw [ins_s h1, ins_s h1.symm, e]
      rw [okN_s h1] at h2
      exact ⟨(okN_s h1.symm).2 (by rw [← e]; exact h2), rfl⟩
    · rw [ins_b h1, ins_a h1]; exact ⟨(okN_a h1).2 trivial, rfl⟩
  | p :: l, hl, h1, h2 => by
    have hp := hl p List.mem_cons_self
    have ih := swapN hk hx hy (fun q hq => hl q (List.mem_cons_of_mem _ hq))
    rcases rel3 p x with r1 | r1 | r1
    · rw [ins_a (l := l) r1] at h2 ⊢
      rw [okN_a r1] at h1
      rcases rel3 p y with r2 | r2 | r2
      · rw [okN_a r2] at h2 ⊢
        obtain ⟨i1, i2, i3⟩ := ih h1 h2
        rw [ins_a r2, ins_a r2, ins_a r1, i3]
        exact ⟨i1, (okN_a r1).2 i2, rfl⟩
      · have r3 : ahead (joinP k p y) x = true := by rw [sameP.left (joinP_same p y)]; exact r1
        rw [okN_s r2] at h2 ⊢
        rw [ins_s r2, ins_s r2, ins_a r3]
        exact ⟨h2, (okN_a r3).2 h1, rfl⟩
      · have r3 := ahead_trans r2 r1
        rw [okN_b r2, ins_b r2, ins_b r2, ins_a r3, ins_a r1]
        exact ⟨trivial, (okN_a r3).2 ((okN_a r1).2 h1), rfl⟩
    · rw [ins_s (l := l) r1] at h2 ⊢
      rw [okN_s r1] at h1
      rcases rel3 p y with r2 | r2 | r2
      · have r3 : ahead (joinP k p x) y = true := by rw [sameP.left (joinP_same p x)]; exact r2
        rw [okN_a r3] at h2
        rw [okN_a r2, ins_a r2, ins_s r1, ins_a r3]
        exact ⟨h2, (okN_s r1).2 h1, rfl⟩
      · have r3 : sameP (joinP k p x) y := r2
        have r4 : sameP (joinP k p y) x := r1
        rw [okN_s r3] at h2
        have e1 := join_n1 hk hp hx
        have e2 := join_n1 hk hp hy
        have e := joinP_swap' hk (p := p) (x := x) (y := y) (by omega) (by omega) (by omega) (by omega) (by omega)
        rw [okN_s r2, ins_s r2, ins_s r3, ins_s r4, e]
        exact ⟨by omega, (okN_s r4).2 (by rw [← e]; exact h2), rfl⟩
      · have r3 : ahead y (joinP k p x) = true := by rw [sameP.right (joinP_same p x)]; exact r2
        have r4 : ahead y x = true := by rw [← sameP.right r1]; exact r2
        rw [okN_b r2, ins_b r2, ins_b r3, ins_a r4, ins_s r1]
        exact ⟨trivial, (okN_a r4).2 ((okN_s r1).2 h1), rfl⟩
    · rw [ins_b (l := l) r1] at h2 ⊢
      rcases rel3 p y with r2 | r2 | r2
      · have r3 := ahead_trans r1 r2
        rw [okN_a r3, okN_a r2] at h2
        rw [okN_a r2, ins_a r2, ins_b r1, ins_a r3, ins_a r2]
        exact ⟨h2, (okN_b r1).2 trivial, rfl⟩
      · have r3 : ahead x y = true := by rw [← sameP.right r2]; exact r1
        have r4 : ahead x (joinP k p y) = true := by rw [sameP.right (joinP_same p y)]; exact r1
        rw [okN_a r3, okN_s r2] at h2
        rw [okN_s r2, ins_s r2, ins_a r3, ins_s r2, ins_b r4]
        exact ⟨h2, (okN_b r4).2 trivial, rfl⟩
      · rw [okN_b r2, ins_b r2]
        rcases rel3 x y with r3 | r3 | r3
        · rw [ins_a r3, ins_b r3, ins_b r2]
          exact ⟨trivial, (okN_b r3).2 trivial, rfl⟩
        · have e := joinP_comm' hk r3 (by omega) (by omega)
          rw [okN_s r3] at h2
          rw [ins_s r3, ins_s r3.symm, e]
          exact ⟨trivial, (okN_s r3.symm).2 (by rw [← e]; exact h2), rfl⟩
        · rw [ins_b r3, ins_a r3, ins_b r1]
          exact ⟨trivial, (okN_a r3).2 ((okN_b r1).2 trivial), rfl⟩
theorem put_swap (hk : fRight k = true) (hx : x.n = 1) (hy : y.n = 1) {l l1 l2 : List Pn} (hl : ∀ p ∈ l, 1 ≤ p.n) (hlen : l.length ≤ 2000) (h1 : putL k l x = some l1) (h2 : putL k l1 y = some l2) : ∃ l3, putL k l y = some l3 ∧ putL k l3 x = some l2 := by
  obtain ⟨rfl, a2, a3⟩ := (putL_iff hlen).1 h1
  obtain ⟨rfl, b2, b3⟩ := (putL_iff a3).1 h2
  obtain ⟨c1, c2, c3⟩ := swapN hk hx hy hl a2 b2
  rw [c3] at b3 ⊢
  have c4 : (insP k l y).length ≤ 2000 := Nat.le_trans ins_mono b3
  exact ⟨_, (putL_iff hlen).2 ⟨rfl, c1, c4⟩, (putL_iff c4).2 ⟨rfl, c2, b3⟩⟩
theorem right_pos (h : rightL l = true) : ∀ p ∈ l, 1 ≤ p.n := by
  intro p hp
  have := (rightL_ok h).2.1 p hp
  simp only [mayB, Bool.and_eq_true, decide_eq_true_eq] at this
  exact this.2
/-- single values put in any order make the same row -/
theorem foldP_perm (hk : fRight k = true) {vs ws : List Pn} (hp : vs.Perm ws) : ∀ {l r : List Pn}, rightL l = true → (∀ p ∈ vs, mayB p = true ∧ p.n = 1) → vs.foldlM (putL k) l = some r → ws.foldlM (putL k) l = some r := by
  induction hp with
  | nil => intro l r _ _ h; exact h
  | cons x hp ih =>
    intro l r hr hm h
    rw [List.foldlM_cons] at h ⊢
    cases hp : putL k l x with
    | none => rw [hp] at h; cases h
    | some l1 =>
      rw [hp] at h
      exact ih (putL_right hp hr (hm x List.mem_cons_self).1) (fun p hq => hm p (List.mem_cons_of_mem _ hq)) h
  | swap x y vs =>
    intro l r hr hm h
    rw [List.foldlM_cons] at h ⊢
    cases h1 : putL k l y with
    | none => rw [h1] at h; cases h
    | some l1 =>
      rw [h1] at h
      simp only [Option.bind_eq_bind, Option.bind_some, List.foldlM_cons] at h ⊢
      cases h2 : putL k l1 x with
      | none => rw [h2] at h; cases h
      | some l2 =>
        rw [h2] at h
        obtain ⟨l3, q1, q2⟩ := put_swap hk (hm y List.mem_cons_self).2 (hm x (List.mem_cons_of_mem _ List.mem_cons_self)).2 (right_pos hr) (rightL_ok hr).1 h1 h2
        rw [q1]
        simp only [Option.bind_some]
        rw [q2]
        exact h
  | trans hp1 _ ih1 ih2 =>
    intro l r hr hm h
    exact ih2 hr (fun p hq => hm p (hp1.mem_iff.2 hq)) (ih1 hr hm h)
end
end Go.Proofs.Ytagfjnjpgphnjaa
