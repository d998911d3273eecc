/-
  Plain laws for how a source goes on, and for sources that turn.
-/
import Derived.Test.YtimlkhbedhjehaaMdN
namespace Go.Proofs.Ytimlkhbedhjehaa
open Go.RowKit
set_option linter.unusedSimpArgs false
set_option linter.unusedVariables false
theorem tmod_in {a b : Int} (hb : 0 < b) : -b < a.tmod b ∧ a.tmod b < b := by
  have h1 := Int.tmod_lt_of_pos a hb
  have h2 : -b < a.tmod b := by
    have h3 := Int.tmod_lt_of_pos (-a) hb
    rw [Int.neg_tmod] at h3
    omega
  exact ⟨h2, h1⟩
theorem tmod_up {a b : Int} (ha : 0 ≤ a) (hb : 0 < b) : 0 ≤ a.tmod b ∧ a.tmod b < b := ⟨Int.tmod_nonneg b ha, Int.tmod_lt_of_pos a hb⟩
section
variable {g s d k fu li de id : Int} {ls ms : List (List Et)} {es fs : List Et}
theorem check_iff : checkN g s d k fu li de id ls = 0 ↔ jobOK g s d k fu li de id = true ∧ okIn ls = true := by
  unfold checkN
  cases jobOK g s d k fu li de id <;> cases okIn ls <;> simp
theorem check_take (h : checkN g s d k fu li de id [fs] = 0) (a : Nat) : checkN g s d k fu li de id [fs.take a] = 0 := by
  rw [check_iff] at h ⊢
  refine ⟨h.1, ?_⟩
  have hi := h.2
  unfold okIn okEs at hi ⊢
  simp only [Bool.and_eq_true, decide_eq_true_eq, List.all_eq_true] at hi ⊢
  refine ⟨by simp, by simp, fun es he => ?_⟩
  have he : es = fs.take a := by simpa using he
  subst he
  obtain ⟨h1, h2⟩ := hi.2.2 fs (by simp)
  exact ⟨by rw [List.length_take]; omega, fun e he => h2 e (List.mem_of_mem_take he)⟩
theorem range_take {n : Nat} (h : ∀ e ∈ es, -9223372036854775808 ≤ e.v ∧ e.v ≤ 9223372036854775807) : ∀ e ∈ es.take n, -9223372036854775808 ≤ e.v ∧ e.v ≤ 9223372036854775807 := fun e he => h e (List.mem_of_mem_take he)
theorem kept_parts (a : Nat) : ∃ K2, keptE li fu de 0 fs = keptE li fu de 0 (fs.take a) ++ K2 ∧ (∀ e ∈ K2, markE de 0 (fs.take a) ≤ e.at') ∧ markE de 0 (fs.take a) ≤ markE de 0 fs := by
  refine ⟨keptE li fu de (markE de 0 (fs.take a)) (fs.drop a), ?_, fun e he => keptE_above e he, ?_⟩
  · rw [← keptE_app, List.take_append_drop]
  · have h : markE de 0 fs = markE de 0 (fs.take a ++ fs.drop a) := by rw [List.take_append_drop]
    rw [h, markE_app]
    exact markE_le
theorem jobOK_with (h : jobOK g s d k fu li de id = true) {g2 id2 : Int} (hg : 1 ≤ g2 ∧ g2 ≤ 32) (hid : 0 ≤ id2 ∧ id2 ≤ 1048576) : jobOK g2 s d k fu li de id2 = true := by
  unfold jobOK at h ⊢
  simp only [Bool.and_eq_true, decide_eq_true_eq] at h ⊢
  obtain ⟨h1, h2, h3, h4, h5, h6, h7, h8, h9, h10, h11⟩ := h
  exact ⟨hg.1, hg.2, h3, h4, h5, h6, h7, h8, h9, hid.1, hid.2⟩
theorem okIn_perm (hp : ls.Perm ms) (h : okIn ls = true) : okIn ms = true := by
  unfold okIn at h ⊢
  simp only [Bool.and_eq_true, decide_eq_true_eq, List.all_eq_true] at h ⊢
  rw [← hp.length_eq]
  exact ⟨h.1, h.2.1, fun x hx => h.2.2 x (hp.mem_iff.2 hx)⟩
theorem check_turn (h : checkN g s d k fu li de id ls = 0) (hp : ls.Perm ms) {g2 id2 : Int} (hg : 1 ≤ g2 ∧ g2 ≤ 32) (hid : 0 ≤ id2 ∧ id2 ≤ 1048576) : checkN g2 s d k fu li de id2 ms = 0 := by
  rw [check_iff] at h ⊢
  exact ⟨jobOK_with h.1 hg hid, okIn_perm hp h.2⟩
theorem vals_bound (h : checkN g s d k fu li de id ls = 0) : (allVals s d (allK li fu de ls)).length ≤ 1000000 := by
  obtain ⟨_, _, h3, h4⟩ := check_parts h
  have h5 := allK_len (li := li) (fu := fu) (de := de) fun es he => (h4 es he).1
  have h6 := allVals_len (s := s) (d := d) (es := allK li fu de ls)
  omega
theorem out_perm (h : checkN g s d k fu li de id ls = 0) (hp : (allK li fu de ls).Perm es) : outR k (allVals s d es) = outR k (allVals s d (allK li fu de ls)) := by
  obtain ⟨h1, h2, h3, h4⟩ := check_parts h
  exact (outR_perm (hp.flatMap_right _) (vals_bound h) (allVals_ok h1 h2 (allK_ok fun es he => (h4 es he).2))).symm
theorem run_turn (h : checkN g s d k fu li de id ls = 0) (hp : ls.Perm ms) {g2 id2 : Int} (hg : 1 ≤ g2 ∧ g2 ≤ 32) (hid : 0 ≤ id2 ∧ id2 ≤ 1048576) : runN g2 s d k fu li de id2 ms = outR k (allVals s d (allK li fu de ls)) := by
  unfold runN
  rw [if_pos (check_turn h hp hg hid)]
  exact out_perm h (hp.flatMap_right _)
theorem small_perm (hp : ls.Perm ms) (h : Small ls) : Small ms := ⟨by rw [← hp.length_eq]; exact h.1, fun x hx => h.2 x (hp.mem_iff.2 hx)⟩
/-! the greatest delay -/
theorem kept_final : ∀ {es : List Et}, (∀ e ∈ es, evR e.key e.at' = true) → keptE li fu 1099511627776 0 es = es.map (Et.ran li fu)
  | [], _ => rfl
  | e :: es, h => by
    have h0 := h e (by simp)
    unfold evR at h0
    simp only [Bool.and_eq_true, decide_eq_true_eq] at h0
    have h1 : max 0 (subT e.at' 1099511627776) = 0 := by
      have := clampT_range e.at'
      have e2 : clampT 1099511627776 = 1099511627776 := clampT_id (by omega)
      unfold subT
      rw [e2]
      generalize clampT e.at' = z at *
      unfold clampT
      omega
    rw [keptE, h1, if_neg (by omega), kept_final fun x hx => h x (by simp [hx])]
    rfl
theorem run_order (h : checkN g s d k fu li 1099511627776 id [es] = 0) (hp : es.Perm fs) : runN g s d k fu li 1099511627776 id [fs] = outR k (allVals s d (allK li fu 1099511627776 [es])) := by
  have h2 : checkN g s d k fu li 1099511627776 id [fs] = 0 := by
    rw [check_iff] at h ⊢
    refine ⟨h.1, ?_⟩
    have hi := h.2
    unfold okIn okEs at hi ⊢
    simp only [Bool.and_eq_true, decide_eq_true_eq, List.all_eq_true] at hi ⊢
    refine ⟨by simp, by simp, fun x hx => ?_⟩
    have hx : x = fs := by simpa using hx
    subst hx
    obtain ⟨h1, h2⟩ := hi.2.2 es (by simp)
    exact ⟨by rw [← hp.length_eq]; exact h1, fun e he => h2 e (hp.mem_iff.2 he)⟩
  have e1 := ((check_parts h).2.2.2 es (by simp)).2
  have e2 := ((check_parts h2).2.2.2 fs (by simp)).2
  unfold runN
  rw [if_pos h2]
  refine out_perm h ?_
  simp only [allK, List.flatMap_cons, List.flatMap_nil, List.append_nil]
  rw [kept_final e1, kept_final e2]
  exact hp.map _
/-! windows that do not overlap -/
theorem win_one {t : Int} (h : okT s s t = true) : (winL s s t).length = 1 := by
  rw [winL_length h]
  have h1 := cntK_eq h
  obtain ⟨⟨h2, h3, h4, h5⟩, h6, h7⟩ := okT_iff.1 h
  have h8 : firstK s s t = lastK s t := by
    unfold firstK lastK
    have e : (t - s) / s = t / s - 1 := by
      rw [show t - s = t + (-1) * s by omega, Int.add_mul_ediv_right _ _ (by omega)]
      omega
    have := Int.ediv_nonneg h6 (show (0 : Int) ≤ s by omega)
    omega
  omega
theorem vals_count (hw : winB s s = true) : ∀ {es : List Et}, (∀ e ∈ es, evR e.key e.at' = true) → (allVals s s es).length = es.length
  | [], _ => rfl
  | e :: es, h => by
    have h1 := win_one (okT_of hw (h e (by simp)))
    have h2 : (valsV s s e).length = 1 := by unfold valsV; rw [List.length_map]; exact h1
    have ih := vals_count hw (es := es) fun x hx => h x (by simp [hx])
    simp only [allVals, List.flatMap_cons, List.length_append, List.length_cons] at ih ⊢
    omega
end
def sumR (l : List Rs) : Int := (l.map Rs.n).sum
theorem sumR_step {l : List Rs} {q : Nat} (hq : q < l.length) : sumR (l.take (q + 1)) = sumR (l.take q) + l[q].n := by
  rw [take_snoc l q hq]; unfold sumR; rw [List.map_append, List.sum_append]; simp
theorem sumR_part {l : List Rs} (h : ∀ r ∈ l, 0 ≤ r.n) (q : Nat) : 0 ≤ sumR (l.take q) ∧ sumR (l.take q) ≤ sumR l := by
  have hn : ∀ l : List Rs, (∀ r ∈ l, 0 ≤ r.n) → 0 ≤ sumR l := by
    intro l
    induction l with
    | nil => intro _; simp [sumR]
    | cons r l ih =>
      intro h
      have := ih fun x hx => h x (by simp [hx])
      have := h r (by simp)
      simp only [sumR, List.map_cons, List.sum_cons] at *
      omega
  have h1 := hn (l.take q) fun r hr => h r (List.mem_of_mem_take hr)
  have h2 := hn (l.drop q) fun r hr => h r (List.mem_of_mem_drop hr)
  have h3 : sumR l = sumR (l.take q) + sumR (l.drop q) := by
    unfold sumR
    rw [← List.sum_append, ← List.map_append, List.take_append_drop]
  omega
/-- the Ns of all results -/
theorem count_out {k : Int} {vs : List Vl} {U : List Rs} (hk : fRight k = true) (hok : ∀ x ∈ vs, okV k x = true) (hl : vs.length ≤ 1000000) (h : outR k vs = (U, 0)) : sumR U = vs.length ∧ (∀ r ∈ U, 0 ≤ r.n) ∧ U.length ≤ 2000 := by
  unfold outR at h
  split at h
  · rename_i h2
    have hr := rowM_right hok hl h2
    obtain ⟨h3, h4⟩ := rowM_good (l := vs) hk hl
    have h5 : U = (rowV k vs).map (resOf k) := by
      have := (Prod.mk.inj h).1
      rw [← this, resultsL, hr, hk]; rfl
    subst h5
    refine ⟨?_, fun r hr => ?_, by simpa using h2⟩
    · rw [← h4]
      simp [sumR, sumN, Function.comp_def, resOf]
    · obtain ⟨p, hp, rfl⟩ := List.mem_map.1 hr
      have := (h3 p hp).2
      simp only [resOf]; omega
  · cases h
end Go.Proofs.Ytimlkhbedhjehaa
