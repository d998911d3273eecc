/-
  slices.Sort at uint32, walked over abstract values: the whole.
  Who owns a group, on a circle of points. Plain.
  slices.BinarySearch at uint32, walked over abstract values.
-/
import Derived.RowKit
import Derived.Test.YtcfidmdkioccdaaDoorS4
import Derived.Test.YtcfidmdkioccdaaDoorS8
set_option linter.unusedSimpArgs false
set_option linter.unusedVariables false
set_option maxHeartbeats 20000000
namespace Go.Proofs.YtcfidmdkioccdaaDoor
open Go.RowKit
def tailAt : Nat → Code → Code
 | 0, c => c
 | n + 1, .seq _ y => tailAt n y
 | _ + 1, c => c
theorem a_haveT (k : Nat) {P : Program} {Γ : Ctx} {c : Code} {Q : Exit → ASt → Prop} {s : ASt} {R : Type} (S1 : R → ASt) (pre : R → Prop) (hrest : ∀ r, pre r → AWP P Γ (tailAt k c) Q (S1 r)) (h : (∀ r, pre r → AWP P Γ (tailAt k c) Q (S1 r)) → AWP P Γ c Q s) : AWP P Γ c Q s := h hrest
def pdE (u : Nat) (l3 : List Nat) (a b v lim1 : Nat) : List Nat :=
 if (part l3 a b v).2.1 - a < b - (part l3 a b v).2.1 then pdq rnd u (pdq rnd u (part l3 a b v).1 a (part l3 a b v).2.1 lim1 true true) ((part l3 a b v).2.1 + 1) b lim1 (decide ((b - a) / 8 ≤ (part l3 a b v).2.1 - a)) (part l3 a b v).2.2
 else pdq rnd u (pdq rnd u (part l3 a b v).1 ((part l3 a b v).2.1 + 1) b lim1 true true) a (part l3 a b v).2.1 lim1 (decide ((b - a) / 8 ≤ b - (part l3 a b v).2.1)) (part l3 a b v).2.2
theorem pdq_succ (u : Nat) (l : List Nat) (a b lim : Nat) (wb wp : Bool) : pdq rnd (u + 1) l a b lim wb wp = if b - a ≤ 12 then insS l a b else if lim = 0 then heapS l a b else
  if pdH (pdA rnd l a b wb) a b wb wp = true ∧ (pdC (pdB (pdA rnd l a b wb) a b) a b).2 = true then (pdC (pdB (pdA rnd l a b wb) a b) a b).1
  else pdE u (if pdH (pdA rnd l a b wb) a b wb wp = true then (pdC (pdB (pdA rnd l a b wb) a b) a b).1 else pdB (pdA rnd l a b wb) a b) a b (pdV (pdA rnd l a b wb) a b) (if wb = true then lim else lim - 1) := by
 simp only [pdq, pdE]
set_option maxRecDepth 10000 in
theorem a_pdq (u0 : Nat) : ∀ (l : List Nat) (a b lim : Nat), a ≤ b → b ≤ l.length → l.length ≤ 1000 → lim ≤ 100 → l.Nodup → Fl l a b → b - a ≤ u0 → AC Tryd.prog 26 [.own 0 l.length, .v (.int .i64 a), .v (.int .i64 b), .v (.int .i64 lim)] (NS l) (.tup []) (NS (pdq rnd u0 l a b lim true true)) := by
 induction u0 using Nat.strongRecOn with
 | ind u0 ih =>
 intro l a b lim hab hb hm hlim hnd hf hu
 obtain ⟨R, hR⟩ : ∃ R, R = pdq rnd u0 l a b lim true true := ⟨_, rfl⟩
 have hw := (pdq_ok rnd_lt u0 l a b lim true true hab hb hnd hf).1.len
 unfold NS
 rw [← hR] at hw ⊢
 refine (ac_body tab_ok Tryd.func26 rfl (by kernel_rfl) rfl ?_); intro w0 M μ0; simp only [Tryd.ntmps26, List.length_cons, List.length_nil, Nat.reduceAdd, Nat.reduceSub, numb]
 repeat' (first | ((first | apply o_do | apply d_do | apply d_yes rfl rfl rfl); exact lsq) | refine a_seq ?_ | refine a_region ?_ | refine o_nil ?_ | refine a_block ?_ | refine a_ret ?_ | refine a_exit ?_ | refine a_skip ?_ | refine a_draw mixed ?_ | refine d_nil (by kernel_rfl) ?_ | refine o_yes rfl rfl rfl ?_ | refine o_no rfl rfl rfl (by decide) ?_ | refine o_no' rfl rfl rfl ?_ | refine a_condT rfl ?_ | refine a_condF rfl ?_ | refine d_no rfl rfl rfl (by decide) ?_ | refine d_no' rfl rfl rfl ?_ | (refine wq2 (fun hb => ?_) (fun hb => ?_) <;> (simp only [hb]; try simp only [hbs, ne_eq] at hb; try (exfalso; first | omega | exact hb trivial))) | fail)
 refine a_loop (X := {p : Nat × List Nat × Nat × Nat × Nat × Bool × Bool // R = pdq rnd p.1 p.2.1 p.2.2.1 p.2.2.2.1 p.2.2.2.2.1 p.2.2.2.2.2.1 p.2.2.2.2.2.2 ∧ p.1 ≤ u0 ∧ p.2.1.length = l.length ∧ p.2.2.1 ≤ p.2.2.2.1 ∧ p.2.2.2.1 ≤ l.length ∧ p.2.2.2.2.1 ≤ 100 ∧ p.2.1.Nodup ∧ Fl p.2.1 p.2.2.1 p.2.2.2.1 ∧ p.2.2.2.1 - p.2.2.1 ≤ p.1})
  (fun p => ⟨[(0, .own 0 l.length), (1, .v (.int .i64 p.1.2.2.1)), (2, .v (.int .i64 p.1.2.2.2.1)), (3, .v (.int .i64 p.1.2.2.2.2.1)), (8, .v (.bool p.1.2.2.2.2.2.1)), (9, .v (.bool p.1.2.2.2.2.2.2))], [(0, .row 46 1 (p.1.2.1.map uv))]⟩) (fun p => p.1.1) ⟨(u0, l, a, b, lim, true, true), hR, Nat.le_refl _, rfl, hab, hb, hlim, hnd, hf, hu⟩ ?_ ?_
 ·refine ⟨by repeat' (first | exact trivial | exact FinA.one (FinB.cell (FinC.same rfl)) | exact FinA.one (FinB.cell FinC.nil) | exact FinA.bound rfl | exact FinA.one (FinB.cell (FinC.own rfl rfl rfl rfl)) | exact FinA.one (FinB.cell (FinC.v (by first | rfl | (((try dsimp only); first | omega | (rw [h8]; done) | (congr 1 <;> omega)))))) | exact FinA.one (FinB.cell (FinC.ow rfl (by first | rfl | (((try dsimp only); first | omega | (rw [h8]; done) | (congr 1 <;> omega)))))) | exact FinA.one (FinB.agg' rfl rfl) | refine ⟨⟨_, rfl, ?_⟩, ?_⟩), by repeat' (first | exact trivial | refine ⟨⟨_, rfl, by first | rfl | (((try dsimp only); first | omega | (rw [h8]; done) | (congr 1 <;> omega)); done) | (simp [renO, *]; done)⟩, by first | rfl | assumption, ?_⟩), rfl⟩
 clear hR hu hf hnd hlim hb hab
 rintro ⟨⟨u, d, a, b, lim, wb, wp⟩, hR, hu0, hl_d, hab, hbl, hlim, hnd, hf, hu⟩
 dsimp only at hR hu0 hl_d hab hbl hlim hnd hf hu ⊢
 by_cases hlen : b - a ≤ 12
 ·have hR2 : R = insS d a b := by
   rw [hR]
   cases u with
   | zero => rfl
   | succ u => rw [pdq_succ, if_pos hlen]
  have hI := a_ins d a b (by omega) (by omega) (by omega)
  rw [hl_d] at hI
  unfold NS at hI
  rw [← hR2] at hI
  have hlen' : (b : Int) - a ≤ 12 := by omega
  clear hR hR2
  repeat' (first | ((first | apply o_do | apply d_do | apply d_yes rfl rfl rfl); first | exact lca [0] 5 hI | exact lsq) | refine a_seq ?_ | refine a_region ?_ | refine o_nil ?_ | refine a_block ?_ | refine a_ret ?_ | refine a_exit ?_ | refine a_skip ?_ | refine a_draw mixed ?_ | refine d_nil (by kernel_rfl) ?_ | refine o_yes rfl rfl rfl ?_ | refine o_no rfl rfl rfl (by decide) ?_ | refine o_no' rfl rfl rfl ?_ | refine a_condT rfl ?_ | refine a_condF rfl ?_ | refine d_no rfl rfl rfl (by decide) ?_ | refine d_no' rfl rfl rfl ?_ | (refine wq2 (fun hb => ?_) (fun hb => ?_) <;> (simp only [hb]; try simp only [hbs, ne_eq] at hb; try (exfalso; first | omega | exact hb trivial))) | fail)
  refine rq rfl ?_
  exact fnq
 obtain ⟨u', rfl⟩ : ∃ u', u = u' + 1 := ⟨u - 1, by omega⟩
 rw [pdq_succ, if_neg hlen] at hR
 have hlen' : ¬ (b : Int) - a ≤ 12 := by omega
 by_cases hl0 : lim = 0
 ·rw [if_pos hl0] at hR
  have hI := a_heap d a b (by omega) (by omega) (by omega)
  rw [hl_d] at hI
  unfold NS at hI
  rw [← hR] at hI
  subst hl0
  clear hR
  repeat' (first | ((first | apply o_do | apply d_do | apply d_yes rfl rfl rfl); first | exact lca [0] 5 hI | exact lsq) | refine a_seq ?_ | refine a_region ?_ | refine o_nil ?_ | refine a_block ?_ | refine a_ret ?_ | refine a_exit ?_ | refine a_skip ?_ | refine a_draw mixed ?_ | refine d_nil (by kernel_rfl) ?_ | refine o_yes rfl rfl rfl ?_ | refine o_no rfl rfl rfl (by decide) ?_ | refine o_no' rfl rfl rfl ?_ | refine a_condT rfl ?_ | refine a_condF rfl ?_ | refine d_no rfl rfl rfl (by decide) ?_ | refine d_no' rfl rfl rfl ?_ | (refine wq2 (fun hb => ?_) (fun hb => ?_) <;> (simp only [hb]; try simp only [hbs, ne_eq] at hb; try (exfalso; first | omega | exact hb trivial))) | fail)
  refine rq rfl ?_
  exact fnq
 rw [if_neg hl0] at hR
 have hl0' : ¬ (lim : Int) = 0 := by omega
 obtain ⟨lim1, hlim1⟩ : ∃ lim1, lim1 = if wb = true then lim else lim - 1 := ⟨_, rfl⟩
 rw [← hlim1] at hR
 have hlim2 : lim1 ≤ 100 := by rw [hlim1]; split <;> omega
 have a1 := pdA_sw rnd_lt d a b wb
 have hA := a_brkP d a b (by omega) (by omega) (by omega)
 rw [hl_d] at hA
 have hAe : ∀ h : wb = false, brk rnd d a b = pdA rnd d a b wb := fun h => by unfold pdA; rw [if_neg (by simp [h])]
 have hAt : ∀ h : wb = true, d = pdA rnd d a b wb := fun h => by unfold pdA; rw [if_pos h]
 generalize pdA rnd d a b wb = l1 at *
 have hl_l1 : l1.length = l.length := by rw [a1.len, hl_d]
 have hC := a_choose l1 a b (by omega) (by omega) (by omega)
 have hV := a_rev l1 a b (by omega) (by omega) (by omega)
 rw [hl_l1] at hC hV
 have hv := pdV_in (l := l1) (a := a) (b := b) (by omega)
 have a2 := a1.trans (pdB_sw (l := l1) (a := a) (b := b))
 have hcp := chP_in (l := l1) (a := a) (b := b) (by omega)
 have hBe : ∀ h : (chP l1 a b).2 = 12, revL (b - a) l1 a (b - 1) = pdB l1 a b ∧ pdV l1 a b = b - 1 - ((chP l1 a b).1 - a) := fun h => ⟨by unfold pdB; rw [if_pos h], by unfold pdV; rw [if_pos h]⟩
 have hBn : ∀ h : ¬ (chP l1 a b).2 = 12, l1 = pdB l1 a b ∧ pdV l1 a b = (chP l1 a b).1 := fun h => ⟨by unfold pdB; rw [if_neg h], by unfold pdV; rw [if_neg h]⟩
 generalize pdB l1 a b = l2 at *
 generalize pdV l1 a b = v at *
 have hl_l2 : l2.length = l.length := by rw [a2.len, hl_d]
 have hf2 := hf.sw a2 (by omega)
 have hD := a_pis l2 a b (by omega) (by omega) (by omega) hf2
 rw [hl_l2] at hD
 have hc1 := (pis_ok (a := a) (b := b) 5 l2 (a + 1) (by omega) (by omega) (by omega) hf2 (fun p q h1 h2 h3 => by omega)).1
 change Sw a b l2 (pdC l2 a b).1 at hc1
 have hHd : pdH l1 a b wb wp = (wb && wp && decide ((chP l1 a b).2 = 0 ∨ (chP l1 a b).2 = 12)) := rfl
 generalize pdH l1 a b wb wp = H at *
 generalize pdC l2 a b = c at *
 generalize chP l1 a b = ch at *
 obtain ⟨pv, ps⟩ := ch
 obtain ⟨c1, c2⟩ := c
 dsimp only at *
 refine a_block ?_
 refine a_haveT 7 (R := List Nat) (fun l3 => ⟨[(0, .own 0 l.length), (1, .v (.int .i64 a)), (2, .v (.int .i64 b)), (3, .v (.int .i64 lim1)), (8, .v (.bool wb)), (9, .v (.bool wp)), (10, .v (.int .i64 ((b : Int) - a))), (11, .v (.int .i64 v))], [(0, .row 46 1 (l3.map uv))]⟩)
  (fun l3 => R = pdE u' l3 a b v lim1 ∧ Sw a b d l3) ?_ ?_
 ·rintro l3 ⟨hR, a3⟩
  dsimp only [tailAt]
  clear hA hAe hAt hC hV hBe hBn hD hHd a1 a2 hc1 hf2 hcp hl0 hl0' hlen' hlim1 hl_l1 hl_l2
  have hl_l3 : l3.length = l.length := by rw [a3.len, hl_d]
  have hf3 := hf.sw a3 (by omega)
  have hn3 := nodup_sw a3 (by omega) hnd
  have hP := a_part l3 a b v hv.1 hv.2 (by omega) (by omega)
  rw [hl_l3] at hP
  obtain ⟨p1, p2⟩ := part_ok (l := l3) hv.1 hv.2 (by omega)
  unfold pdE at hR
  generalize part l3 a b v = r at *
  obtain ⟨l4, m, ap⟩ := r
  dsimp only at *
  have a4 := a3.trans p1
  have hl_l4 : l4.length = l.length := by rw [a4.len, hl_d]
  have hf4 := hf.sw a4 (by omega)
  have hn4 := nodup_sw a4 (by omega) hnd
  have hfl := p2.floor (by omega) hn4
  have hma := p2.am
  have hmb := p2.mb
  have hq8 : ((b : Int) - a).tdiv 8 = (((b - a) / 8 : Nat) : Int) := by rw [show (b : Int) - a = ((b - a : Nat) : Int) by omega]; rfl
  have hm3 : l.length = (l3.map uv).length := by simp [hl_l3]
  by_cases hlr : m - a < b - m
  ·rw [if_pos hlr] at hR
   have hI := ih u' (by omega) l4 a m lim1 hma (by omega) (by omega) hlim2 hn4 (hf4.left (by omega)) (by omega)
   obtain ⟨e1, e2⟩ := pdq_ok rnd_lt u' l4 a m lim1 true true hma (by omega) hn4 (hf4.left (by omega))
   rw [hl_l4] at hI
   unfold NS at hI hP
   generalize pdq rnd u' l4 a m lim1 true true = l5 at *
   have hl_l5 : l5.length = l.length := by rw [e1.len, hl_l4]
   have hn5 := nodup_sw e1 (by omega) hn4
   have hfl5 : Fl l5 (m + 1) b := fun _ k h1 h2 => by
    rw [Nat.add_sub_cancel, e1.out (by omega) (k := m) (.inr (by omega)), e1.out (by omega) (k := k) (.inr (by omega))]
    exact hfl (by omega) k h1 h2
   have hlr' : (m : Int) - a < (b : Int) - m := by omega
   obtain ⟨T, hT⟩ : ∃ T, T = (b - a) / 8 := ⟨_, rfl⟩
   obtain ⟨TW, hTW⟩ : ∃ TW, TW = decide (T ≤ m - a) := ⟨_, rfl⟩
   rw [← hT, ← hTW] at hR
   rw [← hT] at hq8
   have hTW2 : decide ((T : Int) ≤ (m : Int) - a) = TW := by rw [hTW]; exact decide_eq_decide.2 (by omega)
   have nx : R = pdq rnd u' l5 (m + 1) b lim1 TW ap ∧ u' ≤ u0 ∧ l5.length = l.length ∧ m + 1 ≤ b ∧ b ≤ l.length ∧ lim1 ≤ 100 ∧ l5.Nodup ∧ Fl l5 (m + 1) b ∧ b - (m + 1) ≤ u' := ⟨hR, by omega, hl_l5, by omega, hbl, hlim2, hn5, hfl5, by omega⟩
   have hb1000 : (b : Int) ≤ 1000 := by omega
   have hmI : (a : Int) ≤ m ∧ (m : Int) < b := by omega
   have hT1000 : (T : Int) ≤ 1000 := by omega
   rcases Nat.eq_zero_or_pos a with ha0 | ha0
   ·have ha0' : ¬ (a : Int) > 0 := by omega
    clear hR hlr hlen hu hu0 hab hma hmb hv hlim hT hTW hfl hfl5 hf4 hf3 hf hn5 hn4 hn3 hnd e1 e2 a4 a3 p1 p2 ih hl_l5 hl_l4 hl_d hbl hlim2
    repeat' (first | ((first | apply o_do | apply d_do | apply d_yes rfl rfl rfl); first | exact lca [0] 5 hP | exact lca [0] 5 hI | exact ls_quo64 hq8 rfl rfl (by decide) (by omega) rfl | exact lsq) | refine a_seq ?_ | refine a_region ?_ | refine o_nil ?_ | refine a_block ?_ | refine a_ret ?_ | refine a_exit ?_ | refine a_skip ?_ | refine a_draw mixed ?_ | refine d_nil (by kernel_rfl) ?_ | refine o_yes rfl rfl rfl ?_ | refine o_no rfl rfl rfl (by decide) ?_ | refine o_no' rfl rfl rfl ?_ | refine a_condT rfl ?_ | refine a_condF rfl ?_ | refine d_no rfl rfl rfl (by decide) ?_ | refine d_no' rfl rfl rfl ?_ | (refine wq2 (fun hb => ?_) (fun hb => ?_) <;> (simp only [hb]; try simp only [hbs, ne_eq] at hb; try (exfalso; first | omega | exact hb trivial))) | fail)
    refine ⟨⟨(u', l5, m + 1, b, lim1, TW, ap), nx⟩, Nat.lt_succ_self _, ?_⟩
    refine ⟨by repeat' (first | exact trivial | exact FinA.one (FinB.cell (FinC.same rfl)) | exact FinA.one (FinB.cell FinC.nil) | exact FinA.bound rfl | exact FinA.one (FinB.cell (FinC.own rfl rfl rfl rfl)) | exact FinA.one (FinB.cell (FinC.v (by first | rfl | (((try dsimp only); first | (congr 1 <;> omega) | (congr 1)))))) | exact FinA.one (FinB.cell (FinC.ow rfl (by first | rfl | (((try dsimp only); first | (congr 1 <;> omega) | (congr 1)))))) | exact FinA.one (FinB.agg' rfl rfl) | refine ⟨⟨_, rfl, ?_⟩, ?_⟩), by repeat' (first | exact trivial | refine ⟨⟨_, rfl, by first | rfl | (((try dsimp only); first | (congr 1 <;> omega) | (congr 1)); done) | (simp [renO, *]; done)⟩, by first | rfl | assumption, ?_⟩), rfl⟩
   ·have ha0' : (a : Int) > 0 := by omega
    have g1 := uv_at (l := l3) (i := a - 1) (by omega)
    have g2 := uv_at (l := l3) (i := v) (by omega)
    have g3 : a - 1 < (l3.map uv).length := by simp; omega
    have g4 : v < (l3.map uv).length := by simp; omega
    have hL := p_Less (l3.getD (a - 1) 0) (l3.getD v 0)
    rw [decide_eq_true (hf3 ha0 v hv.1 hv.2)] at hL
    have kk : (a : Int) - 1 = ((a - 1 : Nat) : Int) := by omega
    clear hR hlr hlen hu hu0 hab hma hmb hv hlim hT hTW hfl hfl5 hf4 hf3 hf hn5 hn4 hn3 hnd e1 e2 a4 a3 p1 p2 ih hl_l5 hl_l4 hl_d hbl hlim2
    generalize l3.getD (a - 1) 0 = x1 at *
    generalize l3.getD v 0 = x2 at *
    generalize a - 1 = a' at *
    repeat' (first | ((first | apply o_do | apply d_do | apply d_yes rfl rfl rfl); first | exact ls_indexAddr_own tab_ok rfl rfl hm3 rfl rfl kk g3 rfl | exact ls_indexAddr_own tab_ok rfl rfl hm3 rfl rfl rfl g4 rfl | exact ls_load_eref tab_ok rfl rfl hm3 g1 rfl rfl rfl rfl | exact ls_load_eref tab_ok rfl rfl hm3 g2 rfl rfl rfl rfl | exact lsc (hL) | exact lca [0] 5 hP | exact lca [0] 5 hI | exact ls_quo64 hq8 rfl rfl (by decide) (by omega) rfl | exact lsq) | refine a_seq ?_ | refine a_region ?_ | refine o_nil ?_ | refine a_block ?_ | refine a_ret ?_ | refine a_exit ?_ | refine a_skip ?_ | refine a_draw mixed ?_ | refine d_nil (by kernel_rfl) ?_ | refine o_yes rfl rfl rfl ?_ | refine o_no rfl rfl rfl (by decide) ?_ | refine o_no' rfl rfl rfl ?_ | refine a_condT rfl ?_ | refine a_condF rfl ?_ | refine d_no rfl rfl rfl (by decide) ?_ | refine d_no' rfl rfl rfl ?_ | (refine wq2 (fun hb => ?_) (fun hb => ?_) <;> (simp only [hb]; try simp only [hbs, ne_eq] at hb; try (exfalso; first | omega | exact hb trivial))) | fail)
    refine ⟨⟨(u', l5, m + 1, b, lim1, TW, ap), nx⟩, Nat.lt_succ_self _, ?_⟩
    refine ⟨by repeat' (first | exact trivial | exact FinA.one (FinB.cell (FinC.same rfl)) | exact FinA.one (FinB.cell FinC.nil) | exact FinA.bound rfl | exact FinA.one (FinB.cell (FinC.own rfl rfl rfl rfl)) | exact FinA.one (FinB.cell (FinC.v (by first | rfl | (((try dsimp only); first | (congr 1 <;> omega) | (congr 1)))))) | exact FinA.one (FinB.cell (FinC.ow rfl (by first | rfl | (((try dsimp only); first | (congr 1 <;> omega) | (congr 1)))))) | exact FinA.one (FinB.agg' rfl rfl) | refine ⟨⟨_, rfl, ?_⟩, ?_⟩), by repeat' (first | exact trivial | refine ⟨⟨_, rfl, by first | rfl | (((try dsimp only); first | (congr 1 <;> omega) | (congr 1)); done) | (simp [renO, *]; done)⟩, by first | rfl | assumption, ?_⟩), rfl⟩
  ·rw [if_neg hlr] at hR
   have hI := ih u' (by omega) l4 (m + 1) b lim1 (by omega) (by omega) (by omega) hlim2 hn4 hfl (by omega)
   obtain ⟨e1, e2⟩ := pdq_ok rnd_lt u' l4 (m + 1) b lim1 true true (by omega) (by omega) hn4 hfl
   rw [hl_l4] at hI
   unfold NS at hI hP
   generalize pdq rnd u' l4 (m + 1) b lim1 true true = l5 at *
   have hl_l5 : l5.length = l.length := by rw [e1.len, hl_l4]
   have hn5 := nodup_sw e1 (by omega) hn4
   have hfl5 : Fl l5 a m := (hf4.left (c := m) (by omega)).far e1 (by omega) (.inl (by omega))
   have hlr' : ¬ (m : Int) - a < (b : Int) - m := by omega
   rw [show ((m + 1 : Nat) : Int) = (m : Int) + 1 by omega] at hI
   obtain ⟨T, hT⟩ : ∃ T, T = (b - a) / 8 := ⟨_, rfl⟩
   obtain ⟨TW, hTW⟩ : ∃ TW, TW = decide (T ≤ b - m) := ⟨_, rfl⟩
   rw [← hT, ← hTW] at hR
   rw [← hT] at hq8
   have hTW2 : decide ((T : Int) ≤ (b : Int) - m) = TW := by rw [hTW]; exact decide_eq_decide.2 (by omega)
   have nx : R = pdq rnd u' l5 a m lim1 TW ap ∧ u' ≤ u0 ∧ l5.length = l.length ∧ a ≤ m ∧ m ≤ l.length ∧ lim1 ≤ 100 ∧ l5.Nodup ∧ Fl l5 a m ∧ m - a ≤ u' := ⟨hR, by omega, hl_l5, hma, by omega, hlim2, hn5, hfl5, by omega⟩
   have hb1000 : (b : Int) ≤ 1000 := by omega
   have hmI : (a : Int) ≤ m ∧ (m : Int) < b := by omega
   have hT1000 : (T : Int) ≤ 1000 := by omega
   rcases Nat.eq_zero_or_pos a with ha0 | ha0
   ·have ha0' : ¬ (a : Int) > 0 := by omega
    clear hR hlr hlen hu hu0 hab hma hmb hv hlim hT hTW hfl hfl5 hf4 hf3 hf hn5 hn4 hn3 hnd e1 e2 a4 a3 p1 p2 ih hl_l5 hl_l4 hl_d hbl hlim2
    repeat' (first | ((first | apply o_do | apply d_do | apply d_yes rfl rfl rfl); first | exact lca [0] 5 hP | exact lca [0] 5 hI | exact ls_quo64 hq8 rfl rfl (by decide) (by omega) rfl | exact lsq) | refine a_seq ?_ | refine a_region ?_ | refine o_nil ?_ | refine a_block ?_ | refine a_ret ?_ | refine a_exit ?_ | refine a_skip ?_ | refine a_draw mixed ?_ | refine d_nil (by kernel_rfl) ?_ | refine o_yes rfl rfl rfl ?_ | refine o_no rfl rfl rfl (by decide) ?_ | refine o_no' rfl rfl rfl ?_ | refine a_condT rfl ?_ | refine a_condF rfl ?_ | refine d_no rfl rfl rfl (by decide) ?_ | refine d_no' rfl rfl rfl ?_ | (refine wq2 (fun hb => ?_) (fun hb => ?_) <;> (simp only [hb]; try simp only [hbs, ne_eq] at hb; try (exfalso; first | omega | exact hb trivial))) | fail)
    refine ⟨⟨(u', l5, a, m, lim1, TW, ap), nx⟩, Nat.lt_succ_self _, ?_⟩
    refine ⟨by repeat' (first | exact trivial | exact FinA.one (FinB.cell (FinC.same rfl)) | exact FinA.one (FinB.cell FinC.nil) | exact FinA.bound rfl | exact FinA.one (FinB.cell (FinC.own rfl rfl rfl rfl)) | exact FinA.one (FinB.cell (FinC.v (by first | rfl | (((try dsimp only); first | (congr 1 <;> omega) | (congr 1)))))) | exact FinA.one (FinB.cell (FinC.ow rfl (by first | rfl | (((try dsimp only); first | (congr 1 <;> omega) | (congr 1)))))) | exact FinA.one (FinB.agg' rfl rfl) | refine ⟨⟨_, rfl, ?_⟩, ?_⟩), by repeat' (first | exact trivial | refine ⟨⟨_, rfl, by first | rfl | (((try dsimp only); first | (congr 1 <;> omega) | (congr 1)); done) | (simp [renO, *]; done)⟩, by first | rfl | assumption, ?_⟩), rfl⟩
   ·have ha0' : (a : Int) > 0 := by omega
    have g1 := uv_at (l := l3) (i := a - 1) (by omega)
    have g2 := uv_at (l := l3) (i := v) (by omega)
    have g3 : a - 1 < (l3.map uv).length := by simp; omega
    have g4 : v < (l3.map uv).length := by simp; omega
    have hL := p_Less (l3.getD (a - 1) 0) (l3.getD v 0)
    rw [decide_eq_true (hf3 ha0 v hv.1 hv.2)] at hL
    have kk : (a : Int) - 1 = ((a - 1 : Nat) : Int) := by omega
    clear hR hlr hlen hu hu0 hab hma hmb hv hlim hT hTW hfl hfl5 hf4 hf3 hf hn5 hn4 hn3 hnd e1 e2 a4 a3 p1 p2 ih hl_l5 hl_l4 hl_d hbl hlim2
    generalize l3.getD (a - 1) 0 = x1 at *
    generalize l3.getD v 0 = x2 at *
    generalize a - 1 = a' at *
    repeat' (first | ((first | apply o_do | apply d_do | apply d_yes rfl rfl rfl); first | exact ls_indexAddr_own tab_ok rfl rfl hm3 rfl rfl kk g3 rfl | exact ls_indexAddr_own tab_ok rfl rfl hm3 rfl rfl rfl g4 rfl | exact ls_load_eref tab_ok rfl rfl hm3 g1 rfl rfl rfl rfl | exact ls_load_eref tab_ok rfl rfl hm3 g2 rfl rfl rfl rfl | exact lsc (hL) | exact lca [0] 5 hP | exact lca [0] 5 hI | exact ls_quo64 hq8 rfl rfl (by decide) (by omega) rfl | exact lsq) | refine a_seq ?_ | refine a_region ?_ | refine o_nil ?_ | refine a_block ?_ | refine a_ret ?_ | refine a_exit ?_ | refine a_skip ?_ | refine a_draw mixed ?_ | refine d_nil (by kernel_rfl) ?_ | refine o_yes rfl rfl rfl ?_ | refine o_no rfl rfl rfl (by decide) ?_ | refine o_no' rfl rfl rfl ?_ | refine a_condT rfl ?_ | refine a_condF rfl ?_ | refine d_no rfl rfl rfl (by decide) ?_ | refine d_no' rfl rfl rfl ?_ | (refine wq2 (fun hb => ?_) (fun hb => ?_) <;> (simp only [hb]; try simp only [hbs, ne_eq] at hb; try (exfalso; first | omega | exact hb trivial))) | fail)
    refine ⟨⟨(u', l5, a, m, lim1, TW, ap), nx⟩, Nat.lt_succ_self _, ?_⟩
    refine ⟨by repeat' (first | exact trivial | exact FinA.one (FinB.cell (FinC.same rfl)) | exact FinA.one (FinB.cell FinC.nil) | exact FinA.bound rfl | exact FinA.one (FinB.cell (FinC.own rfl rfl rfl rfl)) | exact FinA.one (FinB.cell (FinC.v (by first | rfl | (((try dsimp only); first | (congr 1 <;> omega) | (congr 1)))))) | exact FinA.one (FinB.cell (FinC.ow rfl (by first | rfl | (((try dsimp only); first | (congr 1 <;> omega) | (congr 1)))))) | exact FinA.one (FinB.agg' rfl rfl) | refine ⟨⟨_, rfl, ?_⟩, ?_⟩), by repeat' (first | exact trivial | refine ⟨⟨_, rfl, by first | rfl | (((try dsimp only); first | (congr 1 <;> omega) | (congr 1)); done) | (simp [renO, *]; done)⟩, by first | rfl | assumption, ?_⟩), rfl⟩
 intro rest
 dsimp only [tailAt] at rest
 have hb1000 : (b : Int) ≤ 1000 := by omega
 have hpvI : (a : Int) ≤ pv ∧ (pv : Int) < b := by omega
 have hlI : (lim : Int) ≤ 100 := by omega
 have a3 := a2.trans hc1
 have hVI : ps = 12 → (b : Int) - 1 - ((pv : Int) - a) = (v : Int) := fun h => by have := (hBe h).2; omega
 have hVN : ¬ ps = 12 → (pv : Int) = (v : Int) := fun h => by have := (hBn h).2; omega
 have hN0 : hintN 0 = 1 := rfl
 have hN12 : hintN 12 = 2 := rfl
 have hNx : ¬ ps = 0 → ¬ ps = 12 → hintN ps = 0 := fun h1 h2 => by unfold hintN; rw [if_neg h1, if_neg h2]
 have hl0I : ¬ (lim : Int) = 0 := by omega
 have hNe : ¬ ps = 12 → ¬ ((hintN ps : Nat) : Int) = 2 := fun h => by
  unfold hintN
  by_cases h1 : ps = 0
  ·rw [if_pos h1]; decide
  ·rw [if_neg h1, if_neg h]; decide
 have hlimF : wb = false → ((lim : Int) - 1 = (lim1 : Int)) := fun h => by rw [hlim1, if_neg (by simp [h])]; omega
 have hlimT : wb = true → lim = lim1 := fun h => by rw [hlim1, if_pos h]
 have hBe1 := fun h => (hBe h).1
 have hBn1 := fun h => (hBn h).1
 clear hlim1 hBe hBn hv hcp hlen hu hu0 hf hnd hab hbl ih hl0 hl0' hf2 hlim2 hlim a1 hc1 hl_d hl_l1 hl_l2 hm hw
 unfold NS at hA hC hV hD
 cases wb with
 | false =>
  have hH : H = false := by rw [hHd]; rfl
  subst hH
  simp only [Bool.false_eq_true, false_and, if_false] at hR
  rw [hAe rfl] at hA
  have hlF := hlimF rfl
  clear hAe hAt hlimT hlimF hHd hD a3
  by_cases hp : ps = 12
  ·have h1 := hBe1 hp
   have h2 := hVI hp
   rw [h1] at hV
   subst hp
   rw [hN12] at hC
   clear hNe hNx hVN hVI hBe1 hBn1
   repeat' (first | (refine a_weak ?_ (rest l2 ⟨hR, a2⟩); refine ⟨by repeat' (first | exact trivial | exact FinA.one (FinB.cell (FinC.same rfl)) | exact FinA.one (FinB.cell FinC.nil) | exact FinA.bound rfl | exact FinA.one (FinB.cell (FinC.own rfl rfl rfl rfl)) | exact FinA.one (FinB.cell (FinC.v (by first | rfl | (((try dsimp only); first | (congr 1 <;> omega)))))) | exact FinA.one (FinB.cell (FinC.ow rfl (by first | rfl | (((try dsimp only); first | (congr 1 <;> omega)))))) | exact FinA.one (FinB.agg' rfl rfl) | refine ⟨⟨_, rfl, ?_⟩, ?_⟩), by repeat' (first | exact trivial | refine ⟨⟨_, rfl, by first | rfl | (((try dsimp only); first | (congr 1 <;> omega)); done) | (simp [renO, *]; done)⟩, by first | rfl | assumption, ?_⟩), rfl⟩) | ((first | apply o_do | apply d_do | apply d_yes rfl rfl rfl); first | exact lca [0] 5 hA | exact lca [0] 5 hC | exact lca [0] 5 hV | exact lsq) | refine a_seq ?_ | refine a_region ?_ | refine o_nil ?_ | refine a_block ?_ | refine a_ret ?_ | refine a_exit ?_ | refine a_skip ?_ | refine a_draw mixed ?_ | refine d_nil (by kernel_rfl) ?_ | refine o_yes rfl rfl rfl ?_ | refine o_no rfl rfl rfl (by decide) ?_ | refine o_no' rfl rfl rfl ?_ | refine a_condT rfl ?_ | refine a_condF rfl ?_ | refine d_no rfl rfl rfl (by decide) ?_ | refine d_no' rfl rfl rfl ?_ | (refine wq2 (fun hb => ?_) (fun hb => ?_) <;> (simp only [hb]; try simp only [hbs, ne_eq] at hb; try (exfalso; first | omega | exact hb trivial))) | fail)
  ·have h1 := hBn1 hp
   have h2 := hVN hp
   have h3 := hNe hp
   subst h1
   generalize hintN ps = hh at *
   clear hNe hNx hVN hVI hBe1 hBn1 hV
   repeat' (first | (refine a_weak ?_ (rest l1 ⟨hR, a2⟩); refine ⟨by repeat' (first | exact trivial | exact FinA.one (FinB.cell (FinC.same rfl)) | exact FinA.one (FinB.cell FinC.nil) | exact FinA.bound rfl | exact FinA.one (FinB.cell (FinC.own rfl rfl rfl rfl)) | exact FinA.one (FinB.cell (FinC.v (by first | rfl | (((try dsimp only); first | (congr 1 <;> omega)))))) | exact FinA.one (FinB.cell (FinC.ow rfl (by first | rfl | (((try dsimp only); first | (congr 1 <;> omega)))))) | exact FinA.one (FinB.agg' rfl rfl) | refine ⟨⟨_, rfl, ?_⟩, ?_⟩), by repeat' (first | exact trivial | refine ⟨⟨_, rfl, by first | rfl | (((try dsimp only); first | (congr 1 <;> omega)); done) | (simp [renO, *]; done)⟩, by first | rfl | assumption, ?_⟩), rfl⟩) | ((first | apply o_do | apply d_do | apply d_yes rfl rfl rfl); first | exact lca [0] 5 hA | exact lca [0] 5 hC | exact lsq) | refine a_seq ?_ | refine a_region ?_ | refine o_nil ?_ | refine a_block ?_ | refine a_ret ?_ | refine a_exit ?_ | refine a_skip ?_ | refine a_draw mixed ?_ | refine d_nil (by kernel_rfl) ?_ | refine o_yes rfl rfl rfl ?_ | refine o_no rfl rfl rfl (by decide) ?_ | refine o_no' rfl rfl rfl ?_ | refine a_condT rfl ?_ | refine a_condF rfl ?_ | refine d_no rfl rfl rfl (by decide) ?_ | refine d_no' rfl rfl rfl ?_ | (refine wq2 (fun hb => ?_) (fun hb => ?_) <;> (simp only [hb]; try simp only [hbs, ne_eq] at hb; try (exfalso; first | omega | exact hb trivial))) | fail)
 | true =>
  have hdl := hAt rfl
  subst hdl
  obtain rfl := hlimT rfl
  clear hAe hAt hlimT hlimF hA
  cases wp with
  | false =>
   have hH : H = false := by rw [hHd]; rfl
   subst hH
   simp only [Bool.false_eq_true, false_and, if_false] at hR
   clear hHd hD a3
   by_cases hp : ps = 12
   ·have h1 := hBe1 hp
    have h2 := hVI hp
    rw [h1] at hV
    subst hp
    rw [hN12] at hC
    clear hNe hNx hVN hVI hBe1 hBn1
    repeat' (first | (refine a_weak ?_ (rest l2 ⟨hR, a2⟩); refine ⟨by repeat' (first | exact trivial | exact FinA.one (FinB.cell (FinC.same rfl)) | exact FinA.one (FinB.cell FinC.nil) | exact FinA.bound rfl | exact FinA.one (FinB.cell (FinC.own rfl rfl rfl rfl)) | exact FinA.one (FinB.cell (FinC.v (by first | rfl | (((try dsimp only); first | (congr 1 <;> omega)))))) | exact FinA.one (FinB.cell (FinC.ow rfl (by first | rfl | (((try dsimp only); first | (congr 1 <;> omega)))))) | exact FinA.one (FinB.agg' rfl rfl) | refine ⟨⟨_, rfl, ?_⟩, ?_⟩), by repeat' (first | exact trivial | refine ⟨⟨_, rfl, by first | rfl | (((try dsimp only); first | (congr 1 <;> omega)); done) | (simp [renO, *]; done)⟩, by first | rfl | assumption, ?_⟩), rfl⟩) | ((first | apply o_do | apply d_do | apply d_yes rfl rfl rfl); first | exact lca [0] 5 hC | exact lca [0] 5 hV | exact lsq) | refine a_seq ?_ | refine a_region ?_ | refine o_nil ?_ | refine a_block ?_ | refine a_ret ?_ | refine a_exit ?_ | refine a_skip ?_ | refine a_draw mixed ?_ | refine d_nil (by kernel_rfl) ?_ | refine o_yes rfl rfl rfl ?_ | refine o_no rfl rfl rfl (by decide) ?_ | refine o_no' rfl rfl rfl ?_ | refine a_condT rfl ?_ | refine a_condF rfl ?_ | refine d_no rfl rfl rfl (by decide) ?_ | refine d_no' rfl rfl rfl ?_ | (refine wq2 (fun hb => ?_) (fun hb => ?_) <;> (simp only [hb]; try simp only [hbs, ne_eq] at hb; try (exfalso; first | omega | exact hb trivial))) | fail)
   ·have h1 := hBn1 hp
    have h2 := hVN hp
    have h3 := hNe hp
    subst h1
    generalize hintN ps = hh at *
    clear hNe hNx hVN hVI hBe1 hBn1 hV
    repeat' (first | (refine a_weak ?_ (rest d ⟨hR, a2⟩); refine ⟨by repeat' (first | exact trivial | exact FinA.one (FinB.cell (FinC.same rfl)) | exact FinA.one (FinB.cell FinC.nil) | exact FinA.bound rfl | exact FinA.one (FinB.cell (FinC.own rfl rfl rfl rfl)) | exact FinA.one (FinB.cell (FinC.v (by first | rfl | (((try dsimp only); first | (congr 1 <;> omega)))))) | exact FinA.one (FinB.cell (FinC.ow rfl (by first | rfl | (((try dsimp only); first | (congr 1 <;> omega)))))) | exact FinA.one (FinB.agg' rfl rfl) | refine ⟨⟨_, rfl, ?_⟩, ?_⟩), by repeat' (first | exact trivial | refine ⟨⟨_, rfl, by first | rfl | (((try dsimp only); first | (congr 1 <;> omega)); done) | (simp [renO, *]; done)⟩, by first | rfl | assumption, ?_⟩), rfl⟩) | ((first | apply o_do | apply d_do | apply d_yes rfl rfl rfl); first | exact lca [0] 5 hC | exact lsq) | refine a_seq ?_ | refine a_region ?_ | refine o_nil ?_ | refine a_block ?_ | refine a_ret ?_ | refine a_exit ?_ | refine a_skip ?_ | refine a_draw mixed ?_ | refine d_nil (by kernel_rfl) ?_ | refine o_yes rfl rfl rfl ?_ | refine o_no rfl rfl rfl (by decide) ?_ | refine o_no' rfl rfl rfl ?_ | refine a_condT rfl ?_ | refine a_condF rfl ?_ | refine d_no rfl rfl rfl (by decide) ?_ | refine d_no' rfl rfl rfl ?_ | (refine wq2 (fun hb => ?_) (fun hb => ?_) <;> (simp only [hb]; try simp only [hbs, ne_eq] at hb; try (exfalso; first | omega | exact hb trivial))) | fail)
  | true =>
   by_cases hp : ps = 12
   ·have hH : H = true := by rw [hHd]; simp [hp]
    subst hH
    have h1 := hBe1 hp
    have h2 := hVI hp
    rw [h1] at hV
    subst hp
    rw [hN12] at hC
    simp only [true_and, if_true] at hR
    clear hNe hNx hVN hVI hBe1 hBn1 hHd
    cases c2 with
    | true =>
     rw [if_pos rfl] at hR
     subst hR
     clear rest
     repeat' (first | ((first | apply o_do | apply d_do | apply d_yes rfl rfl rfl); first | exact lca [0] 5 hC | exact lca [0] 5 hV | exact lca [0] 5 hD | exact lsq) | refine a_seq ?_ | refine a_region ?_ | refine o_nil ?_ | refine a_block ?_ | refine a_ret ?_ | refine a_exit ?_ | refine a_skip ?_ | refine a_draw mixed ?_ | refine d_nil (by kernel_rfl) ?_ | refine o_yes rfl rfl rfl ?_ | refine o_no rfl rfl rfl (by decide) ?_ | refine o_no' rfl rfl rfl ?_ | refine a_condT rfl ?_ | refine a_condF rfl ?_ | refine d_no rfl rfl rfl (by decide) ?_ | refine d_no' rfl rfl rfl ?_ | (refine wq2 (fun hb => ?_) (fun hb => ?_) <;> (simp only [hb]; try simp only [hbs, ne_eq] at hb; try (exfalso; first | omega | exact hb trivial))) | fail)
     refine rq rfl ?_
     exact fnq
    | false =>
     rw [if_neg (by decide)] at hR
     repeat' (first | (refine a_weak ?_ (rest c1 ⟨hR, a3⟩); refine ⟨by repeat' (first | exact trivial | exact FinA.one (FinB.cell (FinC.same rfl)) | exact FinA.one (FinB.cell FinC.nil) | exact FinA.bound rfl | exact FinA.one (FinB.cell (FinC.own rfl rfl rfl rfl)) | exact FinA.one (FinB.cell (FinC.v (by first | rfl | (((try dsimp only); first | (congr 1 <;> omega)))))) | exact FinA.one (FinB.cell (FinC.ow rfl (by first | rfl | (((try dsimp only); first | (congr 1 <;> omega)))))) | exact FinA.one (FinB.agg' rfl rfl) | refine ⟨⟨_, rfl, ?_⟩, ?_⟩), by repeat' (first | exact trivial | refine ⟨⟨_, rfl, by first | rfl | (((try dsimp only); first | (congr 1 <;> omega)); done) | (simp [renO, *]; done)⟩, by first | rfl | assumption, ?_⟩), rfl⟩) | ((first | apply o_do | apply d_do | apply d_yes rfl rfl rfl); first | exact lca [0] 5 hC | exact lca [0] 5 hV | exact lca [0] 5 hD | exact lsq) | refine a_seq ?_ | refine a_region ?_ | refine o_nil ?_ | refine a_block ?_ | refine a_ret ?_ | refine a_exit ?_ | refine a_skip ?_ | refine a_draw mixed ?_ | refine d_nil (by kernel_rfl) ?_ | refine o_yes rfl rfl rfl ?_ | refine o_no rfl rfl rfl (by decide) ?_ | refine o_no' rfl rfl rfl ?_ | refine a_condT rfl ?_ | refine a_condF rfl ?_ | refine d_no rfl rfl rfl (by decide) ?_ | refine d_no' rfl rfl rfl ?_ | (refine wq2 (fun hb => ?_) (fun hb => ?_) <;> (simp only [hb]; try simp only [hbs, ne_eq] at hb; try (exfalso; first | omega | exact hb trivial))) | fail)
   ·have h1 := hBn1 hp
    have h2 := hVN hp
    have h3 := hNe hp
    subst h1
    by_cases h0 : ps = 0
    ·have hH : H = true := by rw [hHd]; simp [h0]
     subst hH
     subst h0
     rw [hN0] at hC
     simp only [true_and, if_true] at hR
     clear hNe hNx hVN hVI hBe1 hBn1 hV hHd h3
     cases c2 with
     | true =>
      rw [if_pos rfl] at hR
      subst hR
      clear rest
      repeat' (first | ((first | apply o_do | apply d_do | apply d_yes rfl rfl rfl); first | exact lca [0] 5 hC | exact lca [0] 5 hD | exact lsq) | refine a_seq ?_ | refine a_region ?_ | refine o_nil ?_ | refine a_block ?_ | refine a_ret ?_ | refine a_exit ?_ | refine a_skip ?_ | refine a_draw mixed ?_ | refine d_nil (by kernel_rfl) ?_ | refine o_yes rfl rfl rfl ?_ | refine o_no rfl rfl rfl (by decide) ?_ | refine o_no' rfl rfl rfl ?_ | refine a_condT rfl ?_ | refine a_condF rfl ?_ | refine d_no rfl rfl rfl (by decide) ?_ | refine d_no' rfl rfl rfl ?_ | (refine wq2 (fun hb => ?_) (fun hb => ?_) <;> (simp only [hb]; try simp only [hbs, ne_eq] at hb; try (exfalso; first | omega | exact hb trivial))) | fail)
      refine rq rfl ?_
      exact fnq
     | false =>
      rw [if_neg (by decide)] at hR
      repeat' (first | (refine a_weak ?_ (rest c1 ⟨hR, a3⟩); refine ⟨by repeat' (first | exact trivial | exact FinA.one (FinB.cell (FinC.same rfl)) | exact FinA.one (FinB.cell FinC.nil) | exact FinA.bound rfl | exact FinA.one (FinB.cell (FinC.own rfl rfl rfl rfl)) | exact FinA.one (FinB.cell (FinC.v (by first | rfl | (((try dsimp only); first | (congr 1 <;> omega)))))) | exact FinA.one (FinB.cell (FinC.ow rfl (by first | rfl | (((try dsimp only); first | (congr 1 <;> omega)))))) | exact FinA.one (FinB.agg' rfl rfl) | refine ⟨⟨_, rfl, ?_⟩, ?_⟩), by repeat' (first | exact trivial | refine ⟨⟨_, rfl, by first | rfl | (((try dsimp only); first | (congr 1 <;> omega)); done) | (simp [renO, *]; done)⟩, by first | rfl | assumption, ?_⟩), rfl⟩) | ((first | apply o_do | apply d_do | apply d_yes rfl rfl rfl); first | exact lca [0] 5 hC | exact lca [0] 5 hD | exact lsq) | refine a_seq ?_ | refine a_region ?_ | refine o_nil ?_ | refine a_block ?_ | refine a_ret ?_ | refine a_exit ?_ | refine a_skip ?_ | refine a_draw mixed ?_ | refine d_nil (by kernel_rfl) ?_ | refine o_yes rfl rfl rfl ?_ | refine o_no rfl rfl rfl (by decide) ?_ | refine o_no' rfl rfl rfl ?_ | refine a_condT rfl ?_ | refine a_condF rfl ?_ | refine d_no rfl rfl rfl (by decide) ?_ | refine d_no' rfl rfl rfl ?_ | (refine wq2 (fun hb => ?_) (fun hb => ?_) <;> (simp only [hb]; try simp only [hbs, ne_eq] at hb; try (exfalso; first | omega | exact hb trivial))) | fail)
    ·have hH : H = false := by rw [hHd]; simp [h0, hp]
     subst hH
     simp only [Bool.false_eq_true, false_and, if_false] at hR
     rw [hNx h0 hp] at hC
     clear hNe hNx hVN hVI hBe1 hBn1 hV hHd h3 hD
     repeat' (first | (refine a_weak ?_ (rest d ⟨hR, a2⟩); refine ⟨by repeat' (first | exact trivial | exact FinA.one (FinB.cell (FinC.same rfl)) | exact FinA.one (FinB.cell FinC.nil) | exact FinA.bound rfl | exact FinA.one (FinB.cell (FinC.own rfl rfl rfl rfl)) | exact FinA.one (FinB.cell (FinC.v (by first | rfl | (((try dsimp only); first | (congr 1 <;> omega)))))) | exact FinA.one (FinB.cell (FinC.ow rfl (by first | rfl | (((try dsimp only); first | (congr 1 <;> omega)))))) | exact FinA.one (FinB.agg' rfl rfl) | refine ⟨⟨_, rfl, ?_⟩, ?_⟩), by repeat' (first | exact trivial | refine ⟨⟨_, rfl, by first | rfl | (((try dsimp only); first | (congr 1 <;> omega)); done) | (simp [renO, *]; done)⟩, by first | rfl | assumption, ?_⟩), rfl⟩) | ((first | apply o_do | apply d_do | apply d_yes rfl rfl rfl); first | exact lca [0] 5 hC | exact lsq) | refine a_seq ?_ | refine a_region ?_ | refine o_nil ?_ | refine a_block ?_ | refine a_ret ?_ | refine a_exit ?_ | refine a_skip ?_ | refine a_draw mixed ?_ | refine d_nil (by kernel_rfl) ?_ | refine o_yes rfl rfl rfl ?_ | refine o_no rfl rfl rfl (by decide) ?_ | refine o_no' rfl rfl rfl ?_ | refine a_condT rfl ?_ | refine a_condF rfl ?_ | refine d_no rfl rfl rfl (by decide) ?_ | refine d_no' rfl rfl rfl ?_ | (refine wq2 (fun hb => ?_) (fun hb => ?_) <;> (simp only [hb]; try simp only [hbs, ne_eq] at hb; try (exfalso; first | omega | exact hb trivial))) | fail)
theorem bl64 : ∀ n : Fin 1001, Lib.bitLen n.1 ≤ 100 := by decide +kernel
theorem a_Sort (l : List Nat) (hm : l.length ≤ 1000) (hn : l.Nodup) : ∃ m, m.Perm l ∧ m.Pairwise (· ≤ ·) ∧ AC Tryd.prog 21 [.own 0 l.length] (NS l) (.tup []) (NS m) := by
 have hlim := bl64 ⟨l.length, by omega⟩
 dsimp only at hlim
 have hf : Fl l 0 l.length := fun h => absurd h (by omega)
 have hI := a_pdq l.length l 0 l.length (Lib.bitLen l.length) (Nat.zero_le _) (Nat.le_refl _) hm hlim hn hf (by omega)
 obtain ⟨k1, k2⟩ := pdq_ok rnd_lt l.length l 0 l.length (Lib.bitLen l.length) true true (Nat.zero_le _) (Nat.le_refl _) hn hf
 generalize pdq rnd l.length l 0 l.length (Lib.bitLen l.length) true true = m at *
 refine ⟨m, k1.perm (Nat.le_refl _), ?_, ?_⟩
 ·rw [List.pairwise_iff_getElem]
  intro i j hi hj hij
  have := k2 i j (Nat.zero_le _) hij (by rw [← k1.len]; exact hj)
  simpa [List.getD, hi, hj] using this
 have hml := k1.len
 have hL := p_Len l.length (by omega)
 have e1 : IntKind.u64.wrap ((l.map uv).length : Int) = (l.length : Int) := by rw [List.length_map]; exact conv_u l.length (by omega)
 have hll : l.length = (l.map uv).length := by simp
 generalize Lib.bitLen l.length = L at *
 unfold NS at hI ⊢
 have z0 : ((0 : Nat) : Int) = 0 := rfl
 rw [z0] at hI
 have hI : AC Tryd.prog 26 [.own 0 l.length, .v (.int .i64 0), .v (.int .i64 (l.map uv).length), .v (.int .i64 L)] [(0, .row 46 1 (l.map uv))] (.tup []) [(0, .row 46 1 (m.map uv))] := by rw [List.length_map]; exact hI
 have hln : ((l.map uv).length : Int) = (m.length : Int) := by simp [hml]
 have hl0 : (l.length : Int) ≤ 1000 := by omega
 clear k1 k2 hf hn
 refine (ac_body tab_ok Tryd.func21 rfl (by kernel_rfl) rfl ?_); intro w0 M μ0; simp only [Tryd.ntmps21, List.length_cons, List.length_nil, Nat.reduceAdd, Nat.reduceSub, numb]
 repeat' (first | ((first | apply o_do | apply d_do | apply d_yes rfl rfl rfl); first | exact ls_len_own tab_ok rfl rfl hll rfl rfl | exact lca [0] 5 hI | exact lsc (hL) | exact ls_convB tab_ok e1 rfl Tryd.underlying3 Tryd.underlying58 rfl | exact lsq) | refine a_seq ?_ | refine a_region ?_ | refine o_nil ?_ | refine a_block ?_ | refine a_ret ?_ | refine a_exit ?_ | refine a_skip ?_ | refine a_draw mixed ?_ | refine d_nil (by kernel_rfl) ?_ | refine o_yes rfl rfl rfl ?_ | refine o_no rfl rfl rfl (by decide) ?_ | refine o_no' rfl rfl rfl ?_ | refine a_condT rfl ?_ | refine a_condF rfl ?_ | refine d_no rfl rfl rfl (by decide) ?_ | refine d_no' rfl rfl rfl ?_ | (refine wq2 (fun hb => ?_) (fun hb => ?_) <;> (simp only [hb]; try simp only [hbs, ne_eq] at hb; try (exfalso; first | omega | exact hb trivial))) | fail)
 refine rq rfl ?_
 exact fnq
end Go.Proofs.YtcfidmdkioccdaaDoor
namespace Go.Proofs.YtcfidmdkioccdaaDoor
def pt (at' p : Nat) : Nat := if p < at' then p + 4294967296 else p
def rstep (at' : Nat) (s : Nat × Int) (x : Nat × Int) : Nat × Int := if s.2 = 0 ∨ pt at' x.1 < s.1 then (pt at' x.1, x.2) else s
def ownL (at' : Nat) (l : List (Nat × Int)) : Int := (l.foldl (rstep at') (0, 0)).2
def IsOwn (at' : Nat) (l : List (Nat × Int)) (w : Int) : Prop := ∃ l1 p l2, l = l1 ++ (p, w) :: l2 ∧ (∀ x ∈ l1, pt at' p < pt at' x.1) ∧ (∀ x ∈ l2, pt at' p ≤ pt at' x.1)
theorem fold_far {a c : Nat} : ∀ (l : List (Nat × Int)) (s : Nat × Int), (s.2 = 0 ∨ c < s.1) → (∀ x ∈ l, c < pt a x.1) → (l.foldl (rstep a) s).2 = 0 ∨ c < (l.foldl (rstep a) s).1
 | [], s, h, _ => h
 | x :: l, s, h, hl => by
  refine fold_far l (rstep a s x) ?_ fun y hy => hl y (by simp [hy])
  unfold rstep
  split
  ·exact .inr (hl x (by simp))
  ·exact h
theorem fold_near {a : Nat} : ∀ (l : List (Nat × Int)) (s : Nat × Int), s.2 ≠ 0 → (∀ x ∈ l, s.1 ≤ pt a x.1) → l.foldl (rstep a) s = s
 | [], s, _, _ => rfl
 | x :: l, s, h, hl => by
  have h1 : rstep a s x = s := by
   unfold rstep
   have := hl x (by simp)
   rw [if_neg (by omega)]
  rw [List.foldl_cons, h1]
  exact fold_near l s h fun y hy => hl y (by simp [hy])
theorem IsOwn.eq {a : Nat} {l : List (Nat × Int)} {w : Int} (h : IsOwn a l w) (h0 : ∀ x ∈ l, x.2 ≠ 0) : ownL a l = w := by
 obtain ⟨l1, p, l2, rfl, h1, h2⟩ := h
 unfold ownL
 rw [List.foldl_append, List.foldl_cons]
 have h3 := fold_far l1 (0, 0) (.inl rfl) h1
 have h4 : rstep a (l1.foldl (rstep a) (0, 0)) (p, w) = (pt a p, w) := by
  generalize l1.foldl (rstep a) (0, 0) = r at *
  unfold rstep
  rw [if_pos h3]
 rw [h4, fold_near l2 (pt a p, w) (h0 (p, w) (by simp)) h2]
theorem own_ex {a : Nat} : ∀ (l : List (Nat × Int)), l ≠ [] → ∃ w, IsOwn a l w
 | [], h => absurd rfl h
 | [x], _ => ⟨x.2, [], x.1, [], rfl, by simp, by simp⟩
 | x :: y :: l, _ => by
  obtain ⟨w, l1, p, l2, h, h1, h2⟩ := own_ex (a := a) (y :: l) (by simp)
  by_cases hx : pt a x.1 ≤ pt a p
  ·refine ⟨x.2, [], x.1, y :: l, rfl, by simp, fun z hz => ?_⟩
   rw [h] at hz
   rcases List.mem_append.1 hz with hz | hz
   ·have := h1 z hz; omega
   ·rcases List.mem_cons.1 hz with rfl | hz
    ·exact hx
    ·have := h2 z hz; omega
  ·refine ⟨w, x :: l1, p, l2, by rw [h]; rfl, fun z hz => ?_, h2⟩
   rcases List.mem_cons.1 hz with rfl | hz
   ·omega
   ·exact h1 z hz
theorem IsOwn.mem {a : Nat} {l : List (Nat × Int)} {w : Int} (h : IsOwn a l w) : ∃ p, (p, w) ∈ l := by
 obtain ⟨l1, p, l2, rfl, _⟩ := h
 exact ⟨p, by simp⟩
theorem IsOwn.but {a : Nat} {l : List (Nat × Int)} {w k : Int} (h : IsOwn a l w) (hk : w ≠ k) : IsOwn a (l.filter fun x => !decide (x.2 = k)) w := by
 obtain ⟨l1, p, l2, rfl, h1, h2⟩ := h
 refine ⟨l1.filter fun x => !decide (x.2 = k), p, l2.filter fun x => !decide (x.2 = k), ?_, fun x hx => h1 x (List.mem_filter.1 hx).1, fun x hx => h2 x (List.mem_filter.1 hx).1⟩
 rw [List.filter_append, List.filter_cons, if_pos (by simp [hk])]
theorem pt_inj {a p q : Nat} (ha : a < 4294967296) (hp : p < 4294967296) (hq : q < 4294967296) (h : pt a p = pt a q) : p = q := by
 unfold pt at h
 split at h <;> split at h <;> omega
def bstep (m : List (Nat × Int)) (x : Nat × Int) : List (Nat × Int) := if m.any (fun y => decide (y.1 = x.1)) then m else m ++ [x]
def byOf (l : List (Nat × Int)) : List (Nat × Int) := l.foldl bstep []
theorem byOf_snoc (l : List (Nat × Int)) (x : Nat × Int) : byOf (l ++ [x]) = bstep (byOf l) x := by simp [byOf]
def kUniq {α : Type} (m : List (Nat × α)) : Prop := (m.map Prod.fst).Nodup
theorem bstep_uniq {m : List (Nat × Int)} {x : Nat × Int} (h : kUniq m) : kUniq (bstep m x) := by
 unfold bstep
 split
 ·exact h
 ·rename_i hx
  unfold kUniq at *
  rw [List.map_append, List.nodup_append]
  refine ⟨h, by simp, ?_⟩
  intro a ha b hb e
  simp at hb
  subst hb; subst e
  obtain ⟨y, hy, e⟩ := List.mem_map.1 ha
  exact hx (List.any_eq_true.2 ⟨y, hy, by simpa using e⟩)
theorem bstep_len (m : List (Nat × Int)) (x : Nat × Int) : (bstep m x).length ≤ m.length + 1 := by
 unfold bstep
 split <;> simp
structure ByOk (l m : List (Nat × Int)) : Prop where
 uniq : kUniq m
 first : ∀ p w, (p, w) ∈ m → ∃ l1 l2, l = l1 ++ (p, w) :: l2 ∧ ∀ x ∈ l1, x.1 ≠ p
 all : ∀ x ∈ l, ∃ y ∈ m, y.1 = x.1
theorem ByOk.start : ByOk [] [] := ⟨by simp [kUniq], by simp, by simp⟩
theorem ByOk.next {l m : List (Nat × Int)} (h : ByOk l m) (x : Nat × Int) : ByOk (l ++ [x]) (bstep m x) := by
 refine ⟨bstep_uniq h.uniq, fun p w hm => ?_, fun y hy => ?_⟩
 ·have old : (p, w) ∈ m → ∃ l1 l2, l ++ [x] = l1 ++ (p, w) :: l2 ∧ ∀ z ∈ l1, z.1 ≠ p := fun hm => by
   obtain ⟨l1, l2, rfl, h2⟩ := h.first p w hm
   exact ⟨l1, l2 ++ [x], by simp, h2⟩
  unfold bstep at hm
  split at hm
  ·exact old hm
  ·rename_i hx
   rcases List.mem_append.1 hm with hm | hm
   ·exact old hm
   ·rw [List.mem_singleton] at hm
    refine ⟨l, [], by rw [hm], fun z hz e => ?_⟩
    obtain ⟨y, hy, e2⟩ := h.all z hz
    refine hx (List.any_eq_true.2 ⟨y, hy, ?_⟩)
    have e3 : x.1 = p := by rw [← hm]
    simp [e2, e, e3]
 ·rcases List.mem_append.1 hy with hy | hy
  ·obtain ⟨z, hz, e⟩ := h.all y hy
   refine ⟨z, ?_, e⟩
   unfold bstep
   split
   ·exact hz
   ·exact List.mem_append_left _ hz
  ·rw [List.mem_singleton] at hy
   subst hy
   unfold bstep
   split
   ·rename_i hx
    obtain ⟨z, hz, e⟩ := List.any_eq_true.1 hx
    exact ⟨z, hz, by simpa using e⟩
   ·exact ⟨y, by simp, rfl⟩
theorem by_ok (l : List (Nat × Int)) : ByOk l (byOf l) := by
 have key : ∀ (l2 l m : List (Nat × Int)), ByOk l m → ByOk (l ++ l2) (l2.foldl bstep m) := by
  intro l2
  induction l2 with
  | nil => intro l m h; simpa using h
  | cons x l2 ih =>
   intro l m h
   have := ih (l ++ [x]) _ (h.next x)
   simpa using this
 have := key l [] [] ByOk.start
 rw [List.nil_append] at this
 exact this
structure Cut (a : Nat) (ks : List Nat) (i : Nat) : Prop where
 le : i ≤ ks.length
 lo : ∀ j x, j < i → ks[j]? = some x → x < a
 hi : ∀ j x, i ≤ j → ks[j]? = some x → a ≤ x
theorem sel_min {a : Nat} {ks : List Nat} {i : Nat} (hs : ks.Pairwise (· ≤ ·)) (hlt : ∀ x ∈ ks, x < 4294967296) (hc : Cut a ks i) {s : Nat} (hsel : ks[i % ks.length]? = some s) : ∀ x ∈ ks, pt a s ≤ pt a x := by
 intro x hx
 obtain ⟨j, hj, rfl⟩ := List.getElem_of_mem hx
 have hjg : ks[j]? = some ks[j] := List.getElem?_eq_getElem hj
 have hsm : s ∈ ks := List.mem_of_getElem? hsel
 have hsl := hlt s hsm
 have mono : ∀ (p q x y : Nat), p ≤ q → ks[p]? = some x → ks[q]? = some y → x ≤ y := by
  intro p q x y hpq hp hq
  rcases Nat.lt_or_ge p q with h | h
  ·have := List.pairwise_iff_getElem.1 hs p q (List.getElem?_eq_some_iff.1 hp).1 (List.getElem?_eq_some_iff.1 hq).1 h
   rw [(List.getElem?_eq_some_iff.1 hp).2, (List.getElem?_eq_some_iff.1 hq).2] at this
   exact this
  ·obtain rfl : p = q := by omega
   rw [hp] at hq; injection hq with hq; omega
 rcases Nat.lt_or_ge i ks.length with h | h
 ·rw [Nat.mod_eq_of_lt h] at hsel
  have h1 := hc.hi i s (Nat.le_refl _) hsel
  rcases Nat.lt_or_ge j i with h2 | h2
  ·have h3 := hc.lo j _ h2 hjg
   unfold pt
   rw [if_neg (by omega), if_pos h3]; omega
  ·have h3 := hc.hi j _ h2 hjg
   have h4 := mono i j _ _ h2 hsel hjg
   unfold pt
   rw [if_neg (by omega), if_neg (by omega)]; exact h4
 ·have hi : i = ks.length := Nat.le_antisymm hc.le h
  have h0 : 0 < ks.length := by omega
  rw [hi, Nat.mod_self] at hsel
  have h1 := hc.lo 0 s (by omega) hsel
  have h2 := hc.lo j _ (by omega) hjg
  have h3 := mono 0 j _ _ (Nat.zero_le _) hsel hjg
  unfold pt
  rw [if_pos h1, if_pos h2]; omega
theorem circle_own {a : Nat} {l : List (Nat × Int)} {ks : List Nat} {i s : Nat} {w : Int} (ha : a < 4294967296) (hl : ∀ x ∈ l, x.1 < 4294967296) (hs : ks.Pairwise (· ≤ ·)) (hp : ks.Perm ((byOf l).map Prod.fst)) (hc : Cut a ks i) (hsel : ks[i % ks.length]? = some s) (hw : (s, w) ∈ byOf l) : IsOwn a l w := by
 have hb := by_ok l
 obtain ⟨l1, l2, e, h1⟩ := hb.first s w hw
 have hks : ∀ x ∈ ks, x < 4294967296 := by
  intro x hx
  obtain ⟨y, hy, rfl⟩ := List.mem_map.1 (hp.subset hx)
  obtain ⟨l1, l2, e, _⟩ := hb.first y.1 y.2 hy
  exact hl y (by rw [e]; simp)
 have hmin := sel_min hs hks hc hsel
 have hle : ∀ x ∈ l, pt a s ≤ pt a x.1 := by
  intro x hx
  obtain ⟨y, hy, e2⟩ := hb.all x hx
  rw [← e2]
  exact hmin _ (hp.symm.subset (List.mem_map.2 ⟨y, hy, rfl⟩))
 refine ⟨l1, s, l2, e, fun x hx => ?_, fun x hx => hle x (by rw [e]; simp [hx])⟩
 have h2 := hle x (by rw [e]; simp [hx])
 have h3 : pt a s ≠ pt a x.1 := fun h => h1 x hx (pt_inj ha (hks s (List.mem_of_getElem? hsel)) (hl x (by rw [e]; simp [hx])) h).symm
 omega
end Go.Proofs.YtcfidmdkioccdaaDoor
namespace Go.Proofs.YtcfidmdkioccdaaDoor
open Go.RowKit
def bsL (ms : List Nat) (x : Nat) : Nat → Nat → Nat → Nat
 | 0, i, _ => i
 | n + 1, i, j => if i < j then (if ms.getD ((i + j) / 2) 0 < x then bsL ms x n ((i + j) / 2 + 1) j else bsL ms x n i ((i + j) / 2)) else i
theorem bsL_cut {ms : List Nat} {x : Nat} (hs : ms.Pairwise (· ≤ ·)) : ∀ (n i j : Nat), j ≤ i + n → i ≤ j → j ≤ ms.length → (∀ k, k < i → ms.getD k 0 < x) → (∀ k, j ≤ k → k < ms.length → x ≤ ms.getD k 0) → Cut x ms (bsL ms x n i j)
 | 0, i, j, h, hij, hj, h1, h2 => by
  obtain rfl : i = j := by omega
  simp only [bsL]
  refine ⟨hj, fun k y hk hy => ?_, fun k y hk hy => ?_⟩
  ·have := h1 k hk
   rw [List.getD_eq_getElem?_getD, hy] at this; exact this
  ·have := h2 k hk (List.getElem?_eq_some_iff.1 hy).1
   rw [List.getD_eq_getElem?_getD, hy] at this; exact this
 | n + 1, i, j, h, hij, hj, h1, h2 => by
  simp only [bsL]
  have mono : ∀ p q, p ≤ q → q < ms.length → ms.getD p 0 ≤ ms.getD q 0 := fun p q hpq hq => by
   rcases Nat.lt_or_ge p q with h | h
   ·have := List.pairwise_iff_getElem.1 hs p q (by omega) hq h
    simpa [List.getD, hq, show p < ms.length by omega] using this
   ·obtain rfl : p = q := by omega
    exact Nat.le_refl _
  by_cases hc : i < j
  ·rw [if_pos hc]
   by_cases hl : ms.getD ((i + j) / 2) 0 < x
   ·rw [if_pos hl]
    exact bsL_cut hs n _ j (by omega) (by omega) hj (fun k hk => Nat.lt_of_le_of_lt (mono k ((i + j) / 2) (by omega) (by omega)) hl) h2
   ·rw [if_neg hl]
    exact bsL_cut hs n i _ (by omega) (by omega) (by omega) h1 (fun k hk hk2 => Nat.le_trans (Nat.le_of_not_lt hl) (mono ((i + j) / 2) k hk hk2))
  ·rw [if_neg hc]
   obtain rfl : i = j := by omega
   refine ⟨hj, fun k y hk hy => ?_, fun k y hk hy => ?_⟩
   ·have := h1 k hk
    rw [List.getD_eq_getElem?_getD, hy] at this; exact this
   ·have := h2 k hk (List.getElem?_eq_some_iff.1 hy).1
    rw [List.getD_eq_getElem?_getD, hy] at this; exact this
set_option maxRecDepth 10000 in
theorem p_BS (ms : List Nat) (x : Nat) (hm : ms.length ≤ 1000) (hs : ms.Pairwise (· ≤ ·)) : ∃ i f, Cut x ms i ∧ PC Tryd.prog 22 [.sl 1 (ms.map uv), uV x] (.tup [.v (.int .i64 ((i : Nat) : Int)), .v (.bool f)]) := by
 obtain ⟨I, hI⟩ : ∃ I, I = bsL ms x ms.length 0 ms.length := ⟨_, rfl⟩
 have hcut : Cut x ms I := by rw [hI]; exact bsL_cut hs _ _ _ (by omega) (by omega) (Nat.le_refl _) (fun k hk => by omega) (fun k h1 h2 => by omega)
 have hIl := hcut.le
 have hll : ms.length = (ms.map uv).length := by simp
 have hlen : ((ms.map uv).length : Int) = (ms.length : Int) := by simp
 obtain ⟨F, hF⟩ : ∃ F, F = (decide (I < ms.length) && decide (ms.getD I 0 = x)) := ⟨_, rfl⟩
 refine ⟨I, F, hcut, ?_⟩
 have hc1 : ∀ n : Nat, n ≤ 2000 → IntKind.u64.wrap (n : Int) = (n : Int) := fun n h => conv_u n (by omega)
 clear hcut
 refine PC.mk (ac_body tab_ok Tryd.func22 rfl (by kernel_rfl) rfl ?_); intro w0 M μ0; simp only [Tryd.ntmps22, List.length_cons, List.length_nil, Nat.reduceAdd, Nat.reduceSub, numb]
 repeat' (first | ((first | apply o_do | apply d_do | apply d_yes rfl rfl rfl); exact lsq) | refine a_seq ?_ | refine a_region ?_ | refine o_nil ?_ | refine a_block ?_ | refine a_ret ?_ | refine a_exit ?_ | refine a_skip ?_ | refine a_draw mixed ?_ | refine d_nil (by kernel_rfl) ?_ | refine o_yes rfl rfl rfl ?_ | refine o_no rfl rfl rfl (by decide) ?_ | refine o_no' rfl rfl rfl ?_ | refine a_condT rfl ?_ | refine a_condF rfl ?_ | refine d_no rfl rfl rfl (by decide) ?_ | refine d_no' rfl rfl rfl ?_ | (refine wq2 (fun hb => ?_) (fun hb => ?_) <;> (simp only [hb]; try simp only [hbs, ne_eq] at hb; try (exfalso; first | omega | exact hb trivial))) | fail)
 refine a_loop (X := {p : Nat × Nat × Nat // I = bsL ms x p.1 p.2.1 p.2.2 ∧ p.2.2 ≤ p.2.1 + p.1 ∧ p.2.1 ≤ p.2.2 ∧ p.2.2 ≤ ms.length})
  (fun p => ⟨[(0, .sl 1 (ms.map uv)), (1, uV x), (6, .v (.int .i64 ms.length)), (7, .v (.int .i64 p.1.2.1)), (8, .v (.int .i64 p.1.2.2))], []⟩) (fun p => p.1.2.2 - p.1.2.1) ⟨(ms.length, 0, ms.length), hI, by dsimp only; omega, by dsimp only; omega, Nat.le_refl _⟩ ?_ ?_
 ·refine ⟨by repeat' (first | exact trivial | exact FinA.one (FinB.cell (FinC.same rfl)) | exact FinA.one (FinB.cell FinC.nil) | exact FinA.bound rfl | exact FinA.one (FinB.cell (FinC.own rfl rfl rfl rfl)) | exact FinA.one (FinB.cell (FinC.v (by first | rfl | (((try dsimp only); first | (congr 1 <;> omega)))))) | exact FinA.one (FinB.cell (FinC.ow rfl (by first | rfl | (((try dsimp only); first | (congr 1 <;> omega)))))) | exact FinA.one (FinB.agg' rfl rfl) | refine ⟨⟨_, rfl, ?_⟩, ?_⟩), by repeat' (first | exact trivial | refine ⟨⟨_, rfl, by first | rfl | (((try dsimp only); first | (congr 1 <;> omega)); done) | (simp [renO, *]; done)⟩, by first | rfl | assumption, ?_⟩), rfl⟩
 clear hI
 rintro ⟨⟨n, i, j⟩, hc, hn, hij, hj⟩
 dsimp only at hc hn hij hj ⊢
 by_cases hlt : i < j
 ·obtain ⟨n', rfl⟩ : ∃ n', n = n' + 1 := ⟨n - 1, by omega⟩
  simp only [bsL] at hc
  rw [if_pos hlt] at hc
  obtain ⟨h, hh⟩ : ∃ h, h = (i + j) / 2 := ⟨_, rfl⟩
  rw [← hh] at hc
  have e1 : IntKind.u64.wrap ((i : Int) + j) = ((i + j : Nat) : Int) := by rw [← hc1 (i + j) (by omega)]; congr 1
  have e2 := shr_u (i + j) 1 2 (by decide) (by decide)
  rw [← hh] at e2
  have e3 := conv_i h (by omega)
  have hel := uv_at (l := ms) (i := h) (by omega)
  have hlt' : (i : Int) < (j : Int) := by omega
  have hL := p_Less (ms.getD h 0) x
  by_cases hx : ms.getD h 0 < x
  ·rw [if_pos hx] at hc
   rw [decide_eq_true hx] at hL
   generalize ms.getD h 0 = y at *
   repeat' (first | ((first | apply o_do | apply d_do | apply d_yes rfl rfl rfl); first | exact ls_convB tab_ok e1 rfl Tryd.underlying3 Tryd.underlying58 rfl | exact ls_shrB e2 rfl rfl (by decide) rfl | exact ls_convB tab_ok e3 rfl Tryd.underlying58 Tryd.underlying3 rfl | exact ls_indexAddr_sl tab_ok rfl rfl rfl rfl hel rfl | exact lsc (hL) | exact lsq) | refine a_seq ?_ | refine a_region ?_ | refine o_nil ?_ | refine a_block ?_ | refine a_ret ?_ | refine a_exit ?_ | refine a_skip ?_ | refine a_draw mixed ?_ | refine d_nil (by kernel_rfl) ?_ | refine o_yes rfl rfl rfl ?_ | refine o_no rfl rfl rfl (by decide) ?_ | refine o_no' rfl rfl rfl ?_ | refine a_condT rfl ?_ | refine a_condF rfl ?_ | refine d_no rfl rfl rfl (by decide) ?_ | refine d_no' rfl rfl rfl ?_ | (refine wq2 (fun hb => ?_) (fun hb => ?_) <;> (simp only [hb]; try simp only [hbs, ne_eq] at hb; try (exfalso; first | omega | exact hb trivial))) | fail)
   refine ⟨⟨(n', h + 1, j), hc, by dsimp only; omega, by dsimp only; omega, hj⟩, by dsimp only; omega, ?_⟩
   refine ⟨by repeat' (first | exact trivial | exact FinA.one (FinB.cell (FinC.same rfl)) | exact FinA.one (FinB.cell FinC.nil) | exact FinA.bound rfl | exact FinA.one (FinB.cell (FinC.own rfl rfl rfl rfl)) | exact FinA.one (FinB.cell (FinC.v (by first | rfl | (((try dsimp only); first | (congr 1 <;> omega)))))) | exact FinA.one (FinB.cell (FinC.ow rfl (by first | rfl | (((try dsimp only); first | (congr 1 <;> omega)))))) | exact FinA.one (FinB.agg' rfl rfl) | refine ⟨⟨_, rfl, ?_⟩, ?_⟩), by repeat' (first | exact trivial | refine ⟨⟨_, rfl, by first | rfl | (((try dsimp only); first | (congr 1 <;> omega)); done) | (simp [renO, *]; done)⟩, by first | rfl | assumption, ?_⟩), rfl⟩
  ·rw [if_neg hx] at hc
   rw [decide_eq_false hx] at hL
   generalize ms.getD h 0 = y at *
   repeat' (first | ((first | apply o_do | apply d_do | apply d_yes rfl rfl rfl); first | exact ls_convB tab_ok e1 rfl Tryd.underlying3 Tryd.underlying58 rfl | exact ls_shrB e2 rfl rfl (by decide) rfl | exact ls_convB tab_ok e3 rfl Tryd.underlying58 Tryd.underlying3 rfl | exact ls_indexAddr_sl tab_ok rfl rfl rfl rfl hel rfl | exact lsc (hL) | exact lsq) | refine a_seq ?_ | refine a_region ?_ | refine o_nil ?_ | refine a_block ?_ | refine a_ret ?_ | refine a_exit ?_ | refine a_skip ?_ | refine a_draw mixed ?_ | refine d_nil (by kernel_rfl) ?_ | refine o_yes rfl rfl rfl ?_ | refine o_no rfl rfl rfl (by decide) ?_ | refine o_no' rfl rfl rfl ?_ | refine a_condT rfl ?_ | refine a_condF rfl ?_ | refine d_no rfl rfl rfl (by decide) ?_ | refine d_no' rfl rfl rfl ?_ | (refine wq2 (fun hb => ?_) (fun hb => ?_) <;> (simp only [hb]; try simp only [hbs, ne_eq] at hb; try (exfalso; first | omega | exact hb trivial))) | fail)
   refine ⟨⟨(n', i, h), hc, by dsimp only; omega, by dsimp only; omega, by dsimp only; omega⟩, by dsimp only; omega, ?_⟩
   refine ⟨by repeat' (first | exact trivial | exact FinA.one (FinB.cell (FinC.same rfl)) | exact FinA.one (FinB.cell FinC.nil) | exact FinA.bound rfl | exact FinA.one (FinB.cell (FinC.own rfl rfl rfl rfl)) | exact FinA.one (FinB.cell (FinC.v (by first | rfl | (((try dsimp only); first | (congr 1 <;> omega)))))) | exact FinA.one (FinB.cell (FinC.ow rfl (by first | rfl | (((try dsimp only); first | (congr 1 <;> omega)))))) | exact FinA.one (FinB.agg' rfl rfl) | refine ⟨⟨_, rfl, ?_⟩, ?_⟩), by repeat' (first | exact trivial | refine ⟨⟨_, rfl, by first | rfl | (((try dsimp only); first | (congr 1 <;> omega)); done) | (simp [renO, *]; done)⟩, by first | rfl | assumption, ?_⟩), rfl⟩
 obtain rfl : i = j := by omega
 have hIi : I = i := by
  rw [hc]
  cases n with
  | zero => rfl
  | succ n => simp only [bsL]; rw [if_neg hlt]
 subst hIi
 have hlt' : ¬ (I : Int) < (I : Int) := by omega
 by_cases hin : I < ms.length
 ·have hin' : (I : Int) < (ms.length : Int) := by omega
  have hel := uv_at (l := ms) (i := I) hin
  by_cases heq : ms.getD I 0 = x
  ·have hF' : F = true := by rw [hF, decide_eq_true hin, decide_eq_true heq]; rfl
   rw [hF']
   rw [heq] at hel
   clear hF hF'
   repeat' (first | ((first | apply o_do | apply d_do | apply d_yes rfl rfl rfl); first | exact ls_indexAddr_sl tab_ok rfl rfl rfl rfl hel rfl | exact lsq) | refine a_seq ?_ | refine a_region ?_ | refine o_nil ?_ | refine a_block ?_ | refine a_ret ?_ | refine a_exit ?_ | refine a_skip ?_ | refine a_draw mixed ?_ | refine d_nil (by kernel_rfl) ?_ | refine o_yes rfl rfl rfl ?_ | refine o_no rfl rfl rfl (by decide) ?_ | refine o_no' rfl rfl rfl ?_ | refine a_condT rfl ?_ | refine a_condF rfl ?_ | refine d_no rfl rfl rfl (by decide) ?_ | refine d_no' rfl rfl rfl ?_ | (refine wq2 (fun hb => ?_) (fun hb => ?_) <;> (simp only [hb]; try simp only [hbs, ne_eq] at hb; try (exfalso; first | omega | exact hb trivial))) | fail)
   all_goals refine rq rfl ?_
   all_goals exact fnq
  ·have hF' : F = false := by rw [hF, decide_eq_false heq, Bool.and_false]
   rw [hF']
   have hN1 := p_sNaN (ms.getD I 0)
   have hN2 := p_sNaN x
   have heq' : ¬ ((ms.getD I 0 : Nat) : Int) = (x : Int) := by omega
   clear hF hF'
   generalize ms.getD I 0 = y at *
   repeat' (first | ((first | apply o_do | apply d_do | apply d_yes rfl rfl rfl); first | exact ls_indexAddr_sl tab_ok rfl rfl rfl rfl hel rfl | exact lsc (hN1) | exact lsc (hN2) | exact lsq) | refine a_seq ?_ | refine a_region ?_ | refine o_nil ?_ | refine a_block ?_ | refine a_ret ?_ | refine a_exit ?_ | refine a_skip ?_ | refine a_draw mixed ?_ | refine d_nil (by kernel_rfl) ?_ | refine o_yes rfl rfl rfl ?_ | refine o_no rfl rfl rfl (by decide) ?_ | refine o_no' rfl rfl rfl ?_ | refine a_condT rfl ?_ | refine a_condF rfl ?_ | refine d_no rfl rfl rfl (by decide) ?_ | refine d_no' rfl rfl rfl ?_ | (refine wq2 (fun hb => ?_) (fun hb => ?_) <;> (simp only [hb]; try simp only [hbs, ne_eq] at hb; try (exfalso; first | omega | exact hb trivial))) | fail)
   all_goals refine rq rfl ?_
   all_goals exact fnq
 ·have hin' : ¬ (I : Int) < (ms.length : Int) := by omega
  have hF' : F = false := by rw [hF, decide_eq_false hin]; rfl
  rw [hF']
  clear hF hF'
  repeat' (first | ((first | apply o_do | apply d_do | apply d_yes rfl rfl rfl); exact lsq) | refine a_seq ?_ | refine a_region ?_ | refine o_nil ?_ | refine a_block ?_ | refine a_ret ?_ | refine a_exit ?_ | refine a_skip ?_ | refine a_draw mixed ?_ | refine d_nil (by kernel_rfl) ?_ | refine o_yes rfl rfl rfl ?_ | refine o_no rfl rfl rfl (by decide) ?_ | refine o_no' rfl rfl rfl ?_ | refine a_condT rfl ?_ | refine a_condF rfl ?_ | refine d_no rfl rfl rfl (by decide) ?_ | refine d_no' rfl rfl rfl ?_ | (refine wq2 (fun hb => ?_) (fun hb => ?_) <;> (simp only [hb]; try simp only [hbs, ne_eq] at hb; try (exfalso; first | omega | exact hb trivial))) | fail)
  all_goals refine rq rfl ?_
  all_goals exact fnq
end Go.Proofs.YtcfidmdkioccdaaDoor
