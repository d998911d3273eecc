/-
  slices.Sort at uint32, walked over abstract values: a row that is almost in order.
  slices.Sort at uint32, walked over abstract values: some are scattered.
-/
import Derived.Test.YtcfidmdkioccdaaDoorS4
import Derived.Test.YtcfidmdkioccdaaDoorS7
set_option linter.unusedSimpArgs false
set_option linter.unusedVariables false
set_option maxHeartbeats 20000000
namespace Go.Proofs.YtcfidmdkioccdaaDoor
open Go.RowKit
set_option maxRecDepth 10000 in
theorem a_pis (l : List Nat) (a b : Nat) (hab : a + 12 < b) (hb : b ≤ l.length) (hm : l.length ≤ 1000) (hf : Fl l a b) : AC Tryd.prog 36 [.own 0 l.length, .v (.int .i64 a), .v (.int .i64 b)] (NS l) (.v (.bool (pdC l a b).2)) (NS (pdC l a b).1) := by
 unfold NS pdC
 obtain ⟨RES, hR0⟩ : ∃ RES, RES = pis a b 5 l (a + 1) := ⟨_, rfl⟩
 have hlw := (pis_ok (a := a) (b := b) 5 l (a + 1) (by omega) (by omega) hb hf (fun p q _ _ _ => by omega)).1.len
 rw [← hR0] at hlw ⊢
 refine (ac_body tab_ok Tryd.func36 rfl (by kernel_rfl) rfl ?_); intro w0 M μ0; simp only [Tryd.ntmps36, List.length_cons, List.length_nil, Nat.reduceAdd, Nat.reduceSub, numb]
 repeat' (first | ((first | apply o_do | apply d_do | apply d_yes rfl rfl rfl); exact lsq) | refine a_seq ?_ | refine a_region ?_ | refine o_nil ?_ | refine a_block ?_ | refine a_ret ?_ | refine a_exit ?_ | refine a_skip ?_ | refine a_draw mixed ?_ | refine d_nil (by kernel_rfl) ?_ | refine o_yes rfl rfl rfl ?_ | refine o_no rfl rfl rfl (by decide) ?_ | refine o_no' rfl rfl rfl ?_ | refine a_condT rfl ?_ | refine a_condF rfl ?_ | refine d_no rfl rfl rfl (by decide) ?_ | refine d_no' rfl rfl rfl ?_ | (refine wq2 (fun hb => ?_) (fun hb => ?_) <;> (simp only [hb]; try simp only [hbs, ne_eq] at hb; try (exfalso; first | omega | exact hb trivial))) | fail)
 refine a_loop (X := {p : Nat × List Nat × Nat // RES = pis a b p.1 p.2.1 p.2.2 ∧ p.2.1.length = l.length ∧ p.1 ≤ 5 ∧ a < p.2.2 ∧ p.2.2 ≤ b ∧ Fl p.2.1 a b ∧ Srt p.2.1 a p.2.2})
  (fun p => ⟨[(0, .own 0 l.length), (1, .v (.int .i64 a)), (2, .v (.int .i64 b)), (7, .v (.int .i64 p.1.2.2)), (8, .v (.int .i64 ((5 : Int) - p.1.1)))], [(0, .row 46 1 (p.1.2.1.map uv))]⟩) (fun p => p.1.1) ⟨(5, l, a + 1), hR0, rfl, Nat.le_refl _, by dsimp only; omega, by dsimp only; omega, hf, fun p q _ _ _ => by dsimp only at *; omega⟩ ?_ ?_
 ·refine ⟨by repeat' (first | exact trivial | exact FinA.one (FinB.cell (FinC.same rfl)) | exact FinA.one (FinB.cell FinC.nil) | exact FinA.bound rfl | exact FinA.one (FinB.cell (FinC.own rfl rfl rfl rfl)) | exact FinA.one (FinB.cell (FinC.v (by first | rfl | (((try dsimp only); first | omega | (rw [h8]; done) | (congr 1 <;> omega)))))) | exact FinA.one (FinB.cell (FinC.ow rfl (by first | rfl | (((try dsimp only); first | omega | (rw [h8]; done) | (congr 1 <;> omega)))))) | exact FinA.one (FinB.agg' rfl rfl) | refine ⟨⟨_, rfl, ?_⟩, ?_⟩), by repeat' (first | exact trivial | refine ⟨⟨_, rfl, by first | rfl | (((try dsimp only); first | omega | (rw [h8]; done) | (congr 1 <;> omega)); done) | (simp [renO, *]; done)⟩, by first | rfl | assumption, ?_⟩), rfl⟩
 rintro ⟨⟨n, d, i⟩, hR, hl_d, hn5, hai, hib, hfd, hsd⟩
 dsimp only at hR hl_d hn5 hai hib hfd hsd ⊢
 cases n with
 | zero =>
  simp only [pis] at hR
  subst hR
  repeat' (first | ((first | apply o_do | apply d_do | apply d_yes rfl rfl rfl); exact lsq) | refine a_seq ?_ | refine a_region ?_ | refine o_nil ?_ | refine a_block ?_ | refine a_ret ?_ | refine a_exit ?_ | refine a_skip ?_ | refine a_draw mixed ?_ | refine d_nil (by kernel_rfl) ?_ | refine o_yes rfl rfl rfl ?_ | refine o_no rfl rfl rfl (by decide) ?_ | refine o_no' rfl rfl rfl ?_ | refine a_condT rfl ?_ | refine a_condF rfl ?_ | refine d_no rfl rfl rfl (by decide) ?_ | refine d_no' rfl rfl rfl ?_ | (refine wq2 (fun hb => ?_) (fun hb => ?_) <;> (simp only [hb]; try simp only [hbs, ne_eq] at hb; try (exfalso; first | omega | exact hb trivial))) | fail)
  refine rq rfl ?_
  exact fnq
 | succ n =>
  simp only [pis] at hR
  obtain ⟨i1, i2, i3, i4⟩ := piI_ok (l := d) (a := a) (b := b) (b - i) i hai (by omega) hib hsd
  obtain ⟨I, hI⟩ : ∃ I, I = piI d b (b - i) i := ⟨_, rfl⟩
  rw [← hI] at hR i1 i2 i3 i4
  have hn5' : (5 : Int) - (n + 1 : Nat) < 5 := by omega
  repeat' (first | ((first | apply o_do | apply d_do | apply d_yes rfl rfl rfl); exact lsq) | refine a_seq ?_ | refine a_region ?_ | refine o_nil ?_ | refine a_block ?_ | refine a_ret ?_ | refine a_exit ?_ | refine a_skip ?_ | refine a_draw mixed ?_ | refine d_nil (by kernel_rfl) ?_ | refine o_yes rfl rfl rfl ?_ | refine o_no rfl rfl rfl (by decide) ?_ | refine o_no' rfl rfl rfl ?_ | refine a_condT rfl ?_ | refine a_condF rfl ?_ | refine d_no rfl rfl rfl (by decide) ?_ | refine d_no' rfl rfl rfl ?_ | (refine wq2 (fun hb => ?_) (fun hb => ?_) <;> (simp only [hb]; try simp only [hbs, ne_eq] at hb; try (exfalso; first | omega | exact hb trivial))) | fail)
  refine a_loop (X := {w : Nat × Nat // I = piI d b w.1 w.2 ∧ b ≤ w.2 + w.1 ∧ a < w.2 ∧ w.2 ≤ b})
   (fun w => ⟨[(0, .own 0 l.length), (1, .v (.int .i64 a)), (2, .v (.int .i64 b)), (7, .v (.int .i64 w.1.2)), (8, .v (.int .i64 ((5 : Int) - (n + 1 : Nat))))], [(0, .row 46 1 (d.map uv))]⟩) (fun w => b - w.1.2) ⟨(b - i, i), hI, by dsimp only; omega, hai, hib⟩ ?_ ?_
  ·refine ⟨by repeat' (first | exact trivial | exact FinA.one (FinB.cell (FinC.same rfl)) | exact FinA.one (FinB.cell FinC.nil) | exact FinA.bound rfl | exact FinA.one (FinB.cell (FinC.own rfl rfl rfl rfl)) | exact FinA.one (FinB.cell (FinC.v (by first | rfl | (((try dsimp only); first | omega | (rw [h8]; done) | (congr 1 <;> omega)))))) | exact FinA.one (FinB.cell (FinC.ow rfl (by first | rfl | (((try dsimp only); first | omega | (rw [h8]; done) | (congr 1 <;> omega)))))) | exact FinA.one (FinB.agg' rfl rfl) | refine ⟨⟨_, rfl, ?_⟩, ?_⟩), by repeat' (first | exact trivial | refine ⟨⟨_, rfl, by first | rfl | (((try dsimp only); first | omega | (rw [h8]; done) | (congr 1 <;> omega)); done) | (simp [renO, *]; done)⟩, by first | rfl | assumption, ?_⟩), rfl⟩
  rintro ⟨⟨g, k⟩, hc, hgk, hak, hkb⟩
  dsimp only at hc hgk hak hkb ⊢
  by_cases hgo : k < b ∧ ¬ d.getD k 0 < d.getD (k - 1) 0
  ·obtain ⟨g', rfl⟩ : ∃ g', g = g' + 1 := ⟨g - 1, by omega⟩
   simp only [piI] at hc
   rw [if_pos hgo] at hc
   obtain ⟨x3, z3, y3, hx3, hz3, h13, h23, q13, q23, h63, h53, q33, h83, hsl3, hdm3⟩ := sw_facts d k (k - 1) l.length (by omega) (by omega) hl_d
   have px3 := pureU x3
   have pz3 := pureU z3
   have kk : (k : Int) - 1 = ((k - 1 : Nat) : Int) := by omega
   have hgo' : (k : Int) < (b : Int) := by omega
   rw [hx3, hz3] at hgo
   have hL := p_Less x3 z3
   rw [decide_eq_false hgo.2] at hL
   repeat' (first | ((first | apply o_do | apply d_do | apply d_yes rfl rfl rfl); first | exact ls_indexAddr_own tab_ok rfl rfl hdm3 rfl rfl kk q23 rfl | exact ls_indexAddr_own tab_ok rfl rfl hdm3 rfl rfl rfl q13 rfl | exact ls_load_eref tab_ok rfl rfl hdm3 h23 rfl rfl rfl rfl | exact ls_load_eref tab_ok rfl rfl hdm3 h13 rfl rfl rfl rfl | exact lsc (hL) | exact lsq) | refine a_seq ?_ | refine a_region ?_ | refine o_nil ?_ | refine a_block ?_ | refine a_ret ?_ | refine a_exit ?_ | refine a_skip ?_ | refine a_draw mixed ?_ | refine d_nil (by kernel_rfl) ?_ | refine o_yes rfl rfl rfl ?_ | refine o_no rfl rfl rfl (by decide) ?_ | refine o_no' rfl rfl rfl ?_ | refine a_condT rfl ?_ | refine a_condF rfl ?_ | refine d_no rfl rfl rfl (by decide) ?_ | refine d_no' rfl rfl rfl ?_ | (refine wq2 (fun hb => ?_) (fun hb => ?_) <;> (simp only [hb]; try simp only [hbs, ne_eq] at hb; try (exfalso; first | omega | exact hb trivial))) | fail)
   refine ⟨⟨(g', k + 1), hc, by dsimp only; omega, by dsimp only; omega, by dsimp only; omega⟩, by dsimp only; omega, ?_⟩
   refine ⟨by repeat' (first | exact trivial | exact FinA.one (FinB.cell (FinC.same rfl)) | exact FinA.one (FinB.cell FinC.nil) | exact FinA.bound rfl | exact FinA.one (FinB.cell (FinC.own rfl rfl rfl rfl)) | exact FinA.one (FinB.cell (FinC.v (by first | rfl | (((try dsimp only); first | omega | (rw [h8]; done) | (congr 1 <;> omega)))))) | exact FinA.one (FinB.cell (FinC.ow rfl (by first | rfl | (((try dsimp only); first | omega | (rw [h8]; done) | (congr 1 <;> omega)))))) | exact FinA.one (FinB.agg' rfl rfl) | refine ⟨⟨_, rfl, ?_⟩, ?_⟩), by repeat' (first | exact trivial | refine ⟨⟨_, rfl, by first | rfl | (((try dsimp only); first | omega | (rw [h8]; done) | (congr 1 <;> omega)); done) | (simp [renO, *]; done)⟩, by first | rfl | assumption, ?_⟩), rfl⟩
  have hIk : I = k := by
   rw [hc]
   cases g with
   | zero => rfl
   | succ g => simp only [piI]; rw [if_neg hgo]
  subst hIk
  refine a_brk ⟨[(0, .own 0 l.length), (1, .v (.int .i64 a)), (2, .v (.int .i64 b)), (7, .v (.int .i64 I)), (8, .v (.int .i64 ((5 : Int) - (n + 1 : Nat))))], [(0, .row 46 1 (d.map uv))]⟩ ?_ ?_
  ·by_cases hk1 : I < b
   ·
    obtain ⟨x4, z4, y4, hx4, hz4, h14, h24, q14, q24, h64, h54, q34, h84, hsl4, hdm4⟩ := sw_facts d I (I - 1) l.length (by omega) (by omega) hl_d
    have px4 := pureU x4
    have pz4 := pureU z4
    have kk : (I : Int) - 1 = ((I - 1 : Nat) : Int) := by omega
    have hgo' : (I : Int) < (b : Int) := by omega
    rw [hx4, hz4] at hgo
    have hL := p_Less x4 z4
    rw [decide_eq_true (Decidable.byContradiction fun h => hgo ⟨hk1, h⟩)] at hL
    repeat' (first | ((first | apply o_do | apply d_do | apply d_yes rfl rfl rfl); first | exact ls_indexAddr_own tab_ok rfl rfl hdm4 rfl rfl kk q24 rfl | exact ls_indexAddr_own tab_ok rfl rfl hdm4 rfl rfl rfl q14 rfl | exact ls_load_eref tab_ok rfl rfl hdm4 h24 rfl rfl rfl rfl | exact ls_load_eref tab_ok rfl rfl hdm4 h14 rfl rfl rfl rfl | exact lsc (hL) | exact lsq) | refine a_seq ?_ | refine a_region ?_ | refine o_nil ?_ | refine a_block ?_ | refine a_ret ?_ | refine a_exit ?_ | refine a_skip ?_ | refine a_draw mixed ?_ | refine d_nil (by kernel_rfl) ?_ | refine o_yes rfl rfl rfl ?_ | refine o_no rfl rfl rfl (by decide) ?_ | refine o_no' rfl rfl rfl ?_ | refine a_condT rfl ?_ | refine a_condF rfl ?_ | refine d_no rfl rfl rfl (by decide) ?_ | refine d_no' rfl rfl rfl ?_ | (refine wq2 (fun hb => ?_) (fun hb => ?_) <;> (simp only [hb]; try simp only [hbs, ne_eq] at hb; try (exfalso; first | omega | exact hb trivial))) | fail)
    refine ⟨rfl, ?_⟩
    refine ⟨by repeat' (first | exact trivial | exact FinA.one (FinB.cell (FinC.same rfl)) | exact FinA.one (FinB.cell FinC.nil) | exact FinA.bound rfl | exact FinA.one (FinB.cell (FinC.own rfl rfl rfl rfl)) | exact FinA.one (FinB.cell (FinC.v (by first | rfl | (((try dsimp only); first | omega | (rw [h8]; done) | (congr 1 <;> omega)))))) | exact FinA.one (FinB.cell (FinC.ow rfl (by first | rfl | (((try dsimp only); first | omega | (rw [h8]; done) | (congr 1 <;> omega)))))) | exact FinA.one (FinB.agg' rfl rfl) | refine ⟨⟨_, rfl, ?_⟩, ?_⟩), by repeat' (first | exact trivial | refine ⟨⟨_, rfl, by first | rfl | (((try dsimp only); first | omega | (rw [h8]; done) | (congr 1 <;> omega)); done) | (simp [renO, *]; done)⟩, by first | rfl | assumption, ?_⟩), rfl⟩
   ·have hgo' : ¬ (I : Int) < (b : Int) := by omega
    repeat' (first | ((first | apply o_do | apply d_do | apply d_yes rfl rfl rfl); exact lsq) | refine a_seq ?_ | refine a_region ?_ | refine o_nil ?_ | refine a_block ?_ | refine a_ret ?_ | refine a_exit ?_ | refine a_skip ?_ | refine a_draw mixed ?_ | refine d_nil (by kernel_rfl) ?_ | refine o_yes rfl rfl rfl ?_ | refine o_no rfl rfl rfl (by decide) ?_ | refine o_no' rfl rfl rfl ?_ | refine a_condT rfl ?_ | refine a_condF rfl ?_ | refine d_no rfl rfl rfl (by decide) ?_ | refine d_no' rfl rfl rfl ?_ | (refine wq2 (fun hb => ?_) (fun hb => ?_) <;> (simp only [hb]; try simp only [hbs, ne_eq] at hb; try (exfalso; first | omega | exact hb trivial))) | fail)
    refine ⟨rfl, ?_⟩
    refine ⟨by repeat' (first | exact trivial | exact FinA.one (FinB.cell (FinC.same rfl)) | exact FinA.one (FinB.cell FinC.nil) | exact FinA.bound rfl | exact FinA.one (FinB.cell (FinC.own rfl rfl rfl rfl)) | exact FinA.one (FinB.cell (FinC.v (by first | rfl | (((try dsimp only); first | omega | (rw [h8]; done) | (congr 1 <;> omega)))))) | exact FinA.one (FinB.cell (FinC.ow rfl (by first | rfl | (((try dsimp only); first | omega | (rw [h8]; done) | (congr 1 <;> omega)))))) | exact FinA.one (FinB.agg' rfl rfl) | refine ⟨⟨_, rfl, ?_⟩, ?_⟩), by repeat' (first | exact trivial | refine ⟨⟨_, rfl, by first | rfl | (((try dsimp only); first | omega | (rw [h8]; done) | (congr 1 <;> omega)); done) | (simp [renO, *]; done)⟩, by first | rfl | assumption, ?_⟩), rfl⟩
  clear hc hgo
  by_cases hIb : I = b
  ·rw [if_pos hIb] at hR
   subst hR
   have hIb' : (I : Int) = (b : Int) := by omega
   repeat' (first | ((first | apply o_do | apply d_do | apply d_yes rfl rfl rfl); exact lsq) | refine a_seq ?_ | refine a_region ?_ | refine o_nil ?_ | refine a_block ?_ | refine a_ret ?_ | refine a_exit ?_ | refine a_skip ?_ | refine a_draw mixed ?_ | refine d_nil (by kernel_rfl) ?_ | refine o_yes rfl rfl rfl ?_ | refine o_no rfl rfl rfl (by decide) ?_ | refine o_no' rfl rfl rfl ?_ | refine a_condT rfl ?_ | refine a_condF rfl ?_ | refine d_no rfl rfl rfl (by decide) ?_ | refine d_no' rfl rfl rfl ?_ | (refine wq2 (fun hb => ?_) (fun hb => ?_) <;> (simp only [hb]; try simp only [hbs, ne_eq] at hb; try (exfalso; first | omega | exact hb trivial))) | fail)
   refine rq rfl ?_
   exact fnq
  rw [if_neg hIb] at hR
  have hIb' : ¬ (I : Int) = (b : Int) := by omega
  by_cases h50 : b - a < 50
  ·rw [if_pos h50] at hR
   subst hR
   have h50' : (b : Int) - a < 50 := by omega
   repeat' (first | ((first | apply o_do | apply d_do | apply d_yes rfl rfl rfl); exact lsq) | refine a_seq ?_ | refine a_region ?_ | refine o_nil ?_ | refine a_block ?_ | refine a_ret ?_ | refine a_exit ?_ | refine a_skip ?_ | refine a_draw mixed ?_ | refine d_nil (by kernel_rfl) ?_ | refine o_yes rfl rfl rfl ?_ | refine o_no rfl rfl rfl (by decide) ?_ | refine o_no' rfl rfl rfl ?_ | refine a_condT rfl ?_ | refine a_condF rfl ?_ | refine d_no rfl rfl rfl (by decide) ?_ | refine d_no' rfl rfl rfl ?_ | (refine wq2 (fun hb => ?_) (fun hb => ?_) <;> (simp only [hb]; try simp only [hbs, ne_eq] at hb; try (exfalso; first | omega | exact hb trivial))) | fail)
   refine rq rfl ?_
   exact fnq
  rw [if_neg h50] at hR
  have h50' : ¬ (b : Int) - a < 50 := by omega
  obtain ⟨t1, hT2⟩ := piT_ok (l := d) (a := a) (b := b) (i := I) (by omega) (by omega) (by omega) hfd i3 (i4 (by omega))
  have hT1 := hfd.sw t1 (by omega)
  have hl_D3 := t1.len
  rw [hl_d] at hl_D3
  obtain ⟨D3, hD3⟩ : ∃ D3, D3 = piT d a b I := ⟨_, rfl⟩
  rw [← hD3] at hR hT1 hT2 hl_D3
  clear t1
  unfold piT at hD3
  obtain ⟨x1, z1, y1, hx1, hz1, h11, h21, q11, q21, h61, h51, q31, h81, hsl1, hdm1⟩ := sw_facts d I (I - 1) l.length (by omega) (by omega) hl_d
  have px1 := pureU x1
  have pz1 := pureU z1
  have kI : (I : Int) - 1 = ((I - 1 : Nat) : Int) := by omega
  generalize swp 0 d I (I - 1) = d1 at *
  have hl_d1 := hsl1
  by_cases hL2 : 2 ≤ I - a
  ·rw [if_pos hL2] at hD3
   obtain ⟨D2, hD2⟩ : ∃ D2, D2 = insJ 0 (I - 1) d1 := ⟨_, rfl⟩
   rw [← hD2] at hD3
   have hl_D2 : D2.length = l.length := by rw [hD2, (insJ_sw (a := 0) (b := b) (I - 1) d1 (by omega)).len]; exact hsl1
   have hL2' : (2 : Int) ≤ (I : Int) - a := by omega
   repeat' (first | ((first | apply o_do | apply d_do | apply d_yes rfl rfl rfl); first | exact ls_indexAddr_own tab_ok rfl rfl hdm1 rfl rfl kI q21 rfl | exact ls_indexAddr_own tab_ok rfl rfl hdm1 rfl rfl rfl q11 rfl | exact ls_load_eref tab_ok rfl rfl hdm1 h21 rfl rfl rfl rfl | exact ls_load_eref tab_ok rfl rfl hdm1 h11 rfl rfl rfl rfl | exact ls_store_eref (cs' := uv z1) tab_ok rfl rfl rfl hdm1 h11 rfl rfl pz1 rfl rfl rfl rfl | exact ls_indexAddr_own tab_ok rfl rfl h51 rfl rfl kI q31 rfl | exact ls_store_eref (cs' := uv x1) tab_ok rfl rfl rfl h51 h61 rfl rfl px1 rfl rfl rfl rfl | exact lsq) | refine a_seq ?_ | refine a_region ?_ | refine o_nil ?_ | refine a_block ?_ | refine a_ret ?_ | refine a_exit ?_ | refine a_skip ?_ | refine a_draw mixed ?_ | refine d_nil (by kernel_rfl) ?_ | refine o_yes rfl rfl rfl ?_ | refine o_no rfl rfl rfl (by decide) ?_ | refine o_no' rfl rfl rfl ?_ | refine a_condT rfl ?_ | refine a_condF rfl ?_ | refine d_no rfl rfl rfl (by decide) ?_ | refine d_no' rfl rfl rfl ?_ | (refine wq2 (fun hb => ?_) (fun hb => ?_) <;> (simp only [hb]; try simp only [hbs, ne_eq] at hb; try (exfalso; first | omega | exact hb trivial))) | fail)
   refine a_loop (X := {w : Nat × List Nat // D2 = insJ 0 w.1 w.2 ∧ w.2.length = l.length ∧ w.1 ≤ I - 1})
    (fun w => ⟨[(0, .own 0 l.length), (1, .v (.int .i64 a)), (2, .v (.int .i64 b)), (7, .v (.int .i64 I)), (8, .v (.int .i64 ((5 : Int) - (n + 1 : Nat)))), (9, .v (.int .i64 w.1.1))], [(0, .row 46 1 (w.1.2.map uv))]⟩) (fun w => w.1.1) ⟨(I - 1, d1), hD2, hsl1, Nat.le_refl _⟩ ?_ ?_
   ·refine ⟨by repeat' (first | exact trivial | exact FinA.one (FinB.cell (FinC.same rfl)) | exact FinA.one (FinB.cell FinC.nil) | exact FinA.bound rfl | exact FinA.one (FinB.cell (FinC.own rfl rfl rfl rfl)) | exact FinA.one (FinB.cell (FinC.v (by first | rfl | (((try dsimp only); first | (rw [h81]; done) | (congr 1 <;> omega)))))) | exact FinA.one (FinB.cell (FinC.ow rfl (by first | rfl | (((try dsimp only); first | (rw [h81]; done) | (congr 1 <;> omega)))))) | exact FinA.one (FinB.agg' rfl rfl) | refine ⟨⟨_, rfl, ?_⟩, ?_⟩), by repeat' (first | exact trivial | refine ⟨⟨_, rfl, by first | rfl | (((try dsimp only); first | (rw [h81]; done) | (congr 1 <;> omega)); done) | (simp [renO, *]; done)⟩, by first | rfl | assumption, ?_⟩), rfl⟩
   rintro ⟨⟨k, e⟩, hc, hl_e, hkI⟩
   dsimp only at hc hl_e hkI ⊢
   by_cases hgo : 1 ≤ k ∧ e.getD k 0 < e.getD (k - 1) 0
   ·obtain ⟨k', rfl⟩ : ∃ k', k = k' + 1 := ⟨k - 1, by omega⟩
    simp only [Nat.add_sub_cancel] at hgo
    simp only [insJ] at hc
    rw [if_pos ⟨by omega, hgo.2⟩] at hc
    obtain ⟨x6, z6, y6, hx6, hz6, h16, h26, q16, q26, h66, h56, q36, h86, hsl6, hdm6⟩ := sw_facts e (k' + 1) k' l.length (by omega) (by omega) hl_e
    have px6 := pureU x6
    have pz6 := pureU z6
    have kk : ((k' + 1 : Nat) : Int) - 1 = (k' : Int) := by omega
    have hgo' : (1 : Int) ≤ ((k' + 1 : Nat) : Int) := by omega
    rw [hx6, hz6] at hgo
    have hL := p_Less x6 z6
    rw [decide_eq_true hgo.2] at hL
    generalize swp 0 e (k' + 1) k' = e2 at *
    repeat' (first | ((first | apply o_do | apply d_do | apply d_yes rfl rfl rfl); first | exact ls_indexAddr_own tab_ok rfl rfl hdm6 rfl rfl kk q26 rfl | exact ls_indexAddr_own tab_ok rfl rfl hdm6 rfl rfl rfl q16 rfl | exact ls_load_eref tab_ok rfl rfl hdm6 h26 rfl rfl rfl rfl | exact ls_load_eref tab_ok rfl rfl hdm6 h16 rfl rfl rfl rfl | exact ls_store_eref (cs' := uv z6) tab_ok rfl rfl rfl hdm6 h16 rfl rfl pz6 rfl rfl rfl rfl | exact ls_indexAddr_own tab_ok rfl rfl h56 rfl rfl kk q36 rfl | exact ls_store_eref (cs' := uv x6) tab_ok rfl rfl rfl h56 h66 rfl rfl px6 rfl rfl rfl rfl | exact lsc (hL) | exact lsq) | refine a_seq ?_ | refine a_region ?_ | refine o_nil ?_ | refine a_block ?_ | refine a_ret ?_ | refine a_exit ?_ | refine a_skip ?_ | refine a_draw mixed ?_ | refine d_nil (by kernel_rfl) ?_ | refine o_yes rfl rfl rfl ?_ | refine o_no rfl rfl rfl (by decide) ?_ | refine o_no' rfl rfl rfl ?_ | refine a_condT rfl ?_ | refine a_condF rfl ?_ | refine d_no rfl rfl rfl (by decide) ?_ | refine d_no' rfl rfl rfl ?_ | (refine wq2 (fun hb => ?_) (fun hb => ?_) <;> (simp only [hb]; try simp only [hbs, ne_eq] at hb; try (exfalso; first | omega | exact hb trivial))) | fail)
    refine ⟨⟨(k', e2), hc, hsl6, by dsimp only; omega⟩, by dsimp only; omega, ?_⟩
    refine ⟨by repeat' (first | exact trivial | exact FinA.one (FinB.cell (FinC.same rfl)) | exact FinA.one (FinB.cell FinC.nil) | exact FinA.bound rfl | exact FinA.one (FinB.cell (FinC.own rfl rfl rfl rfl)) | exact FinA.one (FinB.cell (FinC.v (by first | rfl | (((try dsimp only); first | (rw [h86]; done) | (congr 1 <;> omega)))))) | exact FinA.one (FinB.cell (FinC.ow rfl (by first | rfl | (((try dsimp only); first | (rw [h86]; done) | (congr 1 <;> omega)))))) | exact FinA.one (FinB.agg' rfl rfl) | refine ⟨⟨_, rfl, ?_⟩, ?_⟩), by repeat' (first | exact trivial | refine ⟨⟨_, rfl, by first | rfl | (((try dsimp only); first | (rw [h86]; done) | (congr 1 <;> omega)); done) | (simp [renO, *]; done)⟩, by first | rfl | assumption, ?_⟩), rfl⟩
   have hc2 : D2 = e := by
    rw [hc]
    cases k with
    | zero => rfl
    | succ k => simp only [insJ]; rw [if_neg (fun h => hgo ⟨by omega, h.2⟩)]
   subst hc2
   refine a_brk ⟨[(0, .own 0 l.length), (1, .v (.int .i64 a)), (2, .v (.int .i64 b)), (7, .v (.int .i64 I)), (8, .v (.int .i64 ((5 : Int) - (n + 1 : Nat))))], [(0, .row 46 1 (D2.map uv))]⟩ ?_ ?_
   ·by_cases hk1 : 1 ≤ k
    ·obtain ⟨k', rfl⟩ : ∃ k', k = k' + 1 := ⟨k - 1, by omega⟩
     simp only [Nat.add_sub_cancel] at hgo
     obtain ⟨x5, z5, y5, hx5, hz5, h15, h25, q15, q25, h65, h55, q35, h85, hsl5, hdm5⟩ := sw_facts D2 (k' + 1) k' l.length (by omega) (by omega) hl_D2
     have px5 := pureU x5
     have pz5 := pureU z5
     have kk : ((k' + 1 : Nat) : Int) - 1 = (k' : Int) := by omega
     have hgo' : (1 : Int) ≤ ((k' + 1 : Nat) : Int) := by omega
     rw [hx5, hz5] at hgo
     have hL := p_Less x5 z5
     rw [decide_eq_false (fun h => hgo ⟨hk1, h⟩)] at hL
     repeat' (first | ((first | apply o_do | apply d_do | apply d_yes rfl rfl rfl); first | exact ls_indexAddr_own tab_ok rfl rfl hdm5 rfl rfl kk q25 rfl | exact ls_indexAddr_own tab_ok rfl rfl hdm5 rfl rfl rfl q15 rfl | exact ls_load_eref tab_ok rfl rfl hdm5 h25 rfl rfl rfl rfl | exact ls_load_eref tab_ok rfl rfl hdm5 h15 rfl rfl rfl rfl | exact lsc (hL) | exact lsq) | refine a_seq ?_ | refine a_region ?_ | refine o_nil ?_ | refine a_block ?_ | refine a_ret ?_ | refine a_exit ?_ | refine a_skip ?_ | refine a_draw mixed ?_ | refine d_nil (by kernel_rfl) ?_ | refine o_yes rfl rfl rfl ?_ | refine o_no rfl rfl rfl (by decide) ?_ | refine o_no' rfl rfl rfl ?_ | refine a_condT rfl ?_ | refine a_condF rfl ?_ | refine d_no rfl rfl rfl (by decide) ?_ | refine d_no' rfl rfl rfl ?_ | (refine wq2 (fun hb => ?_) (fun hb => ?_) <;> (simp only [hb]; try simp only [hbs, ne_eq] at hb; try (exfalso; first | omega | exact hb trivial))) | fail)
     refine ⟨rfl, ?_⟩
     refine ⟨by repeat' (first | exact trivial | exact FinA.one (FinB.cell (FinC.same rfl)) | exact FinA.one (FinB.cell FinC.nil) | exact FinA.bound rfl | exact FinA.one (FinB.cell (FinC.own rfl rfl rfl rfl)) | exact FinA.one (FinB.cell (FinC.v (by first | rfl | (((try dsimp only); first | omega | (rw [h8]; done) | (congr 1 <;> omega)))))) | exact FinA.one (FinB.cell (FinC.ow rfl (by first | rfl | (((try dsimp only); first | omega | (rw [h8]; done) | (congr 1 <;> omega)))))) | exact FinA.one (FinB.agg' rfl rfl) | refine ⟨⟨_, rfl, ?_⟩, ?_⟩), by repeat' (first | exact trivial | refine ⟨⟨_, rfl, by first | rfl | (((try dsimp only); first | omega | (rw [h8]; done) | (congr 1 <;> omega)); done) | (simp [renO, *]; done)⟩, by first | rfl | assumption, ?_⟩), rfl⟩
    ·have hgo' : ¬ (1 : Int) ≤ (k : Int) := by omega
     repeat' (first | ((first | apply o_do | apply d_do | apply d_yes rfl rfl rfl); exact lsq) | refine a_seq ?_ | refine a_region ?_ | refine o_nil ?_ | refine a_block ?_ | refine a_ret ?_ | refine a_exit ?_ | refine a_skip ?_ | refine a_draw mixed ?_ | refine d_nil (by kernel_rfl) ?_ | refine o_yes rfl rfl rfl ?_ | refine o_no rfl rfl rfl (by decide) ?_ | refine o_no' rfl rfl rfl ?_ | refine a_condT rfl ?_ | refine a_condF rfl ?_ | refine d_no rfl rfl rfl (by decide) ?_ | refine d_no' rfl rfl rfl ?_ | (refine wq2 (fun hb => ?_) (fun hb => ?_) <;> (simp only [hb]; try simp only [hbs, ne_eq] at hb; try (exfalso; first | omega | exact hb trivial))) | fail)
     refine ⟨rfl, ?_⟩
     refine ⟨by repeat' (first | exact trivial | exact FinA.one (FinB.cell (FinC.same rfl)) | exact FinA.one (FinB.cell FinC.nil) | exact FinA.bound rfl | exact FinA.one (FinB.cell (FinC.own rfl rfl rfl rfl)) | exact FinA.one (FinB.cell (FinC.v (by first | rfl | (((try dsimp only); first | omega | (rw [h8]; done) | (congr 1 <;> omega)))))) | exact FinA.one (FinB.cell (FinC.ow rfl (by first | rfl | (((try dsimp only); first | omega | (rw [h8]; done) | (congr 1 <;> omega)))))) | exact FinA.one (FinB.agg' rfl rfl) | refine ⟨⟨_, rfl, ?_⟩, ?_⟩), by repeat' (first | exact trivial | refine ⟨⟨_, rfl, by first | rfl | (((try dsimp only); first | omega | (rw [h8]; done) | (congr 1 <;> omega)); done) | (simp [renO, *]; done)⟩, by first | rfl | assumption, ?_⟩), rfl⟩
   clear hc hgo
   by_cases hr : 2 ≤ b - I
   ·rw [if_pos hr] at hD3
    have hr' : (2 : Int) ≤ (b : Int) - I := by omega
    repeat' (first | ((first | apply o_do | apply d_do | apply d_yes rfl rfl rfl); exact lsq) | refine a_seq ?_ | refine a_region ?_ | refine o_nil ?_ | refine a_block ?_ | refine a_ret ?_ | refine a_exit ?_ | refine a_skip ?_ | refine a_draw mixed ?_ | refine d_nil (by kernel_rfl) ?_ | refine o_yes rfl rfl rfl ?_ | refine o_no rfl rfl rfl (by decide) ?_ | refine o_no' rfl rfl rfl ?_ | refine a_condT rfl ?_ | refine a_condF rfl ?_ | refine d_no rfl rfl rfl (by decide) ?_ | refine d_no' rfl rfl rfl ?_ | (refine wq2 (fun hb => ?_) (fun hb => ?_) <;> (simp only [hb]; try simp only [hbs, ne_eq] at hb; try (exfalso; first | omega | exact hb trivial))) | fail)
    refine a_loop (X := {w : Nat × Nat × List Nat // D3 = shR b w.1 w.2.1 w.2.2 ∧ w.2.2.length = l.length ∧ w.1 = b - w.2.1 ∧ I < w.2.1 ∧ w.2.1 ≤ b})
     (fun w => ⟨[(0, .own 0 l.length), (1, .v (.int .i64 a)), (2, .v (.int .i64 b)), (7, .v (.int .i64 I)), (8, .v (.int .i64 ((5 : Int) - (n + 1 : Nat)))), (10, .v (.int .i64 w.1.2.1))], [(0, .row 46 1 (w.1.2.2.map uv))]⟩) (fun w => w.1.1) ⟨(b - (I + 1), I + 1, D2), hD3, hl_D2, rfl, by dsimp only; omega, by dsimp only; omega⟩ ?_ ?_
    ·refine ⟨by repeat' (first | exact trivial | exact FinA.one (FinB.cell (FinC.same rfl)) | exact FinA.one (FinB.cell FinC.nil) | exact FinA.bound rfl | exact FinA.one (FinB.cell (FinC.own rfl rfl rfl rfl)) | exact FinA.one (FinB.cell (FinC.v (by first | rfl | (((try dsimp only); first | omega | (rw [h8]; done) | (congr 1 <;> omega)))))) | exact FinA.one (FinB.cell (FinC.ow rfl (by first | rfl | (((try dsimp only); first | omega | (rw [h8]; done) | (congr 1 <;> omega)))))) | exact FinA.one (FinB.agg' rfl rfl) | refine ⟨⟨_, rfl, ?_⟩, ?_⟩), by repeat' (first | exact trivial | refine ⟨⟨_, rfl, by first | rfl | (((try dsimp only); first | omega | (rw [h8]; done) | (congr 1 <;> omega)); done) | (simp [renO, *]; done)⟩, by first | rfl | assumption, ?_⟩), rfl⟩
    rintro ⟨⟨g, k, e⟩, hc, hl_e, hgk, hIk, hkb⟩
    dsimp only at hc hl_e hgk hIk hkb ⊢
    by_cases hgo : k < b
    ·obtain ⟨g', rfl⟩ : ∃ g', g = g' + 1 := ⟨g - 1, by omega⟩
     obtain ⟨k', rfl⟩ : ∃ k', k = k' + 1 := ⟨k - 1, by omega⟩
     simp only [shR, Nat.add_sub_cancel] at hc
     obtain ⟨x7, z7, y7, hx7, hz7, h17, h27, q17, q27, h67, h57, q37, h87, hsl7, hdm7⟩ := sw_facts e (k' + 1) k' l.length (by omega) (by omega) hl_e
     have px7 := pureU x7
     have pz7 := pureU z7
     have kk : ((k' + 1 : Nat) : Int) - 1 = (k' : Int) := by omega
     have hgo' : ((k' + 1 : Nat) : Int) < (b : Int) := by omega
     have hL := p_Less x7 z7
     rw [hx7, hz7] at hc
     by_cases hxz : x7 < z7
     ·rw [if_pos ⟨hgo, hxz⟩] at hc
      rw [decide_eq_true hxz] at hL
      generalize swp 0 e (k' + 1) k' = e2 at *
      repeat' (first | ((first | apply o_do | apply d_do | apply d_yes rfl rfl rfl); first | exact ls_indexAddr_own tab_ok rfl rfl hdm7 rfl rfl kk q27 rfl | exact ls_indexAddr_own tab_ok rfl rfl hdm7 rfl rfl rfl q17 rfl | exact ls_load_eref tab_ok rfl rfl hdm7 h27 rfl rfl rfl rfl | exact ls_load_eref tab_ok rfl rfl hdm7 h17 rfl rfl rfl rfl | exact ls_store_eref (cs' := uv z7) tab_ok rfl rfl rfl hdm7 h17 rfl rfl pz7 rfl rfl rfl rfl | exact ls_indexAddr_own tab_ok rfl rfl h57 rfl rfl kk q37 rfl | exact ls_store_eref (cs' := uv x7) tab_ok rfl rfl rfl h57 h67 rfl rfl px7 rfl rfl rfl rfl | exact lsc (hL) | exact lsq) | refine a_seq ?_ | refine a_region ?_ | refine o_nil ?_ | refine a_block ?_ | refine a_ret ?_ | refine a_exit ?_ | refine a_skip ?_ | refine a_draw mixed ?_ | refine d_nil (by kernel_rfl) ?_ | refine o_yes rfl rfl rfl ?_ | refine o_no rfl rfl rfl (by decide) ?_ | refine o_no' rfl rfl rfl ?_ | refine a_condT rfl ?_ | refine a_condF rfl ?_ | refine d_no rfl rfl rfl (by decide) ?_ | refine d_no' rfl rfl rfl ?_ | (refine wq2 (fun hb => ?_) (fun hb => ?_) <;> (simp only [hb]; try simp only [hbs, ne_eq] at hb; try (exfalso; first | omega | exact hb trivial))) | fail)
      refine ⟨⟨(g', k' + 1 + 1, e2), hc, hsl7, by dsimp only; omega, by dsimp only; omega, by dsimp only; omega⟩, by dsimp only; omega, ?_⟩
      refine ⟨by repeat' (first | exact trivial | exact FinA.one (FinB.cell (FinC.same rfl)) | exact FinA.one (FinB.cell FinC.nil) | exact FinA.bound rfl | exact FinA.one (FinB.cell (FinC.own rfl rfl rfl rfl)) | exact FinA.one (FinB.cell (FinC.v (by first | rfl | (((try dsimp only); first | (rw [h87]; done) | (congr 1 <;> omega)))))) | exact FinA.one (FinB.cell (FinC.ow rfl (by first | rfl | (((try dsimp only); first | (rw [h87]; done) | (congr 1 <;> omega)))))) | exact FinA.one (FinB.agg' rfl rfl) | refine ⟨⟨_, rfl, ?_⟩, ?_⟩), by repeat' (first | exact trivial | refine ⟨⟨_, rfl, by first | rfl | (((try dsimp only); first | (rw [h87]; done) | (congr 1 <;> omega)); done) | (simp [renO, *]; done)⟩, by first | rfl | assumption, ?_⟩), rfl⟩
     ·rw [if_neg (fun h => hxz h.2)] at hc
      rw [decide_eq_false hxz] at hL
      subst hc
      repeat' (first | ((first | apply o_do | apply d_do | apply d_yes rfl rfl rfl); first | exact ls_indexAddr_own tab_ok rfl rfl hdm7 rfl rfl kk q27 rfl | exact ls_indexAddr_own tab_ok rfl rfl hdm7 rfl rfl rfl q17 rfl | exact ls_load_eref tab_ok rfl rfl hdm7 h27 rfl rfl rfl rfl | exact ls_load_eref tab_ok rfl rfl hdm7 h17 rfl rfl rfl rfl | exact lsc (hL) | exact lsq) | refine a_seq ?_ | refine a_region ?_ | refine o_nil ?_ | refine a_block ?_ | refine a_ret ?_ | refine a_exit ?_ | refine a_skip ?_ | refine a_draw mixed ?_ | refine d_nil (by kernel_rfl) ?_ | refine o_yes rfl rfl rfl ?_ | refine o_no rfl rfl rfl (by decide) ?_ | refine o_no' rfl rfl rfl ?_ | refine a_condT rfl ?_ | refine a_condF rfl ?_ | refine d_no rfl rfl rfl (by decide) ?_ | refine d_no' rfl rfl rfl ?_ | (refine wq2 (fun hb => ?_) (fun hb => ?_) <;> (simp only [hb]; try simp only [hbs, ne_eq] at hb; try (exfalso; first | omega | exact hb trivial))) | fail)
      refine ⟨⟨(n, D3, I), hR, hl_D3, by dsimp only; omega, by dsimp only; omega, by dsimp only; omega, hT1, hT2⟩, by dsimp only; omega, ?_⟩
      refine ⟨by repeat' (first | exact trivial | exact FinA.one (FinB.cell (FinC.same rfl)) | exact FinA.one (FinB.cell FinC.nil) | exact FinA.bound rfl | exact FinA.one (FinB.cell (FinC.own rfl rfl rfl rfl)) | exact FinA.one (FinB.cell (FinC.v (by first | rfl | (((try dsimp only); first | omega | (rw [h8]; done) | (congr 1 <;> omega)))))) | exact FinA.one (FinB.cell (FinC.ow rfl (by first | rfl | (((try dsimp only); first | omega | (rw [h8]; done) | (congr 1 <;> omega)))))) | exact FinA.one (FinB.agg' rfl rfl) | refine ⟨⟨_, rfl, ?_⟩, ?_⟩), by repeat' (first | exact trivial | refine ⟨⟨_, rfl, by first | rfl | (((try dsimp only); first | omega | (rw [h8]; done) | (congr 1 <;> omega)); done) | (simp [renO, *]; done)⟩, by first | rfl | assumption, ?_⟩), rfl⟩
    ·have hc2 : D3 = e := by
      rw [hc]
      cases g with
      | zero => rfl
      | succ g => omega
     subst hc2
     have hgo' : ¬ (k : Int) < (b : Int) := by omega
     repeat' (first | ((first | apply o_do | apply d_do | apply d_yes rfl rfl rfl); exact lsq) | refine a_seq ?_ | refine a_region ?_ | refine o_nil ?_ | refine a_block ?_ | refine a_ret ?_ | refine a_exit ?_ | refine a_skip ?_ | refine a_draw mixed ?_ | refine d_nil (by kernel_rfl) ?_ | refine o_yes rfl rfl rfl ?_ | refine o_no rfl rfl rfl (by decide) ?_ | refine o_no' rfl rfl rfl ?_ | refine a_condT rfl ?_ | refine a_condF rfl ?_ | refine d_no rfl rfl rfl (by decide) ?_ | refine d_no' rfl rfl rfl ?_ | (refine wq2 (fun hb => ?_) (fun hb => ?_) <;> (simp only [hb]; try simp only [hbs, ne_eq] at hb; try (exfalso; first | omega | exact hb trivial))) | fail)
     refine ⟨⟨(n, D3, I), hR, hl_D3, by dsimp only; omega, by dsimp only; omega, by dsimp only; omega, hT1, hT2⟩, by dsimp only; omega, ?_⟩
     refine ⟨by repeat' (first | exact trivial | exact FinA.one (FinB.cell (FinC.same rfl)) | exact FinA.one (FinB.cell FinC.nil) | exact FinA.bound rfl | exact FinA.one (FinB.cell (FinC.own rfl rfl rfl rfl)) | exact FinA.one (FinB.cell (FinC.v (by first | rfl | (((try dsimp only); first | omega | (rw [h8]; done) | (congr 1 <;> omega)))))) | exact FinA.one (FinB.cell (FinC.ow rfl (by first | rfl | (((try dsimp only); first | omega | (rw [h8]; done) | (congr 1 <;> omega)))))) | exact FinA.one (FinB.agg' rfl rfl) | refine ⟨⟨_, rfl, ?_⟩, ?_⟩), by repeat' (first | exact trivial | refine ⟨⟨_, rfl, by first | rfl | (((try dsimp only); first | omega | (rw [h8]; done) | (congr 1 <;> omega)); done) | (simp [renO, *]; done)⟩, by first | rfl | assumption, ?_⟩), rfl⟩
   ·rw [if_neg hr] at hD3
    subst hD3
    have hr' : ¬ (2 : Int) ≤ (b : Int) - I := by omega
    repeat' (first | ((first | apply o_do | apply d_do | apply d_yes rfl rfl rfl); exact lsq) | refine a_seq ?_ | refine a_region ?_ | refine o_nil ?_ | refine a_block ?_ | refine a_ret ?_ | refine a_exit ?_ | refine a_skip ?_ | refine a_draw mixed ?_ | refine d_nil (by kernel_rfl) ?_ | refine o_yes rfl rfl rfl ?_ | refine o_no rfl rfl rfl (by decide) ?_ | refine o_no' rfl rfl rfl ?_ | refine a_condT rfl ?_ | refine a_condF rfl ?_ | refine d_no rfl rfl rfl (by decide) ?_ | refine d_no' rfl rfl rfl ?_ | (refine wq2 (fun hb => ?_) (fun hb => ?_) <;> (simp only [hb]; try simp only [hbs, ne_eq] at hb; try (exfalso; first | omega | exact hb trivial))) | fail)
    refine ⟨⟨(n, D3, I), hR, hl_D3, by dsimp only; omega, by dsimp only; omega, by dsimp only; omega, hT1, hT2⟩, by dsimp only; omega, ?_⟩
    refine ⟨by repeat' (first | exact trivial | exact FinA.one (FinB.cell (FinC.same rfl)) | exact FinA.one (FinB.cell FinC.nil) | exact FinA.bound rfl | exact FinA.one (FinB.cell (FinC.own rfl rfl rfl rfl)) | exact FinA.one (FinB.cell (FinC.v (by first | rfl | (((try dsimp only); first | omega | (rw [h8]; done) | (congr 1 <;> omega)))))) | exact FinA.one (FinB.cell (FinC.ow rfl (by first | rfl | (((try dsimp only); first | omega | (rw [h8]; done) | (congr 1 <;> omega)))))) | exact FinA.one (FinB.agg' rfl rfl) | refine ⟨⟨_, rfl, ?_⟩, ?_⟩), by repeat' (first | exact trivial | refine ⟨⟨_, rfl, by first | rfl | (((try dsimp only); first | omega | (rw [h8]; done) | (congr 1 <;> omega)); done) | (simp [renO, *]; done)⟩, by first | rfl | assumption, ?_⟩), rfl⟩
  ·rw [if_neg hL2] at hD3
   have hL2' : ¬ (2 : Int) ≤ (I : Int) - a := by omega
   by_cases hr : 2 ≤ b - I
   ·rw [if_pos hr] at hD3
    have hr' : (2 : Int) ≤ (b : Int) - I := by omega
    repeat' (first | ((first | apply o_do | apply d_do | apply d_yes rfl rfl rfl); first | exact ls_indexAddr_own tab_ok rfl rfl hdm1 rfl rfl kI q21 rfl | exact ls_indexAddr_own tab_ok rfl rfl hdm1 rfl rfl rfl q11 rfl | exact ls_load_eref tab_ok rfl rfl hdm1 h21 rfl rfl rfl rfl | exact ls_load_eref tab_ok rfl rfl hdm1 h11 rfl rfl rfl rfl | exact ls_store_eref (cs' := uv z1) tab_ok rfl rfl rfl hdm1 h11 rfl rfl pz1 rfl rfl rfl rfl | exact ls_indexAddr_own tab_ok rfl rfl h51 rfl rfl kI q31 rfl | exact ls_store_eref (cs' := uv x1) tab_ok rfl rfl rfl h51 h61 rfl rfl px1 rfl rfl rfl rfl | exact lsq) | refine a_seq ?_ | refine a_region ?_ | refine o_nil ?_ | refine a_block ?_ | refine a_ret ?_ | refine a_exit ?_ | refine a_skip ?_ | refine a_draw mixed ?_ | refine d_nil (by kernel_rfl) ?_ | refine o_yes rfl rfl rfl ?_ | refine o_no rfl rfl rfl (by decide) ?_ | refine o_no' rfl rfl rfl ?_ | refine a_condT rfl ?_ | refine a_condF rfl ?_ | refine d_no rfl rfl rfl (by decide) ?_ | refine d_no' rfl rfl rfl ?_ | (refine wq2 (fun hb => ?_) (fun hb => ?_) <;> (simp only [hb]; try simp only [hbs, ne_eq] at hb; try (exfalso; first | omega | exact hb trivial))) | fail)
    refine a_loop (X := {w : Nat × Nat × List Nat // D3 = shR b w.1 w.2.1 w.2.2 ∧ w.2.2.length = l.length ∧ w.1 = b - w.2.1 ∧ I < w.2.1 ∧ w.2.1 ≤ b})
     (fun w => ⟨[(0, .own 0 l.length), (1, .v (.int .i64 a)), (2, .v (.int .i64 b)), (7, .v (.int .i64 I)), (8, .v (.int .i64 ((5 : Int) - (n + 1 : Nat)))), (10, .v (.int .i64 w.1.2.1))], [(0, .row 46 1 (w.1.2.2.map uv))]⟩) (fun w => w.1.1) ⟨(b - (I + 1), I + 1, d1), hD3, hl_d1, rfl, by dsimp only; omega, by dsimp only; omega⟩ ?_ ?_
    ·refine ⟨by repeat' (first | exact trivial | exact FinA.one (FinB.cell (FinC.same rfl)) | exact FinA.one (FinB.cell FinC.nil) | exact FinA.bound rfl | exact FinA.one (FinB.cell (FinC.own rfl rfl rfl rfl)) | exact FinA.one (FinB.cell (FinC.v (by first | rfl | (((try dsimp only); first | (rw [h81]; done) | (congr 1 <;> omega)))))) | exact FinA.one (FinB.cell (FinC.ow rfl (by first | rfl | (((try dsimp only); first | (rw [h81]; done) | (congr 1 <;> omega)))))) | exact FinA.one (FinB.agg' rfl rfl) | refine ⟨⟨_, rfl, ?_⟩, ?_⟩), by repeat' (first | exact trivial | refine ⟨⟨_, rfl, by first | rfl | (((try dsimp only); first | (rw [h81]; done) | (congr 1 <;> omega)); done) | (simp [renO, *]; done)⟩, by first | rfl | assumption, ?_⟩), rfl⟩
    rintro ⟨⟨g, k, e⟩, hc, hl_e, hgk, hIk, hkb⟩
    dsimp only at hc hl_e hgk hIk hkb ⊢
    by_cases hgo : k < b
    ·obtain ⟨g', rfl⟩ : ∃ g', g = g' + 1 := ⟨g - 1, by omega⟩
     obtain ⟨k', rfl⟩ : ∃ k', k = k' + 1 := ⟨k - 1, by omega⟩
     simp only [shR, Nat.add_sub_cancel] at hc
     obtain ⟨x7, z7, y7, hx7, hz7, h17, h27, q17, q27, h67, h57, q37, h87, hsl7, hdm7⟩ := sw_facts e (k' + 1) k' l.length (by omega) (by omega) hl_e
     have px7 := pureU x7
     have pz7 := pureU z7
     have kk : ((k' + 1 : Nat) : Int) - 1 = (k' : Int) := by omega
     have hgo' : ((k' + 1 : Nat) : Int) < (b : Int) := by omega
     have hL := p_Less x7 z7
     rw [hx7, hz7] at hc
     by_cases hxz : x7 < z7
     ·rw [if_pos ⟨hgo, hxz⟩] at hc
      rw [decide_eq_true hxz] at hL
      generalize swp 0 e (k' + 1) k' = e2 at *
      repeat' (first | ((first | apply o_do | apply d_do | apply d_yes rfl rfl rfl); first | exact ls_indexAddr_own tab_ok rfl rfl hdm7 rfl rfl kk q27 rfl | exact ls_indexAddr_own tab_ok rfl rfl hdm7 rfl rfl rfl q17 rfl | exact ls_load_eref tab_ok rfl rfl hdm7 h27 rfl rfl rfl rfl | exact ls_load_eref tab_ok rfl rfl hdm7 h17 rfl rfl rfl rfl | exact ls_store_eref (cs' := uv z7) tab_ok rfl rfl rfl hdm7 h17 rfl rfl pz7 rfl rfl rfl rfl | exact ls_indexAddr_own tab_ok rfl rfl h57 rfl rfl kk q37 rfl | exact ls_store_eref (cs' := uv x7) tab_ok rfl rfl rfl h57 h67 rfl rfl px7 rfl rfl rfl rfl | exact lsc (hL) | exact lsq) | refine a_seq ?_ | refine a_region ?_ | refine o_nil ?_ | refine a_block ?_ | refine a_ret ?_ | refine a_exit ?_ | refine a_skip ?_ | refine a_draw mixed ?_ | refine d_nil (by kernel_rfl) ?_ | refine o_yes rfl rfl rfl ?_ | refine o_no rfl rfl rfl (by decide) ?_ | refine o_no' rfl rfl rfl ?_ | refine a_condT rfl ?_ | refine a_condF rfl ?_ | refine d_no rfl rfl rfl (by decide) ?_ | refine d_no' rfl rfl rfl ?_ | (refine wq2 (fun hb => ?_) (fun hb => ?_) <;> (simp only [hb]; try simp only [hbs, ne_eq] at hb; try (exfalso; first | omega | exact hb trivial))) | fail)
      refine ⟨⟨(g', k' + 1 + 1, e2), hc, hsl7, by dsimp only; omega, by dsimp only; omega, by dsimp only; omega⟩, by dsimp only; omega, ?_⟩
      refine ⟨by repeat' (first | exact trivial | exact FinA.one (FinB.cell (FinC.same rfl)) | exact FinA.one (FinB.cell FinC.nil) | exact FinA.bound rfl | exact FinA.one (FinB.cell (FinC.own rfl rfl rfl rfl)) | exact FinA.one (FinB.cell (FinC.v (by first | rfl | (((try dsimp only); first | (rw [h87]; done) | (congr 1 <;> omega)))))) | exact FinA.one (FinB.cell (FinC.ow rfl (by first | rfl | (((try dsimp only); first | (rw [h87]; done) | (congr 1 <;> omega)))))) | exact FinA.one (FinB.agg' rfl rfl) | refine ⟨⟨_, rfl, ?_⟩, ?_⟩), by repeat' (first | exact trivial | refine ⟨⟨_, rfl, by first | rfl | (((try dsimp only); first | (rw [h87]; done) | (congr 1 <;> omega)); done) | (simp [renO, *]; done)⟩, by first | rfl | assumption, ?_⟩), rfl⟩
     ·rw [if_neg (fun h => hxz h.2)] at hc
      rw [decide_eq_false hxz] at hL
      subst hc
      repeat' (first | ((first | apply o_do | apply d_do | apply d_yes rfl rfl rfl); first | exact ls_indexAddr_own tab_ok rfl rfl hdm7 rfl rfl kk q27 rfl | exact ls_indexAddr_own tab_ok rfl rfl hdm7 rfl rfl rfl q17 rfl | exact ls_load_eref tab_ok rfl rfl hdm7 h27 rfl rfl rfl rfl | exact ls_load_eref tab_ok rfl rfl hdm7 h17 rfl rfl rfl rfl | exact lsc (hL) | exact lsq) | refine a_seq ?_ | refine a_region ?_ | refine o_nil ?_ | refine a_block ?_ | refine a_ret ?_ | refine a_exit ?_ | refine a_skip ?_ | refine a_draw mixed ?_ | refine d_nil (by kernel_rfl) ?_ | refine o_yes rfl rfl rfl ?_ | refine o_no rfl rfl rfl (by decide) ?_ | refine o_no' rfl rfl rfl ?_ | refine a_condT rfl ?_ | refine a_condF rfl ?_ | refine d_no rfl rfl rfl (by decide) ?_ | refine d_no' rfl rfl rfl ?_ | (refine wq2 (fun hb => ?_) (fun hb => ?_) <;> (simp only [hb]; try simp only [hbs, ne_eq] at hb; try (exfalso; first | omega | exact hb trivial))) | fail)
      refine ⟨⟨(n, D3, I), hR, hl_D3, by dsimp only; omega, by dsimp only; omega, by dsimp only; omega, hT1, hT2⟩, by dsimp only; omega, ?_⟩
      refine ⟨by repeat' (first | exact trivial | exact FinA.one (FinB.cell (FinC.same rfl)) | exact FinA.one (FinB.cell FinC.nil) | exact FinA.bound rfl | exact FinA.one (FinB.cell (FinC.own rfl rfl rfl rfl)) | exact FinA.one (FinB.cell (FinC.v (by first | rfl | (((try dsimp only); first | omega | (rw [h8]; done) | (congr 1 <;> omega)))))) | exact FinA.one (FinB.cell (FinC.ow rfl (by first | rfl | (((try dsimp only); first | omega | (rw [h8]; done) | (congr 1 <;> omega)))))) | exact FinA.one (FinB.agg' rfl rfl) | refine ⟨⟨_, rfl, ?_⟩, ?_⟩), by repeat' (first | exact trivial | refine ⟨⟨_, rfl, by first | rfl | (((try dsimp only); first | omega | (rw [h8]; done) | (congr 1 <;> omega)); done) | (simp [renO, *]; done)⟩, by first | rfl | assumption, ?_⟩), rfl⟩
    ·have hc2 : D3 = e := by
      rw [hc]
      cases g with
      | zero => rfl
      | succ g => omega
     subst hc2
     have hgo' : ¬ (k : Int) < (b : Int) := by omega
     repeat' (first | ((first | apply o_do | apply d_do | apply d_yes rfl rfl rfl); exact lsq) | refine a_seq ?_ | refine a_region ?_ | refine o_nil ?_ | refine a_block ?_ | refine a_ret ?_ | refine a_exit ?_ | refine a_skip ?_ | refine a_draw mixed ?_ | refine d_nil (by kernel_rfl) ?_ | refine o_yes rfl rfl rfl ?_ | refine o_no rfl rfl rfl (by decide) ?_ | refine o_no' rfl rfl rfl ?_ | refine a_condT rfl ?_ | refine a_condF rfl ?_ | refine d_no rfl rfl rfl (by decide) ?_ | refine d_no' rfl rfl rfl ?_ | (refine wq2 (fun hb => ?_) (fun hb => ?_) <;> (simp only [hb]; try simp only [hbs, ne_eq] at hb; try (exfalso; first | omega | exact hb trivial))) | fail)
     refine ⟨⟨(n, D3, I), hR, hl_D3, by dsimp only; omega, by dsimp only; omega, by dsimp only; omega, hT1, hT2⟩, by dsimp only; omega, ?_⟩
     refine ⟨by repeat' (first | exact trivial | exact FinA.one (FinB.cell (FinC.same rfl)) | exact FinA.one (FinB.cell FinC.nil) | exact FinA.bound rfl | exact FinA.one (FinB.cell (FinC.own rfl rfl rfl rfl)) | exact FinA.one (FinB.cell (FinC.v (by first | rfl | (((try dsimp only); first | omega | (rw [h8]; done) | (congr 1 <;> omega)))))) | exact FinA.one (FinB.cell (FinC.ow rfl (by first | rfl | (((try dsimp only); first | omega | (rw [h8]; done) | (congr 1 <;> omega)))))) | exact FinA.one (FinB.agg' rfl rfl) | refine ⟨⟨_, rfl, ?_⟩, ?_⟩), by repeat' (first | exact trivial | refine ⟨⟨_, rfl, by first | rfl | (((try dsimp only); first | omega | (rw [h8]; done) | (congr 1 <;> omega)); done) | (simp [renO, *]; done)⟩, by first | rfl | assumption, ?_⟩), rfl⟩
   ·exfalso; omega
section
variable {P : Program} {Γ : Ctx} {s : ASt} {dst : Option Tmp} {ty : TypeId} {pos : String} {after : Array Edge}
theorem ls_shlB {xt yt : TypeId} {x y : Operand} {k yk : IntKind} {a b r : Int} (hr : k.wrap (a * 2 ^ min b.toNat k.bits) = r) (hx : ev s x = some (.v (.int k a))) (hy : ev s y = some (.v (.int yk b))) (hb : 0 ≤ b) (hd : okDst Γ.n dst = true) : LS P Γ ⟨dst, .binOp .shl xt x y yt, ty, pos, after, none⟩ s (rd x (rd y [])) (dst1 dst (.v (.int k r))) [] :=
 ls_bin hx hy (fun w => by
  have h : ¬ b < 0 := by omega
  simp [eqGuard, binOp, Op.shift, h, hr]) rfl hd
theorem ls_xorB {xt yt : TypeId} {x y : Operand} {k : IntKind} {a b r : Int} (hr : k.wrap (BitVec.ofInt k.bits a ^^^ BitVec.ofInt k.bits b).toNat = r) (hx : ev s x = some (.v (.int k a))) (hy : ev s y = some (.v (.int k b))) (hd : okDst Γ.n dst = true) : LS P Γ ⟨dst, .binOp .xor xt x y yt, ty, pos, after, none⟩ s (rd x (rd y [])) (dst1 dst (.v (.int k r))) [] :=
 ls_bin hx hy (fun w => by
  subst hr
  simp [eqGuard, binOp, Op.intBits]) rfl hd
theorem ls_subB {xt yt : TypeId} {x y : Operand} {k : IntKind} {a b r : Int} (hr : k.wrap (a - b) = r) (hx : ev s x = some (.v (.int k a))) (hy : ev s y = some (.v (.int k b))) (hd : okDst Γ.n dst = true) : LS P Γ ⟨dst, .binOp .sub xt x y yt, ty, pos, after, none⟩ s (rd x (rd y [])) (dst1 dst (.v (.int k r))) [] := by subst hr; exact ls_sub hx hy hd
end
def rn1 (x : Nat) : Nat := x ^^^ (x * 8192 % 18446744073709551616)
def rn2 (x : Nat) : Nat := x ^^^ (x / 128)
def rn3 (x : Nat) : Nat := x ^^^ (x * 131072 % 18446744073709551616)
def rnx (x : Nat) : Nat := rn3 (rn2 (rn1 x))
theorem xor_lt64 {x y : Nat} (hx : x < 18446744073709551616) (hy : y < 18446744073709551616) : x ^^^ y < 18446744073709551616 := Nat.xor_lt_two_pow (n := 64) hx hy
theorem rn1_lt {x : Nat} (h : x < 18446744073709551616) : rn1 x < 18446744073709551616 := xor_lt64 h (Nat.mod_lt _ (by decide))
theorem rn2_lt {x : Nat} (h : x < 18446744073709551616) : rn2 x < 18446744073709551616 := xor_lt64 h (by omega)
theorem rn3_lt {x : Nat} (h : x < 18446744073709551616) : rn3 x < 18446744073709551616 := xor_lt64 h (Nat.mod_lt _ (by decide))
theorem rnx_lt {x : Nat} (h : x < 18446744073709551616) : rnx x < 18446744073709551616 := rn3_lt (rn2_lt (rn1_lt h))
theorem xor_u {x y : Nat} (hx : x < 18446744073709551616) (hy : y < 18446744073709551616) : IntKind.u64.wrap (BitVec.ofInt IntKind.u64.bits (x : Int) ^^^ BitVec.ofInt IntKind.u64.bits (y : Int)).toNat = ((x ^^^ y : Nat) : Int) := by
 have hb : IntKind.u64.bits = 64 := rfl
 have := xor_lt64 hx hy
 rw [hb, BitVec.ofInt_natCast, BitVec.ofInt_natCast, BitVec.toNat_xor, BitVec.toNat_ofNat, BitVec.toNat_ofNat, Nat.mod_eq_of_lt hx, Nat.mod_eq_of_lt hy, IntKind.wrap_u64]
 omega
theorem shl_u (x k m : Nat) (hk : k ≤ 64) (hm : 2 ^ k = m) : IntKind.u64.wrap ((x : Int) * 2 ^ min ((k : Int).toNat) IntKind.u64.bits) = ((x * m % 18446744073709551616 : Nat) : Int) := by
 have hb : IntKind.u64.bits = 64 := rfl
 rw [hb, show min ((k : Int).toNat) 64 = k by omega, IntKind.wrap_u64]
 have e : (2 : Int) ^ k = ((m : Nat) : Int) := by rw [← hm]; simp
 rw [e, ← Int.natCast_mul]
 generalize x * m = y
 omega
theorem shr_u (x k m : Nat) (hk : k ≤ 64) (hm : 2 ^ k = m) : (x : Int).fdiv (2 ^ min ((k : Int).toNat) IntKind.u64.bits) = ((x / m : Nat) : Int) := by
 have hb : IntKind.u64.bits = 64 := rfl
 rw [hb, show min ((k : Int).toNat) 64 = k by omega]
 have e : (2 : Int) ^ k = ((m : Nat) : Int) := by rw [← hm]; simp
 rw [e, Int.fdiv_eq_ediv_of_nonneg _ (Int.natCast_nonneg _)]
 exact (Int.natCast_ediv _ _).symm
theorem and_u (x k : Nat) (hx : x < 18446744073709551616) (hk : k ≤ 63) : IntKind.u64.wrap (BitVec.ofInt IntKind.u64.bits (x : Int) &&& BitVec.ofInt IntKind.u64.bits ((2 ^ k - 1 : Nat) : Int)).toNat = ((x % 2 ^ k : Nat) : Int) := by
 have hb : IntKind.u64.bits = 64 := rfl
 have h1 : 2 ^ k ≤ 2 ^ 63 := Nat.pow_le_pow_right (by decide) hk
 have h2 : x % 2 ^ k < 2 ^ k := Nat.mod_lt _ (Nat.two_pow_pos k)
 have e63 : (2 : Nat) ^ 63 = 9223372036854775808 := by decide
 have e64 : (2 : Nat) ^ 64 = 18446744073709551616 := by decide
 rw [hb, BitVec.ofInt_natCast, BitVec.ofInt_natCast, BitVec.toNat_and, BitVec.toNat_ofNat, BitVec.toNat_ofNat, e64, Nat.mod_eq_of_lt hx, Nat.mod_eq_of_lt (show 2 ^ k - 1 < 18446744073709551616 by omega), Nat.and_two_pow_sub_one_eq_mod, IntKind.wrap_u64]
 generalize x % 2 ^ k = y at *
 omega
theorem bl_ok : ∀ n : Fin 1001, n.1 ≠ 0 → n.1 < 2 ^ Lib.bitLen n.1 ∧ 2 ^ Lib.bitLen n.1 ≤ 2 * n.1 ∧ Lib.bitLen n.1 ≤ 10 := by decide +kernel
def rdr (n : Nat) : Nat → Nat
 | 0 => n
 | k + 1 => rnx (rdr n k)
theorem rdr_lt {n : Nat} (h : n < 18446744073709551616) : ∀ k, rdr n k < 18446744073709551616
 | 0 => h
 | k + 1 => rnx_lt (rdr_lt h k)
def rnd (n k : Nat) : Nat := if n ≤ 1000 then (if n ≤ rdr n (k + 1) % 2 ^ Lib.bitLen n then rdr n (k + 1) % 2 ^ Lib.bitLen n - n else rdr n (k + 1) % 2 ^ Lib.bitLen n) else 0
theorem rnd_lt (n k : Nat) (h : 0 < n) : rnd n k < n := by
 unfold rnd
 split
 ·rename_i hn
  obtain ⟨h1, h2, _⟩ := bl_ok ⟨n, by omega⟩ (by simpa using Nat.pos_iff_ne_zero.1 h)
  have h3 : rdr n (k + 1) % 2 ^ Lib.bitLen n < 2 ^ Lib.bitLen n := Nat.mod_lt _ (Nat.two_pow_pos _)
  dsimp only at h1 h2
  generalize rdr n (k + 1) % 2 ^ Lib.bitLen n = y at *
  split <;> omega
 ·exact h
set_option maxRecDepth 20000 in
theorem a_next (x : Nat) (hx : x < 18446744073709551616) : AC Tryd.prog 48 [.ref 0 0] [(0, .box 75 [.v (.int .u64 x)])] (.v (.int .u64 (rnx x))) [(0, .box 75 [.v (.int .u64 (rnx x))])] := by
 have e1 := shl_u x 13 8192 (by decide) (by decide)
 have e2 := xor_u hx (show x * 8192 % 18446744073709551616 < 18446744073709551616 from Nat.mod_lt _ (by decide))
 have l1 := rn1_lt hx
 change _ = ((rn1 x : Nat) : Int) at e2
 have e3 := shr_u (rn1 x) 7 128 (by decide) (by decide)
 have e4 := xor_u l1 (show rn1 x / 128 < 18446744073709551616 by omega)
 have l2 := rn2_lt l1
 change _ = ((rn2 (rn1 x) : Nat) : Int) at e4
 have e5 := shl_u (rn2 (rn1 x)) 17 131072 (by decide) (by decide)
 have e6 := xor_u l2 (show rn2 (rn1 x) * 131072 % 18446744073709551616 < 18446744073709551616 from Nat.mod_lt _ (by decide))
 change _ = ((rnx x : Nat) : Int) at e6
 generalize rnx x = x3 at *
 generalize rn2 (rn1 x) = x2 at *
 generalize rn1 x = x1 at *
 generalize x * 8192 % 18446744073709551616 = y1 at *
 generalize x2 * 131072 % 18446744073709551616 = y3 at *
 generalize x1 / 128 = y2 at *
 refine (ac_body tab_ok Tryd.func48 rfl (by kernel_rfl) rfl ?_); intro w0 M μ0; simp only [Tryd.ntmps48, List.length_cons, List.length_nil, Nat.reduceAdd, Nat.reduceSub, numb]
 repeat' (first | ((first | apply o_do | apply d_do | apply d_yes rfl rfl rfl); first | exact ls_nilCheck rfl rfl | exact ls_shlB e1 rfl rfl (by decide) rfl | exact ls_xorB e2 rfl rfl rfl | exact ls_shrB e3 rfl rfl (by decide) rfl | exact ls_xorB e4 rfl rfl rfl | exact ls_shlB e5 rfl rfl (by decide) rfl | exact ls_xorB e6 rfl rfl rfl | exact lsq) | refine a_seq ?_ | refine a_region ?_ | refine o_nil ?_ | refine a_block ?_ | refine a_ret ?_ | refine a_exit ?_ | refine a_skip ?_ | refine a_draw mixed ?_ | refine d_nil (by kernel_rfl) ?_ | refine o_yes rfl rfl rfl ?_ | refine o_no rfl rfl rfl (by decide) ?_ | refine o_no' rfl rfl rfl ?_ | refine a_condT rfl ?_ | refine a_condF rfl ?_ | refine d_no rfl rfl rfl (by decide) ?_ | refine d_no' rfl rfl rfl ?_ | (refine wq2 (fun hb => ?_) (fun hb => ?_) <;> (simp only [hb]; try simp only [hbs, ne_eq] at hb; try (exfalso; first | omega | exact hb trivial))) | fail)
 refine rq rfl ?_
 exact fnq
theorem conv_u (n : Nat) (h : n < 18446744073709551616) : IntKind.u64.wrap (n : Int) = (n : Int) := by rw [IntKind.wrap_u64]; omega
theorem conv_i (n : Nat) (h : n < 9223372036854775808) : IntKind.i64.wrap (n : Int) = (n : Int) := IntWalk.i64_in _ (by omega)
theorem p_pow2 (n : Nat) (h0 : n ≠ 0) (hn : n ≤ 1000) : PC Tryd.prog 47 [.v (.int .i64 n)] (.v (.int .u64 (2 ^ Lib.bitLen n : Nat))) := by
 obtain ⟨h1, h2, h3⟩ := bl_ok ⟨n, by omega⟩ h0
 dsimp only at h1 h2 h3
 have e1 := conv_u n (by omega)
 have hL := p_Len n (by omega)
 have e2 := shl_u 1 (Lib.bitLen n) (2 ^ Lib.bitLen n) (by omega) rfl
 rw [Nat.one_mul, Nat.mod_eq_of_lt (show 2 ^ Lib.bitLen n < 18446744073709551616 by omega)] at e2
 generalize 2 ^ Lib.bitLen n = m at *
 generalize Lib.bitLen n = L at *
 have hL0 : (0 : Int) ≤ (L : Int) := by omega
 refine PC.mk (ac_body tab_ok Tryd.func47 rfl (by kernel_rfl) rfl ?_); intro w0 M μ0; simp only [Tryd.ntmps47, List.length_cons, List.length_nil, Nat.reduceAdd, Nat.reduceSub, numb]
 repeat' (first | ((first | apply o_do | apply d_do | apply d_yes rfl rfl rfl); first | exact ls_convB tab_ok e1 rfl Tryd.underlying3 Tryd.underlying58 rfl | exact lsc (hL) | exact ls_shlB e2 rfl rfl hL0 rfl | exact lsq) | refine a_seq ?_ | refine a_region ?_ | refine o_nil ?_ | refine a_block ?_ | refine a_ret ?_ | refine a_exit ?_ | refine a_skip ?_ | refine a_draw mixed ?_ | refine d_nil (by kernel_rfl) ?_ | refine o_yes rfl rfl rfl ?_ | refine o_no rfl rfl rfl (by decide) ?_ | refine o_no' rfl rfl rfl ?_ | refine a_condT rfl ?_ | refine a_condF rfl ?_ | refine d_no rfl rfl rfl (by decide) ?_ | refine d_no' rfl rfl rfl ?_ | (refine wq2 (fun hb => ?_) (fun hb => ?_) <;> (simp only [hb]; try simp only [hbs, ne_eq] at hb; try (exfalso; first | omega | exact hb trivial))) | fail)
 refine rq rfl ?_
 exact fnq
def brkK (l : List Nat) (a b : Nat) : Nat → List Nat
 | 0 => l
 | k + 1 => swp 0 (brkK l a b k) (a + (b - a) / 4 * 2 - 1 + k) (rndI rnd a b k)
theorem brk_eq {l : List Nat} {a b : Nat} (h : 8 ≤ b - a) : brk rnd l a b = brkK l a b 3 := by
 unfold brk
 rw [if_pos h]
 simp only [brkK]
 rw [show a + (b - a) / 4 * 2 - 1 + 0 = a + (b - a) / 4 * 2 - 1 by omega, show a + (b - a) / 4 * 2 - 1 + 1 = a + (b - a) / 4 * 2 by omega, show a + (b - a) / 4 * 2 - 1 + 2 = a + (b - a) / 4 * 2 + 1 by omega]
theorem brkK_len {l : List Nat} {a b : Nat} : ∀ k, (brkK l a b k).length = l.length
 | 0 => rfl
 | k + 1 => by simp only [brkK]; rw [swp_len, brkK_len k]
set_option maxRecDepth 10000 in
theorem a_brkP (l : List Nat) (a b : Nat) (hab : a + 12 < b) (hb : b ≤ l.length) (hm : l.length ≤ 1000) : AC Tryd.prog 33 [.own 0 l.length, .v (.int .i64 a), .v (.int .i64 b)] (NS l) (.tup []) (NS (brk rnd l a b)) := by
 rw [brk_eq (by omega)]
 unfold NS
 obtain ⟨n, hn⟩ : ∃ n, n = b - a := ⟨_, rfl⟩
 have hnI : (b : Int) - a = (n : Int) := by omega
 obtain ⟨q, hq⟩ : ∃ q, q = n / 4 := ⟨_, rfl⟩
 have hq4 : ((b : Int) - a).tdiv 4 = (q : Int) := by rw [hnI, hq]; rfl
 have hq5 : (n : Int).tdiv 4 = (q : Int) := by rw [hq]; rfl
 have e1 : IntKind.u64.wrap ((b : Int) - a) = (n : Int) := by rw [hnI]; exact conv_u n (by omega)
 have hP := p_pow2 n (by omega) (by omega)
 obtain ⟨g1, g2, g3⟩ := bl_ok ⟨n, by omega⟩ (show n ≠ 0 by omega)
 dsimp only at g1 g2 g3
 have hm1 : IntKind.u64.wrap (((2 ^ Lib.bitLen n : Nat) : Int) - 1) = ((2 ^ Lib.bitLen n - 1 : Nat) : Int) := by
  rw [← conv_u (2 ^ Lib.bitLen n - 1) (by omega)]; congr 1; omega
 have hlw := brkK_len (l := l) (a := a) (b := b) 3
 rw [← hnI] at hP
 refine (ac_body tab_ok Tryd.func33 rfl (by kernel_rfl) rfl ?_); intro w0 M μ0; simp only [Tryd.ntmps33, List.length_cons, List.length_nil, Nat.reduceAdd, Nat.reduceSub, numb]
 repeat' (first | ((first | apply o_do | apply d_do | apply d_yes rfl rfl rfl); first | exact ls_convB tab_ok e1 rfl Tryd.underlying3 Tryd.underlying75 rfl | exact lsc (hP) | exact ls_quo64 hq4 rfl rfl (by decide) (by omega) rfl | exact ls_mul64 rfl rfl (by omega) rfl | exact lsq) | refine a_seq ?_ | refine a_region ?_ | refine o_nil ?_ | refine a_block ?_ | refine a_ret ?_ | refine a_exit ?_ | refine a_skip ?_ | refine a_draw mixed ?_ | refine d_nil (by kernel_rfl) ?_ | refine o_yes rfl rfl rfl ?_ | refine o_no rfl rfl rfl (by decide) ?_ | refine o_no' rfl rfl rfl ?_ | refine a_condT rfl ?_ | refine a_condF rfl ?_ | refine d_no rfl rfl rfl (by decide) ?_ | refine d_no' rfl rfl rfl ?_ | (refine wq2 (fun hb => ?_) (fun hb => ?_) <;> (simp only [hb]; try simp only [hbs, ne_eq] at hb; try (exfalso; first | omega | exact hb trivial))) | fail)
 refine a_loop (X := {k : Nat // k ≤ 3})
  (fun k => ⟨[(0, .own 0 l.length), (1, .v (.int .i64 a)), (2, .v (.int .i64 b)), (6, .v (.int .i64 n)), (7, .ref 1 0), (8, .v (.int .u64 (2 ^ Lib.bitLen n : Nat))), (9, .v (.int .i64 ((a : Int) + (q : Int) * 2 - 1 + k.1)))], [(0, .row 46 1 ((brkK l a b k.1).map uv)), (1, .box 75 [.v (.int .u64 (rdr n k.1))])]⟩) (fun k => 3 - k.1) ⟨0, by omega⟩ ?_ ?_
 ·refine ⟨by repeat' (first | exact trivial | exact FinA.one (FinB.cell (FinC.same rfl)) | exact FinA.one (FinB.cell FinC.nil) | exact FinA.bound rfl | exact FinA.one (FinB.cell (FinC.own rfl rfl rfl rfl)) | exact FinA.one (FinB.cell (FinC.v (by first | rfl | (((try dsimp only); first | (congr 1 <;> omega) | (simp only [brkK, rdr]; rfl)))))) | exact FinA.one (FinB.cell (FinC.ow rfl (by first | rfl | (((try dsimp only); first | (congr 1 <;> omega) | (simp only [brkK, rdr]; rfl)))))) | exact FinA.one (FinB.agg' rfl rfl) | refine ⟨⟨_, rfl, ?_⟩, ?_⟩), by repeat' (first | exact trivial | refine ⟨⟨_, rfl, by first | rfl | (((try dsimp only); first | (congr 1 <;> omega) | (simp only [brkK, rdr]; rfl)); done) | (simp [renO, *]; done)⟩, by first | rfl | assumption, ?_⟩), rfl⟩
 rintro ⟨k, hk⟩
 dsimp only
 have hdl := brkK_len (l := l) (a := a) (b := b) k
 by_cases hk3 : k < 3
 ·have hN := a_next (rdr n k) (rdr_lt (by omega) k)
  have hx := rdr_lt (n := n) (by omega) (k + 1)
  change AC _ _ _ _ (.v (.int .u64 ((rdr n (k + 1) : Nat) : Int))) [(0, .box _ [.v (.int .u64 ((rdr n (k + 1) : Nat) : Int))])] at hN
  have eA := and_u (rdr n (k + 1)) (Lib.bitLen n) hx (by omega)
  have hyl : rdr n (k + 1) % 2 ^ Lib.bitLen n < 2 ^ Lib.bitLen n := Nat.mod_lt _ (Nat.two_pow_pos _)
  have eC := conv_i (rdr n (k + 1) % 2 ^ Lib.bitLen n) (by omega)
  have hR := rnd_lt n k (by omega)
  have hRd : (n ≤ rdr n (k + 1) % 2 ^ Lib.bitLen n ∧ rnd n k = rdr n (k + 1) % 2 ^ Lib.bitLen n - n) ∨ (¬ n ≤ rdr n (k + 1) % 2 ^ Lib.bitLen n ∧ rnd n k = rdr n (k + 1) % 2 ^ Lib.bitLen n) := by
   unfold rnd
   rw [if_pos (show n ≤ 1000 by omega)]
   by_cases h : n ≤ rdr n (k + 1) % 2 ^ Lib.bitLen n
   ·exact .inl ⟨h, if_pos h⟩
   ·exact .inr ⟨h, if_neg h⟩
  have hI : rndI rnd a b k = a + rnd n k := by unfold rndI; rw [hn]
  obtain ⟨x, z, y, hx', hz', h1, h2, q1, q2, h6, h5, q3, h8, hsl, hdm⟩ := sw_facts (brkK l a b k) (a + q * 2 - 1 + k) (a + rnd n k) l.length (by omega) (by omega) hdl
  have hnext : brkK l a b (k + 1) = swp 0 (brkK l a b k) (a + q * 2 - 1 + k) (a + rnd n k) := by simp only [brkK]; rw [hI, ← hn, ← hq]
  rw [← hnext] at h8
  have px := pureU x
  have pz := pureU z
  have k1 : (a : Int) + (q : Int) * 2 - 1 + (k : Int) = ((a + q * 2 - 1 + k : Nat) : Int) := by omega
  have hk3' : (k : Int) < 3 := by omega
  generalize rdr n (k + 1) % 2 ^ Lib.bitLen n = o at *
  generalize 2 ^ Lib.bitLen n = m at *
  generalize hB2 : brkK l a b (k + 1) = B2 at *
  generalize hr1 : rdr n (k + 1) = r1 at *
  generalize rdr n k = r0 at *
  generalize rnd n k = R at *
  rcases hRd with ⟨c1, c2⟩ | ⟨c1, c2⟩
  ·have k2 : (a : Int) + ((o : Int) - n) = ((a + R : Nat) : Int) := by omega
   repeat' (first | ((first | apply o_do | apply d_do | apply d_yes rfl rfl rfl); first | exact ls_quo64 hq5 rfl rfl (by decide) (by omega) rfl | exact ls_mul64 rfl rfl (by omega) rfl | exact lca [1] 5 hN | exact ls_subB hm1 rfl rfl rfl | exact ls_andB eA rfl rfl rfl | exact ls_convB tab_ok eC rfl Tryd.underlying58 Tryd.underlying3 rfl | exact ls_indexAddr_own tab_ok rfl rfl hdm rfl rfl k2 q2 rfl | exact ls_indexAddr_own tab_ok rfl rfl hdm rfl rfl k1 q1 rfl | exact ls_load_eref tab_ok rfl rfl hdm h2 rfl rfl rfl rfl | exact ls_load_eref tab_ok rfl rfl hdm h1 rfl rfl rfl rfl | exact ls_store_eref (cs' := uv z) tab_ok rfl rfl rfl hdm h1 rfl rfl pz rfl rfl rfl rfl | exact ls_indexAddr_own tab_ok rfl rfl h5 rfl rfl k2 q3 rfl | exact ls_store_eref (cs' := uv x) tab_ok rfl rfl rfl h5 h6 rfl rfl px rfl rfl rfl rfl | exact lsq) | refine a_seq ?_ | refine a_region ?_ | refine o_nil ?_ | refine a_block ?_ | refine a_ret ?_ | refine a_exit ?_ | refine a_skip ?_ | refine a_draw mixed ?_ | refine d_nil (by kernel_rfl) ?_ | refine o_yes rfl rfl rfl ?_ | refine o_no rfl rfl rfl (by decide) ?_ | refine o_no' rfl rfl rfl ?_ | refine a_condT rfl ?_ | refine a_condF rfl ?_ | refine d_no rfl rfl rfl (by decide) ?_ | refine d_no' rfl rfl rfl ?_ | (refine wq2 (fun hb => ?_) (fun hb => ?_) <;> (simp only [hb]; try simp only [hbs, ne_eq] at hb; try (exfalso; first | omega | exact hb trivial))) | fail)
   refine ⟨⟨k + 1, by omega⟩, by dsimp only; omega, ?_⟩
   refine ⟨by repeat' (first | exact trivial | exact FinA.one (FinB.cell (FinC.same rfl)) | exact FinA.one (FinB.cell FinC.nil) | exact FinA.bound rfl | exact FinA.one (FinB.cell (FinC.own rfl rfl rfl rfl)) | exact FinA.one (FinB.cell (FinC.v (by first | rfl | (((try dsimp only); first | (rw [h8, hB2]; done) | (rw [hr1]; rfl) | (congr 1 <;> omega)))))) | exact FinA.one (FinB.cell (FinC.ow rfl (by first | rfl | (((try dsimp only); first | (rw [h8, hB2]; done) | (rw [hr1]; rfl) | (congr 1 <;> omega)))))) | exact FinA.one (FinB.agg' rfl rfl) | refine ⟨⟨_, rfl, ?_⟩, ?_⟩), by repeat' (first | exact trivial | refine ⟨⟨_, rfl, by first | rfl | (((try dsimp only); first | (rw [h8, hB2]; done) | (rw [hr1]; rfl) | (congr 1 <;> omega)); done) | (simp [renO, *]; done)⟩, by first | rfl | assumption, ?_⟩), rfl⟩
  ·have k2 : (a : Int) + (o : Int) = ((a + R : Nat) : Int) := by omega
   repeat' (first | ((first | apply o_do | apply d_do | apply d_yes rfl rfl rfl); first | exact ls_quo64 hq5 rfl rfl (by decide) (by omega) rfl | exact ls_mul64 rfl rfl (by omega) rfl | exact lca [1] 5 hN | exact ls_subB hm1 rfl rfl rfl | exact ls_andB eA rfl rfl rfl | exact ls_convB tab_ok eC rfl Tryd.underlying58 Tryd.underlying3 rfl | exact ls_indexAddr_own tab_ok rfl rfl hdm rfl rfl k2 q2 rfl | exact ls_indexAddr_own tab_ok rfl rfl hdm rfl rfl k1 q1 rfl | exact ls_load_eref tab_ok rfl rfl hdm h2 rfl rfl rfl rfl | exact ls_load_eref tab_ok rfl rfl hdm h1 rfl rfl rfl rfl | exact ls_store_eref (cs' := uv z) tab_ok rfl rfl rfl hdm h1 rfl rfl pz rfl rfl rfl rfl | exact ls_indexAddr_own tab_ok rfl rfl h5 rfl rfl k2 q3 rfl | exact ls_store_eref (cs' := uv x) tab_ok rfl rfl rfl h5 h6 rfl rfl px rfl rfl rfl rfl | exact lsq) | refine a_seq ?_ | refine a_region ?_ | refine o_nil ?_ | refine a_block ?_ | refine a_ret ?_ | refine a_exit ?_ | refine a_skip ?_ | refine a_draw mixed ?_ | refine d_nil (by kernel_rfl) ?_ | refine o_yes rfl rfl rfl ?_ | refine o_no rfl rfl rfl (by decide) ?_ | refine o_no' rfl rfl rfl ?_ | refine a_condT rfl ?_ | refine a_condF rfl ?_ | refine d_no rfl rfl rfl (by decide) ?_ | refine d_no' rfl rfl rfl ?_ | (refine wq2 (fun hb => ?_) (fun hb => ?_) <;> (simp only [hb]; try simp only [hbs, ne_eq] at hb; try (exfalso; first | omega | exact hb trivial))) | fail)
   refine ⟨⟨k + 1, by omega⟩, by dsimp only; omega, ?_⟩
   refine ⟨by repeat' (first | exact trivial | exact FinA.one (FinB.cell (FinC.same rfl)) | exact FinA.one (FinB.cell FinC.nil) | exact FinA.bound rfl | exact FinA.one (FinB.cell (FinC.own rfl rfl rfl rfl)) | exact FinA.one (FinB.cell (FinC.v (by first | rfl | (((try dsimp only); first | (rw [h8, hB2]; done) | (rw [hr1]; rfl) | (congr 1 <;> omega)))))) | exact FinA.one (FinB.cell (FinC.ow rfl (by first | rfl | (((try dsimp only); first | (rw [h8, hB2]; done) | (rw [hr1]; rfl) | (congr 1 <;> omega)))))) | exact FinA.one (FinB.agg' rfl rfl) | refine ⟨⟨_, rfl, ?_⟩, ?_⟩), by repeat' (first | exact trivial | refine ⟨⟨_, rfl, by first | rfl | (((try dsimp only); first | (rw [h8, hB2]; done) | (rw [hr1]; rfl) | (congr 1 <;> omega)); done) | (simp [renO, *]; done)⟩, by first | rfl | assumption, ?_⟩), rfl⟩
 ·obtain rfl : k = 3 := by omega
  generalize brkK l a b 3 = B3 at *
  generalize rdr n 3 = r3 at *
  generalize 2 ^ Lib.bitLen n = m at *
  repeat' (first | ((first | apply o_do | apply d_do | apply d_yes rfl rfl rfl); first | exact ls_quo64 hq5 rfl rfl (by decide) (by omega) rfl | exact ls_mul64 rfl rfl (by omega) rfl | exact lsq) | refine a_seq ?_ | refine a_region ?_ | refine o_nil ?_ | refine a_block ?_ | refine a_ret ?_ | refine a_exit ?_ | refine a_skip ?_ | refine a_draw mixed ?_ | refine d_nil (by kernel_rfl) ?_ | refine o_yes rfl rfl rfl ?_ | refine o_no rfl rfl rfl (by decide) ?_ | refine o_no' rfl rfl rfl ?_ | refine a_condT rfl ?_ | refine a_condF rfl ?_ | refine d_no rfl rfl rfl (by decide) ?_ | refine d_no' rfl rfl rfl ?_ | (refine wq2 (fun hb => ?_) (fun hb => ?_) <;> (simp only [hb]; try simp only [hbs, ne_eq] at hb; try (exfalso; first | omega | exact hb trivial))) | fail)
  refine rq rfl ?_
  exact fnq
end Go.Proofs.YtcfidmdkioccdaaDoor
