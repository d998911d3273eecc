/-
  slices.Sort at uint32, walked over abstract values: the heap, and a row reversed.
  slices.Sort at uint32, walked over abstract values: the pivot that is chosen.
-/
import Derived.Test.YtcfidmdkioccdaaDoorS4
import Derived.Test.YtcfidmdkioccdaaDoorS5
set_option linter.unusedSimpArgs false
set_option linter.unusedVariables false
set_option maxHeartbeats 20000000
namespace Go.Proofs.YtcfidmdkioccdaaDoor
open Go.RowKit
theorem sw_facts (d : List Nat) (i j n : Nat) (hi : i < d.length) (hj : j < d.length) (hn : d.length = n) : ∃ x z y, d.getD i 0 = x ∧ d.getD j 0 = z ∧ (d.map uv)[i]? = some (uv x) ∧ (d.map uv)[j]? = some (uv z) ∧ i < (d.map uv).length ∧ j < (d.map uv).length ∧
  ((d.map uv).set i (uv z))[j]? = some (uv y) ∧ n = ((d.map uv).set i (uv z)).length ∧ j < ((d.map uv).set i (uv z)).length ∧ ((d.map uv).set i (uv z)).set j (uv x) = (swp 0 d i j).map uv ∧ (swp 0 d i j).length = n ∧ n = (d.map uv).length := by
 obtain ⟨y, hy⟩ := uv_set (l := d) (i := i) (j := j) (x := d.getD j 0) hj
 exact ⟨_, _, y, rfl, rfl, uv_at hi, uv_at hj, by simpa using hi, by simpa using hj, hy, by simp [hn], by simpa using hj, swp_uv i j, by rw [swp_len, hn], by simp [hn]⟩
set_option maxRecDepth 10000 in
theorem a_sift (l : List Nat) (u i n f : Nat) (hb : f + n ≤ l.length) (hm : l.length ≤ 1000) (hi : i ≤ 1000) (hu : n ≤ i + u) : AC Tryd.prog 46 [.own 0 l.length, .v (.int .i64 i), .v (.int .i64 n), .v (.int .i64 f)] (NS l) (.tup []) (NS (sift u l i n f)) := by
 unfold NS
 obtain ⟨R, hR⟩ : ∃ R, R = sift u l i n f := ⟨_, rfl⟩
 rw [← hR]
 have hw : R.length = l.length := by rw [hR]; exact (sift_sw (f := f) (n := n) u l i).len
 refine (ac_body tab_ok Tryd.func46 rfl (by kernel_rfl) rfl ?_); intro w0 M μ0; simp only [Tryd.ntmps46, List.length_cons, List.length_nil, Nat.reduceAdd, Nat.reduceSub, numb]
 repeat' (first | ((first | apply o_do | apply d_do | apply d_yes rfl rfl rfl); exact lsq) | refine a_seq ?_ | refine a_region ?_ | refine o_nil ?_ | refine a_block ?_ | refine a_ret ?_ | refine a_exit ?_ | refine a_skip ?_ | refine a_draw mixed ?_ | refine d_nil (by kernel_rfl) ?_ | refine o_yes rfl rfl rfl ?_ | refine o_no rfl rfl rfl (by decide) ?_ | refine o_no' rfl rfl rfl ?_ | refine a_condT rfl ?_ | refine a_condF rfl ?_ | refine d_no rfl rfl rfl (by decide) ?_ | refine d_no' rfl rfl rfl ?_ | (refine wq2 (fun hb => ?_) (fun hb => ?_) <;> (simp only [hb]; try simp only [hbs, ne_eq] at hb; try (exfalso; first | omega | exact hb trivial))) | fail)
 refine a_loop (X := {p : Nat × List Nat × Nat // R = sift p.1 p.2.1 p.2.2 n f ∧ p.2.1.length = l.length ∧ n ≤ p.2.2 + p.1 ∧ p.2.2 ≤ 1000})
  (fun p => ⟨[(0, .own 0 l.length), (1, .v (.int .i64 i)), (2, .v (.int .i64 n)), (3, .v (.int .i64 f)), (8, .v (.int .i64 p.1.2.2))], [(0, .row 46 1 (p.1.2.1.map uv))]⟩) (fun p => n - p.1.2.2) ⟨(u, l, i), hR, rfl, hu, hi⟩ ?_ ?_
 ·refine ⟨by repeat' (first | exact trivial | exact FinA.one (FinB.cell (FinC.same rfl)) | exact FinA.one (FinB.cell FinC.nil) | exact FinA.bound rfl | exact FinA.one (FinB.cell (FinC.own rfl rfl rfl rfl)) | exact FinA.one (FinB.cell (FinC.v (by first | rfl | (((try dsimp only); first | omega | (rw [h8]; done) | (congr 1 <;> omega)))))) | exact FinA.one (FinB.cell (FinC.ow rfl (by first | rfl | (((try dsimp only); first | omega | (rw [h8]; done) | (congr 1 <;> omega)))))) | exact FinA.one (FinB.agg' rfl rfl) | refine ⟨⟨_, rfl, ?_⟩, ?_⟩), by repeat' (first | exact trivial | refine ⟨⟨_, rfl, by first | rfl | (((try dsimp only); first | omega | (rw [h8]; done) | (congr 1 <;> omega)); done) | (simp [renO, *]; done)⟩, by first | rfl | assumption, ?_⟩), rfl⟩
 rintro ⟨⟨g, c, k⟩, hc, hcl, hg, hk⟩
 dsimp only at hc hcl hg hk ⊢
 have hcm : l.length = (c.map uv).length := by simp [hcl]
 by_cases e1 : n ≤ 2 * k + 1
 ·have hc2 : R = c := by
   rw [hc]
   cases g with
   | zero => rfl
   | succ g => simp only [sift]; rw [if_pos e1]
  subst hc2
  repeat' (first | ((first | apply o_do | apply d_do | apply d_yes rfl rfl rfl); first | exact ls_mul64 rfl rfl (by omega) rfl | exact lsq) | refine a_seq ?_ | refine a_region ?_ | refine o_nil ?_ | refine a_block ?_ | refine a_ret ?_ | refine a_exit ?_ | refine a_skip ?_ | refine a_draw mixed ?_ | refine d_nil (by kernel_rfl) ?_ | refine o_yes rfl rfl rfl ?_ | refine o_no rfl rfl rfl (by decide) ?_ | refine o_no' rfl rfl rfl ?_ | refine a_condT rfl ?_ | refine a_condF rfl ?_ | refine d_no rfl rfl rfl (by decide) ?_ | refine d_no' rfl rfl rfl ?_ | (refine wq2 (fun hb => ?_) (fun hb => ?_) <;> (simp only [hb]; try simp only [hbs, ne_eq] at hb; try (exfalso; first | omega | exact hb trivial))) | fail)
  refine rq rfl ?_
  exact fnq
 obtain ⟨g', rfl⟩ : ∃ g', g = g' + 1 := ⟨g - 1, by omega⟩
 simp only [sift] at hc
 rw [if_neg e1] at hc
 have key : ∃ (j : Nat) (J : Int), (j : Int) = J ∧ skid c k n f = j ∧ k < j ∧ j < n ∧
   ((2 * k + 2 < n ∧ c.getD (f + (2 * k + 1)) 0 < c.getD (f + (2 * k + 2)) 0 ∧ J = 2 * (k : Int) + 1 + 1) ∨ (¬ (2 * k + 2 < n ∧ c.getD (f + (2 * k + 1)) 0 < c.getD (f + (2 * k + 2)) 0) ∧ J = 2 * (k : Int) + 1)) := by
  by_cases h : 2 * k + 2 < n ∧ c.getD (f + (2 * k + 1)) 0 < c.getD (f + (2 * k + 2)) 0
  ·exact ⟨2 * k + 2, _, by omega, by unfold skid; rw [if_pos h], by omega, h.1, .inl ⟨h.1, h.2, rfl⟩⟩
  ·exact ⟨2 * k + 1, _, by omega, by unfold skid; rw [if_neg h], by omega, by omega, .inr ⟨h, rfl⟩⟩
 obtain ⟨j, J, hJ, hj, hkj, hjn, hway⟩ := key
 rw [hj] at hc
 obtain ⟨x, z, y, hx, hz, h1, h2, q1, q2, h6, h5, q3, h8, hsl, hdm⟩ := sw_facts c (f + k) (f + j) l.length (by omega) (by omega) hcl
 rw [hx, hz] at hc
 have hL2 := p_Less x z
 have px := pureU x
 have pz := pureU z
 have k1 : (f : Int) + (k : Int) = ((f + k : Nat) : Int) := by omega
 have k2 : (f : Int) + J = ((f + j : Nat) : Int) := by omega
 have k3 : (f : Int) + (2 * (k : Int) + 1) = ((f + (2 * k + 1) : Nat) : Int) := by omega
 have fin1 : ¬ x < z → R = c := fun h => by rw [hc, if_neg h]
 have fin2 : x < z → R = sift g' (swp 0 c (f + k) (f + j)) j n f := fun h => by rw [hc, if_pos h]
 have q4 : f + (2 * k + 1) < (c.map uv).length := by simp; omega
 have h3 := uv_at (l := c) (i := f + (2 * k + 1)) (by omega)
 have hlim : (2 : Int) * k ≤ 2000 := by omega
 clear hc
 generalize swp 0 c (f + k) (f + j) = D at *
 rcases hway with ⟨h7, h9, hJ2⟩ | ⟨h7, hJ2⟩
 ·obtain rfl : j = 2 * k + 2 := by omega
  rw [hz] at h9
  have k4 : (f : Int) + (2 * (k : Int) + 1) + 1 = ((f + (2 * k + 2) : Nat) : Int) := by omega
  generalize c.getD (f + (2 * k + 1)) 0 = x1 at *
  have hL1 := p_Less x1 z
  rw [decide_eq_true h9] at hL1
  subst hJ2
  by_cases e2 : x < z
  ·rw [decide_eq_true e2] at hL2
   have f2 := fin2 e2
   repeat' (first | ((first | apply o_do | apply d_do | apply d_yes rfl rfl rfl); first | exact ls_mul64 rfl rfl (by omega) rfl | exact ls_indexAddr_own tab_ok rfl rfl hdm rfl rfl k4 q2 rfl | exact ls_indexAddr_own tab_ok rfl rfl hdm rfl rfl k3 q4 rfl | exact ls_indexAddr_own tab_ok rfl rfl hdm rfl rfl k2 q2 rfl | exact ls_indexAddr_own tab_ok rfl rfl hdm rfl rfl k1 q1 rfl | exact ls_load_eref tab_ok rfl rfl hdm h3 rfl rfl rfl rfl | exact ls_load_eref tab_ok rfl rfl hdm h2 rfl rfl rfl rfl | exact ls_load_eref tab_ok rfl rfl hdm h1 rfl rfl rfl rfl | exact lsc (hL1) | exact lsc (hL2) | exact ls_store_eref (cs' := uv z) tab_ok rfl rfl rfl hdm h1 rfl rfl pz rfl rfl rfl rfl | exact ls_indexAddr_own tab_ok rfl rfl h5 rfl rfl k2 q3 rfl | exact ls_store_eref (cs' := uv x) tab_ok rfl rfl rfl h5 h6 rfl rfl px rfl rfl rfl rfl | exact lsq) | refine a_seq ?_ | refine a_region ?_ | refine o_nil ?_ | refine a_block ?_ | refine a_ret ?_ | refine a_exit ?_ | refine a_skip ?_ | refine a_draw mixed ?_ | refine d_nil (by kernel_rfl) ?_ | refine o_yes rfl rfl rfl ?_ | refine o_no rfl rfl rfl (by decide) ?_ | refine o_no' rfl rfl rfl ?_ | refine a_condT rfl ?_ | refine a_condF rfl ?_ | refine d_no rfl rfl rfl (by decide) ?_ | refine d_no' rfl rfl rfl ?_ | (refine wq2 (fun hb => ?_) (fun hb => ?_) <;> (simp only [hb]; try simp only [hbs, ne_eq] at hb; try (exfalso; first | omega | exact hb trivial))) | fail)
   refine ⟨⟨(g', D, 2 * k + 2), f2, hsl, by dsimp only; omega, by dsimp only; omega⟩, by dsimp only; omega, ?_⟩
   refine ⟨by repeat' (first | exact trivial | exact FinA.one (FinB.cell (FinC.same rfl)) | exact FinA.one (FinB.cell FinC.nil) | exact FinA.bound rfl | exact FinA.one (FinB.cell (FinC.own rfl rfl rfl rfl)) | exact FinA.one (FinB.cell (FinC.v (by first | rfl | (((try dsimp only); first | (rw [h8]; done) | (congr 1 <;> omega)))))) | exact FinA.one (FinB.cell (FinC.ow rfl (by first | rfl | (((try dsimp only); first | (rw [h8]; done) | (congr 1 <;> omega)))))) | exact FinA.one (FinB.agg' rfl rfl) | refine ⟨⟨_, rfl, ?_⟩, ?_⟩), by repeat' (first | exact trivial | refine ⟨⟨_, rfl, by first | rfl | (((try dsimp only); first | (rw [h8]; done) | (congr 1 <;> omega)); done) | (simp [renO, *]; done)⟩, by first | rfl | assumption, ?_⟩), rfl⟩
  ·rw [decide_eq_false e2] at hL2
   obtain rfl := fin1 e2
   repeat' (first | ((first | apply o_do | apply d_do | apply d_yes rfl rfl rfl); first | exact ls_mul64 rfl rfl (by omega) rfl | exact ls_indexAddr_own tab_ok rfl rfl hdm rfl rfl k4 q2 rfl | exact ls_indexAddr_own tab_ok rfl rfl hdm rfl rfl k3 q4 rfl | exact ls_indexAddr_own tab_ok rfl rfl hdm rfl rfl k2 q2 rfl | exact ls_indexAddr_own tab_ok rfl rfl hdm rfl rfl k1 q1 rfl | exact ls_load_eref tab_ok rfl rfl hdm h3 rfl rfl rfl rfl | exact ls_load_eref tab_ok rfl rfl hdm h2 rfl rfl rfl rfl | exact ls_load_eref tab_ok rfl rfl hdm h1 rfl rfl rfl rfl | exact lsc (hL1) | exact lsc (hL2) | exact lsq) | refine a_seq ?_ | refine a_region ?_ | refine o_nil ?_ | refine a_block ?_ | refine a_ret ?_ | refine a_exit ?_ | refine a_skip ?_ | refine a_draw mixed ?_ | refine d_nil (by kernel_rfl) ?_ | refine o_yes rfl rfl rfl ?_ | refine o_no rfl rfl rfl (by decide) ?_ | refine o_no' rfl rfl rfl ?_ | refine a_condT rfl ?_ | refine a_condF rfl ?_ | refine d_no rfl rfl rfl (by decide) ?_ | refine d_no' rfl rfl rfl ?_ | (refine wq2 (fun hb => ?_) (fun hb => ?_) <;> (simp only [hb]; try simp only [hbs, ne_eq] at hb; try (exfalso; first | omega | exact hb trivial))) | fail)
   refine rq rfl ?_
   exact fnq
 ·subst hJ2
  obtain rfl : j = 2 * k + 1 := by omega
  by_cases h10 : 2 * k + 2 < n
  ·have q5 : f + (2 * k + 2) < (c.map uv).length := by simp; omega
   have h4 := uv_at (l := c) (i := f + (2 * k + 2)) (by omega)
   have k4 : (f : Int) + (2 * (k : Int) + 1) + 1 = ((f + (2 * k + 2) : Nat) : Int) := by omega
   rw [hz] at h7
   generalize c.getD (f + (2 * k + 2)) 0 = x2 at *
   have hL1 := p_Less z x2
   rw [decide_eq_false (show ¬ z < x2 from fun h => h7 ⟨h10, h⟩)] at hL1
   by_cases e2 : x < z
   ·rw [decide_eq_true e2] at hL2
    have f2 := fin2 e2
    repeat' (first | ((first | apply o_do | apply d_do | apply d_yes rfl rfl rfl); first | exact ls_mul64 rfl rfl (by omega) rfl | exact ls_indexAddr_own tab_ok rfl rfl hdm rfl rfl k4 q5 rfl | exact ls_indexAddr_own tab_ok rfl rfl hdm rfl rfl k2 q2 rfl | exact ls_indexAddr_own tab_ok rfl rfl hdm rfl rfl k1 q1 rfl | exact ls_load_eref tab_ok rfl rfl hdm h4 rfl rfl rfl rfl | exact ls_load_eref tab_ok rfl rfl hdm h2 rfl rfl rfl rfl | exact ls_load_eref tab_ok rfl rfl hdm h1 rfl rfl rfl rfl | exact lsc (hL1) | exact lsc (hL2) | exact ls_store_eref (cs' := uv z) tab_ok rfl rfl rfl hdm h1 rfl rfl pz rfl rfl rfl rfl | exact ls_indexAddr_own tab_ok rfl rfl h5 rfl rfl k2 q3 rfl | exact ls_store_eref (cs' := uv x) tab_ok rfl rfl rfl h5 h6 rfl rfl px rfl rfl rfl rfl | exact lsq) | refine a_seq ?_ | refine a_region ?_ | refine o_nil ?_ | refine a_block ?_ | refine a_ret ?_ | refine a_exit ?_ | refine a_skip ?_ | refine a_draw mixed ?_ | refine d_nil (by kernel_rfl) ?_ | refine o_yes rfl rfl rfl ?_ | refine o_no rfl rfl rfl (by decide) ?_ | refine o_no' rfl rfl rfl ?_ | refine a_condT rfl ?_ | refine a_condF rfl ?_ | refine d_no rfl rfl rfl (by decide) ?_ | refine d_no' rfl rfl rfl ?_ | (refine wq2 (fun hb => ?_) (fun hb => ?_) <;> (simp only [hb]; try simp only [hbs, ne_eq] at hb; try (exfalso; first | omega | exact hb trivial))) | fail)
    refine ⟨⟨(g', D, 2 * k + 1), f2, hsl, by dsimp only; omega, by dsimp only; omega⟩, by dsimp only; omega, ?_⟩
    refine ⟨by repeat' (first | exact trivial | exact FinA.one (FinB.cell (FinC.same rfl)) | exact FinA.one (FinB.cell FinC.nil) | exact FinA.bound rfl | exact FinA.one (FinB.cell (FinC.own rfl rfl rfl rfl)) | exact FinA.one (FinB.cell (FinC.v (by first | rfl | (((try dsimp only); first | (rw [h8]; done) | (congr 1 <;> omega)))))) | exact FinA.one (FinB.cell (FinC.ow rfl (by first | rfl | (((try dsimp only); first | (rw [h8]; done) | (congr 1 <;> omega)))))) | exact FinA.one (FinB.agg' rfl rfl) | refine ⟨⟨_, rfl, ?_⟩, ?_⟩), by repeat' (first | exact trivial | refine ⟨⟨_, rfl, by first | rfl | (((try dsimp only); first | (rw [h8]; done) | (congr 1 <;> omega)); done) | (simp [renO, *]; done)⟩, by first | rfl | assumption, ?_⟩), rfl⟩
   ·rw [decide_eq_false e2] at hL2
    obtain rfl := fin1 e2
    repeat' (first | ((first | apply o_do | apply d_do | apply d_yes rfl rfl rfl); first | exact ls_mul64 rfl rfl (by omega) rfl | exact ls_indexAddr_own tab_ok rfl rfl hdm rfl rfl k4 q5 rfl | exact ls_indexAddr_own tab_ok rfl rfl hdm rfl rfl k2 q2 rfl | exact ls_indexAddr_own tab_ok rfl rfl hdm rfl rfl k1 q1 rfl | exact ls_load_eref tab_ok rfl rfl hdm h4 rfl rfl rfl rfl | exact ls_load_eref tab_ok rfl rfl hdm h2 rfl rfl rfl rfl | exact ls_load_eref tab_ok rfl rfl hdm h1 rfl rfl rfl rfl | exact lsc (hL1) | exact lsc (hL2) | exact lsq) | refine a_seq ?_ | refine a_region ?_ | refine o_nil ?_ | refine a_block ?_ | refine a_ret ?_ | refine a_exit ?_ | refine a_skip ?_ | refine a_draw mixed ?_ | refine d_nil (by kernel_rfl) ?_ | refine o_yes rfl rfl rfl ?_ | refine o_no rfl rfl rfl (by decide) ?_ | refine o_no' rfl rfl rfl ?_ | refine a_condT rfl ?_ | refine a_condF rfl ?_ | refine d_no rfl rfl rfl (by decide) ?_ | refine d_no' rfl rfl rfl ?_ | (refine wq2 (fun hb => ?_) (fun hb => ?_) <;> (simp only [hb]; try simp only [hbs, ne_eq] at hb; try (exfalso; first | omega | exact hb trivial))) | fail)
    refine rq rfl ?_
    exact fnq
  ·by_cases e2 : x < z
   ·rw [decide_eq_true e2] at hL2
    have f2 := fin2 e2
    repeat' (first | ((first | apply o_do | apply d_do | apply d_yes rfl rfl rfl); first | exact ls_mul64 rfl rfl (by omega) rfl | exact ls_indexAddr_own tab_ok rfl rfl hdm rfl rfl k2 q2 rfl | exact ls_indexAddr_own tab_ok rfl rfl hdm rfl rfl k1 q1 rfl | exact ls_load_eref tab_ok rfl rfl hdm h2 rfl rfl rfl rfl | exact ls_load_eref tab_ok rfl rfl hdm h1 rfl rfl rfl rfl | exact lsc (hL2) | exact ls_store_eref (cs' := uv z) tab_ok rfl rfl rfl hdm h1 rfl rfl pz rfl rfl rfl rfl | exact ls_indexAddr_own tab_ok rfl rfl h5 rfl rfl k2 q3 rfl | exact ls_store_eref (cs' := uv x) tab_ok rfl rfl rfl h5 h6 rfl rfl px rfl rfl rfl rfl | exact lsq) | refine a_seq ?_ | refine a_region ?_ | refine o_nil ?_ | refine a_block ?_ | refine a_ret ?_ | refine a_exit ?_ | refine a_skip ?_ | refine a_draw mixed ?_ | refine d_nil (by kernel_rfl) ?_ | refine o_yes rfl rfl rfl ?_ | refine o_no rfl rfl rfl (by decide) ?_ | refine o_no' rfl rfl rfl ?_ | refine a_condT rfl ?_ | refine a_condF rfl ?_ | refine d_no rfl rfl rfl (by decide) ?_ | refine d_no' rfl rfl rfl ?_ | (refine wq2 (fun hb => ?_) (fun hb => ?_) <;> (simp only [hb]; try simp only [hbs, ne_eq] at hb; try (exfalso; first | omega | exact hb trivial))) | fail)
    refine ⟨⟨(g', D, 2 * k + 1), f2, hsl, by dsimp only; omega, by dsimp only; omega⟩, by dsimp only; omega, ?_⟩
    refine ⟨by repeat' (first | exact trivial | exact FinA.one (FinB.cell (FinC.same rfl)) | exact FinA.one (FinB.cell FinC.nil) | exact FinA.bound rfl | exact FinA.one (FinB.cell (FinC.own rfl rfl rfl rfl)) | exact FinA.one (FinB.cell (FinC.v (by first | rfl | (((try dsimp only); first | (rw [h8]; done) | (congr 1 <;> omega)))))) | exact FinA.one (FinB.cell (FinC.ow rfl (by first | rfl | (((try dsimp only); first | (rw [h8]; done) | (congr 1 <;> omega)))))) | exact FinA.one (FinB.agg' rfl rfl) | refine ⟨⟨_, rfl, ?_⟩, ?_⟩), by repeat' (first | exact trivial | refine ⟨⟨_, rfl, by first | rfl | (((try dsimp only); first | (rw [h8]; done) | (congr 1 <;> omega)); done) | (simp [renO, *]; done)⟩, by first | rfl | assumption, ?_⟩), rfl⟩
   ·rw [decide_eq_false e2] at hL2
    obtain rfl := fin1 e2
    repeat' (first | ((first | apply o_do | apply d_do | apply d_yes rfl rfl rfl); first | exact ls_mul64 rfl rfl (by omega) rfl | exact ls_indexAddr_own tab_ok rfl rfl hdm rfl rfl k2 q2 rfl | exact ls_indexAddr_own tab_ok rfl rfl hdm rfl rfl k1 q1 rfl | exact ls_load_eref tab_ok rfl rfl hdm h2 rfl rfl rfl rfl | exact ls_load_eref tab_ok rfl rfl hdm h1 rfl rfl rfl rfl | exact lsc (hL2) | exact lsq) | refine a_seq ?_ | refine a_region ?_ | refine o_nil ?_ | refine a_block ?_ | refine a_ret ?_ | refine a_exit ?_ | refine a_skip ?_ | refine a_draw mixed ?_ | refine d_nil (by kernel_rfl) ?_ | refine o_yes rfl rfl rfl ?_ | refine o_no rfl rfl rfl (by decide) ?_ | refine o_no' rfl rfl rfl ?_ | refine a_condT rfl ?_ | refine a_condF rfl ?_ | refine d_no rfl rfl rfl (by decide) ?_ | refine d_no' rfl rfl rfl ?_ | (refine wq2 (fun hb => ?_) (fun hb => ?_) <;> (simp only [hb]; try simp only [hbs, ne_eq] at hb; try (exfalso; first | omega | exact hb trivial))) | fail)
    refine rq rfl ?_
    exact fnq
set_option maxRecDepth 10000 in
theorem a_rev (l : List Nat) (a b : Nat) (hab : a < b) (hb : b ≤ l.length) (hm : l.length ≤ 1000) : AC Tryd.prog 35 [.own 0 l.length, .v (.int .i64 a), .v (.int .i64 b)] (NS l) (.tup []) (NS (revL (b - a) l a (b - 1))) := by
 unfold NS
 obtain ⟨R, hR⟩ : ∃ R, R = revL (b - a) l a (b - 1) := ⟨_, rfl⟩
 rw [← hR]
 have hw : R.length = l.length := by rw [hR]; exact (revL_sw (a := a) (b := b) _ l a (b - 1) (Nat.le_refl _) (by omega)).len
 refine (ac_body tab_ok Tryd.func35 rfl (by kernel_rfl) rfl ?_); intro w0 M μ0; simp only [Tryd.ntmps35, List.length_cons, List.length_nil, Nat.reduceAdd, Nat.reduceSub, numb]
 repeat' (first | ((first | apply o_do | apply d_do | apply d_yes rfl rfl rfl); exact lsq) | refine a_seq ?_ | refine a_region ?_ | refine o_nil ?_ | refine a_block ?_ | refine a_ret ?_ | refine a_exit ?_ | refine a_skip ?_ | refine a_draw mixed ?_ | refine d_nil (by kernel_rfl) ?_ | refine o_yes rfl rfl rfl ?_ | refine o_no rfl rfl rfl (by decide) ?_ | refine o_no' rfl rfl rfl ?_ | refine a_condT rfl ?_ | refine a_condF rfl ?_ | refine d_no rfl rfl rfl (by decide) ?_ | refine d_no' rfl rfl rfl ?_ | (refine wq2 (fun hb => ?_) (fun hb => ?_) <;> (simp only [hb]; try simp only [hbs, ne_eq] at hb; try (exfalso; first | omega | exact hb trivial))) | fail)
 refine a_loop (X := {p : Nat × List Nat × Nat × Nat // R = revL p.1 p.2.1 p.2.2.1 p.2.2.2 ∧ p.2.1.length = l.length ∧ p.2.2.2 < b ∧ p.2.2.2 < p.2.2.1 + p.1 ∧ p.2.2.1 ≤ p.2.2.2 + 1})
  (fun p => ⟨[(0, .own 0 l.length), (1, .v (.int .i64 a)), (2, .v (.int .i64 b)), (6, .v (.int .i64 p.1.2.2.1)), (7, .v (.int .i64 p.1.2.2.2))], [(0, .row 46 1 (p.1.2.1.map uv))]⟩) (fun p => p.1.2.2.2 + 1 - p.1.2.2.1) ⟨(b - a, l, a, b - 1), hR, rfl, by dsimp only; omega, by dsimp only; omega, by dsimp only; omega⟩ ?_ ?_
 ·refine ⟨by repeat' (first | exact trivial | exact FinA.one (FinB.cell (FinC.same rfl)) | exact FinA.one (FinB.cell FinC.nil) | exact FinA.bound rfl | exact FinA.one (FinB.cell (FinC.own rfl rfl rfl rfl)) | exact FinA.one (FinB.cell (FinC.v (by first | rfl | (((try dsimp only); first | omega | (congr 1 <;> omega)))))) | exact FinA.one (FinB.cell (FinC.ow rfl (by first | rfl | (((try dsimp only); first | omega | (congr 1 <;> omega)))))) | exact FinA.one (FinB.agg' rfl rfl) | refine ⟨⟨_, rfl, ?_⟩, ?_⟩), by repeat' (first | exact trivial | refine ⟨⟨_, rfl, by first | rfl | (((try dsimp only); first | omega | (congr 1 <;> omega)); done) | (simp [renO, *]; done)⟩, by first | rfl | assumption, ?_⟩), rfl⟩
 rintro ⟨⟨g, c, i, j⟩, hc, hcl, hjb, hg, hij⟩
 dsimp only at hc hcl hjb hg hij ⊢
 by_cases e1 : i < j
 ·obtain ⟨g', rfl⟩ : ∃ g', g = g' + 1 := ⟨g - 1, by omega⟩
  simp only [revL] at hc
  rw [if_pos e1] at hc
  obtain ⟨x, z, y, hx, hz, h1, h2, q1, q2, h6, h5, q3, h8, hsl, hdm⟩ := sw_facts c i j l.length (by omega) (by omega) hcl
  have px := pureU x
  have pz := pureU z
  have e1' : (i : Int) < (j : Int) := by omega
  generalize swp 0 c i j = D at *
  repeat' (first | ((first | apply o_do | apply d_do | apply d_yes rfl rfl rfl); first | exact ls_indexAddr_own tab_ok rfl rfl hdm rfl rfl rfl q2 rfl | exact ls_indexAddr_own tab_ok rfl rfl hdm rfl rfl rfl q1 rfl | exact ls_load_eref tab_ok rfl rfl hdm h2 rfl rfl rfl rfl | exact ls_load_eref tab_ok rfl rfl hdm h1 rfl rfl rfl rfl | exact ls_store_eref (cs' := uv z) tab_ok rfl rfl rfl hdm h1 rfl rfl pz rfl rfl rfl rfl | exact ls_indexAddr_own tab_ok rfl rfl h5 rfl rfl rfl q3 rfl | exact ls_store_eref (cs' := uv x) tab_ok rfl rfl rfl h5 h6 rfl rfl px rfl rfl rfl rfl | exact lsq) | refine a_seq ?_ | refine a_region ?_ | refine o_nil ?_ | refine a_block ?_ | refine a_ret ?_ | refine a_exit ?_ | refine a_skip ?_ | refine a_draw mixed ?_ | refine d_nil (by kernel_rfl) ?_ | refine o_yes rfl rfl rfl ?_ | refine o_no rfl rfl rfl (by decide) ?_ | refine o_no' rfl rfl rfl ?_ | refine a_condT rfl ?_ | refine a_condF rfl ?_ | refine d_no rfl rfl rfl (by decide) ?_ | refine d_no' rfl rfl rfl ?_ | (refine wq2 (fun hb => ?_) (fun hb => ?_) <;> (simp only [hb]; try simp only [hbs, ne_eq] at hb; try (exfalso; first | omega | exact hb trivial))) | fail)
  refine ⟨⟨(g', D, i + 1, j - 1), hc, hsl, by dsimp only; omega, by dsimp only; omega, by dsimp only; omega⟩, by dsimp only; omega, ?_⟩
  refine ⟨by repeat' (first | exact trivial | exact FinA.one (FinB.cell (FinC.same rfl)) | exact FinA.one (FinB.cell FinC.nil) | exact FinA.bound rfl | exact FinA.one (FinB.cell (FinC.own rfl rfl rfl rfl)) | exact FinA.one (FinB.cell (FinC.v (by first | rfl | (((try dsimp only); first | (rw [h8]; done) | (congr 1 <;> omega)))))) | exact FinA.one (FinB.cell (FinC.ow rfl (by first | rfl | (((try dsimp only); first | (rw [h8]; done) | (congr 1 <;> omega)))))) | exact FinA.one (FinB.agg' rfl rfl) | refine ⟨⟨_, rfl, ?_⟩, ?_⟩), by repeat' (first | exact trivial | refine ⟨⟨_, rfl, by first | rfl | (((try dsimp only); first | (rw [h8]; done) | (congr 1 <;> omega)); done) | (simp [renO, *]; done)⟩, by first | rfl | assumption, ?_⟩), rfl⟩
 ·have hc2 : R = c := by
   rw [hc]
   cases g with
   | zero => rfl
   | succ g => simp only [revL]; rw [if_neg e1]
  subst hc2
  have e1' : ¬ (i : Int) < (j : Int) := by omega
  repeat' (first | ((first | apply o_do | apply d_do | apply d_yes rfl rfl rfl); exact lsq) | refine a_seq ?_ | refine a_region ?_ | refine o_nil ?_ | refine a_block ?_ | refine a_ret ?_ | refine a_exit ?_ | refine a_skip ?_ | refine a_draw mixed ?_ | refine d_nil (by kernel_rfl) ?_ | refine o_yes rfl rfl rfl ?_ | refine o_no rfl rfl rfl (by decide) ?_ | refine o_no' rfl rfl rfl ?_ | refine a_condT rfl ?_ | refine a_condF rfl ?_ | refine d_no rfl rfl rfl (by decide) ?_ | refine d_no' rfl rfl rfl ?_ | (refine wq2 (fun hb => ?_) (fun hb => ?_) <;> (simp only [hb]; try simp only [hbs, ne_eq] at hb; try (exfalso; first | omega | exact hb trivial))) | fail)
  refine rq rfl ?_
  exact fnq
set_option maxRecDepth 10000 in
theorem a_heap (l : List Nat) (a b : Nat) (hab : a < b) (hb : b ≤ l.length) (hm : l.length ≤ 1000) : AC Tryd.prog 32 [.own 0 l.length, .v (.int .i64 a), .v (.int .i64 b)] (NS l) (.tup []) (NS (heapS l a b)) := by
 unfold NS heapS
 obtain ⟨R, hR⟩ : ∃ R, R = hsP a (b - a) (hsB (b - a) a ((b - a - 1) / 2 + 1) l) := ⟨_, rfl⟩
 rw [← hR]
 have hw : R.length = l.length := by rw [hR]; exact (heapS_sw l (Nat.le_of_lt hab)).len
 obtain ⟨n, hn⟩ : ∃ n, n = b - a := ⟨_, rfl⟩
 rw [← hn] at hR
 have hq : ((b : Int) - a - 1).tdiv 2 = (((n - 1) / 2 : Nat) : Int) := by
  rw [show (b : Int) - a - 1 = ((n - 1 : Nat) : Int) by omega]; rfl
 refine (ac_body tab_ok Tryd.func32 rfl (by kernel_rfl) rfl ?_); intro w0 M μ0; simp only [Tryd.ntmps32, List.length_cons, List.length_nil, Nat.reduceAdd, Nat.reduceSub, numb]
 repeat' (first | ((first | apply o_do | apply d_do | apply d_yes rfl rfl rfl); first | exact ls_quo64 hq rfl rfl (by decide) (by omega) rfl | exact lsq) | refine a_seq ?_ | refine a_region ?_ | refine o_nil ?_ | refine a_block ?_ | refine a_ret ?_ | refine a_exit ?_ | refine a_skip ?_ | refine a_draw mixed ?_ | refine d_nil (by kernel_rfl) ?_ | refine o_yes rfl rfl rfl ?_ | refine o_no rfl rfl rfl (by decide) ?_ | refine o_no' rfl rfl rfl ?_ | refine a_condT rfl ?_ | refine a_condF rfl ?_ | refine d_no rfl rfl rfl (by decide) ?_ | refine d_no' rfl rfl rfl ?_ | (refine wq2 (fun hb => ?_) (fun hb => ?_) <;> (simp only [hb]; try simp only [hbs, ne_eq] at hb; try (exfalso; first | omega | exact hb trivial))) | fail)
 refine a_loop (X := {p : Nat × List Nat // R = hsP a n (hsB n a p.1 p.2) ∧ p.1 ≤ (n - 1) / 2 + 1 ∧ p.2.length = l.length})
  (fun p => ⟨[(0, .own 0 l.length), (1, .v (.int .i64 a)), (2, .v (.int .i64 b)), (6, .v (.int .i64 a)), (7, .v (.int .i64 0)), (8, .v (.int .i64 n)), (9, .v (.int .i64 ((p.1.1 : Int) - 1)))], [(0, .row 46 1 (p.1.2.map uv))]⟩) (fun p => p.1.1) ⟨((n - 1) / 2 + 1, l), hR, Nat.le_refl _, rfl⟩ ?_ ?_
 ·refine ⟨by repeat' (first | exact trivial | exact FinA.one (FinB.cell (FinC.same rfl)) | exact FinA.one (FinB.cell FinC.nil) | exact FinA.bound rfl | exact FinA.one (FinB.cell (FinC.own rfl rfl rfl rfl)) | exact FinA.one (FinB.cell (FinC.v (by first | rfl | (((try dsimp only); first | omega | (congr 1 <;> omega)))))) | exact FinA.one (FinB.cell (FinC.ow rfl (by first | rfl | (((try dsimp only); first | omega | (congr 1 <;> omega)))))) | exact FinA.one (FinB.agg' rfl rfl) | refine ⟨⟨_, rfl, ?_⟩, ?_⟩), by repeat' (first | exact trivial | refine ⟨⟨_, rfl, by first | rfl | (((try dsimp only); first | omega | (congr 1 <;> omega)); done) | (simp [renO, *]; done)⟩, by first | rfl | assumption, ?_⟩), rfl⟩
 rintro ⟨⟨k, c⟩, hc, hk, hl⟩
 dsimp only at hc hk hl ⊢
 cases k with
 | zero =>
  simp only [hsB] at hc
  repeat' (first | ((first | apply o_do | apply d_do | apply d_yes rfl rfl rfl); exact lsq) | refine a_seq ?_ | refine a_region ?_ | refine o_nil ?_ | refine a_block ?_ | refine a_ret ?_ | refine a_exit ?_ | refine a_skip ?_ | refine a_draw mixed ?_ | refine d_nil (by kernel_rfl) ?_ | refine o_yes rfl rfl rfl ?_ | refine o_no rfl rfl rfl (by decide) ?_ | refine o_no' rfl rfl rfl ?_ | refine a_condT rfl ?_ | refine a_condF rfl ?_ | refine d_no rfl rfl rfl (by decide) ?_ | refine d_no' rfl rfl rfl ?_ | (refine wq2 (fun hb => ?_) (fun hb => ?_) <;> (simp only [hb]; try simp only [hbs, ne_eq] at hb; try (exfalso; first | omega | exact hb trivial))) | fail)
  refine a_loop (X := {p : Nat × List Nat // R = hsP a p.1 p.2 ∧ p.1 ≤ n ∧ p.2.length = l.length})
   (fun p => ⟨[(0, .own 0 l.length), (1, .v (.int .i64 a)), (2, .v (.int .i64 b)), (6, .v (.int .i64 a)), (7, .v (.int .i64 0)), (8, .v (.int .i64 n)), (10, .v (.int .i64 ((p.1.1 : Int) - 1)))], [(0, .row 46 1 (p.1.2.map uv))]⟩) (fun p => p.1.1) ⟨(n, c), hc, Nat.le_refl _, hl⟩ ?_ ?_
  ·refine ⟨by repeat' (first | exact trivial | exact FinA.one (FinB.cell (FinC.same rfl)) | exact FinA.one (FinB.cell FinC.nil) | exact FinA.bound rfl | exact FinA.one (FinB.cell (FinC.own rfl rfl rfl rfl)) | exact FinA.one (FinB.cell (FinC.v (by first | rfl | (((try dsimp only); first | omega | (congr 1 <;> omega)))))) | exact FinA.one (FinB.cell (FinC.ow rfl (by first | rfl | (((try dsimp only); first | omega | (congr 1 <;> omega)))))) | exact FinA.one (FinB.agg' rfl rfl) | refine ⟨⟨_, rfl, ?_⟩, ?_⟩), by repeat' (first | exact trivial | refine ⟨⟨_, rfl, by first | rfl | (((try dsimp only); first | omega | (congr 1 <;> omega)); done) | (simp [renO, *]; done)⟩, by first | rfl | assumption, ?_⟩), rfl⟩
  rintro ⟨⟨m, d⟩, hd, hmn, hdl⟩
  dsimp only at hd hmn hdl ⊢
  cases m with
  | zero =>
   simp only [hsP] at hd
   subst hd
   repeat' (first | ((first | apply o_do | apply d_do | apply d_yes rfl rfl rfl); exact lsq) | refine a_seq ?_ | refine a_region ?_ | refine o_nil ?_ | refine a_block ?_ | refine a_ret ?_ | refine a_exit ?_ | refine a_skip ?_ | refine a_draw mixed ?_ | refine d_nil (by kernel_rfl) ?_ | refine o_yes rfl rfl rfl ?_ | refine o_no rfl rfl rfl (by decide) ?_ | refine o_no' rfl rfl rfl ?_ | refine a_condT rfl ?_ | refine a_condF rfl ?_ | refine d_no rfl rfl rfl (by decide) ?_ | refine d_no' rfl rfl rfl ?_ | (refine wq2 (fun hb => ?_) (fun hb => ?_) <;> (simp only [hb]; try simp only [hbs, ne_eq] at hb; try (exfalso; first | omega | exact hb trivial))) | fail)
   refine rq rfl ?_
   exact fnq
  | succ m =>
   simp only [hsP] at hd
   obtain ⟨x, z, y, hx, hz, h1, h2, q1, q2, h6, h5, q3, h8, hsl, hdm⟩ := sw_facts d a (a + m) l.length (by omega) (by omega) hdl
   have px := pureU x
   have pz := pureU z
   have hS := a_sift (swp 0 d a (a + m)) m 0 m a (by rw [hsl]; omega) (by rw [hsl]; exact hm) (by omega) (by omega)
   rw [hsl] at hS
   have hsl2 := (sift_sw (f := a) (n := m) m (swp 0 d a (a + m)) 0).len
   rw [hsl] at hsl2
   unfold NS at hS
   rw [← h8] at hS
   generalize sift m (swp 0 d a (a + m)) 0 m a = D at *
   have k1 : (a : Int) + (((m + 1 : Nat) : Int) - 1) = ((a + m : Nat) : Int) := by omega
   have em : ((m : Nat) : Int) = ((m + 1 : Nat) : Int) - 1 := by omega
   rw [em] at hS
   repeat' (first | ((first | apply o_do | apply d_do | apply d_yes rfl rfl rfl); first | exact ls_indexAddr_own tab_ok rfl rfl hdm rfl rfl k1 q2 rfl | exact ls_indexAddr_own tab_ok rfl rfl hdm rfl rfl rfl q1 rfl | exact ls_load_eref tab_ok rfl rfl hdm h2 rfl rfl rfl rfl | exact ls_load_eref tab_ok rfl rfl hdm h1 rfl rfl rfl rfl | exact ls_store_eref (cs' := uv z) tab_ok rfl rfl rfl hdm h1 rfl rfl pz rfl rfl rfl rfl | exact ls_indexAddr_own tab_ok rfl rfl h5 rfl rfl k1 q3 rfl | exact ls_store_eref (cs' := uv x) tab_ok rfl rfl rfl h5 h6 rfl rfl px rfl rfl rfl rfl | exact lca [0] 5 hS | exact lsq) | refine a_seq ?_ | refine a_region ?_ | refine o_nil ?_ | refine a_block ?_ | refine a_ret ?_ | refine a_exit ?_ | refine a_skip ?_ | refine a_draw mixed ?_ | refine d_nil (by kernel_rfl) ?_ | refine o_yes rfl rfl rfl ?_ | refine o_no rfl rfl rfl (by decide) ?_ | refine o_no' rfl rfl rfl ?_ | refine a_condT rfl ?_ | refine a_condF rfl ?_ | refine d_no rfl rfl rfl (by decide) ?_ | refine d_no' rfl rfl rfl ?_ | (refine wq2 (fun hb => ?_) (fun hb => ?_) <;> (simp only [hb]; try simp only [hbs, ne_eq] at hb; try (exfalso; first | omega | exact hb trivial))) | fail)
   refine ⟨⟨(m, D), hd, by dsimp only; omega, hsl2⟩, by dsimp only; omega, ?_⟩
   refine ⟨by repeat' (first | exact trivial | exact FinA.one (FinB.cell (FinC.same rfl)) | exact FinA.one (FinB.cell FinC.nil) | exact FinA.bound rfl | exact FinA.one (FinB.cell (FinC.own rfl rfl rfl rfl)) | exact FinA.one (FinB.cell (FinC.v (by first | rfl | (((try dsimp only); first | (congr 1 <;> omega)))))) | exact FinA.one (FinB.cell (FinC.ow rfl (by first | rfl | (((try dsimp only); first | (congr 1 <;> omega)))))) | exact FinA.one (FinB.agg' rfl rfl) | refine ⟨⟨_, rfl, ?_⟩, ?_⟩), by repeat' (first | exact trivial | refine ⟨⟨_, rfl, by first | rfl | (((try dsimp only); first | (congr 1 <;> omega)); done) | (simp [renO, *]; done)⟩, by first | rfl | assumption, ?_⟩), rfl⟩
 | succ k =>
  simp only [hsB] at hc
  have hS := a_sift c n k n a (by omega) (by omega) (by omega) (by omega)
  have hsl2 := (sift_sw (f := a) (n := n) n c k).len
  rw [hl] at hS hsl2
  unfold NS at hS
  generalize sift n c k n a = D at *
  rw [show ((k : Nat) : Int) = ((k + 1 : Nat) : Int) - 1 by omega] at hS
  repeat' (first | ((first | apply o_do | apply d_do | apply d_yes rfl rfl rfl); first | exact lca [0] 5 hS | exact lsq) | refine a_seq ?_ | refine a_region ?_ | refine o_nil ?_ | refine a_block ?_ | refine a_ret ?_ | refine a_exit ?_ | refine a_skip ?_ | refine a_draw mixed ?_ | refine d_nil (by kernel_rfl) ?_ | refine o_yes rfl rfl rfl ?_ | refine o_no rfl rfl rfl (by decide) ?_ | refine o_no' rfl rfl rfl ?_ | refine a_condT rfl ?_ | refine a_condF rfl ?_ | refine d_no rfl rfl rfl (by decide) ?_ | refine d_no' rfl rfl rfl ?_ | (refine wq2 (fun hb => ?_) (fun hb => ?_) <;> (simp only [hb]; try simp only [hbs, ne_eq] at hb; try (exfalso; first | omega | exact hb trivial))) | fail)
  refine ⟨⟨(k, D), hc, by dsimp only; omega, hsl2⟩, by dsimp only; omega, ?_⟩
  refine ⟨by repeat' (first | exact trivial | exact FinA.one (FinB.cell (FinC.same rfl)) | exact FinA.one (FinB.cell FinC.nil) | exact FinA.bound rfl | exact FinA.one (FinB.cell (FinC.own rfl rfl rfl rfl)) | exact FinA.one (FinB.cell (FinC.v (by first | rfl | (((try dsimp only); first | (congr 1 <;> omega)))))) | exact FinA.one (FinB.cell (FinC.ow rfl (by first | rfl | (((try dsimp only); first | (congr 1 <;> omega)))))) | exact FinA.one (FinB.agg' rfl rfl) | refine ⟨⟨_, rfl, ?_⟩, ?_⟩), by repeat' (first | exact trivial | refine ⟨⟨_, rfl, by first | rfl | (((try dsimp only); first | (congr 1 <;> omega)); done) | (simp [renO, *]; done)⟩, by first | rfl | assumption, ?_⟩), rfl⟩
abbrev MS (l : List Nat) (s : Nat) : Store := [(0, .row 46 1 (l.map uv)), (1, .box 3 [.v (.int .i64 s)])]
theorem a_o2 (l : List Nat) (a b s : Nat) (ha : a < l.length) (hb : b < l.length) (hs : s ≤ 100) : AC Tryd.prog 55 [.own 0 l.length, .v (.int .i64 a), .v (.int .i64 b), .ref 1 0] (MS l s) (.tup [.v (.int .i64 (o2 l a b s).1), .v (.int .i64 (o2 l a b s).2.1)]) (MS l (o2 l a b s).2.2) := by
 unfold MS
 have h1 := uv_at ha
 have h2 := uv_at hb
 have q1 : a < (l.map uv).length := by simpa using ha
 have q2 : b < (l.map uv).length := by simpa using hb
 have hdm : l.length = (l.map uv).length := by simp
 have hL := p_Less (l.getD b 0) (l.getD a 0)
 unfold o2
 generalize l.getD a 0 = x at *
 generalize l.getD b 0 = y at *
 by_cases e : y < x
 ·rw [decide_eq_true e] at hL
  rw [if_pos e]
  refine (ac_body tab_ok Tryd.func55 rfl (by kernel_rfl) rfl ?_); intro w0 M μ0; simp only [Tryd.ntmps55, List.length_cons, List.length_nil, Nat.reduceAdd, Nat.reduceSub, numb]
  repeat' (first | ((first | apply o_do | apply d_do | apply d_yes rfl rfl rfl); first | exact ls_indexAddr_own tab_ok rfl rfl hdm rfl rfl rfl q1 rfl | exact ls_indexAddr_own tab_ok rfl rfl hdm rfl rfl rfl q2 rfl | exact ls_load_eref tab_ok rfl rfl hdm h1 rfl rfl rfl rfl | exact ls_load_eref tab_ok rfl rfl hdm h2 rfl rfl rfl rfl | exact lsc (hL) | exact ls_nilCheck rfl rfl | exact lsq) | refine a_seq ?_ | refine a_region ?_ | refine o_nil ?_ | refine a_block ?_ | refine a_ret ?_ | refine a_exit ?_ | refine a_skip ?_ | refine a_draw mixed ?_ | refine d_nil (by kernel_rfl) ?_ | refine o_yes rfl rfl rfl ?_ | refine o_no rfl rfl rfl (by decide) ?_ | refine o_no' rfl rfl rfl ?_ | refine a_condT rfl ?_ | refine a_condF rfl ?_ | refine d_no rfl rfl rfl (by decide) ?_ | refine d_no' rfl rfl rfl ?_ | (refine wq2 (fun hb => ?_) (fun hb => ?_) <;> (simp only [hb]; try simp only [hbs, ne_eq] at hb; try (exfalso; first | omega | exact hb trivial))) | fail)
  refine rq rfl ?_
  exact fnq
 ·rw [decide_eq_false e] at hL
  rw [if_neg e]
  refine (ac_body tab_ok Tryd.func55 rfl (by kernel_rfl) rfl ?_); intro w0 M μ0; simp only [Tryd.ntmps55, List.length_cons, List.length_nil, Nat.reduceAdd, Nat.reduceSub, numb]
  repeat' (first | ((first | apply o_do | apply d_do | apply d_yes rfl rfl rfl); first | exact ls_indexAddr_own tab_ok rfl rfl hdm rfl rfl rfl q1 rfl | exact ls_indexAddr_own tab_ok rfl rfl hdm rfl rfl rfl q2 rfl | exact ls_load_eref tab_ok rfl rfl hdm h1 rfl rfl rfl rfl | exact ls_load_eref tab_ok rfl rfl hdm h2 rfl rfl rfl rfl | exact lsc (hL) | exact ls_nilCheck rfl rfl | exact lsq) | refine a_seq ?_ | refine a_region ?_ | refine o_nil ?_ | refine a_block ?_ | refine a_ret ?_ | refine a_exit ?_ | refine a_skip ?_ | refine a_draw mixed ?_ | refine d_nil (by kernel_rfl) ?_ | refine o_yes rfl rfl rfl ?_ | refine o_no rfl rfl rfl (by decide) ?_ | refine o_no' rfl rfl rfl ?_ | refine a_condT rfl ?_ | refine a_condF rfl ?_ | refine d_no rfl rfl rfl (by decide) ?_ | refine d_no' rfl rfl rfl ?_ | (refine wq2 (fun hb => ?_) (fun hb => ?_) <;> (simp only [hb]; try simp only [hbs, ne_eq] at hb; try (exfalso; first | omega | exact hb trivial))) | fail)
  refine rq rfl ?_
  exact fnq
theorem a_med (l : List Nat) (a b c s : Nat) (ha : a < l.length) (hb : b < l.length) (hc : c < l.length) (hs : s ≤ 90) : AC Tryd.prog 50 [.own 0 l.length, .v (.int .i64 a), .v (.int .i64 b), .v (.int .i64 c), .ref 1 0] (MS l s) (.v (.int .i64 (med l a b c s).1)) (MS l (med l a b c s).2) := by
 unfold med
 have h1 := a_o2 l a b s ha hb (by omega)
 have m1 := o2_mem l a b s (P := fun x => x < l.length) ha hb
 have s1 := o2_s l a b s
 generalize o2 l a b s = r1 at *
 have h2 := a_o2 l r1.2.1 c r1.2.2 m1.2 hc (by omega)
 have m2 := o2_mem l r1.2.1 c r1.2.2 (P := fun x => x < l.length) m1.2 hc
 have s2 := o2_s l r1.2.1 c r1.2.2
 generalize o2 l r1.2.1 c r1.2.2 = r2 at *
 have h3 := a_o2 l r1.1 r2.1 r2.2.2 m1.1 m2.1 (by omega)
 generalize o2 l r1.1 r2.1 r2.2.2 = r3 at *
 obtain ⟨x1, y1, t1⟩ := r1
 obtain ⟨x2, y2, t2⟩ := r2
 obtain ⟨x3, y3, t3⟩ := r3
 dsimp only at *
 unfold MS at *
 refine (ac_body tab_ok Tryd.func50 rfl (by kernel_rfl) rfl ?_); intro w0 M μ0; simp only [Tryd.ntmps50, List.length_cons, List.length_nil, Nat.reduceAdd, Nat.reduceSub, numb]
 repeat' (first | ((first | apply o_do | apply d_do | apply d_yes rfl rfl rfl); first | exact lca [0, 1] 5 h1 | exact lca [0, 1] 5 h2 | exact lca [0, 1] 5 h3 | exact lsq) | refine a_seq ?_ | refine a_region ?_ | refine o_nil ?_ | refine a_block ?_ | refine a_ret ?_ | refine a_exit ?_ | refine a_skip ?_ | refine a_draw mixed ?_ | refine d_nil (by kernel_rfl) ?_ | refine o_yes rfl rfl rfl ?_ | refine o_no rfl rfl rfl (by decide) ?_ | refine o_no' rfl rfl rfl ?_ | refine a_condT rfl ?_ | refine a_condF rfl ?_ | refine d_no rfl rfl rfl (by decide) ?_ | refine d_no' rfl rfl rfl ?_ | (refine wq2 (fun hb => ?_) (fun hb => ?_) <;> (simp only [hb]; try simp only [hbs, ne_eq] at hb; try (exfalso; first | omega | exact hb trivial))) | fail)
 refine rq rfl ?_
 exact fnq
theorem a_adj (l : List Nat) (i s : Nat) (h0 : 1 ≤ i) (hi : i + 1 < l.length) (hm : l.length ≤ 1000) (hs : s ≤ 90) : AC Tryd.prog 49 [.own 0 l.length, .v (.int .i64 i), .ref 1 0] (MS l s) (.v (.int .i64 (med l (i - 1) i (i + 1) s).1)) (MS l (med l (i - 1) i (i + 1) s).2) := by
 have h1 := a_med l (i - 1) i (i + 1) s (by omega) (by omega) hi hs
 generalize med l (i - 1) i (i + 1) s = r at *
 rw [show ((i - 1 : Nat) : Int) = (i : Int) - 1 by omega, show ((i + 1 : Nat) : Int) = (i : Int) + 1 by omega] at h1
 unfold MS at *
 refine (ac_body tab_ok Tryd.func49 rfl (by kernel_rfl) rfl ?_); intro w0 M μ0; simp only [Tryd.ntmps49, List.length_cons, List.length_nil, Nat.reduceAdd, Nat.reduceSub, numb]
 repeat' (first | ((first | apply o_do | apply d_do | apply d_yes rfl rfl rfl); first | exact lca [0, 1] 5 h1 | exact lsq) | refine a_seq ?_ | refine a_region ?_ | refine o_nil ?_ | refine a_block ?_ | refine a_ret ?_ | refine a_exit ?_ | refine a_skip ?_ | refine a_draw mixed ?_ | refine d_nil (by kernel_rfl) ?_ | refine o_yes rfl rfl rfl ?_ | refine o_no rfl rfl rfl (by decide) ?_ | refine o_no' rfl rfl rfl ?_ | refine a_condT rfl ?_ | refine a_condF rfl ?_ | refine d_no rfl rfl rfl (by decide) ?_ | refine d_no' rfl rfl rfl ?_ | (refine wq2 (fun hb => ?_) (fun hb => ?_) <;> (simp only [hb]; try simp only [hbs, ne_eq] at hb; try (exfalso; first | omega | exact hb trivial))) | fail)
 refine rq rfl ?_
 exact fnq
set_option maxRecDepth 10000 in
theorem a_choose (l : List Nat) (a b : Nat) (hab : a + 12 < b) (hb : b ≤ l.length) (hm : l.length ≤ 1000) : AC Tryd.prog 34 [.own 0 l.length, .v (.int .i64 a), .v (.int .i64 b)] (NS l) (.tup [.v (.int .i64 (chP l a b).1), .v (.int .i64 (hintN (chP l a b).2))]) (NS l) := by
 obtain ⟨q, hq⟩ : ∃ q, q = (b - a) / 4 := ⟨_, rfl⟩
 have hq4 : ((b : Int) - a).tdiv 4 = (q : Int) := by
  rw [show (b : Int) - a = ((b - a : Nat) : Int) by omega, hq]; rfl
 have hdm : l.length = (l.map uv).length := by simp
 have hint : ∀ s : Nat, (s = 0 ∧ hintN s = 1) ∨ (s = 12 ∧ hintN s = 2) ∨ (s ≠ 0 ∧ s ≠ 12 ∧ hintN s = 0) := fun s => by
  unfold hintN
  by_cases e1 : s = 0
  ·exact .inl ⟨e1, if_pos e1⟩
  ·rw [if_neg e1]
   by_cases e2 : s = 12
   ·exact .inr (.inl ⟨e2, if_pos e2⟩)
   ·exact .inr (.inr ⟨e1, e2, if_neg e2⟩)
 have e1 : ((a + q : Nat) : Int) = (a : Int) + (q : Int) * 1 := by omega
 have e2 : ((a + q * 2 : Nat) : Int) = (a : Int) + (q : Int) * 2 := by omega
 have e3 : ((a + q * 3 : Nat) : Int) = (a : Int) + (q : Int) * 3 := by omega
 by_cases h50 : 50 ≤ b - a
 ·have hC : chP l a b = med l (med l (a + q - 1) (a + q) (a + q + 1) 0).1
    (med l (a + q * 2 - 1) (a + q * 2) (a + q * 2 + 1) (med l (a + q - 1) (a + q) (a + q + 1) 0).2).1
    (med l (a + q * 3 - 1) (a + q * 3) (a + q * 3 + 1) (med l (a + q * 2 - 1) (a + q * 2) (a + q * 2 + 1) (med l (a + q - 1) (a + q) (a + q + 1) 0).2).2).1
    (med l (a + q * 3 - 1) (a + q * 3) (a + q * 3 + 1) (med l (a + q * 2 - 1) (a + q * 2) (a + q * 2 + 1) (med l (a + q - 1) (a + q) (a + q + 1) 0).2).2).2 := by
   unfold chP
   rw [if_pos (by omega), if_pos h50, ← hq]
  rw [hC]
  clear hC
  have h1 := a_adj l (a + q) 0 (by omega) (by omega) hm (by omega)
  have m1 := med_mem l (a + q - 1) (a + q) (a + q + 1) 0 (P := fun x => x < l.length) (by omega) (by omega) (by omega)
  have s1 := med_s l (a + q - 1) (a + q) (a + q + 1) 0
  generalize med l (a + q - 1) (a + q) (a + q + 1) 0 = r1 at *
  have h2 := a_adj l (a + q * 2) r1.2 (by omega) (by omega) hm (by omega)
  have m2 := med_mem l (a + q * 2 - 1) (a + q * 2) (a + q * 2 + 1) r1.2 (P := fun x => x < l.length) (by omega) (by omega) (by omega)
  have s2 := med_s l (a + q * 2 - 1) (a + q * 2) (a + q * 2 + 1) r1.2
  generalize med l (a + q * 2 - 1) (a + q * 2) (a + q * 2 + 1) r1.2 = r2 at *
  have h3 := a_adj l (a + q * 3) r2.2 (by omega) (by omega) hm (by omega)
  have m3 := med_mem l (a + q * 3 - 1) (a + q * 3) (a + q * 3 + 1) r2.2 (P := fun x => x < l.length) (by omega) (by omega) (by omega)
  have s3 := med_s l (a + q * 3 - 1) (a + q * 3) (a + q * 3 + 1) r2.2
  generalize med l (a + q * 3 - 1) (a + q * 3) (a + q * 3 + 1) r2.2 = r3 at *
  have h4 := a_med l r1.1 r2.1 r3.1 r3.2 m1 m2 m3 (by omega)
  generalize med l r1.1 r2.1 r3.1 r3.2 = r4 at *
  rw [e1] at h1
  rw [e2] at h2
  rw [e3] at h3
  obtain ⟨x1, t1⟩ := r1
  obtain ⟨x2, t2⟩ := r2
  obtain ⟨x3, t3⟩ := r3
  obtain ⟨x4, t4⟩ := r4
  dsimp only at *
  have hh := hint t4
  generalize hintN t4 = H at *
  have h50' : (50 : Int) ≤ (b : Int) - a := by omega
  unfold MS at *
  rcases hh with ⟨rfl, rfl⟩ | ⟨rfl, rfl⟩ | ⟨g1, g2, rfl⟩
  all_goals
   refine (ac_body tab_ok Tryd.func34 rfl (by kernel_rfl) rfl ?_); intro w0 M μ0; simp only [Tryd.ntmps34, List.length_cons, List.length_nil, Nat.reduceAdd, Nat.reduceSub, numb]
   repeat' (first | ((first | apply o_do | apply d_do | apply d_yes rfl rfl rfl); first | exact ls_quo64 hq4 rfl rfl (by decide) (by omega) rfl | exact ls_mul64 rfl rfl (by omega) rfl | exact lca [0, 1] 5 h1 | exact lca [0, 1] 5 h2 | exact lca [0, 1] 5 h3 | exact lca [0, 1] 5 h4 | exact lsq) | refine a_seq ?_ | refine a_region ?_ | refine o_nil ?_ | refine a_block ?_ | refine a_ret ?_ | refine a_exit ?_ | refine a_skip ?_ | refine a_draw mixed ?_ | refine d_nil (by kernel_rfl) ?_ | refine o_yes rfl rfl rfl ?_ | refine o_no rfl rfl rfl (by decide) ?_ | refine o_no' rfl rfl rfl ?_ | refine a_condT rfl ?_ | refine a_condF rfl ?_ | refine d_no rfl rfl rfl (by decide) ?_ | refine d_no' rfl rfl rfl ?_ | (refine wq2 (fun hb => ?_) (fun hb => ?_) <;> (simp only [hb]; try simp only [hbs, ne_eq] at hb; try (exfalso; first | omega | exact hb trivial))) | fail)
   all_goals refine rq rfl ?_
   all_goals exact fnq
 ·have hC : chP l a b = med l (a + q) (a + q * 2) (a + q * 3) 0 := by
   unfold chP
   rw [if_pos (by omega), if_neg h50, ← hq]
  rw [hC]
  clear hC
  have h4 := a_med l (a + q) (a + q * 2) (a + q * 3) 0 (by omega) (by omega) (by omega) (by omega)
  have s3 := med_s l (a + q) (a + q * 2) (a + q * 3) 0
  generalize med l (a + q) (a + q * 2) (a + q * 3) 0 = r4 at *
  rw [e1, e2, e3] at h4
  obtain ⟨x4, t4⟩ := r4
  dsimp only at *
  have hh := hint t4
  generalize hintN t4 = H at *
  have h50' : ¬ (50 : Int) ≤ (b : Int) - a := by omega
  unfold MS at *
  rcases hh with ⟨rfl, rfl⟩ | ⟨rfl, rfl⟩ | ⟨g1, g2, rfl⟩
  all_goals
   refine (ac_body tab_ok Tryd.func34 rfl (by kernel_rfl) rfl ?_); intro w0 M μ0; simp only [Tryd.ntmps34, List.length_cons, List.length_nil, Nat.reduceAdd, Nat.reduceSub, numb]
   repeat' (first | ((first | apply o_do | apply d_do | apply d_yes rfl rfl rfl); first | exact ls_quo64 hq4 rfl rfl (by decide) (by omega) rfl | exact ls_mul64 rfl rfl (by omega) rfl | exact lca [0, 1] 5 h4 | exact lsq) | refine a_seq ?_ | refine a_region ?_ | refine o_nil ?_ | refine a_block ?_ | refine a_ret ?_ | refine a_exit ?_ | refine a_skip ?_ | refine a_draw mixed ?_ | refine d_nil (by kernel_rfl) ?_ | refine o_yes rfl rfl rfl ?_ | refine o_no rfl rfl rfl (by decide) ?_ | refine o_no' rfl rfl rfl ?_ | refine a_condT rfl ?_ | refine a_condF rfl ?_ | refine d_no rfl rfl rfl (by decide) ?_ | refine d_no' rfl rfl rfl ?_ | (refine wq2 (fun hb => ?_) (fun hb => ?_) <;> (simp only [hb]; try simp only [hbs, ne_eq] at hb; try (exfalso; first | omega | exact hb trivial))) | fail)
   all_goals refine rq rfl ?_
   all_goals exact fnq
end Go.Proofs.YtcfidmdkioccdaaDoor
