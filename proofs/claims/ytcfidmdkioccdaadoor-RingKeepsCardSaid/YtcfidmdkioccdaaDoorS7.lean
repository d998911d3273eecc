/-
  slices.Sort at uint32, walked over abstract values: a row parted.
-/
import Derived.Test.YtcfidmdkioccdaaDoorS4
import Derived.Test.YtcfidmdkioccdaaDoorS6
set_option linter.unusedSimpArgs false
set_option linter.unusedVariables false
set_option maxHeartbeats 20000000
namespace Go.Proofs.YtcfidmdkioccdaaDoor
open Go.RowKit
theorem nbeq : ∀ n : Nat, Nat.beq n n = true
 | 0 => rfl
 | n + 1 => nbeq n
theorem a_brk {P : Program} {n : Nat} {Γ : Ctx} {c y : Code} {next : ASt → Prop} {Q1 Q2 : Exit → ASt → Prop} {s : ASt} (S1 : ASt) (h : AWP P Γ c (fun e s' => e = .exit n ∧ Weak Γ s' S1) s) (hy : AWP P Γ y Q1 S1) :
  AWP P Γ c (AThen next (AInBlock n (AThen (AWP P Γ y Q1) Q2))) s :=
 h.mono fun e s' ⟨he, hw⟩ => by
  subst he
  clear h
  have hn := nbeq n
  simp only [AThen, AInBlock, hn]
  exact a_weak hw hy
set_option maxRecDepth 10000 in
theorem a_part (l : List Nat) (a b p : Nat) (hap : a ≤ p) (hpb : p < b) (hb : b ≤ l.length) (hm : l.length ≤ 1000) : AC Tryd.prog 38 [.own 0 l.length, .v (.int .i64 a), .v (.int .i64 b), .v (.int .i64 p)] (NS l) (.tup [.v (.int .i64 (part l a b p).2.1), .v (.bool (part l a b p).2.2)]) (NS (part l a b p).1) := by
 unfold NS
 have hok := part_ok hap hpb hb
 have hl_l : l.length = l.length := rfl
 obtain ⟨x0, z0, y0, hx0, hz0, h10, h20, q10, q20, h60, h50, q30, h80, hsl0, hdm0⟩ := sw_facts l a p l.length (by omega) (by omega) hl_l
 have px0 := pureU x0
 have pz0 := pureU z0
 obtain ⟨RES, hRES⟩ : ∃ RES, RES = part l a b p := ⟨_, rfl⟩
 rw [← hRES] at hok ⊢
 unfold part at hRES
 generalize swp 0 l a p = l1 at *
 have hl_l1 := hsl0
 have hP0 : Par a b l1 (a + 1) (b - 1) := ⟨by omega, by omega, by omega, by omega, fun k _ _ => by omega, fun k _ _ => by omega⟩
 have hP := hP0.scan rfl rfl
 rw [show b - 1 + 1 - (a + 1) = b - 1 - a by omega] at hP
 obtain ⟨I, hI⟩ : ∃ I, I = scI l1 a (b - 1) (b - 1 - a) (a + 1) := ⟨_, rfl⟩
 rw [← hI] at hRES hP
 obtain ⟨J, hJ⟩ : ∃ J, J = scJ l1 a I (b - 1) := ⟨_, rfl⟩
 rw [← hJ] at hRES hP
 have hai1 := hP.1.ai
 have haj1 := hP.1.aj
 have hij1 := hP.1.ij
 have hjb1 := hP.1.jb
 have hm_l1 : l.length = (l1.map uv).length := by simp [hl_l1]
 have qa_l1 : a < (l1.map uv).length := by simp; omega
 have ha_l1 := uv_at (l := l1) (i := a) (by omega)
 have hlw := hok.1.len
 clear hok
 refine (ac_body tab_ok Tryd.func38 rfl (by kernel_rfl) rfl ?_); intro w0 M μ0; simp only [Tryd.ntmps38, List.length_cons, List.length_nil, Nat.reduceAdd, Nat.reduceSub, numb]
 repeat' (first | ((first | apply o_do | apply d_do | apply d_yes rfl rfl rfl); first | exact ls_indexAddr_own tab_ok rfl rfl hdm0 rfl rfl rfl q20 rfl | exact ls_indexAddr_own tab_ok rfl rfl hdm0 rfl rfl rfl q10 rfl | exact ls_load_eref tab_ok rfl rfl hdm0 h20 rfl rfl rfl rfl | exact ls_load_eref tab_ok rfl rfl hdm0 h10 rfl rfl rfl rfl | exact ls_store_eref (cs' := uv z0) tab_ok rfl rfl rfl hdm0 h10 rfl rfl pz0 rfl rfl rfl rfl | exact ls_indexAddr_own tab_ok rfl rfl h50 rfl rfl rfl q30 rfl | exact ls_store_eref (cs' := uv x0) tab_ok rfl rfl rfl h50 h60 rfl rfl px0 rfl rfl rfl rfl | exact lsq) | refine a_seq ?_ | refine a_region ?_ | refine o_nil ?_ | refine a_block ?_ | refine a_ret ?_ | refine a_exit ?_ | refine a_skip ?_ | refine a_draw mixed ?_ | refine d_nil (by kernel_rfl) ?_ | refine o_yes rfl rfl rfl ?_ | refine o_no rfl rfl rfl (by decide) ?_ | refine o_no' rfl rfl rfl ?_ | refine a_condT rfl ?_ | refine a_condF rfl ?_ | refine d_no rfl rfl rfl (by decide) ?_ | refine d_no' rfl rfl rfl ?_ | (refine wq2 (fun hb => ?_) (fun hb => ?_) <;> (simp only [hb]; try simp only [hbs, ne_eq] at hb; try (exfalso; first | omega | exact hb trivial))) | fail)
 refine a_loop (X := {p : Nat × Nat // I = scI l1 a (b - 1) p.1 p.2 ∧ b - 1 + 1 ≤ p.2 + p.1 ∧ a < p.2 ∧ p.2 ≤ b - 1 + 1})
  (fun p => ⟨[(0, .own 0 l.length), (1, .v (.int .i64 a)), (2, .v (.int .i64 b)), (10, .v (.int .i64 p.1.2)), (11, .v (.int .i64 ((b : Int) - 1)))], [(0, .row 46 1 (l1.map uv))]⟩) (fun p => b - 1 + 1 - p.1.2) ⟨(b - 1 - a, a + 1), hI, by dsimp only; omega, by dsimp only; omega, by dsimp only; omega⟩ ?_ ?_
 ·refine ⟨by repeat' (first | exact trivial | exact FinA.one (FinB.cell (FinC.same rfl)) | exact FinA.one (FinB.cell FinC.nil) | exact FinA.bound rfl | exact FinA.one (FinB.cell (FinC.own rfl rfl rfl rfl)) | exact FinA.one (FinB.cell (FinC.v (by first | rfl | (((try dsimp only); first | omega | (rw [h8]; done) | (congr 1 <;> omega)))))) | exact FinA.one (FinB.cell (FinC.ow rfl (by first | rfl | (((try dsimp only); first | omega | (rw [h8]; done) | (congr 1 <;> omega)))))) | exact FinA.one (FinB.agg' rfl rfl) | refine ⟨⟨_, rfl, ?_⟩, ?_⟩), by repeat' (first | exact trivial | refine ⟨⟨_, rfl, by first | rfl | (((try dsimp only); first | omega | (rw [h8]; done) | (congr 1 <;> omega)); done) | (simp [renO, *]; done)⟩, by first | rfl | assumption, ?_⟩), rfl⟩
 rintro ⟨⟨g, i0⟩, hc, hg, hai, hib⟩
 dsimp only at hc hg hai hib ⊢
 by_cases hgo : i0 ≤ b - 1 ∧ l1.getD i0 0 < l1.getD a 0
 ·obtain ⟨g', rfl⟩ : ∃ g', g = g' + 1 := ⟨g - 1, by omega⟩
  simp only [scI] at hc
  rw [if_pos hgo] at hc
  have hi := uv_at (l := l1) (i := i0) (by omega)
  have qi : i0 < (l1.map uv).length := by simp; omega
  have hL := p_Less (l1.getD i0 0) (l1.getD a 0)
  rw [decide_eq_true hgo.2] at hL
  have hle : (i0 : Int) ≤ ((b : Int) - 1) := by omega
  generalize l1.getD i0 0 = x0 at *
  generalize l1.getD a 0 = x1 at *
  repeat' (first | ((first | apply o_do | apply d_do | apply d_yes rfl rfl rfl); first | exact ls_indexAddr_own tab_ok rfl rfl hm_l1 rfl rfl rfl qi rfl | exact ls_indexAddr_own tab_ok rfl rfl hm_l1 rfl rfl rfl qa_l1 rfl | exact ls_load_eref tab_ok rfl rfl hm_l1 hi rfl rfl rfl rfl | exact ls_load_eref tab_ok rfl rfl hm_l1 ha_l1 rfl rfl rfl rfl | exact lsc (hL) | exact lsq) | refine a_seq ?_ | refine a_region ?_ | refine o_nil ?_ | refine a_block ?_ | refine a_ret ?_ | refine a_exit ?_ | refine a_skip ?_ | refine a_draw mixed ?_ | refine d_nil (by kernel_rfl) ?_ | refine o_yes rfl rfl rfl ?_ | refine o_no rfl rfl rfl (by decide) ?_ | refine o_no' rfl rfl rfl ?_ | refine a_condT rfl ?_ | refine a_condF rfl ?_ | refine d_no rfl rfl rfl (by decide) ?_ | refine d_no' rfl rfl rfl ?_ | (refine wq2 (fun hb => ?_) (fun hb => ?_) <;> (simp only [hb]; try simp only [hbs, ne_eq] at hb; try (exfalso; first | omega | exact hb trivial))) | fail)
  refine ⟨⟨(g', i0 + 1), hc, by dsimp only; omega, by dsimp only; omega, by dsimp only; omega⟩, by dsimp only; omega, ?_⟩
  refine ⟨by repeat' (first | exact trivial | exact FinA.one (FinB.cell (FinC.same rfl)) | exact FinA.one (FinB.cell FinC.nil) | exact FinA.bound rfl | exact FinA.one (FinB.cell (FinC.own rfl rfl rfl rfl)) | exact FinA.one (FinB.cell (FinC.v (by first | rfl | (((try dsimp only); first | omega | (rw [h8]; done) | (congr 1 <;> omega)))))) | exact FinA.one (FinB.cell (FinC.ow rfl (by first | rfl | (((try dsimp only); first | omega | (rw [h8]; done) | (congr 1 <;> omega)))))) | exact FinA.one (FinB.agg' rfl rfl) | refine ⟨⟨_, rfl, ?_⟩, ?_⟩), by repeat' (first | exact trivial | refine ⟨⟨_, rfl, by first | rfl | (((try dsimp only); first | omega | (rw [h8]; done) | (congr 1 <;> omega)); done) | (simp [renO, *]; done)⟩, by first | rfl | assumption, ?_⟩), rfl⟩
 have hIi : I = i0 := by
  rw [hc]
  cases g with
  | zero => rfl
  | succ g => simp only [scI]; rw [if_neg hgo]
 subst hIi
 refine a_brk ⟨[(0, .own 0 l.length), (1, .v (.int .i64 a)), (2, .v (.int .i64 b)), (10, .v (.int .i64 I)), (11, .v (.int .i64 ((b : Int) - 1)))], [(0, .row 46 1 (l1.map uv))]⟩ ?_ ?_
 ·by_cases hle : I ≤ b - 1
  ·have hi := uv_at (l := l1) (i := I) (by omega)
   have qi : I < (l1.map uv).length := by simp; omega
   have hL := p_Less (l1.getD I 0) (l1.getD a 0)
   rw [decide_eq_false (fun h => hgo ⟨hle, h⟩)] at hL
   have hle' : (I : Int) ≤ ((b : Int) - 1) := by omega
   generalize l1.getD I 0 = x0 at *
   generalize l1.getD a 0 = x1 at *
   repeat' (first | ((first | apply o_do | apply d_do | apply d_yes rfl rfl rfl); first | exact ls_indexAddr_own tab_ok rfl rfl hm_l1 rfl rfl rfl qi rfl | exact ls_indexAddr_own tab_ok rfl rfl hm_l1 rfl rfl rfl qa_l1 rfl | exact ls_load_eref tab_ok rfl rfl hm_l1 hi rfl rfl rfl rfl | exact ls_load_eref tab_ok rfl rfl hm_l1 ha_l1 rfl rfl rfl rfl | exact lsc (hL) | exact lsq) | refine a_seq ?_ | refine a_region ?_ | refine o_nil ?_ | refine a_block ?_ | refine a_ret ?_ | refine a_exit ?_ | refine a_skip ?_ | refine a_draw mixed ?_ | refine d_nil (by kernel_rfl) ?_ | refine o_yes rfl rfl rfl ?_ | refine o_no rfl rfl rfl (by decide) ?_ | refine o_no' rfl rfl rfl ?_ | refine a_condT rfl ?_ | refine a_condF rfl ?_ | refine d_no rfl rfl rfl (by decide) ?_ | refine d_no' rfl rfl rfl ?_ | (refine wq2 (fun hb => ?_) (fun hb => ?_) <;> (simp only [hb]; try simp only [hbs, ne_eq] at hb; try (exfalso; first | omega | exact hb trivial))) | fail)
   refine ⟨rfl, ?_⟩
   refine ⟨by repeat' (first | exact trivial | exact FinA.one (FinB.cell (FinC.same rfl)) | exact FinA.one (FinB.cell FinC.nil) | exact FinA.bound rfl | exact FinA.one (FinB.cell (FinC.own rfl rfl rfl rfl)) | exact FinA.one (FinB.cell (FinC.v (by first | rfl | (((try dsimp only); first | omega | (rw [h8]; done) | (congr 1 <;> omega)))))) | exact FinA.one (FinB.cell (FinC.ow rfl (by first | rfl | (((try dsimp only); first | omega | (rw [h8]; done) | (congr 1 <;> omega)))))) | exact FinA.one (FinB.agg' rfl rfl) | refine ⟨⟨_, rfl, ?_⟩, ?_⟩), by repeat' (first | exact trivial | refine ⟨⟨_, rfl, by first | rfl | (((try dsimp only); first | omega | (rw [h8]; done) | (congr 1 <;> omega)); done) | (simp [renO, *]; done)⟩, by first | rfl | assumption, ?_⟩), rfl⟩
  ·have hle' : ¬ (I : Int) ≤ ((b : Int) - 1) := by omega
   repeat' (first | ((first | apply o_do | apply d_do | apply d_yes rfl rfl rfl); exact lsq) | refine a_seq ?_ | refine a_region ?_ | refine o_nil ?_ | refine a_block ?_ | refine a_ret ?_ | refine a_exit ?_ | refine a_skip ?_ | refine a_draw mixed ?_ | refine d_nil (by kernel_rfl) ?_ | refine o_yes rfl rfl rfl ?_ | refine o_no rfl rfl rfl (by decide) ?_ | refine o_no' rfl rfl rfl ?_ | refine a_condT rfl ?_ | refine a_condF rfl ?_ | refine d_no rfl rfl rfl (by decide) ?_ | refine d_no' rfl rfl rfl ?_ | (refine wq2 (fun hb => ?_) (fun hb => ?_) <;> (simp only [hb]; try simp only [hbs, ne_eq] at hb; try (exfalso; first | omega | exact hb trivial))) | fail)
   refine ⟨rfl, ?_⟩
   refine ⟨by repeat' (first | exact trivial | exact FinA.one (FinB.cell (FinC.same rfl)) | exact FinA.one (FinB.cell FinC.nil) | exact FinA.bound rfl | exact FinA.one (FinB.cell (FinC.own rfl rfl rfl rfl)) | exact FinA.one (FinB.cell (FinC.v (by first | rfl | (((try dsimp only); first | omega | (rw [h8]; done) | (congr 1 <;> omega)))))) | exact FinA.one (FinB.cell (FinC.ow rfl (by first | rfl | (((try dsimp only); first | omega | (rw [h8]; done) | (congr 1 <;> omega)))))) | exact FinA.one (FinB.agg' rfl rfl) | refine ⟨⟨_, rfl, ?_⟩, ?_⟩), by repeat' (first | exact trivial | refine ⟨⟨_, rfl, by first | rfl | (((try dsimp only); first | omega | (rw [h8]; done) | (congr 1 <;> omega)); done) | (simp [renO, *]; done)⟩, by first | rfl | assumption, ?_⟩), rfl⟩
 clear hc hgo
 repeat' (first | ((first | apply o_do | apply d_do | apply d_yes rfl rfl rfl); exact lsq) | refine a_seq ?_ | refine a_region ?_ | refine o_nil ?_ | refine a_block ?_ | refine a_ret ?_ | refine a_exit ?_ | refine a_skip ?_ | refine a_draw mixed ?_ | refine d_nil (by kernel_rfl) ?_ | refine o_yes rfl rfl rfl ?_ | refine o_no rfl rfl rfl (by decide) ?_ | refine o_no' rfl rfl rfl ?_ | refine a_condT rfl ?_ | refine a_condF rfl ?_ | refine d_no rfl rfl rfl (by decide) ?_ | refine d_no' rfl rfl rfl ?_ | (refine wq2 (fun hb => ?_) (fun hb => ?_) <;> (simp only [hb]; try simp only [hbs, ne_eq] at hb; try (exfalso; first | omega | exact hb trivial))) | fail)
 refine a_loop (X := {q : Nat // J = scJ l1 a I q ∧ q < b ∧ I ≤ q + 1})
  (fun q => ⟨[(0, .own 0 l.length), (1, .v (.int .i64 a)), (2, .v (.int .i64 b)), (10, .v (.int .i64 I)), (11, .v (.int .i64 q.1))], [(0, .row 46 1 (l1.map uv))]⟩) (fun q => q.1) ⟨b - 1, hJ, by omega, by omega⟩ ?_ ?_
 ·refine ⟨by repeat' (first | exact trivial | exact FinA.one (FinB.cell (FinC.same rfl)) | exact FinA.one (FinB.cell FinC.nil) | exact FinA.bound rfl | exact FinA.one (FinB.cell (FinC.own rfl rfl rfl rfl)) | exact FinA.one (FinB.cell (FinC.v (by first | rfl | (((try dsimp only); first | omega | (rw [h8]; done) | (congr 1 <;> omega)))))) | exact FinA.one (FinB.cell (FinC.ow rfl (by first | rfl | (((try dsimp only); first | omega | (rw [h8]; done) | (congr 1 <;> omega)))))) | exact FinA.one (FinB.agg' rfl rfl) | refine ⟨⟨_, rfl, ?_⟩, ?_⟩), by repeat' (first | exact trivial | refine ⟨⟨_, rfl, by first | rfl | (((try dsimp only); first | omega | (rw [h8]; done) | (congr 1 <;> omega)); done) | (simp [renO, *]; done)⟩, by first | rfl | assumption, ?_⟩), rfl⟩
 rintro ⟨q0, hc, hqb, hIq⟩
 dsimp only at hc hqb hIq ⊢
 by_cases hgo : I ≤ q0 ∧ ¬ l1.getD q0 0 < l1.getD a 0
 ·obtain ⟨q', rfl⟩ : ∃ q', q0 = q' + 1 := ⟨q0 - 1, by omega⟩
  simp only [scJ] at hc
  rw [if_pos hgo] at hc
  have hi := uv_at (l := l1) (i := q' + 1) (by omega)
  have qi : q' + 1 < (l1.map uv).length := by simp; omega
  have hL := p_Less (l1.getD (q' + 1) 0) (l1.getD a 0)
  rw [decide_eq_false hgo.2] at hL
  have hle : (I : Int) ≤ ((q' + 1 : Nat) : Int) := by omega
  generalize l1.getD (q' + 1) 0 = x0 at *
  generalize l1.getD a 0 = x1 at *
  repeat' (first | ((first | apply o_do | apply d_do | apply d_yes rfl rfl rfl); first | exact ls_indexAddr_own tab_ok rfl rfl hm_l1 rfl rfl rfl qi rfl | exact ls_indexAddr_own tab_ok rfl rfl hm_l1 rfl rfl rfl qa_l1 rfl | exact ls_load_eref tab_ok rfl rfl hm_l1 hi rfl rfl rfl rfl | exact ls_load_eref tab_ok rfl rfl hm_l1 ha_l1 rfl rfl rfl rfl | exact lsc (hL) | exact lsq) | refine a_seq ?_ | refine a_region ?_ | refine o_nil ?_ | refine a_block ?_ | refine a_ret ?_ | refine a_exit ?_ | refine a_skip ?_ | refine a_draw mixed ?_ | refine d_nil (by kernel_rfl) ?_ | refine o_yes rfl rfl rfl ?_ | refine o_no rfl rfl rfl (by decide) ?_ | refine o_no' rfl rfl rfl ?_ | refine a_condT rfl ?_ | refine a_condF rfl ?_ | refine d_no rfl rfl rfl (by decide) ?_ | refine d_no' rfl rfl rfl ?_ | (refine wq2 (fun hb => ?_) (fun hb => ?_) <;> (simp only [hb]; try simp only [hbs, ne_eq] at hb; try (exfalso; first | omega | exact hb trivial))) | fail)
  refine ⟨⟨q', hc, by omega, by omega⟩, by dsimp only; omega, ?_⟩
  refine ⟨by repeat' (first | exact trivial | exact FinA.one (FinB.cell (FinC.same rfl)) | exact FinA.one (FinB.cell FinC.nil) | exact FinA.bound rfl | exact FinA.one (FinB.cell (FinC.own rfl rfl rfl rfl)) | exact FinA.one (FinB.cell (FinC.v (by first | rfl | (((try dsimp only); first | omega | (rw [h8]; done) | (congr 1 <;> omega)))))) | exact FinA.one (FinB.cell (FinC.ow rfl (by first | rfl | (((try dsimp only); first | omega | (rw [h8]; done) | (congr 1 <;> omega)))))) | exact FinA.one (FinB.agg' rfl rfl) | refine ⟨⟨_, rfl, ?_⟩, ?_⟩), by repeat' (first | exact trivial | refine ⟨⟨_, rfl, by first | rfl | (((try dsimp only); first | omega | (rw [h8]; done) | (congr 1 <;> omega)); done) | (simp [renO, *]; done)⟩, by first | rfl | assumption, ?_⟩), rfl⟩
 have hJq : J = q0 := by
  rw [hc]
  cases q0 with
  | zero => rfl
  | succ q0 => simp only [scJ]; rw [if_neg hgo]
 subst hJq
 refine a_brk ⟨[(0, .own 0 l.length), (1, .v (.int .i64 a)), (2, .v (.int .i64 b)), (10, .v (.int .i64 I)), (11, .v (.int .i64 J))], [(0, .row 46 1 (l1.map uv))]⟩ ?_ ?_
 ·by_cases hle : I ≤ J
  ·have hi := uv_at (l := l1) (i := J) (by omega)
   have qi : J < (l1.map uv).length := by simp; omega
   have hL := p_Less (l1.getD J 0) (l1.getD a 0)
   rw [decide_eq_true (Decidable.byContradiction fun h => hgo ⟨hle, h⟩)] at hL
   have hle' : (I : Int) ≤ (J : Int) := by omega
   generalize l1.getD J 0 = x0 at *
   generalize l1.getD a 0 = x1 at *
   repeat' (first | ((first | apply o_do | apply d_do | apply d_yes rfl rfl rfl); first | exact ls_indexAddr_own tab_ok rfl rfl hm_l1 rfl rfl rfl qi rfl | exact ls_indexAddr_own tab_ok rfl rfl hm_l1 rfl rfl rfl qa_l1 rfl | exact ls_load_eref tab_ok rfl rfl hm_l1 hi rfl rfl rfl rfl | exact ls_load_eref tab_ok rfl rfl hm_l1 ha_l1 rfl rfl rfl rfl | exact lsc (hL) | exact lsq) | refine a_seq ?_ | refine a_region ?_ | refine o_nil ?_ | refine a_block ?_ | refine a_ret ?_ | refine a_exit ?_ | refine a_skip ?_ | refine a_draw mixed ?_ | refine d_nil (by kernel_rfl) ?_ | refine o_yes rfl rfl rfl ?_ | refine o_no rfl rfl rfl (by decide) ?_ | refine o_no' rfl rfl rfl ?_ | refine a_condT rfl ?_ | refine a_condF rfl ?_ | refine d_no rfl rfl rfl (by decide) ?_ | refine d_no' rfl rfl rfl ?_ | (refine wq2 (fun hb => ?_) (fun hb => ?_) <;> (simp only [hb]; try simp only [hbs, ne_eq] at hb; try (exfalso; first | omega | exact hb trivial))) | fail)
   refine ⟨rfl, ?_⟩
   refine ⟨by repeat' (first | exact trivial | exact FinA.one (FinB.cell (FinC.same rfl)) | exact FinA.one (FinB.cell FinC.nil) | exact FinA.bound rfl | exact FinA.one (FinB.cell (FinC.own rfl rfl rfl rfl)) | exact FinA.one (FinB.cell (FinC.v (by first | rfl | (((try dsimp only); first | omega | (rw [h8]; done) | (congr 1 <;> omega)))))) | exact FinA.one (FinB.cell (FinC.ow rfl (by first | rfl | (((try dsimp only); first | omega | (rw [h8]; done) | (congr 1 <;> omega)))))) | exact FinA.one (FinB.agg' rfl rfl) | refine ⟨⟨_, rfl, ?_⟩, ?_⟩), by repeat' (first | exact trivial | refine ⟨⟨_, rfl, by first | rfl | (((try dsimp only); first | omega | (rw [h8]; done) | (congr 1 <;> omega)); done) | (simp [renO, *]; done)⟩, by first | rfl | assumption, ?_⟩), rfl⟩
  ·have hle' : ¬ (I : Int) ≤ (J : Int) := by omega
   repeat' (first | ((first | apply o_do | apply d_do | apply d_yes rfl rfl rfl); exact lsq) | refine a_seq ?_ | refine a_region ?_ | refine o_nil ?_ | refine a_block ?_ | refine a_ret ?_ | refine a_exit ?_ | refine a_skip ?_ | refine a_draw mixed ?_ | refine d_nil (by kernel_rfl) ?_ | refine o_yes rfl rfl rfl ?_ | refine o_no rfl rfl rfl (by decide) ?_ | refine o_no' rfl rfl rfl ?_ | refine a_condT rfl ?_ | refine a_condF rfl ?_ | refine d_no rfl rfl rfl (by decide) ?_ | refine d_no' rfl rfl rfl ?_ | (refine wq2 (fun hb => ?_) (fun hb => ?_) <;> (simp only [hb]; try simp only [hbs, ne_eq] at hb; try (exfalso; first | omega | exact hb trivial))) | fail)
   refine ⟨rfl, ?_⟩
   refine ⟨by repeat' (first | exact trivial | exact FinA.one (FinB.cell (FinC.same rfl)) | exact FinA.one (FinB.cell FinC.nil) | exact FinA.bound rfl | exact FinA.one (FinB.cell (FinC.own rfl rfl rfl rfl)) | exact FinA.one (FinB.cell (FinC.v (by first | rfl | (((try dsimp only); first | omega | (rw [h8]; done) | (congr 1 <;> omega)))))) | exact FinA.one (FinB.cell (FinC.ow rfl (by first | rfl | (((try dsimp only); first | omega | (rw [h8]; done) | (congr 1 <;> omega)))))) | exact FinA.one (FinB.agg' rfl rfl) | refine ⟨⟨_, rfl, ?_⟩, ?_⟩), by repeat' (first | exact trivial | refine ⟨⟨_, rfl, by first | rfl | (((try dsimp only); first | omega | (rw [h8]; done) | (congr 1 <;> omega)); done) | (simp [renO, *]; done)⟩, by first | rfl | assumption, ?_⟩), rfl⟩
 clear hc hgo
 by_cases hJI : J < I
 ·rw [if_pos hJI] at hRES
  obtain ⟨x1, z1, y1, hx1, hz1, h11, h21, q11, q21, h61, h51, q31, h81, hsl1, hdm1⟩ := sw_facts l1 J a l.length (by omega) (by omega) hl_l1
  have px1 := pureU x1
  have pz1 := pureU z1
  subst hRES
  dsimp only
  rw [← h81]
  repeat' (first | ((first | apply o_do | apply d_do | apply d_yes rfl rfl rfl); first | exact ls_indexAddr_own tab_ok rfl rfl hdm1 rfl rfl rfl q21 rfl | exact ls_indexAddr_own tab_ok rfl rfl hdm1 rfl rfl rfl q11 rfl | exact ls_load_eref tab_ok rfl rfl hdm1 h21 rfl rfl rfl rfl | exact ls_load_eref tab_ok rfl rfl hdm1 h11 rfl rfl rfl rfl | exact ls_store_eref (cs' := uv z1) tab_ok rfl rfl rfl hdm1 h11 rfl rfl pz1 rfl rfl rfl rfl | exact ls_indexAddr_own tab_ok rfl rfl h51 rfl rfl rfl q31 rfl | exact ls_store_eref (cs' := uv x1) tab_ok rfl rfl rfl h51 h61 rfl rfl px1 rfl rfl rfl rfl | exact lsq) | refine a_seq ?_ | refine a_region ?_ | refine o_nil ?_ | refine a_block ?_ | refine a_ret ?_ | refine a_exit ?_ | refine a_skip ?_ | refine a_draw mixed ?_ | refine d_nil (by kernel_rfl) ?_ | refine o_yes rfl rfl rfl ?_ | refine o_no rfl rfl rfl (by decide) ?_ | refine o_no' rfl rfl rfl ?_ | refine a_condT rfl ?_ | refine a_condF rfl ?_ | refine d_no rfl rfl rfl (by decide) ?_ | refine d_no' rfl rfl rfl ?_ | (refine wq2 (fun hb => ?_) (fun hb => ?_) <;> (simp only [hb]; try simp only [hbs, ne_eq] at hb; try (exfalso; first | omega | exact hb trivial))) | fail)
  refine rq rfl ?_
  exact fnq
 rw [if_neg hJI] at hRES
 have hb1 : b ≤ l1.length := by omega
 obtain ⟨k1, k2⟩ := hP.2.2.2 (by omega)
 obtain ⟨k3, k4⟩ := hP.1.swap hb1 (by omega) k1 k2
 obtain ⟨x2, z2, y2, hx2, hz2, h12, h22, q12, q22, h62, h52, q32, h82, hsl2, hdm2⟩ := sw_facts l1 I J l.length (by omega) (by omega) hl_l1
 have px2 := pureU x2
 have pz2 := pureU z2
 obtain ⟨RR, hRR⟩ : ∃ RR, RR = parL a (b - a) (swp 0 l1 I J) (I + 1) (J - 1) := ⟨_, rfl⟩
 rw [← hRR] at hRES
 generalize swp 0 l1 I J = D1 at *
 have hl_D1 := hsl2
 have hJI' : ¬ (J : Int) < (I : Int) := by omega
 repeat' (first | ((first | apply o_do | apply d_do | apply d_yes rfl rfl rfl); first | exact ls_indexAddr_own tab_ok rfl rfl hdm2 rfl rfl rfl q22 rfl | exact ls_indexAddr_own tab_ok rfl rfl hdm2 rfl rfl rfl q12 rfl | exact ls_load_eref tab_ok rfl rfl hdm2 h22 rfl rfl rfl rfl | exact ls_load_eref tab_ok rfl rfl hdm2 h12 rfl rfl rfl rfl | exact ls_store_eref (cs' := uv z2) tab_ok rfl rfl rfl hdm2 h12 rfl rfl pz2 rfl rfl rfl rfl | exact ls_indexAddr_own tab_ok rfl rfl h52 rfl rfl rfl q32 rfl | exact ls_store_eref (cs' := uv x2) tab_ok rfl rfl rfl h52 h62 rfl rfl px2 rfl rfl rfl rfl | exact lsq) | refine a_seq ?_ | refine a_region ?_ | refine o_nil ?_ | refine a_block ?_ | refine a_ret ?_ | refine a_exit ?_ | refine a_skip ?_ | refine a_draw mixed ?_ | refine d_nil (by kernel_rfl) ?_ | refine o_yes rfl rfl rfl ?_ | refine o_no rfl rfl rfl (by decide) ?_ | refine o_no' rfl rfl rfl ?_ | refine a_condT rfl ?_ | refine a_condF rfl ?_ | refine d_no rfl rfl rfl (by decide) ?_ | refine d_no' rfl rfl rfl ?_ | (refine wq2 (fun hb => ?_) (fun hb => ?_) <;> (simp only [hb]; try simp only [hbs, ne_eq] at hb; try (exfalso; first | omega | exact hb trivial))) | fail)
 refine a_loop (X := {p : Nat × List Nat × Nat × Nat // RR = parL a p.1 p.2.1 p.2.2.1 p.2.2.2 ∧ p.2.1.length = l.length ∧ Par a b p.2.1 p.2.2.1 p.2.2.2 ∧ p.2.2.2 + 2 ≤ p.2.2.1 + p.1})
  (fun p => ⟨[(0, .own 0 l.length), (1, .v (.int .i64 a)), (2, .v (.int .i64 b)), (10, .v (.int .i64 p.1.2.2.1)), (11, .v (.int .i64 p.1.2.2.2))], [(0, .row 46 1 (p.1.2.1.map uv))]⟩) (fun p => p.1.2.2.2 + 1 - p.1.2.2.1) ⟨(b - a, D1, I + 1, J - 1), hRR, hl_D1, k3, by dsimp only; omega⟩ ?_ ?_
 ·refine ⟨by repeat' (first | exact trivial | exact FinA.one (FinB.cell (FinC.same rfl)) | exact FinA.one (FinB.cell FinC.nil) | exact FinA.bound rfl | exact FinA.one (FinB.cell (FinC.own rfl rfl rfl rfl)) | exact FinA.one (FinB.cell (FinC.v (by first | rfl | (((try dsimp only); first | (rw [h82]; done) | (congr 1 <;> omega)))))) | exact FinA.one (FinB.cell (FinC.ow rfl (by first | rfl | (((try dsimp only); first | (rw [h82]; done) | (congr 1 <;> omega)))))) | exact FinA.one (FinB.agg' rfl rfl) | refine ⟨⟨_, rfl, ?_⟩, ?_⟩), by repeat' (first | exact trivial | refine ⟨⟨_, rfl, by first | rfl | (((try dsimp only); first | (rw [h82]; done) | (congr 1 <;> omega)); done) | (simp [renO, *]; done)⟩, by first | rfl | assumption, ?_⟩), rfl⟩
 rintro ⟨⟨u, d, i, j⟩, hRR, hl_d, hpar, hu⟩
 dsimp only at hRR hl_d hpar hu ⊢
 have hij := hpar.ij
 have hjb := hpar.jb
 have hai := hpar.ai
 have haj := hpar.aj
 obtain ⟨u', rfl⟩ : ∃ u', u = u' + 1 := ⟨u - 1, by omega⟩
 simp only [parL] at hRR
 have hpar' := hpar.scan rfl rfl
 obtain ⟨i', hi'⟩ : ∃ i', i' = scI d a j (j + 1 - i) i := ⟨_, rfl⟩
 rw [← hi'] at hRR hpar'
 obtain ⟨j', hj'⟩ : ∃ j', j' = scJ d a i' j := ⟨_, rfl⟩
 rw [← hj'] at hRR hpar'
 have hai' := hpar'.1.ai
 have haj' := hpar'.1.aj
 have hij' := hpar'.1.ij
 have hjb' := hpar'.1.jb
 have hii := hpar'.2.1
 have hjj := hpar'.2.2.1
 have hm_d : l.length = (d.map uv).length := by simp [hl_d]
 have qa_d : a < (d.map uv).length := by simp; omega
 have ha_d := uv_at (l := d) (i := a) (by omega)
 repeat' (first | ((first | apply o_do | apply d_do | apply d_yes rfl rfl rfl); exact lsq) | refine a_seq ?_ | refine a_region ?_ | refine o_nil ?_ | refine a_block ?_ | refine a_ret ?_ | refine a_exit ?_ | refine a_skip ?_ | refine a_draw mixed ?_ | refine d_nil (by kernel_rfl) ?_ | refine o_yes rfl rfl rfl ?_ | refine o_no rfl rfl rfl (by decide) ?_ | refine o_no' rfl rfl rfl ?_ | refine a_condT rfl ?_ | refine a_condF rfl ?_ | refine d_no rfl rfl rfl (by decide) ?_ | refine d_no' rfl rfl rfl ?_ | (refine wq2 (fun hb => ?_) (fun hb => ?_) <;> (simp only [hb]; try simp only [hbs, ne_eq] at hb; try (exfalso; first | omega | exact hb trivial))) | fail)
 refine a_loop (X := {p : Nat × Nat // i' = scI d a (j) p.1 p.2 ∧ j + 1 ≤ p.2 + p.1 ∧ a < p.2 ∧ p.2 ≤ j + 1})
  (fun p => ⟨[(0, .own 0 l.length), (1, .v (.int .i64 a)), (2, .v (.int .i64 b)), (10, .v (.int .i64 p.1.2)), (11, .v (.int .i64 (j : Int)))], [(0, .row 46 1 (d.map uv))]⟩) (fun p => j + 1 - p.1.2) ⟨(j + 1 - i, i), hi', by dsimp only; omega, by dsimp only; omega, by dsimp only; omega⟩ ?_ ?_
 ·refine ⟨by repeat' (first | exact trivial | exact FinA.one (FinB.cell (FinC.same rfl)) | exact FinA.one (FinB.cell FinC.nil) | exact FinA.bound rfl | exact FinA.one (FinB.cell (FinC.own rfl rfl rfl rfl)) | exact FinA.one (FinB.cell (FinC.v (by first | rfl | (((try dsimp only); first | omega | (rw [h8]; done) | (congr 1 <;> omega)))))) | exact FinA.one (FinB.cell (FinC.ow rfl (by first | rfl | (((try dsimp only); first | omega | (rw [h8]; done) | (congr 1 <;> omega)))))) | exact FinA.one (FinB.agg' rfl rfl) | refine ⟨⟨_, rfl, ?_⟩, ?_⟩), by repeat' (first | exact trivial | refine ⟨⟨_, rfl, by first | rfl | (((try dsimp only); first | omega | (rw [h8]; done) | (congr 1 <;> omega)); done) | (simp [renO, *]; done)⟩, by first | rfl | assumption, ?_⟩), rfl⟩
 rintro ⟨⟨g, i0⟩, hc, hg, hai, hib⟩
 dsimp only at hc hg hai hib ⊢
 by_cases hgo : i0 ≤ j ∧ d.getD i0 0 < d.getD a 0
 ·obtain ⟨g', rfl⟩ : ∃ g', g = g' + 1 := ⟨g - 1, by omega⟩
  simp only [scI] at hc
  rw [if_pos hgo] at hc
  have hi := uv_at (l := d) (i := i0) (by omega)
  have qi : i0 < (d.map uv).length := by simp; omega
  have hL := p_Less (d.getD i0 0) (d.getD a 0)
  rw [decide_eq_true hgo.2] at hL
  have hle : (i0 : Int) ≤ (j : Int) := by omega
  generalize d.getD i0 0 = x0 at *
  generalize d.getD a 0 = x1 at *
  repeat' (first | ((first | apply o_do | apply d_do | apply d_yes rfl rfl rfl); first | exact ls_indexAddr_own tab_ok rfl rfl hm_d rfl rfl rfl qi rfl | exact ls_indexAddr_own tab_ok rfl rfl hm_d rfl rfl rfl qa_d rfl | exact ls_load_eref tab_ok rfl rfl hm_d hi rfl rfl rfl rfl | exact ls_load_eref tab_ok rfl rfl hm_d ha_d rfl rfl rfl rfl | exact lsc (hL) | exact lsq) | refine a_seq ?_ | refine a_region ?_ | refine o_nil ?_ | refine a_block ?_ | refine a_ret ?_ | refine a_exit ?_ | refine a_skip ?_ | refine a_draw mixed ?_ | refine d_nil (by kernel_rfl) ?_ | refine o_yes rfl rfl rfl ?_ | refine o_no rfl rfl rfl (by decide) ?_ | refine o_no' rfl rfl rfl ?_ | refine a_condT rfl ?_ | refine a_condF rfl ?_ | refine d_no rfl rfl rfl (by decide) ?_ | refine d_no' rfl rfl rfl ?_ | (refine wq2 (fun hb => ?_) (fun hb => ?_) <;> (simp only [hb]; try simp only [hbs, ne_eq] at hb; try (exfalso; first | omega | exact hb trivial))) | fail)
  refine ⟨⟨(g', i0 + 1), hc, by dsimp only; omega, by dsimp only; omega, by dsimp only; omega⟩, by dsimp only; omega, ?_⟩
  refine ⟨by repeat' (first | exact trivial | exact FinA.one (FinB.cell (FinC.same rfl)) | exact FinA.one (FinB.cell FinC.nil) | exact FinA.bound rfl | exact FinA.one (FinB.cell (FinC.own rfl rfl rfl rfl)) | exact FinA.one (FinB.cell (FinC.v (by first | rfl | (((try dsimp only); first | omega | (rw [h8]; done) | (congr 1 <;> omega)))))) | exact FinA.one (FinB.cell (FinC.ow rfl (by first | rfl | (((try dsimp only); first | omega | (rw [h8]; done) | (congr 1 <;> omega)))))) | exact FinA.one (FinB.agg' rfl rfl) | refine ⟨⟨_, rfl, ?_⟩, ?_⟩), by repeat' (first | exact trivial | refine ⟨⟨_, rfl, by first | rfl | (((try dsimp only); first | omega | (rw [h8]; done) | (congr 1 <;> omega)); done) | (simp [renO, *]; done)⟩, by first | rfl | assumption, ?_⟩), rfl⟩
 have hIi : i' = i0 := by
  rw [hc]
  cases g with
  | zero => rfl
  | succ g => simp only [scI]; rw [if_neg hgo]
 subst hIi
 refine a_brk ⟨[(0, .own 0 l.length), (1, .v (.int .i64 a)), (2, .v (.int .i64 b)), (10, .v (.int .i64 i')), (11, .v (.int .i64 (j : Int)))], [(0, .row 46 1 (d.map uv))]⟩ ?_ ?_
 ·by_cases hle : i' ≤ j
  ·have hi := uv_at (l := d) (i := i') (by omega)
   have qi : i' < (d.map uv).length := by simp; omega
   have hL := p_Less (d.getD i' 0) (d.getD a 0)
   rw [decide_eq_false (fun h => hgo ⟨hle, h⟩)] at hL
   have hle' : (i' : Int) ≤ (j : Int) := by omega
   generalize d.getD i' 0 = x0 at *
   generalize d.getD a 0 = x1 at *
   repeat' (first | ((first | apply o_do | apply d_do | apply d_yes rfl rfl rfl); first | exact ls_indexAddr_own tab_ok rfl rfl hm_d rfl rfl rfl qi rfl | exact ls_indexAddr_own tab_ok rfl rfl hm_d rfl rfl rfl qa_d rfl | exact ls_load_eref tab_ok rfl rfl hm_d hi rfl rfl rfl rfl | exact ls_load_eref tab_ok rfl rfl hm_d ha_d rfl rfl rfl rfl | exact lsc (hL) | exact lsq) | refine a_seq ?_ | refine a_region ?_ | refine o_nil ?_ | refine a_block ?_ | refine a_ret ?_ | refine a_exit ?_ | refine a_skip ?_ | refine a_draw mixed ?_ | refine d_nil (by kernel_rfl) ?_ | refine o_yes rfl rfl rfl ?_ | refine o_no rfl rfl rfl (by decide) ?_ | refine o_no' rfl rfl rfl ?_ | refine a_condT rfl ?_ | refine a_condF rfl ?_ | refine d_no rfl rfl rfl (by decide) ?_ | refine d_no' rfl rfl rfl ?_ | (refine wq2 (fun hb => ?_) (fun hb => ?_) <;> (simp only [hb]; try simp only [hbs, ne_eq] at hb; try (exfalso; first | omega | exact hb trivial))) | fail)
   refine ⟨rfl, ?_⟩
   refine ⟨by repeat' (first | exact trivial | exact FinA.one (FinB.cell (FinC.same rfl)) | exact FinA.one (FinB.cell FinC.nil) | exact FinA.bound rfl | exact FinA.one (FinB.cell (FinC.own rfl rfl rfl rfl)) | exact FinA.one (FinB.cell (FinC.v (by first | rfl | (((try dsimp only); first | omega | (rw [h8]; done) | (congr 1 <;> omega)))))) | exact FinA.one (FinB.cell (FinC.ow rfl (by first | rfl | (((try dsimp only); first | omega | (rw [h8]; done) | (congr 1 <;> omega)))))) | exact FinA.one (FinB.agg' rfl rfl) | refine ⟨⟨_, rfl, ?_⟩, ?_⟩), by repeat' (first | exact trivial | refine ⟨⟨_, rfl, by first | rfl | (((try dsimp only); first | omega | (rw [h8]; done) | (congr 1 <;> omega)); done) | (simp [renO, *]; done)⟩, by first | rfl | assumption, ?_⟩), rfl⟩
  ·have hle' : ¬ (i' : Int) ≤ (j : Int) := by omega
   repeat' (first | ((first | apply o_do | apply d_do | apply d_yes rfl rfl rfl); exact lsq) | refine a_seq ?_ | refine a_region ?_ | refine o_nil ?_ | refine a_block ?_ | refine a_ret ?_ | refine a_exit ?_ | refine a_skip ?_ | refine a_draw mixed ?_ | refine d_nil (by kernel_rfl) ?_ | refine o_yes rfl rfl rfl ?_ | refine o_no rfl rfl rfl (by decide) ?_ | refine o_no' rfl rfl rfl ?_ | refine a_condT rfl ?_ | refine a_condF rfl ?_ | refine d_no rfl rfl rfl (by decide) ?_ | refine d_no' rfl rfl rfl ?_ | (refine wq2 (fun hb => ?_) (fun hb => ?_) <;> (simp only [hb]; try simp only [hbs, ne_eq] at hb; try (exfalso; first | omega | exact hb trivial))) | fail)
   refine ⟨rfl, ?_⟩
   refine ⟨by repeat' (first | exact trivial | exact FinA.one (FinB.cell (FinC.same rfl)) | exact FinA.one (FinB.cell FinC.nil) | exact FinA.bound rfl | exact FinA.one (FinB.cell (FinC.own rfl rfl rfl rfl)) | exact FinA.one (FinB.cell (FinC.v (by first | rfl | (((try dsimp only); first | omega | (rw [h8]; done) | (congr 1 <;> omega)))))) | exact FinA.one (FinB.cell (FinC.ow rfl (by first | rfl | (((try dsimp only); first | omega | (rw [h8]; done) | (congr 1 <;> omega)))))) | exact FinA.one (FinB.agg' rfl rfl) | refine ⟨⟨_, rfl, ?_⟩, ?_⟩), by repeat' (first | exact trivial | refine ⟨⟨_, rfl, by first | rfl | (((try dsimp only); first | omega | (rw [h8]; done) | (congr 1 <;> omega)); done) | (simp [renO, *]; done)⟩, by first | rfl | assumption, ?_⟩), rfl⟩
 clear hc hgo
 repeat' (first | ((first | apply o_do | apply d_do | apply d_yes rfl rfl rfl); exact lsq) | refine a_seq ?_ | refine a_region ?_ | refine o_nil ?_ | refine a_block ?_ | refine a_ret ?_ | refine a_exit ?_ | refine a_skip ?_ | refine a_draw mixed ?_ | refine d_nil (by kernel_rfl) ?_ | refine o_yes rfl rfl rfl ?_ | refine o_no rfl rfl rfl (by decide) ?_ | refine o_no' rfl rfl rfl ?_ | refine a_condT rfl ?_ | refine a_condF rfl ?_ | refine d_no rfl rfl rfl (by decide) ?_ | refine d_no' rfl rfl rfl ?_ | (refine wq2 (fun hb => ?_) (fun hb => ?_) <;> (simp only [hb]; try simp only [hbs, ne_eq] at hb; try (exfalso; first | omega | exact hb trivial))) | fail)
 refine a_loop (X := {q : Nat // j' = scJ d a i' q ∧ q < b ∧ i' ≤ q + 1})
  (fun q => ⟨[(0, .own 0 l.length), (1, .v (.int .i64 a)), (2, .v (.int .i64 b)), (10, .v (.int .i64 i')), (11, .v (.int .i64 q.1))], [(0, .row 46 1 (d.map uv))]⟩) (fun q => q.1) ⟨j, hj', by omega, by omega⟩ ?_ ?_
 ·refine ⟨by repeat' (first | exact trivial | exact FinA.one (FinB.cell (FinC.same rfl)) | exact FinA.one (FinB.cell FinC.nil) | exact FinA.bound rfl | exact FinA.one (FinB.cell (FinC.own rfl rfl rfl rfl)) | exact FinA.one (FinB.cell (FinC.v (by first | rfl | (((try dsimp only); first | omega | (rw [h8]; done) | (congr 1 <;> omega)))))) | exact FinA.one (FinB.cell (FinC.ow rfl (by first | rfl | (((try dsimp only); first | omega | (rw [h8]; done) | (congr 1 <;> omega)))))) | exact FinA.one (FinB.agg' rfl rfl) | refine ⟨⟨_, rfl, ?_⟩, ?_⟩), by repeat' (first | exact trivial | refine ⟨⟨_, rfl, by first | rfl | (((try dsimp only); first | omega | (rw [h8]; done) | (congr 1 <;> omega)); done) | (simp [renO, *]; done)⟩, by first | rfl | assumption, ?_⟩), rfl⟩
 rintro ⟨q0, hc, hqb, hIq⟩
 dsimp only at hc hqb hIq ⊢
 by_cases hgo : i' ≤ q0 ∧ ¬ d.getD q0 0 < d.getD a 0
 ·obtain ⟨q', rfl⟩ : ∃ q', q0 = q' + 1 := ⟨q0 - 1, by omega⟩
  simp only [scJ] at hc
  rw [if_pos hgo] at hc
  have hi := uv_at (l := d) (i := q' + 1) (by omega)
  have qi : q' + 1 < (d.map uv).length := by simp; omega
  have hL := p_Less (d.getD (q' + 1) 0) (d.getD a 0)
  rw [decide_eq_false hgo.2] at hL
  have hle : (i' : Int) ≤ ((q' + 1 : Nat) : Int) := by omega
  generalize d.getD (q' + 1) 0 = x0 at *
  generalize d.getD a 0 = x1 at *
  repeat' (first | ((first | apply o_do | apply d_do | apply d_yes rfl rfl rfl); first | exact ls_indexAddr_own tab_ok rfl rfl hm_d rfl rfl rfl qi rfl | exact ls_indexAddr_own tab_ok rfl rfl hm_d rfl rfl rfl qa_d rfl | exact ls_load_eref tab_ok rfl rfl hm_d hi rfl rfl rfl rfl | exact ls_load_eref tab_ok rfl rfl hm_d ha_d rfl rfl rfl rfl | exact lsc (hL) | exact lsq) | refine a_seq ?_ | refine a_region ?_ | refine o_nil ?_ | refine a_block ?_ | refine a_ret ?_ | refine a_exit ?_ | refine a_skip ?_ | refine a_draw mixed ?_ | refine d_nil (by kernel_rfl) ?_ | refine o_yes rfl rfl rfl ?_ | refine o_no rfl rfl rfl (by decide) ?_ | refine o_no' rfl rfl rfl ?_ | refine a_condT rfl ?_ | refine a_condF rfl ?_ | refine d_no rfl rfl rfl (by decide) ?_ | refine d_no' rfl rfl rfl ?_ | (refine wq2 (fun hb => ?_) (fun hb => ?_) <;> (simp only [hb]; try simp only [hbs, ne_eq] at hb; try (exfalso; first | omega | exact hb trivial))) | fail)
  refine ⟨⟨q', hc, by omega, by omega⟩, by dsimp only; omega, ?_⟩
  refine ⟨by repeat' (first | exact trivial | exact FinA.one (FinB.cell (FinC.same rfl)) | exact FinA.one (FinB.cell FinC.nil) | exact FinA.bound rfl | exact FinA.one (FinB.cell (FinC.own rfl rfl rfl rfl)) | exact FinA.one (FinB.cell (FinC.v (by first | rfl | (((try dsimp only); first | omega | (rw [h8]; done) | (congr 1 <;> omega)))))) | exact FinA.one (FinB.cell (FinC.ow rfl (by first | rfl | (((try dsimp only); first | omega | (rw [h8]; done) | (congr 1 <;> omega)))))) | exact FinA.one (FinB.agg' rfl rfl) | refine ⟨⟨_, rfl, ?_⟩, ?_⟩), by repeat' (first | exact trivial | refine ⟨⟨_, rfl, by first | rfl | (((try dsimp only); first | omega | (rw [h8]; done) | (congr 1 <;> omega)); done) | (simp [renO, *]; done)⟩, by first | rfl | assumption, ?_⟩), rfl⟩
 have hJq : j' = q0 := by
  rw [hc]
  cases q0 with
  | zero => rfl
  | succ q0 => simp only [scJ]; rw [if_neg hgo]
 subst hJq
 refine a_brk ⟨[(0, .own 0 l.length), (1, .v (.int .i64 a)), (2, .v (.int .i64 b)), (10, .v (.int .i64 i')), (11, .v (.int .i64 j'))], [(0, .row 46 1 (d.map uv))]⟩ ?_ ?_
 ·by_cases hle : i' ≤ j'
  ·have hi := uv_at (l := d) (i := j') (by omega)
   have qi : j' < (d.map uv).length := by simp; omega
   have hL := p_Less (d.getD j' 0) (d.getD a 0)
   rw [decide_eq_true (Decidable.byContradiction fun h => hgo ⟨hle, h⟩)] at hL
   have hle' : (i' : Int) ≤ (j' : Int) := by omega
   generalize d.getD j' 0 = x0 at *
   generalize d.getD a 0 = x1 at *
   repeat' (first | ((first | apply o_do | apply d_do | apply d_yes rfl rfl rfl); first | exact ls_indexAddr_own tab_ok rfl rfl hm_d rfl rfl rfl qi rfl | exact ls_indexAddr_own tab_ok rfl rfl hm_d rfl rfl rfl qa_d rfl | exact ls_load_eref tab_ok rfl rfl hm_d hi rfl rfl rfl rfl | exact ls_load_eref tab_ok rfl rfl hm_d ha_d rfl rfl rfl rfl | exact lsc (hL) | exact lsq) | refine a_seq ?_ | refine a_region ?_ | refine o_nil ?_ | refine a_block ?_ | refine a_ret ?_ | refine a_exit ?_ | refine a_skip ?_ | refine a_draw mixed ?_ | refine d_nil (by kernel_rfl) ?_ | refine o_yes rfl rfl rfl ?_ | refine o_no rfl rfl rfl (by decide) ?_ | refine o_no' rfl rfl rfl ?_ | refine a_condT rfl ?_ | refine a_condF rfl ?_ | refine d_no rfl rfl rfl (by decide) ?_ | refine d_no' rfl rfl rfl ?_ | (refine wq2 (fun hb => ?_) (fun hb => ?_) <;> (simp only [hb]; try simp only [hbs, ne_eq] at hb; try (exfalso; first | omega | exact hb trivial))) | fail)
   refine ⟨rfl, ?_⟩
   refine ⟨by repeat' (first | exact trivial | exact FinA.one (FinB.cell (FinC.same rfl)) | exact FinA.one (FinB.cell FinC.nil) | exact FinA.bound rfl | exact FinA.one (FinB.cell (FinC.own rfl rfl rfl rfl)) | exact FinA.one (FinB.cell (FinC.v (by first | rfl | (((try dsimp only); first | omega | (rw [h8]; done) | (congr 1 <;> omega)))))) | exact FinA.one (FinB.cell (FinC.ow rfl (by first | rfl | (((try dsimp only); first | omega | (rw [h8]; done) | (congr 1 <;> omega)))))) | exact FinA.one (FinB.agg' rfl rfl) | refine ⟨⟨_, rfl, ?_⟩, ?_⟩), by repeat' (first | exact trivial | refine ⟨⟨_, rfl, by first | rfl | (((try dsimp only); first | omega | (rw [h8]; done) | (congr 1 <;> omega)); done) | (simp [renO, *]; done)⟩, by first | rfl | assumption, ?_⟩), rfl⟩
  ·have hle' : ¬ (i' : Int) ≤ (j' : Int) := by omega
   repeat' (first | ((first | apply o_do | apply d_do | apply d_yes rfl rfl rfl); exact lsq) | refine a_seq ?_ | refine a_region ?_ | refine o_nil ?_ | refine a_block ?_ | refine a_ret ?_ | refine a_exit ?_ | refine a_skip ?_ | refine a_draw mixed ?_ | refine d_nil (by kernel_rfl) ?_ | refine o_yes rfl rfl rfl ?_ | refine o_no rfl rfl rfl (by decide) ?_ | refine o_no' rfl rfl rfl ?_ | refine a_condT rfl ?_ | refine a_condF rfl ?_ | refine d_no rfl rfl rfl (by decide) ?_ | refine d_no' rfl rfl rfl ?_ | (refine wq2 (fun hb => ?_) (fun hb => ?_) <;> (simp only [hb]; try simp only [hbs, ne_eq] at hb; try (exfalso; first | omega | exact hb trivial))) | fail)
   refine ⟨rfl, ?_⟩
   refine ⟨by repeat' (first | exact trivial | exact FinA.one (FinB.cell (FinC.same rfl)) | exact FinA.one (FinB.cell FinC.nil) | exact FinA.bound rfl | exact FinA.one (FinB.cell (FinC.own rfl rfl rfl rfl)) | exact FinA.one (FinB.cell (FinC.v (by first | rfl | (((try dsimp only); first | omega | (rw [h8]; done) | (congr 1 <;> omega)))))) | exact FinA.one (FinB.cell (FinC.ow rfl (by first | rfl | (((try dsimp only); first | omega | (rw [h8]; done) | (congr 1 <;> omega)))))) | exact FinA.one (FinB.agg' rfl rfl) | refine ⟨⟨_, rfl, ?_⟩, ?_⟩), by repeat' (first | exact trivial | refine ⟨⟨_, rfl, by first | rfl | (((try dsimp only); first | omega | (rw [h8]; done) | (congr 1 <;> omega)); done) | (simp [renO, *]; done)⟩, by first | rfl | assumption, ?_⟩), rfl⟩
 clear hc hgo
 by_cases hji : j' < i'
 ·rw [if_pos hji] at hRR
  subst hRR
  obtain ⟨x3, z3, y3, hx3, hz3, h13, h23, q13, q23, h63, h53, q33, h83, hsl3, hdm3⟩ := sw_facts d j' a l.length (by omega) (by omega) hl_d
  have px3 := pureU x3
  have pz3 := pureU z3
  subst hRES
  dsimp only
  rw [← h83]
  repeat' (first | ((first | apply o_do | apply d_do | apply d_yes rfl rfl rfl); first | exact ls_indexAddr_own tab_ok rfl rfl hdm3 rfl rfl rfl q23 rfl | exact ls_indexAddr_own tab_ok rfl rfl hdm3 rfl rfl rfl q13 rfl | exact ls_load_eref tab_ok rfl rfl hdm3 h23 rfl rfl rfl rfl | exact ls_load_eref tab_ok rfl rfl hdm3 h13 rfl rfl rfl rfl | exact ls_store_eref (cs' := uv z3) tab_ok rfl rfl rfl hdm3 h13 rfl rfl pz3 rfl rfl rfl rfl | exact ls_indexAddr_own tab_ok rfl rfl h53 rfl rfl rfl q33 rfl | exact ls_store_eref (cs' := uv x3) tab_ok rfl rfl rfl h53 h63 rfl rfl px3 rfl rfl rfl rfl | exact lsq) | refine a_seq ?_ | refine a_region ?_ | refine o_nil ?_ | refine a_block ?_ | refine a_ret ?_ | refine a_exit ?_ | refine a_skip ?_ | refine a_draw mixed ?_ | refine d_nil (by kernel_rfl) ?_ | refine o_yes rfl rfl rfl ?_ | refine o_no rfl rfl rfl (by decide) ?_ | refine o_no' rfl rfl rfl ?_ | refine a_condT rfl ?_ | refine a_condF rfl ?_ | refine d_no rfl rfl rfl (by decide) ?_ | refine d_no' rfl rfl rfl ?_ | (refine wq2 (fun hb => ?_) (fun hb => ?_) <;> (simp only [hb]; try simp only [hbs, ne_eq] at hb; try (exfalso; first | omega | exact hb trivial))) | fail)
  refine rq rfl ?_
  exact fnq
 ·rw [if_neg hji] at hRR
  obtain ⟨k1, k2⟩ := hpar'.2.2.2 (by omega)
  obtain ⟨k3, k4⟩ := hpar'.1.swap (by omega) (by omega) k1 k2
  obtain ⟨x4, z4, y4, hx4, hz4, h14, h24, q14, q24, h64, h54, q34, h84, hsl4, hdm4⟩ := sw_facts d i' j' l.length (by omega) (by omega) hl_d
  have px4 := pureU x4
  have pz4 := pureU z4
  generalize swp 0 d i' j' = d2 at *
  have hji' : ¬ (j' : Int) < (i' : Int) := by omega
  repeat' (first | ((first | apply o_do | apply d_do | apply d_yes rfl rfl rfl); first | exact ls_indexAddr_own tab_ok rfl rfl hdm4 rfl rfl rfl q24 rfl | exact ls_indexAddr_own tab_ok rfl rfl hdm4 rfl rfl rfl q14 rfl | exact ls_load_eref tab_ok rfl rfl hdm4 h24 rfl rfl rfl rfl | exact ls_load_eref tab_ok rfl rfl hdm4 h14 rfl rfl rfl rfl | exact ls_store_eref (cs' := uv z4) tab_ok rfl rfl rfl hdm4 h14 rfl rfl pz4 rfl rfl rfl rfl | exact ls_indexAddr_own tab_ok rfl rfl h54 rfl rfl rfl q34 rfl | exact ls_store_eref (cs' := uv x4) tab_ok rfl rfl rfl h54 h64 rfl rfl px4 rfl rfl rfl rfl | exact lsq) | refine a_seq ?_ | refine a_region ?_ | refine o_nil ?_ | refine a_block ?_ | refine a_ret ?_ | refine a_exit ?_ | refine a_skip ?_ | refine a_draw mixed ?_ | refine d_nil (by kernel_rfl) ?_ | refine o_yes rfl rfl rfl ?_ | refine o_no rfl rfl rfl (by decide) ?_ | refine o_no' rfl rfl rfl ?_ | refine a_condT rfl ?_ | refine a_condF rfl ?_ | refine d_no rfl rfl rfl (by decide) ?_ | refine d_no' rfl rfl rfl ?_ | (refine wq2 (fun hb => ?_) (fun hb => ?_) <;> (simp only [hb]; try simp only [hbs, ne_eq] at hb; try (exfalso; first | omega | exact hb trivial))) | fail)
  refine ⟨⟨(u', d2, i' + 1, j' - 1), hRR, hsl4, k3, by dsimp only; omega⟩, by dsimp only; omega, ?_⟩
  refine ⟨by repeat' (first | exact trivial | exact FinA.one (FinB.cell (FinC.same rfl)) | exact FinA.one (FinB.cell FinC.nil) | exact FinA.bound rfl | exact FinA.one (FinB.cell (FinC.own rfl rfl rfl rfl)) | exact FinA.one (FinB.cell (FinC.v (by first | rfl | (((try dsimp only); first | (rw [h84]; done) | (congr 1 <;> omega)))))) | exact FinA.one (FinB.cell (FinC.ow rfl (by first | rfl | (((try dsimp only); first | (rw [h84]; done) | (congr 1 <;> omega)))))) | exact FinA.one (FinB.agg' rfl rfl) | refine ⟨⟨_, rfl, ?_⟩, ?_⟩), by repeat' (first | exact trivial | refine ⟨⟨_, rfl, by first | rfl | (((try dsimp only); first | (rw [h84]; done) | (congr 1 <;> omega)); done) | (simp [renO, *]; done)⟩, by first | rfl | assumption, ?_⟩), rfl⟩
end Go.Proofs.YtcfidmdkioccdaaDoor
