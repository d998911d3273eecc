/-
  Timers, walked over abstract values: container/heap over a row.
-/
import Derived.Test.YteooamoagkcgnaaTmA
namespace Go.Proofs.Yteooamoagkcgnaa
open Go.RowKit
set_option linter.unusedSimpArgs false
set_option linter.unusedVariables false
theorem mLen : meth Try.prog 52 "Len" = some (#[], some (71, false)) := by kernel_rfl
theorem mLess : meth Try.prog 52 "Less" = some (#[], some (72, false)) := by kernel_rfl
theorem mSwap : meth Try.prog 52 "Swap" = some (#[], some (73, false)) := by kernel_rfl
theorem mPop : meth Try.prog 52 "Pop" = some (#[], some (74, true)) := by kernel_rfl
theorem mPush : meth Try.prog 52 "Push" = some (#[], some (75, true)) := by kernel_rfl
theorem plR : plainT Try.prog 52 = true := by kernel_rfl
theorem plT : plainT Try.prog 27 = true := by kernel_rfl
abbrev hI : AV := .ifr 52 0 0
set_option maxHeartbeats 1000000 in
theorem a_Push (r : List Tm) (t : Tm) (hr : r.length ≤ 1000) : AC Try.prog 75 [.ref 0 0, .ifa 27 t.vals] (HS r) (.tup []) (HS (r ++ [t])) := by
  have h1 : (r.map Tm.av).length = r.length := List.length_map _
  have e : (r ++ [t]).map Tm.av = r.map Tm.av ++ [t.av] := by simp
  unfold HS
  rw [e]
  unfold Tm.vals
  refine (ac_body tab_ok Try.func75 rfl (by kernel_rfl) rfl ?_); intro w0 M μ0; simp only [Try.ntmps75, List.length_cons, List.length_nil, Nat.reduceAdd, Nat.reduceSub, numb]
  repeat' (first | ((first | apply o_do | apply d_do | apply d_yes rfl rfl rfl); first | exact ls_assertOk rfl plT rfl | exact ls_nilCheck rfl rfl | exact ls_append tab_ok rfl rfl rfl rfl (by first | exact SrcIs.sl | exact SrcIs.nil | exact SrcIs.own rfl rfl) rfl (by (try simp only [List.length_cons, List.length_nil]); omega) rfl rfl | exact lsq) | refine a_seq ?_ | refine a_region ?_ | refine o_nil ?_ | refine a_block ?_ | refine a_ret ?_ | refine a_exit ?_ | refine a_skip ?_ | refine a_draw mixed ?_ | refine d_nil (by kernel_rfl) ?_ | refine o_yes rfl rfl rfl ?_ | refine o_no rfl rfl rfl (by decide) ?_ | refine o_no' rfl rfl rfl ?_ | refine a_condT rfl ?_ | refine a_condF rfl ?_ | refine d_no rfl rfl rfl (by decide) ?_ | refine d_no' rfl rfl rfl ?_ | (refine wq2 (fun hb => ?_) (fun hb => ?_) <;> (simp only [hb]; try simp only [hbs, ne_eq] at hb; try (exfalso; first | omega | exact hb trivial))) | fail)
  refine ⟨by first | exact .inr rfl | exact .inl rfl, _, rfl, ?_, by repeat' (first | exact trivial | refine ⟨⟨_, rfl, by first | rfl | (simp [renO, *]; done)⟩, by first | rfl | assumption, ?_⟩)⟩
  (first | refine FinA.tup ?_ | refine FinA.one ?_); repeat' (first | exact FinBs.nil | exact FinCs.nil | refine FinBs.cons ?_ ?_ | refine FinCs.cons ?_ ?_ | refine FinB.cell (FinC.v ?_) | refine FinB.cell (FinC.own rfl rfl rfl ?_) | exact FinB.cell FinC.nil | refine FinB.cell (FinC.sl ?_) | exact FinB.agg' rfl rfl | exact FinB.cell (FinC.same rfl) | refine FinB.agg ?_ | refine FinC.v ?_ | refine FinC.own rfl rfl rfl ?_ | exact FinC.nil | refine FinC.sl ?_ | exact FinC.same rfl); all_goals try rfl
set_option maxHeartbeats 1000000 in
theorem a_Pop (r : List Tm) (hr : 0 < r.length) (hm : r.length ≤ 1000) : AC Try.prog 74 [.ref 0 0] (HS r) (.ifa 27 (r.getD (r.length - 1) tmZ).vals) [(0, .box 50 [.own 7 ((r.take (r.length - 1)).map Tm.av).length]), (1, .dead), (7, .row 27 2 ((r.take (r.length - 1)).map Tm.av))] := by
  have h1 : (r.map Tm.av).length = r.length := List.length_map _
  have hi : r.length - 1 < r.length := by omega
  have h2 := av_at hi
  have h3 : r.length - 1 < (r.map Tm.av).length := by rw [h1]; exact hi
  have h4 : ((r.map Tm.av).length : Int) - 1 = ((r.length - 1 : Nat) : Int) := by rw [h1]; omega
  have e : (r.take (r.length - 1)).map Tm.av = (r.map Tm.av).take (r.length - 1) := List.map_take
  have e2 : (r.getD (r.length - 1) tmZ).av = (r.getD (r.length - 1) tmZ).vals.map .v := rfl
  unfold HS
  rw [e]
  generalize r.getD (r.length - 1) tmZ = a at *
  generalize r.length - 1 = k at *
  unfold Tm.av at h2
  unfold Tm.vals
  refine (ac_body tab_ok Try.func74 rfl (by kernel_rfl) rfl ?_); intro w0 M μ0; simp only [Try.ntmps74, List.length_cons, List.length_nil, Nat.reduceAdd, Nat.reduceSub, numb]
  repeat' (first | ((first | apply o_do | apply d_do | apply d_yes rfl rfl rfl); first | exact ls_nilCheck rfl rfl | exact ls_indexAddr_own tab_ok rfl rfl rfl rfl rfl h4 h3 rfl | exact ls_load_eref tab_ok rfl rfl rfl h2 rfl rfl rfl rfl | exact ls_cut (id' := 7) tab_ok rfl rfl rfl rfl rfl h4 h3 rfl rfl | exact ls_mkIfa rfl rfl plT rfl | exact lsq) | refine a_seq ?_ | refine a_region ?_ | refine o_nil ?_ | refine a_block ?_ | refine a_ret ?_ | refine a_exit ?_ | refine a_skip ?_ | refine a_draw mixed ?_ | refine d_nil (by kernel_rfl) ?_ | refine o_yes rfl rfl rfl ?_ | refine o_no rfl rfl rfl (by decide) ?_ | refine o_no' rfl rfl rfl ?_ | refine a_condT rfl ?_ | refine a_condF rfl ?_ | refine d_no rfl rfl rfl (by decide) ?_ | refine d_no' rfl rfl rfl ?_ | (refine wq2 (fun hb => ?_) (fun hb => ?_) <;> (simp only [hb]; try simp only [hbs, ne_eq] at hb; try (exfalso; first | omega | exact hb trivial))) | fail)
  refine ⟨by first | exact .inr rfl | exact .inl rfl, _, rfl, ?_, by repeat' (first | exact trivial | refine ⟨⟨_, rfl, by first | rfl | (simp [renO, *]; done)⟩, by first | rfl | assumption, ?_⟩)⟩
  (first | refine FinA.tup ?_ | refine FinA.one ?_); repeat' (first | exact FinBs.nil | exact FinCs.nil | refine FinBs.cons ?_ ?_ | refine FinCs.cons ?_ ?_ | refine FinB.cell (FinC.v ?_) | refine FinB.cell (FinC.own rfl rfl rfl ?_) | exact FinB.cell FinC.nil | refine FinB.cell (FinC.sl ?_) | exact FinB.agg' rfl rfl | exact FinB.cell (FinC.same rfl) | refine FinB.agg ?_ | refine FinC.v ?_ | refine FinC.own rfl rfl rfl ?_ | exact FinC.nil | refine FinC.sl ?_ | exact FinC.same rfl); all_goals try rfl
set_option maxHeartbeats 2000000 in
theorem a_up (r : List Tm) (j f : Nat) (hj : j < r.length) (hf : j ≤ f) (hm : r.length ≤ 1000) : AC Try.prog 29 [hI, .v (.int .i64 j)] (HS r) (.tup []) (HS (hup tLt tmZ f r j)) := by
  unfold HS
  obtain ⟨R, hR⟩ : ∃ R, R = hup tLt tmZ f r j := ⟨_, rfl⟩
  rw [← hR]
  refine (ac_body tab_ok Try.func29 rfl (by kernel_rfl) rfl ?_); intro w0 M μ0; simp only [Try.ntmps29, List.length_cons, List.length_nil, Nat.reduceAdd, Nat.reduceSub, numb]
  repeat' (first | ((first | apply o_do | apply d_do | apply d_yes rfl rfl rfl); exact lsq) | refine a_seq ?_ | refine a_region ?_ | refine o_nil ?_ | refine a_block ?_ | refine a_ret ?_ | refine a_exit ?_ | refine a_skip ?_ | refine a_draw mixed ?_ | refine d_nil (by kernel_rfl) ?_ | refine o_yes rfl rfl rfl ?_ | refine o_no rfl rfl rfl (by decide) ?_ | refine o_no' rfl rfl rfl ?_ | refine a_condT rfl ?_ | refine a_condF rfl ?_ | refine d_no rfl rfl rfl (by decide) ?_ | refine d_no' rfl rfl rfl ?_ | (refine wq2 (fun hb => ?_) (fun hb => ?_) <;> (simp only [hb]; try simp only [hbs, ne_eq] at hb; try (exfalso; first | omega | exact hb trivial))) | fail)
  refine a_loop (X := {p : Nat × List Tm × Nat // R = hup tLt tmZ p.1 p.2.1 p.2.2 ∧ p.2.2 < p.2.1.length ∧ p.2.2 ≤ p.1 ∧ p.2.1.length = r.length})
    (fun p => ⟨[(0, hI), (1, .v (.int .i64 p.1.2.2))], [(0, .box 50 [.own 1 (p.1.2.1.map Tm.av).length]), (1, .row 27 2 (p.1.2.1.map Tm.av))]⟩) (fun p => p.1.2.2) ⟨(f, r, j), hR, hj, hf, rfl⟩ ?_ ?_
  · refine ⟨by repeat' (first | exact trivial | exact FinA.one (FinB.cell (FinC.same rfl)) | exact FinA.one (FinB.cell FinC.nil) | exact FinA.bound rfl | exact FinA.one (FinB.cell (FinC.own rfl rfl rfl rfl)) | exact FinA.one (FinB.cell (FinC.v (by first | rfl | (simp)))) | exact FinA.one (FinB.cell (FinC.ow rfl (by first | rfl | (simp)))) | exact FinA.one (FinB.agg' rfl rfl) | refine ⟨⟨_, rfl, ?_⟩, ?_⟩), by repeat' (first | exact trivial | refine ⟨⟨_, rfl, by first | rfl | (simp; done) | (simp [renO, *]; done)⟩, by first | rfl | assumption, ?_⟩), rfl⟩
  rintro ⟨⟨g, c, i⟩, hc, hi, hg, hl⟩
  dsimp only at hc hi hg hl ⊢
  have hq : ((i : Int) - 1).tdiv 2 = (((i - 1) / 2 : Nat) : Int) := by
    rcases Nat.eq_zero_or_pos i with rfl | h0
    · decide
    · rw [show (i : Int) - 1 = ((i - 1 : Nat) : Int) by omega]; rfl
  have hp : (i - 1) / 2 < c.length := by omega
  have hL := a_rLess c i ((i - 1) / 2) hi hp
  have hS := a_rSwap c ((i - 1) / 2) i hp hi
  by_cases e1 : (i - 1) / 2 = i
  · have hc2 : R = c := by
      rw [hc]
      cases g with
      | zero => rfl
      | succ g => simp only [hup]; rw [if_pos (.inl e1)]
    subst hc2
    repeat' (first | ((first | apply o_do | apply d_do | apply d_yes rfl rfl rfl); first | exact ls_quo64 hq rfl rfl (by decide) (by omega) rfl | exact ls_invV tab_ok [1] 5 hL mLess Try.underlying52 rfl rfl rfl rfl rfl rfl (by (repeat' (first | exact NilL.nil | refine NilL.cons Nil.same ?_ | refine NilL.cons Nil.nil ?_ | refine NilL.cons (Nil.agg ?_) ?_ | exact Nil1s.nil | refine Nil1s.cons Nil1.same ?_ | refine Nil1s.cons Nil1.nil ?_)); first | done | fail) rfl (by repeat' (first | exact trivial | refine ⟨⟨_, rfl, by first | rfl | (simp [renO, *]; done)⟩, ?_⟩)) (by first | rfl | simp [closO, *]) rfl rfl rfl rfl (by first | rfl | simp [closO, *]) rfl | exact ls_invV tab_ok [1] 5 hS mSwap Try.underlying52 rfl rfl rfl rfl rfl rfl (by (repeat' (first | exact NilL.nil | refine NilL.cons Nil.same ?_ | refine NilL.cons Nil.nil ?_ | refine NilL.cons (Nil.agg ?_) ?_ | exact Nil1s.nil | refine Nil1s.cons Nil1.same ?_ | refine Nil1s.cons Nil1.nil ?_)); first | done | fail) rfl (by repeat' (first | exact trivial | refine ⟨⟨_, rfl, by first | rfl | (simp [renO, *]; done)⟩, ?_⟩)) (by first | rfl | simp [closO, *]) rfl rfl rfl rfl (by first | rfl | simp [closO, *]) rfl | exact lsq) | refine a_seq ?_ | refine a_region ?_ | refine o_nil ?_ | refine a_block ?_ | refine a_ret ?_ | refine a_exit ?_ | refine a_skip ?_ | refine a_draw mixed ?_ | refine d_nil (by kernel_rfl) ?_ | refine o_yes rfl rfl rfl ?_ | refine o_no rfl rfl rfl (by decide) ?_ | refine o_no' rfl rfl rfl ?_ | refine a_condT rfl ?_ | refine a_condF rfl ?_ | refine d_no rfl rfl rfl (by decide) ?_ | refine d_no' rfl rfl rfl ?_ | (refine wq2 (fun hb => ?_) (fun hb => ?_) <;> (simp only [hb]; try simp only [hbs, ne_eq] at hb; try (exfalso; first | omega | exact hb trivial))) | fail)
    refine ⟨by first | exact .inr rfl | exact .inl rfl, _, rfl, ?_, by repeat' (first | exact trivial | refine ⟨⟨_, rfl, by first | rfl | (simp [renO, *]; done)⟩, by first | rfl | assumption, ?_⟩)⟩
    (first | refine FinA.tup ?_ | refine FinA.one ?_); repeat' (first | exact FinBs.nil | exact FinCs.nil | refine FinBs.cons ?_ ?_ | refine FinCs.cons ?_ ?_ | refine FinB.cell (FinC.v ?_) | refine FinB.cell (FinC.own rfl rfl rfl ?_) | exact FinB.cell FinC.nil | refine FinB.cell (FinC.sl ?_) | exact FinB.agg' rfl rfl | exact FinB.cell (FinC.same rfl) | refine FinB.agg ?_ | refine FinC.v ?_ | refine FinC.own rfl rfl rfl ?_ | exact FinC.nil | refine FinC.sl ?_ | exact FinC.same rfl); all_goals try rfl
  · cases e2 : tLt (c.getD i tmZ) (c.getD ((i - 1) / 2) tmZ)
    · have hc2 : R = c := by
        rw [hc]
        cases g with
        | zero => rfl
        | succ g => simp only [hup]; rw [if_pos (.inr e2)]
      subst hc2
      rw [e2] at hL
      repeat' (first | ((first | apply o_do | apply d_do | apply d_yes rfl rfl rfl); first | exact ls_quo64 hq rfl rfl (by decide) (by omega) rfl | exact ls_invV tab_ok [1] 5 hL mLess Try.underlying52 rfl rfl rfl rfl rfl rfl (by (repeat' (first | exact NilL.nil | refine NilL.cons Nil.same ?_ | refine NilL.cons Nil.nil ?_ | refine NilL.cons (Nil.agg ?_) ?_ | exact Nil1s.nil | refine Nil1s.cons Nil1.same ?_ | refine Nil1s.cons Nil1.nil ?_)); first | done | fail) rfl (by repeat' (first | exact trivial | refine ⟨⟨_, rfl, by first | rfl | (simp [renO, *]; done)⟩, ?_⟩)) (by first | rfl | simp [closO, *]) rfl rfl rfl rfl (by first | rfl | simp [closO, *]) rfl | exact ls_invV tab_ok [1] 5 hS mSwap Try.underlying52 rfl rfl rfl rfl rfl rfl (by (repeat' (first | exact NilL.nil | refine NilL.cons Nil.same ?_ | refine NilL.cons Nil.nil ?_ | refine NilL.cons (Nil.agg ?_) ?_ | exact Nil1s.nil | refine Nil1s.cons Nil1.same ?_ | refine Nil1s.cons Nil1.nil ?_)); first | done | fail) rfl (by repeat' (first | exact trivial | refine ⟨⟨_, rfl, by first | rfl | (simp [renO, *]; done)⟩, ?_⟩)) (by first | rfl | simp [closO, *]) rfl rfl rfl rfl (by first | rfl | simp [closO, *]) rfl | exact lsq) | refine a_seq ?_ | refine a_region ?_ | refine o_nil ?_ | refine a_block ?_ | refine a_ret ?_ | refine a_exit ?_ | refine a_skip ?_ | refine a_draw mixed ?_ | refine d_nil (by kernel_rfl) ?_ | refine o_yes rfl rfl rfl ?_ | refine o_no rfl rfl rfl (by decide) ?_ | refine o_no' rfl rfl rfl ?_ | refine a_condT rfl ?_ | refine a_condF rfl ?_ | refine d_no rfl rfl rfl (by decide) ?_ | refine d_no' rfl rfl rfl ?_ | (refine wq2 (fun hb => ?_) (fun hb => ?_) <;> (simp only [hb]; try simp only [hbs, ne_eq] at hb; try (exfalso; first | omega | exact hb trivial))) | fail)
      refine ⟨by first | exact .inr rfl | exact .inl rfl, _, rfl, ?_, by repeat' (first | exact trivial | refine ⟨⟨_, rfl, by first | rfl | (simp [renO, *]; done)⟩, by first | rfl | assumption, ?_⟩)⟩
      (first | refine FinA.tup ?_ | refine FinA.one ?_); repeat' (first | exact FinBs.nil | exact FinCs.nil | refine FinBs.cons ?_ ?_ | refine FinCs.cons ?_ ?_ | refine FinB.cell (FinC.v ?_) | refine FinB.cell (FinC.own rfl rfl rfl ?_) | exact FinB.cell FinC.nil | refine FinB.cell (FinC.sl ?_) | exact FinB.agg' rfl rfl | exact FinB.cell (FinC.same rfl) | refine FinB.agg ?_ | refine FinC.v ?_ | refine FinC.own rfl rfl rfl ?_ | exact FinC.nil | refine FinC.sl ?_ | exact FinC.same rfl); all_goals try rfl
    · have hg0 : ∃ g', g = g' + 1 := ⟨g - 1, by omega⟩
      obtain ⟨g', rfl⟩ := hg0
      simp only [hup] at hc
      rw [if_neg (by rw [e2]; simp [e1])] at hc
      have hl2 := swp_len (d := tmZ) c ((i - 1) / 2) i
      rw [e2] at hL
      repeat' (first | ((first | apply o_do | apply d_do | apply d_yes rfl rfl rfl); first | exact ls_quo64 hq rfl rfl (by decide) (by omega) rfl | exact ls_invV tab_ok [1] 5 hL mLess Try.underlying52 rfl rfl rfl rfl rfl rfl (by (repeat' (first | exact NilL.nil | refine NilL.cons Nil.same ?_ | refine NilL.cons Nil.nil ?_ | refine NilL.cons (Nil.agg ?_) ?_ | exact Nil1s.nil | refine Nil1s.cons Nil1.same ?_ | refine Nil1s.cons Nil1.nil ?_)); first | done | fail) rfl (by repeat' (first | exact trivial | refine ⟨⟨_, rfl, by first | rfl | (simp [renO, *]; done)⟩, ?_⟩)) (by first | rfl | simp [closO, *]) rfl rfl rfl rfl (by first | rfl | simp [closO, *]) rfl | exact ls_invV tab_ok [1] 5 hS mSwap Try.underlying52 rfl rfl rfl rfl rfl rfl (by (repeat' (first | exact NilL.nil | refine NilL.cons Nil.same ?_ | refine NilL.cons Nil.nil ?_ | refine NilL.cons (Nil.agg ?_) ?_ | exact Nil1s.nil | refine Nil1s.cons Nil1.same ?_ | refine Nil1s.cons Nil1.nil ?_)); first | done | fail) rfl (by repeat' (first | exact trivial | refine ⟨⟨_, rfl, by first | rfl | (simp [renO, *]; done)⟩, ?_⟩)) (by first | rfl | simp [closO, *]) rfl rfl rfl rfl (by first | rfl | simp [closO, *]) rfl | exact lsq) | refine a_seq ?_ | refine a_region ?_ | refine o_nil ?_ | refine a_block ?_ | refine a_ret ?_ | refine a_exit ?_ | refine a_skip ?_ | refine a_draw mixed ?_ | refine d_nil (by kernel_rfl) ?_ | refine o_yes rfl rfl rfl ?_ | refine o_no rfl rfl rfl (by decide) ?_ | refine o_no' rfl rfl rfl ?_ | refine a_condT rfl ?_ | refine a_condF rfl ?_ | refine d_no rfl rfl rfl (by decide) ?_ | refine d_no' rfl rfl rfl ?_ | (refine wq2 (fun hb => ?_) (fun hb => ?_) <;> (simp only [hb]; try simp only [hbs, ne_eq] at hb; try (exfalso; first | omega | exact hb trivial))) | fail)
      refine ⟨⟨(g', swp tmZ c ((i - 1) / 2) i, (i - 1) / 2), hc, by dsimp only; rw [hl2]; omega, by dsimp only; omega, by dsimp only; omega⟩, by dsimp only; omega, ?_⟩
      refine ⟨by repeat' (first | exact trivial | exact FinA.one (FinB.cell (FinC.same rfl)) | exact FinA.one (FinB.cell FinC.nil) | exact FinA.bound rfl | exact FinA.one (FinB.cell (FinC.own rfl rfl rfl rfl)) | exact FinA.one (FinB.cell (FinC.v (by first | rfl | (simp [swp_len])))) | exact FinA.one (FinB.cell (FinC.ow rfl (by first | rfl | (simp [swp_len])))) | exact FinA.one (FinB.agg' rfl rfl) | refine ⟨⟨_, rfl, ?_⟩, ?_⟩), by repeat' (first | exact trivial | refine ⟨⟨_, rfl, by first | rfl | (simp [swp_len]; done) | (simp [renO, *]; done)⟩, by first | rfl | assumption, ?_⟩), rfl⟩
end Go.Proofs.Yteooamoagkcgnaa
