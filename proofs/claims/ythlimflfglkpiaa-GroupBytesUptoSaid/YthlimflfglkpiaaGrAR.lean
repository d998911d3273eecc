/-
  More of the text GrA.
-/
import Derived.Test.YthlimflfglkpiaaGrA
namespace Go.Proofs.Ythlimflfglkpiaa
open Go.RowKit
set_option linter.unusedSimpArgs false
set_option linter.unusedVariables false
theorem ridx_closed (mark : Int) (ps : List Pn) : (!decide (0 ≤ ridx (closed mark) ps)) = ps.all fun p => decide (mark < p.hi) := by
  have e : (ps.all fun p => decide (mark < p.hi)) = ps.all fun p => !closed mark p := by
    congr 1
    funext p
    have h1 : decide (mark < p.hi) = !decide (p.hi ≤ mark) := by
      by_cases h : p.hi ≤ mark
      · have : ¬ mark < p.hi := by omega
        simp [h, this]
      · have : mark < p.hi := by omega
        simp [h, this]
    exact h1
  rw [e]
  cases h : ps.all fun p => !closed mark p
  · unfold ridx
    have hlt : fidx (closed mark) ps < ps.length := by
      rcases Nat.lt_or_ge (fidx (closed mark) ps) ps.length with h1 | h1
      · exact h1
      · exfalso
        have h2 : (ps.takeWhile fun x => !closed mark x) = ps := by
          have h3 := List.takeWhile_sublist (l := ps) (fun x => !closed mark x)
          exact h3.eq_of_length (by unfold fidx at h1; have := h3.length_le; omega)
        have h4 : (ps.all fun p => !closed mark p) = true := by
          have := List.all_takeWhile (p := fun x => !closed mark x) (l := ps)
          rwa [h2] at this
        rw [h] at h4; cases h4
    rw [if_pos hlt]; simp
  · rw [ridx_all h]; simp
theorem c_GR1 (no mark : Int) (ps : List Pn) (lo hi : Int) (k : ByteArray) (n a b : Int) : AC Try.prog 33 [.agg [.v (.int .i64 lo), .v (.int .i64 hi), .v (.string k), .v (.int .i64 n), .v (.int .i64 a), .v (.int .i64 b)], .ref 0 0] [(0, .box 24 [.v (.int .i64 no), .v (.int .i64 mark), .sl 6 (ps.map Pn.av)])] (.v (.bool (closed mark ⟨lo, hi, k, n, a, b⟩))) [(0, .box 24 [.v (.int .i64 no), .v (.int .i64 mark), .sl 6 (ps.map Pn.av)])] := by
  refine (ac_body tab_ok Try.func33 rfl (by kernel_rfl) rfl ?_); intro w0 M μ0; simp only [Try.ntmps33, List.length_cons, List.length_nil, Nat.reduceAdd, Nat.reduceSub, numb]
  repeat' (first | ((first | apply o_do | apply d_do | apply d_yes rfl rfl rfl); first | exact lsc ((p_Closed _ _ _)) | exact lsq) | refine a_seq ?_ | refine a_region ?_ | refine o_nil ?_ | refine a_block ?_ | refine a_ret ?_ | refine a_exit ?_ | refine a_skip ?_ | refine a_draw mixed ?_ | refine d_nil (by kernel_rfl) ?_ | refine o_yes rfl rfl rfl ?_ | refine o_no rfl rfl rfl (by decide) ?_ | refine o_no' rfl rfl rfl ?_ | refine a_condT rfl ?_ | refine a_condF rfl ?_ | refine d_no rfl rfl rfl (by decide) ?_ | refine d_no' rfl rfl rfl ?_ | (refine wq2 (fun hb => ?_) (fun hb => ?_) <;> (simp only [hb]; try simp only [hbs, ne_eq] at hb; try (exfalso; first | omega | exact hb trivial))) | fail)
  refine ⟨by first | exact .inr rfl | exact .inl rfl, _, rfl, ?_, by repeat' (first | exact trivial | refine ⟨⟨_, rfl, by first | rfl | (simp [renO, *]; done)⟩, by first | rfl | assumption, ?_⟩)⟩
  (first | refine FinA.tup ?_ | refine FinA.one ?_); repeat' (first | exact FinBs.nil | exact FinCs.nil | refine FinBs.cons ?_ ?_ | refine FinCs.cons ?_ ?_ | refine FinB.cell (FinC.v ?_) | refine FinB.cell (FinC.own rfl rfl rfl ?_) | exact FinB.cell FinC.nil | refine FinB.cell (FinC.sl ?_) | exact FinB.agg' rfl rfl | exact FinB.cell (FinC.same rfl) | refine FinB.agg ?_ | refine FinC.v ?_ | refine FinC.own rfl rfl rfl ?_ | exact FinC.nil | refine FinC.sl ?_ | exact FinC.same rfl); all_goals try rfl
set_option maxHeartbeats 1000000 in
theorem g_Right (no mark : Int) (ps : List Pn) (hx : ps.length ≤ 9223372036854775807) : PC Try.prog 13 [.agg [.v (.int .i64 no), .v (.int .i64 mark), .sl 6 (ps.map Pn.av)]] (.v (.bool (grR no mark ps))) := by
  have hp := p_Right ps hx
  have hc := p_Contains 33 (closed mark) 24 [.v (.int .i64 no), .v (.int .i64 mark), .sl 6 (ps.map Pn.av)] rfl (fun ρ => rfl) (fun lo hi k n a b => c_GR1 no mark ps lo hi k n a b) ps hx
  have hr := ridx_closed mark ps
  refine PC.mk (ac_body tab_ok Try.func13 rfl (by kernel_rfl) rfl ?_); intro w0 M μ0; simp only [Try.ntmps13, List.length_cons, List.length_nil, Nat.reduceAdd, Nat.reduceSub, numb]
  repeat' (first | ((first | apply o_do | apply d_do | apply d_yes rfl rfl rfl); first | exact lsc (hp) | exact ls_callA [0] 1 hc rfl rfl (by (repeat' (first | exact NilL.nil | refine NilL.cons Nil.same ?_ | refine NilL.cons Nil.nil ?_ | refine NilL.cons (Nil.agg ?_) ?_ | exact Nil1s.nil | refine Nil1s.cons Nil1.same ?_ | refine Nil1s.cons Nil1.nil ?_)); first | done | fail) rfl (by repeat' (first | exact trivial | refine ⟨⟨_, rfl, by first | rfl | (simp [renO, *]; done)⟩, ?_⟩)) (by first | rfl | simp [closO, *]) rfl rfl rfl rfl (by first | rfl | simp [closO, *]) rfl | exact lsq) | refine a_seq ?_ | refine a_region ?_ | refine o_nil ?_ | refine a_block ?_ | refine a_ret ?_ | refine a_exit ?_ | refine a_skip ?_ | refine a_draw mixed ?_ | refine d_nil (by kernel_rfl) ?_ | refine o_yes rfl rfl rfl ?_ | refine o_no rfl rfl rfl (by decide) ?_ | refine o_no' rfl rfl rfl ?_ | refine a_condT rfl ?_ | refine a_condF rfl ?_ | refine d_no rfl rfl rfl (by decide) ?_ | refine d_no' rfl rfl rfl ?_ | (refine wq2 (fun hb => ?_) (fun hb => ?_) <;> (simp only [hb]; try simp only [hbs, ne_eq] at hb; try (exfalso; first | omega | exact hb trivial))) | fail)
  all_goals refine ⟨by first | exact .inr rfl | exact .inl rfl, _, rfl, ?_, by repeat' (first | exact trivial | refine ⟨⟨_, rfl, by first | rfl | (simp [renO, *]; done)⟩, by first | rfl | assumption, ?_⟩)⟩
  all_goals (first | refine FinA.tup ?_ | refine FinA.one ?_); repeat' (first | exact FinBs.nil | exact FinCs.nil | refine FinBs.cons ?_ ?_ | refine FinCs.cons ?_ ?_ | refine FinB.cell (FinC.v ?_) | refine FinB.cell (FinC.own rfl rfl rfl ?_) | exact FinB.cell FinC.nil | refine FinB.cell (FinC.sl ?_) | exact FinB.agg' rfl rfl | exact FinB.cell (FinC.same rfl) | refine FinB.agg ?_ | refine FinC.v ?_ | refine FinC.own rfl rfl rfl ?_ | exact FinC.nil | refine FinC.sl ?_ | exact FinC.same rfl); all_goals try rfl
  all_goals first
    | (simp [grR, *]; done)
    | (simp [grR, *]; omega)
    | (have a1 : 0 ≤ no := by omega
       have a2 : no < 32 := by omega
       have a3 : 0 ≤ mark := by omega
       have a4 : mark ≤ 1099511627776 := by omega
       simp [grR, *])
set_option maxHeartbeats 1000000 in
theorem g_rRight (no mark : Int) (ps : List Pn) (hx : ps.length ≤ 9223372036854775807) : PC Try.prog 11 [.agg [.v (.int .i64 no), .v (.int .i64 mark), .sl 6 (ps.map Pn.av)]] (.v (.bool (grR no mark ps))) := by
  have hp := p_rRight ps hx
  cases hpre : (decide (0 ≤ no) && (decide (no < 32) && (decide (0 ≤ mark) && (decide (mark ≤ 1099511627776) && rightL ps))))
  · have e : grR no mark ps = false := by
      unfold grR
      revert hpre
      cases decide (0 ≤ no) <;> cases decide (no < 32) <;> cases decide (0 ≤ mark) <;> cases decide (mark ≤ 1099511627776) <;> cases rightL ps <;> simp
    rw [e]
    simp only [Bool.and_eq_false_iff, decide_eq_false_iff_not] at hpre
    refine PC.mk (ac_body tab_ok Try.func11 rfl (by kernel_rfl) rfl ?_); intro w0 M μ0; simp only [Try.ntmps11, List.length_cons, List.length_nil, Nat.reduceAdd, Nat.reduceSub, numb]
    repeat' (first | ((first | apply o_do | apply d_do | apply d_yes rfl rfl rfl); first | exact lsc (hp) | exact lsq) | refine a_seq ?_ | refine a_region ?_ | refine o_nil ?_ | refine a_block ?_ | refine a_ret ?_ | refine a_exit ?_ | refine a_skip ?_ | refine a_draw mixed ?_ | refine d_nil (by kernel_rfl) ?_ | refine o_yes rfl rfl rfl ?_ | refine o_no rfl rfl rfl (by decide) ?_ | refine o_no' rfl rfl rfl ?_ | refine a_condT rfl ?_ | refine a_condF rfl ?_ | refine d_no rfl rfl rfl (by decide) ?_ | refine d_no' rfl rfl rfl ?_ | (refine wq2 (fun hb => ?_) (fun hb => ?_) <;> (simp only [hb]; try simp only [hbs, ne_eq] at hb; try (exfalso; first | omega | exact hb trivial))) | fail)
    all_goals first
      | (refine ⟨by first | exact .inr rfl | exact .inl rfl, _, rfl, ?_, by repeat' (first | exact trivial | refine ⟨⟨_, rfl, by first | rfl | (simp [renO, *]; done)⟩, by first | rfl | assumption, ?_⟩)⟩; (first | refine FinA.tup ?_ | refine FinA.one ?_); repeat' (first | exact FinBs.nil | exact FinCs.nil | refine FinBs.cons ?_ ?_ | refine FinCs.cons ?_ ?_ | refine FinB.cell (FinC.v ?_) | refine FinB.cell (FinC.own rfl rfl rfl ?_) | exact FinB.cell FinC.nil | refine FinB.cell (FinC.sl ?_) | exact FinB.agg' rfl rfl | exact FinB.cell (FinC.same rfl) | refine FinB.agg ?_ | refine FinC.v ?_ | refine FinC.own rfl rfl rfl ?_ | exact FinC.nil | refine FinC.sl ?_ | exact FinC.same rfl); all_goals try rfl; done)
      | skip
    exfalso
    rcases hpre with h | h | h | h | h
    · omega
    · omega
    · omega
    · omega
    · simp_all
  · simp only [Bool.and_eq_true, decide_eq_true_eq] at hpre
    obtain ⟨h1, h2, h3, h4, h5⟩ := hpre
    have e : grR no mark ps = ps.all fun p => decide (mark < p.hi) := by simp [grR, h1, h2, h3, h4, h5]
    rw [e]
    rw [h5] at hp
    refine PC.mk (ac_body tab_ok Try.func11 rfl (by kernel_rfl) rfl ?_); intro w0 M μ0; simp only [Try.ntmps11, List.length_cons, List.length_nil, Nat.reduceAdd, Nat.reduceSub, numb]
    repeat' (first | ((first | apply o_do | apply d_do | apply d_yes rfl rfl rfl); first | exact lsc (hp) | exact lsq) | refine a_seq ?_ | refine a_region ?_ | refine o_nil ?_ | refine a_block ?_ | refine a_ret ?_ | refine a_exit ?_ | refine a_skip ?_ | refine a_draw mixed ?_ | refine d_nil (by kernel_rfl) ?_ | refine o_yes rfl rfl rfl ?_ | refine o_no rfl rfl rfl (by decide) ?_ | refine o_no' rfl rfl rfl ?_ | refine a_condT rfl ?_ | refine a_condF rfl ?_ | refine d_no rfl rfl rfl (by decide) ?_ | refine d_no' rfl rfl rfl ?_ | (refine wq2 (fun hb => ?_) (fun hb => ?_) <;> (simp only [hb]; try simp only [hbs, ne_eq] at hb; try (exfalso; first | omega | exact hb trivial))) | fail)
    refine a_loop (X := {q : Nat // q ≤ ps.length ∧ ((ps.take q).all fun p => decide (mark < p.hi)) = true}) (fun x => ⟨[(1, .ref 0 0), (30, .sl 6 (ps.map Pn.av)), (31, .v (.int .i64 ps.length)), (32, .v (.int .i64 x.1))], [(0, .box 24 [.v (.int .i64 no), .v (.int .i64 mark), .sl 6 (ps.map Pn.av)])]⟩) (fun x => ps.length - x.1) ⟨0, Nat.zero_le _, by simp⟩ ?_ ?_
    · refine ⟨by repeat' (first | exact trivial | exact FinA.one (FinB.cell (FinC.same rfl)) | exact FinA.one (FinB.cell FinC.nil) | exact FinA.bound rfl | exact FinA.one (FinB.cell (FinC.own rfl rfl rfl rfl)) | exact FinA.one (FinB.cell (FinC.v (by first | rfl | (simp)))) | exact FinA.one (FinB.cell (FinC.ow rfl (by first | rfl | (simp)))) | exact FinA.one (FinB.agg' rfl rfl) | refine ⟨⟨_, rfl, ?_⟩, ?_⟩), by repeat' (first | exact trivial | refine ⟨⟨_, rfl, by first | rfl | (simp; done) | (simp [renO, *]; done)⟩, by first | rfl | assumption, ?_⟩), rfl⟩
    rintro ⟨q, hq, hall⟩
    dsimp only
    by_cases hlt : q < ps.length
    · have hel : (ps.map Pn.av)[q]? = some (Pn.av ps[q]) := by simp [hlt]
      have hsn := take_snoc ps q hlt
      have hmem : ps[q] ∈ ps := List.getElem_mem hlt
      generalize ps[q] = x at *
      repeat' (first | ((first | apply o_do | apply d_do | apply d_yes rfl rfl rfl); first | exact ls_indexAddr_sl tab_ok rfl rfl rfl rfl (by assumption) rfl | exact lsq) | refine a_seq ?_ | refine a_region ?_ | refine o_nil ?_ | refine a_block ?_ | refine a_ret ?_ | refine a_exit ?_ | refine a_skip ?_ | refine a_draw mixed ?_ | refine d_nil (by kernel_rfl) ?_ | refine o_yes rfl rfl rfl ?_ | refine o_no rfl rfl rfl (by decide) ?_ | refine o_no' rfl rfl rfl ?_ | refine a_condT rfl ?_ | refine a_condF rfl ?_ | refine d_no rfl rfl rfl (by decide) ?_ | refine d_no' rfl rfl rfl ?_ | (refine wq2 (fun hb => ?_) (fun hb => ?_) <;> (simp only [hb]; try simp only [hbs, ne_eq] at hb; try (exfalso; first | omega | exact hb trivial))) | fail)
      · refine ⟨by first | exact .inr rfl | exact .inl rfl, _, rfl, ?_, by repeat' (first | exact trivial | refine ⟨⟨_, rfl, by first | rfl | (simp [renO, *]; done)⟩, by first | rfl | assumption, ?_⟩)⟩
        (first | refine FinA.tup ?_ | refine FinA.one ?_); repeat' (first | exact FinBs.nil | exact FinCs.nil | refine FinBs.cons ?_ ?_ | refine FinCs.cons ?_ ?_ | refine FinB.cell (FinC.v ?_) | refine FinB.cell (FinC.own rfl rfl rfl ?_) | exact FinB.cell FinC.nil | refine FinB.cell (FinC.sl ?_) | exact FinB.agg' rfl rfl | exact FinB.cell (FinC.same rfl) | refine FinB.agg ?_ | refine FinC.v ?_ | refine FinC.own rfl rfl rfl ?_ | exact FinC.nil | refine FinC.sl ?_ | exact FinC.same rfl); all_goals try rfl
        have : (ps.all fun p => decide (mark < p.hi)) = false := by
          rw [List.all_eq_false]
          exact ⟨x, hmem, by simp; omega⟩
        rw [this]
      · refine ⟨⟨q + 1, by omega, by rw [hsn, List.all_append, hall]; simp; omega⟩, by dsimp only; omega, ?_⟩
        refine ⟨by repeat' (first | exact trivial | exact FinA.one (FinB.cell (FinC.same rfl)) | exact FinA.one (FinB.cell FinC.nil) | exact FinA.bound rfl | exact FinA.one (FinB.cell (FinC.own rfl rfl rfl rfl)) | exact FinA.one (FinB.cell (FinC.v (by first | rfl | (simp)))) | exact FinA.one (FinB.cell (FinC.ow rfl (by first | rfl | (simp)))) | exact FinA.one (FinB.agg' rfl rfl) | refine ⟨⟨_, rfl, ?_⟩, ?_⟩), by repeat' (first | exact trivial | refine ⟨⟨_, rfl, by first | rfl | (simp; done) | (simp [renO, *]; done)⟩, by first | rfl | assumption, ?_⟩), rfl⟩
    · obtain rfl : q = ps.length := by omega
      rw [List.take_length] at hall
      rw [hall]
      repeat' (first | ((first | apply o_do | apply d_do | apply d_yes rfl rfl rfl); exact lsq) | refine a_seq ?_ | refine a_region ?_ | refine o_nil ?_ | refine a_block ?_ | refine a_ret ?_ | refine a_exit ?_ | refine a_skip ?_ | refine a_draw mixed ?_ | refine d_nil (by kernel_rfl) ?_ | refine o_yes rfl rfl rfl ?_ | refine o_no rfl rfl rfl (by decide) ?_ | refine o_no' rfl rfl rfl ?_ | refine a_condT rfl ?_ | refine a_condF rfl ?_ | refine d_no rfl rfl rfl (by decide) ?_ | refine d_no' rfl rfl rfl ?_ | (refine wq2 (fun hb => ?_) (fun hb => ?_) <;> (simp only [hb]; try simp only [hbs, ne_eq] at hb; try (exfalso; first | omega | exact hb trivial))) | fail)
      refine ⟨by first | exact .inr rfl | exact .inl rfl, _, rfl, ?_, by repeat' (first | exact trivial | refine ⟨⟨_, rfl, by first | rfl | (simp [renO, *]; done)⟩, by first | rfl | assumption, ?_⟩)⟩
      (first | refine FinA.tup ?_ | refine FinA.one ?_); repeat' (first | exact FinBs.nil | exact FinCs.nil | refine FinBs.cons ?_ ?_ | refine FinCs.cons ?_ ?_ | refine FinB.cell (FinC.v ?_) | refine FinB.cell (FinC.own rfl rfl rfl ?_) | exact FinB.cell FinC.nil | refine FinB.cell (FinC.sl ?_) | exact FinB.agg' rfl rfl | exact FinB.cell (FinC.same rfl) | refine FinB.agg ?_ | refine FinC.v ?_ | refine FinC.own rfl rfl rfl ?_ | exact FinC.nil | refine FinC.sl ?_ | exact FinC.same rfl); all_goals try rfl
theorem g_Job (g s d k fu li de id : Int) : PC Try.prog 26 [.agg [.v (.int .i64 g), .v (.int .i64 s), .v (.int .i64 d), .v (.int .i64 k), .v (.int .i64 fu), .v (.int .i64 li), .v (.int .i64 de), .v (.int .i64 id)]] (.v (.bool (jobR s d k))) := by
  refine PC.mk (ac_body tab_ok Try.func26 rfl (by kernel_rfl) rfl ?_); intro w0 M μ0; simp only [Try.ntmps26, List.length_cons, List.length_nil, Nat.reduceAdd, Nat.reduceSub, numb]
  repeat' (first | ((first | apply o_do | apply d_do | apply d_yes rfl rfl rfl); first | exact lsc ((p_wRight _ _)) | exact lsc ((p_fRight _)) | exact lsq) | refine a_seq ?_ | refine a_region ?_ | refine o_nil ?_ | refine a_block ?_ | refine a_ret ?_ | refine a_exit ?_ | refine a_skip ?_ | refine a_draw mixed ?_ | refine d_nil (by kernel_rfl) ?_ | refine o_yes rfl rfl rfl ?_ | refine o_no rfl rfl rfl (by decide) ?_ | refine o_no' rfl rfl rfl ?_ | refine a_condT rfl ?_ | refine a_condF rfl ?_ | refine d_no rfl rfl rfl (by decide) ?_ | refine d_no' rfl rfl rfl ?_ | (refine wq2 (fun hb => ?_) (fun hb => ?_) <;> (simp only [hb]; try simp only [hbs, ne_eq] at hb; try (exfalso; first | omega | exact hb trivial))) | fail)
  all_goals refine ⟨by first | exact .inr rfl | exact .inl rfl, _, rfl, ?_, by repeat' (first | exact trivial | refine ⟨⟨_, rfl, by first | rfl | (simp [renO, *]; done)⟩, by first | rfl | assumption, ?_⟩)⟩
  all_goals (first | refine FinA.tup ?_ | refine FinA.one ?_); repeat' (first | exact FinBs.nil | exact FinCs.nil | refine FinBs.cons ?_ ?_ | refine FinCs.cons ?_ ?_ | refine FinB.cell (FinC.v ?_) | refine FinB.cell (FinC.own rfl rfl rfl ?_) | exact FinB.cell FinC.nil | refine FinB.cell (FinC.sl ?_) | exact FinB.agg' rfl rfl | exact FinB.cell (FinC.same rfl) | refine FinB.agg ?_ | refine FinC.v ?_ | refine FinC.own rfl rfl rfl ?_ | exact FinC.nil | refine FinC.sl ?_ | exact FinC.same rfl); all_goals try rfl
  all_goals simp [jobR, *]
end Go.Proofs.Ythlimflfglkpiaa
