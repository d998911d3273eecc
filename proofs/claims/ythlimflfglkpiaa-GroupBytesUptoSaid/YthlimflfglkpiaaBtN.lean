/-
  A group's bytes: the law GroupBack walked.
-/
import Derived.Test.YthlimflfglkpiaaBtM
import Derived.Test.YthlimflfglkpiaaBtK
import Derived.Test.YthlimflfglkpiaaGrBR
namespace Go.Proofs.Ythlimflfglkpiaa
open Go.RowKit
set_option linter.unusedSimpArgs false
set_option linter.unusedVariables false
theorem grR_parts {no mark : Int} {ps : List Pn} (h : grR no mark ps = true) : (0 ≤ no ∧ no < 32) ∧ (0 ≤ mark ∧ mark ≤ 1099511627776) ∧ ps.length ≤ 2000 ∧ ∀ p ∈ ps, mayB p = true := by
  simp only [grR, Bool.and_eq_true, decide_eq_true_eq] at h
  obtain ⟨h1, h2, h3, h4, h5, h6⟩ := h
  have := rightL_may h5
  exact ⟨⟨h1, h2⟩, ⟨h3, h4⟩, this.1, this.2⟩
theorem grB_len {no mark : Int} {ps : List Pn} (hR : grR no mark ps = true) (hI : ∀ p ∈ ps, PI p) : (grB no mark ps).length ≤ 200030 := by
  obtain ⟨h1, h2, h3, h4⟩ := grR_parts hR
  have h5 := psB_len (ps := ps) fun p hp => pnB_len (h4 p hp) (hI p hp)
  have h6 := nbs_len (ns := [no, mark, (ps.length : Int)]) (fun n hn => by
    simp only [List.mem_cons, List.mem_nil_iff, or_false] at hn
    unfold i64P
    rcases hn with rfl | rfl | rfl
    · omega
    · omega
    · omega)
  unfold grB
  rw [List.length_append]
  simp only [List.length_cons, List.length_nil] at h6
  omega
theorem getG_in {no mark : Int} {ps : List Pn} (hR : grR no mark ps = true) (hI : ∀ p ∈ ps, PI p) : getG ⟨(grB no mark ps).toArray⟩ = (⟨no, mark, ps⟩, 0) := by
  obtain ⟨h1, h2, h3, h4⟩ := grR_parts hR
  obtain ⟨s, hs⟩ : ∃ s : ByteArray, s = ⟨(grB no mark ps).toArray⟩ := ⟨_, rfl⟩
  have hl : s.data.toList = grB no mark ps := by rw [hs]
  have hz : s.size = (grB no mark ps).length := by rw [← hl, Array.length_toList]; rfl
  have h : Rd s 0 s.size (grB no mark ps) := ⟨Nat.zero_le _, by omega, [], by rw [List.drop_zero, hl, List.append_nil]⟩
  unfold grB at h
  rw [nbs3] at h
  obtain ⟨i3, h, hp⟩ := h.part
  obtain ⟨i1, r1, h⟩ := h.part
  obtain ⟨i2, r2, r3⟩ := h.part
  have e1 := rdN_in (i := 0) h1.1 (by omega) r1
  have e2 := rdN_in h2.1 (by omega) r2
  have e3 := rdN_in (by omega) (by omega) r3
  have e4 := rdPs_in ps i3 s.size [] (fun p hp => ⟨h4 p hp, hI p hp⟩) hp
  rw [List.nil_append] at e4
  have e0 : ((0 : Nat) : Int) = 0 := rfl
  rw [e0] at e1
  have hmin : min no 32 = no := by omega
  rw [← hs]
  simp only [getG, e1, e2, e3, getH]
  rw [if_neg (by simp), if_neg (by omega), Int.toNat_natCast, e4]
  unfold getE
  dsimp only
  rw [if_neg (by simp), if_neg (by omega), hmin, if_pos hR]
theorem getG_bad {s : ByteArray} (h : (getG s).2 ≠ 0) : (getG s).1 = zG := by
  unfold getG at h ⊢
  dsimp only at h ⊢
  unfold getH at h ⊢
  split
  · rfl
  rename_i h1
  rw [if_neg h1] at h
  split
  · rfl
  rename_i h2
  rw [if_neg h2] at h
  unfold getE at h ⊢
  split
  · rfl
  rename_i h3
  rw [if_neg h3] at h
  split
  · rfl
  rename_i h4
  rw [if_neg h4] at h
  split
  · rename_i h5
    rw [if_pos h5] at h
    exact absurd rfl h
  · rfl
theorem getG_out {s : ByteArray} (h : (getG s).2 = 0) : grR (getG s).1.no (getG s).1.mark (getG s).1.ps = true ∧ s = ⟨(grB (getG s).1.no (getG s).1.mark (getG s).1.ps).toArray⟩ ∧ ∀ p ∈ (getG s).1.ps, PI p := by
  obtain ⟨no, a1, b1, e1⟩ : ∃ n a b, rdN s 0 0 = (n, a, b) := ⟨_, _, _, rfl⟩
  obtain ⟨mark, a2, b2, e2⟩ : ∃ n a b, rdN s a1 b1 = (n, a, b) := ⟨_, _, _, rfl⟩
  obtain ⟨many, a3, b3, e3⟩ : ∃ n a b, rdN s a2 b2 = (n, a, b) := ⟨_, _, _, rfl⟩
  have backN : ∀ (b : Int) (i : Int), b ≠ 0 → rdN s i b = (0, i, b) := fun b i h => by unfold rdN; rw [if_neg h]
  simp only [getG, e1, e2, e3] at h ⊢
  unfold getH at h ⊢
  by_cases c3 : b3 = 0
  case neg => rw [if_pos c3] at h; exact absurd h c3
  rw [if_neg (by omega)] at h ⊢
  by_cases hm : 2000 < many
  · rw [if_pos hm] at h; exact absurd h (by decide)
  rw [if_neg hm] at h ⊢
  have c2 : b2 = 0 := by
    by_cases h : b2 = 0
    · exact h
    · rw [backN b2 a2 h, c3] at e3
      injection e3 with _ e; injection e with _ e
  have c1 : b1 = 0 := by
    by_cases h : b1 = 0
    · exact h
    · rw [backN b1 a1 h, c2] at e2
      injection e2 with _ e; injection e with _ e
  subst c1 c2 c3
  have e0 : (0 : Int) = ((0 : Nat) : Int) := rfl
  obtain ⟨_, k1, rfl, r1, q1⟩ := rdN_out (i := 0) e1
  obtain ⟨_, k2, rfl, r2, q2⟩ := rdN_out e2
  obtain ⟨_, k3, rfl, r3, q3⟩ := rdN_out e3
  obtain ⟨l, j, b, e4⟩ : ∃ l j b, rdPs s many.toNat k3 [] = (l, j, b) := ⟨_, _, _, rfl⟩
  rw [e4] at h ⊢
  unfold getE at h ⊢
  dsimp only at h ⊢
  by_cases cb : b = 0
  case neg => rw [if_pos cb] at h; exact absurd h cb
  subst cb
  rw [if_neg (by simp)] at h ⊢
  by_cases ce : j < s.size
  · rw [if_pos ce] at h; exact absurd h (by decide)
  rw [if_neg ce] at h ⊢
  by_cases cr : grR (min no 32) mark l = true
  case neg => rw [if_neg cr] at h; exact absurd h (by decide)
  rw [if_pos cr]
  dsimp only
  obtain ⟨ps, k4, h1, h2, h3, r4, h5⟩ := rdPs_out _ _ _ _ _ e4 r3.le
  rw [List.nil_append] at h1
  subst h1
  have hg := grR_parts cr
  have hno : min no 32 = no := by omega
  have hle := r4.le
  refine ⟨cr, ?_, h5⟩
  have hall := (r1.app (r2.app r3)).app r4
  rw [← nbs3] at hall
  have hmany : many = (l.length : Int) := by omega
  rw [hmany] at hall
  have hall2 : Rd s 0 k4 (grB no mark l) := hall
  obtain ⟨_, z2, r, z3⟩ := hall2
  rw [List.drop_zero] at z3
  have hr : r = [] := by
    have := congrArg List.length z3
    rw [List.length_append, Array.length_toList] at this
    have hz : s.data.size = s.size := rfl
    exact List.eq_nil_of_length_eq_zero (by omega)
  rw [hr, List.append_nil] at z3
  rw [hno]
  apply ByteArray.ext
  apply Array.ext'
  exact z3
set_option maxHeartbeats 8000000 in
set_option maxRecDepth 20000 in
theorem g_back (no mark : Int) (ps : List Pn) (s : ByteArray) (hx : ps.length ≤ 9223372036854775807) (hs : s.size ≤ 9223372036854775807) (hno : i64P no) (hmk : i64P mark) (hI : ∀ p ∈ ps, PI p) :
    PC Try.prog 4 [.agg [.v (.int .i64 no), .v (.int .i64 mark), .sl 6 (ps.map Pn.av)], .v (.string s)] (.v (.bool true)) := by
  have hF := g_few no mark ps hx
  have hsub : (fewL ps).length ≤ ps.length ∧ ∀ p ∈ fewL ps, p ∈ ps := by
    unfold fewL
    split
    · exact ⟨by rw [List.length_take]; omega, fun p hp => List.mem_of_mem_take hp⟩
    · exact ⟨Nat.le_refl _, fun p hp => hp⟩
  generalize fewL ps = qs at *
  have hqx : qs.length ≤ 9223372036854775807 := by omega
  have hqI : ∀ p ∈ qs, PI p := fun p hp => hI p (hsub.2 p hp)
  have hA := g_alive
  have hG := g_Get s hs
  have hL0 := g_Like 0 0 [] (by simp)
  have hL := g_Like no mark qs hqx
  have key : ∀ (a : ByteArray) (e : Int), PC Try.prog 6 [.agg [.v (.int .i64 no), .v (.int .i64 mark), .sl 6 (qs.map Pn.av)]] (.tup [.v (.string a), .v (.int .i64 e)]) → (e = 0 → PC Try.prog 7 [.v (.string a)] (.tup [.agg [.v (.int .i64 no), .v (.int .i64 mark), .sl 6 (qs.map Pn.av)], .v (.int .i64 0)])) →
      PC Try.prog 4 [.agg [.v (.int .i64 no), .v (.int .i64 mark), .sl 6 (ps.map Pn.av)], .v (.string s)] (.v (.bool true)) := by
    intro a e hP hB
    by_cases hbad : (getG s).2 = 0
    · obtain ⟨h1, h2, h3⟩ := getG_out hbad
      have hgl := (grR_parts h1).2.2.1
      have g1 := grR_parts h1
      have hP2 := g_PutY (getG s).1.no (getG s).1.mark (getG s).1.ps (by omega) (by unfold i64P; omega) (by unfold i64P; omega) h3 h1
      rw [← h2] at hP2
      unfold Gr.av at hG
      rw [hbad] at hG
      generalize (getG s).1.no = n2 at *
      generalize (getG s).1.mark = m2 at *
      generalize (getG s).1.ps = p2 at *
      by_cases he : e = 0
      · have hB2 := hB he
        subst he
        refine PC.mk (ac_body tab_ok Try.func4 rfl (by kernel_rfl) rfl ?_); intro w0 M μ0; simp only [Try.ntmps4, List.length_cons, List.length_nil, Nat.reduceAdd, Nat.reduceSub, numb]
        repeat' (first | ((first | apply o_do | apply d_do | apply d_yes rfl rfl rfl); first | exact lsc (hF) | exact lsc (hP) | exact lsc (hB2) | exact lsc (hL) | exact lsc (hG) | exact lsc (hA) | exact lsc (hP2) | exact lsq) | refine a_seq ?_ | refine a_region ?_ | refine o_nil ?_ | refine a_block ?_ | refine a_ret ?_ | refine a_exit ?_ | refine a_skip ?_ | refine a_draw mixed ?_ | refine d_nil (by kernel_rfl) ?_ | refine o_yes rfl rfl rfl ?_ | refine o_no rfl rfl rfl (by decide) ?_ | refine o_no' rfl rfl rfl ?_ | refine a_condT rfl ?_ | refine a_condF rfl ?_ | refine d_no rfl rfl rfl (by decide) ?_ | refine d_no' rfl rfl rfl ?_ | (refine wq2 (fun hb => ?_) (fun hb => ?_) <;> (simp only [hb]; try simp only [hbs, ne_eq] at hb; try (exfalso; first | omega | exact hb trivial))) | fail)
        all_goals try (exfalso; simp_all; done)
        all_goals refine ⟨by first | exact .inr rfl | exact .inl rfl, _, rfl, ?_, by repeat' (first | exact trivial | refine ⟨⟨_, rfl, by first | rfl | (simp [renO, *]; done)⟩, by first | rfl | assumption, ?_⟩)⟩
        all_goals (first | refine FinA.tup ?_ | refine FinA.one ?_); repeat' (first | exact FinBs.nil | exact FinCs.nil | refine FinBs.cons ?_ ?_ | refine FinCs.cons ?_ ?_ | refine FinB.cell (FinC.v ?_) | refine FinB.cell (FinC.own rfl rfl rfl ?_) | exact FinB.cell FinC.nil | refine FinB.cell (FinC.sl ?_) | exact FinB.agg' rfl rfl | exact FinB.cell (FinC.same rfl) | refine FinB.agg ?_ | refine FinC.v ?_ | refine FinC.own rfl rfl rfl ?_ | exact FinC.nil | refine FinC.sl ?_ | exact FinC.same rfl); all_goals try rfl
        all_goals simp
      · refine PC.mk (ac_body tab_ok Try.func4 rfl (by kernel_rfl) rfl ?_); intro w0 M μ0; simp only [Try.ntmps4, List.length_cons, List.length_nil, Nat.reduceAdd, Nat.reduceSub, numb]
        repeat' (first | ((first | apply o_do | apply d_do | apply d_yes rfl rfl rfl); first | exact lsc (hF) | exact lsc (hP) | exact lsc (hG) | exact lsc (hA) | exact lsc (hP2) | exact lsq) | refine a_seq ?_ | refine a_region ?_ | refine o_nil ?_ | refine a_block ?_ | refine a_ret ?_ | refine a_exit ?_ | refine a_skip ?_ | refine a_draw mixed ?_ | refine d_nil (by kernel_rfl) ?_ | refine o_yes rfl rfl rfl ?_ | refine o_no rfl rfl rfl (by decide) ?_ | refine o_no' rfl rfl rfl ?_ | refine a_condT rfl ?_ | refine a_condF rfl ?_ | refine d_no rfl rfl rfl (by decide) ?_ | refine d_no' rfl rfl rfl ?_ | (refine wq2 (fun hb => ?_) (fun hb => ?_) <;> (simp only [hb]; try simp only [hbs, ne_eq] at hb; try (exfalso; first | omega | exact hb trivial))) | fail)
        all_goals try (exfalso; simp_all; done)
        all_goals refine ⟨by first | exact .inr rfl | exact .inl rfl, _, rfl, ?_, by repeat' (first | exact trivial | refine ⟨⟨_, rfl, by first | rfl | (simp [renO, *]; done)⟩, by first | rfl | assumption, ?_⟩)⟩
        all_goals (first | refine FinA.tup ?_ | refine FinA.one ?_); repeat' (first | exact FinBs.nil | exact FinCs.nil | refine FinBs.cons ?_ ?_ | refine FinCs.cons ?_ ?_ | refine FinB.cell (FinC.v ?_) | refine FinB.cell (FinC.own rfl rfl rfl ?_) | exact FinB.cell FinC.nil | refine FinB.cell (FinC.sl ?_) | exact FinB.agg' rfl rfl | exact FinB.cell (FinC.same rfl) | refine FinB.agg ?_ | refine FinC.v ?_ | refine FinC.own rfl rfl rfl ?_ | exact FinC.nil | refine FinC.sl ?_ | exact FinC.same rfl); all_goals try rfl
        all_goals simp
    · rw [getG_bad hbad] at hG
      unfold zG Gr.av at hG
      generalize (getG s).2 = e2 at *
      by_cases he : e = 0
      · have hB2 := hB he
        subst he
        refine PC.mk (ac_body tab_ok Try.func4 rfl (by kernel_rfl) rfl ?_); intro w0 M μ0; simp only [Try.ntmps4, List.length_cons, List.length_nil, Nat.reduceAdd, Nat.reduceSub, numb]
        repeat' (first | ((first | apply o_do | apply d_do | apply d_yes rfl rfl rfl); first | exact lsc (hF) | exact lsc (hP) | exact lsc (hB2) | exact lsc (hL) | exact lsc (hG) | exact lsc (hA) | exact lsc (hL0) | exact lsq) | refine a_seq ?_ | refine a_region ?_ | refine o_nil ?_ | refine a_block ?_ | refine a_ret ?_ | refine a_exit ?_ | refine a_skip ?_ | refine a_draw mixed ?_ | refine d_nil (by kernel_rfl) ?_ | refine o_yes rfl rfl rfl ?_ | refine o_no rfl rfl rfl (by decide) ?_ | refine o_no' rfl rfl rfl ?_ | refine a_condT rfl ?_ | refine a_condF rfl ?_ | refine d_no rfl rfl rfl (by decide) ?_ | refine d_no' rfl rfl rfl ?_ | (refine wq2 (fun hb => ?_) (fun hb => ?_) <;> (simp only [hb]; try simp only [hbs, ne_eq] at hb; try (exfalso; first | omega | exact hb trivial))) | fail)
        all_goals try (exfalso; simp_all; done)
        all_goals refine ⟨by first | exact .inr rfl | exact .inl rfl, _, rfl, ?_, by repeat' (first | exact trivial | refine ⟨⟨_, rfl, by first | rfl | (simp [renO, *]; done)⟩, by first | rfl | assumption, ?_⟩)⟩
        all_goals (first | refine FinA.tup ?_ | refine FinA.one ?_); repeat' (first | exact FinBs.nil | exact FinCs.nil | refine FinBs.cons ?_ ?_ | refine FinCs.cons ?_ ?_ | refine FinB.cell (FinC.v ?_) | refine FinB.cell (FinC.own rfl rfl rfl ?_) | exact FinB.cell FinC.nil | refine FinB.cell (FinC.sl ?_) | exact FinB.agg' rfl rfl | exact FinB.cell (FinC.same rfl) | refine FinB.agg ?_ | refine FinC.v ?_ | refine FinC.own rfl rfl rfl ?_ | exact FinC.nil | refine FinC.sl ?_ | exact FinC.same rfl); all_goals try rfl
        all_goals simp
      · refine PC.mk (ac_body tab_ok Try.func4 rfl (by kernel_rfl) rfl ?_); intro w0 M μ0; simp only [Try.ntmps4, List.length_cons, List.length_nil, Nat.reduceAdd, Nat.reduceSub, numb]
        repeat' (first | ((first | apply o_do | apply d_do | apply d_yes rfl rfl rfl); first | exact lsc (hF) | exact lsc (hP) | exact lsc (hG) | exact lsc (hA) | exact lsc (hL0) | exact lsq) | refine a_seq ?_ | refine a_region ?_ | refine o_nil ?_ | refine a_block ?_ | refine a_ret ?_ | refine a_exit ?_ | refine a_skip ?_ | refine a_draw mixed ?_ | refine d_nil (by kernel_rfl) ?_ | refine o_yes rfl rfl rfl ?_ | refine o_no rfl rfl rfl (by decide) ?_ | refine o_no' rfl rfl rfl ?_ | refine a_condT rfl ?_ | refine a_condF rfl ?_ | refine d_no rfl rfl rfl (by decide) ?_ | refine d_no' rfl rfl rfl ?_ | (refine wq2 (fun hb => ?_) (fun hb => ?_) <;> (simp only [hb]; try simp only [hbs, ne_eq] at hb; try (exfalso; first | omega | exact hb trivial))) | fail)
        all_goals try (exfalso; simp_all; done)
        all_goals refine ⟨by first | exact .inr rfl | exact .inl rfl, _, rfl, ?_, by repeat' (first | exact trivial | refine ⟨⟨_, rfl, by first | rfl | (simp [renO, *]; done)⟩, by first | rfl | assumption, ?_⟩)⟩
        all_goals (first | refine FinA.tup ?_ | refine FinA.one ?_); repeat' (first | exact FinBs.nil | exact FinCs.nil | refine FinBs.cons ?_ ?_ | refine FinCs.cons ?_ ?_ | refine FinB.cell (FinC.v ?_) | refine FinB.cell (FinC.own rfl rfl rfl ?_) | exact FinB.cell FinC.nil | refine FinB.cell (FinC.sl ?_) | exact FinB.agg' rfl rfl | exact FinB.cell (FinC.same rfl) | refine FinB.agg ?_ | refine FinC.v ?_ | refine FinC.own rfl rfl rfl ?_ | exact FinC.nil | refine FinC.sl ?_ | exact FinC.same rfl); all_goals try rfl
        all_goals simp
  cases hR : grR no mark qs
  · exact key _ _ (g_PutN no mark qs hqx hR) (fun h => absurd h (by decide))
  · refine key _ _ (g_PutY no mark qs hqx hno hmk hqI hR) fun _ => ?_
    have hz := grB_len hR hqI
    have h := g_Get ⟨(grB no mark qs).toArray⟩ (by
      have : (⟨(grB no mark qs).toArray⟩ : ByteArray).size = (grB no mark qs).length := by unfold ByteArray.size; simp
      omega)
    rw [getG_in hR hqI] at h
    exact h
end Go.Proofs.Ythlimflfglkpiaa
