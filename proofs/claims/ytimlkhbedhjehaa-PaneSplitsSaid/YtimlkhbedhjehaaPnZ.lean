/-
  Panes, walked over abstract values: the law on values of two lists.
-/
import Derived.Test.YtimlkhbedhjehaaPnV
import Derived.Test.YtimlkhbedhjehaaPnX
import Derived.Test.YtimlkhbedhjehaaPnY
namespace Go.Proofs.Ytimlkhbedhjehaa
open Go.RowKit
set_option linter.unusedSimpArgs false
set_option linter.unusedVariables false
theorem mergeL_few {k : Int} (hk : fRight k = true) {bs : List Pn} : ∀ {l : List Pn}, (∀ p ∈ l, GoodP p) → (∀ p ∈ bs, GoodP p) → sumN l + sumN bs ≤ 2000 → mergeL k l bs = some (insAll k l bs) := by
  induction bs with
  | nil => intros; rfl
  | cons x bs ih =>
    intro l h1 h2 h3
    have hx := h2 x List.mem_cons_self
    have h4 := fun r hr => h2 r (List.mem_cons_of_mem x hr)
    have h5 := sumN_nonneg h4
    have e : sumN (x :: bs) = x.n + sumN bs := by simp [sumN]
    rw [e] at h3
    obtain ⟨i1, i2⟩ := ins_good hk h1 hx (by omega)
    have := ih i1 h4 (by rw [i2]; omega)
    unfold mergeL at this ⊢
    rw [List.foldlM_cons, putL_few hk h1 hx (by omega)]
    exact this
theorem merge_split {k : Int} (hk : fRight k = true) {a b : List Vl} (hl : a.length + b.length ≤ 2000) (ha : ∀ x ∈ a, okV k x = true) (hb : ∀ x ∈ b, okV k x = true) :
    mergeR k (rowV k a) (rowV k b) = (rowV k (a ++ b), 0) := by
  obtain ⟨a1, a2⟩ := rowV_good (l := a) hk (by omega)
  obtain ⟨b1, b2⟩ := rowV_good (l := b) hk (by omega)
  unfold mergeR
  rw [rowV_right ha (by omega), rowV_right hb (by omega), hk, mergeL_few hk a1 b1 (by rw [a2, b2]; omega)]
  simp only [Bool.and_self, if_true, Prod.mk.injEq, and_true]
  have := insAll_merge (k := k) hk (l := rowV k a) (bs := []) (vs := b.map (vP k)) a1 (by simp) (vPs_good hk) (by rw [a2, vPs_sum hk]; simp [sumN]; omega)
  rw [show insAll k [] (b.map (vP k)) = rowV k b from rfl] at this
  rw [this]
  unfold rowV
  rw [List.map_append, insAll_app]
  rfl
set_option maxHeartbeats 8000000 in
theorem p_splits (k : Int) (vs : List Vl) (t : Int) (hx : vs.length ≤ 9223372036854775807) (ht : -9223372036854775808 ≤ t ∧ t ≤ 9223372036854775807) :
    PC Try.prog 10 [.v (.int .i64 k), .sl 4 (vs.map Vl.av), .v (.int .i64 t)] (.v (.bool true)) := by
  have h8 := p_alive
  have hn : (vs.map Vl.av).length = vs.length := List.length_map _
  have hn40 : ((vs.map Vl.av).take 40).length ≤ 40 := by rw [List.length_take]; omega
  obtain ⟨l, hl40, hcase⟩ : ∃ l : List Vl, l.length ≤ 40 ∧ ((40 < vs.length ∧ (vs.map Vl.av).take 40 = l.map Vl.av) ∨ (¬ 40 < vs.length ∧ l = vs)) := by
    by_cases h : 40 < vs.length
    · exact ⟨vs.take 40, by rw [List.length_take]; omega, .inl ⟨h, by rw [List.map_take]⟩⟩
    · exact ⟨vs, by omega, .inr ⟨h, rfl⟩⟩
  have hall := p_all k l (by omega)
  have hnl : (l.map Vl.av).length = l.length := List.length_map _
  obtain ⟨r1, hr1⟩ : ∃ r, t.tmod (((l.map Vl.av).length : Int) + 1) = r := ⟨_, rfl⟩
  obtain ⟨r2, hr2⟩ : ∃ r, (r1 + ((l.map Vl.av).length : Int) + 1).tmod (((l.map Vl.av).length : Int) + 1) = r := ⟨_, rfl⟩
  have b1 := tmod_bound t (b := ((l.map Vl.av).length : Int) + 1) (by omega)
  rw [hr1] at b1
  have b2 := tmod_pos (a := r1 + ((l.map Vl.av).length : Int) + 1) (b := ((l.map Vl.av).length : Int) + 1) (by omega) (by omega)
  rw [hr2] at b2
  obtain ⟨j, hj⟩ : ∃ j : Nat, r2 = (j : Int) := ⟨r2.toNat, by omega⟩
  subst hj
  have hjl : j ≤ (l.map Vl.av).length := by omega
  have hA := p_all k (l.take j) (by rw [List.length_take]; omega)
  have hB := p_all k (l.drop j) (by rw [List.length_drop]; omega)
  rw [List.map_take] at hA
  rw [List.map_drop] at hB
  have hbad : ((allV k l).2 && fRight k) = false ∨ ((allV k l).2 = true ∧ fRight k = true) := by cases (allV k l).2 <;> cases fRight k <;> simp
  rcases hcase with ⟨h1, h2⟩ | ⟨h1, rfl⟩
  all_goals
    rcases hbad with hbad | ⟨hg1, hg2⟩
    · have hk := right_not (k := k)
      generalize allV k l = r at *
      obtain ⟨A, ok⟩ := r
      dsimp only [AR.av] at hall hbad
      cases ok
      · refine PC.mk (ac_body tab_ok Try.func10 rfl (by kernel_rfl) rfl ?_); intro w0 M μ0; simp only [Try.ntmps10, List.length_cons, List.length_nil, Nat.reduceAdd, Nat.reduceSub, numb]
        repeat' (first | ((first | apply o_do | apply d_do | apply d_yes rfl rfl rfl); first | exact ls_slice_to (n := 40) tab_ok rfl rfl rfl rfl (by rw [hn]; omega) rfl | exact ls_rem64 hr1 rfl rfl (by omega) (by omega) rfl | exact ls_rem64 hr2 rfl rfl (by omega) (by omega) rfl | exact lsq) | first | refine a_seq ?_ | refine a_region ?_ | refine o_nil ?_ | refine a_block ?_ | refine a_ret ?_ | refine a_exit ?_ | refine a_skip ?_ | refine a_draw mixed ?_ | refine d_nil (by kernel_rfl) ?_ | first | refine o_yes rfl rfl rfl ?_ | refine o_no rfl rfl rfl (by decide) ?_ | refine o_no' rfl rfl rfl ?_ | refine a_condT rfl ?_ | refine a_condF rfl ?_ | refine d_no rfl rfl rfl (by decide) ?_ | refine d_no' rfl rfl rfl ?_ | ((first | refine o_split_t rfl rfl rfl (fun hb => ?_) (fun hb => ?_) | refine o_split_f rfl rfl rfl (fun hb => ?_) (fun hb => ?_) | refine a_cond rfl (fun hb => ?_) (fun hb => ?_) | refine d_split rfl rfl (fun hb => ?_) (fun hb => ?_)) <;> (simp only [hb]; try simp only [decide_eq_true_eq, decide_eq_false_iff_not, Bool.not_eq_true', Bool.not_eq_false', Bool.not_eq_true, Bool.not_eq_false, ne_eq, Decidable.not_not] at hb; try (exfalso; first | omega | exact hb trivial))))
        try simp only [h2]
        repeat' (first | ((first | apply o_do | apply d_do | apply d_yes rfl rfl rfl); first | exact lsc (hall) | exact lsc (h8) | exact ls_rem64 hr1 rfl rfl (by omega) (by omega) rfl | exact ls_rem64 hr2 rfl rfl (by omega) (by omega) rfl | exact lsq) | first | refine a_seq ?_ | refine a_region ?_ | refine o_nil ?_ | refine a_block ?_ | refine a_ret ?_ | refine a_exit ?_ | refine a_skip ?_ | refine a_draw mixed ?_ | refine d_nil (by kernel_rfl) ?_ | first | refine o_yes rfl rfl rfl ?_ | refine o_no rfl rfl rfl (by decide) ?_ | refine o_no' rfl rfl rfl ?_ | refine a_condT rfl ?_ | refine a_condF rfl ?_ | refine d_no rfl rfl rfl (by decide) ?_ | refine d_no' rfl rfl rfl ?_ | ((first | refine o_split_t rfl rfl rfl (fun hb => ?_) (fun hb => ?_) | refine o_split_f rfl rfl rfl (fun hb => ?_) (fun hb => ?_) | refine a_cond rfl (fun hb => ?_) (fun hb => ?_) | refine d_split rfl rfl (fun hb => ?_) (fun hb => ?_)) <;> (simp only [hb]; try simp only [decide_eq_true_eq, decide_eq_false_iff_not, Bool.not_eq_true', Bool.not_eq_false', Bool.not_eq_true, Bool.not_eq_false, ne_eq, Decidable.not_not] at hb; try (exfalso; first | omega | exact hb trivial))))
        all_goals refine ⟨by first | exact .inr rfl | exact .inl rfl, _, rfl, ?_, by repeat' (first | exact trivial | refine ⟨⟨_, rfl, by first | rfl | (simp [renO, *]; done)⟩, by first | rfl | assumption, ?_⟩)⟩
        all_goals (first | refine FinA.tup ?_ | refine FinA.one ?_); repeat' (first | exact FinBs.nil | exact FinCs.nil | refine FinBs.cons ?_ ?_ | refine FinCs.cons ?_ ?_ | refine FinB.cell (FinC.v ?_) | refine FinB.cell (FinC.own rfl rfl rfl ?_) | exact FinB.cell FinC.nil | refine FinB.cell (FinC.sl ?_) | exact FinB.agg' rfl rfl | exact FinB.cell (FinC.same rfl) | refine FinB.agg ?_ | refine FinC.v ?_ | refine FinC.own rfl rfl rfl ?_ | exact FinC.nil | refine FinC.sl ?_ | exact FinC.same rfl); all_goals try rfl
      · have hk := hk (by simpa using hbad)
        refine PC.mk (ac_body tab_ok Try.func10 rfl (by kernel_rfl) rfl ?_); intro w0 M μ0; simp only [Try.ntmps10, List.length_cons, List.length_nil, Nat.reduceAdd, Nat.reduceSub, numb]
        repeat' (first | ((first | apply o_do | apply d_do | apply d_yes rfl rfl rfl); first | exact ls_slice_to (n := 40) tab_ok rfl rfl rfl rfl (by rw [hn]; omega) rfl | exact ls_rem64 hr1 rfl rfl (by omega) (by omega) rfl | exact ls_rem64 hr2 rfl rfl (by omega) (by omega) rfl | exact lsq) | first | refine a_seq ?_ | refine a_region ?_ | refine o_nil ?_ | refine a_block ?_ | refine a_ret ?_ | refine a_exit ?_ | refine a_skip ?_ | refine a_draw mixed ?_ | refine d_nil (by kernel_rfl) ?_ | first | refine o_yes rfl rfl rfl ?_ | refine o_no rfl rfl rfl (by decide) ?_ | refine o_no' rfl rfl rfl ?_ | refine a_condT rfl ?_ | refine a_condF rfl ?_ | refine d_no rfl rfl rfl (by decide) ?_ | refine d_no' rfl rfl rfl ?_ | ((first | refine o_split_t rfl rfl rfl (fun hb => ?_) (fun hb => ?_) | refine o_split_f rfl rfl rfl (fun hb => ?_) (fun hb => ?_) | refine a_cond rfl (fun hb => ?_) (fun hb => ?_) | refine d_split rfl rfl (fun hb => ?_) (fun hb => ?_)) <;> (simp only [hb]; try simp only [decide_eq_true_eq, decide_eq_false_iff_not, Bool.not_eq_true', Bool.not_eq_false', Bool.not_eq_true, Bool.not_eq_false, ne_eq, Decidable.not_not] at hb; try (exfalso; first | omega | exact hb trivial))))
        try simp only [h2]
        repeat' (first | ((first | apply o_do | apply d_do | apply d_yes rfl rfl rfl); first | exact lsc (hall) | exact lsc (h8) | exact ls_rem64 hr1 rfl rfl (by omega) (by omega) rfl | exact ls_rem64 hr2 rfl rfl (by omega) (by omega) rfl | exact lsq) | first | refine a_seq ?_ | refine a_region ?_ | refine o_nil ?_ | refine a_block ?_ | refine a_ret ?_ | refine a_exit ?_ | refine a_skip ?_ | refine a_draw mixed ?_ | refine d_nil (by kernel_rfl) ?_ | first | refine o_yes rfl rfl rfl ?_ | refine o_no rfl rfl rfl (by decide) ?_ | refine o_no' rfl rfl rfl ?_ | refine a_condT rfl ?_ | refine a_condF rfl ?_ | refine d_no rfl rfl rfl (by decide) ?_ | refine d_no' rfl rfl rfl ?_ | ((first | refine o_split_t rfl rfl rfl (fun hb => ?_) (fun hb => ?_) | refine o_split_f rfl rfl rfl (fun hb => ?_) (fun hb => ?_) | refine a_cond rfl (fun hb => ?_) (fun hb => ?_) | refine d_split rfl rfl (fun hb => ?_) (fun hb => ?_)) <;> (simp only [hb]; try simp only [decide_eq_true_eq, decide_eq_false_iff_not, Bool.not_eq_true', Bool.not_eq_false', Bool.not_eq_true, Bool.not_eq_false, ne_eq, Decidable.not_not] at hb; try (exfalso; first | omega | exact hb trivial))))
        all_goals refine ⟨by first | exact .inr rfl | exact .inl rfl, _, rfl, ?_, by repeat' (first | exact trivial | refine ⟨⟨_, rfl, by first | rfl | (simp [renO, *]; done)⟩, by first | rfl | assumption, ?_⟩)⟩
        all_goals (first | refine FinA.tup ?_ | refine FinA.one ?_); repeat' (first | exact FinBs.nil | exact FinCs.nil | refine FinBs.cons ?_ ?_ | refine FinCs.cons ?_ ?_ | refine FinB.cell (FinC.v ?_) | refine FinB.cell (FinC.own rfl rfl rfl ?_) | exact FinB.cell FinC.nil | refine FinB.cell (FinC.sl ?_) | exact FinB.agg' rfl rfl | exact FinB.cell (FinC.same rfl) | refine FinB.agg ?_ | refine FinC.v ?_ | refine FinC.own rfl rfl rfl ?_ | exact FinC.nil | refine FinC.sl ?_ | exact FinC.same rfl); all_goals try rfl
    · have hk1 : 1 ≤ k ∧ k ≤ 5 := by simpa [fRight] using hg2
      have hok : ∀ x ∈ l, okV k x = true := by
        unfold allV at hg1
        split at hg1
        · rename_i h; simpa using h
        · cases hg1
      have okA : ∀ x ∈ l.take j, okV k x = true := fun x hx => hok x (List.mem_of_mem_take hx)
      have okB : ∀ x ∈ l.drop j, okV k x = true := fun x hx => hok x (List.mem_of_mem_drop hx)
      have eL : allV k l = (rowV k l, true) := by simp [allV, hok]; exact hok
      have eA : allV k (l.take j) = (rowV k (l.take j), true) := by unfold allV; rw [if_pos (by simpa using okA)]
      have eB : allV k (l.drop j) = (rowV k (l.drop j), true) := by unfold allV; rw [if_pos (by simpa using okB)]
      have hlen : (l.take j).length + (l.drop j).length = l.length := by rw [List.length_take, List.length_drop]; omega
      have rA := (rightL_ok (rowV_right okA (by omega))).1
      have rB := (rightL_ok (rowV_right okB (by omega))).1
      have rL := (rightL_ok (rowV_right hok (by omega))).1
      have m1 := p_Merge k (rowV k (l.take j)) (rowV k (l.drop j)) (by omega) (by omega)
      have m2 := p_Merge k (rowV k (l.drop j)) (rowV k (l.take j)) (by omega) (by omega)
      rw [merge_split hg2 (by omega) okA okB, List.take_append_drop] at m1
      rw [merge_split hg2 (by omega) okB okA, rowV_perm (List.perm_append_comm) (by rw [List.length_append]; omega) (fun x hx => by rcases List.mem_append.1 hx with h | h; exact okB x h; exact okA x h), List.take_append_drop] at m2
      have hlike := p_Like (rowV k l) (by omega)
      rw [eL] at hall
      rw [eA] at hA
      rw [eB] at hB
      dsimp only [AR.av, PR.av] at hall hA hB m1 m2
      generalize rowV k l = L at *
      generalize rowV k (l.take j) = LA at *
      generalize rowV k (l.drop j) = LB at *
      refine PC.mk (ac_body tab_ok Try.func10 rfl (by kernel_rfl) rfl ?_); intro w0 M μ0; simp only [Try.ntmps10, List.length_cons, List.length_nil, Nat.reduceAdd, Nat.reduceSub, numb]
      repeat' (first | ((first | apply o_do | apply d_do | apply d_yes rfl rfl rfl); first | exact ls_slice_to (n := 40) tab_ok rfl rfl rfl rfl (by rw [hn]; omega) rfl | exact ls_rem64 hr1 rfl rfl (by omega) (by omega) rfl | exact ls_rem64 hr2 rfl rfl (by omega) (by omega) rfl | exact lsq) | first | refine a_seq ?_ | refine a_region ?_ | refine o_nil ?_ | refine a_block ?_ | refine a_ret ?_ | refine a_exit ?_ | refine a_skip ?_ | refine a_draw mixed ?_ | refine d_nil (by kernel_rfl) ?_ | first | refine o_yes rfl rfl rfl ?_ | refine o_no rfl rfl rfl (by decide) ?_ | refine o_no' rfl rfl rfl ?_ | refine a_condT rfl ?_ | refine a_condF rfl ?_ | refine d_no rfl rfl rfl (by decide) ?_ | refine d_no' rfl rfl rfl ?_ | ((first | refine o_split_t rfl rfl rfl (fun hb => ?_) (fun hb => ?_) | refine o_split_f rfl rfl rfl (fun hb => ?_) (fun hb => ?_) | refine a_cond rfl (fun hb => ?_) (fun hb => ?_) | refine d_split rfl rfl (fun hb => ?_) (fun hb => ?_)) <;> (simp only [hb]; try simp only [decide_eq_true_eq, decide_eq_false_iff_not, Bool.not_eq_true', Bool.not_eq_false', Bool.not_eq_true, Bool.not_eq_false, ne_eq, Decidable.not_not] at hb; try (exfalso; first | omega | exact hb trivial))))
      try simp only [h2]
      repeat' (first | ((first | apply o_do | apply d_do | apply d_yes rfl rfl rfl); first | exact lsc (hall) | exact lsc (hA) | exact lsc (hB) | exact lsc (m1) | exact lsc (m2) | exact lsc (hlike) | exact lsc (h8) | exact ls_rem64 hr1 rfl rfl (by omega) (by omega) rfl | exact ls_rem64 hr2 rfl rfl (by omega) (by omega) rfl | exact ls_slice_to (n := j) tab_ok rfl rfl rfl rfl hjl rfl | exact ls_slice_from (n := j) tab_ok rfl rfl rfl rfl hjl rfl | exact lsq) | first | refine a_seq ?_ | refine a_region ?_ | refine o_nil ?_ | refine a_block ?_ | refine a_ret ?_ | refine a_exit ?_ | refine a_skip ?_ | refine a_draw mixed ?_ | refine d_nil (by kernel_rfl) ?_ | first | refine o_yes rfl rfl rfl ?_ | refine o_no rfl rfl rfl (by decide) ?_ | refine o_no' rfl rfl rfl ?_ | refine a_condT rfl ?_ | refine a_condF rfl ?_ | refine d_no rfl rfl rfl (by decide) ?_ | refine d_no' rfl rfl rfl ?_ | ((first | refine o_split_t rfl rfl rfl (fun hb => ?_) (fun hb => ?_) | refine o_split_f rfl rfl rfl (fun hb => ?_) (fun hb => ?_) | refine a_cond rfl (fun hb => ?_) (fun hb => ?_) | refine d_split rfl rfl (fun hb => ?_) (fun hb => ?_)) <;> (simp only [hb]; try simp only [decide_eq_true_eq, decide_eq_false_iff_not, Bool.not_eq_true', Bool.not_eq_false', Bool.not_eq_true, Bool.not_eq_false, ne_eq, Decidable.not_not] at hb; try (exfalso; first | omega | exact hb trivial))))
      all_goals refine ⟨by first | exact .inr rfl | exact .inl rfl, _, rfl, ?_, by repeat' (first | exact trivial | refine ⟨⟨_, rfl, by first | rfl | (simp [renO, *]; done)⟩, by first | rfl | assumption, ?_⟩)⟩
      all_goals (first | refine FinA.tup ?_ | refine FinA.one ?_); repeat' (first | exact FinBs.nil | exact FinCs.nil | refine FinBs.cons ?_ ?_ | refine FinCs.cons ?_ ?_ | refine FinB.cell (FinC.v ?_) | refine FinB.cell (FinC.own rfl rfl rfl ?_) | exact FinB.cell FinC.nil | refine FinB.cell (FinC.sl ?_) | exact FinB.agg' rfl rfl | exact FinB.cell (FinC.same rfl) | refine FinB.agg ?_ | refine FinC.v ?_ | refine FinC.own rfl rfl rfl ?_ | exact FinC.nil | refine FinC.sl ?_ | exact FinC.same rfl); all_goals try rfl
end Go.Proofs.Ytimlkhbedhjehaa
