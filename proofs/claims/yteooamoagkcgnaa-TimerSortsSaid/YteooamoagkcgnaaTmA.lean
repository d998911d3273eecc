/-
  Timers, walked over abstract values: how two compare, what a heap asks of its row.
-/
import Derived.Test.YteooamoagkcgnaaTmR
import Derived.Test.YteooamoagkcgnaaPnE
import Derived.Test.YteooamoagkcgnaaAvI
import Derived.Test.YteooamoagkcgnaaAvP
import Derived.Test.YteooamoagkcgnaaAvW
import Derived.Test.YteooamoagkcgnaaAvK
namespace Go.Proofs.Yteooamoagkcgnaa
open Go.RowKit
set_option linter.unusedSimpArgs false
set_option linter.unusedVariables false
def tCmp (a b : Tm) : Int := orI [cmpI a.at' b.at', cmpT a.name b.name]
theorem tCmp_lt (a b : Tm) : decide (tCmp a b < 0) = tLt a b := by
  rcases Int.lt_trichotomy a.at' b.at' with h | h | h
  · have e : tCmp a b = -1 := by simp [tCmp, orI, cmpI, h]
    have e2 : tLt a b = true := by simp [tLt, h]
    rw [e, e2]; rfl
  · have e : tCmp a b = cmpT a.name b.name := by
      simp only [tCmp, orI, cmpI, h, Int.lt_irrefl, if_false, ne_eq, not_true]
      split
      · rfl
      · rename_i h2; exact (Decidable.not_not.1 h2).symm
    have e2 : tLt a b = Op.bytesLess a.name.toList b.name.toList := by simp [tLt, h]
    rw [e, e2]
    unfold cmpT sless
    cases e1 : Op.bytesLess a.name.toList b.name.toList
    · cases e3 : Op.bytesLess b.name.toList a.name.toList <;> rfl
    · rfl
  · have h3 : ¬ a.at' < b.at' := by omega
    have e : tCmp a b = 1 := by simp [tCmp, orI, cmpI, h, h3]
    have e2 : tLt a b = false := by simp [tLt, h3]; intro h4; omega
    rw [e, e2]; rfl
set_option maxHeartbeats 1000000 in
theorem p_tCmp (a b : Tm) : PC Try.prog 25 [.agg a.av, .agg b.av] (.v (.int .i64 (tCmp a b))) := by
  have h := p_Or [cmpI a.at' b.at', cmpT a.name b.name] (by simp)
  refine PC.mk (ac_body tab_ok Try.func25 rfl (by kernel_rfl) rfl ?_); intro w0 M μ0; simp only [Try.ntmps25, List.length_cons, List.length_nil, Nat.reduceAdd, Nat.reduceSub, numb]
  unfold Tm.av
  repeat' (first | ((first | apply o_do | apply d_do | apply d_yes rfl rfl rfl); first | exact lsc ((p_cmpI _ _)) | exact lsc ((p_cmpT _ _)) | exact lsc (h) | exact lsq) | refine a_seq ?_ | refine a_region ?_ | refine o_nil ?_ | refine a_block ?_ | refine a_ret ?_ | refine a_exit ?_ | refine a_skip ?_ | refine a_draw mixed ?_ | refine d_nil (by kernel_rfl) ?_ | refine o_yes rfl rfl rfl ?_ | refine o_no rfl rfl rfl (by decide) ?_ | refine o_no' rfl rfl rfl ?_ | refine a_condT rfl ?_ | refine a_condF rfl ?_ | refine d_no rfl rfl rfl (by decide) ?_ | refine d_no' rfl rfl rfl ?_ | (refine wq2 (fun hb => ?_) (fun hb => ?_) <;> (simp only [hb]; try simp only [hbs, ne_eq] at hb; try (exfalso; first | omega | exact hb trivial))) | fail)
  refine ⟨by first | exact .inr rfl | exact .inl rfl, _, rfl, ?_, by repeat' (first | exact trivial | refine ⟨⟨_, rfl, by first | rfl | (simp [renO, *]; done)⟩, by first | rfl | assumption, ?_⟩)⟩
  (first | refine FinA.tup ?_ | refine FinA.one ?_); repeat' (first | exact FinBs.nil | exact FinCs.nil | refine FinBs.cons ?_ ?_ | refine FinCs.cons ?_ ?_ | refine FinB.cell (FinC.v ?_) | refine FinB.cell (FinC.own rfl rfl rfl ?_) | exact FinB.cell FinC.nil | refine FinB.cell (FinC.sl ?_) | exact FinB.agg' rfl rfl | exact FinB.cell (FinC.same rfl) | refine FinB.agg ?_ | refine FinC.v ?_ | refine FinC.own rfl rfl rfl ?_ | exact FinC.nil | refine FinC.sl ?_ | exact FinC.same rfl); all_goals try rfl
theorem p_tAhead (a b : Tm) : PC Try.prog 12 [.agg a.av, .agg b.av] (.v (.bool (tLt a b))) := by
  refine PC.mk (ac_body tab_ok Try.func12 rfl (by kernel_rfl) rfl ?_); intro w0 M μ0; simp only [Try.ntmps12, List.length_cons, List.length_nil, Nat.reduceAdd, Nat.reduceSub, numb]
  unfold Tm.av
  repeat' (first | ((first | apply o_do | apply d_do | apply d_yes rfl rfl rfl); exact lsq) | refine a_seq ?_ | refine a_region ?_ | refine o_nil ?_ | refine a_block ?_ | refine a_ret ?_ | refine a_exit ?_ | refine a_skip ?_ | refine a_draw mixed ?_ | refine d_nil (by kernel_rfl) ?_ | refine o_yes rfl rfl rfl ?_ | refine o_no rfl rfl rfl (by decide) ?_ | refine o_no' rfl rfl rfl ?_ | refine a_condT rfl ?_ | refine a_condF rfl ?_ | refine d_no rfl rfl rfl (by decide) ?_ | refine d_no' rfl rfl rfl ?_ | (refine wq2 (fun hb => ?_) (fun hb => ?_) <;> (simp only [hb]; try simp only [hbs, ne_eq] at hb; try (exfalso; first | omega | exact hb trivial))) | fail)
  all_goals refine ⟨by first | exact .inr rfl | exact .inl rfl, _, rfl, ?_, by repeat' (first | exact trivial | refine ⟨⟨_, rfl, by first | rfl | (simp [renO, *]; done)⟩, by first | rfl | assumption, ?_⟩)⟩
  all_goals (first | refine FinA.tup ?_ | refine FinA.one ?_); repeat' (first | exact FinBs.nil | exact FinCs.nil | refine FinBs.cons ?_ ?_ | refine FinCs.cons ?_ ?_ | refine FinB.cell (FinC.v ?_) | refine FinB.cell (FinC.own rfl rfl rfl ?_) | exact FinB.cell FinC.nil | refine FinB.cell (FinC.sl ?_) | exact FinB.agg' rfl rfl | exact FinB.cell (FinC.same rfl) | refine FinB.agg ?_ | refine FinC.v ?_ | refine FinC.own rfl rfl rfl ?_ | exact FinC.nil | refine FinC.sl ?_ | exact FinC.same rfl); all_goals try rfl
  all_goals simp [tLt, *]
/-- a heap's row, and the heap -/
abbrev RS (r : List Tm) : Store := [(0, .row 27 2 (r.map Tm.av))]
abbrev HS (r : List Tm) : Store := [(0, .box 50 [.own 1 (r.map Tm.av).length]), (1, .row 27 2 (r.map Tm.av))]
theorem av_at {r : List Tm} {i : Nat} (h : i < r.length) : (r.map Tm.av)[i]? = some (Tm.av (r.getD i tmZ)) := by
  rw [List.getElem?_map, List.getElem?_eq_getElem h, List.getD_eq_getElem?_getD, List.getElem?_eq_getElem h]; rfl
theorem swp_av {r : List Tm} (i j : Nat) : (swp tmZ r i j).map Tm.av = ((r.map Tm.av).set i (Tm.av (r.getD j tmZ))).set j (Tm.av (r.getD i tmZ)) := by
  unfold swp; rw [List.map_set, List.map_set]
theorem pureT (t : Tm) : ∀ σ μ w A y, rep σ μ w A (.agg t.av) y → rep [] μ w A (.agg t.av) y := fun σ μ w A y h => rep_pureB (μ' := μ) h rfl
theorem a_rLen (r : List Tm) : AC Try.prog 71 [.own 0 (r.map Tm.av).length] (RS r) (.v (.int .i64 r.length)) (RS r) := by
  unfold RS
  refine (ac_body tab_ok Try.func71 rfl (by kernel_rfl) rfl ?_); intro w0 M μ0; simp only [Try.ntmps71, List.length_cons, List.length_nil, Nat.reduceAdd, Nat.reduceSub, numb]
  repeat' (first | ((first | apply o_do | apply d_do | apply d_yes rfl rfl rfl); exact lsq) | refine a_seq ?_ | refine a_region ?_ | refine o_nil ?_ | refine a_block ?_ | refine a_ret ?_ | refine a_exit ?_ | refine a_skip ?_ | refine a_draw mixed ?_ | refine d_nil (by kernel_rfl) ?_ | refine o_yes rfl rfl rfl ?_ | refine o_no rfl rfl rfl (by decide) ?_ | refine o_no' rfl rfl rfl ?_ | refine a_condT rfl ?_ | refine a_condF rfl ?_ | refine d_no rfl rfl rfl (by decide) ?_ | refine d_no' rfl rfl rfl ?_ | (refine wq2 (fun hb => ?_) (fun hb => ?_) <;> (simp only [hb]; try simp only [hbs, ne_eq] at hb; try (exfalso; first | omega | exact hb trivial))) | fail)
  refine ⟨by first | exact .inr rfl | exact .inl rfl, _, rfl, ?_, by repeat' (first | exact trivial | refine ⟨⟨_, rfl, by first | rfl | (simp [renO, *]; done)⟩, by first | rfl | assumption, ?_⟩)⟩
  (first | refine FinA.tup ?_ | refine FinA.one ?_); repeat' (first | exact FinBs.nil | exact FinCs.nil | refine FinBs.cons ?_ ?_ | refine FinCs.cons ?_ ?_ | refine FinB.cell (FinC.v ?_) | refine FinB.cell (FinC.own rfl rfl rfl ?_) | exact FinB.cell FinC.nil | refine FinB.cell (FinC.sl ?_) | exact FinB.agg' rfl rfl | exact FinB.cell (FinC.same rfl) | refine FinB.agg ?_ | refine FinC.v ?_ | refine FinC.own rfl rfl rfl ?_ | exact FinC.nil | refine FinC.sl ?_ | exact FinC.same rfl); all_goals try rfl
  simp
set_option maxHeartbeats 1000000 in
theorem a_rLess (r : List Tm) (i j : Nat) (hi : i < r.length) (hj : j < r.length) : AC Try.prog 72 [.own 0 (r.map Tm.av).length, .v (.int .i64 i), .v (.int .i64 j)] (RS r) (.v (.bool (tLt (r.getD i tmZ) (r.getD j tmZ)))) (RS r) := by
  have h1 := av_at hi
  have h2 := av_at hj
  have h3 : i < (r.map Tm.av).length := by rw [List.length_map]; exact hi
  have h4 : j < (r.map Tm.av).length := by rw [List.length_map]; exact hj
  have hc := p_tCmp (r.getD i tmZ) (r.getD j tmZ)
  rw [← tCmp_lt]
  unfold RS
  generalize r.getD i tmZ = a at *
  generalize r.getD j tmZ = b at *
  refine (ac_body tab_ok Try.func72 rfl (by kernel_rfl) rfl ?_); intro w0 M μ0; simp only [Try.ntmps72, List.length_cons, List.length_nil, Nat.reduceAdd, Nat.reduceSub, numb]
  repeat' (first | ((first | apply o_do | apply d_do | apply d_yes rfl rfl rfl); first | exact ls_indexAddr_own tab_ok rfl rfl rfl rfl rfl rfl h3 rfl | exact ls_indexAddr_own tab_ok rfl rfl rfl rfl rfl rfl h4 rfl | exact ls_load_eref tab_ok rfl rfl rfl h1 rfl rfl rfl rfl | exact ls_load_eref tab_ok rfl rfl rfl h2 rfl rfl rfl rfl | exact lsc (hc) | exact lsq) | refine a_seq ?_ | refine a_region ?_ | refine o_nil ?_ | refine a_block ?_ | refine a_ret ?_ | refine a_exit ?_ | refine a_skip ?_ | refine a_draw mixed ?_ | refine d_nil (by kernel_rfl) ?_ | refine o_yes rfl rfl rfl ?_ | refine o_no rfl rfl rfl (by decide) ?_ | refine o_no' rfl rfl rfl ?_ | refine a_condT rfl ?_ | refine a_condF rfl ?_ | refine d_no rfl rfl rfl (by decide) ?_ | refine d_no' rfl rfl rfl ?_ | (refine wq2 (fun hb => ?_) (fun hb => ?_) <;> (simp only [hb]; try simp only [hbs, ne_eq] at hb; try (exfalso; first | omega | exact hb trivial))) | fail)
  refine ⟨by first | exact .inr rfl | exact .inl rfl, _, rfl, ?_, by repeat' (first | exact trivial | refine ⟨⟨_, rfl, by first | rfl | (simp [renO, *]; done)⟩, by first | rfl | assumption, ?_⟩)⟩
  (first | refine FinA.tup ?_ | refine FinA.one ?_); repeat' (first | exact FinBs.nil | exact FinCs.nil | refine FinBs.cons ?_ ?_ | refine FinCs.cons ?_ ?_ | refine FinB.cell (FinC.v ?_) | refine FinB.cell (FinC.own rfl rfl rfl ?_) | exact FinB.cell FinC.nil | refine FinB.cell (FinC.sl ?_) | exact FinB.agg' rfl rfl | exact FinB.cell (FinC.same rfl) | refine FinB.agg ?_ | refine FinC.v ?_ | refine FinC.own rfl rfl rfl ?_ | exact FinC.nil | refine FinC.sl ?_ | exact FinC.same rfl); all_goals try rfl
set_option maxHeartbeats 1000000 in
theorem a_rSwap (r : List Tm) (i j : Nat) (hi : i < r.length) (hj : j < r.length) : AC Try.prog 73 [.own 0 (r.map Tm.av).length, .v (.int .i64 i), .v (.int .i64 j)] (RS r) (.tup []) (RS (swp tmZ r i j)) := by
  have h1 := av_at hi
  have h2 := av_at hj
  have h3 : i < (r.map Tm.av).length := by rw [List.length_map]; exact hi
  have h4 : j < (r.map Tm.av).length := by rw [List.length_map]; exact hj
  have h5 : (r.map Tm.av).length = ((r.map Tm.av).set i (Tm.av (r.getD j tmZ))).length := by rw [List.length_set]
  have h6 : ∃ cs, ((r.map Tm.av).set i (Tm.av (r.getD j tmZ)))[j]? = some cs := ⟨_, List.getElem?_eq_getElem (by rw [List.length_set]; exact h4)⟩
  obtain ⟨cs, h6⟩ := h6
  have h7 : cs.length = 2 := by
    rw [List.getElem?_set] at h6
    by_cases e : i = j
    · rw [if_pos e, if_pos h3] at h6; injection h6 with h6; subst h6; rfl
    · rw [if_neg e, h2] at h6; injection h6 with h6; subst h6; rfl
  have h9 : j < ((r.map Tm.av).set i (Tm.av (r.getD j tmZ))).length := by rw [List.length_set]; exact h4
  obtain ⟨c0, c1, rfl⟩ : ∃ c0 c1, cs = [c0, c1] := by
    match cs, h7 with
    | [c0, c1], _ => exact ⟨c0, c1, rfl⟩
  have h8 := swp_av (r := r) i j
  unfold RS
  rw [h8]
  have pa := pureT (r.getD i tmZ)
  have pb := pureT (r.getD j tmZ)
  generalize r.getD i tmZ = a at *
  generalize r.getD j tmZ = b at *
  refine (ac_body tab_ok Try.func73 rfl (by kernel_rfl) rfl ?_); intro w0 M μ0; simp only [Try.ntmps73, List.length_cons, List.length_nil, Nat.reduceAdd, Nat.reduceSub, numb]
  repeat' (first | ((first | apply o_do | apply d_do | apply d_yes rfl rfl rfl); first | exact ls_indexAddr_own tab_ok rfl rfl rfl rfl rfl rfl h3 rfl | exact ls_indexAddr_own tab_ok rfl rfl rfl rfl rfl rfl h4 rfl | exact ls_load_eref tab_ok rfl rfl rfl h1 rfl rfl rfl rfl | exact ls_load_eref tab_ok rfl rfl rfl h2 rfl rfl rfl rfl | exact ls_store_eref (cs' := Tm.av b) tab_ok rfl rfl rfl rfl h1 rfl rfl pb rfl rfl rfl rfl | exact ls_indexAddr_own tab_ok rfl rfl h5 rfl rfl rfl h9 rfl | exact ls_store_eref (cs' := Tm.av a) tab_ok rfl rfl rfl h5 h6 rfl rfl pa rfl rfl rfl rfl | exact lsq) | refine a_seq ?_ | refine a_region ?_ | refine o_nil ?_ | refine a_block ?_ | refine a_ret ?_ | refine a_exit ?_ | refine a_skip ?_ | refine a_draw mixed ?_ | refine d_nil (by kernel_rfl) ?_ | refine o_yes rfl rfl rfl ?_ | refine o_no rfl rfl rfl (by decide) ?_ | refine o_no' rfl rfl rfl ?_ | refine a_condT rfl ?_ | refine a_condF rfl ?_ | refine d_no rfl rfl rfl (by decide) ?_ | refine d_no' rfl rfl rfl ?_ | (refine wq2 (fun hb => ?_) (fun hb => ?_) <;> (simp only [hb]; try simp only [hbs, ne_eq] at hb; try (exfalso; first | omega | exact hb trivial))) | fail)
  refine ⟨by first | exact .inr rfl | exact .inl rfl, _, rfl, ?_, by repeat' (first | exact trivial | refine ⟨⟨_, rfl, by first | rfl | (simp [renO, *]; done)⟩, by first | rfl | assumption, ?_⟩)⟩
  (first | refine FinA.tup ?_ | refine FinA.one ?_); repeat' (first | exact FinBs.nil | exact FinCs.nil | refine FinBs.cons ?_ ?_ | refine FinCs.cons ?_ ?_ | refine FinB.cell (FinC.v ?_) | refine FinB.cell (FinC.own rfl rfl rfl ?_) | exact FinB.cell FinC.nil | refine FinB.cell (FinC.sl ?_) | exact FinB.agg' rfl rfl | exact FinB.cell (FinC.same rfl) | refine FinB.agg ?_ | refine FinC.v ?_ | refine FinC.own rfl rfl rfl ?_ | exact FinC.nil | refine FinC.sl ?_ | exact FinC.same rfl); all_goals try rfl
end Go.Proofs.Yteooamoagkcgnaa
