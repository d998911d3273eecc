/-
  Panes, walked over abstract values: the law that order does not matter.
-/
import Derived.Test.YtimlkhbedhjehaaRdV
namespace Go.Proofs.Ytimlkhbedhjehaa
open Go.RowKit
set_option linter.unusedSimpArgs false
set_option linter.unusedVariables false
theorem tmod_bound (a : Int) {b : Int} (hb : 0 < b) : -b < a.tmod b ∧ a.tmod b < b := by
  have h1 := Int.tmod_lt_of_pos a hb
  have h2 : -b < a.tmod b := by
    have h3 := Int.tmod_lt_of_pos (-a) hb
    rw [Int.neg_tmod] at h3
    omega
  exact ⟨h2, h1⟩
theorem tmod_pos {a b : Int} (ha : 0 ≤ a) (hb : 0 < b) : 0 ≤ a.tmod b ∧ a.tmod b < b := ⟨Int.tmod_nonneg b ha, Int.tmod_lt_of_pos a hb⟩
theorem o_weak {P : Program} {Γ : Ctx} {Q : Exit → ASt → Prop} {s t : ASt} {ops : Array Oper} {rest : List Oper} (h : Weak Γ s t) (hk : AOps P Γ ops rest Q t) : AOps P Γ ops rest Q s := ⟨fun μ a w hr => hk.out μ a w (h.rel hr)⟩
set_option maxHeartbeats 8000000 in
theorem p_order (k : Int) (vs : List Vl) (sw : List Int) (hx : vs.length ≤ 9223372036854775807) (hsx : sw.length ≤ 9223372036854775807) :
    PC Try.prog 8 [.v (.int .i64 k), .sl 4 (vs.map Vl.av), .sl 1 (sw.map iav)] (.v (.bool true)) := by
  have h8 := p_alive
  have hn : (vs.map Vl.av).length = vs.length := List.length_map _
  have hn40 : ((vs.map Vl.av).take 40).length ≤ 40 := by rw [List.length_take]; omega
  obtain ⟨l, hl40, hcase⟩ : ∃ l : List Vl, l.length ≤ 40 ∧ ((40 < vs.length ∧ (vs.map Vl.av).take 40 = l.map Vl.av) ∨ (¬ 40 < vs.length ∧ l = vs)) := by
    by_cases h : 40 < vs.length
    · exact ⟨vs.take 40, by rw [List.length_take]; omega, .inl ⟨h, by rw [List.map_take]⟩⟩
    · exact ⟨vs, by omega, .inr ⟨h, rfl⟩⟩
  have hall := p_all k l (by omega)
  have hR := allV_right (k := k) (l := l) (by omega)
  have hRl := (rightL_ok hR).1
  have hright := p_Right (allV k l).1 (by omega)
  have hlike := p_Like (allV k l).1 (by omega)
  rw [hR] at hright
  have hperm : ∀ m : List Vl, l.Perm m → PC Try.prog 44 [.v (.int .i64 k), .sl 4 (m.map Vl.av)] (AR.av (allV k l)) := fun m hm => by
    rw [allV_perm hm (by omega)]
    exact p_all k m (by rw [← hm.length_eq]; omega)
  generalize allV k l = r at *
  obtain ⟨A, ok⟩ := r
  dsimp only [AR.av] at hall hperm hright hlike
  have hnl : (l.map Vl.av).length = l.length := List.length_map _
  rcases hcase with ⟨h1, h2⟩ | ⟨h1, rfl⟩
  all_goals
    refine PC.mk (ac_body tab_ok Try.func8 rfl (by kernel_rfl) rfl ?_); intro w0 M μ0; simp only [Try.ntmps8, List.length_cons, List.length_nil, Nat.reduceAdd, Nat.reduceSub, numb]
    repeat' (first | ((first | apply o_do | apply d_do | apply d_yes rfl rfl rfl); first | exact ls_slice_to (n := 40) tab_ok rfl rfl rfl rfl (by rw [hn]; omega) rfl | exact lsq) | first | refine a_seq ?_ | refine a_region ?_ | refine o_nil ?_ | refine a_block ?_ | refine a_ret ?_ | refine a_exit ?_ | refine a_skip ?_ | refine a_draw mixed ?_ | refine d_nil (by kernel_rfl) ?_ | first | refine o_yes rfl rfl rfl ?_ | refine o_no rfl rfl rfl (by decide) ?_ | refine o_no' rfl rfl rfl ?_ | refine a_condT rfl ?_ | refine a_condF rfl ?_ | refine d_no rfl rfl rfl (by decide) ?_ | refine d_no' rfl rfl rfl ?_ | ((first | refine o_split_t rfl rfl rfl (fun hb => ?_) (fun hb => ?_) | refine o_split_f rfl rfl rfl (fun hb => ?_) (fun hb => ?_) | refine a_cond rfl (fun hb => ?_) (fun hb => ?_) | refine d_split rfl rfl (fun hb => ?_) (fun hb => ?_)) <;> (simp only [hb]; try simp only [decide_eq_true_eq, decide_eq_false_iff_not, Bool.not_eq_true', Bool.not_eq_false', Bool.not_eq_true, Bool.not_eq_false, ne_eq, Decidable.not_not] at hb; try (exfalso; first | omega | exact hb trivial))))
    try simp only [h2]
    refine a_loop (X := {x : Nat × List Vl // x.1 ≤ sw.length ∧ l.Perm x.2}) (fun x => ⟨[(0, .v (.int .i64 k)), (1, .sl 4 (l.map Vl.av)), (7, .own 0 (x.1.2.map Vl.av).length), (23, .sl 1 (sw.map iav)), (24, .v (.int .i64 sw.length)), (25, .v (.int .i64 x.1.1))], [(0, .row 60 4 (x.1.2.map Vl.av))]⟩) (fun x => sw.length - x.1.1) ⟨(0, l), Nat.zero_le _, List.Perm.refl _⟩ ?_ ?_
    · refine ⟨by repeat' (first | exact trivial | exact FinA.one (FinB.cell (FinC.same rfl)) | exact FinA.one (FinB.cell FinC.nil) | exact FinA.one (FinB.cell (FinC.own rfl rfl rfl rfl)) | exact FinA.one (FinB.cell (FinC.v (by first | rfl | (simp)))) | exact FinA.one (FinB.cell (FinC.ow rfl (by first | rfl | (simp)))) | exact FinA.one (FinB.agg' rfl rfl) | refine ⟨⟨_, rfl, ?_⟩, ?_⟩), by repeat' (first | exact trivial | refine ⟨⟨_, rfl, by first | rfl | (simp; done) | (simp [renO, *]; done)⟩, by first | rfl | assumption, ?_⟩), rfl⟩
    rintro ⟨⟨q, m⟩, hq, hpm⟩
    dsimp only at hq hpm ⊢
    have hm := hperm m hpm
    have hml : (m.map Vl.av).length = l.length := by rw [List.length_map, hpm.length_eq]
    have hml2 : m.length = l.length := hpm.length_eq.symm
    by_cases hlt : q < sw.length
    · have hel : (sw.map iav)[q]? = some (iav sw[q]) := by simp [hlt]
      generalize sw[q] = s at *
      by_cases hbr : l.length ≤ q + 1
      · repeat' (first | ((first | apply o_do | apply d_do | apply d_yes rfl rfl rfl); first | exact lsc (hall) | exact lsq) | first | refine a_seq ?_ | refine a_region ?_ | refine o_nil ?_ | refine a_block ?_ | refine a_ret ?_ | refine a_exit ?_ | refine a_skip ?_ | refine a_draw mixed ?_ | refine d_nil (by kernel_rfl) ?_ | first | refine o_yes rfl rfl rfl ?_ | refine o_no rfl rfl rfl (by decide) ?_ | refine o_no' rfl rfl rfl ?_ | refine a_condT rfl ?_ | refine a_condF rfl ?_ | refine d_no rfl rfl rfl (by decide) ?_ | refine d_no' rfl rfl rfl ?_ | ((first | refine o_split_t rfl rfl rfl (fun hb => ?_) (fun hb => ?_) | refine o_split_f rfl rfl rfl (fun hb => ?_) (fun hb => ?_) | refine a_cond rfl (fun hb => ?_) (fun hb => ?_) | refine d_split rfl rfl (fun hb => ?_) (fun hb => ?_)) <;> (simp only [hb]; try simp only [decide_eq_true_eq, decide_eq_false_iff_not, Bool.not_eq_true', Bool.not_eq_false', Bool.not_eq_true, Bool.not_eq_false, ne_eq, Decidable.not_not] at hb; try (exfalso; first | omega | exact hb trivial))))
        refine o_weak (t := ⟨[(0, .v (.int .i64 k)), (11, .sl 6 (A.map Pn.av)), (12, .v (.bool ok)), (75, .v (.int .i64 k)), (76, .sl 4 (m.map Vl.av))], []⟩) ?_ ?_
        · refine ⟨by repeat' (first | exact trivial | exact FinA.one (FinB.cell (FinC.same rfl)) | exact FinA.one (FinB.cell FinC.nil) | exact FinA.one (FinB.cell (FinC.own rfl rfl rfl rfl)) | exact FinA.one (FinB.cell (FinC.v (by first | rfl | (simp)))) | exact FinA.one (FinB.cell (FinC.ow rfl (by first | rfl | (simp)))) | exact FinA.one (FinB.agg' rfl rfl) | refine ⟨⟨_, rfl, ?_⟩, ?_⟩), by repeat' (first | exact trivial | refine ⟨⟨_, rfl, by first | rfl | (simp; done) | (simp [renO, *]; done)⟩, by first | rfl | assumption, ?_⟩), rfl⟩
        cases ok
        all_goals
          repeat' (first | ((first | apply o_do | apply d_do | apply d_yes rfl rfl rfl); first | exact lsc (hm) | exact lsc (hlike) | exact lsc (hright) | exact lsc (h8) | exact lsq) | first | refine a_seq ?_ | refine a_region ?_ | refine o_nil ?_ | refine a_block ?_ | refine a_ret ?_ | refine a_exit ?_ | refine a_skip ?_ | refine a_draw mixed ?_ | refine d_nil (by kernel_rfl) ?_ | first | refine o_yes rfl rfl rfl ?_ | refine o_no rfl rfl rfl (by decide) ?_ | refine o_no' rfl rfl rfl ?_ | refine a_condT rfl ?_ | refine a_condF rfl ?_ | refine d_no rfl rfl rfl (by decide) ?_ | refine d_no' rfl rfl rfl ?_ | ((first | refine o_split_t rfl rfl rfl (fun hb => ?_) (fun hb => ?_) | refine o_split_f rfl rfl rfl (fun hb => ?_) (fun hb => ?_) | refine a_cond rfl (fun hb => ?_) (fun hb => ?_) | refine d_split rfl rfl (fun hb => ?_) (fun hb => ?_)) <;> (simp only [hb]; try simp only [decide_eq_true_eq, decide_eq_false_iff_not, Bool.not_eq_true', Bool.not_eq_false', Bool.not_eq_true, Bool.not_eq_false, ne_eq, Decidable.not_not] at hb; try (exfalso; first | omega | exact hb trivial))))
          all_goals refine ⟨by first | exact .inr rfl | exact .inl rfl, _, rfl, ?_, by repeat' (first | exact trivial | refine ⟨⟨_, rfl, by first | rfl | (simp [renO, *]; done)⟩, by first | rfl | assumption, ?_⟩)⟩
          all_goals (first | refine FinA.tup ?_ | refine FinA.one ?_); repeat' (first | exact FinBs.nil | exact FinCs.nil | refine FinBs.cons ?_ ?_ | refine FinCs.cons ?_ ?_ | refine FinB.cell (FinC.v ?_) | refine FinB.cell (FinC.own rfl rfl rfl ?_) | exact FinB.cell FinC.nil | refine FinB.cell (FinC.sl ?_) | exact FinB.agg' rfl rfl | exact FinB.cell (FinC.same rfl) | refine FinB.agg ?_ | refine FinC.v ?_ | refine FinC.own rfl rfl rfl ?_ | exact FinC.nil | refine FinC.sl ?_ | exact FinC.same rfl); all_goals try rfl
      · obtain ⟨r1, hr1⟩ : ∃ r, s.tmod (((m.map Vl.av).length : Int) - (q : Int)) = r := ⟨_, rfl⟩
        obtain ⟨r2, hr2⟩ : ∃ r, (r1 + ((m.map Vl.av).length : Int) - (q : Int)).tmod (((m.map Vl.av).length : Int) - (q : Int)) = r := ⟨_, rfl⟩
        have b1 := tmod_bound s (b := ((m.map Vl.av).length : Int) - (q : Int)) (by omega)
        rw [hr1] at b1
        have b2 := tmod_pos (a := r1 + ((m.map Vl.av).length : Int) - (q : Int)) (b := ((m.map Vl.av).length : Int) - (q : Int)) (by omega) (by omega)
        rw [hr2] at b2
        obtain ⟨j, hj⟩ : ∃ j : Nat, (q : Int) + r2 = (j : Int) := ⟨((q : Int) + r2).toNat, by omega⟩
        have hjm : j < m.length := by omega
        have hqm : q < m.length := by omega
        have e1 : (m.map Vl.av)[j]? = some (Vl.av m[j]) := by simp [hjm]
        have e2 : (m.map Vl.av)[q]? = some (Vl.av m[q]) := by simp [hqm]
        have e3 : ((m.map Vl.av).set q (Vl.av m[j]))[j]? = some (Vl.av m[j]) := by
          rw [List.getElem?_set, e1]
          split
          · rw [if_pos (by rw [hml]; omega)]
          · rfl
        have hperm2 := List.set_set_perm hqm hjm
        have hN : (((m.set q m[j]).set j m[q]).map Vl.av) = ((m.map Vl.av).set q (Vl.av m[j])).set j (Vl.av m[q]) := by rw [List.map_set, List.map_set]
        have hjx : j < (m.map Vl.av).length := by omega
        have hqx : q < (m.map Vl.av).length := by omega
        have hjz : ∀ z, j < ((m.map Vl.av).set q z).length := fun z => by rw [List.length_set]; omega
        have hsz : ∀ z, (m.map Vl.av).length = ((m.map Vl.av).set q z).length := fun z => by rw [List.length_set]
        have hsz2 : ((((m.set q m[j]).set j m[q]).map Vl.av)).length = (m.map Vl.av).length := by simp
        have hst : ∀ y : Vl, ∀ (σ : Store) (μ : Nat → Value) (w : World) (A : Nat → Prop) (z : Value), rep σ μ w A (.agg (Vl.av y)) z → rep [] μ w A (.agg (Vl.av y)) z := fun y _ _ _ _ _ h => rep_pureB h rfl
        generalize m[j] = y at *
        generalize m[q] = x at *
        generalize ((m.set q y).set j x) = m' at *
        repeat' (first | ((first | apply o_do | apply d_do | apply d_yes rfl rfl rfl); first | exact ls_rem64 hr1 rfl rfl (by omega) (by omega) rfl | exact ls_rem64 hr2 rfl rfl (by omega) (by omega) rfl | exact ls_indexAddr_own tab_ok rfl rfl rfl rfl rfl hj hjx rfl | exact ls_indexAddr_own tab_ok rfl rfl rfl rfl rfl rfl hqx rfl | exact ls_indexAddr_own tab_ok rfl rfl (hsz _) rfl rfl hj (hjz _) rfl | exact ls_load_eref tab_ok rfl rfl rfl e1 rfl rfl rfl rfl | exact ls_load_eref tab_ok rfl rfl rfl e2 rfl rfl rfl rfl | exact ls_store_eref (cs' := Vl.av y) tab_ok rfl rfl rfl rfl e2 rfl rfl (hst _) rfl rfl rfl rfl | exact ls_store_eref (cs' := Vl.av x) tab_ok rfl rfl rfl (hsz _) e3 rfl rfl (hst _) rfl rfl rfl rfl | exact lsq) | first | refine a_seq ?_ | refine a_region ?_ | refine o_nil ?_ | refine a_block ?_ | refine a_ret ?_ | refine a_exit ?_ | refine a_skip ?_ | refine a_draw mixed ?_ | refine d_nil (by kernel_rfl) ?_ | first | refine o_yes rfl rfl rfl ?_ | refine o_no rfl rfl rfl (by decide) ?_ | refine o_no' rfl rfl rfl ?_ | refine a_condT rfl ?_ | refine a_condF rfl ?_ | refine d_no rfl rfl rfl (by decide) ?_ | refine d_no' rfl rfl rfl ?_ | ((first | refine o_split_t rfl rfl rfl (fun hb => ?_) (fun hb => ?_) | refine o_split_f rfl rfl rfl (fun hb => ?_) (fun hb => ?_) | refine a_cond rfl (fun hb => ?_) (fun hb => ?_) | refine d_split rfl rfl (fun hb => ?_) (fun hb => ?_)) <;> (simp only [hb]; try simp only [decide_eq_true_eq, decide_eq_false_iff_not, Bool.not_eq_true', Bool.not_eq_false', Bool.not_eq_true, Bool.not_eq_false, ne_eq, Decidable.not_not] at hb; try (exfalso; first | omega | exact hb trivial))))
        refine ⟨⟨(q + 1, m'), by dsimp only; omega, hpm.trans hperm2.symm⟩, by dsimp only; omega, ?_⟩
        refine ⟨by repeat' (first | exact trivial | exact FinA.one (FinB.cell (FinC.same rfl)) | exact FinA.one (FinB.cell FinC.nil) | exact FinA.one (FinB.cell (FinC.own rfl rfl rfl rfl)) | exact FinA.one (FinB.cell (FinC.v (by first | rfl | ((first | (simp only [hN]; done) | (simp only [hN]; rfl) | (exact hsz2.symm)))))) | exact FinA.one (FinB.cell (FinC.ow rfl (by first | rfl | ((first | (simp only [hN]; done) | (simp only [hN]; rfl) | (exact hsz2.symm)))))) | exact FinA.one (FinB.agg' rfl rfl) | refine ⟨⟨_, rfl, ?_⟩, ?_⟩), by repeat' (first | exact trivial | refine ⟨⟨_, rfl, by first | rfl | ((first | (simp only [hN]; done) | (simp only [hN]; rfl) | (exact hsz2.symm)); done) | (simp [renO, *]; done)⟩, by first | rfl | assumption, ?_⟩), rfl⟩
    · repeat' (first | ((first | apply o_do | apply d_do | apply d_yes rfl rfl rfl); first | exact lsc (hall) | exact lsq) | first | refine a_seq ?_ | refine a_region ?_ | refine o_nil ?_ | refine a_block ?_ | refine a_ret ?_ | refine a_exit ?_ | refine a_skip ?_ | refine a_draw mixed ?_ | refine d_nil (by kernel_rfl) ?_ | first | refine o_yes rfl rfl rfl ?_ | refine o_no rfl rfl rfl (by decide) ?_ | refine o_no' rfl rfl rfl ?_ | refine a_condT rfl ?_ | refine a_condF rfl ?_ | refine d_no rfl rfl rfl (by decide) ?_ | refine d_no' rfl rfl rfl ?_ | ((first | refine o_split_t rfl rfl rfl (fun hb => ?_) (fun hb => ?_) | refine o_split_f rfl rfl rfl (fun hb => ?_) (fun hb => ?_) | refine a_cond rfl (fun hb => ?_) (fun hb => ?_) | refine d_split rfl rfl (fun hb => ?_) (fun hb => ?_)) <;> (simp only [hb]; try simp only [decide_eq_true_eq, decide_eq_false_iff_not, Bool.not_eq_true', Bool.not_eq_false', Bool.not_eq_true, Bool.not_eq_false, ne_eq, Decidable.not_not] at hb; try (exfalso; first | omega | exact hb trivial))))
      refine o_weak (t := ⟨[(0, .v (.int .i64 k)), (11, .sl 6 (A.map Pn.av)), (12, .v (.bool ok)), (75, .v (.int .i64 k)), (76, .sl 4 (m.map Vl.av))], []⟩) ?_ ?_
      · refine ⟨by repeat' (first | exact trivial | exact FinA.one (FinB.cell (FinC.same rfl)) | exact FinA.one (FinB.cell FinC.nil) | exact FinA.one (FinB.cell (FinC.own rfl rfl rfl rfl)) | exact FinA.one (FinB.cell (FinC.v (by first | rfl | (simp)))) | exact FinA.one (FinB.cell (FinC.ow rfl (by first | rfl | (simp)))) | exact FinA.one (FinB.agg' rfl rfl) | refine ⟨⟨_, rfl, ?_⟩, ?_⟩), by repeat' (first | exact trivial | refine ⟨⟨_, rfl, by first | rfl | (simp; done) | (simp [renO, *]; done)⟩, by first | rfl | assumption, ?_⟩), rfl⟩
      cases ok
      all_goals
        repeat' (first | ((first | apply o_do | apply d_do | apply d_yes rfl rfl rfl); first | exact lsc (hm) | exact lsc (hlike) | exact lsc (hright) | exact lsc (h8) | exact lsq) | first | refine a_seq ?_ | refine a_region ?_ | refine o_nil ?_ | refine a_block ?_ | refine a_ret ?_ | refine a_exit ?_ | refine a_skip ?_ | refine a_draw mixed ?_ | refine d_nil (by kernel_rfl) ?_ | first | refine o_yes rfl rfl rfl ?_ | refine o_no rfl rfl rfl (by decide) ?_ | refine o_no' rfl rfl rfl ?_ | refine a_condT rfl ?_ | refine a_condF rfl ?_ | refine d_no rfl rfl rfl (by decide) ?_ | refine d_no' rfl rfl rfl ?_ | ((first | refine o_split_t rfl rfl rfl (fun hb => ?_) (fun hb => ?_) | refine o_split_f rfl rfl rfl (fun hb => ?_) (fun hb => ?_) | refine a_cond rfl (fun hb => ?_) (fun hb => ?_) | refine d_split rfl rfl (fun hb => ?_) (fun hb => ?_)) <;> (simp only [hb]; try simp only [decide_eq_true_eq, decide_eq_false_iff_not, Bool.not_eq_true', Bool.not_eq_false', Bool.not_eq_true, Bool.not_eq_false, ne_eq, Decidable.not_not] at hb; try (exfalso; first | omega | exact hb trivial))))
        all_goals refine ⟨by first | exact .inr rfl | exact .inl rfl, _, rfl, ?_, by repeat' (first | exact trivial | refine ⟨⟨_, rfl, by first | rfl | (simp [renO, *]; done)⟩, by first | rfl | assumption, ?_⟩)⟩
        all_goals (first | refine FinA.tup ?_ | refine FinA.one ?_); repeat' (first | exact FinBs.nil | exact FinCs.nil | refine FinBs.cons ?_ ?_ | refine FinCs.cons ?_ ?_ | refine FinB.cell (FinC.v ?_) | refine FinB.cell (FinC.own rfl rfl rfl ?_) | exact FinB.cell FinC.nil | refine FinB.cell (FinC.sl ?_) | exact FinB.agg' rfl rfl | exact FinB.cell (FinC.same rfl) | refine FinB.agg ?_ | refine FinC.v ?_ | refine FinC.own rfl rfl rfl ?_ | exact FinC.nil | refine FinC.sl ?_ | exact FinC.same rfl); all_goals try rfl
end Go.Proofs.Ytimlkhbedhjehaa
