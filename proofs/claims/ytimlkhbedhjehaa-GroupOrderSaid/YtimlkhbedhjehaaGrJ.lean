/-
  Groups, walked over abstract values: the law that the order of events does not matter.
-/
import Derived.Test.YtimlkhbedhjehaaGrI
import Derived.Test.YtimlkhbedhjehaaRdV
import Derived.Test.YtimlkhbedhjehaaRdE
namespace Go.Proofs.Ytimlkhbedhjehaa
open Go.RowKit
set_option linter.unusedSimpArgs false
set_option linter.unusedVariables false
theorem tmodB (a : Int) {b : Int} (hb : 0 < b) : -b < a.tmod b ∧ a.tmod b < b := by
  have h1 := Int.tmod_lt_of_pos a hb
  have h2 : -b < a.tmod b := by
    have h3 := Int.tmod_lt_of_pos (-a) hb
    rw [Int.neg_tmod] at h3
    omega
  exact ⟨h2, h1⟩
theorem tmodP {a b : Int} (ha : 0 ≤ a) (hb : 0 < b) : 0 ≤ a.tmod b ∧ a.tmod b < b := ⟨Int.tmod_nonneg b ha, Int.tmod_lt_of_pos a hb⟩
section
variable (g s d k fu li de id no mark mk : Int)
set_option maxHeartbeats 16000000 in
set_option maxRecDepth 20000 in
theorem g_order (ps : List Pn) (es : List Et) (sw : List Int) (hx : ps.length ≤ 9223372036854775807) (hex : es.length ≤ 9223372036854775807) (hsx : sw.length ≤ 9223372036854775807) :
    PC Try.prog 16 [.agg [.v (.int .i64 g), .v (.int .i64 s), .v (.int .i64 d), .v (.int .i64 k), .v (.int .i64 fu), .v (.int .i64 li), .v (.int .i64 de), .v (.int .i64 id)], .agg [.v (.int .i64 no), .v (.int .i64 mark), .sl 6 (ps.map Pn.av)], .sl 3 (es.map Et.av), .sl 1 (sw.map iav), .v (.int .i64 mk)] (.v (.bool true)) := by
  have hf := g_few no mark ps hx
  have hx1 := Nat.le_trans (fewL_le ps) hx
  generalize fewL ps = qs at *
  have h8 := g_alive
  have hn : (es.map Et.av).length = es.length := List.length_map _
  have hn20 : ((es.map Et.av).take 20).length ≤ 20 := by rw [List.length_take]; omega
  obtain ⟨l, hl20, hcase⟩ : ∃ l : List Et, l.length ≤ 20 ∧ ((20 < es.length ∧ (es.map Et.av).take 20 = l.map Et.av) ∨ (¬ 20 < es.length ∧ l = es)) := by
    by_cases h : 20 < es.length
    · exact ⟨es.take 20, by rw [List.length_take]; omega, .inl ⟨h, by rw [List.map_take]⟩⟩
    · exact ⟨es, by omega, .inr ⟨h, rfl⟩⟩
  have hnl : (l.map Et.av).length = l.length := List.length_map _
  have hall := g_all g s d k fu li de id no mark qs l hx1 (by omega)
  have hperm : ∀ m : List Et, l.Perm m → PC Try.prog 56 [.agg [.v (.int .i64 g), .v (.int .i64 s), .v (.int .i64 d), .v (.int .i64 k), .v (.int .i64 fu), .v (.int .i64 li), .v (.int .i64 de), .v (.int .i64 id)], .agg [.v (.int .i64 no), .v (.int .i64 mark), .sl 6 (qs.map Pn.av)], .sl 3 (m.map Et.av)] (.tup [.agg [.v (.int .i64 no), .v (.int .i64 mark), .sl 6 ((allE s d k no mark qs m).1.map Pn.av)], .v (.bool (allE s d k no mark qs m).2)]) := fun m hm => g_all g s d k fu li de id no mark qs m hx1 (by rw [← hm.length_eq]; omega)
  have hsame := fun m (hm : l.Perm m) => allE_perm (s := s) (d := d) (k := k) (no := no) (mark := mark) (ps := qs) hm
  have hle := allE_le s d k no mark (es := l) hx1
  generalize allE s d k no mark qs l = r at *
  obtain ⟨A, ok⟩ := r
  dsimp only at hall hsame hle
  have hadv := g_Advance g s d k fu li de id no mark A mk hle
  have hal := adv_le s d k no mark A mk hle
  have hlike := g_Like no mark A hle
  generalize adv s d k no mark A mk = y at *
  obtain ⟨no2, mark2, B, rs, e2⟩ := y
  dsimp only [AdvR.av] at hadv hal
  have hlike2 := g_Like no2 mark2 B hal.1
  have hlikeR := p_LikeResults rs hal.2
  rcases hcase with ⟨h1, h2⟩ | ⟨h1, rfl⟩
  all_goals
    refine PC.mk (ac_body tab_ok Try.func16 rfl (by kernel_rfl) rfl ?_); intro w0 M μ0; simp only [Try.ntmps16, List.length_cons, List.length_nil, Nat.reduceAdd, Nat.reduceSub, numb]
    repeat' (first | ((first | apply o_do | apply d_do | apply d_yes rfl rfl rfl); first | exact lsc (hf) | exact ls_slice_to (n := 20) tab_ok rfl rfl rfl rfl (by rw [hn]; omega) rfl | exact lsq) | first | refine a_seq ?_ | refine a_region ?_ | refine o_nil ?_ | refine a_block ?_ | refine a_ret ?_ | refine a_exit ?_ | refine a_skip ?_ | refine a_draw mixed ?_ | refine d_nil (by kernel_rfl) ?_ | first | refine o_yes rfl rfl rfl ?_ | refine o_no rfl rfl rfl (by decide) ?_ | refine o_no' rfl rfl rfl ?_ | refine a_condT rfl ?_ | refine a_condF rfl ?_ | refine d_no rfl rfl rfl (by decide) ?_ | refine d_no' rfl rfl rfl ?_ | ((first | refine o_split_t rfl rfl rfl (fun hb => ?_) (fun hb => ?_) | refine o_split_f rfl rfl rfl (fun hb => ?_) (fun hb => ?_) | refine a_cond rfl (fun hb => ?_) (fun hb => ?_) | refine d_split rfl rfl (fun hb => ?_) (fun hb => ?_)) <;> (simp only [hb]; try simp only [decide_eq_true_eq, decide_eq_false_iff_not, Bool.not_eq_true', Bool.not_eq_false', Bool.not_eq_true, Bool.not_eq_false, ne_eq, Decidable.not_not] at hb; try (exfalso; first | omega | exact hb trivial))))
    try simp only [h2]
    refine a_loop (X := {x : Nat × List Et // x.1 ≤ sw.length ∧ l.Perm x.2}) (fun x => ⟨[(2, .sl 3 (l.map Et.av)), (4, .v (.int .i64 mk)), (5, .ref 0 0), (6, .ref 1 0), (11, .own 2 (x.1.2.map Et.av).length), (35, .sl 1 (sw.map iav)), (36, .v (.int .i64 sw.length)), (37, .v (.int .i64 x.1.1))], [(0, .box 23 [.v (.int .i64 g), .v (.int .i64 s), .v (.int .i64 d), .v (.int .i64 k), .v (.int .i64 fu), .v (.int .i64 li), .v (.int .i64 de), .v (.int .i64 id)]), (1, .box 26 [.v (.int .i64 no), .v (.int .i64 mark), .sl 6 (qs.map Pn.av)]), (2, .row 79 3 (x.1.2.map Et.av))]⟩) (fun x => sw.length - x.1.1) ⟨(0, l), Nat.zero_le _, List.Perm.refl _⟩ ?_ ?_
    · refine ⟨by repeat' (first | exact trivial | exact FinA.one (FinB.cell (FinC.same rfl)) | exact FinA.one (FinB.cell FinC.nil) | exact FinA.one (FinB.cell (FinC.own rfl rfl rfl rfl)) | exact FinA.one (FinB.cell (FinC.v (by first | rfl | (simp)))) | exact FinA.one (FinB.cell (FinC.ow rfl (by first | rfl | (simp)))) | exact FinA.one (FinB.agg' rfl rfl) | refine ⟨⟨_, rfl, ?_⟩, ?_⟩), by repeat' (first | exact trivial | refine ⟨⟨_, rfl, by first | rfl | (simp; done) | (simp [renO, *]; done)⟩, by first | rfl | assumption, ?_⟩), rfl⟩
    rintro ⟨⟨q, m⟩, hq, hpm⟩
    dsimp only at hq hpm ⊢
    have hm := hperm m hpm
    obtain ⟨hs1, hs2⟩ := hsame m hpm
    have hml : (m.map Et.av).length = l.length := by rw [List.length_map, hpm.length_eq]
    have hml2 : m.length = l.length := hpm.length_eq.symm
    by_cases hgo : q < sw.length ∧ q + 1 < l.length
    · obtain ⟨hlt, hbr⟩ := hgo
      have hel : (sw.map iav)[q]? = some (iav sw[q]) := by simp [hlt]
      generalize sw[q] = t at *
      obtain ⟨r1, hr1⟩ : ∃ r, t.tmod (((m.map Et.av).length : Int) - (q : Int)) = r := ⟨_, rfl⟩
      obtain ⟨r2, hr2⟩ : ∃ r, (r1 + ((m.map Et.av).length : Int) - (q : Int)).tmod (((m.map Et.av).length : Int) - (q : Int)) = r := ⟨_, rfl⟩
      have b1 := tmodB t (b := ((m.map Et.av).length : Int) - (q : Int)) (by omega)
      rw [hr1] at b1
      have b2 := tmodP (a := r1 + ((m.map Et.av).length : Int) - (q : Int)) (b := ((m.map Et.av).length : Int) - (q : Int)) (by omega) (by omega)
      rw [hr2] at b2
      obtain ⟨j, hj⟩ : ∃ j : Nat, (q : Int) + r2 = (j : Int) := ⟨((q : Int) + r2).toNat, by omega⟩
      have hjm : j < m.length := by omega
      have hqm : q < m.length := by omega
      have e1 : (m.map Et.av)[j]? = some (Et.av m[j]) := by simp [hjm]
      have e2' : (m.map Et.av)[q]? = some (Et.av m[q]) := by simp [hqm]
      have e3 : ((m.map Et.av).set q (Et.av m[j]))[j]? = some (Et.av m[j]) := by
        rw [List.getElem?_set, e1]
        split
        · rw [if_pos (by rw [hml]; omega)]
        · rfl
      have hperm2 := List.set_set_perm hqm hjm
      have hN : (((m.set q m[j]).set j m[q]).map Et.av) = ((m.map Et.av).set q (Et.av m[j])).set j (Et.av m[q]) := by rw [List.map_set, List.map_set]
      have hjx : j < (m.map Et.av).length := by omega
      have hqx : q < (m.map Et.av).length := by omega
      have hjz : ∀ z, j < ((m.map Et.av).set q z).length := fun z => by rw [List.length_set]; omega
      have hsz : ∀ z, (m.map Et.av).length = ((m.map Et.av).set q z).length := fun z => by rw [List.length_set]
      have hsz2 : ((((m.set q m[j]).set j m[q]).map Et.av)).length = (m.map Et.av).length := by simp
      have hst : ∀ y : Et, ∀ (σ : Store) (μ : Nat → Value) (w : World) (A : Nat → Prop) (z : Value), rep σ μ w A (.agg (Et.av y)) z → rep [] μ w A (.agg (Et.av y)) z := fun y _ _ _ _ _ h => rep_pureB h rfl
      generalize m[j] = y at *
      generalize m[q] = x at *
      generalize ((m.set q y).set j x) = m' at *
      repeat' (first | ((first | apply o_do | apply d_do | apply d_yes rfl rfl rfl); first | exact ls_rem64 hr1 rfl rfl (by omega) (by omega) rfl | exact ls_rem64 hr2 rfl rfl (by omega) (by omega) rfl | exact ls_indexAddr_own tab_ok rfl rfl rfl rfl rfl hj hjx rfl | exact ls_indexAddr_own tab_ok rfl rfl rfl rfl rfl rfl hqx rfl | exact ls_indexAddr_own tab_ok rfl rfl (hsz _) rfl rfl hj (hjz _) rfl | exact ls_load_eref tab_ok rfl rfl rfl e1 rfl rfl rfl rfl | exact ls_load_eref tab_ok rfl rfl rfl e2' rfl rfl rfl rfl | exact ls_store_eref (cs' := Et.av y) tab_ok rfl rfl rfl rfl e2' rfl rfl (hst _) rfl rfl rfl rfl | exact ls_store_eref (cs' := Et.av x) tab_ok rfl rfl rfl (hsz _) e3 rfl rfl (hst _) rfl rfl rfl rfl | exact lsq) | first | refine a_seq ?_ | refine a_region ?_ | refine o_nil ?_ | refine a_block ?_ | refine a_ret ?_ | refine a_exit ?_ | refine a_skip ?_ | refine a_draw mixed ?_ | refine d_nil (by kernel_rfl) ?_ | first | refine o_yes rfl rfl rfl ?_ | refine o_no rfl rfl rfl (by decide) ?_ | refine o_no' rfl rfl rfl ?_ | refine a_condT rfl ?_ | refine a_condF rfl ?_ | refine d_no rfl rfl rfl (by decide) ?_ | refine d_no' rfl rfl rfl ?_ | ((first | refine o_split_t rfl rfl rfl (fun hb => ?_) (fun hb => ?_) | refine o_split_f rfl rfl rfl (fun hb => ?_) (fun hb => ?_) | refine a_cond rfl (fun hb => ?_) (fun hb => ?_) | refine d_split rfl rfl (fun hb => ?_) (fun hb => ?_)) <;> (simp only [hb]; try simp only [decide_eq_true_eq, decide_eq_false_iff_not, Bool.not_eq_true', Bool.not_eq_false', Bool.not_eq_true, Bool.not_eq_false, ne_eq, Decidable.not_not] at hb; try (exfalso; first | omega | exact hb trivial))))
      refine ⟨⟨(q + 1, m'), by dsimp only; omega, hpm.trans hperm2.symm⟩, by dsimp only; omega, ?_⟩
      refine ⟨by repeat' (first | exact trivial | exact FinA.one (FinB.cell (FinC.same rfl)) | exact FinA.one (FinB.cell FinC.nil) | exact FinA.one (FinB.cell (FinC.own rfl rfl rfl rfl)) | exact FinA.one (FinB.cell (FinC.v (by first | rfl | ((first | (simp only [hN]; done) | (simp only [hN]; rfl) | (exact hsz2.symm)))))) | exact FinA.one (FinB.cell (FinC.ow rfl (by first | rfl | ((first | (simp only [hN]; done) | (simp only [hN]; rfl) | (exact hsz2.symm)))))) | exact FinA.one (FinB.agg' rfl rfl) | refine ⟨⟨_, rfl, ?_⟩, ?_⟩), by repeat' (first | exact trivial | refine ⟨⟨_, rfl, by first | rfl | ((first | (simp only [hN]; done) | (simp only [hN]; rfl) | (exact hsz2.symm)); done) | (simp [renO, *]; done)⟩, by first | rfl | assumption, ?_⟩), rfl⟩
    · by_cases hlt : q < sw.length
      · have hel : (sw.map iav)[q]? = some (iav sw[q]) := by simp [hlt]
        have hbr : l.length ≤ q + 1 := by omega
        repeat' (first | ((first | apply o_do | apply d_do | apply d_yes rfl rfl rfl); first | exact lsc (hall) | exact lsq) | first | refine a_seq ?_ | refine a_region ?_ | refine o_nil ?_ | refine a_block ?_ | refine a_ret ?_ | refine a_exit ?_ | refine a_skip ?_ | refine a_draw mixed ?_ | refine d_nil (by kernel_rfl) ?_ | first | refine o_yes rfl rfl rfl ?_ | refine o_no rfl rfl rfl (by decide) ?_ | refine o_no' rfl rfl rfl ?_ | refine a_condT rfl ?_ | refine a_condF rfl ?_ | refine d_no rfl rfl rfl (by decide) ?_ | refine d_no' rfl rfl rfl ?_ | ((first | refine o_split_t rfl rfl rfl (fun hb => ?_) (fun hb => ?_) | refine o_split_f rfl rfl rfl (fun hb => ?_) (fun hb => ?_) | refine a_cond rfl (fun hb => ?_) (fun hb => ?_) | refine d_split rfl rfl (fun hb => ?_) (fun hb => ?_)) <;> (simp only [hb]; try simp only [decide_eq_true_eq, decide_eq_false_iff_not, Bool.not_eq_true', Bool.not_eq_false', Bool.not_eq_true, Bool.not_eq_false, ne_eq, Decidable.not_not] at hb; try (exfalso; first | omega | exact hb trivial))))
        refine o_weak (t := ⟨[(4, .v (.int .i64 mk)), (5, .ref 0 0), (6, .ref 1 0), (15, .ref 3 0), (16, .v (.bool ok)), (88, .agg [.v (.int .i64 g), .v (.int .i64 s), .v (.int .i64 d), .v (.int .i64 k), .v (.int .i64 fu), .v (.int .i64 li), .v (.int .i64 de), .v (.int .i64 id)]), (89, .agg [.v (.int .i64 no), .v (.int .i64 mark), .sl 6 (qs.map Pn.av)]), (90, .sl 3 (m.map Et.av))], [(0, .box 23 [.v (.int .i64 g), .v (.int .i64 s), .v (.int .i64 d), .v (.int .i64 k), .v (.int .i64 fu), .v (.int .i64 li), .v (.int .i64 de), .v (.int .i64 id)]), (1, .box 26 [.v (.int .i64 no), .v (.int .i64 mark), .sl 6 (qs.map Pn.av)]), (3, .box 26 [.v (.int .i64 no), .v (.int .i64 mark), .sl 6 (A.map Pn.av)])]⟩) ?_ ?_
        · refine ⟨by repeat' (first | exact trivial | exact FinA.one (FinB.cell (FinC.same rfl)) | exact FinA.one (FinB.cell FinC.nil) | exact FinA.one (FinB.cell (FinC.own rfl rfl rfl rfl)) | exact FinA.one (FinB.cell (FinC.v (by first | rfl | (simp)))) | exact FinA.one (FinB.cell (FinC.ow rfl (by first | rfl | (simp)))) | exact FinA.one (FinB.agg' rfl rfl) | refine ⟨⟨_, rfl, ?_⟩, ?_⟩), by repeat' (first | exact trivial | refine ⟨⟨_, rfl, by first | rfl | (simp; done) | (simp [renO, *]; done)⟩, by first | rfl | assumption, ?_⟩), rfl⟩
        rw [← hs1] at hm
        cases ok
        · generalize (allE s d k no mark qs m).1 = C at *
          repeat' (first | ((first | apply o_do | apply d_do | apply d_yes rfl rfl rfl); first | exact lsc (hm) | exact lsc (h8) | exact lsq) | first | refine a_seq ?_ | refine a_region ?_ | refine o_nil ?_ | refine a_block ?_ | refine a_ret ?_ | refine a_exit ?_ | refine a_skip ?_ | refine a_draw mixed ?_ | refine d_nil (by kernel_rfl) ?_ | first | refine o_yes rfl rfl rfl ?_ | refine o_no rfl rfl rfl (by decide) ?_ | refine o_no' rfl rfl rfl ?_ | refine a_condT rfl ?_ | refine a_condF rfl ?_ | refine d_no rfl rfl rfl (by decide) ?_ | refine d_no' rfl rfl rfl ?_ | ((first | refine o_split_t rfl rfl rfl (fun hb => ?_) (fun hb => ?_) | refine o_split_f rfl rfl rfl (fun hb => ?_) (fun hb => ?_) | refine a_cond rfl (fun hb => ?_) (fun hb => ?_) | refine d_split rfl rfl (fun hb => ?_) (fun hb => ?_)) <;> (simp only [hb]; try simp only [decide_eq_true_eq, decide_eq_false_iff_not, Bool.not_eq_true', Bool.not_eq_false', Bool.not_eq_true, Bool.not_eq_false, ne_eq, Decidable.not_not] at hb; try (exfalso; first | omega | exact hb trivial))))
          all_goals refine ⟨by first | exact .inr rfl | exact .inl rfl, _, rfl, ?_, by repeat' (first | exact trivial | refine ⟨⟨_, rfl, by first | rfl | (simp [renO, *]; done)⟩, by first | rfl | assumption, ?_⟩)⟩
          all_goals (first | refine FinA.tup ?_ | refine FinA.one ?_); repeat' (first | exact FinBs.nil | exact FinCs.nil | refine FinBs.cons ?_ ?_ | refine FinCs.cons ?_ ?_ | refine FinB.cell (FinC.v ?_) | refine FinB.cell (FinC.own rfl rfl rfl ?_) | exact FinB.cell FinC.nil | refine FinB.cell (FinC.sl ?_) | exact FinB.agg' rfl rfl | exact FinB.cell (FinC.same rfl) | refine FinB.agg ?_ | refine FinC.v ?_ | refine FinC.own rfl rfl rfl ?_ | exact FinC.nil | refine FinC.sl ?_ | exact FinC.same rfl); all_goals try rfl
        · rw [hs2 rfl] at hm
          repeat' (first | ((first | apply o_do | apply d_do | apply d_yes rfl rfl rfl); first | exact lsc (hm) | exact lsc (h8) | exact lsc (hadv) | exact lsc (hlike) | exact lsc (hlike2) | exact lsc (hlikeR) | exact lsq) | first | refine a_seq ?_ | refine a_region ?_ | refine o_nil ?_ | refine a_block ?_ | refine a_ret ?_ | refine a_exit ?_ | refine a_skip ?_ | refine a_draw mixed ?_ | refine d_nil (by kernel_rfl) ?_ | first | refine o_yes rfl rfl rfl ?_ | refine o_no rfl rfl rfl (by decide) ?_ | refine o_no' rfl rfl rfl ?_ | refine a_condT rfl ?_ | refine a_condF rfl ?_ | refine d_no rfl rfl rfl (by decide) ?_ | refine d_no' rfl rfl rfl ?_ | ((first | refine o_split_t rfl rfl rfl (fun hb => ?_) (fun hb => ?_) | refine o_split_f rfl rfl rfl (fun hb => ?_) (fun hb => ?_) | refine a_cond rfl (fun hb => ?_) (fun hb => ?_) | refine d_split rfl rfl (fun hb => ?_) (fun hb => ?_)) <;> (simp only [hb]; try simp only [decide_eq_true_eq, decide_eq_false_iff_not, Bool.not_eq_true', Bool.not_eq_false', Bool.not_eq_true, Bool.not_eq_false, ne_eq, Decidable.not_not] at hb; try (exfalso; first | omega | exact hb trivial))))
          all_goals refine ⟨by first | exact .inr rfl | exact .inl rfl, _, rfl, ?_, by repeat' (first | exact trivial | refine ⟨⟨_, rfl, by first | rfl | (simp [renO, *]; done)⟩, by first | rfl | assumption, ?_⟩)⟩
          all_goals (first | refine FinA.tup ?_ | refine FinA.one ?_); repeat' (first | exact FinBs.nil | exact FinCs.nil | refine FinBs.cons ?_ ?_ | refine FinCs.cons ?_ ?_ | refine FinB.cell (FinC.v ?_) | refine FinB.cell (FinC.own rfl rfl rfl ?_) | exact FinB.cell FinC.nil | refine FinB.cell (FinC.sl ?_) | exact FinB.agg' rfl rfl | exact FinB.cell (FinC.same rfl) | refine FinB.agg ?_ | refine FinC.v ?_ | refine FinC.own rfl rfl rfl ?_ | exact FinC.nil | refine FinC.sl ?_ | exact FinC.same rfl); all_goals try rfl
          all_goals simp
      · repeat' (first | ((first | apply o_do | apply d_do | apply d_yes rfl rfl rfl); first | exact lsc (hall) | exact lsq) | first | refine a_seq ?_ | refine a_region ?_ | refine o_nil ?_ | refine a_block ?_ | refine a_ret ?_ | refine a_exit ?_ | refine a_skip ?_ | refine a_draw mixed ?_ | refine d_nil (by kernel_rfl) ?_ | first | refine o_yes rfl rfl rfl ?_ | refine o_no rfl rfl rfl (by decide) ?_ | refine o_no' rfl rfl rfl ?_ | refine a_condT rfl ?_ | refine a_condF rfl ?_ | refine d_no rfl rfl rfl (by decide) ?_ | refine d_no' rfl rfl rfl ?_ | ((first | refine o_split_t rfl rfl rfl (fun hb => ?_) (fun hb => ?_) | refine o_split_f rfl rfl rfl (fun hb => ?_) (fun hb => ?_) | refine a_cond rfl (fun hb => ?_) (fun hb => ?_) | refine d_split rfl rfl (fun hb => ?_) (fun hb => ?_)) <;> (simp only [hb]; try simp only [decide_eq_true_eq, decide_eq_false_iff_not, Bool.not_eq_true', Bool.not_eq_false', Bool.not_eq_true, Bool.not_eq_false, ne_eq, Decidable.not_not] at hb; try (exfalso; first | omega | exact hb trivial))))
        refine o_weak (t := ⟨[(4, .v (.int .i64 mk)), (5, .ref 0 0), (6, .ref 1 0), (15, .ref 3 0), (16, .v (.bool ok)), (88, .agg [.v (.int .i64 g), .v (.int .i64 s), .v (.int .i64 d), .v (.int .i64 k), .v (.int .i64 fu), .v (.int .i64 li), .v (.int .i64 de), .v (.int .i64 id)]), (89, .agg [.v (.int .i64 no), .v (.int .i64 mark), .sl 6 (qs.map Pn.av)]), (90, .sl 3 (m.map Et.av))], [(0, .box 23 [.v (.int .i64 g), .v (.int .i64 s), .v (.int .i64 d), .v (.int .i64 k), .v (.int .i64 fu), .v (.int .i64 li), .v (.int .i64 de), .v (.int .i64 id)]), (1, .box 26 [.v (.int .i64 no), .v (.int .i64 mark), .sl 6 (qs.map Pn.av)]), (3, .box 26 [.v (.int .i64 no), .v (.int .i64 mark), .sl 6 (A.map Pn.av)])]⟩) ?_ ?_
        · refine ⟨by repeat' (first | exact trivial | exact FinA.one (FinB.cell (FinC.same rfl)) | exact FinA.one (FinB.cell FinC.nil) | exact FinA.one (FinB.cell (FinC.own rfl rfl rfl rfl)) | exact FinA.one (FinB.cell (FinC.v (by first | rfl | (simp)))) | exact FinA.one (FinB.cell (FinC.ow rfl (by first | rfl | (simp)))) | exact FinA.one (FinB.agg' rfl rfl) | refine ⟨⟨_, rfl, ?_⟩, ?_⟩), by repeat' (first | exact trivial | refine ⟨⟨_, rfl, by first | rfl | (simp; done) | (simp [renO, *]; done)⟩, by first | rfl | assumption, ?_⟩), rfl⟩
        rw [← hs1] at hm
        cases ok
        · generalize (allE s d k no mark qs m).1 = C at *
          repeat' (first | ((first | apply o_do | apply d_do | apply d_yes rfl rfl rfl); first | exact lsc (hm) | exact lsc (h8) | exact lsq) | first | refine a_seq ?_ | refine a_region ?_ | refine o_nil ?_ | refine a_block ?_ | refine a_ret ?_ | refine a_exit ?_ | refine a_skip ?_ | refine a_draw mixed ?_ | refine d_nil (by kernel_rfl) ?_ | first | refine o_yes rfl rfl rfl ?_ | refine o_no rfl rfl rfl (by decide) ?_ | refine o_no' rfl rfl rfl ?_ | refine a_condT rfl ?_ | refine a_condF rfl ?_ | refine d_no rfl rfl rfl (by decide) ?_ | refine d_no' rfl rfl rfl ?_ | ((first | refine o_split_t rfl rfl rfl (fun hb => ?_) (fun hb => ?_) | refine o_split_f rfl rfl rfl (fun hb => ?_) (fun hb => ?_) | refine a_cond rfl (fun hb => ?_) (fun hb => ?_) | refine d_split rfl rfl (fun hb => ?_) (fun hb => ?_)) <;> (simp only [hb]; try simp only [decide_eq_true_eq, decide_eq_false_iff_not, Bool.not_eq_true', Bool.not_eq_false', Bool.not_eq_true, Bool.not_eq_false, ne_eq, Decidable.not_not] at hb; try (exfalso; first | omega | exact hb trivial))))
          all_goals refine ⟨by first | exact .inr rfl | exact .inl rfl, _, rfl, ?_, by repeat' (first | exact trivial | refine ⟨⟨_, rfl, by first | rfl | (simp [renO, *]; done)⟩, by first | rfl | assumption, ?_⟩)⟩
          all_goals (first | refine FinA.tup ?_ | refine FinA.one ?_); repeat' (first | exact FinBs.nil | exact FinCs.nil | refine FinBs.cons ?_ ?_ | refine FinCs.cons ?_ ?_ | refine FinB.cell (FinC.v ?_) | refine FinB.cell (FinC.own rfl rfl rfl ?_) | exact FinB.cell FinC.nil | refine FinB.cell (FinC.sl ?_) | exact FinB.agg' rfl rfl | exact FinB.cell (FinC.same rfl) | refine FinB.agg ?_ | refine FinC.v ?_ | refine FinC.own rfl rfl rfl ?_ | exact FinC.nil | refine FinC.sl ?_ | exact FinC.same rfl); all_goals try rfl
        · rw [hs2 rfl] at hm
          repeat' (first | ((first | apply o_do | apply d_do | apply d_yes rfl rfl rfl); first | exact lsc (hm) | exact lsc (h8) | exact lsc (hadv) | exact lsc (hlike) | exact lsc (hlike2) | exact lsc (hlikeR) | exact lsq) | first | refine a_seq ?_ | refine a_region ?_ | refine o_nil ?_ | refine a_block ?_ | refine a_ret ?_ | refine a_exit ?_ | refine a_skip ?_ | refine a_draw mixed ?_ | refine d_nil (by kernel_rfl) ?_ | first | refine o_yes rfl rfl rfl ?_ | refine o_no rfl rfl rfl (by decide) ?_ | refine o_no' rfl rfl rfl ?_ | refine a_condT rfl ?_ | refine a_condF rfl ?_ | refine d_no rfl rfl rfl (by decide) ?_ | refine d_no' rfl rfl rfl ?_ | ((first | refine o_split_t rfl rfl rfl (fun hb => ?_) (fun hb => ?_) | refine o_split_f rfl rfl rfl (fun hb => ?_) (fun hb => ?_) | refine a_cond rfl (fun hb => ?_) (fun hb => ?_) | refine d_split rfl rfl (fun hb => ?_) (fun hb => ?_)) <;> (simp only [hb]; try simp only [decide_eq_true_eq, decide_eq_false_iff_not, Bool.not_eq_true', Bool.not_eq_false', Bool.not_eq_true, Bool.not_eq_false, ne_eq, Decidable.not_not] at hb; try (exfalso; first | omega | exact hb trivial))))
          all_goals refine ⟨by first | exact .inr rfl | exact .inl rfl, _, rfl, ?_, by repeat' (first | exact trivial | refine ⟨⟨_, rfl, by first | rfl | (simp [renO, *]; done)⟩, by first | rfl | assumption, ?_⟩)⟩
          all_goals (first | refine FinA.tup ?_ | refine FinA.one ?_); repeat' (first | exact FinBs.nil | exact FinCs.nil | refine FinBs.cons ?_ ?_ | refine FinCs.cons ?_ ?_ | refine FinB.cell (FinC.v ?_) | refine FinB.cell (FinC.own rfl rfl rfl ?_) | exact FinB.cell FinC.nil | refine FinB.cell (FinC.sl ?_) | exact FinB.agg' rfl rfl | exact FinB.cell (FinC.same rfl) | refine FinB.agg ?_ | refine FinC.v ?_ | refine FinC.own rfl rfl rfl ?_ | exact FinC.nil | refine FinC.sl ?_ | exact FinC.same rfl); all_goals try rfl
          all_goals simp
end
end Go.Proofs.Ytimlkhbedhjehaa
