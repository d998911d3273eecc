/-
  The reference's reading of jobs, walked over abstract values: a text read; the law JobReads walked.
-/
import Derived.Test.YthlimflfglkpiaaDoorJrH
import Derived.Test.YthlimflfglkpiaaDoorJpT
namespace Go.Proofs.YthlimflfglkpiaaDoor
open Go.RowKit
set_option linter.unusedSimpArgs false
set_option linter.unusedVariables false
theorem sm_tail {s : ByteArray} {l r : List UInt8} (hs : Sm s) (h : s.data.toList = l ++ 10 :: r) : Sm (mkB r) := by
  have : (mkB r).size ≤ s.size := by rw [← size_list, ← size_list, h, mkB_list, List.length_append, List.length_cons]; omega
  unfold Sm at *; omega
set_option maxHeartbeats 16000000 in
set_option maxRecDepth 20000 in
theorem p_rParse (s : ByteArray) (hs : Sm s) : PC Tryd.prog 25 [.v (.string s)] (.tup [.agg (pars 6 1 zJ s).1.av, .v (.int .i64 (pars 6 1 zJ s).2.1), .v (.int .i64 (pars 6 1 zJ s).2.2)]) := by
  obtain ⟨R, hR⟩ : ∃ R, R = pars 6 1 zJ s := ⟨_, rfl⟩
  rw [← hR]
  have h1 := p_numbers s (wordK 1) 1 (by omega) hs
  by_cases b1 : (nsR s (wordK 1) 1).2.2 = true
  case neg =>
      rw [pars_miss (fun h => b1 (hit1 h))] at hR
      subst hR
      have bf := Bool.eq_false_iff.2 b1
      rw [bf] at h1
      generalize nsR s (wordK 1) 1 = F at *
      obtain ⟨f1, f2, f3⟩ := F
      unfold wordK niv at *
      unfold J8.av zJ
      dsimp only [List.map_cons, List.map_nil] at *
      refine PC.mk (ac_body tab_ok Tryd.func25 rfl (by kernel_rfl) rfl ?_); intro w0 M μ0; simp only [Tryd.ntmps25, List.length_cons, List.length_nil, Nat.reduceAdd, Nat.reduceSub, numb]
      repeat' (first | ((first | apply o_do | apply d_do | apply d_yes rfl rfl rfl); first | exact lsc (h1) | exact lsq) | refine a_seq ?_ | refine a_region ?_ | refine o_nil ?_ | refine a_block ?_ | refine a_ret ?_ | refine a_exit ?_ | refine a_skip ?_ | refine a_draw mixed ?_ | refine d_nil (by kernel_rfl) ?_ | refine o_yes rfl rfl rfl ?_ | refine o_no rfl rfl rfl (by decide) ?_ | refine o_no' rfl rfl rfl ?_ | refine a_condT rfl ?_ | refine a_condF rfl ?_ | refine d_no rfl rfl rfl (by decide) ?_ | refine d_no' rfl rfl rfl ?_ | (refine wq2 (fun hb => ?_) (fun hb => ?_) <;> (simp only [hb]; try simp only [hbs, ne_eq] at hb; try (exfalso; first | omega | exact hb trivial))) | fail)
      all_goals refine ⟨by first | exact .inr rfl | exact .inl rfl, _, rfl, ?_, by repeat' (first | exact trivial | refine ⟨⟨_, rfl, by first | rfl | (simp [renO, *]; done)⟩, by first | rfl | assumption, ?_⟩)⟩
      all_goals (first | refine FinA.tup ?_ | refine FinA.one ?_); repeat' (first | exact FinBs.nil | exact FinCs.nil | refine FinBs.cons ?_ ?_ | refine FinCs.cons ?_ ?_ | refine FinB.cell (FinC.v ?_) | refine FinB.cell (FinC.own rfl rfl rfl ?_) | exact FinB.cell FinC.nil | refine FinB.cell (FinC.sl ?_) | exact FinB.agg' rfl rfl | exact FinB.cell (FinC.same rfl) | refine FinB.agg ?_ | refine FinC.v ?_ | refine FinC.own rfl rfl rfl ?_ | exact FinC.nil | refine FinC.sl ?_ | exact FinC.same rfl); all_goals try rfl
  obtain ⟨g, r1, ng, t1, e1⟩ := ns1_out b1
  rw [e1] at h1
  clear b1 e1
  rw [back_s t1, go1 ng] at hR
  have hs1 := sm_tail hs t1
  have h2 := p_numbers (mkB r1) (wordK 2) 2 (by omega) hs1
  by_cases b2 : (nsR (mkB r1) (wordK 2) 2).2.2 = true
  case neg =>
      rw [pars_miss (fun h => b2 (hit2 h))] at hR
      subst hR
      have bf := Bool.eq_false_iff.2 b2
      rw [bf] at h2
      generalize nsR (mkB r1) (wordK 2) 2 = F at *
      obtain ⟨f1, f2, f3⟩ := F
      unfold wordK niv at *
      unfold J8.av zJ
      dsimp only [List.map_cons, List.map_nil] at *
      refine PC.mk (ac_body tab_ok Tryd.func25 rfl (by kernel_rfl) rfl ?_); intro w0 M μ0; simp only [Tryd.ntmps25, List.length_cons, List.length_nil, Nat.reduceAdd, Nat.reduceSub, numb]
      repeat' (first | ((first | apply o_do | apply d_do | apply d_yes rfl rfl rfl); first | exact lsc (h1) | exact lsc (h2) | exact lsq) | refine a_seq ?_ | refine a_region ?_ | refine o_nil ?_ | refine a_block ?_ | refine a_ret ?_ | refine a_exit ?_ | refine a_skip ?_ | refine a_draw mixed ?_ | refine d_nil (by kernel_rfl) ?_ | refine o_yes rfl rfl rfl ?_ | refine o_no rfl rfl rfl (by decide) ?_ | refine o_no' rfl rfl rfl ?_ | refine a_condT rfl ?_ | refine a_condF rfl ?_ | refine d_no rfl rfl rfl (by decide) ?_ | refine d_no' rfl rfl rfl ?_ | (refine wq2 (fun hb => ?_) (fun hb => ?_) <;> (simp only [hb]; try simp only [hbs, ne_eq] at hb; try (exfalso; first | omega | exact hb trivial))) | fail)
      all_goals refine ⟨by first | exact .inr rfl | exact .inl rfl, _, rfl, ?_, by repeat' (first | exact trivial | refine ⟨⟨_, rfl, by first | rfl | (simp [renO, *]; done)⟩, by first | rfl | assumption, ?_⟩)⟩
      all_goals (first | refine FinA.tup ?_ | refine FinA.one ?_); repeat' (first | exact FinBs.nil | exact FinCs.nil | refine FinBs.cons ?_ ?_ | refine FinCs.cons ?_ ?_ | refine FinB.cell (FinC.v ?_) | refine FinB.cell (FinC.own rfl rfl rfl ?_) | exact FinB.cell FinC.nil | refine FinB.cell (FinC.sl ?_) | exact FinB.agg' rfl rfl | exact FinB.cell (FinC.same rfl) | refine FinB.agg ?_ | refine FinC.v ?_ | refine FinC.own rfl rfl rfl ?_ | exact FinC.nil | refine FinC.sl ?_ | exact FinC.same rfl); all_goals try rfl
  obtain ⟨sz, sl, r2, nsz, nsl, t2, e2⟩ := ns2_out b2
  rw [e2] at h2
  clear b2 e2
  rw [back_s t2, go2 nsz nsl] at hR
  have hs2 := sm_tail hs1 t2
  have h3 := p_rFoldL (mkB r2) hs2
  by_cases b3 : (foS (mkB r2)).2.2 = true
  case neg =>
      rw [pars_miss (fun h => b3 (hit3 h))] at hR
      subst hR
      have bf := Bool.eq_false_iff.2 b3
      rw [bf] at h3
      generalize foS (mkB r2) = F at *
      obtain ⟨f1, f2, f3⟩ := F
      unfold wordK niv at *
      unfold J8.av zJ
      dsimp only [List.map_cons, List.map_nil] at *
      refine PC.mk (ac_body tab_ok Tryd.func25 rfl (by kernel_rfl) rfl ?_); intro w0 M μ0; simp only [Tryd.ntmps25, List.length_cons, List.length_nil, Nat.reduceAdd, Nat.reduceSub, numb]
      repeat' (first | ((first | apply o_do | apply d_do | apply d_yes rfl rfl rfl); first | exact lsc (h1) | exact lsc (h2) | exact lsc (h3) | exact lsq) | refine a_seq ?_ | refine a_region ?_ | refine o_nil ?_ | refine a_block ?_ | refine a_ret ?_ | refine a_exit ?_ | refine a_skip ?_ | refine a_draw mixed ?_ | refine d_nil (by kernel_rfl) ?_ | refine o_yes rfl rfl rfl ?_ | refine o_no rfl rfl rfl (by decide) ?_ | refine o_no' rfl rfl rfl ?_ | refine a_condT rfl ?_ | refine a_condF rfl ?_ | refine d_no rfl rfl rfl (by decide) ?_ | refine d_no' rfl rfl rfl ?_ | (refine wq2 (fun hb => ?_) (fun hb => ?_) <;> (simp only [hb]; try simp only [hbs, ne_eq] at hb; try (exfalso; first | omega | exact hb trivial))) | fail)
      all_goals refine ⟨by first | exact .inr rfl | exact .inl rfl, _, rfl, ?_, by repeat' (first | exact trivial | refine ⟨⟨_, rfl, by first | rfl | (simp [renO, *]; done)⟩, by first | rfl | assumption, ?_⟩)⟩
      all_goals (first | refine FinA.tup ?_ | refine FinA.one ?_); repeat' (first | exact FinBs.nil | exact FinCs.nil | refine FinBs.cons ?_ ?_ | refine FinCs.cons ?_ ?_ | refine FinB.cell (FinC.v ?_) | refine FinB.cell (FinC.own rfl rfl rfl ?_) | exact FinB.cell FinC.nil | refine FinB.cell (FinC.sl ?_) | exact FinB.agg' rfl rfl | exact FinB.cell (FinC.same rfl) | refine FinB.agg ?_ | refine FinC.v ?_ | refine FinC.own rfl rfl rfl ?_ | exact FinC.nil | refine FinC.sl ?_ | exact FinC.same rfl); all_goals try rfl
  obtain ⟨q, r3, hq, t3, e3⟩ := fo_out b3
  rw [e3] at h3
  clear b3 e3
  rw [back_s t3, go3 hq] at hR
  have hs3 := sm_tail hs2 t3
  have h4 := p_numbers (mkB r3) (wordK 4) 2 (by omega) hs3
  by_cases b4 : (nsR (mkB r3) (wordK 4) 2).2.2 = true
  case neg =>
      rw [pars_miss (fun h => b4 (hit4 h))] at hR
      subst hR
      have bf := Bool.eq_false_iff.2 b4
      rw [bf] at h4
      generalize nsR (mkB r3) (wordK 4) 2 = F at *
      obtain ⟨f1, f2, f3⟩ := F
      unfold wordK niv at *
      unfold J8.av zJ
      dsimp only [List.map_cons, List.map_nil] at *
      refine PC.mk (ac_body tab_ok Tryd.func25 rfl (by kernel_rfl) rfl ?_); intro w0 M μ0; simp only [Tryd.ntmps25, List.length_cons, List.length_nil, Nat.reduceAdd, Nat.reduceSub, numb]
      repeat' (first | ((first | apply o_do | apply d_do | apply d_yes rfl rfl rfl); first | exact lsc (h1) | exact lsc (h2) | exact lsc (h3) | exact lsc (h4) | exact lsq) | refine a_seq ?_ | refine a_region ?_ | refine o_nil ?_ | refine a_block ?_ | refine a_ret ?_ | refine a_exit ?_ | refine a_skip ?_ | refine a_draw mixed ?_ | refine d_nil (by kernel_rfl) ?_ | refine o_yes rfl rfl rfl ?_ | refine o_no rfl rfl rfl (by decide) ?_ | refine o_no' rfl rfl rfl ?_ | refine a_condT rfl ?_ | refine a_condF rfl ?_ | refine d_no rfl rfl rfl (by decide) ?_ | refine d_no' rfl rfl rfl ?_ | (refine wq2 (fun hb => ?_) (fun hb => ?_) <;> (simp only [hb]; try simp only [hbs, ne_eq] at hb; try (exfalso; first | omega | exact hb trivial))) | fail)
      all_goals refine ⟨by first | exact .inr rfl | exact .inl rfl, _, rfl, ?_, by repeat' (first | exact trivial | refine ⟨⟨_, rfl, by first | rfl | (simp [renO, *]; done)⟩, by first | rfl | assumption, ?_⟩)⟩
      all_goals (first | refine FinA.tup ?_ | refine FinA.one ?_); repeat' (first | exact FinBs.nil | exact FinCs.nil | refine FinBs.cons ?_ ?_ | refine FinCs.cons ?_ ?_ | refine FinB.cell (FinC.v ?_) | refine FinB.cell (FinC.own rfl rfl rfl ?_) | exact FinB.cell FinC.nil | refine FinB.cell (FinC.sl ?_) | exact FinB.agg' rfl rfl | exact FinB.cell (FinC.same rfl) | refine FinB.agg ?_ | refine FinC.v ?_ | refine FinC.own rfl rfl rfl ?_ | exact FinC.nil | refine FinC.sl ?_ | exact FinC.same rfl); all_goals try rfl
  obtain ⟨li, fu, r4, nli, nfu, t4, e4⟩ := ns2_out b4
  rw [e4] at h4
  clear b4 e4
  rw [back_s t4, go4 nli nfu] at hR
  have hs4 := sm_tail hs3 t4
  have h5 := p_numbers (mkB r4) (wordK 5) 1 (by omega) hs4
  by_cases b5 : (nsR (mkB r4) (wordK 5) 1).2.2 = true
  case neg =>
      rw [pars_miss (fun h => b5 (hit5 h))] at hR
      subst hR
      have bf := Bool.eq_false_iff.2 b5
      rw [bf] at h5
      generalize nsR (mkB r4) (wordK 5) 1 = F at *
      obtain ⟨f1, f2, f3⟩ := F
      unfold wordK niv at *
      unfold J8.av zJ
      dsimp only [List.map_cons, List.map_nil] at *
      refine PC.mk (ac_body tab_ok Tryd.func25 rfl (by kernel_rfl) rfl ?_); intro w0 M μ0; simp only [Tryd.ntmps25, List.length_cons, List.length_nil, Nat.reduceAdd, Nat.reduceSub, numb]
      repeat' (first | ((first | apply o_do | apply d_do | apply d_yes rfl rfl rfl); first | exact lsc (h1) | exact lsc (h2) | exact lsc (h3) | exact lsc (h4) | exact lsc (h5) | exact lsq) | refine a_seq ?_ | refine a_region ?_ | refine o_nil ?_ | refine a_block ?_ | refine a_ret ?_ | refine a_exit ?_ | refine a_skip ?_ | refine a_draw mixed ?_ | refine d_nil (by kernel_rfl) ?_ | refine o_yes rfl rfl rfl ?_ | refine o_no rfl rfl rfl (by decide) ?_ | refine o_no' rfl rfl rfl ?_ | refine a_condT rfl ?_ | refine a_condF rfl ?_ | refine d_no rfl rfl rfl (by decide) ?_ | refine d_no' rfl rfl rfl ?_ | (refine wq2 (fun hb => ?_) (fun hb => ?_) <;> (simp only [hb]; try simp only [hbs, ne_eq] at hb; try (exfalso; first | omega | exact hb trivial))) | fail)
      all_goals refine ⟨by first | exact .inr rfl | exact .inl rfl, _, rfl, ?_, by repeat' (first | exact trivial | refine ⟨⟨_, rfl, by first | rfl | (simp [renO, *]; done)⟩, by first | rfl | assumption, ?_⟩)⟩
      all_goals (first | refine FinA.tup ?_ | refine FinA.one ?_); repeat' (first | exact FinBs.nil | exact FinCs.nil | refine FinBs.cons ?_ ?_ | refine FinCs.cons ?_ ?_ | refine FinB.cell (FinC.v ?_) | refine FinB.cell (FinC.own rfl rfl rfl ?_) | exact FinB.cell FinC.nil | refine FinB.cell (FinC.sl ?_) | exact FinB.agg' rfl rfl | exact FinB.cell (FinC.same rfl) | refine FinB.agg ?_ | refine FinC.v ?_ | refine FinC.own rfl rfl rfl ?_ | exact FinC.nil | refine FinC.sl ?_ | exact FinC.same rfl); all_goals try rfl
  obtain ⟨de, r5, nde, t5, e5⟩ := ns1_out b5
  rw [e5] at h5
  clear b5 e5
  rw [back_s t5, go5 nde] at hR
  have hs5 := sm_tail hs4 t5
  have h6 := p_numbers (mkB r5) (wordK 6) 1 (by omega) hs5
  by_cases b6 : (nsR (mkB r5) (wordK 6) 1).2.2 = true
  case neg =>
      rw [pars_miss (fun h => b6 (hit6 h))] at hR
      subst hR
      have bf := Bool.eq_false_iff.2 b6
      rw [bf] at h6
      generalize nsR (mkB r5) (wordK 6) 1 = F at *
      obtain ⟨f1, f2, f3⟩ := F
      unfold wordK niv at *
      unfold J8.av zJ
      dsimp only [List.map_cons, List.map_nil] at *
      refine PC.mk (ac_body tab_ok Tryd.func25 rfl (by kernel_rfl) rfl ?_); intro w0 M μ0; simp only [Tryd.ntmps25, List.length_cons, List.length_nil, Nat.reduceAdd, Nat.reduceSub, numb]
      repeat' (first | ((first | apply o_do | apply d_do | apply d_yes rfl rfl rfl); first | exact lsc (h1) | exact lsc (h2) | exact lsc (h3) | exact lsc (h4) | exact lsc (h5) | exact lsc (h6) | exact lsq) | refine a_seq ?_ | refine a_region ?_ | refine o_nil ?_ | refine a_block ?_ | refine a_ret ?_ | refine a_exit ?_ | refine a_skip ?_ | refine a_draw mixed ?_ | refine d_nil (by kernel_rfl) ?_ | refine o_yes rfl rfl rfl ?_ | refine o_no rfl rfl rfl (by decide) ?_ | refine o_no' rfl rfl rfl ?_ | refine a_condT rfl ?_ | refine a_condF rfl ?_ | refine d_no rfl rfl rfl (by decide) ?_ | refine d_no' rfl rfl rfl ?_ | (refine wq2 (fun hb => ?_) (fun hb => ?_) <;> (simp only [hb]; try simp only [hbs, ne_eq] at hb; try (exfalso; first | omega | exact hb trivial))) | fail)
      all_goals refine ⟨by first | exact .inr rfl | exact .inl rfl, _, rfl, ?_, by repeat' (first | exact trivial | refine ⟨⟨_, rfl, by first | rfl | (simp [renO, *]; done)⟩, by first | rfl | assumption, ?_⟩)⟩
      all_goals (first | refine FinA.tup ?_ | refine FinA.one ?_); repeat' (first | exact FinBs.nil | exact FinCs.nil | refine FinBs.cons ?_ ?_ | refine FinCs.cons ?_ ?_ | refine FinB.cell (FinC.v ?_) | refine FinB.cell (FinC.own rfl rfl rfl ?_) | exact FinB.cell FinC.nil | refine FinB.cell (FinC.sl ?_) | exact FinB.agg' rfl rfl | exact FinB.cell (FinC.same rfl) | refine FinB.agg ?_ | refine FinC.v ?_ | refine FinC.own rfl rfl rfl ?_ | exact FinC.nil | refine FinC.sl ?_ | exact FinC.same rfl); all_goals try rfl
  obtain ⟨id, r6, nid, t6, e6⟩ := ns1_out b6
  rw [e6] at h6
  clear b6 e6
  rw [back_s t6, go6 nid] at hR
  have hs6 := sm_tail hs5 t6
  unfold pars at hR
  have hJ := j_rRight (smallV g) sz sl ((q : Int) + 1) (smallV fu) li de (smallV id)
  have hS := p_rSmall
  have a1 : ([g].map niv)[0]? = some (niv g) := rfl
  have a2 : ([sz, sl].map niv)[0]? = some (niv sz) := rfl
  have a3 : ([sz, sl].map niv)[1]? = some (niv sl) := rfl
  have a4 : ([li, fu].map niv)[0]? = some (niv li) := rfl
  have a5 : ([li, fu].map niv)[1]? = some (niv fu) := rfl
  have a6 : ([de].map niv)[0]? = some (niv de) := rfl
  have a7 : ([id].map niv)[0]? = some (niv id) := rfl
  unfold wordK at *
  unfold jAv at hJ
  dsimp only at *
  have hok : J8.ok ⟨smallV g, sz, sl, (q : Int) + 1, smallV fu, li, de, smallV id⟩ = jobOK (smallV g) sz sl ((q : Int) + 1) (smallV fu) li de (smallV id) := rfl
  cases he : ((mkB r6).toList == em.toList)
  · rw [if_pos he] at hR
    subst hR
    unfold em at he
    unfold J8.av zJ
    refine PC.mk (ac_body tab_ok Tryd.func25 rfl (by kernel_rfl) rfl ?_); intro w0 M μ0; simp only [Tryd.ntmps25, List.length_cons, List.length_nil, Nat.reduceAdd, Nat.reduceSub, numb]
    repeat' (first | ((first | apply o_do | apply d_do | apply d_yes rfl rfl rfl); first | exact lsc (h1) | exact lsc (h2) | exact lsc (h3) | exact lsc (h4) | exact lsc (h5) | exact lsc (h6) | exact lsq) | refine a_seq ?_ | refine a_region ?_ | refine o_nil ?_ | refine a_block ?_ | refine a_ret ?_ | refine a_exit ?_ | refine a_skip ?_ | refine a_draw mixed ?_ | refine d_nil (by kernel_rfl) ?_ | refine o_yes rfl rfl rfl ?_ | refine o_no rfl rfl rfl (by decide) ?_ | refine o_no' rfl rfl rfl ?_ | refine a_condT rfl ?_ | refine a_condF rfl ?_ | refine d_no rfl rfl rfl (by decide) ?_ | refine d_no' rfl rfl rfl ?_ | (refine wq2 (fun hb => ?_) (fun hb => ?_) <;> (simp only [hb]; try simp only [hbs, ne_eq] at hb; try (exfalso; first | omega | exact hb trivial))) | fail)
    all_goals try (exfalso; simp_all; done)
    all_goals refine ⟨by first | exact .inr rfl | exact .inl rfl, _, rfl, ?_, by repeat' (first | exact trivial | refine ⟨⟨_, rfl, by first | rfl | (simp [renO, *]; done)⟩, by first | rfl | assumption, ?_⟩)⟩
    all_goals (first | refine FinA.tup ?_ | refine FinA.one ?_); repeat' (first | exact FinBs.nil | exact FinCs.nil | refine FinBs.cons ?_ ?_ | refine FinCs.cons ?_ ?_ | refine FinB.cell (FinC.v ?_) | refine FinB.cell (FinC.own rfl rfl rfl ?_) | exact FinB.cell FinC.nil | refine FinB.cell (FinC.sl ?_) | exact FinB.agg' rfl rfl | exact FinB.cell (FinC.same rfl) | refine FinB.agg ?_ | refine FinC.v ?_ | refine FinC.own rfl rfl rfl ?_ | exact FinC.nil | refine FinC.sl ?_ | exact FinC.same rfl); all_goals try rfl
  · rw [if_neg (by rw [he]; simp)] at hR
    unfold em at he
    cases ho : jobOK (smallV g) sz sl ((q : Int) + 1) (smallV fu) li de (smallV id)
    · rw [if_pos (by rw [hok, ho])] at hR
      rw [ho] at hJ
      subst hR
      unfold J8.av zJ
      refine PC.mk (ac_body tab_ok Tryd.func25 rfl (by kernel_rfl) rfl ?_); intro w0 M μ0; simp only [Tryd.ntmps25, List.length_cons, List.length_nil, Nat.reduceAdd, Nat.reduceSub, numb]
      repeat' (first | ((first | apply o_do | apply d_do | apply d_yes rfl rfl rfl); first | exact lsc (h1) | exact lsc (h2) | exact lsc (h3) | exact lsc (h4) | exact lsc (h5) | exact lsc (h6) | exact lsc ((hS _)) | exact lsc (hJ) | exact ls_indexAddr_sl (q := 0) tab_ok rfl rfl rfl rfl rfl rfl | exact ls_indexAddr_sl (q := 1) tab_ok rfl rfl rfl rfl rfl rfl | exact lsq) | refine a_seq ?_ | refine a_region ?_ | refine o_nil ?_ | refine a_block ?_ | refine a_ret ?_ | refine a_exit ?_ | refine a_skip ?_ | refine a_draw mixed ?_ | refine d_nil (by kernel_rfl) ?_ | refine o_yes rfl rfl rfl ?_ | refine o_no rfl rfl rfl (by decide) ?_ | refine o_no' rfl rfl rfl ?_ | refine a_condT rfl ?_ | refine a_condF rfl ?_ | refine d_no rfl rfl rfl (by decide) ?_ | refine d_no' rfl rfl rfl ?_ | (refine wq2 (fun hb => ?_) (fun hb => ?_) <;> (simp only [hb]; try simp only [hbs, ne_eq] at hb; try (exfalso; first | omega | exact hb trivial))) | fail)
      all_goals try (exfalso; simp_all; done)
      all_goals refine ⟨by first | exact .inr rfl | exact .inl rfl, _, rfl, ?_, by repeat' (first | exact trivial | refine ⟨⟨_, rfl, by first | rfl | (simp [renO, *]; done)⟩, by first | rfl | assumption, ?_⟩)⟩
      all_goals (first | refine FinA.tup ?_ | refine FinA.one ?_); repeat' (first | exact FinBs.nil | exact FinCs.nil | refine FinBs.cons ?_ ?_ | refine FinCs.cons ?_ ?_ | refine FinB.cell (FinC.v ?_) | refine FinB.cell (FinC.own rfl rfl rfl ?_) | exact FinB.cell FinC.nil | refine FinB.cell (FinC.sl ?_) | exact FinB.agg' rfl rfl | exact FinB.cell (FinC.same rfl) | refine FinB.agg ?_ | refine FinC.v ?_ | refine FinC.own rfl rfl rfl ?_ | exact FinC.nil | refine FinC.sl ?_ | exact FinC.same rfl); all_goals try rfl
    · rw [if_neg (by rw [hok, ho]; simp)] at hR
      rw [ho] at hJ
      subst hR
      unfold J8.av
      refine PC.mk (ac_body tab_ok Tryd.func25 rfl (by kernel_rfl) rfl ?_); intro w0 M μ0; simp only [Tryd.ntmps25, List.length_cons, List.length_nil, Nat.reduceAdd, Nat.reduceSub, numb]
      repeat' (first | ((first | apply o_do | apply d_do | apply d_yes rfl rfl rfl); first | exact lsc (h1) | exact lsc (h2) | exact lsc (h3) | exact lsc (h4) | exact lsc (h5) | exact lsc (h6) | exact lsc ((hS _)) | exact lsc (hJ) | exact ls_indexAddr_sl (q := 0) tab_ok rfl rfl rfl rfl rfl rfl | exact ls_indexAddr_sl (q := 1) tab_ok rfl rfl rfl rfl rfl rfl | exact lsq) | refine a_seq ?_ | refine a_region ?_ | refine o_nil ?_ | refine a_block ?_ | refine a_ret ?_ | refine a_exit ?_ | refine a_skip ?_ | refine a_draw mixed ?_ | refine d_nil (by kernel_rfl) ?_ | refine o_yes rfl rfl rfl ?_ | refine o_no rfl rfl rfl (by decide) ?_ | refine o_no' rfl rfl rfl ?_ | refine a_condT rfl ?_ | refine a_condF rfl ?_ | refine d_no rfl rfl rfl (by decide) ?_ | refine d_no' rfl rfl rfl ?_ | (refine wq2 (fun hb => ?_) (fun hb => ?_) <;> (simp only [hb]; try simp only [hbs, ne_eq] at hb; try (exfalso; first | omega | exact hb trivial))) | fail)
      all_goals try (exfalso; simp_all; done)
      all_goals refine ⟨by first | exact .inr rfl | exact .inl rfl, _, rfl, ?_, by repeat' (first | exact trivial | refine ⟨⟨_, rfl, by first | rfl | (simp [renO, *]; done)⟩, by first | rfl | assumption, ?_⟩)⟩
      all_goals (first | refine FinA.tup ?_ | refine FinA.one ?_); repeat' (first | exact FinBs.nil | exact FinCs.nil | refine FinBs.cons ?_ ?_ | refine FinCs.cons ?_ ?_ | refine FinB.cell (FinC.v ?_) | refine FinB.cell (FinC.own rfl rfl rfl ?_) | exact FinB.cell FinC.nil | refine FinB.cell (FinC.sl ?_) | exact FinB.agg' rfl rfl | exact FinB.cell (FinC.same rfl) | refine FinB.agg ?_ | refine FinC.v ?_ | refine FinC.own rfl rfl rfl ?_ | exact FinC.nil | refine FinC.sl ?_ | exact FinC.same rfl); all_goals try rfl
set_option maxHeartbeats 4000000 in
set_option maxRecDepth 20000 in
theorem j_reads (s : ByteArray) (hs : Sm s) : PCT Tryd.prog TabP 7 [.v (.string s)] (.v (.bool true)) := by
  have hA := p_aliveP
  have hB := p_Parse s hs
  have hC := p_rParse s hs
  generalize pars 6 1 zJ s = r at *
  obtain ⟨j, e, l⟩ := r
  dsimp only at hB hC
  unfold J8.av at *
  refine PCT.mk (act_body tab_ok Tryd.func7 rfl (by kernel_rfl) rfl ?_); intro w0 M μ0 hG; simp only [Tryd.ntmps7, List.length_cons, List.length_nil, Nat.reduceAdd, Nat.reduceSub, numb] at hG ⊢
  repeat' (first | ((first | apply o_do | apply d_do | apply d_yes rfl rfl rfl); first | focus (apply ls_callT hG hB rfl rfl _ rfl rfl; (repeat' (first | exact NilL.nil | refine NilL.cons Nil.same ?_ | refine NilL.cons Nil.nil ?_ | refine NilL.cons (Nil.agg ?_) ?_ | exact Nil1s.nil | refine Nil1s.cons Nil1.same ?_ | refine Nil1s.cons Nil1.nil ?_)); done) | exact lsc (hC) | focus (apply ls_callT hG hA rfl rfl _ rfl rfl; (repeat' (first | exact NilL.nil | refine NilL.cons Nil.same ?_ | refine NilL.cons Nil.nil ?_ | refine NilL.cons (Nil.agg ?_) ?_ | exact Nil1s.nil | refine Nil1s.cons Nil1.same ?_ | refine Nil1s.cons Nil1.nil ?_)); done) | exact ls_eqJ8 j rfl rfl rfl | exact lsq) | refine a_seq ?_ | refine a_region ?_ | refine o_nil ?_ | refine a_block ?_ | refine a_ret ?_ | refine a_exit ?_ | refine a_skip ?_ | refine a_draw mixed ?_ | refine d_nil (by kernel_rfl) ?_ | refine o_yes rfl rfl rfl ?_ | refine o_no rfl rfl rfl (by decide) ?_ | refine o_no' rfl rfl rfl ?_ | refine a_condT rfl ?_ | refine a_condF rfl ?_ | refine d_no rfl rfl rfl (by decide) ?_ | refine d_no' rfl rfl rfl ?_ | (refine wq2 (fun hb => ?_) (fun hb => ?_) <;> (simp only [hb]; try simp only [hbs, ne_eq] at hb; try (exfalso; first | omega | exact hb trivial))) | fail)
  all_goals refine ⟨by first | exact .inr rfl | exact .inl rfl, _, rfl, ?_, by repeat' (first | exact trivial | refine ⟨⟨_, rfl, by first | rfl | (simp [renO, *]; done)⟩, by first | rfl | assumption, ?_⟩)⟩
  all_goals (first | refine FinA.tup ?_ | refine FinA.one ?_); repeat' (first | exact FinBs.nil | exact FinCs.nil | refine FinBs.cons ?_ ?_ | refine FinCs.cons ?_ ?_ | refine FinB.cell (FinC.v ?_) | refine FinB.cell (FinC.own rfl rfl rfl ?_) | exact FinB.cell FinC.nil | refine FinB.cell (FinC.sl ?_) | exact FinB.agg' rfl rfl | exact FinB.cell (FinC.same rfl) | refine FinB.agg ?_ | refine FinC.v ?_ | refine FinC.own rfl rfl rfl ?_ | exact FinC.nil | refine FinC.sl ?_ | exact FinC.same rfl); all_goals try rfl
  all_goals simp
end Go.Proofs.YthlimflfglkpiaaDoor
