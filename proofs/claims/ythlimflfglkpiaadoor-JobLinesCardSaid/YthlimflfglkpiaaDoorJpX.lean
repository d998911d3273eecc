/-
  Jobs: the law JobLines walked.
-/
import Derived.Test.YthlimflfglkpiaaDoorJpV
namespace Go.Proofs.YthlimflfglkpiaaDoor
open Go.RowKit
set_option linter.unusedSimpArgs false
set_option linter.unusedVariables false
theorem tmodB (a : Int) {b : Int} (hb : 0 < b) : -b < a.tmod b ∧ a.tmod b < b := by
  have h1 := Int.tmod_lt_of_pos a hb
  have h2 : -b < a.tmod b := by
    have h3 := Int.tmod_lt_of_pos (-a) hb
    rw [Int.neg_tmod] at h3
    omega
  exact ⟨h2, h1⟩
theorem cat_erase : ∀ (ls : List (List UInt8)) (x : Nat), (cat (ls.eraseIdx x) []).length ≤ (cat ls []).length
  | [], x => by simp [cat]
  | l :: ls, 0 => by simp [cat]; omega
  | l :: ls, x + 1 => by
    have := cat_erase ls x
    simp [cat]; omega
theorem tx_small (j : J8) (q : Nat) (h : JI j.g j.s j.d j.k j.fu j.li j.de j.id) : (txB j q).data.size ≤ 300 := by
  unfold txB
  rw [← tx_eq]
  have s1 := itoB_size j.g h.g.1 h.g.2
  have s2 := itoB_size j.s h.s.1 h.s.2
  have s3 := itoB_size j.d h.d.1 h.d.2
  have s4 := itoB_size j.fu h.fu.1 h.fu.2
  have s5 := itoB_size j.li h.li.1 h.li.2
  have s6 := itoB_size j.de h.de.1 h.de.2
  have s7 := itoB_size j.id h.id.1 h.id.2
  have s8 := nm_size q
  unfold jobT
  simp only [ByteArray.data_append, Array.size_append, List.size_toArray, List.length_cons, List.length_nil]
  omega
theorem lns_no (j : J8) (q : Nat) (hq : q < 5) (hi : JI j.g j.s j.d j.k j.fu j.li j.de j.id) (h : j.ok = true) : ∀ l ∈ lns j (nmQ q), 10 ∉ l := by
  obtain ⟨hg, hs, hd, _, hfu, hli, hde, hid⟩ := ok_parts h hi
  have ng : nn j.g := ⟨by omega, by omega⟩
  have nf : nn j.fu := ⟨by omega, by omega⟩
  have nid : nn j.id := ⟨by omega, by omega⟩
  obtain ⟨m1, m2, m3⟩ := nm_no q hq
  intro l hl
  unfold lns at hl
  simp only [List.mem_cons, List.mem_nil_iff, or_false] at hl
  rcases hl with rfl | rfl | rfl | rfl | rfl | rfl
  · exact l1_no (no10 ng)
  · exact l2_no (no10 hs) (no10 hd)
  · exact l1_no m2
  · exact l2_no (no10 hli) (no10 nf)
  · exact l1_no (no10 hde)
  · exact l1_no (no10 nid)
/-- what the walk needs of the pieces -/
structure Pcs (L : List (List AV)) (x : Nat) (G : ByteArray) : Prop where
  len : L.length = 7
  six : L[6]? = some [.v (.string em)]
  jn : PC Tryd.prog 28 [.sl 1 (L.take x ++ L.drop (x + 1)), .v (.string em)] (.v (.string G))
theorem pcs (j : J8) (q : Nat) (hq : q < 5) (hi : JI j.g j.s j.d j.k j.fu j.li j.de j.id) (h : j.ok = true) (x : Nat) (hx : x < 6) : Pcs ((spla (txB j q)).map stAv) x (mkB (cat ((lns j (nmQ q)).eraseIdx x) [])) := by
  have e := spla_cat (lns j (nmQ q)) (lns_no j q hq hi h)
  have e2 : spla (txB j q) = (lns j (nmQ q)).map (fun l => mkB (l ++ [10])) ++ [mkB []] := e
  rw [e2]
  have hl : (lns j (nmQ q)).length = 6 := rfl
  have hd := drop_cat (lns j (nmQ q)) x (by rw [hl]; exact hx)
  refine ⟨rfl, rfl, ?_⟩
  rw [← List.map_take, ← List.map_drop, ← List.map_append, hd, ← join_cat]
  have hfl : (((((lns j (nmQ q)).eraseIdx x).map (fun l => mkB (l ++ [10])) ++ [mkB []]).map (·.data.toList))).flatten = cat ((lns j (nmQ q)).eraseIdx x) [] := congrArg (fun b : ByteArray => b.data.toList) (join_cat _)
  have hsz := tx_small j q hi
  have hsz2 : (cat (lns j (nmQ q)) []).length ≤ 300 := by
    have e3 : (txB j q).data.size = (cat (lns j (nmQ q)) []).length := List.size_toArray
    omega
  have her := cat_erase (lns j (nmQ q)) x
  refine p_Join _ (by simp) ?_ (by rw [hfl]; omega)
  rw [List.length_append, List.length_map, List.length_eraseIdx]
  split <;> simp <;> omega
set_option maxHeartbeats 8000000 in
set_option maxRecDepth 20000 in
theorem j_lines (j : J8) (h : JI j.g j.s j.d j.k j.fu j.li j.de j.id) (kk : Int) (mo : ByteArray) : PCT Tryd.prog TabP 10 [.agg j.av, .v (.int .i64 kk), .v (.string mo)] (.v (.bool true)) := by
  have hA := p_aliveP
  cases hj : j.ok
  · have hP : PCT Tryd.prog TabP 11 [.agg j.av] (.tup [.v (.string ⟨#[]⟩), .v (.int .i64 130)]) := (j_PrintNo j.g j.s j.d j.k j.fu j.li j.de j.id hj).weak f_tab
    unfold J8.av at *
    refine PCT.mk (act_body tab_ok Tryd.func10 rfl (by kernel_rfl) rfl ?_); intro w0 M μ0 hG; simp only [Tryd.ntmps10, List.length_cons, List.length_nil, Nat.reduceAdd, Nat.reduceSub, numb] at hG ⊢
    repeat' (first | ((first | apply o_do | apply d_do | apply d_yes rfl rfl rfl); first | focus (apply ls_callT hG hP rfl rfl _ rfl rfl; (repeat' (first | exact NilL.nil | refine NilL.cons Nil.same ?_ | refine NilL.cons Nil.nil ?_ | refine NilL.cons (Nil.agg ?_) ?_ | exact Nil1s.nil | refine Nil1s.cons Nil1.same ?_ | refine Nil1s.cons Nil1.nil ?_)); done) | focus (apply ls_callT hG hA rfl rfl _ rfl rfl; (repeat' (first | exact NilL.nil | refine NilL.cons Nil.same ?_ | refine NilL.cons Nil.nil ?_ | refine NilL.cons (Nil.agg ?_) ?_ | exact Nil1s.nil | refine Nil1s.cons Nil1.same ?_ | refine Nil1s.cons Nil1.nil ?_)); done) | exact lsq) | refine a_seq ?_ | refine a_region ?_ | refine o_nil ?_ | refine a_block ?_ | refine a_ret ?_ | refine a_exit ?_ | refine a_skip ?_ | refine a_draw mixed ?_ | refine d_nil (by kernel_rfl) ?_ | refine o_yes rfl rfl rfl ?_ | refine o_no rfl rfl rfl (by decide) ?_ | refine o_no' rfl rfl rfl ?_ | refine a_condT rfl ?_ | refine a_condF rfl ?_ | refine d_no rfl rfl rfl (by decide) ?_ | refine d_no' rfl rfl rfl ?_ | (refine wq2 (fun hb => ?_) (fun hb => ?_) <;> (simp only [hb]; try simp only [hbs, ne_eq] at hb; try (exfalso; first | omega | exact hb trivial))) | fail)
    all_goals refine ⟨by first | exact .inr rfl | exact .inl rfl, _, rfl, ?_, by repeat' (first | exact trivial | refine ⟨⟨_, rfl, by first | rfl | (simp [renO, *]; done)⟩, by first | rfl | assumption, ?_⟩)⟩
    all_goals (first | refine FinA.tup ?_ | refine FinA.one ?_); repeat' (first | exact FinBs.nil | exact FinCs.nil | refine FinBs.cons ?_ ?_ | refine FinCs.cons ?_ ?_ | refine FinB.cell (FinC.v ?_) | refine FinB.cell (FinC.own rfl rfl rfl ?_) | exact FinB.cell FinC.nil | refine FinB.cell (FinC.sl ?_) | exact FinB.agg' rfl rfl | exact FinB.cell (FinC.same rfl) | refine FinB.agg ?_ | refine FinC.v ?_ | refine FinC.own rfl rfl rfl ?_ | exact FinC.nil | refine FinC.sl ?_ | exact FinC.same rfl); all_goals try rfl
  · obtain ⟨q, hq, hk⟩ := kind_at (jobOK_kind hj)
    have hP := j_PrintJ j q hq hk h hj
    by_cases hm : (mo.size : Int) > 100
    · generalize txB j q = T at *
      unfold J8.av at *
      refine PCT.mk (act_body tab_ok Tryd.func10 rfl (by kernel_rfl) rfl ?_); intro w0 M μ0 hG; simp only [Tryd.ntmps10, List.length_cons, List.length_nil, Nat.reduceAdd, Nat.reduceSub, numb] at hG ⊢
      repeat' (first | ((first | apply o_do | apply d_do | apply d_yes rfl rfl rfl); first | focus (apply ls_callT hG hP rfl rfl _ rfl rfl; (repeat' (first | exact NilL.nil | refine NilL.cons Nil.same ?_ | refine NilL.cons Nil.nil ?_ | refine NilL.cons (Nil.agg ?_) ?_ | exact Nil1s.nil | refine Nil1s.cons Nil1.same ?_ | refine Nil1s.cons Nil1.nil ?_)); done) | focus (apply ls_callT hG hA rfl rfl _ rfl rfl; (repeat' (first | exact NilL.nil | refine NilL.cons Nil.same ?_ | refine NilL.cons Nil.nil ?_ | refine NilL.cons (Nil.agg ?_) ?_ | exact Nil1s.nil | refine Nil1s.cons Nil1.same ?_ | refine Nil1s.cons Nil1.nil ?_)); done) | exact lsq) | refine a_seq ?_ | refine a_region ?_ | refine o_nil ?_ | refine a_block ?_ | refine a_ret ?_ | refine a_exit ?_ | refine a_skip ?_ | refine a_draw mixed ?_ | refine d_nil (by kernel_rfl) ?_ | refine o_yes rfl rfl rfl ?_ | refine o_no rfl rfl rfl (by decide) ?_ | refine o_no' rfl rfl rfl ?_ | refine a_condT rfl ?_ | refine a_condF rfl ?_ | refine d_no rfl rfl rfl (by decide) ?_ | refine d_no' rfl rfl rfl ?_ | (refine wq2 (fun hb => ?_) (fun hb => ?_) <;> (simp only [hb]; try simp only [hbs, ne_eq] at hb; try (exfalso; first | omega | exact hb trivial))) | fail)
      all_goals refine ⟨by first | exact .inr rfl | exact .inl rfl, _, rfl, ?_, by repeat' (first | exact trivial | refine ⟨⟨_, rfl, by first | rfl | (simp [renO, *]; done)⟩, by first | rfl | assumption, ?_⟩)⟩
      all_goals (first | refine FinA.tup ?_ | refine FinA.one ?_); repeat' (first | exact FinBs.nil | exact FinCs.nil | refine FinBs.cons ?_ ?_ | refine FinCs.cons ?_ ?_ | refine FinB.cell (FinC.v ?_) | refine FinB.cell (FinC.own rfl rfl rfl ?_) | exact FinB.cell FinC.nil | refine FinB.cell (FinC.sl ?_) | exact FinB.agg' rfl rfl | exact FinB.cell (FinC.same rfl) | refine FinB.agg ?_ | refine FinC.v ?_ | refine FinC.own rfl rfl rfl ?_ | exact FinC.nil | refine FinC.sl ?_ | exact FinC.same rfl); all_goals try rfl
    · obtain ⟨m1, hm1, hb1⟩ : ∃ m1 : Int, kk.tmod 6 = m1 ∧ (-5 ≤ m1 ∧ m1 ≤ 5) := ⟨_, rfl, by
        have a := tmodB kk (show (0 : Int) < 6 by decide)
        omega⟩
      obtain ⟨x, hx, hm2⟩ : ∃ x : Nat, x < 6 ∧ (m1 + 6).tmod 6 = (x : Int) := by
        have a := Int.tmod_nonneg (6 : Int) (show (0 : Int) ≤ m1 + 6 by omega)
        have b := Int.tmod_lt_of_pos (m1 + 6) (show (0 : Int) < 6 by decide)
        exact ⟨((m1 + 6).tmod 6).toNat, by omega, by omega⟩
      have hS := p_SplitAfter (txB j q) (tx_sm j q h)
      obtain ⟨hL, h6, hJ⟩ := pcs j q hq h hj x hx
      have hG := gone j q hq hk h hj x hx
      have hsmG : Sm (mkB (cat ((lns j (nmQ q)).eraseIdx x) [])) := by
        have e3 : (txB j q).data.size = (cat (lns j (nmQ q)) []).length := List.size_toArray
        have e4 : (mkB (cat ((lns j (nmQ q)).eraseIdx x) [])).size = (cat ((lns j (nmQ q)).eraseIdx x) []).length := List.size_toArray
        have a := tx_small j q h
        have b := cat_erase (lns j (nmQ q)) x
        unfold Sm
        omega
      have hB1 := p_Parse _ hsmG
      rw [hG] at hB1
      dsimp only at hB1
      have hTm : txB j q ++ mo = mkB (tx j (nmQ q) ++ mo.data.toList) := by
        apply bytes_ext2
        rw [mkB_list, ByteArray.data_append, Array.toList_append]
        rfl
      have hsz := tx_small j q h
      have hsm2 : Sm (txB j q ++ mo) := by
        unfold Sm
        rw [ByteArray.size_append]
        have : (txB j q).size = (txB j q).data.size := rfl
        omega
      have hB2 := p_Parse _ hsm2
      have hM := more j q hq hk h hj mo.data.toList
      rw [← hTm, mkB_self] at hM
      rw [hM] at hB2
      clear hM hTm hsm2 hG hsmG
      generalize mkB (cat ((lns j (nmQ q)).eraseIdx x) []) = G at *
      generalize (spla (txB j q)).map stAv = L at *
      generalize txB j q = T at *
      have hL1 : (L.take x).length ≤ 7 := by rw [List.length_take]; omega
      have hL3 : ([] ++ L.take x).length ≤ 7 := hL1
      have hL2 : (L.drop (x + 1)).length ≤ 7 := by rw [List.length_drop]; omega
      unfold pars em at hB2
      unfold em at hJ h6
      have hmz : mo.data.size ≤ 100 := by
        have : mo.size = mo.data.size := rfl
        omega
      have hx1 : ((x : Int) + 1) = ((x + 1 : Nat) : Int) := by omega
      cases hmq : (mo.toList == (⟨#[]⟩ : ByteArray).toList)
      all_goals
        rw [hmq, hj] at hB2
        simp only [if_true, if_false, Bool.true_eq_false] at hB2
        unfold J8.av zJ nl1 at *
        refine PCT.mk (act_body tab_ok Tryd.func10 rfl (by kernel_rfl) rfl ?_); intro w0 M μ0 hG; simp only [Tryd.ntmps10, List.length_cons, List.length_nil, Nat.reduceAdd, Nat.reduceSub, numb] at hG ⊢
        repeat' (first | ((first | apply o_do | apply d_do | apply d_yes rfl rfl rfl); first | focus (apply ls_callT hG hP rfl rfl _ rfl rfl; (repeat' (first | exact NilL.nil | refine NilL.cons Nil.same ?_ | refine NilL.cons Nil.nil ?_ | refine NilL.cons (Nil.agg ?_) ?_ | exact Nil1s.nil | refine Nil1s.cons Nil1.same ?_ | refine Nil1s.cons Nil1.nil ?_)); done) | focus (apply ls_callT hG hA rfl rfl _ rfl rfl; (repeat' (first | exact NilL.nil | refine NilL.cons Nil.same ?_ | refine NilL.cons Nil.nil ?_ | refine NilL.cons (Nil.agg ?_) ?_ | exact Nil1s.nil | refine Nil1s.cons Nil1.same ?_ | refine Nil1s.cons Nil1.nil ?_)); done) | focus (apply ls_callT hG hS rfl rfl _ rfl rfl; (repeat' (first | exact NilL.nil | refine NilL.cons Nil.same ?_ | refine NilL.cons Nil.nil ?_ | refine NilL.cons (Nil.agg ?_) ?_ | exact Nil1s.nil | refine Nil1s.cons Nil1.same ?_ | refine Nil1s.cons Nil1.nil ?_)); done) | exact ls_indexAddr_sl (q := 6) tab_ok rfl rfl rfl rfl h6 rfl | exact ls_rem64 hm1 rfl rfl (by omega) (by omega) rfl | exact ls_rem64 hm2 rfl rfl (by omega) (by omega) rfl | exact ls_slice_to (n := x) tab_ok rfl rfl rfl rfl (by omega) rfl | exact ls_slice_from (n := x + 1) tab_ok rfl rfl rfl hx1 (by omega) rfl | exact ls_append tab_ok rfl rfl rfl rfl (by first | exact SrcIs.sl | exact SrcIs.nil | exact SrcIs.own rfl rfl) rfl (by (try simp only [List.length_cons, List.length_nil]); omega) rfl rfl | exact lcs (hJ) | focus (apply ls_callT hG hB1 rfl rfl _ rfl rfl; (repeat' (first | exact NilL.nil | refine NilL.cons Nil.same ?_ | refine NilL.cons Nil.nil ?_ | refine NilL.cons (Nil.agg ?_) ?_ | exact Nil1s.nil | refine Nil1s.cons Nil1.same ?_ | refine Nil1s.cons Nil1.nil ?_)); done) | exact ls_cat rfl rfl (by simp only [ByteArray.size, ByteArray.data_append, Array.size_append, List.size_toArray, List.length_cons, List.length_nil]; omega) rfl | focus (apply ls_callT hG hB2 rfl rfl _ rfl rfl; (repeat' (first | exact NilL.nil | refine NilL.cons Nil.same ?_ | refine NilL.cons Nil.nil ?_ | refine NilL.cons (Nil.agg ?_) ?_ | exact Nil1s.nil | refine Nil1s.cons Nil1.same ?_ | refine Nil1s.cons Nil1.nil ?_)); done) | exact lsq) | refine a_seq ?_ | refine a_region ?_ | refine o_nil ?_ | refine a_block ?_ | refine a_ret ?_ | refine a_exit ?_ | refine a_skip ?_ | refine a_draw mixed ?_ | refine d_nil (by kernel_rfl) ?_ | refine o_yes rfl rfl rfl ?_ | refine o_no rfl rfl rfl (by decide) ?_ | refine o_no' rfl rfl rfl ?_ | refine a_condT rfl ?_ | refine a_condF rfl ?_ | refine d_no rfl rfl rfl (by decide) ?_ | refine d_no' rfl rfl rfl ?_ | (refine wq2 (fun hb => ?_) (fun hb => ?_) <;> (simp only [hb]; try simp only [hbs, ne_eq] at hb; try (exfalso; first | omega | exact hb trivial))) | fail)
        all_goals try (exfalso; simp at hb; done)
        all_goals try (exfalso; rw [hmq] at hb; simp at hb; done)
        all_goals refine ⟨by first | exact .inr rfl | exact .inl rfl, _, rfl, ?_, by repeat' (first | exact trivial | refine ⟨⟨_, rfl, by first | rfl | (simp [renO, *]; done)⟩, by first | rfl | assumption, ?_⟩)⟩
        all_goals (first | refine FinA.tup ?_ | refine FinA.one ?_); repeat' (first | exact FinBs.nil | exact FinCs.nil | refine FinBs.cons ?_ ?_ | refine FinCs.cons ?_ ?_ | refine FinB.cell (FinC.v ?_) | refine FinB.cell (FinC.own rfl rfl rfl ?_) | exact FinB.cell FinC.nil | refine FinB.cell (FinC.sl ?_) | exact FinB.agg' rfl rfl | exact FinB.cell (FinC.same rfl) | refine FinB.agg ?_ | refine FinC.v ?_ | refine FinC.own rfl rfl rfl ?_ | exact FinC.nil | refine FinC.sl ?_ | exact FinC.same rfl); all_goals try rfl
        all_goals first | (simp [*]; done) | (exfalso; rename_i hq2; rw [hq2] at hb; cases hb)
end Go.Proofs.YthlimflfglkpiaaDoor
