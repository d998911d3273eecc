/-
  Places as keys of a map.
-/
import Derived.Test.YtimlkhbedhjehaaPcA
namespace Go.Proofs.Ytimlkhbedhjehaa
open Go.RowKit
set_option linter.unusedSimpArgs false
set_option linter.unusedVariables false
theorem place_law : WideMaps.KeyLaw Try.prog 75 := Go.deep_law (m := 4) (by omega) (by kernel_rfl) (by kernel_rfl) (by kernel_rfl)
theorem place_key {x : Vl} (hs : x.key.size ≤ 9223372036854775807) (h1 : 0 ≤ x.lo ∧ x.lo ≤ 1099511627776) (h2 : 0 ≤ x.hi ∧ x.hi ≤ 1099511627776) : ∃ l, keyOf Try.prog 75 (keyV x) = some l := by
  have hk : Try.prog.keyType 75 = true := by kernel_rfl
  have hb : Nat.ble 4 Try.prog.types.size = true := by kernel_rfl
  obtain ⟨n, hn⟩ : ∃ n, Try.prog.types.size + 1 = n + 5 := ⟨Try.prog.types.size - 4, by have := Nat.le_of_ble_eq_true hb; omega⟩
  have c1 : Try.prog.cellsOf 75 = 3 := by kernel_rfl
  have c2 : Try.prog.cellsOf 37 = 2 := by kernel_rfl
  have c3 : Try.prog.cellsOf 2 = 1 := by kernel_rfl
  have c4 : Try.prog.cellsOf 9 = 1 := by kernel_rfl
  unfold keyOf keyV
  rw [Try.underlying75]
  simp only [hk, Bool.true_and, Value.formed, Try.underlying75, c1]
  rw [hn]
  simp [Program.keyLits, Try.underlying75, Try.underlying37, Try.underlying2, Try.underlying9, c1, c2, c3, c4, Value.cells, Lit.wf, maxLen, hs]
  rw [if_pos (by
    intro i hi
    rcases i with _ | _ | i
    · simp
    · simp
    · omega)]
  have hmin : IntKind.i64.min = -9223372036854775808 := rfl
  rw [if_pos ⟨by rw [hmin]; omega, by omega⟩, if_pos ⟨by rw [hmin]; omega, by omega⟩]
  exact ⟨_, rfl⟩
theorem okV_key {k : Int} {x : Vl} (h : okV k x = true) : ∃ l, keyOf Try.prog 75 (keyV x) = some l := by
  have hm := (okV_right h).2
  unfold mayB keyB at hm
  simp only [Bool.and_eq_true] at hm
  obtain ⟨⟨⟨⟨⟨_, b⟩, c⟩, d⟩, e⟩, _⟩ := hm
  have b' : x.key.size ≤ 16 := of_decide_eq_true b
  have c' : 0 ≤ x.lo := of_decide_eq_true c
  have d' : x.lo < x.hi := of_decide_eq_true d
  have e' : x.hi ≤ 1099511627776 := of_decide_eq_true e
  exact place_key (by omega) (by omega) (by omega)
set_option maxHeartbeats 8000000 in
set_option maxRecDepth 20000 in
theorem p_counts (k : Int) (vs : List Vl) (hx : vs.length ≤ 9223372036854775807) : PC Try.prog 12 [.v (.int .i64 k), .sl 4 (vs.map Vl.av)] (.v (.bool true)) := by
  have h8 := p_alive
  have hn : (vs.map Vl.av).length = vs.length := List.length_map _
  obtain ⟨l, hl40, hcase⟩ : ∃ l : List Vl, l.length ≤ 40 ∧ ((40 < vs.length ∧ (vs.map Vl.av).take 40 = l.map Vl.av) ∨ (¬ 40 < vs.length ∧ l = vs)) := by
    by_cases h : 40 < vs.length
    · exact ⟨vs.take 40, by rw [List.length_take]; omega, .inl ⟨h, by rw [List.map_take]⟩⟩
    · exact ⟨vs, by omega, .inr ⟨h, rfl⟩⟩
  have hall := p_all k l (by omega)
  have hnl : (l.map Vl.av).length = l.length := List.length_map _
  by_cases hgo : l.all (okV k) = true ∧ 1 ≤ k ∧ k ≤ 5
  · obtain ⟨hok, hk1, hk5⟩ := hgo
    have hfr : fRight k = true := by simp [fRight, hk1, hk5]
    have hok' : ∀ x ∈ l, okV k x = true := by simpa using hok
    have hrl := rowV_len (l := l) hfr (by omega)
    have hres := p_Results k (rowV k l) (by omega)
    obtain ⟨c1, c2, c3⟩ := pc_results hfr hok' (by omega)
    have hUle := resultsL_le k (rowV k l)
    have hpart := pcSum_part c3
    have hkeys : ∀ x ∈ l, ∃ lt, keyOf Try.prog 75 (keyV x) = some lt := fun x hx => okV_key (hok' x hx)
    unfold allV at hall
    rw [if_pos hok] at hall
    dsimp only [AR.av] at hall
    generalize resultsL k (rowV k l) = U at *
    generalize rowV k l = R at *
    have hUl : (U.map Rs.av).length = U.length := List.length_map _
    have hpl : (pcU l).length ≤ 40 := by omega
    rcases hcase with ⟨h1, h2⟩ | ⟨h1, rfl⟩
    all_goals
      refine PC.mk (ac_body tab_ok Try.func12 rfl (by kernel_rfl) rfl ?_); intro w0 M μ0; simp only [Try.ntmps12, List.length_cons, List.length_nil, Nat.reduceAdd, Nat.reduceSub, numb]
      repeat' (first | ((first | apply o_do | apply d_do | apply d_yes rfl rfl rfl); first | exact ls_slice_to (n := 40) tab_ok rfl rfl rfl rfl (by rw [hn]; omega) rfl | exact lsc (h8) | exact lsq) | first | refine a_seq ?_ | refine a_region ?_ | refine o_nil ?_ | refine a_block ?_ | refine a_ret ?_ | refine a_exit ?_ | refine a_skip ?_ | refine a_draw mixed ?_ | refine d_nil (by kernel_rfl) ?_ | first | refine o_yes rfl rfl rfl ?_ | refine o_no rfl rfl rfl (by decide) ?_ | refine o_no' rfl rfl rfl ?_ | refine a_condT rfl ?_ | refine a_condF rfl ?_ | refine d_no rfl rfl rfl (by decide) ?_ | refine d_no' rfl rfl rfl ?_ | ((first | refine o_split_t rfl rfl rfl (fun hb => ?_) (fun hb => ?_) | refine o_split_f rfl rfl rfl (fun hb => ?_) (fun hb => ?_) | refine a_cond rfl (fun hb => ?_) (fun hb => ?_) | refine d_split rfl rfl (fun hb => ?_) (fun hb => ?_)) <;> (simp only [hb]; try simp only [decide_eq_true_eq, decide_eq_false_iff_not, Bool.not_eq_true', Bool.not_eq_false', Bool.not_eq_true, Bool.not_eq_false, ne_eq, Decidable.not_not] at hb; try (exfalso; first | omega | exact hb trivial))))
      try simp only [h2]
      repeat' (first | ((first | apply o_do | apply d_do | apply d_yes rfl rfl rfl); first | exact lsc (hall) | exact lsc (hres) | exact lsc (h8) | exact lsq) | first | refine a_seq ?_ | refine a_region ?_ | refine o_nil ?_ | refine a_block ?_ | refine a_ret ?_ | refine a_exit ?_ | refine a_skip ?_ | refine a_draw mixed ?_ | refine d_nil (by kernel_rfl) ?_ | first | refine o_yes rfl rfl rfl ?_ | refine o_no rfl rfl rfl (by decide) ?_ | refine o_no' rfl rfl rfl ?_ | refine a_condT rfl ?_ | refine a_condF rfl ?_ | refine d_no rfl rfl rfl (by decide) ?_ | refine d_no' rfl rfl rfl ?_ | ((first | refine o_split_t rfl rfl rfl (fun hb => ?_) (fun hb => ?_) | refine o_split_f rfl rfl rfl (fun hb => ?_) (fun hb => ?_) | refine a_cond rfl (fun hb => ?_) (fun hb => ?_) | refine d_split rfl rfl (fun hb => ?_) (fun hb => ?_)) <;> (simp only [hb]; try simp only [decide_eq_true_eq, decide_eq_false_iff_not, Bool.not_eq_true', Bool.not_eq_false', Bool.not_eq_true, Bool.not_eq_false, ne_eq, Decidable.not_not] at hb; try (exfalso; first | omega | exact hb trivial))))
      refine a_loop (X := {q : Nat // q ≤ U.length}) (fun x => ⟨[(1, .sl 4 (l.map Vl.av)), (7, .v (.int .i64 (pcSum (U.take x.1)))), (8, .sl 5 (U.map Rs.av)), (39, .sl 5 (U.map Rs.av)), (40, .v (.int .i64 U.length)), (41, .v (.int .i64 x.1))], []⟩) (fun x => U.length - x.1) ⟨0, Nat.zero_le _⟩ ?_ ?_
      · refine ⟨by repeat' (first | exact trivial | exact FinA.one (FinB.cell (FinC.same rfl)) | exact FinA.one (FinB.cell FinC.nil) | exact FinA.bound rfl | exact FinA.one (FinB.cell (FinC.own rfl rfl rfl rfl)) | exact FinA.one (FinB.cell (FinC.v (by first | rfl | ((first | (simp [pcSum]; done) | simp))))) | exact FinA.one (FinB.cell (FinC.ow rfl (by first | rfl | ((first | (simp [pcSum]; done) | simp))))) | exact FinA.one (FinB.agg' rfl rfl) | refine ⟨⟨_, rfl, ?_⟩, ?_⟩), by repeat' (first | exact trivial | refine ⟨⟨_, rfl, by first | rfl | ((first | (simp [pcSum]; done) | simp); done) | (simp [renO, *]; done)⟩, by first | rfl | assumption, ?_⟩), rfl⟩
      rintro ⟨q, hq⟩
      dsimp only
      by_cases hlt : q < U.length
      · have hel : (U.map Rs.av)[q]? = some (Rs.av U[q]) := by simp [hlt]
        have hst := pcSum_step hlt
        have hb1 := hpart (q + 1)
        have hb0 := hpart q
        generalize U[q] = x at *
        repeat' (first | ((first | apply o_do | apply d_do | apply d_yes rfl rfl rfl); first | exact ls_indexAddr_sl tab_ok rfl rfl rfl rfl hel rfl | exact lsq) | first | refine a_seq ?_ | refine a_region ?_ | refine o_nil ?_ | refine a_block ?_ | refine a_ret ?_ | refine a_exit ?_ | refine a_skip ?_ | refine a_draw mixed ?_ | refine d_nil (by kernel_rfl) ?_ | first | refine o_yes rfl rfl rfl ?_ | refine o_no rfl rfl rfl (by decide) ?_ | refine o_no' rfl rfl rfl ?_ | refine a_condT rfl ?_ | refine a_condF rfl ?_ | refine d_no rfl rfl rfl (by decide) ?_ | refine d_no' rfl rfl rfl ?_ | ((first | refine o_split_t rfl rfl rfl (fun hb => ?_) (fun hb => ?_) | refine o_split_f rfl rfl rfl (fun hb => ?_) (fun hb => ?_) | refine a_cond rfl (fun hb => ?_) (fun hb => ?_) | refine d_split rfl rfl (fun hb => ?_) (fun hb => ?_)) <;> (simp only [hb]; try simp only [decide_eq_true_eq, decide_eq_false_iff_not, Bool.not_eq_true', Bool.not_eq_false', Bool.not_eq_true, Bool.not_eq_false, ne_eq, Decidable.not_not] at hb; try (exfalso; first | omega | exact hb trivial))))
        refine ⟨⟨q + 1, by omega⟩, by dsimp only; omega, ?_⟩
        refine ⟨by repeat' (first | exact trivial | exact FinA.one (FinB.cell (FinC.same rfl)) | exact FinA.one (FinB.cell FinC.nil) | exact FinA.bound rfl | exact FinA.one (FinB.cell (FinC.own rfl rfl rfl rfl)) | exact FinA.one (FinB.cell (FinC.v (by first | rfl | ((first | (simp; done) | (dsimp only; rw [hst])))))) | exact FinA.one (FinB.cell (FinC.ow rfl (by first | rfl | ((first | (simp; done) | (dsimp only; rw [hst])))))) | exact FinA.one (FinB.agg' rfl rfl) | refine ⟨⟨_, rfl, ?_⟩, ?_⟩), by repeat' (first | exact trivial | refine ⟨⟨_, rfl, by first | rfl | ((first | (simp; done) | (dsimp only; rw [hst])); done) | (simp [renO, *]; done)⟩, by first | rfl | assumption, ?_⟩), rfl⟩
      · obtain rfl : q = U.length := by omega
        rw [List.take_length, c2]
        repeat' (first | ((first | apply o_do | apply d_do | apply d_yes rfl rfl rfl); first | exact ls_makeMap (k := 0) rfl rfl | exact lsq) | first | refine a_seq ?_ | refine a_region ?_ | refine o_nil ?_ | refine a_block ?_ | refine a_ret ?_ | refine a_exit ?_ | refine a_skip ?_ | refine a_draw mixed ?_ | refine d_nil (by kernel_rfl) ?_ | first | refine o_yes rfl rfl rfl ?_ | refine o_no rfl rfl rfl (by decide) ?_ | refine o_no' rfl rfl rfl ?_ | refine a_condT rfl ?_ | refine a_condF rfl ?_ | refine d_no rfl rfl rfl (by decide) ?_ | refine d_no' rfl rfl rfl ?_ | ((first | refine o_split_t rfl rfl rfl (fun hb => ?_) (fun hb => ?_) | refine o_split_f rfl rfl rfl (fun hb => ?_) (fun hb => ?_) | refine a_cond rfl (fun hb => ?_) (fun hb => ?_) | refine d_split rfl rfl (fun hb => ?_) (fun hb => ?_)) <;> (simp only [hb]; try simp only [decide_eq_true_eq, decide_eq_false_iff_not, Bool.not_eq_true', Bool.not_eq_false', Bool.not_eq_true, Bool.not_eq_false, ne_eq, Decidable.not_not] at hb; try (exfalso; first | omega | exact hb trivial))))
        refine a_loop (X := {q : Nat // q ≤ l.length}) (fun x => ⟨[(1, .sl 4 (l.map Vl.av)), (7, .v (.int .i64 (l.length : Int))), (8, .sl 5 (U.map Rs.av)), (11, .mp 0), (51, .sl 4 (l.map Vl.av)), (52, .v (.int .i64 l.length)), (53, .v (.int .i64 x.1))], [(0, .mp ((pcU (l.take x.1)).map entV))]⟩) (fun x => l.length - x.1) ⟨0, Nat.zero_le _⟩ ?_ ?_
        · refine ⟨by repeat' (first | exact trivial | exact FinA.one (FinB.cell (FinC.same rfl)) | exact FinA.one (FinB.cell FinC.nil) | exact FinA.bound rfl | exact FinA.one (FinB.cell (FinC.own rfl rfl rfl rfl)) | exact FinA.one (FinB.cell (FinC.v (by first | rfl | (simp)))) | exact FinA.one (FinB.cell (FinC.ow rfl (by first | rfl | (simp)))) | exact FinA.one (FinB.agg' rfl rfl) | refine ⟨⟨_, rfl, ?_⟩, ?_⟩), by repeat' (first | exact trivial | refine ⟨⟨_, rfl, by first | rfl | (simp; done) | (simp [renO, *]; done)⟩, by first | rfl | assumption, ?_⟩), rfl⟩
        rintro ⟨q, hq⟩
        dsimp only
        by_cases hlt : q < l.length
        · have hel : (l.map Vl.av)[q]? = some (Vl.av l[q]) := by simp [hlt]
          have hsn : pcU (l.take (q + 1)) = pcAdd (pcU (l.take q)) l[q] := by rw [take_snoc l q hlt, pcU_snoc]
          obtain ⟨kl, hkl⟩ := hkeys _ (List.getElem_mem hlt)
          have hkall : ∀ p ∈ (pcU (l.take q)).map entV, ∃ lt, keyOf Try.prog 75 p.1 = some lt := by
            intro p hp
            obtain ⟨y, hy, rfl⟩ := List.mem_map.1 hp
            exact hkeys y (List.mem_of_mem_take (pcU_mem y hy))
          generalize l[q] = x at *
          have hp1 : (∀ p ∈ (pcU (l.take q)).map entV, p.1 ≠ keyV x) → (pcU (l.take (q + 1))).map entV = (pcU (l.take q)).map entV ++ [(keyV x, .bool true)] := by
            intro h
            rw [hsn]; unfold pcAdd
            rw [if_neg]
            · simp [entV]
            · intro hc
              obtain ⟨y, hy, hyx⟩ := List.any_eq_true.1 hc
              obtain ⟨e1, e2, e3⟩ := pcB_iff.1 hyx
              exact h (entV y) (List.mem_map.2 ⟨y, hy, rfl⟩) (by simp [entV, keyV, e1, e2, e3])
          have hp2 : ∀ j p, ((pcU (l.take q)).map entV)[j]? = some p → p.1 = keyV x → (pcU (l.take (q + 1))).map entV = ((pcU (l.take q)).map entV).set j (keyV x, .bool true) := by
            intro j p h3 h4
            rw [List.getElem?_map] at h3
            obtain ⟨y, hy, rfl⟩ := Option.map_eq_some_iff.1 h3
            have h5 := keyV_inj h4
            rw [hsn]; unfold pcAdd
            rw [if_pos (List.any_eq_true.2 ⟨y, List.mem_of_getElem? hy, h5⟩)]
            apply List.ext_getElem?
            intro i
            rw [List.getElem?_set]
            by_cases hij : j = i
            · subst hij
              have hjl := (List.getElem?_eq_some_iff.1 hy).1
              rw [if_pos rfl, List.getElem?_map, hy, if_pos (by simpa using hjl)]
              show some (entV y) = some (keyV x, Value.bool true)
              have h6 : keyV y = keyV x := h4
              unfold entV
              rw [h6]
            · rw [if_neg hij]
          repeat' (first | ((first | apply o_do | apply d_do | apply d_yes rfl rfl rfl); first | exact ls_indexAddr_sl tab_ok rfl rfl rfl rfl hel rfl | exact ls_mapUpdate (key := keyV x) (val := .bool true) place_law rfl rfl rfl rfl Try.underlying73 rfl rfl hkl hkall hp1 hp2 rfl | exact lsq) | first | refine a_seq ?_ | refine a_region ?_ | refine o_nil ?_ | refine a_block ?_ | refine a_ret ?_ | refine a_exit ?_ | refine a_skip ?_ | refine a_draw mixed ?_ | refine d_nil (by kernel_rfl) ?_ | first | refine o_yes rfl rfl rfl ?_ | refine o_no rfl rfl rfl (by decide) ?_ | refine o_no' rfl rfl rfl ?_ | refine a_condT rfl ?_ | refine a_condF rfl ?_ | refine d_no rfl rfl rfl (by decide) ?_ | refine d_no' rfl rfl rfl ?_ | ((first | refine o_split_t rfl rfl rfl (fun hb => ?_) (fun hb => ?_) | refine o_split_f rfl rfl rfl (fun hb => ?_) (fun hb => ?_) | refine a_cond rfl (fun hb => ?_) (fun hb => ?_) | refine d_split rfl rfl (fun hb => ?_) (fun hb => ?_)) <;> (simp only [hb]; try simp only [decide_eq_true_eq, decide_eq_false_iff_not, Bool.not_eq_true', Bool.not_eq_false', Bool.not_eq_true, Bool.not_eq_false, ne_eq, Decidable.not_not] at hb; try (exfalso; first | omega | exact hb trivial))))
          refine ⟨⟨q + 1, by omega⟩, by dsimp only; omega, ?_⟩
          refine ⟨by repeat' (first | exact trivial | exact FinA.one (FinB.cell (FinC.same rfl)) | exact FinA.one (FinB.cell FinC.nil) | exact FinA.bound rfl | exact FinA.one (FinB.cell (FinC.own rfl rfl rfl rfl)) | exact FinA.one (FinB.cell (FinC.v (by first | rfl | (simp)))) | exact FinA.one (FinB.cell (FinC.ow rfl (by first | rfl | (simp)))) | exact FinA.one (FinB.agg' rfl rfl) | refine ⟨⟨_, rfl, ?_⟩, ?_⟩), by repeat' (first | exact trivial | refine ⟨⟨_, rfl, by first | rfl | (simp; done) | (simp [renO, *]; done)⟩, by first | rfl | assumption, ?_⟩), rfl⟩
        · obtain rfl : q = l.length := by omega
          rw [List.take_length]
          have hml : ((pcU l).map entV).length = U.length := by rw [List.length_map, c1]
          repeat' (first | ((first | apply o_do | apply d_do | apply d_yes rfl rfl rfl); first | exact lsc (h8) | exact ls_len_mp rfl rfl Try.underlying73 rfl | exact lsq) | first | refine a_seq ?_ | refine a_region ?_ | refine o_nil ?_ | refine a_block ?_ | refine a_ret ?_ | refine a_exit ?_ | refine a_skip ?_ | refine a_draw mixed ?_ | refine d_nil (by kernel_rfl) ?_ | first | refine o_yes rfl rfl rfl ?_ | refine o_no rfl rfl rfl (by decide) ?_ | refine o_no' rfl rfl rfl ?_ | refine a_condT rfl ?_ | refine a_condF rfl ?_ | refine d_no rfl rfl rfl (by decide) ?_ | refine d_no' rfl rfl rfl ?_ | ((first | refine o_split_t rfl rfl rfl (fun hb => ?_) (fun hb => ?_) | refine o_split_f rfl rfl rfl (fun hb => ?_) (fun hb => ?_) | refine a_cond rfl (fun hb => ?_) (fun hb => ?_) | refine d_split rfl rfl (fun hb => ?_) (fun hb => ?_)) <;> (simp only [hb]; try simp only [decide_eq_true_eq, decide_eq_false_iff_not, Bool.not_eq_true', Bool.not_eq_false', Bool.not_eq_true, Bool.not_eq_false, ne_eq, Decidable.not_not] at hb; try (exfalso; first | omega | exact hb trivial))))
          all_goals refine ⟨by first | exact .inr rfl | exact .inl rfl, _, rfl, ?_, by repeat' (first | exact trivial | refine ⟨⟨_, rfl, by first | rfl | (simp [renO, *]; done)⟩, by first | rfl | assumption, ?_⟩)⟩
          all_goals (first | refine FinA.tup ?_ | refine FinA.one ?_); repeat' (first | exact FinBs.nil | exact FinCs.nil | refine FinBs.cons ?_ ?_ | refine FinCs.cons ?_ ?_ | refine FinB.cell (FinC.v ?_) | refine FinB.cell (FinC.own rfl rfl rfl ?_) | exact FinB.cell FinC.nil | refine FinB.cell (FinC.sl ?_) | exact FinB.agg' rfl rfl | exact FinB.cell (FinC.same rfl) | refine FinB.agg ?_ | refine FinC.v ?_ | refine FinC.own rfl rfl rfl ?_ | exact FinC.nil | refine FinC.sl ?_ | exact FinC.same rfl); all_goals try rfl
          all_goals simp [c1]
  · unfold allV at hall
    by_cases hok : l.all (okV k) = true
    · rw [if_pos hok] at hall
      dsimp only [AR.av] at hall
      generalize rowV k l = R at *
      have hk : k < 1 ∨ 5 < k := by
        by_cases h : 1 ≤ k
        · exact .inr (by by_cases h5 : k ≤ 5; exact absurd ⟨hok, h, h5⟩ hgo; omega)
        · exact .inl (by omega)
      rcases hcase with ⟨h1, h2⟩ | ⟨h1, rfl⟩
      all_goals
        refine PC.mk (ac_body tab_ok Try.func12 rfl (by kernel_rfl) rfl ?_); intro w0 M μ0; simp only [Try.ntmps12, List.length_cons, List.length_nil, Nat.reduceAdd, Nat.reduceSub, numb]
        repeat' (first | ((first | apply o_do | apply d_do | apply d_yes rfl rfl rfl); first | exact ls_slice_to (n := 40) tab_ok rfl rfl rfl rfl (by rw [hn]; omega) rfl | exact lsc (h8) | exact lsq) | first | refine a_seq ?_ | refine a_region ?_ | refine o_nil ?_ | refine a_block ?_ | refine a_ret ?_ | refine a_exit ?_ | refine a_skip ?_ | refine a_draw mixed ?_ | refine d_nil (by kernel_rfl) ?_ | first | refine o_yes rfl rfl rfl ?_ | refine o_no rfl rfl rfl (by decide) ?_ | refine o_no' rfl rfl rfl ?_ | refine a_condT rfl ?_ | refine a_condF rfl ?_ | refine d_no rfl rfl rfl (by decide) ?_ | refine d_no' rfl rfl rfl ?_ | ((first | refine o_split_t rfl rfl rfl (fun hb => ?_) (fun hb => ?_) | refine o_split_f rfl rfl rfl (fun hb => ?_) (fun hb => ?_) | refine a_cond rfl (fun hb => ?_) (fun hb => ?_) | refine d_split rfl rfl (fun hb => ?_) (fun hb => ?_)) <;> (simp only [hb]; try simp only [decide_eq_true_eq, decide_eq_false_iff_not, Bool.not_eq_true', Bool.not_eq_false', Bool.not_eq_true, Bool.not_eq_false, ne_eq, Decidable.not_not] at hb; try (exfalso; first | omega | exact hb trivial))))
        try simp only [h2]
        repeat' (first | ((first | apply o_do | apply d_do | apply d_yes rfl rfl rfl); first | exact lsc (hall) | exact lsc (h8) | exact lsq) | first | refine a_seq ?_ | refine a_region ?_ | refine o_nil ?_ | refine a_block ?_ | refine a_ret ?_ | refine a_exit ?_ | refine a_skip ?_ | refine a_draw mixed ?_ | refine d_nil (by kernel_rfl) ?_ | first | refine o_yes rfl rfl rfl ?_ | refine o_no rfl rfl rfl (by decide) ?_ | refine o_no' rfl rfl rfl ?_ | refine a_condT rfl ?_ | refine a_condF rfl ?_ | refine d_no rfl rfl rfl (by decide) ?_ | refine d_no' rfl rfl rfl ?_ | ((first | refine o_split_t rfl rfl rfl (fun hb => ?_) (fun hb => ?_) | refine o_split_f rfl rfl rfl (fun hb => ?_) (fun hb => ?_) | refine a_cond rfl (fun hb => ?_) (fun hb => ?_) | refine d_split rfl rfl (fun hb => ?_) (fun hb => ?_)) <;> (simp only [hb]; try simp only [decide_eq_true_eq, decide_eq_false_iff_not, Bool.not_eq_true', Bool.not_eq_false', Bool.not_eq_true, Bool.not_eq_false, ne_eq, Decidable.not_not] at hb; try (exfalso; first | omega | exact hb trivial))))
        all_goals refine ⟨by first | exact .inr rfl | exact .inl rfl, _, rfl, ?_, by repeat' (first | exact trivial | refine ⟨⟨_, rfl, by first | rfl | (simp [renO, *]; done)⟩, by first | rfl | assumption, ?_⟩)⟩
        all_goals (first | refine FinA.tup ?_ | refine FinA.one ?_); repeat' (first | exact FinBs.nil | exact FinCs.nil | refine FinBs.cons ?_ ?_ | refine FinCs.cons ?_ ?_ | refine FinB.cell (FinC.v ?_) | refine FinB.cell (FinC.own rfl rfl rfl ?_) | exact FinB.cell FinC.nil | refine FinB.cell (FinC.sl ?_) | exact FinB.agg' rfl rfl | exact FinB.cell (FinC.same rfl) | refine FinB.agg ?_ | refine FinC.v ?_ | refine FinC.own rfl rfl rfl ?_ | exact FinC.nil | refine FinC.sl ?_ | exact FinC.same rfl); all_goals try rfl
    · rw [if_neg hok] at hall
      dsimp only [AR.av, List.map_nil] at hall
      rcases hcase with ⟨h1, h2⟩ | ⟨h1, rfl⟩
      all_goals
        refine PC.mk (ac_body tab_ok Try.func12 rfl (by kernel_rfl) rfl ?_); intro w0 M μ0; simp only [Try.ntmps12, List.length_cons, List.length_nil, Nat.reduceAdd, Nat.reduceSub, numb]
        repeat' (first | ((first | apply o_do | apply d_do | apply d_yes rfl rfl rfl); first | exact ls_slice_to (n := 40) tab_ok rfl rfl rfl rfl (by rw [hn]; omega) rfl | exact lsc (h8) | exact lsq) | first | refine a_seq ?_ | refine a_region ?_ | refine o_nil ?_ | refine a_block ?_ | refine a_ret ?_ | refine a_exit ?_ | refine a_skip ?_ | refine a_draw mixed ?_ | refine d_nil (by kernel_rfl) ?_ | first | refine o_yes rfl rfl rfl ?_ | refine o_no rfl rfl rfl (by decide) ?_ | refine o_no' rfl rfl rfl ?_ | refine a_condT rfl ?_ | refine a_condF rfl ?_ | refine d_no rfl rfl rfl (by decide) ?_ | refine d_no' rfl rfl rfl ?_ | ((first | refine o_split_t rfl rfl rfl (fun hb => ?_) (fun hb => ?_) | refine o_split_f rfl rfl rfl (fun hb => ?_) (fun hb => ?_) | refine a_cond rfl (fun hb => ?_) (fun hb => ?_) | refine d_split rfl rfl (fun hb => ?_) (fun hb => ?_)) <;> (simp only [hb]; try simp only [decide_eq_true_eq, decide_eq_false_iff_not, Bool.not_eq_true', Bool.not_eq_false', Bool.not_eq_true, Bool.not_eq_false, ne_eq, Decidable.not_not] at hb; try (exfalso; first | omega | exact hb trivial))))
        try simp only [h2]
        repeat' (first | ((first | apply o_do | apply d_do | apply d_yes rfl rfl rfl); first | exact lsc (hall) | exact lsc (h8) | exact lsq) | first | refine a_seq ?_ | refine a_region ?_ | refine o_nil ?_ | refine a_block ?_ | refine a_ret ?_ | refine a_exit ?_ | refine a_skip ?_ | refine a_draw mixed ?_ | refine d_nil (by kernel_rfl) ?_ | first | refine o_yes rfl rfl rfl ?_ | refine o_no rfl rfl rfl (by decide) ?_ | refine o_no' rfl rfl rfl ?_ | refine a_condT rfl ?_ | refine a_condF rfl ?_ | refine d_no rfl rfl rfl (by decide) ?_ | refine d_no' rfl rfl rfl ?_ | ((first | refine o_split_t rfl rfl rfl (fun hb => ?_) (fun hb => ?_) | refine o_split_f rfl rfl rfl (fun hb => ?_) (fun hb => ?_) | refine a_cond rfl (fun hb => ?_) (fun hb => ?_) | refine d_split rfl rfl (fun hb => ?_) (fun hb => ?_)) <;> (simp only [hb]; try simp only [decide_eq_true_eq, decide_eq_false_iff_not, Bool.not_eq_true', Bool.not_eq_false', Bool.not_eq_true, Bool.not_eq_false, ne_eq, Decidable.not_not] at hb; try (exfalso; first | omega | exact hb trivial))))
        all_goals refine ⟨by first | exact .inr rfl | exact .inl rfl, _, rfl, ?_, by repeat' (first | exact trivial | refine ⟨⟨_, rfl, by first | rfl | (simp [renO, *]; done)⟩, by first | rfl | assumption, ?_⟩)⟩
        all_goals (first | refine FinA.tup ?_ | refine FinA.one ?_); repeat' (first | exact FinBs.nil | exact FinCs.nil | refine FinBs.cons ?_ ?_ | refine FinCs.cons ?_ ?_ | refine FinB.cell (FinC.v ?_) | refine FinB.cell (FinC.own rfl rfl rfl ?_) | exact FinB.cell FinC.nil | refine FinB.cell (FinC.sl ?_) | exact FinB.agg' rfl rfl | exact FinB.cell (FinC.same rfl) | refine FinB.agg ?_ | refine FinC.v ?_ | refine FinC.own rfl rfl rfl ?_ | exact FinC.nil | refine FinC.sl ?_ | exact FinC.same rfl); all_goals try rfl
end Go.Proofs.Ytimlkhbedhjehaa
