/-
  Scripts read by the reference: events, sources, acts, the job's lines.
-/
import Derived.Test.YtbhblhcgfenobaaGreatDoorK4
import Derived.Test.YtbhblhcgfenobaaGreatDoorK13
import Derived.Test.YtbhblhcgfenobaaGreatDoorK20
namespace Go.Proofs.YtbhblhcgfenobaaGreatDoor
open Go.RowKit
set_option linter.unusedSimpArgs false
set_option linter.unusedVariables false
set_option maxHeartbeats 4000000 in
theorem p_revent (s : ByteArray) (hs : Sm s) : ∃ e : Et, (evOK s = true → e = evP s) ∧ PC Tryz.prog 49 [.v (.string s)] (.tup [.agg e.av, .v (.bool (evOK s))]) := by
  have h1 := p_rPart s 64 hs
  obtain ⟨m1, m2⟩ := cutc_sm 64 hs
  have h2 := p_rPart (cutB s (oneB 64)) 58 m2
  obtain ⟨m3, m4⟩ := cutc_sm 58 m2
  have h3 := p_rNumber (cutA (cutB s (oneB 64)) (oneB 58)) m3
  obtain ⟨vn, hv, h4⟩ := p_rSigned (cutB (cutB s (oneB 64)) (oneB 58)) m4
  have h5 := p_rLetters (cutA s (oneB 64)) (by have := m1.n; omega)
  have hn := (numS_iff (cutA (cutB s (oneB 64)) (oneB 58))).2
  have hw := num_whole (cutA (cutB s (oneB 64)) (oneB 58))
  unfold evOK evP evT evV evK
  generalize hc1 : cutC s (oneB 64) = c1 at *
  generalize hc2 : cutC (cutB s (oneB 64)) (oneB 58) = c2 at *
  generalize cutA (cutB s (oneB 64)) (oneB 58) = t at *
  generalize cutB (cutB s (oneB 64)) (oneB 58) = v at *
  generalize cutA s (oneB 64) = k at *
  generalize cutB s (oneB 64) = r at *
  have e64 : (((64 : UInt8).toNat : Nat) : Int) = 64 := rfl
  have e58 : (((58 : UInt8).toNat : Nat) : Int) = 58 := rfl
  rw [e64] at h1
  rw [e58] at h2
  have hres : (c1 && (c2 && (wholeB t && (wholeB v && (letB k && evR k (numV t)))))) = (c1 && (c2 && (numB t && (wholeB v && (letB k && evR k (numS t).1))))) := by
    cases hb3 : numB t
    · cases hb4 : wholeB t
      · rfl
      · rw [hb3, hb4, Bool.true_and] at hw
        have h0 := of_decide_eq_false hw.symm
        have : evR k (numV t) = false := by
          unfold evR
          rw [decide_eq_false (p := 0 ≤ numV t) h0]; simp
        rw [this]; simp
    · rw [hb3] at hw
      have hb4 : wholeB t = true := by
        cases h : wholeB t
        · rw [h] at hw; cases hw
        · rfl
      rw [hb4, hn hb3]
  have hpar : (c1 && (c2 && (numB t && (wholeB v && (letB k && evR k (numS t).1))))) = true → (⟨k, (numS t).1, vn⟩ : Et) = ⟨k, numV t, numV v⟩ := by
    intro h
    simp only [Bool.and_eq_true] at h
    rw [hn h.2.2.1, hv h.2.2.2.1]
  rw [hres]
  refine ⟨⟨k, (numS t).1, vn⟩, hpar, ?_⟩
  unfold Et.av
  dsimp only
  clear hpar hres hn hw hv
  generalize (numS t).1 = tn at *
  have h6 := p_rEvent k tn vn
  generalize numB t = w1 at *
  generalize wholeB v = w2 at *
  generalize letB k = lb at *
  generalize evR k tn = er at *
  cases c1
  · refine PC.mk (ac_body tab_ok Tryz.func49 rfl (by kernel_rfl) rfl ?_); intro w0 M μ0; simp only [Tryz.ntmps49, List.length_cons, List.length_nil, Nat.reduceAdd, Nat.reduceSub, numb]
    repeat' (first | ((first | apply o_do | apply d_do | apply d_yes rfl rfl rfl); first | exact lsc (h1) | exact lsc (h2) | exact lsc (h3) | exact lsc (h4) | exact lsq) | refine a_seq ?_ | refine a_region ?_ | refine o_nil ?_ | refine a_block ?_ | refine a_ret ?_ | refine a_exit ?_ | refine a_skip ?_ | refine a_draw mixed ?_ | refine d_nil (by kernel_rfl) ?_ | refine o_yes rfl rfl rfl ?_ | refine o_no rfl rfl rfl (by decide) ?_ | refine o_no' rfl rfl rfl ?_ | refine a_condT rfl ?_ | refine a_condF rfl ?_ | refine d_no rfl rfl rfl (by decide) ?_ | refine d_no' rfl rfl rfl ?_ | (refine wq2 (fun hb => ?_) (fun hb => ?_) <;> (simp only [hb]; try simp only [hbs, ne_eq] at hb; try (exfalso; first | omega | exact hb trivial))) | fail)
    all_goals refine rq rfl ?_
    all_goals exact fnq
  cases c2
  · refine PC.mk (ac_body tab_ok Tryz.func49 rfl (by kernel_rfl) rfl ?_); intro w0 M μ0; simp only [Tryz.ntmps49, List.length_cons, List.length_nil, Nat.reduceAdd, Nat.reduceSub, numb]
    repeat' (first | ((first | apply o_do | apply d_do | apply d_yes rfl rfl rfl); first | exact lsc (h1) | exact lsc (h2) | exact lsc (h3) | exact lsc (h4) | exact lsq) | refine a_seq ?_ | refine a_region ?_ | refine o_nil ?_ | refine a_block ?_ | refine a_ret ?_ | refine a_exit ?_ | refine a_skip ?_ | refine a_draw mixed ?_ | refine d_nil (by kernel_rfl) ?_ | refine o_yes rfl rfl rfl ?_ | refine o_no rfl rfl rfl (by decide) ?_ | refine o_no' rfl rfl rfl ?_ | refine a_condT rfl ?_ | refine a_condF rfl ?_ | refine d_no rfl rfl rfl (by decide) ?_ | refine d_no' rfl rfl rfl ?_ | (refine wq2 (fun hb => ?_) (fun hb => ?_) <;> (simp only [hb]; try simp only [hbs, ne_eq] at hb; try (exfalso; first | omega | exact hb trivial))) | fail)
    all_goals refine rq rfl ?_
    all_goals exact fnq
  cases w1
  · refine PC.mk (ac_body tab_ok Tryz.func49 rfl (by kernel_rfl) rfl ?_); intro w0 M μ0; simp only [Tryz.ntmps49, List.length_cons, List.length_nil, Nat.reduceAdd, Nat.reduceSub, numb]
    repeat' (first | ((first | apply o_do | apply d_do | apply d_yes rfl rfl rfl); first | exact lsc (h1) | exact lsc (h2) | exact lsc (h3) | exact lsc (h4) | exact lsq) | refine a_seq ?_ | refine a_region ?_ | refine o_nil ?_ | refine a_block ?_ | refine a_ret ?_ | refine a_exit ?_ | refine a_skip ?_ | refine a_draw mixed ?_ | refine d_nil (by kernel_rfl) ?_ | refine o_yes rfl rfl rfl ?_ | refine o_no rfl rfl rfl (by decide) ?_ | refine o_no' rfl rfl rfl ?_ | refine a_condT rfl ?_ | refine a_condF rfl ?_ | refine d_no rfl rfl rfl (by decide) ?_ | refine d_no' rfl rfl rfl ?_ | (refine wq2 (fun hb => ?_) (fun hb => ?_) <;> (simp only [hb]; try simp only [hbs, ne_eq] at hb; try (exfalso; first | omega | exact hb trivial))) | fail)
    all_goals refine rq rfl ?_
    all_goals exact fnq
  cases w2
  · refine PC.mk (ac_body tab_ok Tryz.func49 rfl (by kernel_rfl) rfl ?_); intro w0 M μ0; simp only [Tryz.ntmps49, List.length_cons, List.length_nil, Nat.reduceAdd, Nat.reduceSub, numb]
    repeat' (first | ((first | apply o_do | apply d_do | apply d_yes rfl rfl rfl); first | exact lsc (h1) | exact lsc (h2) | exact lsc (h3) | exact lsc (h4) | exact lsq) | refine a_seq ?_ | refine a_region ?_ | refine o_nil ?_ | refine a_block ?_ | refine a_ret ?_ | refine a_exit ?_ | refine a_skip ?_ | refine a_draw mixed ?_ | refine d_nil (by kernel_rfl) ?_ | refine o_yes rfl rfl rfl ?_ | refine o_no rfl rfl rfl (by decide) ?_ | refine o_no' rfl rfl rfl ?_ | refine a_condT rfl ?_ | refine a_condF rfl ?_ | refine d_no rfl rfl rfl (by decide) ?_ | refine d_no' rfl rfl rfl ?_ | (refine wq2 (fun hb => ?_) (fun hb => ?_) <;> (simp only [hb]; try simp only [hbs, ne_eq] at hb; try (exfalso; first | omega | exact hb trivial))) | fail)
    all_goals refine rq rfl ?_
    all_goals exact fnq
  cases lb
  all_goals
    refine PC.mk (ac_body tab_ok Tryz.func49 rfl (by kernel_rfl) rfl ?_); intro w0 M μ0; simp only [Tryz.ntmps49, List.length_cons, List.length_nil, Nat.reduceAdd, Nat.reduceSub, numb]
    repeat' (first | ((first | apply o_do | apply d_do | apply d_yes rfl rfl rfl); first | exact lsc (h1) | exact lsc (h2) | exact lsc (h3) | exact lsc (h4) | exact lsc (h5) | exact lsc (h6) | exact lsq) | refine a_seq ?_ | refine a_region ?_ | refine o_nil ?_ | refine a_block ?_ | refine a_ret ?_ | refine a_exit ?_ | refine a_skip ?_ | refine a_draw mixed ?_ | refine d_nil (by kernel_rfl) ?_ | refine o_yes rfl rfl rfl ?_ | refine o_no rfl rfl rfl (by decide) ?_ | refine o_no' rfl rfl rfl ?_ | refine a_condT rfl ?_ | refine a_condF rfl ?_ | refine d_no rfl rfl rfl (by decide) ?_ | refine d_no' rfl rfl rfl ?_ | (refine wq2 (fun hb => ?_) (fun hb => ?_) <;> (simp only [hb]; try simp only [hbs, ne_eq] at hb; try (exfalso; first | omega | exact hb trivial))) | fail)
    all_goals refine rq rfl ?_
    all_goals exact fnq
set_option maxHeartbeats 4000000 in
/-- a source's words, read: all of them, or none -/
theorem p_rsrc (ws : List ByteArray) (hsm : ∀ x ∈ ws, Sm x) (hl : ws.length ≤ 900000000) :
    ∃ es, (∀ es', srcO ws = some es' → es = es') ∧ PC Tryz.prog 23 [.sl 1 (ws.map stAv)] (.tup [.sl 3 (es.map Et.av), .v (.bool (srcO ws).isSome)]) := by
  have hm : (ws.map stAv).length = ws.length := by simp
  cases hall : ws.all evOK
  · have hno : srcO ws = none := by unfold srcO; rw [if_neg (by rw [hall]; simp)]
    rw [hno]
    refine ⟨[], fun _ h => (by cases h), ?_⟩
    simp only [List.map_nil, Option.isSome_none]
    refine PC.mk (ac_body tab_ok Tryz.func23 rfl (by kernel_rfl) rfl ?_); intro w0 M μ0; simp only [Tryz.ntmps23, List.length_cons, List.length_nil, Nat.reduceAdd, Nat.reduceSub, numb]
    repeat' (first | ((first | apply o_do | apply d_do | apply d_yes rfl rfl rfl); first | exact ls_build0 (k := 0) tab_ok rfl rfl rfl rfl | exact lsq) | refine a_seq ?_ | refine a_region ?_ | refine o_nil ?_ | refine a_block ?_ | refine a_ret ?_ | refine a_exit ?_ | refine a_skip ?_ | refine a_draw mixed ?_ | refine d_nil (by kernel_rfl) ?_ | refine o_yes rfl rfl rfl ?_ | refine o_no rfl rfl rfl (by decide) ?_ | refine o_no' rfl rfl rfl ?_ | refine a_condT rfl ?_ | refine a_condF rfl ?_ | refine d_no rfl rfl rfl (by decide) ?_ | refine d_no' rfl rfl rfl ?_ | (refine wq2 (fun hb => ?_) (fun hb => ?_) <;> (simp only [hb]; try simp only [hbs, ne_eq] at hb; try (exfalso; first | omega | exact hb trivial))) | fail)
    refine a_loop (X := {x : Nat × List (List AV) // x.1 ≤ ws.length ∧ (ws.take x.1).all evOK = true ∧ x.2 = ((ws.take x.1).map evP).map Et.av}) (fun x => ⟨[(4, .own 0 x.1.2.length), (10, .sl 1 (ws.map stAv)), (11, .v (.int .i64 ws.length)), (12, .v (.int .i64 x.1.1))], [(0, .row 82 3 x.1.2)]⟩) (fun x => ws.length - x.1.1) ⟨(0, []), Nat.zero_le _, rfl, rfl⟩ ?_ ?_
    · exact wkS
    rintro ⟨⟨q, L⟩, hq, hal, hL⟩
    dsimp only at hq hal hL ⊢
    have hLl : L.length = q := by rw [hL]; simp; omega
    by_cases hlt : q < ws.length
    · have hel : (ws.map stAv)[q]? = some [.v (.string ws[q])] := by simp [hlt, stAv]
      have hsn := take_snoc ws q hlt
      obtain ⟨e, he, hE⟩ := p_revent ws[q] (hsm _ (List.getElem_mem hlt))
      have hL2 : L ++ [(evP ws[q]).av] = ((ws.take (q + 1)).map evP).map Et.av := by rw [hL, hsn]; simp only [List.map_append, List.map_cons, List.map_nil]
      have hok : evOK ws[q] = true → (ws.take (q + 1)).all evOK = true := fun h => by rw [hsn, List.all_append, hal]; simp [h]
      generalize ws[q] = x at *
      cases hz : evOK x
      · rw [hz] at hE
        obtain ⟨ek, et, ev⟩ := e
        unfold Et.av at hE
        dsimp only at hE
        repeat' (first | ((first | apply o_do | apply d_do | apply d_yes rfl rfl rfl); first | exact ls_indexAddr_sl tab_ok rfl rfl rfl rfl hel rfl | exact lsc (hE) | exact lsq) | refine a_seq ?_ | refine a_region ?_ | refine o_nil ?_ | refine a_block ?_ | refine a_ret ?_ | refine a_exit ?_ | refine a_skip ?_ | refine a_draw mixed ?_ | refine d_nil (by kernel_rfl) ?_ | refine o_yes rfl rfl rfl ?_ | refine o_no rfl rfl rfl (by decide) ?_ | refine o_no' rfl rfl rfl ?_ | refine a_condT rfl ?_ | refine a_condF rfl ?_ | refine d_no rfl rfl rfl (by decide) ?_ | refine d_no' rfl rfl rfl ?_ | (refine wq2 (fun hb => ?_) (fun hb => ?_) <;> (simp only [hb]; try simp only [hbs, ne_eq] at hb; try (exfalso; first | omega | exact hb trivial))) | fail)
        all_goals refine rq rfl ?_
        all_goals exact fnq
      · rw [hz] at hE
        rw [he hz] at hE
        unfold Et.av at hE hL2
        generalize evP x = e at *
        obtain ⟨ek, et, ev⟩ := e
        dsimp only at hE hL2
        repeat' (first | ((first | apply o_do | apply d_do | apply d_yes rfl rfl rfl); first | exact ls_indexAddr_sl tab_ok rfl rfl rfl rfl hel rfl | exact lsc (hE) | focus (apply ls_append tab_ok rfl rfl ?hn rfl ?hsrc rfl ?hlen rfl rfl; (case hn => rfl); (case hsrc => first | exact SrcIs.sl | exact SrcIs.nil | exact SrcIs.own rfl rfl | fail); (case hlen => (try simp only [List.length_cons, List.length_nil]); omega); first | done | fail) | exact lsq) | refine a_seq ?_ | refine a_region ?_ | refine o_nil ?_ | refine a_block ?_ | refine a_ret ?_ | refine a_exit ?_ | refine a_skip ?_ | refine a_draw mixed ?_ | refine d_nil (by kernel_rfl) ?_ | refine o_yes rfl rfl rfl ?_ | refine o_no rfl rfl rfl (by decide) ?_ | refine o_no' rfl rfl rfl ?_ | refine a_condT rfl ?_ | refine a_condF rfl ?_ | refine d_no rfl rfl rfl (by decide) ?_ | refine d_no' rfl rfl rfl ?_ | (refine wq2 (fun hb => ?_) (fun hb => ?_) <;> (simp only [hb]; try simp only [hbs, ne_eq] at hb; try (exfalso; first | omega | exact hb trivial))) | fail)
        refine ⟨⟨(q + 1, _), by dsimp only; omega, hok hz, hL2⟩, by dsimp only; omega, ?_⟩
        exact wkS
    · obtain rfl : q = ws.length := by omega
      rw [List.take_length] at hal
      rw [hall] at hal; cases hal
  · have hyes : (srcO ws).isSome = decide (ws.length ≤ 200) ∧ ∀ es', srcO ws = some es' → ws.map evP = es' := by
      unfold srcO
      by_cases h : ws.length ≤ 200
      · rw [if_pos ⟨h, hall⟩]
        exact ⟨by simp [h], fun es' h => by injection h⟩
      · rw [if_neg (fun h2 => h h2.1)]
        exact ⟨by simp [h], fun es' h => by cases h⟩
    rw [hyes.1]
    refine ⟨ws.map evP, hyes.2, ?_⟩
    have hall' : ∀ x ∈ ws, evOK x = true := List.all_eq_true.1 hall
    clear hyes
    refine PC.mk (ac_body tab_ok Tryz.func23 rfl (by kernel_rfl) rfl ?_); intro w0 M μ0; simp only [Tryz.ntmps23, List.length_cons, List.length_nil, Nat.reduceAdd, Nat.reduceSub, numb]
    repeat' (first | ((first | apply o_do | apply d_do | apply d_yes rfl rfl rfl); first | exact ls_build0 (k := 0) tab_ok rfl rfl rfl rfl | exact lsq) | refine a_seq ?_ | refine a_region ?_ | refine o_nil ?_ | refine a_block ?_ | refine a_ret ?_ | refine a_exit ?_ | refine a_skip ?_ | refine a_draw mixed ?_ | refine d_nil (by kernel_rfl) ?_ | refine o_yes rfl rfl rfl ?_ | refine o_no rfl rfl rfl (by decide) ?_ | refine o_no' rfl rfl rfl ?_ | refine a_condT rfl ?_ | refine a_condF rfl ?_ | refine d_no rfl rfl rfl (by decide) ?_ | refine d_no' rfl rfl rfl ?_ | (refine wq2 (fun hb => ?_) (fun hb => ?_) <;> (simp only [hb]; try simp only [hbs, ne_eq] at hb; try (exfalso; first | omega | exact hb trivial))) | fail)
    refine a_loop (X := {x : Nat × List (List AV) // x.1 ≤ ws.length ∧ x.2 = ((ws.take x.1).map evP).map Et.av}) (fun x => ⟨[(4, .own 0 x.1.2.length), (10, .sl 1 (ws.map stAv)), (11, .v (.int .i64 ws.length)), (12, .v (.int .i64 x.1.1))], [(0, .row 82 3 x.1.2)]⟩) (fun x => ws.length - x.1.1) ⟨(0, []), Nat.zero_le _, rfl⟩ ?_ ?_
    · exact wkS
    rintro ⟨⟨q, L⟩, hq, hL⟩
    dsimp only at hq hL ⊢
    have hLl : L.length = q := by rw [hL]; simp; omega
    by_cases hlt : q < ws.length
    · have hel : (ws.map stAv)[q]? = some [.v (.string ws[q])] := by simp [hlt, stAv]
      have hsn := take_snoc ws q hlt
      obtain ⟨e, he, hE⟩ := p_revent ws[q] (hsm _ (List.getElem_mem hlt))
      have hz := hall' _ (List.getElem_mem hlt)
      have hL2 : L ++ [(evP ws[q]).av] = ((ws.take (q + 1)).map evP).map Et.av := by rw [hL, hsn]; simp only [List.map_append, List.map_cons, List.map_nil]
      generalize ws[q] = x at *
      rw [hz] at hE
      rw [he hz] at hE
      unfold Et.av at hE hL2
      generalize evP x = e at *
      obtain ⟨ek, et, ev⟩ := e
      dsimp only at hE hL2
      repeat' (first | ((first | apply o_do | apply d_do | apply d_yes rfl rfl rfl); first | exact ls_indexAddr_sl tab_ok rfl rfl rfl rfl hel rfl | exact lsc (hE) | focus (apply ls_append tab_ok rfl rfl ?hn rfl ?hsrc rfl ?hlen rfl rfl; (case hn => rfl); (case hsrc => first | exact SrcIs.sl | exact SrcIs.nil | exact SrcIs.own rfl rfl | fail); (case hlen => (try simp only [List.length_cons, List.length_nil]); omega); first | done | fail) | exact lsq) | refine a_seq ?_ | refine a_region ?_ | refine o_nil ?_ | refine a_block ?_ | refine a_ret ?_ | refine a_exit ?_ | refine a_skip ?_ | refine a_draw mixed ?_ | refine d_nil (by kernel_rfl) ?_ | refine o_yes rfl rfl rfl ?_ | refine o_no rfl rfl rfl (by decide) ?_ | refine o_no' rfl rfl rfl ?_ | refine a_condT rfl ?_ | refine a_condF rfl ?_ | refine d_no rfl rfl rfl (by decide) ?_ | refine d_no' rfl rfl rfl ?_ | (refine wq2 (fun hb => ?_) (fun hb => ?_) <;> (simp only [hb]; try simp only [hbs, ne_eq] at hb; try (exfalso; first | omega | exact hb trivial))) | fail)
      refine ⟨⟨(q + 1, _), by dsimp only; omega, hL2⟩, by dsimp only; omega, ?_⟩
      exact wkS
    · obtain rfl : q = ws.length := by omega
      rw [List.take_length] at hL
      subst hL
      repeat' (first | ((first | apply o_do | apply d_do | apply d_yes rfl rfl rfl); exact lsq) | refine a_seq ?_ | refine a_region ?_ | refine o_nil ?_ | refine a_block ?_ | refine a_ret ?_ | refine a_exit ?_ | refine a_skip ?_ | refine a_draw mixed ?_ | refine d_nil (by kernel_rfl) ?_ | refine o_yes rfl rfl rfl ?_ | refine o_no rfl rfl rfl (by decide) ?_ | refine o_no' rfl rfl rfl ?_ | refine a_condT rfl ?_ | refine a_condF rfl ?_ | refine d_no rfl rfl rfl (by decide) ?_ | refine d_no' rfl rfl rfl ?_ | (refine wq2 (fun hb => ?_) (fun hb => ?_) <;> (simp only [hb]; try simp only [hbs, ne_eq] at hb; try (exfalso; first | omega | exact hb trivial))) | fail)
      all_goals refine rq rfl ?_
      all_goals (first | refine FinA.tup ?_ | refine FinA.one ?_); repeat' (first | exact FinBs.nil | exact FinCs.nil | refine FinBs.cons ?_ ?_ | refine FinCs.cons ?_ ?_ | refine FinB.cell (FinC.v ?_) | refine FinB.cell (FinC.own rfl rfl rfl ?_) | exact FinB.cell FinC.nil | refine FinB.cell (FinC.sl ?_) | exact FinB.agg' rfl rfl | exact FinB.cell (FinC.same rfl) | refine FinB.agg ?_ | refine FinC.v ?_ | refine FinC.own rfl rfl rfl ?_ | exact FinC.nil | refine FinC.sl ?_ | exact FinC.same rfl); all_goals try rfl
      all_goals (simp; try omega)
set_option maxHeartbeats 4000000 in
theorem p_ractN (w : ByteArray) (r : List ByteArray) (h : wdIx w = none) : PC Tryz.prog 24 [.sl 1 ((w :: r).map stAv)] (.tup [.agg (Ac.mk 0 0 0).av, .v (.bool false)]) := by
  have hno := wdIx_none h
  have hel0 : ((w :: r).map stAv)[0]? = some [.v (.string w)] := by simp [stAv]
  generalize (w :: r).map stAv = A at *
  unfold Ac.av
  dsimp only
  refine PC.mk (ac_body tab_ok Tryz.func24 rfl (by kernel_rfl) rfl ?_); intro w0 M μ0; simp only [Tryz.ntmps24, List.length_cons, List.length_nil, Nat.reduceAdd, Nat.reduceSub, numb]
  repeat' (first | ((first | apply o_do | apply d_do | apply d_yes rfl rfl rfl); exact lsq) | refine a_seq ?_ | refine a_region ?_ | refine o_nil ?_ | refine a_block ?_ | refine a_ret ?_ | refine a_exit ?_ | refine a_skip ?_ | refine a_draw mixed ?_ | refine d_nil (by kernel_rfl) ?_ | refine o_yes rfl rfl rfl ?_ | refine o_no rfl rfl rfl (by decide) ?_ | refine o_no' rfl rfl rfl ?_ | refine a_condT rfl ?_ | refine a_condF rfl ?_ | refine d_no rfl rfl rfl (by decide) ?_ | refine d_no' rfl rfl rfl ?_ | (refine wq2 (fun hb => ?_) (fun hb => ?_) <;> (simp only [hb]; try simp only [hbs, ne_eq] at hb; try (exfalso; first | omega | exact hb trivial))) | fail)
  refine a_loop (X := {q : Nat // q ≤ 10}) (fun x => ⟨[(0, .sl 1 A), (2, .ref 0 0), (3, .v (.bool false)), (4, .v (.int .i64 x.1))], [(0, .box 52 [.v (.int .i64 0), .v (.int .i64 0), .v (.int .i64 0)])]⟩) (fun x => 10 - x.1) ⟨0, Nat.zero_le _⟩ ?_ ?_
  · exact wkS
  rintro ⟨q, hq⟩
  dsimp only
  by_cases hlt : q < 10
  · have hW := p_rWordY q hlt
    have hn := hno q hlt
    generalize wdB q = W at *
    repeat' (first | ((first | apply o_do | apply d_do | apply d_yes rfl rfl rfl); first | exact lsc (hW) | exact ls_indexAddr_sl (q := 0) tab_ok rfl rfl rfl rfl hel0 rfl | exact lsq) | refine a_seq ?_ | refine a_region ?_ | refine o_nil ?_ | refine a_block ?_ | refine a_ret ?_ | refine a_exit ?_ | refine a_skip ?_ | refine a_draw mixed ?_ | refine d_nil (by kernel_rfl) ?_ | refine o_yes rfl rfl rfl ?_ | refine o_no rfl rfl rfl (by decide) ?_ | refine o_no' rfl rfl rfl ?_ | refine a_condT rfl ?_ | refine a_condF rfl ?_ | refine d_no rfl rfl rfl (by decide) ?_ | refine d_no' rfl rfl rfl ?_ | (refine wq2 (fun hb => ?_) (fun hb => ?_) <;> (simp only [hb]; try simp only [hbs, ne_eq] at hb; try (exfalso; first | omega | exact hb trivial))) | fail)
    all_goals try (exfalso; simp_all; done)
    all_goals refine ⟨⟨q + 1, by omega⟩, by dsimp only; omega, ?_⟩
    all_goals exact wkS
  · obtain rfl : q = 10 := by omega
    repeat' (first | ((first | apply o_do | apply d_do | apply d_yes rfl rfl rfl); exact lsq) | refine a_seq ?_ | refine a_region ?_ | refine o_nil ?_ | refine a_block ?_ | refine a_ret ?_ | refine a_exit ?_ | refine a_skip ?_ | refine a_draw mixed ?_ | refine d_nil (by kernel_rfl) ?_ | refine o_yes rfl rfl rfl ?_ | refine o_no rfl rfl rfl (by decide) ?_ | refine o_no' rfl rfl rfl ?_ | refine a_condT rfl ?_ | refine a_condF rfl ?_ | refine d_no rfl rfl rfl (by decide) ?_ | refine d_no' rfl rfl rfl ?_ | (refine wq2 (fun hb => ?_) (fun hb => ?_) <;> (simp only [hb]; try simp only [hbs, ne_eq] at hb; try (exfalso; first | omega | exact hb trivial))) | fail)
    all_goals refine rq rfl ?_
    all_goals exact fnq
end Go.Proofs.YtbhblhcgfenobaaGreatDoor
