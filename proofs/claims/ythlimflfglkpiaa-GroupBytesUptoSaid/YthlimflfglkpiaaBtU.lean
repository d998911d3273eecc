/-
  A group's bytes: the reference's Bytes, the law GroupBytes walked.
-/
import Derived.Test.YthlimflfglkpiaaBtT
import Derived.Test.YthlimflfglkpiaaBtN
namespace Go.Proofs.Ythlimflfglkpiaa
open Go.RowKit
set_option linter.unusedSimpArgs false
set_option linter.unusedVariables false
theorem v_rFolded (n : Int) (h1 : -9223372036854775808 ≤ n) (h2 : n ≤ 9223372036854775807) : PC Try.prog 45 [.v (.int .i64 n)] (.v (.int .u64 (foldZ n))) := by
  by_cases h0 : 0 ≤ n
  · have hz : foldZ n = (2 * n).toNat := by unfold foldZ; rw [if_pos h0]
    have g1 : IntKind.u64.wrap n = n := by rw [IntKind.wrap_u64]; omega
    have g2 : IntKind.u64.wrap (n * 2) = ((foldZ n : Nat) : Int) := by rw [IntKind.wrap_u64]; omega
    refine PC.mk (ac_body tab_ok Try.func45 rfl (by kernel_rfl) rfl ?_); intro w0 M μ0; simp only [Try.ntmps45, List.length_cons, List.length_nil, Nat.reduceAdd, Nat.reduceSub, numb]
    repeat' (first | ((first | apply o_do | apply d_do | apply d_yes rfl rfl rfl); first | exact ls_convR tab_ok g1 rfl Try.underlying2 Try.underlying67 rfl | exact ls_mulR g2 rfl rfl rfl | exact lsq) | refine a_seq ?_ | refine a_region ?_ | refine o_nil ?_ | refine a_block ?_ | refine a_ret ?_ | refine a_exit ?_ | refine a_skip ?_ | refine a_draw mixed ?_ | refine d_nil (by kernel_rfl) ?_ | refine o_yes rfl rfl rfl ?_ | refine o_no rfl rfl rfl (by decide) ?_ | refine o_no' rfl rfl rfl ?_ | refine a_condT rfl ?_ | refine a_condF rfl ?_ | refine d_no rfl rfl rfl (by decide) ?_ | refine d_no' rfl rfl rfl ?_ | (refine wq2 (fun hb => ?_) (fun hb => ?_) <;> (simp only [hb]; try simp only [hbs, ne_eq] at hb; try (exfalso; first | omega | exact hb trivial))) | fail)
    all_goals try (exfalso; omega)
    all_goals refine ⟨by first | exact .inr rfl | exact .inl rfl, _, rfl, ?_, by repeat' (first | exact trivial | refine ⟨⟨_, rfl, by first | rfl | (simp [renO, *]; done)⟩, by first | rfl | assumption, ?_⟩)⟩
    all_goals (first | refine FinA.tup ?_ | refine FinA.one ?_); repeat' (first | exact FinBs.nil | exact FinCs.nil | refine FinBs.cons ?_ ?_ | refine FinCs.cons ?_ ?_ | refine FinB.cell (FinC.v ?_) | refine FinB.cell (FinC.own rfl rfl rfl ?_) | exact FinB.cell FinC.nil | refine FinB.cell (FinC.sl ?_) | exact FinB.agg' rfl rfl | exact FinB.cell (FinC.same rfl) | refine FinB.agg ?_ | refine FinC.v ?_ | refine FinC.own rfl rfl rfl ?_ | exact FinC.nil | refine FinC.sl ?_ | exact FinC.same rfl); all_goals try rfl
  · have hz : foldZ n = (-2 * n - 1).toNat := by unfold foldZ; rw [if_neg h0]
    have g0 : IntKind.i64.wrap (n + 1) = n + 1 := by rw [IntKind.wrap_i64]; omega
    have g1 : IntKind.i64.wrap (0 - (n + 1)) = -(n + 1) := by rw [IntKind.wrap_i64]; omega
    have g2 : IntKind.u64.wrap (-(n + 1)) = -(n + 1) := by rw [IntKind.wrap_u64]; omega
    have g3 : IntKind.u64.wrap (-(n + 1) * 2) = -(n + 1) * 2 := by rw [IntKind.wrap_u64]; omega
    have g4 : IntKind.u64.wrap (-(n + 1) * 2 + 1) = ((foldZ n : Nat) : Int) := by rw [IntKind.wrap_u64]; omega
    refine PC.mk (ac_body tab_ok Try.func45 rfl (by kernel_rfl) rfl ?_); intro w0 M μ0; simp only [Try.ntmps45, List.length_cons, List.length_nil, Nat.reduceAdd, Nat.reduceSub, numb]
    repeat' (first | ((first | apply o_do | apply d_do | apply d_yes rfl rfl rfl); first | exact ls_addR g0 rfl rfl rfl | exact ls_negR g1 rfl rfl | exact ls_convR tab_ok g2 rfl Try.underlying2 Try.underlying67 rfl | exact ls_mulR g3 rfl rfl rfl | exact ls_addR g4 rfl rfl rfl | exact lsq) | refine a_seq ?_ | refine a_region ?_ | refine o_nil ?_ | refine a_block ?_ | refine a_ret ?_ | refine a_exit ?_ | refine a_skip ?_ | refine a_draw mixed ?_ | refine d_nil (by kernel_rfl) ?_ | refine o_yes rfl rfl rfl ?_ | refine o_no rfl rfl rfl (by decide) ?_ | refine o_no' rfl rfl rfl ?_ | refine a_condT rfl ?_ | refine a_condF rfl ?_ | refine d_no rfl rfl rfl (by decide) ?_ | refine d_no' rfl rfl rfl ?_ | (refine wq2 (fun hb => ?_) (fun hb => ?_) <;> (simp only [hb]; try simp only [hbs, ne_eq] at hb; try (exfalso; first | omega | exact hb trivial))) | fail)
    all_goals try (exfalso; omega)
    all_goals refine ⟨by first | exact .inr rfl | exact .inl rfl, _, rfl, ?_, by repeat' (first | exact trivial | refine ⟨⟨_, rfl, by first | rfl | (simp [renO, *]; done)⟩, by first | rfl | assumption, ?_⟩)⟩
    all_goals (first | refine FinA.tup ?_ | refine FinA.one ?_); repeat' (first | exact FinBs.nil | exact FinCs.nil | refine FinBs.cons ?_ ?_ | refine FinCs.cons ?_ ?_ | refine FinB.cell (FinC.v ?_) | refine FinB.cell (FinC.own rfl rfl rfl ?_) | exact FinB.cell FinC.nil | refine FinB.cell (FinC.sl ?_) | exact FinB.agg' rfl rfl | exact FinB.cell (FinC.same rfl) | refine FinB.agg ?_ | refine FinC.v ?_ | refine FinC.own rfl rfl rfl ?_ | exact FinC.nil | refine FinC.sl ?_ | exact FinC.same rfl); all_goals try rfl
theorem v_rnum (n : Int) (h1 : 0 ≤ n) (h2 : n ≤ 9223372036854775807) : PC Try.prog 29 [.v (.int .i64 n)] (.v (.string (dgB n.toNat))) := by
  have hD := v_rDigits n.toNat (by omega)
  have g1 : IntKind.u64.wrap n = ((n.toNat : Nat) : Int) := by rw [IntKind.wrap_u64]; omega
  generalize dgB n.toNat = x at *
  refine PC.mk (ac_body tab_ok Try.func29 rfl (by kernel_rfl) rfl ?_); intro w0 M μ0; simp only [Try.ntmps29, List.length_cons, List.length_nil, Nat.reduceAdd, Nat.reduceSub, numb]
  repeat' (first | ((first | apply o_do | apply d_do | apply d_yes rfl rfl rfl); first | exact ls_convR tab_ok g1 rfl Try.underlying2 Try.underlying67 rfl | exact lsc (hD) | exact lsq) | refine a_seq ?_ | refine a_region ?_ | refine o_nil ?_ | refine a_block ?_ | refine a_ret ?_ | refine a_exit ?_ | refine a_skip ?_ | refine a_draw mixed ?_ | refine d_nil (by kernel_rfl) ?_ | refine o_yes rfl rfl rfl ?_ | refine o_no rfl rfl rfl (by decide) ?_ | refine o_no' rfl rfl rfl ?_ | refine a_condT rfl ?_ | refine a_condF rfl ?_ | refine d_no rfl rfl rfl (by decide) ?_ | refine d_no' rfl rfl rfl ?_ | (refine wq2 (fun hb => ?_) (fun hb => ?_) <;> (simp only [hb]; try simp only [hbs, ne_eq] at hb; try (exfalso; first | omega | exact hb trivial))) | fail)
  all_goals refine ⟨by first | exact .inr rfl | exact .inl rfl, _, rfl, ?_, by repeat' (first | exact trivial | refine ⟨⟨_, rfl, by first | rfl | (simp [renO, *]; done)⟩, by first | rfl | assumption, ?_⟩)⟩
  all_goals (first | refine FinA.tup ?_ | refine FinA.one ?_); repeat' (first | exact FinBs.nil | exact FinCs.nil | refine FinBs.cons ?_ ?_ | refine FinCs.cons ?_ ?_ | refine FinB.cell (FinC.v ?_) | refine FinB.cell (FinC.own rfl rfl rfl ?_) | exact FinB.cell FinC.nil | refine FinB.cell (FinC.sl ?_) | exact FinB.agg' rfl rfl | exact FinB.cell (FinC.same rfl) | refine FinB.agg ?_ | refine FinC.v ?_ | refine FinC.own rfl rfl rfl ?_ | exact FinC.nil | refine FinC.sl ?_ | exact FinC.same rfl); all_goals try rfl
theorem v_rwhole (n : Int) (h : i64P n) : PC Try.prog 30 [.v (.int .i64 n)] (.v (.string (dgB (foldZ n)))) := by
  have hF := v_rFolded n h.1 h.2
  have hD := v_rDigits (foldZ n) (foldZ_lt h.1 h.2)
  generalize dgB (foldZ n) = x at *
  generalize foldZ n = y at *
  refine PC.mk (ac_body tab_ok Try.func30 rfl (by kernel_rfl) rfl ?_); intro w0 M μ0; simp only [Try.ntmps30, List.length_cons, List.length_nil, Nat.reduceAdd, Nat.reduceSub, numb]
  repeat' (first | ((first | apply o_do | apply d_do | apply d_yes rfl rfl rfl); first | exact lsc (hF) | exact lsc (hD) | exact lsq) | refine a_seq ?_ | refine a_region ?_ | refine o_nil ?_ | refine a_block ?_ | refine a_ret ?_ | refine a_exit ?_ | refine a_skip ?_ | refine a_draw mixed ?_ | refine d_nil (by kernel_rfl) ?_ | refine o_yes rfl rfl rfl ?_ | refine o_no rfl rfl rfl (by decide) ?_ | refine o_no' rfl rfl rfl ?_ | refine a_condT rfl ?_ | refine a_condF rfl ?_ | refine d_no rfl rfl rfl (by decide) ?_ | refine d_no' rfl rfl rfl ?_ | (refine wq2 (fun hb => ?_) (fun hb => ?_) <;> (simp only [hb]; try simp only [hbs, ne_eq] at hb; try (exfalso; first | omega | exact hb trivial))) | fail)
  all_goals refine ⟨by first | exact .inr rfl | exact .inl rfl, _, rfl, ?_, by repeat' (first | exact trivial | refine ⟨⟨_, rfl, by first | rfl | (simp [renO, *]; done)⟩, by first | rfl | assumption, ?_⟩)⟩
  all_goals (first | refine FinA.tup ?_ | refine FinA.one ?_); repeat' (first | exact FinBs.nil | exact FinCs.nil | refine FinBs.cons ?_ ?_ | refine FinCs.cons ?_ ?_ | refine FinB.cell (FinC.v ?_) | refine FinB.cell (FinC.own rfl rfl rfl ?_) | exact FinB.cell FinC.nil | refine FinB.cell (FinC.sl ?_) | exact FinB.agg' rfl rfl | exact FinB.cell (FinC.same rfl) | refine FinB.agg ?_ | refine FinC.v ?_ | refine FinC.own rfl rfl rfl ?_ | exact FinC.nil | refine FinC.sl ?_ | exact FinC.same rfl); all_goals try rfl
theorem nb_dgB {n : Int} (h : 0 ≤ n) : nb n = (dgB n.toNat).data.toList := by unfold nb dgB; rw [if_pos h]
set_option maxHeartbeats 8000000 in
set_option maxRecDepth 20000 in
theorem g_rBytes (no mark : Int) (ps : List Pn) (hI : ∀ p ∈ ps, PI p) (hR : grR no mark ps = true) :
    PC Try.prog 12 [.agg [.v (.int .i64 no), .v (.int .i64 mark), .sl 6 (ps.map Pn.av)]] (.v (.string ⟨(grB no mark ps).toArray⟩)) := by
  obtain ⟨h1, h2, h3, h4⟩ := grR_parts hR
  have hpn : (ps.map Pn.av).length = ps.length := List.length_map _
  have n1 := v_rnum no h1.1 (by omega)
  have n2 := v_rnum mark h2.1 (by omega)
  have n3 := v_rnum ((ps.map Pn.av).length : Int) (by omega) (by omega)
  have hbl : ∀ p ∈ ps, (pnB p).length ≤ 100 := fun p hp => pnB_len (h4 p hp) (hI p hp)
  have z1 : (dgB no.toNat).size ≤ 10 := dgB_size (by omega)
  have z2 : (dgB mark.toNat).size ≤ 10 := dgB_size (by omega)
  have z3 : (dgB ((ps.map Pn.av).length : Int).toNat).size ≤ 10 := dgB_size (by omega)
  have hH : nbs [no, mark, (ps.length : Int)] = ((dgB no.toNat ++ dgB mark.toNat) ++ dgB ((ps.map Pn.av).length : Int).toNat).data.toList := by
    rw [nbs3, nb_dgB h1.1, nb_dgB h2.1, nb_dgB (n := (ps.length : Int)) (by omega), hpn]
    simp [ByteArray.data_append]
  unfold grB
  rw [hH]
  generalize dgB no.toNat = x1 at *
  generalize dgB mark.toNat = x2 at *
  generalize dgB ((ps.map Pn.av).length : Int).toNat = x3 at *
  have hsz : ((x1 ++ x2) ++ x3).size ≤ 30 := by simp only [ByteArray.size_append]; omega
  have hHl : ((x1 ++ x2) ++ x3).data.toList.length ≤ 30 := by rw [Array.length_toList]; exact hsz
  refine PC.mk (ac_body tab_ok Try.func12 rfl (by kernel_rfl) rfl ?_); intro w0 M μ0; simp only [Try.ntmps12, List.length_cons, List.length_nil, Nat.reduceAdd, Nat.reduceSub, numb]
  repeat' (first | ((first | apply o_do | apply d_do | apply d_yes rfl rfl rfl); first | exact lsc (n1) | exact lsc (n2) | exact lsc (n3) | exact ls_cat rfl rfl (by simp only [ByteArray.size_append]; omega) rfl | exact ls_toBytes (k := 1) tab_ok u8_ok rfl rfl rfl (by omega) rfl rfl | exact lsq) | refine a_seq ?_ | refine a_region ?_ | refine o_nil ?_ | refine a_block ?_ | refine a_ret ?_ | refine a_exit ?_ | refine a_skip ?_ | refine a_draw mixed ?_ | refine d_nil (by kernel_rfl) ?_ | refine o_yes rfl rfl rfl ?_ | refine o_no rfl rfl rfl (by decide) ?_ | refine o_no' rfl rfl rfl ?_ | refine a_condT rfl ?_ | refine a_condF rfl ?_ | refine d_no rfl rfl rfl (by decide) ?_ | refine d_no' rfl rfl rfl ?_ | (refine wq2 (fun hb => ?_) (fun hb => ?_) <;> (simp only [hb]; try simp only [hbs, ne_eq] at hb; try (exfalso; first | omega | exact hb trivial))) | fail)
  clear hH
  generalize ((x1 ++ x2) ++ x3).data.toList = H at *
  refine a_loop (X := {q : Nat // q ≤ ps.length}) (fun p => ⟨[(3, .own 1 ((H ++ psB (ps.take p.1)).map byAv).length), (20, .sl 6 (ps.map Pn.av)), (21, .v (.int .i64 ps.length)), (22, .v (.int .i64 p.1))], [(1, .row (5 + 1048576) 1 ((H ++ psB (ps.take p.1)).map byAv))]⟩) (fun p => ps.length - p.1) ⟨0, Nat.zero_le _⟩ ?_ ?_
  · refine ⟨by repeat' (first | exact trivial | exact FinA.one (FinB.cell (FinC.same rfl)) | exact FinA.one (FinB.cell FinC.nil) | exact FinA.bound rfl | exact FinA.one (FinB.cell (FinC.own rfl rfl rfl rfl)) | exact FinA.one (FinB.cell (FinC.v (by first | rfl | ((first | (simp [psB_nil]; done) | (simp [psB_nil]; rfl)))))) | exact FinA.one (FinB.cell (FinC.ow rfl (by first | rfl | ((first | (simp [psB_nil]; done) | (simp [psB_nil]; rfl)))))) | exact FinA.one (FinB.agg' rfl rfl) | refine ⟨⟨_, rfl, ?_⟩, ?_⟩), by repeat' (first | exact trivial | refine ⟨⟨_, rfl, by first | rfl | ((first | (simp [psB_nil]; done) | (simp [psB_nil]; rfl)); done) | (simp [renO, *]; done)⟩, by first | rfl | assumption, ?_⟩), rfl⟩
  rintro ⟨q, hq⟩
  dsimp only
  by_cases hlt : q < ps.length
  · have hel : (ps.map Pn.av)[q]? = some (Pn.av ps[q]) := by simp [hlt]
    have hm := h4 ps[q] (List.getElem_mem hlt)
    have hi := hI ps[q] (List.getElem_mem hlt)
    have hkk := may_key hm
    have htk := psB_len (ps := ps.take q) fun p hp => hbl p (List.mem_of_mem_take hp)
    rw [List.length_take] at htk
    have hst : H ++ psB (ps.take (q + 1)) = (H ++ psB (ps.take q)) ++ pnB ps[q] := by rw [psB_take hlt, List.append_assoc]
    have hL : (H ++ psB (ps.take q)).length ≤ 1000000 := by rw [List.length_append]; omega
    generalize H ++ psB (ps.take q) = L at *
    generalize ps[q] = p at *
    obtain ⟨lo, hi', key, n, a, b⟩ := p
    dsimp only at hi hkk
    have m0 := v_rnum (key.size : Int) (by omega) (by omega)
    have m1 := v_rnum lo (by omega) (by omega)
    have m2 := v_rnum hi' (by omega) (by omega)
    have m3 := v_rnum n (by omega) hi.n.2
    have m4 : PC Try.prog 30 [.v (.int .i64 a)] (.v (.string (dgB (foldZ a)))) := v_rwhole a hi.a
    have m5 : PC Try.prog 30 [.v (.int .i64 b)] (.v (.string (dgB (foldZ b)))) := v_rwhole b hi.b
    have s0 : (dgB (key.size : Int).toNat).size ≤ 10 := dgB_size (by omega)
    have s1 : (dgB lo.toNat).size ≤ 10 := dgB_size (by omega)
    have s2 : (dgB hi'.toNat).size ≤ 10 := dgB_size (by omega)
    have s3 : (dgB n.toNat).size ≤ 10 := dgB_size (by have := hi.n.2; dsimp only at this; omega)
    have s4 : (dgB (foldZ a)).size ≤ 10 := dgB_size (foldZ_lt hi.a.1 hi.a.2)
    have s5 : (dgB (foldZ b)).size ≤ 10 := dgB_size (foldZ_lt hi.b.1 hi.b.2)
    have hpb : pnB ⟨lo, hi', key, n, a, b⟩ = ((((((dgB (key.size : Int).toNat ++ key) ++ dgB lo.toNat) ++ dgB hi'.toNat) ++ dgB n.toNat) ++ dgB (foldZ a)) ++ dgB (foldZ b)).data.toList := by
      unfold pnB
      rw [nbs3, nb_dgB (n := lo) (by omega), nb_dgB (n := hi') (by omega), nb_dgB (n := n) (by omega), Int.toNat_natCast]
      unfold dgB
      simp [ByteArray.data_append]
    rw [hpb] at hst
    clear hpb
    generalize dgB (key.size : Int).toNat = y0 at *
    generalize dgB lo.toNat = y1 at *
    generalize dgB hi'.toNat = y2 at *
    generalize dgB n.toNat = y3 at *
    generalize dgB (foldZ a) = y4 at *
    generalize dgB (foldZ b) = y5 at *
    have hall : ((((((y0 ++ key) ++ y1) ++ y2) ++ y3) ++ y4) ++ y5).size ≤ 100 := by simp only [ByteArray.size_append]; omega
    have hst := congrArg (List.map byAv) hst
    rw [List.map_append (l₁ := L)] at hst
    have hx1 : (L.map byAv).length + ((((((y0 ++ key) ++ y1) ++ y2) ++ y3) ++ y4) ++ y5).size ≤ 100000000000000 := by rw [List.length_map]; omega
    generalize L.map byAv = LL at *
    unfold Pn.av at hel
    dsimp only at hel
    repeat' (first | ((first | apply o_do | apply d_do | apply d_yes rfl rfl rfl); first | exact ls_indexAddr_sl tab_ok rfl rfl rfl rfl hel rfl | exact lsc (m0) | exact lsc (m1) | exact lsc (m2) | exact lsc (m3) | exact lsc (m4) | exact lsc (m5) | exact ls_cat rfl rfl (by simp only [ByteArray.size_append]; omega) rfl | exact ls_appendT tab_ok u8_ok rfl rfl rfl rfl rfl rfl rfl hx1 rfl | exact lsq) | refine a_seq ?_ | refine a_region ?_ | refine o_nil ?_ | refine a_block ?_ | refine a_ret ?_ | refine a_exit ?_ | refine a_skip ?_ | refine a_draw mixed ?_ | refine d_nil (by kernel_rfl) ?_ | refine o_yes rfl rfl rfl ?_ | refine o_no rfl rfl rfl (by decide) ?_ | refine o_no' rfl rfl rfl ?_ | refine a_condT rfl ?_ | refine a_condF rfl ?_ | refine d_no rfl rfl rfl (by decide) ?_ | refine d_no' rfl rfl rfl ?_ | (refine wq2 (fun hb => ?_) (fun hb => ?_) <;> (simp only [hb]; try simp only [hbs, ne_eq] at hb; try (exfalso; first | omega | exact hb trivial))) | fail)
    refine ⟨⟨q + 1, by omega⟩, by dsimp only; omega, ?_⟩
    dsimp only
    rw [hst]
    refine ⟨by repeat' (first | exact trivial | exact FinA.one (FinB.cell (FinC.same rfl)) | exact FinA.one (FinB.cell FinC.nil) | exact FinA.bound rfl | exact FinA.one (FinB.cell (FinC.own rfl rfl rfl rfl)) | exact FinA.one (FinB.cell (FinC.v (by first | rfl | ((first | (simp; done) | (simp; rfl)))))) | exact FinA.one (FinB.cell (FinC.ow rfl (by first | rfl | ((first | (simp; done) | (simp; rfl)))))) | exact FinA.one (FinB.agg' rfl rfl) | refine ⟨⟨_, rfl, ?_⟩, ?_⟩), by repeat' (first | exact trivial | refine ⟨⟨_, rfl, by first | rfl | ((first | (simp; done) | (simp; rfl)); done) | (simp [renO, *]; done)⟩, by first | rfl | assumption, ?_⟩), rfl⟩
  · obtain rfl : q = ps.length := by omega
    rw [List.take_length]
    repeat' (first | ((first | apply o_do | apply d_do | apply d_yes rfl rfl rfl); first | exact ls_toStrT tab_ok u8_ok rfl rfl rfl rfl rfl rfl rfl | exact lsq) | refine a_seq ?_ | refine a_region ?_ | refine o_nil ?_ | refine a_block ?_ | refine a_ret ?_ | refine a_exit ?_ | refine a_skip ?_ | refine a_draw mixed ?_ | refine d_nil (by kernel_rfl) ?_ | refine o_yes rfl rfl rfl ?_ | refine o_no rfl rfl rfl (by decide) ?_ | refine o_no' rfl rfl rfl ?_ | refine a_condT rfl ?_ | refine a_condF rfl ?_ | refine d_no rfl rfl rfl (by decide) ?_ | refine d_no' rfl rfl rfl ?_ | (refine wq2 (fun hb => ?_) (fun hb => ?_) <;> (simp only [hb]; try simp only [hbs, ne_eq] at hb; try (exfalso; first | omega | exact hb trivial))) | fail)
    all_goals refine ⟨by first | exact .inr rfl | exact .inl rfl, _, rfl, ?_, by repeat' (first | exact trivial | refine ⟨⟨_, rfl, by first | rfl | (simp [renO, *]; done)⟩, by first | rfl | assumption, ?_⟩)⟩
    all_goals (first | refine FinA.tup ?_ | refine FinA.one ?_); repeat' (first | exact FinBs.nil | exact FinCs.nil | refine FinBs.cons ?_ ?_ | refine FinCs.cons ?_ ?_ | refine FinB.cell (FinC.v ?_) | refine FinB.cell (FinC.own rfl rfl rfl ?_) | exact FinB.cell FinC.nil | refine FinB.cell (FinC.sl ?_) | exact FinB.agg' rfl rfl | exact FinB.cell (FinC.same rfl) | refine FinB.agg ?_ | refine FinC.v ?_ | refine FinC.own rfl rfl rfl ?_ | exact FinC.nil | refine FinC.sl ?_ | exact FinC.same rfl); all_goals try rfl
set_option maxHeartbeats 8000000 in
set_option maxRecDepth 20000 in
theorem g_bytes (no mark : Int) (ps : List Pn) (s : ByteArray) (hx : ps.length ≤ 9223372036854775807) (hs : s.size ≤ 9223372036854770000) (hno : i64P no) (hmk : i64P mark) (hI : ∀ p ∈ ps, PI p) :
    PC Try.prog 3 [.agg [.v (.int .i64 no), .v (.int .i64 mark), .sl 6 (ps.map Pn.av)], .v (.string s)] (.v (.bool true)) := by
  have hF := g_few no mark ps hx
  have hsub : (fewL ps).length ≤ ps.length ∧ ∀ p ∈ fewL ps, p ∈ ps := by
    unfold fewL
    split
    · exact ⟨by rw [List.length_take]; omega, fun p hp => List.mem_of_mem_take hp⟩
    · exact ⟨Nat.le_refl _, fun p hp => hp⟩
  generalize fewL ps = qs at *
  have hqx : qs.length ≤ 9223372036854775807 := by omega
  have hqI : ∀ p ∈ qs, PI p := fun p hp => hI p (hsub.2 p hp)
  have hA := g_alive
  have hG := g_Get s (by omega)
  have hG2 := g_rGet s hs
  have hgl : (getG s).1.ps.length ≤ 9223372036854775807 := by
    by_cases hbad : (getG s).2 = 0
    · have := (grR_parts (getG_out hbad).1).2.2.1; omega
    · rw [getG_bad hbad]; unfold zG; simp
  have hL := g_Like (getG s).1.no (getG s).1.mark (getG s).1.ps hgl
  have hRr := g_rRight no mark qs hqx
  unfold Gr.av at hG hG2
  generalize (getG s).1.no = n2 at *
  generalize (getG s).1.mark = m2 at *
  generalize (getG s).1.ps = p2 at *
  generalize (getG s).2 = e2 at *
  cases hR : grR no mark qs
  · have hP := g_PutN no mark qs hqx hR
    rw [hR] at hRr
    refine PC.mk (ac_body tab_ok Try.func3 rfl (by kernel_rfl) rfl ?_); intro w0 M μ0; simp only [Try.ntmps3, List.length_cons, List.length_nil, Nat.reduceAdd, Nat.reduceSub, numb]
    repeat' (first | ((first | apply o_do | apply d_do | apply d_yes rfl rfl rfl); first | exact lsc (hF) | exact lsc (hP) | exact lsc (hG) | exact lsc (hG2) | exact lsc (hL) | exact lsc (hA) | exact lsc (hRr) | exact lsq) | refine a_seq ?_ | refine a_region ?_ | refine o_nil ?_ | refine a_block ?_ | refine a_ret ?_ | refine a_exit ?_ | refine a_skip ?_ | refine a_draw mixed ?_ | refine d_nil (by kernel_rfl) ?_ | refine o_yes rfl rfl rfl ?_ | refine o_no rfl rfl rfl (by decide) ?_ | refine o_no' rfl rfl rfl ?_ | refine a_condT rfl ?_ | refine a_condF rfl ?_ | refine d_no rfl rfl rfl (by decide) ?_ | refine d_no' rfl rfl rfl ?_ | (refine wq2 (fun hb => ?_) (fun hb => ?_) <;> (simp only [hb]; try simp only [hbs, ne_eq] at hb; try (exfalso; first | omega | exact hb trivial))) | fail)
    all_goals try (exfalso; simp_all; done)
    all_goals refine ⟨by first | exact .inr rfl | exact .inl rfl, _, rfl, ?_, by repeat' (first | exact trivial | refine ⟨⟨_, rfl, by first | rfl | (simp [renO, *]; done)⟩, by first | rfl | assumption, ?_⟩)⟩
    all_goals (first | refine FinA.tup ?_ | refine FinA.one ?_); repeat' (first | exact FinBs.nil | exact FinCs.nil | refine FinBs.cons ?_ ?_ | refine FinCs.cons ?_ ?_ | refine FinB.cell (FinC.v ?_) | refine FinB.cell (FinC.own rfl rfl rfl ?_) | exact FinB.cell FinC.nil | refine FinB.cell (FinC.sl ?_) | exact FinB.agg' rfl rfl | exact FinB.cell (FinC.same rfl) | refine FinB.agg ?_ | refine FinC.v ?_ | refine FinC.own rfl rfl rfl ?_ | exact FinC.nil | refine FinC.sl ?_ | exact FinC.same rfl); all_goals try rfl
    all_goals simp
  · have hP := g_PutY no mark qs hqx hno hmk hqI hR
    have hB := g_rBytes no mark qs hqI hR
    rw [hR] at hRr
    generalize (⟨(grB no mark qs).toArray⟩ : ByteArray) = by' at *
    refine PC.mk (ac_body tab_ok Try.func3 rfl (by kernel_rfl) rfl ?_); intro w0 M μ0; simp only [Try.ntmps3, List.length_cons, List.length_nil, Nat.reduceAdd, Nat.reduceSub, numb]
    repeat' (first | ((first | apply o_do | apply d_do | apply d_yes rfl rfl rfl); first | exact lsc (hF) | exact lsc (hP) | exact lsc (hG) | exact lsc (hG2) | exact lsc (hL) | exact lsc (hA) | exact lsc (hRr) | exact lsc (hB) | exact lsq) | refine a_seq ?_ | refine a_region ?_ | refine o_nil ?_ | refine a_block ?_ | refine a_ret ?_ | refine a_exit ?_ | refine a_skip ?_ | refine a_draw mixed ?_ | refine d_nil (by kernel_rfl) ?_ | refine o_yes rfl rfl rfl ?_ | refine o_no rfl rfl rfl (by decide) ?_ | refine o_no' rfl rfl rfl ?_ | refine a_condT rfl ?_ | refine a_condF rfl ?_ | refine d_no rfl rfl rfl (by decide) ?_ | refine d_no' rfl rfl rfl ?_ | (refine wq2 (fun hb => ?_) (fun hb => ?_) <;> (simp only [hb]; try simp only [hbs, ne_eq] at hb; try (exfalso; first | omega | exact hb trivial))) | fail)
    all_goals try (exfalso; simp_all; done)
    all_goals refine ⟨by first | exact .inr rfl | exact .inl rfl, _, rfl, ?_, by repeat' (first | exact trivial | refine ⟨⟨_, rfl, by first | rfl | (simp [renO, *]; done)⟩, by first | rfl | assumption, ?_⟩)⟩
    all_goals (first | refine FinA.tup ?_ | refine FinA.one ?_); repeat' (first | exact FinBs.nil | exact FinCs.nil | refine FinBs.cons ?_ ?_ | refine FinCs.cons ?_ ?_ | refine FinB.cell (FinC.v ?_) | refine FinB.cell (FinC.own rfl rfl rfl ?_) | exact FinB.cell FinC.nil | refine FinB.cell (FinC.sl ?_) | exact FinB.agg' rfl rfl | exact FinB.cell (FinC.same rfl) | refine FinB.agg ?_ | refine FinC.v ?_ | refine FinC.own rfl rfl rfl ?_ | exact FinC.nil | refine FinC.sl ?_ | exact FinC.same rfl); all_goals try rfl
    all_goals simp
end Go.Proofs.Ythlimflfglkpiaa
