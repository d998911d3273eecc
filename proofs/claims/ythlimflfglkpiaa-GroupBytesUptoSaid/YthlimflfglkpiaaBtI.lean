/-
  A group written as bytes, walked over abstract values: Put.
-/
import Derived.Test.YthlimflfglkpiaaBtH
namespace Go.Proofs.Ythlimflfglkpiaa
open Go.RowKit
set_option linter.unusedSimpArgs false
set_option linter.unusedVariables false
def pnB (p : Pn) : List UInt8 := ((dg p.key.size ++ p.key.data.toList) ++ nbs [p.lo, p.hi, p.n]) ++ (dg (foldZ p.a) ++ dg (foldZ p.b))
def psB (ps : List Pn) : List UInt8 := ps.flatMap pnB
def grB (no mark : Int) (ps : List Pn) : List UInt8 := nbs [no, mark, (ps.length : Int)] ++ psB ps
theorem rightL_may {l : List Pn} (h : rightL l = true) : l.length ≤ 2000 ∧ ∀ p ∈ l, mayB p = true := by
  unfold rightL at h
  simp only [Bool.and_eq_true, decide_eq_true_eq] at h
  exact ⟨h.1, ((okPn_iff l).1 h.2).1⟩
theorem may_key {p : Pn} (h : mayB p = true) : 1 ≤ p.key.size ∧ p.key.size ≤ 16 ∧ 0 ≤ p.lo ∧ p.lo < p.hi ∧ p.hi ≤ 1099511627776 ∧ 1 ≤ p.n := by
  simp only [mayB, keyB, Bool.and_eq_true, decide_eq_true_eq] at h
  obtain ⟨⟨⟨⟨⟨h1, h2⟩, h3⟩, h4⟩, h5⟩, h6⟩ := h
  exact ⟨h1, h2, h3, h4, h5, h6⟩
theorem pnB_len {p : Pn} (h : mayB p = true) (hi : PI p) : (pnB p).length ≤ 100 := by
  have hk := may_key h
  have h1 := dg_len (n := p.key.size) (by omega)
  have h2 := nbs_len (ns := [p.lo, p.hi, p.n]) (fun n hn => by
    simp only [List.mem_cons, List.mem_nil_iff, or_false] at hn
    rcases hn with rfl | rfl | rfl
    · exact hi.lo
    · exact hi.hi
    · exact hi.n)
  have h3 := dg_len (foldZ_lt hi.a.1 hi.a.2)
  have h4 := dg_len (foldZ_lt hi.b.1 hi.b.2)
  have h5 : p.key.data.toList.length = p.key.size := Array.length_toList
  unfold pnB
  simp only [List.length_append, List.length_cons, List.length_nil] at *
  omega
theorem psB_nil : psB [] = [] := rfl
theorem psB_take {ps : List Pn} {q : Nat} (hq : q < ps.length) : psB (ps.take (q + 1)) = psB (ps.take q) ++ pnB ps[q] := by
  unfold psB
  rw [List.take_succ_eq_append_getElem hq, List.flatMap_append]
  simp
theorem psB_len {ps : List Pn} (h : ∀ p ∈ ps, (pnB p).length ≤ 100) : (psB ps).length ≤ 100 * ps.length := by
  induction ps with
  | nil => simp [psB]
  | cons p ps ih =>
    have h1 := h p (by simp)
    have h2 := ih fun x hx => h x (by simp [hx])
    unfold psB at *
    simp only [List.flatMap_cons, List.length_append, List.length_cons]
    omega
set_option maxHeartbeats 8000000 in
set_option maxRecDepth 20000 in
theorem g_PutY (no mark : Int) (ps : List Pn) (hx : ps.length ≤ 9223372036854775807) (hno : i64P no) (hmk : i64P mark) (hI : ∀ p ∈ ps, PI p) (hR : grR no mark ps = true) :
    PC Try.prog 6 [.agg [.v (.int .i64 no), .v (.int .i64 mark), .sl 6 (ps.map Pn.av)]] (.tup [.v (.string ⟨(grB no mark ps).toArray⟩), .v (.int .i64 0)]) := by
  have hr := g_Right no mark ps hx
  rw [hR] at hr
  have hrl : rightL ps = true := by
    simp only [grR, Bool.and_eq_true] at hR
    exact hR.2.2.2.2.1
  obtain ⟨hlen, hmay⟩ := rightL_may hrl
  have hbl : ∀ p ∈ ps, (pnB p).length ≤ 100 := fun p hp => pnB_len (hmay p hp) (hI p hp)
  have hN := g_numbers [no, mark, (ps.length : Int)] [] (fun n hn => by
    simp only [List.mem_cons, List.mem_nil_iff, or_false] at hn
    unfold i64P
    rcases hn with rfl | rfl | rfl
    · exact hno
    · exact hmk
    · exact ⟨by omega, by omega⟩) (by simp) (by simp)
  have hz : (nbs [no, mark, (ps.length : Int)]).length ≤ 30 := nbs_len (fun n hn => by
    simp only [List.mem_cons, List.mem_nil_iff, or_false] at hn
    unfold i64P
    rcases hn with rfl | rfl | rfl
    · exact hno
    · exact hmk
    · exact ⟨by omega, by omega⟩)
  simp only [GB, niv, List.map_cons, List.map_nil] at hN
  have hpn : (ps.map Pn.av).length = ps.length := List.length_map _
  rw [List.nil_append] at hN
  unfold grB
  generalize nbs [no, mark, (ps.length : Int)] = H at *
  rw [← hpn] at hN
  refine PC.mk (ac_body tab_ok Try.func6 rfl (by kernel_rfl) rfl ?_); intro w0 M μ0; simp only [Try.ntmps6, List.length_cons, List.length_nil, Nat.reduceAdd, Nat.reduceSub, numb]
  repeat' (first | refine a_adoptB 1 0 2 5 1 rfl rfl rfl ?_ | ((first | apply o_do | apply d_do | apply d_yes rfl rfl rfl); first | exact lsc (hr) | exact ls_callAB [1, 2] 50 hN rfl rfl (by (repeat' (first | exact NilL.nil | refine NilL.cons Nil.same ?_ | refine NilL.cons Nil.nil ?_ | refine NilL.cons (Nil.agg ?_) ?_ | exact Nil1s.nil | refine Nil1s.cons Nil1.same ?_ | refine Nil1s.cons Nil1.nil ?_)); first | done | fail) rfl (by repeat' (first | exact trivial | refine ⟨⟨_, rfl, by first | rfl | (simp [renO, *]; done)⟩, ?_⟩)) (by first | rfl | simp [closO, *]) rfl rfl rfl rfl (by first | rfl | simp [closO, *]) rfl | exact lsq) | refine a_seq ?_ | refine a_region ?_ | refine o_nil ?_ | refine a_block ?_ | refine a_ret ?_ | refine a_exit ?_ | refine a_skip ?_ | refine a_draw mixed ?_ | refine d_nil (by kernel_rfl) ?_ | refine o_yes rfl rfl rfl ?_ | refine o_no rfl rfl rfl (by decide) ?_ | refine o_no' rfl rfl rfl ?_ | refine a_condT rfl ?_ | refine a_condF rfl ?_ | refine d_no rfl rfl rfl (by decide) ?_ | refine d_no' rfl rfl rfl ?_ | (refine wq2 (fun hb => ?_) (fun hb => ?_) <;> (simp only [hb]; try simp only [hbs, ne_eq] at hb; try (exfalso; first | omega | exact hb trivial))) | fail)
  refine a_loop (X := {q : Nat // q ≤ ps.length}) (fun p => ⟨[(4, .ref 1 0), (5, .clo (.func 14) [] [.ref 1 0]), (25, .sl 6 (ps.map Pn.av)), (26, .v (.int .i64 ps.length)), (27, .v (.int .i64 p.1))], [(1, .box 36 [.own 2 ((H ++ psB (ps.take p.1)).map byAv).length]), (2, .row 5 1 ((H ++ psB (ps.take p.1)).map byAv))]⟩) (fun p => ps.length - p.1) ⟨0, Nat.zero_le _⟩ ?_ ?_
  · refine ⟨by repeat' (first | exact trivial | exact FinA.one (FinB.cell (FinC.same rfl)) | exact FinA.one (FinB.cell FinC.nil) | exact FinA.bound rfl | exact FinA.one (FinB.cell (FinC.own rfl rfl rfl rfl)) | exact FinA.one (FinB.cell (FinC.v (by first | rfl | ((first | (simp [psB_nil]; done) | (simp [psB_nil]; rfl)))))) | exact FinA.one (FinB.cell (FinC.ow rfl (by first | rfl | ((first | (simp [psB_nil]; done) | (simp [psB_nil]; rfl)))))) | exact FinA.one (FinB.agg' rfl rfl) | refine ⟨⟨_, rfl, ?_⟩, ?_⟩), by repeat' (first | exact trivial | refine ⟨⟨_, rfl, by first | rfl | ((first | (simp [psB_nil]; done) | (simp [psB_nil]; rfl)); done) | (simp [renO, *]; done)⟩, by first | rfl | assumption, ?_⟩), rfl⟩
  rintro ⟨q, hq⟩
  dsimp only
  by_cases hlt : q < ps.length
  · have hel : (ps.map Pn.av)[q]? = some (Pn.av ps[q]) := by simp [hlt]
    have hm := ps[q] |> fun p => hmay ps[q] (List.getElem_mem hlt)
    have hi := hI ps[q] (List.getElem_mem hlt)
    have hkk := may_key hm
    have hbq := hbl ps[q] (List.getElem_mem hlt)
    have htk := psB_len (ps := ps.take q) fun p hp => hbl p (List.mem_of_mem_take hp)
    rw [List.length_take] at htk
    have hst : H ++ psB (ps.take (q + 1)) = (H ++ psB (ps.take q)) ++ pnB ps[q] := by rw [psB_take hlt, List.append_assoc]
    have hL : (H ++ psB (ps.take q)).length ≤ 1000000 := by rw [List.length_append]; omega
    generalize H ++ psB (ps.take q) = L at *
    generalize ps[q] = p at *
    obtain ⟨lo, hi', key, n, a, b⟩ := p
    dsimp only at hi hkk
    have hT := v_Text key (by omega)
    rw [if_pos (by omega), if_pos (by omega)] at hT
    have hA : PC Try.prog 17 [.v (.int .i64 a)] (.v (.string (dgB (foldZ a)))) := v_Signed a hi.a.1 hi.a.2
    have hB : PC Try.prog 17 [.v (.int .i64 b)] (.v (.string (dgB (foldZ b)))) := v_Signed b hi.b.1 hi.b.2
    have sA : (dgB (foldZ a)).size ≤ 10 := dgB_size (foldZ_lt hi.a.1 hi.a.2)
    have sB : (dgB (foldZ b)).size ≤ 10 := dgB_size (foldZ_lt hi.b.1 hi.b.2)
    have sk := dgB_size (n := key.size) (by omega)
    have hN2 := g_numbers [lo, hi', n] (L ++ (dgB key.size ++ key).data.toList) (fun m hn => by
      simp only [List.mem_cons, List.mem_nil_iff, or_false] at hn
      rcases hn with rfl | rfl | rfl
      · exact hi.lo
      · exact hi.hi
      · exact hi.n) (by simp) (by
        have h5 : (dgB key.size ++ key).data.toList.length = (dgB key.size ++ key).size := Array.length_toList
        rw [List.length_append, h5, ByteArray.size_append]; omega)
    have hz2 := nbs_len (ns := [lo, hi', n]) (fun m hn => by
      simp only [List.mem_cons, List.mem_nil_iff, or_false] at hn
      rcases hn with rfl | rfl | rfl
      · exact hi.lo
      · exact hi.hi
      · exact hi.n)
    have hpb : pnB ⟨lo, hi', key, n, a, b⟩ = ((dgB key.size ++ key).data.toList ++ nbs [lo, hi', n]) ++ (dgB (foldZ a) ++ dgB (foldZ b)).data.toList := by
      unfold pnB dgB
      simp [ByteArray.data_append]
    rw [hpb] at hst
    clear hpb
    simp only [GB, niv, List.map_cons, List.map_nil] at hN2
    have z1 : (dgB key.size ++ key).size ≤ 26 := by rw [ByteArray.size_append]; omega
    have z2 : (dgB (foldZ a) ++ dgB (foldZ b)).size ≤ 20 := by rw [ByteArray.size_append]; omega
    simp only [List.length_cons, List.length_nil] at hz2
    have hLn : (L.map byAv).length = L.length := List.length_map _
    obtain ⟨K, hK⟩ : ∃ K, dgB key.size ++ key = K := ⟨_, rfl⟩
    rw [hK] at hT hN2 z1 hst
    obtain ⟨Z, hZ⟩ : ∃ Z, nbs [lo, hi', n] = Z := ⟨_, rfl⟩
    rw [hZ] at hN2 hz2 hst
    generalize dgB (foldZ a) = SA at *
    generalize dgB (foldZ b) = SB at *
    have h6 : K.data.toList.length = K.size := Array.length_toList
    have hst := congrArg (List.map byAv) hst
    simp only [List.map_append] at hN2 hst
    have hx1 : (L.map byAv).length + K.size ≤ 100000000000000 := by omega
    have hx2 : ((L.map byAv ++ K.data.toList.map byAv) ++ Z.map byAv).length + (SA ++ SB).size ≤ 100000000000000 := by
      simp only [List.length_append, List.length_map]; omega
    generalize L.map byAv = LL at *
    generalize Z.map byAv = ZZ at *
    unfold Pn.av at hel
    dsimp only at hel
    repeat' (first | ((first | apply o_do | apply d_do | apply d_yes rfl rfl rfl); first | exact lsc (hT) | exact lsc (hA) | exact lsc (hB) | exact ls_indexAddr_sl tab_ok rfl rfl rfl rfl hel rfl | exact ls_appendS tab_ok u8_ok rfl rfl rfl rfl rfl rfl hx1 rfl | exact ls_callAB [1, 2] 50 hN2 rfl rfl (by (repeat' (first | exact NilL.nil | refine NilL.cons Nil.same ?_ | refine NilL.cons Nil.nil ?_ | refine NilL.cons (Nil.agg ?_) ?_ | exact Nil1s.nil | refine Nil1s.cons Nil1.same ?_ | refine Nil1s.cons Nil1.nil ?_)); first | done | fail) rfl (by repeat' (first | exact trivial | refine ⟨⟨_, rfl, by first | rfl | (simp [renO, *]; done)⟩, ?_⟩)) (by first | rfl | simp [closO, *]) rfl rfl rfl rfl (by first | rfl | simp [closO, *]) rfl | exact ls_cat rfl rfl (by omega) rfl | exact ls_appendS tab_ok u8_ok rfl rfl rfl rfl rfl rfl hx2 rfl | exact lsq) | refine a_seq ?_ | refine a_region ?_ | refine o_nil ?_ | refine a_block ?_ | refine a_ret ?_ | refine a_exit ?_ | refine a_skip ?_ | refine a_draw mixed ?_ | refine d_nil (by kernel_rfl) ?_ | refine o_yes rfl rfl rfl ?_ | refine o_no rfl rfl rfl (by decide) ?_ | refine o_no' rfl rfl rfl ?_ | refine a_condT rfl ?_ | refine a_condF rfl ?_ | refine d_no rfl rfl rfl (by decide) ?_ | refine d_no' rfl rfl rfl ?_ | (refine wq2 (fun hb => ?_) (fun hb => ?_) <;> (simp only [hb]; try simp only [hbs, ne_eq] at hb; try (exfalso; first | omega | exact hb trivial))) | fail)
    refine ⟨⟨q + 1, by omega⟩, by dsimp only; omega, ?_⟩
    dsimp only
    rw [(List.map_append (f := byAv) (l₁ := H) (l₂ := psB (ps.take (q + 1)))).trans hst]
    refine ⟨by repeat' (first | exact trivial | exact FinA.one (FinB.cell (FinC.same rfl)) | exact FinA.one (FinB.cell FinC.nil) | exact FinA.bound rfl | exact FinA.one (FinB.cell (FinC.own rfl rfl rfl rfl)) | exact FinA.one (FinB.cell (FinC.v (by first | rfl | ((first | (simp; done) | (simp; rfl)))))) | exact FinA.one (FinB.cell (FinC.ow rfl (by first | rfl | ((first | (simp; done) | (simp; rfl)))))) | exact FinA.one (FinB.agg' rfl rfl) | refine ⟨⟨_, rfl, ?_⟩, ?_⟩), by repeat' (first | exact trivial | refine ⟨⟨_, rfl, by first | rfl | ((first | (simp; done) | (simp; rfl)); done) | (simp [renO, *]; done)⟩, by first | rfl | assumption, ?_⟩), rfl⟩
  · obtain rfl : q = ps.length := by omega
    rw [List.take_length]
    repeat' (first | ((first | apply o_do | apply d_do | apply d_yes rfl rfl rfl); first | exact ls_toStr tab_ok u8_ok rfl rfl rfl rfl rfl rfl rfl | exact lsq) | refine a_seq ?_ | refine a_region ?_ | refine o_nil ?_ | refine a_block ?_ | refine a_ret ?_ | refine a_exit ?_ | refine a_skip ?_ | refine a_draw mixed ?_ | refine d_nil (by kernel_rfl) ?_ | refine o_yes rfl rfl rfl ?_ | refine o_no rfl rfl rfl (by decide) ?_ | refine o_no' rfl rfl rfl ?_ | refine a_condT rfl ?_ | refine a_condF rfl ?_ | refine d_no rfl rfl rfl (by decide) ?_ | refine d_no' rfl rfl rfl ?_ | (refine wq2 (fun hb => ?_) (fun hb => ?_) <;> (simp only [hb]; try simp only [hbs, ne_eq] at hb; try (exfalso; first | omega | exact hb trivial))) | fail)
    all_goals refine ⟨by first | exact .inr rfl | exact .inl rfl, _, rfl, ?_, by repeat' (first | exact trivial | refine ⟨⟨_, rfl, by first | rfl | (simp [renO, *]; done)⟩, by first | rfl | assumption, ?_⟩)⟩
    all_goals (first | refine FinA.tup ?_ | refine FinA.one ?_); repeat' (first | exact FinBs.nil | exact FinCs.nil | refine FinBs.cons ?_ ?_ | refine FinCs.cons ?_ ?_ | refine FinB.cell (FinC.v ?_) | refine FinB.cell (FinC.own rfl rfl rfl ?_) | exact FinB.cell FinC.nil | refine FinB.cell (FinC.sl ?_) | exact FinB.agg' rfl rfl | exact FinB.cell (FinC.same rfl) | refine FinB.agg ?_ | refine FinC.v ?_ | refine FinC.own rfl rfl rfl ?_ | exact FinC.nil | refine FinC.sl ?_ | exact FinC.same rfl); all_goals try rfl
theorem g_PutN (no mark : Int) (ps : List Pn) (hx : ps.length ≤ 9223372036854775807) (hR : grR no mark ps = false) :
    PC Try.prog 6 [.agg [.v (.int .i64 no), .v (.int .i64 mark), .sl 6 (ps.map Pn.av)]] (.tup [.v (.string ⟨#[]⟩), .v (.int .i64 1)]) := by
  have hr := g_Right no mark ps hx
  rw [hR] at hr
  refine PC.mk (ac_body tab_ok Try.func6 rfl (by kernel_rfl) rfl ?_); intro w0 M μ0; simp only [Try.ntmps6, List.length_cons, List.length_nil, Nat.reduceAdd, Nat.reduceSub, numb]
  repeat' (first | ((first | apply o_do | apply d_do | apply d_yes rfl rfl rfl); first | exact lsc (hr) | exact lsq) | refine a_seq ?_ | refine a_region ?_ | refine o_nil ?_ | refine a_block ?_ | refine a_ret ?_ | refine a_exit ?_ | refine a_skip ?_ | refine a_draw mixed ?_ | refine d_nil (by kernel_rfl) ?_ | refine o_yes rfl rfl rfl ?_ | refine o_no rfl rfl rfl (by decide) ?_ | refine o_no' rfl rfl rfl ?_ | refine a_condT rfl ?_ | refine a_condF rfl ?_ | refine d_no rfl rfl rfl (by decide) ?_ | refine d_no' rfl rfl rfl ?_ | (refine wq2 (fun hb => ?_) (fun hb => ?_) <;> (simp only [hb]; try simp only [hbs, ne_eq] at hb; try (exfalso; first | omega | exact hb trivial))) | fail)
  all_goals refine ⟨by first | exact .inr rfl | exact .inl rfl, _, rfl, ?_, by repeat' (first | exact trivial | refine ⟨⟨_, rfl, by first | rfl | (simp [renO, *]; done)⟩, by first | rfl | assumption, ?_⟩)⟩
  all_goals (first | refine FinA.tup ?_ | refine FinA.one ?_); repeat' (first | exact FinBs.nil | exact FinCs.nil | refine FinBs.cons ?_ ?_ | refine FinCs.cons ?_ ?_ | refine FinB.cell (FinC.v ?_) | refine FinB.cell (FinC.own rfl rfl rfl ?_) | exact FinB.cell FinC.nil | refine FinB.cell (FinC.sl ?_) | exact FinB.agg' rfl rfl | exact FinB.cell (FinC.same rfl) | refine FinB.agg ?_ | refine FinC.v ?_ | refine FinC.own rfl rfl rfl ?_ | exact FinC.nil | refine FinC.sl ?_ | exact FinC.same rfl); all_goals try rfl
end Go.Proofs.Ythlimflfglkpiaa
