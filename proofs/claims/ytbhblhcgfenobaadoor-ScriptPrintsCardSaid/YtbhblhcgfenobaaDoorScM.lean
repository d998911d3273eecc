/-
  Script: a plain plan may be; the law ScriptPrints walked.
-/
import Derived.Test.YtbhblhcgfenobaaDoorScL
namespace Go.Proofs.YtbhblhcgfenobaaDoor
open Go.RowKit
set_option linter.unusedSimpArgs false
set_option linter.unusedVariables false
theorem PC.res {P : Program} {f : FuncId} {args : List AV} {r r' : AV} (h : PC P f args r) (hr : ∀ μ w A y, rep [] μ w A r y → rep [] μ w A r' y) : PC P f args r' :=
  ⟨⟨h.ac.ok, fun w M μ vs h1 h2 => (h.ac.out w M μ vs h1 h2).mono fun e w' ⟨y, μ', e1, e2, e3, e4⟩ => ⟨y, μ', e1, e2, hr _ _ _ _ e3, e4⟩⟩⟩
def plainPl : Pl := ⟨1, 1, 1, 2, 0, 0, 0, 0, [[]], 1, []⟩
theorem p_plain : PC Tryd.prog 20 [] (.agg plainPl.av) := by
  have h : PC Tryd.prog 20 [] (.agg [.v (.int .i64 1), .v (.int .i64 1), .v (.int .i64 1), .v (.int .i64 2), .v (.int .i64 0), .v (.int .i64 0), .v (.int .i64 0), .v (.int .i64 0), .sl 1 [[.v (.slice none 0 0)]], .v (.int .i64 1), .sl 3 []]) := by
    refine PC.mk (ac_body tab_ok Tryd.func20 rfl (by kernel_rfl) rfl ?_); intro w0 M μ0; simp only [Tryd.ntmps20, List.length_cons, List.length_nil, Nat.reduceAdd, Nat.reduceSub, numb]
    repeat' (first | ((first | apply o_do | apply d_do | apply d_yes rfl rfl rfl); exact lsq) | refine a_seq ?_ | refine a_region ?_ | refine o_nil ?_ | refine a_block ?_ | refine a_ret ?_ | refine a_exit ?_ | refine a_skip ?_ | refine a_draw mixed ?_ | refine d_nil (by kernel_rfl) ?_ | refine o_yes rfl rfl rfl ?_ | refine o_no rfl rfl rfl (by decide) ?_ | refine o_no' rfl rfl rfl ?_ | refine a_condT rfl ?_ | refine a_condF rfl ?_ | refine d_no rfl rfl rfl (by decide) ?_ | refine d_no' rfl rfl rfl ?_ | (refine wq2 (fun hb => ?_) (fun hb => ?_) <;> (simp only [hb]; try simp only [hbs, ne_eq] at hb; try (exfalso; first | omega | exact hb trivial))) | fail)
    refine ⟨by first | exact .inr rfl | exact .inl rfl, _, rfl, ?_, by repeat' (first | exact trivial | refine ⟨⟨_, rfl, by first | rfl | (simp [renO, *]; done)⟩, by first | rfl | assumption, ?_⟩)⟩
    (first | refine FinA.tup ?_ | refine FinA.one ?_); repeat' (first | exact FinBs.nil | exact FinCs.nil | refine FinBs.cons ?_ ?_ | refine FinCs.cons ?_ ?_ | refine FinB.cell (FinC.v ?_) | refine FinB.cell (FinC.own rfl rfl rfl ?_) | exact FinB.cell FinC.nil | refine FinB.cell (FinC.sl ?_) | exact FinB.agg' rfl rfl | exact FinB.cell (FinC.same rfl) | refine FinB.agg ?_ | refine FinC.v ?_ | refine FinC.own rfl rfl rfl ?_ | exact FinC.nil | refine FinC.sl ?_ | exact FinC.same rfl); all_goals try rfl
  refine h.res fun μ w A y hy => ?_
  unfold plainPl Pl.av
  simp only [rep, repC, List.map_cons, List.map_nil, inAv] at hy ⊢
  obtain ⟨us, e, u0, us0, e0, g0, r0, u1, us1, e1, g1, r1, u2, us2, e2, g2, r2, u3, us3, e3, g3, r3, u4, us4, e4, g4, r4, u5, us5, e5, g5, r5, u6, us6, e6, g6, r6, u7, us7, e7, g7, r7, u8, us8, e8, g8, r8, R⟩ := hy
  refine ⟨us, e, u0, us0, e0, g0, r0, u1, us1, e1, g1, r1, u2, us2, e2, g2, r2, u3, us3, e3, g3, r3, u4, us4, e4, g4, r4, u5, us5, e5, g5, r5, u6, us6, e6, g6, r6, u7, us7, e7, g7, r7, u8, us8, e8, g8, ?_, R⟩
  obtain ⟨ad, c, vs, f1, f2, f3, f4, f5⟩ := r8
  refine ⟨ad, c, vs, f1, f2, f3, f4, ?_⟩
  simp only [repLL, repC, rep] at f5 ⊢
  obtain ⟨v1, v2, k1, k2, ⟨z, z', k3, k4, ⟨k5, _⟩, k6⟩, k7⟩ := f5
  exact ⟨v1, v2, k1, k2, ⟨z, z', k3, k4, ⟨none, 0, [], k5, Nat.le_refl _, Nat.zero_le _, .inl rfl, rfl⟩, k6⟩, k7⟩
theorem plain_ok : plainPl.ok = true := by decide
theorem p_alive24 : PC Tryd.prog 6 [] (.v (.bool true)) := by
  have h1 := p_plain
  have h2 := s_Right plainPl ⟨by decide, by intro es he; simp [plainPl] at he; subst he; decide⟩ (by decide)
  rw [plain_ok] at h2
  unfold Pl.av plainPl at *
  refine PC.mk (ac_body tab_ok Tryd.func6 rfl (by kernel_rfl) rfl ?_); intro w0 M μ0; simp only [Tryd.ntmps6, List.length_cons, List.length_nil, Nat.reduceAdd, Nat.reduceSub, numb]
  repeat' (first | ((first | apply o_do | apply d_do | apply d_yes rfl rfl rfl); first | exact lsc (h1) | exact lsc (h2) | exact lsq) | refine a_seq ?_ | refine a_region ?_ | refine o_nil ?_ | refine a_block ?_ | refine a_ret ?_ | refine a_exit ?_ | refine a_skip ?_ | refine a_draw mixed ?_ | refine d_nil (by kernel_rfl) ?_ | refine o_yes rfl rfl rfl ?_ | refine o_no rfl rfl rfl (by decide) ?_ | refine o_no' rfl rfl rfl ?_ | refine a_condT rfl ?_ | refine a_condF rfl ?_ | refine d_no rfl rfl rfl (by decide) ?_ | refine d_no' rfl rfl rfl ?_ | (refine wq2 (fun hb => ?_) (fun hb => ?_) <;> (simp only [hb]; try simp only [hbs, ne_eq] at hb; try (exfalso; first | omega | exact hb trivial))) | fail)
  refine ⟨by first | exact .inr rfl | exact .inl rfl, _, rfl, ?_, by repeat' (first | exact trivial | refine ⟨⟨_, rfl, by first | rfl | (simp [renO, *]; done)⟩, by first | rfl | assumption, ?_⟩)⟩
  (first | refine FinA.tup ?_ | refine FinA.one ?_); repeat' (first | exact FinBs.nil | exact FinCs.nil | refine FinBs.cons ?_ ?_ | refine FinCs.cons ?_ ?_ | refine FinB.cell (FinC.v ?_) | refine FinB.cell (FinC.own rfl rfl rfl ?_) | exact FinB.cell FinC.nil | refine FinB.cell (FinC.sl ?_) | exact FinB.agg' rfl rfl | exact FinB.cell (FinC.same rfl) | refine FinB.agg ?_ | refine FinC.v ?_ | refine FinC.own rfl rfl rfl ?_ | exact FinC.nil | refine FinC.sl ?_ | exact FinC.same rfl); all_goals try rfl
theorem Pl.kind {p : Pl} (h : p.ok = true) : ∃ q : Nat, q < 5 ∧ p.k = (q : Int) + 1 := by
  simp only [Pl.ok, Pl.jok, jobOK, Bool.and_eq_true] at h
  have h := h.1.2.2.2.1
  simp only [fRight, Bool.and_eq_true, decide_eq_true_eq] at h
  exact ⟨(p.k - 1).toNat, by omega, by omega⟩
structure PlI (p : Pl) : Prop where
  j : JI p.g p.s p.d p.k p.fu p.li p.de p.id
  sm : Small p.ls
  v : ∀ es ∈ p.ls, I64s es
  xs : p.xs.length ≤ 9223372036854775807
theorem jobT_size {g s d nm li fu de id : ByteArray} (h1 : g.data.size ≤ 22) (h2 : s.data.size ≤ 22) (h3 : d.data.size ≤ 22) (h4 : nm.data.size ≤ 22) (h5 : li.data.size ≤ 22) (h6 : fu.data.size ≤ 22) (h7 : de.data.size ≤ 22) (h8 : id.data.size ≤ 22) : (jobT g s d nm li fu de id).data.size ≤ 1000 := by
  simp only [jobT, ByteArray.data_append, Array.size_append, List.size_toArray, List.length_cons, List.length_nil]
  omega
theorem ito_le {n : Int} (h : i64 n) : (itoB n).data.size ≤ 22 := Nat.le_trans (itoB_size n h.1 h.2) (by omega)
set_option maxHeartbeats 8000000 in
set_option maxRecDepth 20000 in
theorem s_prints (p : Pl) (hI : PlI p) : PCT Tryd.prog TabT 3 [.agg p.av] (.v (.bool true)) := by
  have hA := p_alive24
  have hR := r_Right p hI.sm hI.xs
  have hS := s_Right p hI.sm hI.xs
  cases hok : p.ok
  · have hP := s_PrintNo p hI.sm hI.xs hok
    rw [hok] at hR hS
    unfold Pl.av at *
    refine PCT.mk (act_body tab_ok Tryd.func3 rfl (by kernel_rfl) rfl ?_); intro w0 M μ0 hG; simp only [Tryd.ntmps3, List.length_cons, List.length_nil, Nat.reduceAdd, Nat.reduceSub, numb] at hG ⊢
    repeat' (first | ((first | apply o_do | apply d_do | apply d_yes rfl rfl rfl); first | exact lsc (hR) | exact lsc (hS) | exact lsc (hA) | exact lsc (hP) | exact lsq) | refine a_seq ?_ | refine a_region ?_ | refine o_nil ?_ | refine a_block ?_ | refine a_ret ?_ | refine a_exit ?_ | refine a_skip ?_ | refine a_draw mixed ?_ | refine d_nil (by kernel_rfl) ?_ | refine o_yes rfl rfl rfl ?_ | refine o_no rfl rfl rfl (by decide) ?_ | refine o_no' rfl rfl rfl ?_ | refine a_condT rfl ?_ | refine a_condF rfl ?_ | refine d_no rfl rfl rfl (by decide) ?_ | refine d_no' rfl rfl rfl ?_ | (refine wq2 (fun hb => ?_) (fun hb => ?_) <;> (simp only [hb]; try simp only [hbs, ne_eq] at hb; try (exfalso; first | omega | exact hb trivial))) | fail)
    all_goals refine ⟨by first | exact .inr rfl | exact .inl rfl, _, rfl, ?_, by repeat' (first | exact trivial | refine ⟨⟨_, rfl, by first | rfl | (simp [renO, *]; done)⟩, by first | rfl | assumption, ?_⟩)⟩
    all_goals (first | refine FinA.tup ?_ | refine FinA.one ?_); repeat' (first | exact FinBs.nil | exact FinCs.nil | refine FinBs.cons ?_ ?_ | refine FinCs.cons ?_ ?_ | refine FinB.cell (FinC.v ?_) | refine FinB.cell (FinC.own rfl rfl rfl ?_) | exact FinB.cell FinC.nil | refine FinB.cell (FinC.sl ?_) | exact FinB.agg' rfl rfl | exact FinB.cell (FinC.same rfl) | refine FinB.agg ?_ | refine FinC.v ?_ | refine FinC.own rfl rfl rfl ?_ | exact FinC.nil | refine FinC.sl ?_ | exact FinC.same rfl); all_goals try rfl
    all_goals simp
  · obtain ⟨q, hq, hk⟩ := Pl.kind hok
    obtain ⟨g, s, d, k, fu, li, de, id, ls, wn, xs⟩ := p
    dsimp only at hk
    subst hk
    obtain ⟨hj, hsm, hv, hxs⟩ := hI
    dsimp only at hj hsm hv hxs
    have hsz := jobT_size (ito_le hj.g) (ito_le hj.s) (ito_le hj.d) (Nat.le_trans (nm_size q) (by omega)) (ito_le hj.li) (ito_le hj.fu) (ito_le hj.de) (ito_le hj.id)
    have hP := s_Print g s d fu li de id q hq ls wn xs hj hok hsm hv _ (by unfold spB; rw [jobP_T]) hsz
    have hT := r_Text g s d fu li de id q hq ls wn xs hj hok hsm hv _ rfl hsz
    rw [hok] at hR hS
    generalize (⟨((jobT (itoB g) (itoB s) (itoB d) (nmQ q) (itoB li) (itoB fu) (itoB de) (itoB id)).data.toList ++ plL ls wn xs).toArray⟩ : ByteArray) = t at *
    unfold Pl.av at *
    refine PCT.mk (act_body tab_ok Tryd.func3 rfl (by kernel_rfl) rfl ?_); intro w0 M μ0 hG; simp only [Tryd.ntmps3, List.length_cons, List.length_nil, Nat.reduceAdd, Nat.reduceSub, numb] at hG ⊢
    repeat' (first | ((first | apply o_do | apply d_do | apply d_yes rfl rfl rfl); first | exact lsc (hR) | exact lsc (hS) | focus (apply ls_callT hG hP rfl rfl _ rfl rfl; (repeat' (first | exact NilL.nil | refine NilL.cons Nil.same ?_ | refine NilL.cons Nil.nil ?_ | refine NilL.cons (Nil.agg ?_) ?_ | exact Nil1s.nil | refine Nil1s.cons Nil1.same ?_ | refine Nil1s.cons Nil1.nil ?_)); done) | focus (apply ls_callT hG hT rfl rfl _ rfl rfl; (repeat' (first | exact NilL.nil | refine NilL.cons Nil.same ?_ | refine NilL.cons Nil.nil ?_ | refine NilL.cons (Nil.agg ?_) ?_ | exact Nil1s.nil | refine Nil1s.cons Nil1.same ?_ | refine Nil1s.cons Nil1.nil ?_)); done) | exact lsq) | refine a_seq ?_ | refine a_region ?_ | refine o_nil ?_ | refine a_block ?_ | refine a_ret ?_ | refine a_exit ?_ | refine a_skip ?_ | refine a_draw mixed ?_ | refine d_nil (by kernel_rfl) ?_ | refine o_yes rfl rfl rfl ?_ | refine o_no rfl rfl rfl (by decide) ?_ | refine o_no' rfl rfl rfl ?_ | refine a_condT rfl ?_ | refine a_condF rfl ?_ | refine d_no rfl rfl rfl (by decide) ?_ | refine d_no' rfl rfl rfl ?_ | (refine wq2 (fun hb => ?_) (fun hb => ?_) <;> (simp only [hb]; try simp only [hbs, ne_eq] at hb; try (exfalso; first | omega | exact hb trivial))) | fail)
    all_goals refine ⟨by first | exact .inr rfl | exact .inl rfl, _, rfl, ?_, by repeat' (first | exact trivial | refine ⟨⟨_, rfl, by first | rfl | (simp [renO, *]; done)⟩, by first | rfl | assumption, ?_⟩)⟩
    all_goals (first | refine FinA.tup ?_ | refine FinA.one ?_); repeat' (first | exact FinBs.nil | exact FinCs.nil | refine FinBs.cons ?_ ?_ | refine FinCs.cons ?_ ?_ | refine FinB.cell (FinC.v ?_) | refine FinB.cell (FinC.own rfl rfl rfl ?_) | exact FinB.cell FinC.nil | refine FinB.cell (FinC.sl ?_) | exact FinB.agg' rfl rfl | exact FinB.cell (FinC.same rfl) | refine FinB.agg ?_ | refine FinC.v ?_ | refine FinC.own rfl rfl rfl ?_ | exact FinC.nil | refine FinC.sl ?_ | exact FinC.same rfl); all_goals try rfl
    all_goals simp
end Go.Proofs.YtbhblhcgfenobaaDoor
