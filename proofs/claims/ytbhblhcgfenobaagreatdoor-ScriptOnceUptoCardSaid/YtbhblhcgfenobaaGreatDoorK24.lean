/-
  Script: a plain plan may be; the law ScriptPrints walked.
  Scripts: two plans that are the same are alike; the law ScriptReads walked.
  Scripts in plain words: what is written is read again; what is read, written, is the text. Plain.
-/
import Derived.Test.YtbhblhcgfenobaaGreatDoorK4
import Derived.Test.YtbhblhcgfenobaaGreatDoorK8
import Derived.Test.YtbhblhcgfenobaaGreatDoorK17
import Derived.Test.YtbhblhcgfenobaaGreatDoorK18
import Derived.Test.YtbhblhcgfenobaaGreatDoorK23
namespace Go.Proofs.YtbhblhcgfenobaaGreatDoor
open Go.RowKit
set_option linter.unusedSimpArgs false
set_option linter.unusedVariables false
theorem PC.res {P : Program} {f : FuncId} {args : List AV} {r r' : AV} (h : PC P f args r) (hr : ∀ μ w A y, rep [] μ w A r y → rep [] μ w A r' y) : PC P f args r' :=
  ⟨⟨h.ac.ok, fun w M μ vs h1 h2 => (h.ac.out w M μ vs h1 h2).mono fun e w' ⟨y, μ', e1, e2, e3, e4⟩ => ⟨y, μ', e1, e2, hr _ _ _ _ e3, e4⟩⟩⟩
def plainPl : Pl := ⟨1, 1, 1, 2, 0, 0, 0, 0, [[]], 1, []⟩
theorem p_plain : PC Tryz.prog 25 [] (.agg plainPl.av) := by
  have h : PC Tryz.prog 25 [] (.agg [.v (.int .i64 1), .v (.int .i64 1), .v (.int .i64 1), .v (.int .i64 2), .v (.int .i64 0), .v (.int .i64 0), .v (.int .i64 0), .v (.int .i64 0), .sl 1 [[.v (.slice none 0 0)]], .v (.int .i64 1), .sl 3 []]) := by
    refine PC.mk (ac_body tab_ok Tryz.func25 rfl (by kernel_rfl) rfl ?_); intro w0 M μ0; simp only [Tryz.ntmps25, List.length_cons, List.length_nil, Nat.reduceAdd, Nat.reduceSub, numb]
    repeat' (first | ((first | apply o_do | apply d_do | apply d_yes rfl rfl rfl); exact lsq) | refine a_seq ?_ | refine a_region ?_ | refine o_nil ?_ | refine a_block ?_ | refine a_ret ?_ | refine a_exit ?_ | refine a_skip ?_ | refine a_draw mixed ?_ | refine d_nil (by kernel_rfl) ?_ | refine o_yes rfl rfl rfl ?_ | refine o_no rfl rfl rfl (by decide) ?_ | refine o_no' rfl rfl rfl ?_ | refine a_condT rfl ?_ | refine a_condF rfl ?_ | refine d_no rfl rfl rfl (by decide) ?_ | refine d_no' rfl rfl rfl ?_ | (refine wq2 (fun hb => ?_) (fun hb => ?_) <;> (simp only [hb]; try simp only [hbs, ne_eq] at hb; try (exfalso; first | omega | exact hb trivial))) | fail)
    refine rq rfl ?_
    exact fnq
  refine h.res fun μ w A y hy => ?_
  unfold plainPl Pl.av
  simp only [rep, repC, List.map_cons, List.map_nil, inAv] at hy ⊢
  obtain ⟨us, e, u0, us0, e0, g0, r0, u1, us1, e1, g1, r1, u2, us2, e2, g2, r2, u3, us3, e3, g3, r3, u4, us4, e4, g4, r4, u5, us5, e5, g5, r5, u6, us6, e6, g6, r6, u7, us7, e7, g7, r7, u8, us8, e8, g8, r8, R⟩ := hy
  refine ⟨us, e, u0, us0, e0, g0, r0, u1, us1, e1, g1, r1, u2, us2, e2, g2, r2, u3, us3, e3, g3, r3, u4, us4, e4, g4, r4, u5, us5, e5, g5, r5, u6, us6, e6, g6, r6, u7, us7, e7, g7, r7, u8, us8, e8, g8, ?_, R⟩
  obtain ⟨ad, c, vs, f1, f2, f3, f4, f5⟩ := r8
  refine ⟨ad, c, vs, f1, f2, f3, f4, ?_⟩
  simp only [repLL, repC, rep] at f5 ⊢
  obtain ⟨v1, v2, k1, k2, ⟨z, z', k3, k4, ⟨k5, _⟩, k6⟩, k7⟩ := f5
  exact ⟨v1, v2, k1, k2, ⟨z, z', k3, k4, ⟨none, 0, [], k5, Nat.le_refl _, Nat.zero_le _, .inl rfl, rfl⟩, k6⟩, k7⟩
theorem plain_ok : plainPl.ok = true := by decide
theorem p_alive24 : PC Tryz.prog 8 [] (.v (.bool true)) := by
  have h1 := p_plain
  have h2 := s_Right plainPl ⟨by decide, by intro es he; simp [plainPl] at he; subst he; decide⟩ (by decide)
  rw [plain_ok] at h2
  unfold Pl.av plainPl at *
  refine PC.mk (ac_body tab_ok Tryz.func8 rfl (by kernel_rfl) rfl ?_); intro w0 M μ0; simp only [Tryz.ntmps8, List.length_cons, List.length_nil, Nat.reduceAdd, Nat.reduceSub, numb]
  repeat' (first | ((first | apply o_do | apply d_do | apply d_yes rfl rfl rfl); first | exact lsc (h1) | exact lsc (h2) | exact lsq) | refine a_seq ?_ | refine a_region ?_ | refine o_nil ?_ | refine a_block ?_ | refine a_ret ?_ | refine a_exit ?_ | refine a_skip ?_ | refine a_draw mixed ?_ | refine d_nil (by kernel_rfl) ?_ | refine o_yes rfl rfl rfl ?_ | refine o_no rfl rfl rfl (by decide) ?_ | refine o_no' rfl rfl rfl ?_ | refine a_condT rfl ?_ | refine a_condF rfl ?_ | refine d_no rfl rfl rfl (by decide) ?_ | refine d_no' rfl rfl rfl ?_ | (refine wq2 (fun hb => ?_) (fun hb => ?_) <;> (simp only [hb]; try simp only [hbs, ne_eq] at hb; try (exfalso; first | omega | exact hb trivial))) | fail)
  refine rq rfl ?_
  exact fnq
theorem Pl.kind {p : Pl} (h : p.ok = true) : ∃ q : Nat, q < 5 ∧ p.k = (q : Int) + 1 := by
  simp only [Pl.ok, Pl.jok, jobOK, Bool.and_eq_true] at h
  have h := h.1.2.2.2.1
  simp only [fRight, Bool.and_eq_true, decide_eq_true_eq] at h
  exact ⟨(p.k - 1).toNat, by omega, by omega⟩
structure PlI (p : Pl) : Prop where
  j : JI p.g p.s p.d p.k p.fu p.li p.de p.id
  sm : Small p.ls
  v : ∀ es ∈ p.ls, I64s es
  xs : p.xs.length ≤ 9223372036854775807
theorem jobT_size {g s d nm li fu de id : ByteArray} (h1 : g.data.size ≤ 22) (h2 : s.data.size ≤ 22) (h3 : d.data.size ≤ 22) (h4 : nm.data.size ≤ 22) (h5 : li.data.size ≤ 22) (h6 : fu.data.size ≤ 22) (h7 : de.data.size ≤ 22) (h8 : id.data.size ≤ 22) : (jobT g s d nm li fu de id).data.size ≤ 1000 := by
  simp only [jobT, ByteArray.data_append, Array.size_append, List.size_toArray, List.length_cons, List.length_nil]
  omega
theorem ito_le {n : Int} (h : i64 n) : (itoB n).data.size ≤ 22 := Nat.le_trans (itoB_size n h.1 h.2) (by omega)
end Go.Proofs.YtbhblhcgfenobaaGreatDoor
namespace Go.Proofs.YtbhblhcgfenobaaGreatDoor
open Go.RowKit
set_option linter.unusedSimpArgs false
set_option linter.unusedVariables false
def Et.vals (e : Et) : List Value := [.string e.key, .int .i64 e.at', .int .i64 e.v]
def Ac.vals (e : Ac) : List Value := [.int .i64 e.what, .int .i64 e.who, .int .i64 e.which]
theorem run_neq_J8 (x y : Operand) (p : J8) (w : World) : (do eqGuard .neq 23 x y (.agg p.vals.toArray) (.agg p.vals.toArray); binOp .neq 23 (.agg p.vals.toArray) (.agg p.vals.toArray) : Sem Value).run Tryz.prog w = .ok (.bool false) w := by
  unfold J8.vals
  go_simp
theorem run_neq_Ac (x y : Operand) (p : Ac) (w : World) : (do eqGuard .neq 52 x y (.agg p.vals.toArray) (.agg p.vals.toArray); binOp .neq 52 (.agg p.vals.toArray) (.agg p.vals.toArray) : Sem Value).run Tryz.prog w = .ok (.bool false) w := by
  unfold Ac.vals
  go_simp
theorem run_neq_Et (x y : Operand) (p : Et) (w : World) : (do eqGuard .neq 82 x y (.agg p.vals.toArray) (.agg p.vals.toArray); binOp .neq 82 (.agg p.vals.toArray) (.agg p.vals.toArray) : Sem Value).run Tryz.prog w = .ok (.bool false) w := by
  unfold Et.vals
  go_simp
section
variable {Γ : Ctx} {s : ASt} {dst : Option Tmp} {ty yt : TypeId} {pos : String} {after : Array Edge} {x y : Operand}
theorem ls_neqJ8 (p : J8) (hx : ev s x = some (.agg (p.vals.map .v))) (hy : ev s y = some (.agg (p.vals.map .v))) (hd : okDst Γ.n dst = true) : LS Tryz.prog Γ ⟨dst, .binOp .neq 23 x y yt, ty, pos, after, none⟩ s (rd x (rd y [])) (dst1 dst (.v (.bool false))) [] :=
  ls_eqA p.vals p.vals (run_neq_J8 x y p) hx hy rfl rfl hd
theorem ls_neqAc (p : Ac) (hx : ev s x = some (.agg (p.vals.map .v))) (hy : ev s y = some (.agg (p.vals.map .v))) (hd : okDst Γ.n dst = true) : LS Tryz.prog Γ ⟨dst, .binOp .neq 52 x y yt, ty, pos, after, none⟩ s (rd x (rd y [])) (dst1 dst (.v (.bool false))) [] :=
  ls_eqA p.vals p.vals (run_neq_Ac x y p) hx hy rfl rfl hd
theorem ls_neqEt (p : Et) (hx : ev s x = some (.agg (p.vals.map .v))) (hy : ev s y = some (.agg (p.vals.map .v))) (hd : okDst Γ.n dst = true) : LS Tryz.prog Γ ⟨dst, .binOp .neq 82 x y yt, ty, pos, after, none⟩ s (rd x (rd y [])) (dst1 dst (.v (.bool false))) [] :=
  ls_eqA p.vals p.vals (run_neq_Et x y p) hx hy rfl rfl hd
end
theorem p_rLikeEs (es : List Et) (hx : es.length ≤ 9223372036854775807) : PC Tryz.prog 26 [.sl 3 (es.map Et.av), .sl 3 (es.map Et.av)] (.v (.bool true)) := by
  have hm : (es.map Et.av).length = es.length := List.length_map _
  refine PC.mk (ac_body tab_ok Tryz.func26 rfl (by kernel_rfl) rfl ?_); intro w0 M μ0; simp only [Tryz.ntmps26, List.length_cons, List.length_nil, Nat.reduceAdd, Nat.reduceSub, numb]
  repeat' (first | ((first | apply o_do | apply d_do | apply d_yes rfl rfl rfl); exact lsq) | refine a_seq ?_ | refine a_region ?_ | refine o_nil ?_ | refine a_block ?_ | refine a_ret ?_ | refine a_exit ?_ | refine a_skip ?_ | refine a_draw mixed ?_ | refine d_nil (by kernel_rfl) ?_ | refine o_yes rfl rfl rfl ?_ | refine o_no rfl rfl rfl (by decide) ?_ | refine o_no' rfl rfl rfl ?_ | refine a_condT rfl ?_ | refine a_condF rfl ?_ | refine d_no rfl rfl rfl (by decide) ?_ | refine d_no' rfl rfl rfl ?_ | (refine wq2 (fun hb => ?_) (fun hb => ?_) <;> (simp only [hb]; try simp only [hbs, ne_eq] at hb; try (exfalso; first | omega | exact hb trivial))) | fail)
  all_goals try (exfalso; omega)
  refine a_loop (X := {q : Nat // q ≤ es.length}) (fun x => ⟨[(0, .sl 3 (es.map Et.av)), (1, .sl 3 (es.map Et.av)), (12, .v (.int .i64 es.length)), (13, .v (.int .i64 x.1))], []⟩) (fun x => es.length - x.1) ⟨0, Nat.zero_le _⟩ ?_ ?_
  · exact wkS
  rintro ⟨q, hq⟩
  dsimp only
  by_cases hlt : q < es.length
  · have hel : (es.map Et.av)[q]? = some (Et.av es[q]) := by simp [hlt]
    generalize es[q] = e at *
    unfold Et.av at hel
    repeat' (first | ((first | apply o_do | apply d_do | apply d_yes rfl rfl rfl); first | exact ls_indexAddr_sl tab_ok rfl rfl rfl rfl hel rfl | exact ls_neqEt e rfl rfl rfl | exact lsq) | refine a_seq ?_ | refine a_region ?_ | refine o_nil ?_ | refine a_block ?_ | refine a_ret ?_ | refine a_exit ?_ | refine a_skip ?_ | refine a_draw mixed ?_ | refine d_nil (by kernel_rfl) ?_ | refine o_yes rfl rfl rfl ?_ | refine o_no rfl rfl rfl (by decide) ?_ | refine o_no' rfl rfl rfl ?_ | refine a_condT rfl ?_ | refine a_condF rfl ?_ | refine d_no rfl rfl rfl (by decide) ?_ | refine d_no' rfl rfl rfl ?_ | (refine wq2 (fun hb => ?_) (fun hb => ?_) <;> (simp only [hb]; try simp only [hbs, ne_eq] at hb; try (exfalso; first | omega | exact hb trivial))) | fail)
    refine ⟨⟨q + 1, by omega⟩, by dsimp only; omega, ?_⟩
    exact wkS
  · obtain rfl : q = es.length := by omega
    repeat' (first | ((first | apply o_do | apply d_do | apply d_yes rfl rfl rfl); exact lsq) | refine a_seq ?_ | refine a_region ?_ | refine o_nil ?_ | refine a_block ?_ | refine a_ret ?_ | refine a_exit ?_ | refine a_skip ?_ | refine a_draw mixed ?_ | refine d_nil (by kernel_rfl) ?_ | refine o_yes rfl rfl rfl ?_ | refine o_no rfl rfl rfl (by decide) ?_ | refine o_no' rfl rfl rfl ?_ | refine a_condT rfl ?_ | refine a_condF rfl ?_ | refine d_no rfl rfl rfl (by decide) ?_ | refine d_no' rfl rfl rfl ?_ | (refine wq2 (fun hb => ?_) (fun hb => ?_) <;> (simp only [hb]; try simp only [hbs, ne_eq] at hb; try (exfalso; first | omega | exact hb trivial))) | fail)
    all_goals refine rq rfl ?_
    all_goals exact fnq
set_option maxHeartbeats 4000000 in
theorem p_rLike (p : Pl) (hx : Small p.ls) (hxa : p.xs.length ≤ 9223372036854775807) : PC Tryz.prog 9 [.agg p.av, .agg p.av] (.v (.bool true)) := by
  obtain ⟨g, s, d, k, fu, li, de, id, ls, wn, xs⟩ := p
  unfold Pl.av
  dsimp only at *
  have hn : (xs.map Ac.av).length = xs.length := List.length_map _
  have hm : (ls.map inAv).length = ls.length := List.length_map _
  have hlx := hx.1
  refine PC.mk (ac_body tab_ok Tryz.func9 rfl (by kernel_rfl) rfl ?_); intro w0 M μ0; simp only [Tryz.ntmps9, List.length_cons, List.length_nil, Nat.reduceAdd, Nat.reduceSub, numb]
  repeat' (first | ((first | apply o_do | apply d_do | apply d_yes rfl rfl rfl); first | exact ls_neqJ8 ⟨g, s, d, k, fu, li, de, id⟩ rfl rfl rfl | exact lsq) | refine a_seq ?_ | refine a_region ?_ | refine o_nil ?_ | refine a_block ?_ | refine a_ret ?_ | refine a_exit ?_ | refine a_skip ?_ | refine a_draw mixed ?_ | refine d_nil (by kernel_rfl) ?_ | refine o_yes rfl rfl rfl ?_ | refine o_no rfl rfl rfl (by decide) ?_ | refine o_no' rfl rfl rfl ?_ | refine a_condT rfl ?_ | refine a_condF rfl ?_ | refine d_no rfl rfl rfl (by decide) ?_ | refine d_no' rfl rfl rfl ?_ | (refine wq2 (fun hb => ?_) (fun hb => ?_) <;> (simp only [hb]; try simp only [hbs, ne_eq] at hb; try (exfalso; first | omega | exact hb trivial))) | fail)
  all_goals try (exfalso; omega)
  refine a_loop (X := {q : Nat // q ≤ ls.length}) (fun x => ⟨[(2, .ref 0 0), (3, .ref 1 0), (39, .v (.int .i64 ls.length)), (40, .v (.int .i64 x.1))], [(0, .box 27 [.v (.int .i64 g), .v (.int .i64 s), .v (.int .i64 d), .v (.int .i64 k), .v (.int .i64 fu), .v (.int .i64 li), .v (.int .i64 de), .v (.int .i64 id), .sl 1 (ls.map inAv), .v (.int .i64 wn), .sl 3 (xs.map Ac.av)]), (1, .box 27 [.v (.int .i64 g), .v (.int .i64 s), .v (.int .i64 d), .v (.int .i64 k), .v (.int .i64 fu), .v (.int .i64 li), .v (.int .i64 de), .v (.int .i64 id), .sl 1 (ls.map inAv), .v (.int .i64 wn), .sl 3 (xs.map Ac.av)])]⟩) (fun x => ls.length - x.1) ⟨0, Nat.zero_le _⟩ ?_ ?_
  · exact wkS
  rintro ⟨q, hq⟩
  dsimp only
  by_cases hlt : q < ls.length
  · have hel : (ls.map inAv)[q]? = some (inAv ls[q]) := by simp [hlt]
    have hL := p_rLikeEs ls[q] (hx.2 _ (List.getElem_mem hlt))
    generalize ls[q] = es at *
    unfold inAv at hel
    repeat' (first | ((first | apply o_do | apply d_do | apply d_yes rfl rfl rfl); first | exact ls_indexAddr_sl tab_ok rfl rfl rfl rfl hel rfl | exact lsc (hL) | exact lsq) | refine a_seq ?_ | refine a_region ?_ | refine o_nil ?_ | refine a_block ?_ | refine a_ret ?_ | refine a_exit ?_ | refine a_skip ?_ | refine a_draw mixed ?_ | refine d_nil (by kernel_rfl) ?_ | refine o_yes rfl rfl rfl ?_ | refine o_no rfl rfl rfl (by decide) ?_ | refine o_no' rfl rfl rfl ?_ | refine a_condT rfl ?_ | refine a_condF rfl ?_ | refine d_no rfl rfl rfl (by decide) ?_ | refine d_no' rfl rfl rfl ?_ | (refine wq2 (fun hb => ?_) (fun hb => ?_) <;> (simp only [hb]; try simp only [hbs, ne_eq] at hb; try (exfalso; first | omega | exact hb trivial))) | fail)
    refine ⟨⟨q + 1, by omega⟩, by dsimp only; omega, ?_⟩
    exact wkS
  obtain rfl : q = ls.length := by omega
  repeat' (first | ((first | apply o_do | apply d_do | apply d_yes rfl rfl rfl); exact lsq) | refine a_seq ?_ | refine a_region ?_ | refine o_nil ?_ | refine a_block ?_ | refine a_ret ?_ | refine a_exit ?_ | refine a_skip ?_ | refine a_draw mixed ?_ | refine d_nil (by kernel_rfl) ?_ | refine o_yes rfl rfl rfl ?_ | refine o_no rfl rfl rfl (by decide) ?_ | refine o_no' rfl rfl rfl ?_ | refine a_condT rfl ?_ | refine a_condF rfl ?_ | refine d_no rfl rfl rfl (by decide) ?_ | refine d_no' rfl rfl rfl ?_ | (refine wq2 (fun hb => ?_) (fun hb => ?_) <;> (simp only [hb]; try simp only [hbs, ne_eq] at hb; try (exfalso; first | omega | exact hb trivial))) | fail)
  refine a_loop (X := {q : Nat // q ≤ xs.length}) (fun x => ⟨[(2, .ref 0 0), (3, .ref 1 0), (58, .v (.int .i64 xs.length)), (59, .v (.int .i64 x.1))], [(0, .box 27 [.v (.int .i64 g), .v (.int .i64 s), .v (.int .i64 d), .v (.int .i64 k), .v (.int .i64 fu), .v (.int .i64 li), .v (.int .i64 de), .v (.int .i64 id), .sl 1 (ls.map inAv), .v (.int .i64 wn), .sl 3 (xs.map Ac.av)]), (1, .box 27 [.v (.int .i64 g), .v (.int .i64 s), .v (.int .i64 d), .v (.int .i64 k), .v (.int .i64 fu), .v (.int .i64 li), .v (.int .i64 de), .v (.int .i64 id), .sl 1 (ls.map inAv), .v (.int .i64 wn), .sl 3 (xs.map Ac.av)])]⟩) (fun x => xs.length - x.1) ⟨0, Nat.zero_le _⟩ ?_ ?_
  · exact wkS
  rintro ⟨q, hq⟩
  dsimp only
  by_cases hlt : q < xs.length
  · have hel : (xs.map Ac.av)[q]? = some (Ac.av xs[q]) := by simp [hlt]
    generalize xs[q] = a at *
    unfold Ac.av at hel
    repeat' (first | ((first | apply o_do | apply d_do | apply d_yes rfl rfl rfl); first | exact ls_indexAddr_sl tab_ok rfl rfl rfl rfl hel rfl | exact ls_neqAc a rfl rfl rfl | exact lsq) | refine a_seq ?_ | refine a_region ?_ | refine o_nil ?_ | refine a_block ?_ | refine a_ret ?_ | refine a_exit ?_ | refine a_skip ?_ | refine a_draw mixed ?_ | refine d_nil (by kernel_rfl) ?_ | refine o_yes rfl rfl rfl ?_ | refine o_no rfl rfl rfl (by decide) ?_ | refine o_no' rfl rfl rfl ?_ | refine a_condT rfl ?_ | refine a_condF rfl ?_ | refine d_no rfl rfl rfl (by decide) ?_ | refine d_no' rfl rfl rfl ?_ | (refine wq2 (fun hb => ?_) (fun hb => ?_) <;> (simp only [hb]; try simp only [hbs, ne_eq] at hb; try (exfalso; first | omega | exact hb trivial))) | fail)
    refine ⟨⟨q + 1, by omega⟩, by dsimp only; omega, ?_⟩
    exact wkS
  · obtain rfl : q = xs.length := by omega
    repeat' (first | ((first | apply o_do | apply d_do | apply d_yes rfl rfl rfl); exact lsq) | refine a_seq ?_ | refine a_region ?_ | refine o_nil ?_ | refine a_block ?_ | refine a_ret ?_ | refine a_exit ?_ | refine a_skip ?_ | refine a_draw mixed ?_ | refine d_nil (by kernel_rfl) ?_ | refine o_yes rfl rfl rfl ?_ | refine o_no rfl rfl rfl (by decide) ?_ | refine o_no' rfl rfl rfl ?_ | refine a_condT rfl ?_ | refine a_condF rfl ?_ | refine d_no rfl rfl rfl (by decide) ?_ | refine d_no' rfl rfl rfl ?_ | (refine wq2 (fun hb => ?_) (fun hb => ?_) <;> (simp only [hb]; try simp only [hbs, ne_eq] at hb; try (exfalso; first | omega | exact hb trivial))) | fail)
    all_goals refine rq rfl ?_
    all_goals exact fnq
/-- what is read is small -/
theorem goP_small (re : Bool) : ∀ (L : List ByteArray) (i : Nat) (ins : List (List Et)) (acs : List Ac), ins.length ≤ 4 → (∀ es ∈ ins, es.length ≤ 200) → acs.length ≤ 400 → (goP re L i ins acs).2.1.length ≤ 4 ∧ (∀ es ∈ (goP re L i ins acs).2.1, es.length ≤ 200) ∧ (goP re L i ins acs).2.2.length ≤ 400
  | [], i, ins, acs, h1, h2, h3 => by
    unfold goP
    split
    · exact ⟨h1, h2, h3⟩
    · exact ⟨by simp, by simp, by simp⟩
  | l :: ls, i, ins, acs, h1, h2, h3 => by
    unfold goP
    split
    · exact ⟨by simp, by simp, by simp⟩
    · rename_i x hx
      unfold lnO at hx
      split at hx
      · rename_i hc
        cases hs : srcO (spl l sp1).tail with
        | none => rw [hs] at hx; cases hx
        | some es =>
          rw [hs] at hx
          injection hx with hx
          subst hx
          obtain ⟨k1, _, k3⟩ := srcO_yes hs
          refine goP_small re ls (i + 1) _ _ (by dsimp only; rw [List.length_append]; simp; omega) (fun e he => ?_) h3
          rcases List.mem_append.1 he with he | he
          · exact h2 e he
          · rw [List.mem_singleton.1 he, k3, List.length_map]; exact k1
      · split at hx
        · cases hx
        · split at hx
          · cases hx
          · rename_i hf
            injection hx with hx
            subst hx
            exact goP_small re ls (i + 1) _ _ h1 h2 (by dsimp only; rw [List.length_append]; simp; omega)
theorem plan_small (s : ByteArray) : Small (plan s).1.ls ∧ (plan s).1.xs.length ≤ 9223372036854775807 := by
  have hz : Small zPl.ls ∧ zPl.xs.length ≤ 9223372036854775807 := ⟨⟨by decide, by intro es he; cases he⟩, by decide⟩
  unfold plan
  split
  · exact hz
  · unfold tailP
    split
    · exact hz
    · split
      · exact hz
      · unfold endP
        split
        · obtain ⟨k1, k2, k3⟩ := goP_small (lnS s.data.toList).2.isEmpty _ 7 [] [] (by simp) (by simp) (by simp)
          exact ⟨⟨by unfold jPl; dsimp only; exact Nat.le_trans k1 (by decide), fun es he => Nat.le_trans (k2 es he) (by decide)⟩, Nat.le_trans k3 (by decide)⟩
        · exact hz
set_option maxHeartbeats 4000000 in
theorem s_reads (s : ByteArray) (hs : s.size ≤ 900000000) : PCT Tryz.prog TabP 3 [.v (.string s)] (.v (.bool true)) := by
  have hA := p_alive24
  have h1 := p_sParse s (by unfold Sm; omega)
  have h2 := p_rsParse s hs
  have h3 := p_rLike (plan s).1 (plan_small s).1 (plan_small s).2
  generalize (plan s).1 = p at *
  generalize (plan s).2.1 = e at *
  generalize (plan s).2.2 = n at *
  unfold Pl.av at *
  refine PCT.mk (act_body tab_ok Tryz.func3 rfl (by kernel_rfl) rfl ?_); intro w0 M μ0 hG; simp only [Tryz.ntmps3, List.length_cons, List.length_nil, Nat.reduceAdd, Nat.reduceSub, numb] at hG ⊢
  repeat' (first | ((first | apply o_do | apply d_do | apply d_yes rfl rfl rfl); first | exact lsc (hA) | focus (apply ls_callT hG h1 rfl rfl _ rfl rfl; (repeat' (first | exact NilL.nil | refine NilL.cons Nil.same ?_ | refine NilL.cons Nil.nil ?_ | refine NilL.cons (Nil.agg ?_) ?_ | exact Nil1s.nil | refine Nil1s.cons Nil1.same ?_ | refine Nil1s.cons Nil1.nil ?_)); done) | exact lsc (h2) | exact lsc (h3) | exact lsq) | refine a_seq ?_ | refine a_region ?_ | refine o_nil ?_ | refine a_block ?_ | refine a_ret ?_ | refine a_exit ?_ | refine a_skip ?_ | refine a_draw mixed ?_ | refine d_nil (by kernel_rfl) ?_ | refine o_yes rfl rfl rfl ?_ | refine o_no rfl rfl rfl (by decide) ?_ | refine o_no' rfl rfl rfl ?_ | refine a_condT rfl ?_ | refine a_condF rfl ?_ | refine d_no rfl rfl rfl (by decide) ?_ | refine d_no' rfl rfl rfl ?_ | (refine wq2 (fun hb => ?_) (fun hb => ?_) <;> (simp only [hb]; try simp only [hbs, ne_eq] at hb; try (exfalso; first | omega | exact hb trivial))) | fail)
  all_goals refine rq rfl ?_
  all_goals (first | refine FinA.tup ?_ | refine FinA.one ?_); repeat' (first | exact FinBs.nil | exact FinCs.nil | refine FinBs.cons ?_ ?_ | refine FinCs.cons ?_ ?_ | refine FinB.cell (FinC.v ?_) | refine FinB.cell (FinC.own rfl rfl rfl ?_) | exact FinB.cell FinC.nil | refine FinB.cell (FinC.sl ?_) | exact FinB.agg' rfl rfl | exact FinB.cell (FinC.same rfl) | refine FinB.agg ?_ | refine FinC.v ?_ | refine FinC.own rfl rfl rfl ?_ | exact FinC.nil | refine FinC.sl ?_ | exact FinC.same rfl); all_goals try rfl
  all_goals simp
end Go.Proofs.YtbhblhcgfenobaaGreatDoor
namespace Go.Proofs.YtbhblhcgfenobaaGreatDoor
open Go.RowKit
set_option linter.unusedSimpArgs false
set_option linter.unusedVariables false
/-! what stands in the words -/
theorem ito_chars (v : Int) : ∀ c ∈ (itoB v).data.toList, c.toNat = 45 ∨ (48 ≤ c.toNat ∧ c.toNat ≤ 57) := by
  intro c hc
  rcases Int.lt_or_le v 0 with h | h
  · obtain ⟨u, rfl⟩ : ∃ u : Nat, v = -(u : Int) := ⟨v.natAbs, by omega⟩
    rw [itoB_neg (by omega)] at hc
    rcases List.mem_cons.1 hc with rfl | hc
    · exact .inl rfl
    · exact .inr (dig_all u c hc)
  · obtain ⟨u, rfl⟩ : ∃ u : Nat, v = (u : Int) := ⟨v.toNat, by omega⟩
    rw [itoB_nat] at hc
    exact .inr (dig_all u c hc)
theorem ito_not (v : Int) (c : UInt8) (h : c.toNat ≠ 45 ∧ (c.toNat < 48 ∨ 57 < c.toNat)) : c ∉ (itoB v).data.toList := by
  intro hc
  rcases ito_chars v c hc with h2 | h2 <;> omega
theorem let_chars {s : ByteArray} (h : letB s = true) : ∀ c ∈ s.data.toList, 97 ≤ c.toNat ∧ c.toNat ≤ 122 := by
  unfold letB at h
  rw [List.all_eq_true] at h
  intro c hc
  simpa using h c hc
theorem let_not {s : ByteArray} (h : letB s = true) (c : UInt8) (hc : c.toNat < 97) : c ∉ s.data.toList := by
  intro hm
  have := let_chars h c hm
  omega
/-- an event that may stand in a script -/
def evG (e : Et) : Prop := letB e.key = true ∧ evR e.key e.at' = true ∧ i64 e.v
theorem evG_at {e : Et} (h : evG e) : i64 e.at' := (evR_facts h.2.1).2
theorem evW_list (e : Et) : (evW e).data.toList = e.key.data.toList ++ 64 :: ((itoB e.at').data.toList ++ 58 :: (itoB e.v).data.toList) := by
  unfold evW
  simp [ByteArray.data_append]
theorem evW_not {e : Et} (h : evG e) (c : UInt8) (hc : c.toNat = 10 ∨ c.toNat = 32) : c ∉ (evW e).data.toList := by
  rw [evW_list]
  intro hm
  rcases List.mem_append.1 hm with hm | hm
  · exact let_not h.1 c (by omega) hm
  · rcases List.mem_cons.1 hm with rfl | hm
    · revert hc; decide
    · rcases List.mem_append.1 hm with hm | hm
      · exact ito_not _ c (by omega) hm
      · rcases List.mem_cons.1 hm with rfl | hm
        · revert hc; decide
        · exact ito_not _ c (by omega) hm
theorem ev_back {e : Et} (h : evG e) : evOK (evW e) = true ∧ evP (evW e) = e := by
  have hl := evW_list e
  obtain ⟨a1, a2, a3⟩ := cutc_at hl (let_not h.1 64 (by decide))
  obtain ⟨b1, b2, b3⟩ := cutc_at (s := mkB ((itoB e.at').data.toList ++ 58 :: (itoB e.v).data.toList)) (c := 58) rfl (ito_not e.at' 58 (by decide))
  rw [mkB_self] at a2 b2 b3
  obtain ⟨t1, t2⟩ := whole_back (evG_at h)
  obtain ⟨v1, v2⟩ := whole_back h.2.2
  unfold evOK evP evT evV evK
  rw [a1, a2, a3, b1, b2, b3, t1, t2, v1, v2, h.1, h.2.1]
  exact ⟨rfl, rfl⟩
theorem ev_once {s : ByteArray} (h : evOK s = true) : evG (evP s) ∧ s = evW (evP s) := by
  unfold evOK at h
  simp only [Bool.and_eq_true] at h
  obtain ⟨h1, h2, h3, h4, h5, h6⟩ := h
  obtain ⟨t1, t2⟩ := whole_once h3
  obtain ⟨v1, v2⟩ := whole_once h4
  refine ⟨⟨h5, h6, v1⟩, ?_⟩
  have k1 : s.data.toList = (evK s).data.toList ++ 64 :: (cutB s (oneB 64)).data.toList := by
    by_cases hm : (64 : UInt8) ∈ s.data.toList
    · obtain ⟨l, r, e, hl⟩ := mem_split 64 _ hm
      obtain ⟨_, e1, e2⟩ := cutc_at e hl
      unfold evK
      rw [e1, e2, mkB_list, mkB_list]; exact e
    · rw [(cutc_no hm).1] at h1; cases h1
  have k2 : (cutB s (oneB 64)).data.toList = (evT s).data.toList ++ 58 :: (evV s).data.toList := by
    by_cases hm : (58 : UInt8) ∈ (cutB s (oneB 64)).data.toList
    · obtain ⟨l, r, e, hl⟩ := mem_split 58 _ hm
      obtain ⟨_, e1, e2⟩ := cutc_at e hl
      unfold evT evV
      rw [e1, e2, mkB_list, mkB_list]; exact e
    · rw [(cutc_no hm).1] at h2; cases h2
  apply bytes_ext2
  rw [evW_list]
  unfold evP
  dsimp only
  rw [← t2, ← v2, k1, k2]
def srcG (es : List Et) : Prop := es.length ≤ 200 ∧ ∀ e ∈ es, evG e
theorem src_back {es : List Et} (h : srcG es) : srcO (es.map evW) = some es := by
  unfold srcO
  rw [if_pos ⟨by rw [List.length_map]; exact h.1, by
    rw [List.all_eq_true]
    intro w hw
    obtain ⟨e, he, rfl⟩ := List.mem_map.1 hw
    exact (ev_back (h.2 e he)).1⟩, List.map_map]
  congr 1
  have : ∀ e ∈ es, (evP ∘ evW) e = id e := fun e he => (ev_back (h.2 e he)).2
  rw [List.map_congr_left this, List.map_id]
theorem src_once {ws : List ByteArray} {es : List Et} (h : srcO ws = some es) : srcG es ∧ ws = es.map evW := by
  obtain ⟨k1, k2, rfl⟩ := srcO_yes h
  rw [List.all_eq_true] at k2
  refine ⟨⟨by rw [List.length_map]; exact k1, fun e he => ?_⟩, ?_⟩
  · obtain ⟨w, hw, rfl⟩ := List.mem_map.1 he
    exact (ev_once (k2 w hw)).1
  · rw [List.map_map]
    have : ∀ w ∈ ws, id w = (evW ∘ evP) w := fun w hw => (ev_once (k2 w hw)).2
    rw [← List.map_congr_left this, List.map_id]
theorem wd_not (k : Nat) (c : UInt8) (hc : c.toNat = 10 ∨ c.toNat = 32) : c ∉ (wdB k).data.toList := by
  have h1 : (10 : UInt8) ∉ (wdB k).data.toList ∧ (32 : UInt8) ∉ (wdB k).data.toList := by
    rcases k with _ | _ | _ | _ | _ | _ | _ | _ | _ | _ | k
    all_goals first | decide | (constructor <;> (intro h; cases h))
  rcases hc with hc | hc
  · have : c = 10 := by
      have e3 : UInt8.ofNat c.toNat = UInt8.ofNat 10 := by rw [hc]
      rw [UInt8.ofNat_toNat] at e3; exact e3
    rw [this]; exact h1.1
  · have : c = 32 := by
      have e3 : UInt8.ofNat c.toNat = UInt8.ofNat 32 := by rw [hc]
      rw [UInt8.ofNat_toNat] at e3; exact e3
    rw [this]; exact h1.2
theorem wdB_inj {j k : Nat} (hj : j < 10) (hk : k < 10) (h : (wdB j).toList = (wdB k).toList) : j = k := by
  rw [ByteArray.toList_eq, ByteArray.toList_eq] at h
  revert h
  revert j k
  have key : ∀ j : Fin 10, ∀ k : Fin 10, (wdB j.1).data.toList = (wdB k.1).data.toList → j = k := by decide
  intro j k hj hk h
  exact congrArg Fin.val (key ⟨j, hj⟩ ⟨k, hk⟩ h)
theorem wdB_src {k : Nat} (hk : k < 10) : ((wdB k).toList == srcB.toList) = false := by
  rw [beq_eq_false_iff_ne, ByteArray.toList_eq, ByteArray.toList_eq]
  have key : ∀ k : Fin 10, (wdB k.1).data.toList ≠ srcB.data.toList := by decide
  exact key ⟨k, hk⟩
theorem wdIx_back {k : Nat} (hk : k < 10) : wdIx (wdB k) = some k := by
  cases h : wdIx (wdB k) with
  | none =>
    have := wdIx_none h k hk
    simp at this
  | some j =>
    obtain ⟨h1, _, h3⟩ := wdIx_some h
    rw [wdB_inj h1 hk (by simpa using h3)]
theorem ac_what {a : Ac} (h : acOK a = true) : ∃ k : Nat, k < 10 ∧ a.what = (k : Int) := by
  unfold acOK at h
  split at h
  · rename_i h1
    exact ⟨a.what.toNat, by omega, by omega⟩
  · cases h
theorem ac_back {a : Ac} (h : acOK a = true) : actO (acW a) = some a := by
  obtain ⟨k, hk, e⟩ := ac_what h
  obtain ⟨what, who, which⟩ := a
  dsimp only at e
  subst e
  unfold acOK at h
  dsimp only at h
  rw [if_pos ⟨by omega, by omega⟩, Int.toNat_natCast] at h
  unfold acW
  dsimp only
  rw [Int.toNat_natCast]
  have hx := wdIx_back hk
  rcases wdN_in k with h0 | h0 | h0
  · have e1 : ¬ wdN k = 1 := by rw [h0]; decide
    have e2 : ¬ wdN k = 2 := by rw [h0]; decide
    simp only [if_neg e1, if_neg e2, Bool.and_eq_true, decide_eq_true_eq] at h ⊢
    obtain ⟨rfl, rfl⟩ := h
    rw [actO_some hx]
    simp [okA, aA, h0]
  · simp only [if_pos h0, Bool.and_eq_true, decide_eq_true_eq, smB] at h ⊢
    obtain ⟨⟨h1, h2⟩, rfl⟩ := h
    obtain ⟨n1, n2⟩ := num_back (n := which) h1 (by omega)
    rw [actO_some hx]
    simp [okA, aA, mkA, h0, n1, n2, h2]
  · have e1 : ¬ wdN k = 1 := by rw [h0]; decide
    simp only [if_neg e1, if_pos h0, Bool.and_eq_true, decide_eq_true_eq, smB] at h ⊢
    obtain ⟨⟨h1, h2⟩, rfl⟩ := h
    obtain ⟨n1, n2⟩ := num_back (n := who) h1 (by omega)
    rw [actO_some hx]
    simp [okA, aA, mkA, h0, n1, n2, h2]
theorem ac_once {ws : List ByteArray} {a : Ac} (h : actO ws = some a) : acOK a = true ∧ ws = acW a := by
  match ws, h with
  | [], h => cases h
  | w :: r, h =>
    cases hx : wdIx w with
    | none => rw [actO_none hx] at h; cases h
    | some k =>
      rw [actO_some hx] at h
      obtain ⟨hk, _, hw⟩ := wdIx_some hx
      have hw : wdB k = w := bytes_ext (by simpa using hw)
      subst hw
      split at h
      · rename_i hok
        injection h with h
        subst h
        unfold okA at hok
        unfold aA
        rcases wdN_in k with h0 | h0 | h0
        · rw [if_pos h0] at hok ⊢
          have hr : r = [] := List.eq_nil_of_length_eq_zero (by simpa using hok)
          subst hr
          unfold acOK acW
          dsimp only
          rw [if_pos ⟨by omega, by omega⟩, Int.toNat_natCast]
          have e1 : ¬ wdN k = 1 := by rw [h0]; decide
          have e2 : ¬ wdN k = 2 := by rw [h0]; decide
          simp only [if_neg e1, if_neg e2]
          exact ⟨by decide, trivial⟩
        · rw [if_neg (by rw [h0]; decide)] at hok ⊢
          match r, hok with
          | [], hok => cases hok
          | [x], hok =>
            simp only [Bool.and_eq_true, decide_eq_true_eq] at hok
            obtain ⟨n, hn, rfl, e⟩ := num_in hok.1
            unfold mkA
            dsimp only
            rw [if_pos h0, e]
            rw [e] at hok
            unfold acOK acW
            dsimp only
            rw [if_pos ⟨by omega, by omega⟩, Int.toNat_natCast]
            simp only [if_pos h0]
            exact ⟨by simp [smB, hn.1, hok.2], trivial⟩
          | _ :: _ :: _, hok => cases hok
        · rw [if_neg (by rw [h0]; decide)] at hok ⊢
          match r, hok with
          | [], hok => cases hok
          | [x], hok =>
            simp only [Bool.and_eq_true, decide_eq_true_eq] at hok
            obtain ⟨n, hn, rfl, e⟩ := num_in hok.1
            unfold mkA
            have e1 : ¬ wdN k = 1 := by rw [h0]; decide
            dsimp only
            rw [if_neg e1, e]
            rw [e] at hok
            unfold acOK acW
            dsimp only
            rw [if_pos ⟨by omega, by omega⟩, Int.toNat_natCast]
            simp only [if_neg e1, if_pos h0]
            exact ⟨by simp [smB, hn.1, hok.2], trivial⟩
          | _ :: _ :: _, hok => cases hok
      · cases h
end Go.Proofs.YtbhblhcgfenobaaGreatDoor
