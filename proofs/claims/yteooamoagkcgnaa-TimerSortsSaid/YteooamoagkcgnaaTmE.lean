/-
  Timers, walked over abstract values: a heap's methods.
-/
import Derived.Test.YteooamoagkcgnaaTmD
namespace Go.Proofs.Yteooamoagkcgnaa
open Go.RowKit
set_option linter.unusedSimpArgs false
set_option linter.unusedVariables false
section
variable {P : Program} {Γ : Ctx} {s : ASt} {dst : Option Tmp} {ty yt : TypeId} {pos : String} {after : Array Edge}
theorem run_eqPtr {t e : TypeId} (hu : P.underlying t = some (.pointer e)) (p q : Option Addr) (h : p = none ∨ q = none) (w : World) : (Op.equal t (.pointer p) (.pointer q)).run P w = .ok (p.isNone && q.isNone) w := by
  unfold Op.equal Op.maxDepth
  unfold Op.equalIn
  rcases h with rfl | rfl
  · simp [run_underlying hu]
  · cases p <;> simp [run_underlying hu]
theorem ls_eqRef {xt e : TypeId} {x y : Operand} {id off : Nat} (hu : P.underlying xt = some (.pointer e)) (hx : ev s x = some (.ref id off)) (hy : ev s y = some (.v (.pointer none))) (hd : okDst Γ.n dst = true) : LS P Γ ⟨dst, .binOp .eql xt x y yt, ty, pos, after, none⟩ s (rd x (rd y [])) (dst1 dst (.v (.bool false))) [] :=
  ls_pure hd fun t' ht μ a w hr => by
    obtain ⟨e1, ht⟩ := ht.ev hx
    obtain ⟨e2, ht⟩ := ht.ev hy
    have e1 := hr.ev e1
    have e2 := hr.ev e2
    simp only [rep] at e1 e2 ⊢
    obtain ⟨bt, cs, g, _, _, _, e6⟩ := e1
    refine ⟨.bool false, ?_, rfl, rfl⟩
    have h := run_eqPtr hu (some ⟨g, off, none⟩) none (.inr rfl) w
    simp [execOp, e6, e2.1, eqGuard, binOp, h]
theorem ls_neRef {xt e : TypeId} {x y : Operand} {id off : Nat} (hu : P.underlying xt = some (.pointer e)) (hx : ev s x = some (.ref id off)) (hy : ev s y = some (.v (.pointer none))) (hd : okDst Γ.n dst = true) : LS P Γ ⟨dst, .binOp .neq xt x y yt, ty, pos, after, none⟩ s (rd x (rd y [])) (dst1 dst (.v (.bool true))) [] :=
  ls_pure hd fun t' ht μ a w hr => by
    obtain ⟨e1, ht⟩ := ht.ev hx
    obtain ⟨e2, ht⟩ := ht.ev hy
    have e1 := hr.ev e1
    have e2 := hr.ev e2
    simp only [rep] at e1 e2 ⊢
    obtain ⟨bt, cs, g, _, _, _, e6⟩ := e1
    refine ⟨.bool true, ?_, rfl, rfl⟩
    have h := run_eqPtr hu (some ⟨g, off, none⟩) none (.inr rfl) w
    simp [execOp, e6, e2.1, eqGuard, binOp, h]
theorem ls_eqNil {xt e : TypeId} {x y : Operand} (hu : P.underlying xt = some (.pointer e)) (hx : ev s x = some (.v (.pointer none))) (hy : ev s y = some (.v (.pointer none))) (hd : okDst Γ.n dst = true) : LS P Γ ⟨dst, .binOp .eql xt x y yt, ty, pos, after, none⟩ s (rd x (rd y [])) (dst1 dst (.v (.bool true))) [] :=
  ls_pure hd fun t' ht μ a w hr => by
    obtain ⟨e1, ht⟩ := ht.ev hx
    obtain ⟨e2, ht⟩ := ht.ev hy
    have e1 := hr.ev e1
    have e2 := hr.ev e2
    simp only [rep] at e1 e2 ⊢
    refine ⟨.bool true, ?_, rfl, rfl⟩
    have h := run_eqPtr hu none none (.inr rfl) w
    simp [execOp, e1.1, e2.1, eqGuard, binOp, h]
theorem ls_neNil {xt e : TypeId} {x y : Operand} (hu : P.underlying xt = some (.pointer e)) (hx : ev s x = some (.v (.pointer none))) (hy : ev s y = some (.v (.pointer none))) (hd : okDst Γ.n dst = true) : LS P Γ ⟨dst, .binOp .neq xt x y yt, ty, pos, after, none⟩ s (rd x (rd y [])) (dst1 dst (.v (.bool false))) [] :=
  ls_pure hd fun t' ht μ a w hr => by
    obtain ⟨e1, ht⟩ := ht.ev hx
    obtain ⟨e2, ht⟩ := ht.ev hy
    have e1 := hr.ev e1
    have e2 := hr.ev e2
    simp only [rep] at e1 e2 ⊢
    refine ⟨.bool false, ?_, rfl, rfl⟩
    have h := run_eqPtr hu none none (.inr rfl) w
    simp [execOp, e1.1, e2.1, eqGuard, binOp, h]
end
abbrev uH := Try.underlying23
theorem a_New : AC Try.prog 9 [] [] (.ref 0 0) [(0, .box 50 [.v (.slice none 0 0)])] := by
  refine (ac_body tab_ok Try.func9 rfl (by kernel_rfl) rfl ?_); intro w0 M μ0; simp only [Try.ntmps9, List.length_cons, List.length_nil, Nat.reduceAdd, Nat.reduceSub, numb]
  repeat' (first | ((first | apply o_do | apply d_do | apply d_yes rfl rfl rfl); exact lsq) | refine a_seq ?_ | refine a_region ?_ | refine o_nil ?_ | refine a_block ?_ | refine a_ret ?_ | refine a_exit ?_ | refine a_skip ?_ | refine a_draw mixed ?_ | refine d_nil (by kernel_rfl) ?_ | refine o_yes rfl rfl rfl ?_ | refine o_no rfl rfl rfl (by decide) ?_ | refine o_no' rfl rfl rfl ?_ | refine a_condT rfl ?_ | refine a_condF rfl ?_ | refine d_no rfl rfl rfl (by decide) ?_ | refine d_no' rfl rfl rfl ?_ | (refine wq2 (fun hb => ?_) (fun hb => ?_) <;> (simp only [hb]; try simp only [hbs, ne_eq] at hb; try (exfalso; first | omega | exact hb trivial))) | fail)
  refine ⟨by first | exact .inr rfl | exact .inl rfl, _, rfl, ?_, by repeat' (first | exact trivial | refine ⟨⟨_, rfl, by first | rfl | (simp [renO, *]; done)⟩, by first | rfl | assumption, ?_⟩)⟩
  (first | refine FinA.tup ?_ | refine FinA.one ?_); repeat' (first | exact FinBs.nil | exact FinCs.nil | refine FinBs.cons ?_ ?_ | refine FinCs.cons ?_ ?_ | refine FinB.cell (FinC.v ?_) | refine FinB.cell (FinC.own rfl rfl rfl ?_) | exact FinB.cell FinC.nil | refine FinB.cell (FinC.sl ?_) | exact FinB.agg' rfl rfl | exact FinB.cell (FinC.same rfl) | refine FinB.agg ?_ | refine FinC.v ?_ | refine FinC.own rfl rfl rfl ?_ | exact FinC.nil | refine FinC.sl ?_ | exact FinC.same rfl); all_goals try rfl
theorem a_HLen (r : List Tm) : AC Try.prog 13 [.ref 0 0] (HS r) (.v (.int .i64 r.length)) (HS r) := by
  unfold HS
  refine (ac_body tab_ok Try.func13 rfl (by kernel_rfl) rfl ?_); intro w0 M μ0; simp only [Try.ntmps13, List.length_cons, List.length_nil, Nat.reduceAdd, Nat.reduceSub, numb]
  repeat' (first | ((first | apply o_do | apply d_do | apply d_yes rfl rfl rfl); first | exact ls_eqRef uH rfl rfl rfl | exact ls_nilCheck rfl rfl | exact lsq) | refine a_seq ?_ | refine a_region ?_ | refine o_nil ?_ | refine a_block ?_ | refine a_ret ?_ | refine a_exit ?_ | refine a_skip ?_ | refine a_draw mixed ?_ | refine d_nil (by kernel_rfl) ?_ | refine o_yes rfl rfl rfl ?_ | refine o_no rfl rfl rfl (by decide) ?_ | refine o_no' rfl rfl rfl ?_ | refine a_condT rfl ?_ | refine a_condF rfl ?_ | refine d_no rfl rfl rfl (by decide) ?_ | refine d_no' rfl rfl rfl ?_ | (refine wq2 (fun hb => ?_) (fun hb => ?_) <;> (simp only [hb]; try simp only [hbs, ne_eq] at hb; try (exfalso; first | omega | exact hb trivial))) | fail)
  refine ⟨by first | exact .inr rfl | exact .inl rfl, _, rfl, ?_, by repeat' (first | exact trivial | refine ⟨⟨_, rfl, by first | rfl | (simp [renO, *]; done)⟩, by first | rfl | assumption, ?_⟩)⟩
  (first | refine FinA.tup ?_ | refine FinA.one ?_); repeat' (first | exact FinBs.nil | exact FinCs.nil | refine FinBs.cons ?_ ?_ | refine FinCs.cons ?_ ?_ | refine FinB.cell (FinC.v ?_) | refine FinB.cell (FinC.own rfl rfl rfl ?_) | exact FinB.cell FinC.nil | refine FinB.cell (FinC.sl ?_) | exact FinB.agg' rfl rfl | exact FinB.cell (FinC.same rfl) | refine FinB.agg ?_ | refine FinC.v ?_ | refine FinC.own rfl rfl rfl ?_ | exact FinC.nil | refine FinC.sl ?_ | exact FinC.same rfl); all_goals try rfl
  simp
theorem p_HLenNil : PC Try.prog 13 [.v (.pointer none)] (.v (.int .i64 0)) := by
  refine PC.mk (ac_body tab_ok Try.func13 rfl (by kernel_rfl) rfl ?_); intro w0 M μ0; simp only [Try.ntmps13, List.length_cons, List.length_nil, Nat.reduceAdd, Nat.reduceSub, numb]
  repeat' (first | ((first | apply o_do | apply d_do | apply d_yes rfl rfl rfl); first | exact ls_eqNil uH rfl rfl rfl | exact lsq) | refine a_seq ?_ | refine a_region ?_ | refine o_nil ?_ | refine a_block ?_ | refine a_ret ?_ | refine a_exit ?_ | refine a_skip ?_ | refine a_draw mixed ?_ | refine d_nil (by kernel_rfl) ?_ | refine o_yes rfl rfl rfl ?_ | refine o_no rfl rfl rfl (by decide) ?_ | refine o_no' rfl rfl rfl ?_ | refine a_condT rfl ?_ | refine a_condF rfl ?_ | refine d_no rfl rfl rfl (by decide) ?_ | refine d_no' rfl rfl rfl ?_ | (refine wq2 (fun hb => ?_) (fun hb => ?_) <;> (simp only [hb]; try simp only [hbs, ne_eq] at hb; try (exfalso; first | omega | exact hb trivial))) | fail)
  refine ⟨by first | exact .inr rfl | exact .inl rfl, _, rfl, ?_, by repeat' (first | exact trivial | refine ⟨⟨_, rfl, by first | rfl | (simp [renO, *]; done)⟩, by first | rfl | assumption, ?_⟩)⟩
  (first | refine FinA.tup ?_ | refine FinA.one ?_); repeat' (first | exact FinBs.nil | exact FinCs.nil | refine FinBs.cons ?_ ?_ | refine FinCs.cons ?_ ?_ | refine FinB.cell (FinC.v ?_) | refine FinB.cell (FinC.own rfl rfl rfl ?_) | exact FinB.cell FinC.nil | refine FinB.cell (FinC.sl ?_) | exact FinB.agg' rfl rfl | exact FinB.cell (FinC.same rfl) | refine FinB.agg ?_ | refine FinC.v ?_ | refine FinC.own rfl rfl rfl ?_ | exact FinC.nil | refine FinC.sl ?_ | exact FinC.same rfl); all_goals try rfl
set_option maxHeartbeats 1000000 in
theorem a_HPush (r : List Tm) (t : Tm) (hm : r.length ≤ 900) : AC Try.prog 10 [.ref 0 0, .agg t.av] (HS r) (.tup []) (HS (hpush tLt tmZ r t)) := by
  have h := a_hPush r t hm
  unfold HS at h ⊢
  unfold Tm.av Tm.vals at *
  refine (ac_body tab_ok Try.func10 rfl (by kernel_rfl) rfl ?_); intro w0 M μ0; simp only [Try.ntmps10, List.length_cons, List.length_nil, Nat.reduceAdd, Nat.reduceSub, numb]
  repeat' (first | ((first | apply o_do | apply d_do | apply d_yes rfl rfl rfl); first | exact ls_neRef uH rfl rfl rfl | exact ls_nilCheck rfl rfl | exact ls_mkIfr rfl plR rfl | exact ls_mkIfa rfl rfl plT rfl | exact ls_callA [0, 1] 5 h rfl rfl (by (repeat' (first | exact NilL.nil | refine NilL.cons Nil.same ?_ | refine NilL.cons Nil.nil ?_ | refine NilL.cons (Nil.agg ?_) ?_ | exact Nil1s.nil | refine Nil1s.cons Nil1.same ?_ | refine Nil1s.cons Nil1.nil ?_)); first | done | fail) rfl (by repeat' (first | exact trivial | refine ⟨⟨_, rfl, by first | rfl | (simp [renO, *]; done)⟩, ?_⟩)) (by first | rfl | simp [closO, *]) rfl rfl rfl rfl (by first | rfl | simp [closO, *]) rfl | exact lsq) | refine a_seq ?_ | refine a_region ?_ | refine o_nil ?_ | refine a_block ?_ | refine a_ret ?_ | refine a_exit ?_ | refine a_skip ?_ | refine a_draw mixed ?_ | refine d_nil (by kernel_rfl) ?_ | refine o_yes rfl rfl rfl ?_ | refine o_no rfl rfl rfl (by decide) ?_ | refine o_no' rfl rfl rfl ?_ | refine a_condT rfl ?_ | refine a_condF rfl ?_ | refine d_no rfl rfl rfl (by decide) ?_ | refine d_no' rfl rfl rfl ?_ | (refine wq2 (fun hb => ?_) (fun hb => ?_) <;> (simp only [hb]; try simp only [hbs, ne_eq] at hb; try (exfalso; first | omega | exact hb trivial))) | fail)
  refine ⟨by first | exact .inr rfl | exact .inl rfl, _, rfl, ?_, by repeat' (first | exact trivial | refine ⟨⟨_, rfl, by first | rfl | (simp [renO, *]; done)⟩, by first | rfl | assumption, ?_⟩)⟩
  (first | refine FinA.tup ?_ | refine FinA.one ?_); repeat' (first | exact FinBs.nil | exact FinCs.nil | refine FinBs.cons ?_ ?_ | refine FinCs.cons ?_ ?_ | refine FinB.cell (FinC.v ?_) | refine FinB.cell (FinC.own rfl rfl rfl ?_) | exact FinB.cell FinC.nil | refine FinB.cell (FinC.sl ?_) | exact FinB.agg' rfl rfl | exact FinB.cell (FinC.same rfl) | refine FinB.agg ?_ | refine FinC.v ?_ | refine FinC.own rfl rfl rfl ?_ | exact FinC.nil | refine FinC.sl ?_ | exact FinC.same rfl); all_goals try rfl
theorem p_HPushNil (t : Tm) : PC Try.prog 10 [.v (.pointer none), .agg t.av] (.tup []) := by
  unfold Tm.av
  refine PC.mk (ac_body tab_ok Try.func10 rfl (by kernel_rfl) rfl ?_); intro w0 M μ0; simp only [Try.ntmps10, List.length_cons, List.length_nil, Nat.reduceAdd, Nat.reduceSub, numb]
  repeat' (first | ((first | apply o_do | apply d_do | apply d_yes rfl rfl rfl); first | exact ls_neNil uH rfl rfl rfl | exact lsq) | refine a_seq ?_ | refine a_region ?_ | refine o_nil ?_ | refine a_block ?_ | refine a_ret ?_ | refine a_exit ?_ | refine a_skip ?_ | refine a_draw mixed ?_ | refine d_nil (by kernel_rfl) ?_ | refine o_yes rfl rfl rfl ?_ | refine o_no rfl rfl rfl (by decide) ?_ | refine o_no' rfl rfl rfl ?_ | refine a_condT rfl ?_ | refine a_condF rfl ?_ | refine d_no rfl rfl rfl (by decide) ?_ | refine d_no' rfl rfl rfl ?_ | (refine wq2 (fun hb => ?_) (fun hb => ?_) <;> (simp only [hb]; try simp only [hbs, ne_eq] at hb; try (exfalso; first | omega | exact hb trivial))) | fail)
  refine ⟨by first | exact .inr rfl | exact .inl rfl, _, rfl, ?_, by repeat' (first | exact trivial | refine ⟨⟨_, rfl, by first | rfl | (simp [renO, *]; done)⟩, by first | rfl | assumption, ?_⟩)⟩
  (first | refine FinA.tup ?_ | refine FinA.one ?_); repeat' (first | exact FinBs.nil | exact FinCs.nil | refine FinBs.cons ?_ ?_ | refine FinCs.cons ?_ ?_ | refine FinB.cell (FinC.v ?_) | refine FinB.cell (FinC.own rfl rfl rfl ?_) | exact FinB.cell FinC.nil | refine FinB.cell (FinC.sl ?_) | exact FinB.agg' rfl rfl | exact FinB.cell (FinC.same rfl) | refine FinB.agg ?_ | refine FinC.v ?_ | refine FinC.own rfl rfl rfl ?_ | exact FinC.nil | refine FinC.sl ?_ | exact FinC.same rfl); all_goals try rfl
set_option maxHeartbeats 1000000 in
theorem a_HPop (r : List Tm) (h0 : 0 < r.length) (hm : r.length ≤ 1000) : AC Try.prog 11 [.ref 0 0] (HS r) (.tup [.agg (r.getD 0 tmZ).av, .v (.bool true)]) [(0, .box 50 [.own 23 ((hpop tLt tmZ r).map Tm.av).length]), (1, .dead), (23, .row 27 2 ((hpop tLt tmZ r).map Tm.av))] := by
  have h1 := a_HLen r
  have h2 := a_hPop r h0 hm
  unfold HS at h1 h2 ⊢
  unfold Tm.vals at h2
  unfold Tm.av
  generalize r.getD 0 tmZ = a at *
  generalize hpop tLt tmZ r = R at *
  refine (ac_body tab_ok Try.func11 rfl (by kernel_rfl) rfl ?_); intro w0 M μ0; simp only [Try.ntmps11, List.length_cons, List.length_nil, Nat.reduceAdd, Nat.reduceSub, numb]
  repeat' (first | ((first | apply o_do | apply d_do | apply d_yes rfl rfl rfl); first | exact ls_nilCheck rfl rfl | exact ls_mkIfr rfl plR rfl | exact ls_callA [0, 1] 8 h1 rfl rfl (by (repeat' (first | exact NilL.nil | refine NilL.cons Nil.same ?_ | refine NilL.cons Nil.nil ?_ | refine NilL.cons (Nil.agg ?_) ?_ | exact Nil1s.nil | refine Nil1s.cons Nil1.same ?_ | refine Nil1s.cons Nil1.nil ?_)); first | done | fail) rfl (by repeat' (first | exact trivial | refine ⟨⟨_, rfl, by first | rfl | (simp [renO, *]; done)⟩, ?_⟩)) (by first | rfl | simp [closO, *]) rfl rfl rfl rfl (by first | rfl | simp [closO, *]) rfl | exact ls_callA [0, 1] 8 h2 rfl rfl (by (repeat' (first | exact NilL.nil | refine NilL.cons Nil.same ?_ | refine NilL.cons Nil.nil ?_ | refine NilL.cons (Nil.agg ?_) ?_ | exact Nil1s.nil | refine Nil1s.cons Nil1.same ?_ | refine Nil1s.cons Nil1.nil ?_)); first | done | fail) rfl (by repeat' (first | exact trivial | refine ⟨⟨_, rfl, by first | rfl | (simp [renO, *]; done)⟩, ?_⟩)) (by first | rfl | simp [closO, *]) rfl rfl rfl rfl (by first | rfl | simp [closO, *]) rfl | exact ls_assertOk rfl plT rfl | exact lsq) | refine a_seq ?_ | refine a_region ?_ | refine o_nil ?_ | refine a_block ?_ | refine a_ret ?_ | refine a_exit ?_ | refine a_skip ?_ | refine a_draw mixed ?_ | refine d_nil (by kernel_rfl) ?_ | refine o_yes rfl rfl rfl ?_ | refine o_no rfl rfl rfl (by decide) ?_ | refine o_no' rfl rfl rfl ?_ | refine a_condT rfl ?_ | refine a_condF rfl ?_ | refine d_no rfl rfl rfl (by decide) ?_ | refine d_no' rfl rfl rfl ?_ | (refine wq2 (fun hb => ?_) (fun hb => ?_) <;> (simp only [hb]; try simp only [hbs, ne_eq] at hb; try (exfalso; first | omega | exact hb trivial))) | fail)
  refine ⟨by first | exact .inr rfl | exact .inl rfl, _, rfl, ?_, by repeat' (first | exact trivial | refine ⟨⟨_, rfl, by first | rfl | (simp [renO, *]; done)⟩, by first | rfl | assumption, ?_⟩)⟩
  (first | refine FinA.tup ?_ | refine FinA.one ?_); repeat' (first | exact FinBs.nil | exact FinCs.nil | refine FinBs.cons ?_ ?_ | refine FinCs.cons ?_ ?_ | refine FinB.cell (FinC.v ?_) | refine FinB.cell (FinC.own rfl rfl rfl ?_) | exact FinB.cell FinC.nil | refine FinB.cell (FinC.sl ?_) | exact FinB.agg' rfl rfl | exact FinB.cell (FinC.same rfl) | refine FinB.agg ?_ | refine FinC.v ?_ | refine FinC.own rfl rfl rfl ?_ | exact FinC.nil | refine FinC.sl ?_ | exact FinC.same rfl); all_goals try rfl
theorem a_HPop0 : AC Try.prog 11 [.ref 0 0] (HS []) (.tup [.agg tmZ.av, .v (.bool false)]) (HS []) := by
  have h1 := a_HLen []
  unfold HS at h1 ⊢
  refine (ac_body tab_ok Try.func11 rfl (by kernel_rfl) rfl ?_); intro w0 M μ0; simp only [Try.ntmps11, List.length_cons, List.length_nil, Nat.reduceAdd, Nat.reduceSub, numb]
  repeat' (first | ((first | apply o_do | apply d_do | apply d_yes rfl rfl rfl); first | exact ls_callA [0, 1] 8 h1 rfl rfl (by (repeat' (first | exact NilL.nil | refine NilL.cons Nil.same ?_ | refine NilL.cons Nil.nil ?_ | refine NilL.cons (Nil.agg ?_) ?_ | exact Nil1s.nil | refine Nil1s.cons Nil1.same ?_ | refine Nil1s.cons Nil1.nil ?_)); first | done | fail) rfl (by repeat' (first | exact trivial | refine ⟨⟨_, rfl, by first | rfl | (simp [renO, *]; done)⟩, ?_⟩)) (by first | rfl | simp [closO, *]) rfl rfl rfl rfl (by first | rfl | simp [closO, *]) rfl | exact lsq) | refine a_seq ?_ | refine a_region ?_ | refine o_nil ?_ | refine a_block ?_ | refine a_ret ?_ | refine a_exit ?_ | refine a_skip ?_ | refine a_draw mixed ?_ | refine d_nil (by kernel_rfl) ?_ | refine o_yes rfl rfl rfl ?_ | refine o_no rfl rfl rfl (by decide) ?_ | refine o_no' rfl rfl rfl ?_ | refine a_condT rfl ?_ | refine a_condF rfl ?_ | refine d_no rfl rfl rfl (by decide) ?_ | refine d_no' rfl rfl rfl ?_ | (refine wq2 (fun hb => ?_) (fun hb => ?_) <;> (simp only [hb]; try simp only [hbs, ne_eq] at hb; try (exfalso; first | omega | exact hb trivial))) | fail)
  refine ⟨by first | exact .inr rfl | exact .inl rfl, _, rfl, ?_, by repeat' (first | exact trivial | refine ⟨⟨_, rfl, by first | rfl | (simp [renO, *]; done)⟩, by first | rfl | assumption, ?_⟩)⟩
  (first | refine FinA.tup ?_ | refine FinA.one ?_); repeat' (first | exact FinBs.nil | exact FinCs.nil | refine FinBs.cons ?_ ?_ | refine FinCs.cons ?_ ?_ | refine FinB.cell (FinC.v ?_) | refine FinB.cell (FinC.own rfl rfl rfl ?_) | exact FinB.cell FinC.nil | refine FinB.cell (FinC.sl ?_) | exact FinB.agg' rfl rfl | exact FinB.cell (FinC.same rfl) | refine FinB.agg ?_ | refine FinC.v ?_ | refine FinC.own rfl rfl rfl ?_ | exact FinC.nil | refine FinC.sl ?_ | exact FinC.same rfl); all_goals try rfl
theorem p_HPopNil : PC Try.prog 11 [.v (.pointer none)] (.tup [.agg tmZ.av, .v (.bool false)]) := by
  refine PC.mk (ac_body tab_ok Try.func11 rfl (by kernel_rfl) rfl ?_); intro w0 M μ0; simp only [Try.ntmps11, List.length_cons, List.length_nil, Nat.reduceAdd, Nat.reduceSub, numb]
  repeat' (first | ((first | apply o_do | apply d_do | apply d_yes rfl rfl rfl); first | exact lsc (p_HLenNil) | exact lsq) | refine a_seq ?_ | refine a_region ?_ | refine o_nil ?_ | refine a_block ?_ | refine a_ret ?_ | refine a_exit ?_ | refine a_skip ?_ | refine a_draw mixed ?_ | refine d_nil (by kernel_rfl) ?_ | refine o_yes rfl rfl rfl ?_ | refine o_no rfl rfl rfl (by decide) ?_ | refine o_no' rfl rfl rfl ?_ | refine a_condT rfl ?_ | refine a_condF rfl ?_ | refine d_no rfl rfl rfl (by decide) ?_ | refine d_no' rfl rfl rfl ?_ | (refine wq2 (fun hb => ?_) (fun hb => ?_) <;> (simp only [hb]; try simp only [hbs, ne_eq] at hb; try (exfalso; first | omega | exact hb trivial))) | fail)
  refine ⟨by first | exact .inr rfl | exact .inl rfl, _, rfl, ?_, by repeat' (first | exact trivial | refine ⟨⟨_, rfl, by first | rfl | (simp [renO, *]; done)⟩, by first | rfl | assumption, ?_⟩)⟩
  (first | refine FinA.tup ?_ | refine FinA.one ?_); repeat' (first | exact FinBs.nil | exact FinCs.nil | refine FinBs.cons ?_ ?_ | refine FinCs.cons ?_ ?_ | refine FinB.cell (FinC.v ?_) | refine FinB.cell (FinC.own rfl rfl rfl ?_) | exact FinB.cell FinC.nil | refine FinB.cell (FinC.sl ?_) | exact FinB.agg' rfl rfl | exact FinB.cell (FinC.same rfl) | refine FinB.agg ?_ | refine FinC.v ?_ | refine FinC.own rfl rfl rfl ?_ | exact FinC.nil | refine FinC.sl ?_ | exact FinC.same rfl); all_goals try rfl
end Go.Proofs.Yteooamoagkcgnaa
