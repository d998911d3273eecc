/-
  Panes, walked over abstract values: likeness.
-/
import Derived.Test.YthlimflfglkpiaaPnG
namespace Go.Proofs.Ythlimflfglkpiaa
open Go.RowKit
set_option linter.unusedSimpArgs false
set_option linter.unusedVariables false
def Pn.vals (p : Pn) : List Value := [.int .i64 p.lo, .int .i64 p.hi, .string p.key, .int .i64 p.n, .int .i64 p.a, .int .i64 p.b]
def Rs.vals (p : Rs) : List Value := [.int .i64 p.lo, .int .i64 p.hi, .string p.key, .int .i64 p.n, .int .i64 p.val]
theorem run_neq_Pn (x y : Operand) (p : Pn) (w : World) : (do eqGuard .neq 45 x y (.agg p.vals.toArray) (.agg p.vals.toArray); binOp .neq 45 (.agg p.vals.toArray) (.agg p.vals.toArray) : Sem Value).run Try.prog w = .ok (.bool false) w := by
  unfold Pn.vals
  go_simp
section
variable {Γ : Ctx} {s : ASt} {dst : Option Tmp} {ty yt : TypeId} {pos : String} {after : Array Edge} {x y : Operand}
theorem ls_neqPn (p : Pn) (hx : ev s x = some (.agg (p.vals.map .v))) (hy : ev s y = some (.agg (p.vals.map .v))) (hd : okDst Γ.n dst = true) : LS Try.prog Γ ⟨dst, .binOp .neq 45 x y yt, ty, pos, after, none⟩ s (rd x (rd y [])) (dst1 dst (.v (.bool false))) [] :=
  ls_eqA p.vals p.vals (run_neq_Pn x y p) hx hy rfl rfl hd
end
set_option maxHeartbeats 1000000 in
theorem p_Like (xs : List Pn) (hx : xs.length ≤ 9223372036854775807) : PC Try.prog 27 [.sl 6 (xs.map Pn.av), .sl 6 (xs.map Pn.av)] (.v (.bool true)) := by
  refine PC.mk (ac_body tab_ok Try.func27 rfl (by kernel_rfl) rfl ?_); intro w0 M μ0; simp only [Try.ntmps27, List.length_cons, List.length_nil, Nat.reduceAdd, Nat.reduceSub, numb]
  repeat' (first | ((first | apply o_do | apply d_do | apply d_yes rfl rfl rfl); exact lsq) | refine a_seq ?_ | refine a_region ?_ | refine o_nil ?_ | refine a_block ?_ | refine a_ret ?_ | refine a_exit ?_ | refine a_skip ?_ | refine a_draw mixed ?_ | refine d_nil (by kernel_rfl) ?_ | refine o_yes rfl rfl rfl ?_ | refine o_no rfl rfl rfl (by decide) ?_ | refine o_no' rfl rfl rfl ?_ | refine a_condT rfl ?_ | refine a_condF rfl ?_ | refine d_no rfl rfl rfl (by decide) ?_ | refine d_no' rfl rfl rfl ?_ | (refine wq2 (fun hb => ?_) (fun hb => ?_) <;> (simp only [hb]; try simp only [hbs, ne_eq] at hb; try (exfalso; first | omega | exact hb trivial))) | fail)
  refine a_loop (X := {q : Nat // q ≤ xs.length}) (fun x => ⟨[(0, .sl 6 (xs.map Pn.av)), (1, .sl 6 (xs.map Pn.av)), (12, .v (.int .i64 xs.length)), (13, .v (.int .i64 x.1))], []⟩) (fun x => xs.length - x.1) ⟨0, Nat.zero_le _⟩ ?_ ?_
  · refine ⟨by repeat' (first | exact trivial | exact FinA.one (FinB.cell (FinC.same rfl)) | exact FinA.one (FinB.cell FinC.nil) | exact FinA.bound rfl | exact FinA.one (FinB.cell (FinC.own rfl rfl rfl rfl)) | exact FinA.one (FinB.cell (FinC.v (by first | rfl | (simp)))) | exact FinA.one (FinB.cell (FinC.ow rfl (by first | rfl | (simp)))) | exact FinA.one (FinB.agg' rfl rfl) | refine ⟨⟨_, rfl, ?_⟩, ?_⟩), by repeat' (first | exact trivial | refine ⟨⟨_, rfl, by first | rfl | (simp; done) | (simp [renO, *]; done)⟩, by first | rfl | assumption, ?_⟩), rfl⟩
  rintro ⟨q, hq⟩
  dsimp only
  by_cases hlt : q < xs.length
  · have hel : (xs.map Pn.av)[q]? = some (Pn.av xs[q]) := by simp [hlt]
    generalize xs[q] = x at *
    repeat' (first | ((first | apply o_do | apply d_do | apply d_yes rfl rfl rfl); first | exact ls_indexAddr_sl tab_ok rfl rfl rfl rfl (by assumption) rfl | exact ls_neqPn x rfl rfl rfl | exact lsq) | refine a_seq ?_ | refine a_region ?_ | refine o_nil ?_ | refine a_block ?_ | refine a_ret ?_ | refine a_exit ?_ | refine a_skip ?_ | refine a_draw mixed ?_ | refine d_nil (by kernel_rfl) ?_ | refine o_yes rfl rfl rfl ?_ | refine o_no rfl rfl rfl (by decide) ?_ | refine o_no' rfl rfl rfl ?_ | refine a_condT rfl ?_ | refine a_condF rfl ?_ | refine d_no rfl rfl rfl (by decide) ?_ | refine d_no' rfl rfl rfl ?_ | (refine wq2 (fun hb => ?_) (fun hb => ?_) <;> (simp only [hb]; try simp only [hbs, ne_eq] at hb; try (exfalso; first | omega | exact hb trivial))) | fail)
    refine ⟨⟨q + 1, by omega⟩, by dsimp only; omega, ?_⟩
    refine ⟨by repeat' (first | exact trivial | exact FinA.one (FinB.cell (FinC.same rfl)) | exact FinA.one (FinB.cell FinC.nil) | exact FinA.bound rfl | exact FinA.one (FinB.cell (FinC.own rfl rfl rfl rfl)) | exact FinA.one (FinB.cell (FinC.v (by first | rfl | (simp)))) | exact FinA.one (FinB.cell (FinC.ow rfl (by first | rfl | (simp)))) | exact FinA.one (FinB.agg' rfl rfl) | refine ⟨⟨_, rfl, ?_⟩, ?_⟩), by repeat' (first | exact trivial | refine ⟨⟨_, rfl, by first | rfl | (simp; done) | (simp [renO, *]; done)⟩, by first | rfl | assumption, ?_⟩), rfl⟩
  · repeat' (first | ((first | apply o_do | apply d_do | apply d_yes rfl rfl rfl); exact lsq) | refine a_seq ?_ | refine a_region ?_ | refine o_nil ?_ | refine a_block ?_ | refine a_ret ?_ | refine a_exit ?_ | refine a_skip ?_ | refine a_draw mixed ?_ | refine d_nil (by kernel_rfl) ?_ | refine o_yes rfl rfl rfl ?_ | refine o_no rfl rfl rfl (by decide) ?_ | refine o_no' rfl rfl rfl ?_ | refine a_condT rfl ?_ | refine a_condF rfl ?_ | refine d_no rfl rfl rfl (by decide) ?_ | refine d_no' rfl rfl rfl ?_ | (refine wq2 (fun hb => ?_) (fun hb => ?_) <;> (simp only [hb]; try simp only [hbs, ne_eq] at hb; try (exfalso; first | omega | exact hb trivial))) | fail)
    refine ⟨by first | exact .inr rfl | exact .inl rfl, _, rfl, ?_, by repeat' (first | exact trivial | refine ⟨⟨_, rfl, by first | rfl | (simp [renO, *]; done)⟩, by first | rfl | assumption, ?_⟩)⟩
    (first | refine FinA.tup ?_ | refine FinA.one ?_); repeat' (first | exact FinBs.nil | exact FinCs.nil | refine FinBs.cons ?_ ?_ | refine FinCs.cons ?_ ?_ | refine FinB.cell (FinC.v ?_) | refine FinB.cell (FinC.own rfl rfl rfl ?_) | exact FinB.cell FinC.nil | refine FinB.cell (FinC.sl ?_) | exact FinB.agg' rfl rfl | exact FinB.cell (FinC.same rfl) | refine FinB.agg ?_ | refine FinC.v ?_ | refine FinC.own rfl rfl rfl ?_ | exact FinC.nil | refine FinC.sl ?_ | exact FinC.same rfl); all_goals try rfl
theorem dueRA_le (ps : List Pn) (m : Int) : (dueRA ps m).length ≤ ps.length := by
  unfold dueRA
  split
  · exact dueA_le _ _
  · simp
theorem dueRB_le (ps : List Pn) (m : Int) : (dueRB ps m).length ≤ ps.length := by
  unfold dueRB
  split
  · exact dueB_le _ _
  · simp
def fewL (ps : List Pn) : List Pn := if 60 < ps.length ∧ ps.length < 2000 then ps.take 60 else ps
theorem fewL_le (ps : List Pn) : (fewL ps).length ≤ ps.length := by
  unfold fewL
  split
  · simp only [List.length_take]; omega
  · exact Nat.le_refl _
theorem resultsL_le (k : Int) (l : List Pn) : (resultsL k l).length ≤ l.length := by
  unfold resultsL
  split <;> simp
theorem rightL_mk {l : List Pn} (h1 : l.length ≤ 2000) (h2 : ∀ p ∈ l, mayB p = true) (h3 : l.Pairwise (fun p q => ahead p q = true)) : rightL l = true := by
  simp only [rightL, Bool.and_eq_true, decide_eq_true_eq]
  exact ⟨h1, (okPn_iff l).2 ⟨h2, h3⟩⟩
theorem rightL_sub {l l' : List Pn} (hs : l'.Sublist l) (h : rightL l = true) : rightL l' = true := by
  obtain ⟨h1, h2, h3⟩ := rightL_ok h
  exact rightL_mk (by have := hs.length_le; omega) (fun p hp => h2 p (hs.subset hp)) (h3.sublist hs)
end Go.Proofs.Ythlimflfglkpiaa
