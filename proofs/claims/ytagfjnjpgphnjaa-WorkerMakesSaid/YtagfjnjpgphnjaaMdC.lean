/-
  Which jobs and inputs may be, walked over abstract values.
  Which inputs may be, and whether a job and inputs may, walked over abstract values.
-/
import Derived.Test.YtagfjnjpgphnjaaMdA
import Derived.Test.YtagfjnjpgphnjaaGrK
namespace Go.Proofs.Ytagfjnjpgphnjaa
open Go.RowKit
set_option linter.unusedSimpArgs false
set_option linter.unusedVariables false
def jobOK (g s d k fu li de id : Int) : Bool := decide (1 ≤ g) && (decide (g ≤ 32) && (winB s d && (fRight k && (decide (0 ≤ fu) && (decide (fu ≤ 40) && (decide (0 ≤ li) && (decide (0 ≤ de) && (decide (de ≤ 1099511627776) && (decide (0 ≤ id) && decide (id ≤ 1048576))))))))))
set_option maxHeartbeats 2000000 in
theorem j_Right (g s d k fu li de id : Int) : PC Try.prog 11 [.agg [.v (.int .i64 g), .v (.int .i64 s), .v (.int .i64 d), .v (.int .i64 k), .v (.int .i64 fu), .v (.int .i64 li), .v (.int .i64 de), .v (.int .i64 id)]] (.v (.bool (jobOK g s d k fu li de id))) := by
  have h1 := p_wRight s d
  have h2 := p_fRight k
  unfold jobOK
  cases hw : winB s d <;> cases hf : fRight k
  all_goals
    rw [hw] at h1
    rw [hf] at h2
    refine PC.mk (ac_body tab_ok Try.func11 rfl (by kernel_rfl) rfl ?_); intro w0 M μ0; simp only [Try.ntmps11, List.length_cons, List.length_nil, Nat.reduceAdd, Nat.reduceSub, numb]
    repeat' (first | ((first | apply o_do | apply d_do | apply d_yes rfl rfl rfl); first | exact lsc (h1) | exact lsc (h2) | exact lsq) | first | refine a_seq ?_ | refine a_region ?_ | refine o_nil ?_ | refine a_block ?_ | refine a_ret ?_ | refine a_exit ?_ | refine a_skip ?_ | refine a_draw mixed ?_ | refine d_nil (by kernel_rfl) ?_ | first | refine o_yes rfl rfl rfl ?_ | refine o_no rfl rfl rfl (by decide) ?_ | refine o_no' rfl rfl rfl ?_ | refine a_condT rfl ?_ | refine a_condF rfl ?_ | refine d_no rfl rfl rfl (by decide) ?_ | refine d_no' rfl rfl rfl ?_ | ((first | refine o_split_t rfl rfl rfl (fun hb => ?_) (fun hb => ?_) | refine o_split_f rfl rfl rfl (fun hb => ?_) (fun hb => ?_) | refine a_cond rfl (fun hb => ?_) (fun hb => ?_) | refine d_split rfl rfl (fun hb => ?_) (fun hb => ?_)) <;> (simp only [hb]; try simp only [decide_eq_true_eq, decide_eq_false_iff_not, Bool.not_eq_true', Bool.not_eq_false', Bool.not_eq_true, Bool.not_eq_false, ne_eq, Decidable.not_not] at hb; try (exfalso; first | omega | exact hb trivial))))
    all_goals refine ⟨by first | exact .inr rfl | exact .inl rfl, _, rfl, ?_, by repeat' (first | exact trivial | refine ⟨⟨_, rfl, by first | rfl | (simp [renO, *]; done)⟩, by first | rfl | assumption, ?_⟩)⟩
    all_goals (first | refine FinA.tup ?_ | refine FinA.one ?_); repeat' (first | exact FinBs.nil | exact FinCs.nil | refine FinBs.cons ?_ ?_ | refine FinCs.cons ?_ ?_ | refine FinB.cell (FinC.v ?_) | refine FinB.cell (FinC.own rfl rfl rfl ?_) | exact FinB.cell FinC.nil | refine FinB.cell (FinC.sl ?_) | exact FinB.agg' rfl rfl | exact FinB.cell (FinC.same rfl) | refine FinB.agg ?_ | refine FinC.v ?_ | refine FinC.own rfl rfl rfl ?_ | exact FinC.nil | refine FinC.sl ?_ | exact FinC.same rfl); all_goals try rfl
    all_goals first | (simp [*]; done) | (simp [*]; omega)
set_option maxHeartbeats 2000000 in
theorem j_rRight (g s d k fu li de id : Int) : PC Try.prog 16 [.agg [.v (.int .i64 g), .v (.int .i64 s), .v (.int .i64 d), .v (.int .i64 k), .v (.int .i64 fu), .v (.int .i64 li), .v (.int .i64 de), .v (.int .i64 id)]] (.v (.bool (jobOK g s d k fu li de id))) := by
  have h1 := g_rJob g s d k fu li de id
  unfold jobR at h1
  unfold jobOK
  cases hw : winB s d <;> cases hf : fRight k
  all_goals
    rw [hw, hf] at h1
    refine PC.mk (ac_body tab_ok Try.func16 rfl (by kernel_rfl) rfl ?_); intro w0 M μ0; simp only [Try.ntmps16, List.length_cons, List.length_nil, Nat.reduceAdd, Nat.reduceSub, numb]
    repeat' (first | ((first | apply o_do | apply d_do | apply d_yes rfl rfl rfl); first | exact lsc (h1) | exact lsq) | first | refine a_seq ?_ | refine a_region ?_ | refine o_nil ?_ | refine a_block ?_ | refine a_ret ?_ | refine a_exit ?_ | refine a_skip ?_ | refine a_draw mixed ?_ | refine d_nil (by kernel_rfl) ?_ | first | refine o_yes rfl rfl rfl ?_ | refine o_no rfl rfl rfl (by decide) ?_ | refine o_no' rfl rfl rfl ?_ | refine a_condT rfl ?_ | refine a_condF rfl ?_ | refine d_no rfl rfl rfl (by decide) ?_ | refine d_no' rfl rfl rfl ?_ | ((first | refine o_split_t rfl rfl rfl (fun hb => ?_) (fun hb => ?_) | refine o_split_f rfl rfl rfl (fun hb => ?_) (fun hb => ?_) | refine a_cond rfl (fun hb => ?_) (fun hb => ?_) | refine d_split rfl rfl (fun hb => ?_) (fun hb => ?_)) <;> (simp only [hb]; try simp only [decide_eq_true_eq, decide_eq_false_iff_not, Bool.not_eq_true', Bool.not_eq_false', Bool.not_eq_true, Bool.not_eq_false, ne_eq, Decidable.not_not] at hb; try (exfalso; first | omega | exact hb trivial))))
    all_goals refine ⟨by first | exact .inr rfl | exact .inl rfl, _, rfl, ?_, by repeat' (first | exact trivial | refine ⟨⟨_, rfl, by first | rfl | (simp [renO, *]; done)⟩, by first | rfl | assumption, ?_⟩)⟩
    all_goals (first | refine FinA.tup ?_ | refine FinA.one ?_); repeat' (first | exact FinBs.nil | exact FinCs.nil | refine FinBs.cons ?_ ?_ | refine FinCs.cons ?_ ?_ | refine FinB.cell (FinC.v ?_) | refine FinB.cell (FinC.own rfl rfl rfl ?_) | exact FinB.cell FinC.nil | refine FinB.cell (FinC.sl ?_) | exact FinB.agg' rfl rfl | exact FinB.cell (FinC.same rfl) | refine FinB.agg ?_ | refine FinC.v ?_ | refine FinC.own rfl rfl rfl ?_ | exact FinC.nil | refine FinC.sl ?_ | exact FinC.same rfl); all_goals try rfl
    all_goals first | (simp [*]; done) | (simp [*]; omega) | (have a1 : 1 ≤ g := (by omega); have a2 : g ≤ 32 := (by omega); have a3 : 0 ≤ fu := (by omega); have a4 : fu ≤ 40 := (by omega); have a5 : 0 ≤ li := (by omega); simp [*])
/-! inputs -/
def inAv (es : List Et) : List AV := [.sl 3 (es.map Et.av)]
def okEs (es : List Et) : Bool := decide (es.length ≤ 200) && es.all fun e => evR e.key e.at'
def okIn (ls : List (List Et)) : Bool := decide (1 ≤ ls.length) && (decide (ls.length ≤ 4) && ls.all okEs)
theorem fst_all {α : Type} (p : α → Bool) (l : List α) : (l.all p = true) ∨ ∃ q, ∃ h : q < l.length, (l.take q).all p = true ∧ p l[q] = false := by
  induction l with
  | nil => exact .inl rfl
  | cons x l ih =>
    cases hx : p x
    · exact .inr ⟨0, by simp, by simp, by simpa using hx⟩
    · rcases ih with h | ⟨q, hq, h1, h2⟩
      · exact .inl (by simp [hx]; simpa using h)
      · exact .inr ⟨q + 1, by simp; omega, by simp [hx]; simpa using h1, by simpa using h2⟩
end Go.Proofs.Ytagfjnjpgphnjaa
namespace Go.Proofs.Ytagfjnjpgphnjaa
open Go.RowKit
set_option linter.unusedSimpArgs false
set_option linter.unusedVariables false
def Small (ls : List (List Et)) : Prop := ls.length ≤ 9223372036854775807 ∧ ∀ es ∈ ls, es.length ≤ 9223372036854775807
/-- may a job and inputs be? -/
def checkN (g s d k fu li de id : Int) (ls : List (List Et)) : Int := if jobOK g s d k fu li de id = false then 130 else if okIn ls = false then 1 else 0
end Go.Proofs.Ytagfjnjpgphnjaa
