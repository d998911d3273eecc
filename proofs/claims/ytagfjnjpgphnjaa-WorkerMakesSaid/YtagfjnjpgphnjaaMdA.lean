/-
  Events that go round, and times taken back, walked over abstract values.
  Events that go round, walked over abstract values: how they leave; which jobs and inputs may be.
  A source on its way, walked over abstract values: which events are late, and how they leave.
-/
import Derived.Test.YtagfjnjpgphnjaaAvW
import Derived.Test.YtagfjnjpgphnjaaWnA
namespace Go.Proofs.Ytagfjnjpgphnjaa
open Go.RowKit
set_option linter.unusedSimpArgs false
set_option linter.unusedVariables false
section
variable {P : Program} {Γ : Ctx} {s : ASt} {dst : Option Tmp} {ty xt yt : TypeId} {pos : String} {after : Array Edge} {x y : Operand}
theorem ls_shr1 {a m : Int} (hm : a.fdiv 2 = m) (hx : ev s x = some (.v (.int .i64 a))) (hy : ev s y = some (.v (.int .u64 1))) (hd : okDst Γ.n dst = true) : LS P Γ ⟨dst, .binOp .shr xt x y yt, ty, pos, after, none⟩ s (rd x (rd y [])) (dst1 dst (.v (.int .i64 m))) [] :=
  ls_bin hx hy (fun w => by rw [← hm]; simp [eqGuard, binOp, Op.shift, IntKind.bits]) rfl hd
theorem ls_negTo {a m : Int} (hm : -a = m) (hx : ev s x = some (.v (.int .i64 a))) (h : -9223372036854775808 ≤ m ∧ m ≤ 9223372036854775807) (hd : okDst Γ.n dst = true) : LS P Γ ⟨dst, .unOp .neg xt x, ty, pos, after, none⟩ s (rd x []) (dst1 dst (.v (.int .i64 m))) [] := by
  have := ls_neg (P := P) (Γ := Γ) (ty := ty) (pos := pos) (after := after) (xt := xt) hx hd
  rwa [show (0 : Int) - a = m by omega, IntWalk.i64_in _ (by omega)] at this
end
def subT (x y : Int) : Int := clampT (clampT x - clampT y)
def halfI (v : Int) : Int := v.tdiv 2
theorem halfI_range {v : Int} (h : -9223372036854775808 ≤ v ∧ v ≤ 9223372036854775807) : -9223372036854775808 ≤ halfI v ∧ halfI v ≤ 9223372036854775807 := by
  unfold halfI
  rcases Int.lt_or_le v 0 with h0 | h0
  · have e : v.tdiv 2 = -((-v).tdiv 2) := by rw [Int.neg_tdiv, Int.neg_neg]
    have e2 : (-v).tdiv 2 = (-v) / 2 := Int.tdiv_eq_ediv_of_nonneg (by omega)
    rw [e2] at e
    omega
  · rw [Int.tdiv_eq_ediv_of_nonneg h0]; omega
def limR (limit : Int) : Int := max limit 0
def fuelR (fuel : Int) : Int := min (max fuel 0) 40
def leavesB (lim fu v n : Int) : Bool := decide (fu ≤ n) || (decide (v ≤ lim) && decide (-lim ≤ v))
/-- so many rounds are left -/
def goV (lim : Int) : Nat → Int → Nat → Int × Nat
  | 0, v, n => (v, n)
  | m + 1, v, n => if v ≤ lim ∧ -lim ≤ v then (v, n) else goV lim m (halfI v) (n + 1)
def runE (limit fuel v : Int) : Int × Nat := goV (limR limit) (fuelR fuel).toNat v 0
end Go.Proofs.Ytagfjnjpgphnjaa
namespace Go.Proofs.Ytagfjnjpgphnjaa
open Go.RowKit
set_option linter.unusedSimpArgs false
set_option linter.unusedVariables false
theorem goV_leave {lim fu v : Int} {n : Nat} (hf : 0 ≤ fu) (h : leavesB lim fu v n = true) : goV lim (fu.toNat - n) v n = (v, n) := by
  simp only [leavesB, Bool.or_eq_true, Bool.and_eq_true, decide_eq_true_eq] at h
  rcases h with h | h
  · rw [show fu.toNat - n = 0 by omega]; rfl
  · cases hm : fu.toNat - n with
    | zero => rfl
    | succ m => rw [goV, if_pos h]
theorem goV_on {lim fu v : Int} {n : Nat} (hf : 0 ≤ fu) (h : leavesB lim fu v n = false) : n < fu.toNat ∧ goV lim (fu.toNat - n) v n = goV lim (fu.toNat - (n + 1)) (halfI v) (n + 1) := by
  simp only [leavesB, Bool.or_eq_false_iff, Bool.and_eq_false_imp, decide_eq_false_iff_not, decide_eq_true_eq] at h
  obtain ⟨h1, h2⟩ := h
  have hn : n < fu.toNat := by omega
  refine ⟨hn, ?_⟩
  obtain ⟨m, hm⟩ : ∃ m, fu.toNat - n = m + 1 := ⟨fu.toNat - n - 1, by omega⟩
  rw [hm, show fu.toNat - (n + 1) = m by omega, goV, if_neg (by intro h3; exact h2 h3.1 h3.2)]
theorem fuelR_range (fuel : Int) : 0 ≤ fuelR fuel ∧ fuelR fuel ≤ 40 := by unfold fuelR; omega
end Go.Proofs.Ytagfjnjpgphnjaa
namespace Go.Proofs.Ytagfjnjpgphnjaa
open Go.RowKit
set_option linter.unusedSimpArgs false
set_option linter.unusedVariables false
/-- the source's box -/
def srcAv (g s d k fu li de id mark : Int) : List AV := [.v (.int .i64 g), .v (.int .i64 s), .v (.int .i64 d), .v (.int .i64 k), .v (.int .i64 fu), .v (.int .i64 li), .v (.int .i64 de), .v (.int .i64 id), .v (.int .i64 mark)]
def srcCells (g s d k fu li de id mark : Int) : List Value := [.int .i64 g, .int .i64 s, .int .i64 d, .int .i64 k, .int .i64 fu, .int .i64 li, .int .i64 de, .int .i64 id, .int .i64 mark]
end Go.Proofs.Ytagfjnjpgphnjaa
