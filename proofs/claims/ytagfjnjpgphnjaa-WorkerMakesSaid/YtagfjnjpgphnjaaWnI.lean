/-
  Walks over abstract values: the tail of a row of one's own is cleared. Over whatever program. No condition.
  Windows that are open, walked over abstract values: those that are closed are dropped of a row of one's own.
  Windows that hold a time, and those of them that are open, as the document says and as the program has them.
  Windows that hold a time, as the document says.
-/
import Derived.Test.YtagfjnjpgphnjaaAvX
import Derived.Laws.CopyRow
import Derived.Test.YtagfjnjpgphnjaaWnE
namespace Go.Proofs.Ytagfjnjpgphnjaa
open Go.RowKit
set_option linter.unusedSimpArgs false
set_option linter.unusedVariables false
section
variable {P : Program} {T : List TyI} {Γ : Ctx} {s : ASt} {Q : Exit → ASt → Prop} {ops : Array Oper} {rest : List Oper} {ty ty' : TypeId} {pos pos' : String} {after after' : Array Edge}
end
end Go.Proofs.Ytagfjnjpgphnjaa
namespace Go.Proofs.Ytagfjnjpgphnjaa
open Go.RowKit
set_option linter.unusedSimpArgs false
set_option linter.unusedVariables false
theorem o_weak {P : Program} {Γ : Ctx} {Q : Exit → ASt → Prop} {s t : ASt} {ops : Array Oper} {rest : List Oper} (h : Weak Γ s t) (hk : AOps P Γ ops rest Q t) : AOps P Γ ops rest Q s := ⟨fun hnd μ a w hr => hk.out hnd μ a w (h.rel hr)⟩
def closedW (mark : Int) (x : Wn) : Bool := decide (x.hi ≤ mark)
def openW (mark : Int) (ws : List Wn) : List Wn := ws.filter fun x => !closedW mark x
def openL (size slide t mark : Int) : List Wn := openW mark (winL size slide t)
def fidxW (p : Wn → Bool) (xs : List Wn) : Nat := (xs.takeWhile fun x => !p x).length
def ridxW (p : Wn → Bool) (xs : List Wn) : Int := if fidxW p xs < xs.length then (fidxW p xs : Int) else -1
theorem openW_snoc (mk : Int) (l : List Wn) (x : Wn) : openW mk (l ++ [x]) = openW mk l ++ (if closedW mk x = true then [] else [x]) := by
  unfold openW
  rw [List.filter_append]
  cases h : closedW mk x <;> simp [h]
/-- how far the dropping has come -/
def DelX (mk : Int) (xs : List Wn) (x : Nat × Nat × List Wn) : Prop := x.1 < x.2.1 ∧ x.2.1 ≤ xs.length ∧ x.2.2.length = xs.length ∧ x.2.2.take x.1 = openW mk (xs.take x.2.1) ∧ ∀ p, x.2.1 ≤ p → x.2.2[p]? = xs[p]?
theorem DelX.start {mk : Int} {xs : List Wn} {q : Nat} (h : q < xs.length) (h1 : (xs.take q).all (fun x => !closedW mk x) = true) (h2 : closedW mk xs[q] = true) : DelX mk xs (q, q + 1, xs) := by
  refine ⟨by simp, by dsimp only; omega, rfl, ?_, fun p _ => rfl⟩
  dsimp only
  rw [take_snoc xs q h, openW_snoc, if_pos h2, List.append_nil]
  symm
  unfold openW
  rw [List.filter_eq_self]
  intro a ha
  exact List.all_eq_true.1 h1 a ha
theorem DelX.keep {mk : Int} {xs m : List Wn} {i j : Nat} {x : Wn} (h : DelX mk xs (i, j, m)) (hj : j < xs.length) (hx : xs[j] = x) (hc : closedW mk x = false) : DelX mk xs (i + 1, j + 1, m.set i x) := by
  obtain ⟨h1, h2, h3, h4, h5⟩ := h
  dsimp only at h1 h2 h3 h4 h5
  refine ⟨by dsimp only; omega, by dsimp only; omega, by simp [h3], ?_, fun p hp => ?_⟩
  · dsimp only
    have hi : i < (m.set i x).length := by rw [List.length_set]; omega
    rw [take_snoc _ i hi, List.getElem_set_self, take_snoc xs j hj, openW_snoc, hx, hc, ← h4]
    congr 1
    rw [List.take_set_of_le (Nat.le_refl _)]
  · dsimp only at hp ⊢
    rw [List.getElem?_set_ne (by omega)]
    exact h5 p (by omega)
theorem DelX.drop {mk : Int} {xs m : List Wn} {i j : Nat} {x : Wn} (h : DelX mk xs (i, j, m)) (hj : j < xs.length) (hx : xs[j] = x) (hc : closedW mk x = true) : DelX mk xs (i, j + 1, m) := by
  obtain ⟨h1, h2, h3, h4, h5⟩ := h
  dsimp only at h1 h2 h3 h4 h5
  refine ⟨by dsimp only; omega, by dsimp only; omega, h3, ?_, fun p hp => h5 p (by dsimp only at hp; omega)⟩
  dsimp only
  rw [take_snoc xs j hj, openW_snoc, hx, if_pos hc, List.append_nil]
  exact h4
end Go.Proofs.Ytagfjnjpgphnjaa
namespace Go.Proofs.Ytagfjnjpgphnjaa
open Go.RowKit
set_option linter.unusedSimpArgs false
set_option linter.unusedVariables false
theorem winL_len (size slide t : Int) : (winL size slide t).length ≤ 16 := by
  unfold winL
  split
  · rename_i h; simp; exact cntK_le h
  · simp
def mu2 (B : Nat) (v : Value) (id : Nat) : Value := if id = 0 then .pointer (some ⟨B, 0, none⟩) else v
section
attribute [local go_sem ↓] Go.wp_at_zero Go.wp_at_succ
end
end Go.Proofs.Ytagfjnjpgphnjaa
namespace Go.Proofs.Ytagfjnjpgphnjaa
open Go.RowKit
set_option linter.unusedSimpArgs false
set_option linter.unusedVariables false
section
variable {P : Program} {Γ : Ctx} {s : ASt} {dst : Option Tmp} {ty : TypeId} {pos : String} {after : Array Edge}
theorem ls_mulTo {xt yt : TypeId} {x y : Operand} {a b m : Int} (hm : a * b = m) (hx : ev s x = some (.v (.int .i64 a))) (hy : ev s y = some (.v (.int .i64 b))) (h : -9223372036854775808 ≤ m ∧ m ≤ 9223372036854775807) (hd : okDst Γ.n dst = true) : LS P Γ ⟨dst, .binOp .mul xt x y yt, ty, pos, after, none⟩ s (rd x (rd y [])) (dst1 dst (.v (.int .i64 m))) [] := by
  have := ls_mul (P := P) (Γ := Γ) (ty := ty) (pos := pos) (after := after) (xt := xt) (yt := yt) hx hy hd
  rwa [hm, IntWalk.i64_in _ (by omega)] at this
end
/-- the windows from the first one that holds the time to the one that begins ahead of k slides -/
def outW (size slide t k : Int) : List Wn := (List.range (k - firstK size slide t).toNat).map (fun i : Nat => winK size slide (firstK size slide t + (i : Int)))
theorem outW_low {size slide t k : Int} (h : k < firstK size slide t) : outW size slide t (k + 1) = outW size slide t k := by
  unfold outW
  rw [show (k + 1 - firstK size slide t).toNat = 0 by omega, show (k - firstK size slide t).toNat = 0 by omega]
theorem outW_next {size slide t k : Int} (h : firstK size slide t ≤ k) : outW size slide t (k + 1) = outW size slide t k ++ [winK size slide k] := by
  unfold outW
  rw [show (k + 1 - firstK size slide t).toNat = (k - firstK size slide t).toNat + 1 by omega, List.range_succ, List.map_append]
  congr 1
  simp only [List.map_cons, List.map_nil]
  congr 2
  omega
theorem outW_end {size slide t : Int} (h : okT size slide t = true) : outW size slide t (lastK slide t + 1) = winL size slide t := by
  unfold outW winL cntK
  rw [if_pos h]
theorem outW_none {size slide t k : Int} (h : k ≤ firstK size slide t) : outW size slide t k = [] := by
  unfold outW
  rw [show (k - firstK size slide t).toNat = 0 by omega]; rfl
theorem outW_len {size slide t k : Int} (h : okT size slide t = true) (hk : k ≤ lastK slide t + 1) : (outW size slide t k).length ≤ 16 := by
  have h1 := cntK_le h
  unfold cntK at h1
  unfold outW
  simp; omega
/-- where the document begins to look -/
theorem quo_low {size slide t d : Int} (h : okT size slide t = true) (hd : (t - size).tdiv slide = d) : -1048576 ≤ d ∧ d ≤ 1099511627776 ∧ d - 1 ≤ firstK size slide t := by
  obtain ⟨⟨h1, h2, h3, h4⟩, h5, h6⟩ := okT_iff.1 h
  rcases Int.lt_or_le (t - size) 0 with hn | hn
  · have e : (t - size).tdiv slide = -((size - t).tdiv slide) := by rw [← Int.neg_tdiv]; congr 1; omega
    have e2 : (size - t).tdiv slide = (size - t) / slide := Int.tdiv_eq_ediv_of_nonneg (by omega)
    have e3 : 0 ≤ (size - t) / slide := Int.ediv_nonneg (by omega) (by omega)
    have e4 : (size - t) / slide ≤ size - t := Int.ediv_le_self _ (by omega)
    have e5 : 0 ≤ firstK size slide t := by unfold firstK; omega
    omega
  · have e2 : (t - size).tdiv slide = (t - size) / slide := Int.tdiv_eq_ediv_of_nonneg hn
    have e3 : 0 ≤ (t - size) / slide := Int.ediv_nonneg hn (by omega)
    have e4 : (t - size) / slide ≤ t - size := Int.ediv_le_self _ hn
    have e5 : (t - size) / slide + 1 ≤ firstK size slide t := by unfold firstK; omega
    omega
theorem first_nonneg (size slide t : Int) : 0 ≤ firstK size slide t := by unfold firstK; omega
end Go.Proofs.Ytagfjnjpgphnjaa
