/-
  Times and windows, walked over abstract values: sums and floors of times; which windows hold one.
-/
import Derived.Test.YtagfjnjpgphnjaaAvQ
import Derived.Test.YtagfjnjpgphnjaaBasic
namespace Go.Proofs.Ytagfjnjpgphnjaa
open Go.RowKit
set_option linter.unusedSimpArgs false
set_option linter.unusedVariables false
def clampT (x : Int) : Int := min (max x 0) 1099511627776
def addT (x y : Int) : Int := clampT (clampT x + clampT y)
def floorT (t s : Int) : Int := if s < 1 ∨ 1099511627776 < s then 0 else clampT t - (clampT t).tmod s
theorem clampT_range (x : Int) : 0 ≤ clampT x ∧ clampT x ≤ 1099511627776 := by unfold clampT; omega
theorem clampT_id {x : Int} (h : 0 ≤ x ∧ x ≤ 1099511627776) : clampT x = x := by unfold clampT; omega
theorem addT_eq {x y : Int} (h : 0 ≤ x) (h1 : x ≤ 1099511627776) (h2 : 0 ≤ y) (h3 : y ≤ 1099511627776) : addT x y = min (x + y) 1099511627776 := by unfold addT clampT; omega
structure Wn where
  lo : Int
  hi : Int
def Wn.av (x : Wn) : List AV := [.v (.int .i64 x.lo), .v (.int .i64 x.hi)]
def Wn.cells (x : Wn) : List Value := [.int .i64 x.lo, .int .i64 x.hi]
/-- the window of a size that begins at so many slides -/
def winK (size slide : Int) (k : Int) : Wn := ⟨k * slide, addT (k * slide) size⟩
/-- the first one, and the last one, that hold a time -/
def firstK (size slide t : Int) : Int := max 0 ((t - size) / slide + 1)
def lastK (slide t : Int) : Int := t / slide
def cntK (size slide t : Int) : Nat := (lastK slide t + 1 - firstK size slide t).toNat
def okT (size slide t : Int) : Bool := winB size slide && (decide (0 ≤ t) && decide (t < 1099511627776))
def winL (size slide t : Int) : List Wn := if okT size slide t then (List.range (cntK size slide t)).map (fun i : Nat => winK size slide (firstK size slide t + (i : Int))) else []
/-- the last ones first -/
def upto (size slide t : Int) (n : Nat) : List Wn := (List.range n).map (fun i : Nat => winK size slide (lastK slide t - (i : Int)))
theorem upto_succ (size slide t : Int) (n : Nat) : upto size slide t (n + 1) = upto size slide t n ++ [winK size slide (lastK slide t - (n : Int))] := by
  simp [upto, List.range_succ]
section
variable {size slide t : Int}
theorem winB_iff : winB size slide = true ↔ 1 ≤ slide ∧ slide ≤ size ∧ size ≤ 1048576 ∧ size ≤ 16 * slide := by
  simp [winB, and_assoc]
theorem okT_iff : okT size slide t = true ↔ (1 ≤ slide ∧ slide ≤ size ∧ size ≤ 1048576 ∧ size ≤ 16 * slide) ∧ 0 ≤ t ∧ t < 1099511627776 := by
  rw [okT, Bool.and_eq_true, winB_iff]; simp
/-- a window that begins at k slides is one of those -/
theorem first_iff (h : 1 ≤ slide) (k : Int) : firstK size slide t ≤ k ↔ 0 ≤ k ∧ t - size < k * slide := by
  unfold firstK
  have h1 : (t - size) / slide + 1 ≤ k ↔ t - size < k * slide := by
    rw [Int.add_one_le_iff, Int.ediv_lt_iff_lt_mul (by omega)]
  omega
theorem last_iff (h : 1 ≤ slide) (k : Int) : k ≤ lastK slide t ↔ k * slide ≤ t := by
  unfold lastK
  rw [Int.le_ediv_iff_mul_le (by omega)]
theorem last_nonneg (h : 1 ≤ slide) (ht : 0 ≤ t) : 0 ≤ lastK slide t := Int.ediv_nonneg ht (by omega)
theorem first_le_last (h : okT size slide t = true) : firstK size slide t ≤ lastK slide t := by
  obtain ⟨⟨h1, h2, h3, h4⟩, h5, h6⟩ := okT_iff.1 h
  rw [first_iff h1]
  refine ⟨last_nonneg h1 h5, ?_⟩
  have := Int.lt_ediv_add_one_mul_self t (show 0 < slide by omega)
  unfold lastK
  rw [Int.add_mul] at this
  omega
theorem cntK_eq (h : okT size slide t = true) : (cntK size slide t : Int) = lastK slide t + 1 - firstK size slide t := by
  have := first_le_last h
  unfold cntK
  omega
theorem cntK_le (h : okT size slide t = true) : cntK size slide t ≤ 16 := by
  obtain ⟨⟨h1, h2, h3, h4⟩, h5, h6⟩ := okT_iff.1 h
  have h7 := cntK_eq h
  have h8 := first_le_last h
  have h9 := (first_iff (size := size) (t := t) h1 (firstK size slide t)).1 (Int.le_refl _)
  have h10 := (last_iff (t := t) h1 (lastK slide t)).1 (Int.le_refl _)
  have h11 : (lastK slide t - firstK size slide t) * slide < 16 * slide := by rw [Int.sub_mul]; omega
  have h12 := Int.lt_of_mul_lt_mul_right h11 (show 0 ≤ slide by omega)
  omega
theorem floor_eq (h : okT size slide t = true) : floorT t slide = lastK slide t * slide := by
  obtain ⟨⟨h1, h2, h3, h4⟩, h5, h6⟩ := okT_iff.1 h
  unfold floorT lastK
  rw [if_neg (by omega), clampT_id ⟨by omega, by omega⟩, Int.tmod_eq_emod_of_nonneg h5]
  rw [Int.emod_def, Int.mul_comm (t / slide) slide]
  omega
theorem upto_rev (h : okT size slide t = true) : (upto size slide t (cntK size slide t)).reverse = winL size slide t := by
  have hc := cntK_eq h
  unfold upto winL
  rw [if_pos h, ← List.map_reverse]
  apply List.ext_getElem
  · simp
  · intro i h1 h2
    simp only [List.length_map, List.length_reverse, List.length_range] at h1
    simp only [List.getElem_map, List.getElem_reverse, List.getElem_range, List.length_range]
    congr 1
    omega
end
end Go.Proofs.Ytagfjnjpgphnjaa
