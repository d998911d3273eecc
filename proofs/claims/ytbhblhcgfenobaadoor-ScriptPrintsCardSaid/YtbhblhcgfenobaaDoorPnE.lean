/-
  Panes, walked over abstract values: how the program compares; which rows may be.
-/
import Derived.Test.YtbhblhcgfenobaaDoorPnB
namespace Go.Proofs.YtbhblhcgfenobaaDoor
open Go.RowKit
set_option linter.unusedSimpArgs false
set_option linter.unusedVariables false
def cmpI (x y : Int) : Int := if x < y then -1 else if y < x then 1 else 0
def cmpT (x y : ByteArray) : Int := if sless x y then -1 else if sless y x then 1 else 0
def orI : List Int → Int
  | [] => 0
  | x :: l => if x ≠ 0 then x else orI l
theorem orI_drop {xs : List Int} {q : Nat} (h : q < xs.length) (h0 : xs[q] = 0) (e : orI xs = orI (xs.drop q)) : orI xs = orI (xs.drop (q + 1)) := by
  rw [e, List.drop_eq_getElem_cons h]
  simp [orI, h0]
theorem bytes_nil' (s : ByteArray) : (s.toList == ByteArray.toList ⟨#[]⟩) = decide ((s.size : Int) = 0) := by
  have h := bytes_nil s
  have e : ByteArray.toList ⟨#[]⟩ = [] := by rw [ByteArray.toList_eq]
  rw [e]
  by_cases h0 : s.size = 0
  · rw [h.2 h0]; simp [h0]
  · have h1 : ¬ s.toList = [] := fun h1 => h0 (h.1 h1)
    simp [h1, h0]
theorem or_cmp (p q : Pn) : orI [cmpI p.hi q.hi, cmpI p.lo q.lo, cmpT p.key q.key] = cmpP p q := by
  unfold cmpP
  cases h1 : ahead p q
  · cases h2 : ahead q p
    · obtain ⟨e1, e2, e3⟩ := ahead_total h1 h2
      simp [e1, e2, e3, cmpI, cmpT, sless_irrefl, orI]
    · have h3 := ahead_iff.1 h2
      have h4 : ¬ ahead p q = true := by simp [h1]
      rw [ahead_iff] at h4
      rcases h3 with h | ⟨e1, h | ⟨e2, h⟩⟩
      · have h5 : ¬ p.hi < q.hi := by omega
        simp [cmpI, orI, h, h5]
      · have h5 : ¬ p.lo < q.lo := by omega
        simp [cmpI, orI, e1, h, h5]
      · have h5 : sless p.key q.key = false := by
          cases h6 : sless p.key q.key
          · rfl
          · have := sless_trans h h6; rw [sless_irrefl] at this; cases this
        simp [cmpI, cmpT, orI, e1, e2, h, h5]
  · rcases ahead_iff.1 h1 with h | ⟨e1, h | ⟨e2, h⟩⟩
    · simp [cmpI, orI, h]
    · simp [cmpI, orI, e1, h]
    · simp [cmpI, cmpT, orI, e1, e2, h]
theorem cmpP_ge {p q : Pn} : (0 ≤ cmpP p q) ↔ ahead p q = false := by
  unfold cmpP
  cases h : ahead p q
  · simp only [Bool.false_eq_true, if_false, iff_true]
    split <;> omega
  · simp
theorem cmpP_lt {p q : Pn} : (cmpP p q < 0) ↔ ahead p q = true := by
  have h := @cmpP_ge p q
  cases h1 : ahead p q
  · rw [h1] at h; simp only [iff_true] at h; simp; omega
  · rw [h1] at h; simp only [Bool.true_eq_false, iff_false] at h; simp; omega
end Go.Proofs.YtbhblhcgfenobaaDoor
