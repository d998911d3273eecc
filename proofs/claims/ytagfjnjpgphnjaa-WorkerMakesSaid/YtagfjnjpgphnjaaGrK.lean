/-
  Events; a value put into the windows that hold its time, as a chain of puts.
-/
import Derived.Test.YtagfjnjpgphnjaaGrH
namespace Go.Proofs.Ytagfjnjpgphnjaa
open Go.RowKit
set_option linter.unusedSimpArgs false
set_option linter.unusedVariables false
structure Et where
  key : ByteArray
  at' : Int
  v : Int
def Et.av (e : Et) : List AV := [.v (.string e.key), .v (.int .i64 e.at'), .v (.int .i64 e.v)]
def Et.cells (e : Et) : List Value := [.string e.key, .int .i64 e.at', .int .i64 e.v]
section
variable {s d t mark : Int}
theorem winK_hi (h : okT s d t = true) {k : Int} (h0 : 0 ≤ k) (h1 : k ≤ lastK d t) : (winK s d k).hi = min (k * d + s) 1099511627776 := by
  obtain ⟨⟨h2, h3, h4, h5⟩, h6, h7⟩ := okT_iff.1 h
  have e := (last_iff h2 k).1 h1
  have e2 := Int.mul_nonneg h0 (show 0 ≤ d by omega)
  exact addT_eq e2 (by omega) (by omega) (by omega)
theorem winL_get (h : okT s d t = true) {i : Nat} (hi : i < cntK s d t) : (winL s d t)[i]? = some (winK s d (firstK s d t + (i : Int))) := by
  unfold winL
  rw [if_pos h, List.getElem?_map, List.getElem?_range hi]
  rfl
theorem winL_length (h : okT s d t = true) : (winL s d t).length = cntK s d t := by
  unfold winL
  rw [if_pos h]; simp
theorem winL_pos (h : okT s d t = true) : 1 ≤ (winL s d t).length := by
  rw [winL_length h]
  have := cntK_eq h
  have := first_le_last h
  omega
end
section
variable {s d k no mark : Int}
theorem win_may {t : Int} (h : okT s d t = true) {w : Wn} (hw : w ∈ winL s d t) : 0 ≤ w.lo ∧ w.lo < w.hi ∧ w.hi ≤ 1099511627776 := by
  obtain ⟨i, hi, rfl⟩ := List.getElem_of_mem hw
  rw [winL_length h] at hi
  have h2 := winL_get h hi
  rw [List.getElem?_eq_getElem (by rw [winL_length h]; exact hi)] at h2
  injection h2 with h2
  rw [h2]
  obtain ⟨⟨q1, q2, q3, q4⟩, q5, q6⟩ := okT_iff.1 h
  have hc := cntK_eq h
  have f0 := first_nonneg s d t
  rw [winK_hi h (by omega) (by omega)]
  have e1 := (first_iff (size := s) (t := t) q1 (firstK s d t + (i : Int))).1 (by omega)
  have e2 := (last_iff (t := t) q1 (firstK s d t + (i : Int))).1 (by omega)
  have e3 : (winK s d (firstK s d t + (i : Int))).lo = (firstK s d t + (i : Int)) * d := rfl
  have e4 := Int.mul_nonneg (show 0 ≤ firstK s d t + (i : Int) by omega) (show 0 ≤ d by omega)
  rw [e3]
  omega
theorem takeW_fold (hk : fRight k = true) {key : ByteArray} {v : Int} : ∀ {ws : List Wn} {ps : List Pn}, rightL ps = true → (∀ w ∈ ws, mayB (oneP k w.lo w.hi key v) = true) →
    takeW k key v ps ws = match (ws.map fun w => oneP k w.lo w.hi key v).foldlM (putL k) ps with | some r => (r, 0) | none => ([], 3)
  | [], ps, _, _ => rfl
  | w :: ws, ps, hr, hm => by
    have hx := hm w List.mem_cons_self
    have hadd : addR k ps (oneP k w.lo w.hi key v) = putR k ps (oneP k w.lo w.hi key v) := by simp [addR, hr, hk, hx]
    unfold takeW
    rw [hadd, List.map_cons, List.foldlM_cons]
    unfold putR
    cases hp : putL k ps (oneP k w.lo w.hi key v) with
    | none => simp
    | some l =>
      simp only [if_true]
      rw [takeW_fold hk (putL_right hp hr hx) (fun w' h => hm w' (List.mem_cons_of_mem _ h))]
      rfl
end
end Go.Proofs.Ytagfjnjpgphnjaa
