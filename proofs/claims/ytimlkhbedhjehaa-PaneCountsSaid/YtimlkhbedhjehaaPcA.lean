/-
  As many results as places: plain; and the law, walked over abstract values.
-/
import Derived.Test.YtimlkhbedhjehaaAvP
import Derived.Test.YtimlkhbedhjehaaPnX
import Derived.Test.YtimlkhbedhjehaaPnM
import Derived.Test.YtimlkhbedhjehaaPnG
namespace Go.Proofs.Ytimlkhbedhjehaa
open Go.RowKit
set_option linter.unusedSimpArgs false
set_option linter.unusedVariables false
section
variable {k : Int} {l : List Pn} {x p q : Pn}
theorem ahead_not_same (h : ahead p x = true) : ¬ sameP p x := fun h2 => by rw [same_ahead h2] at h; cases h
theorem ins_place {y : Pn} : (∃ r ∈ insP k l x, sameP r y) ↔ (∃ r ∈ l, sameP r y) ∨ sameP x y := by
  induction l with
  | nil => simp [insP]
  | cons p l ih =>
    rcases rel3 p x with h | h | h
    · rw [ins_a h]; simp only [List.mem_cons, exists_eq_or_imp, ih]; exact or_assoc.symm
    · rw [ins_s h]
      have e : sameP (joinP k p x) y ↔ sameP p y := Iff.rfl
      have e2 : sameP x y → sameP p y := fun h2 => ⟨h.1.trans h2.1, h.2.1.trans h2.2.1, h.2.2.trans h2.2.2⟩
      simp only [List.mem_cons, exists_eq_or_imp, e]
      constructor
      · exact .inl
      · rintro (h3 | h3)
        · exact h3
        · exact .inl (e2 h3)
    · rw [ins_b h]; simp only [List.mem_cons, exists_eq_or_imp]; exact or_comm
theorem ins_count (hs : l.Pairwise (fun p q => ahead p q = true)) : (insP k l x).length = if (∃ r ∈ l, sameP r x) then l.length else l.length + 1 := by
  induction l with
  | nil => simp [insP]
  | cons p l ih =>
    rw [List.pairwise_cons] at hs
    have ih := ih hs.2
    rcases rel3 p x with h | h | h
    · rw [ins_a h, List.length_cons, ih]
      have := ahead_not_same h
      simp only [List.mem_cons, exists_eq_or_imp, this, false_or]
      split <;> simp
    · rw [ins_s h, if_pos ⟨p, by simp, h⟩]; simp
    · rw [ins_b h, if_neg]
      · simp
      · rintro ⟨r, hr, h2⟩
        rcases List.mem_cons.1 hr with rfl | hr
        · rw [same_ahead h2.symm] at h; cases h
        · have h3 := ahead_trans h (hs.1 r hr)
          rw [same_ahead h2.symm] at h3; cases h3
end
/-- the places of values, each once -/
def pcB (x y : Vl) : Bool := (y.key.toList == x.key.toList) && (decide (y.lo = x.lo) && decide (y.hi = x.hi))
theorem pcB_iff {x y : Vl} : pcB x y = true ↔ y.key = x.key ∧ y.lo = x.lo ∧ y.hi = x.hi := by
  simp only [pcB, Bool.and_eq_true, beq_iff_eq, decide_eq_true_eq]
  exact ⟨fun h => ⟨bytes_ext h.1, h.2⟩, fun h => ⟨by rw [h.1], h.2⟩⟩
def pcAdd (us : List Vl) (x : Vl) : List Vl := if us.any (pcB x) then us else us ++ [x]
def pcU (vs : List Vl) : List Vl := vs.foldl pcAdd []
theorem pcU_snoc {vs : List Vl} {x : Vl} : pcU (vs ++ [x]) = pcAdd (pcU vs) x := by simp [pcU]
theorem pcU_mem {vs : List Vl} : ∀ x ∈ pcU vs, x ∈ vs := by
  refine snoc_ind (p := fun vs => ∀ x ∈ pcU vs, x ∈ vs) (by simp [pcU]) ?_ vs
  intro l y ih x hx
  rw [pcU_snoc] at hx
  unfold pcAdd at hx
  split at hx
  · exact List.mem_append_left _ (ih x hx)
  · rcases List.mem_append.1 hx with h | h
    · exact List.mem_append_left _ (ih x h)
    · exact List.mem_append_right _ h
theorem pcB_same {k : Int} {x y : Vl} : pcB x y = true ↔ sameP (vP k y) (vP k x) := by
  rw [pcB_iff]
  unfold vP oneP sameP
  exact ⟨fun h => ⟨h.2.2, h.2.1, h.1⟩, fun h => ⟨h.2.2, h.2.1, h.1⟩⟩
theorem row_sorted {k : Int} {vs : List Vl} : (rowV k vs).Pairwise (fun p q => ahead p q = true) := by
  refine snoc_ind (p := fun vs => (rowV k vs).Pairwise (fun p q => ahead p q = true)) (by simp [rowV, insAll]) ?_ vs
  intro l x ih
  rw [rowV_snoc]
  exact ins_sorted ih
theorem row_count {k : Int} {vs : List Vl} : (rowV k vs).length = (pcU vs).length ∧ ∀ y, (∃ r ∈ rowV k vs, sameP r (vP k y)) ↔ (pcU vs).any (pcB y) = true := by
  refine snoc_ind (p := fun vs => (rowV k vs).length = (pcU vs).length ∧ ∀ y, (∃ r ∈ rowV k vs, sameP r (vP k y)) ↔ (pcU vs).any (pcB y) = true) ?_ ?_ vs
  · simp [rowV, insAll, pcU]
  · rintro l x ⟨h1, h2⟩
    rw [rowV_snoc, pcU_snoc]
    refine ⟨?_, fun y => ?_⟩
    · rw [ins_count row_sorted]
      unfold pcAdd
      by_cases h : (pcU l).any (pcB x) = true
      · rw [if_pos h, if_pos ((h2 x).2 h), h1]
      · rw [if_neg h, if_neg (fun hc => h ((h2 x).1 hc)), h1]; simp
    · rw [ins_place, h2 y]
      unfold pcAdd
      by_cases h : (pcU l).any (pcB x) = true
      · rw [if_pos h]
        refine ⟨fun hc => hc.elim id fun hs => ?_, .inl⟩
        obtain ⟨z, hz, hzx⟩ := List.any_eq_true.1 h
        refine List.any_eq_true.2 ⟨z, hz, ?_⟩
        rw [pcB_same (k := k)] at hzx ⊢
        exact ⟨hzx.1.trans hs.1, hzx.2.1.trans hs.2.1, hzx.2.2.trans hs.2.2⟩
      · rw [if_neg h, List.any_append, Bool.or_eq_true]
        refine or_congr Iff.rfl ?_
        simp [pcB_same (k := k)]
def pcSum (l : List Rs) : Int := (l.map Rs.n).sum
theorem pcSum_step {l : List Rs} {q : Nat} (hq : q < l.length) : pcSum (l.take (q + 1)) = pcSum (l.take q) + l[q].n := by
  rw [take_snoc l q hq]; unfold pcSum; rw [List.map_append, List.sum_append]; simp
theorem pcSum_part {l : List Rs} (h : ∀ r ∈ l, 0 ≤ r.n) (q : Nat) : 0 ≤ pcSum (l.take q) ∧ pcSum (l.take q) ≤ pcSum l := by
  have hn : ∀ l : List Rs, (∀ r ∈ l, 0 ≤ r.n) → 0 ≤ pcSum l := by
    intro l
    induction l with
    | nil => intro _; simp [pcSum]
    | cons r l ih =>
      intro h
      have := ih fun x hx => h x (by simp [hx])
      have := h r (by simp)
      simp only [pcSum, List.map_cons, List.sum_cons] at *
      omega
  have h1 := hn (l.take q) fun r hr => h r (List.mem_of_mem_take hr)
  have h2 := hn (l.drop q) fun r hr => h r (List.mem_of_mem_drop hr)
  have h3 : pcSum l = pcSum (l.take q) + pcSum (l.drop q) := by
    unfold pcSum
    rw [← List.sum_append, ← List.map_append, List.take_append_drop]
  omega
theorem pc_results {k : Int} {vs : List Vl} (hk : fRight k = true) (hok : ∀ x ∈ vs, okV k x = true) (hl : vs.length ≤ 2000) :
    (resultsL k (rowV k vs)).length = (pcU vs).length ∧ pcSum (resultsL k (rowV k vs)) = vs.length ∧ ∀ r ∈ resultsL k (rowV k vs), 0 ≤ r.n := by
  have hr := rowV_right hok hl
  obtain ⟨h3, h4⟩ := rowV_good (l := vs) hk hl
  have h5 : resultsL k (rowV k vs) = (rowV k vs).map (resOf k) := by rw [resultsL, hr, hk]; rfl
  rw [h5]
  refine ⟨by rw [List.length_map]; exact row_count.1, ?_, fun r hr => ?_⟩
  · rw [← h4]; simp [pcSum, sumN, Function.comp_def, resOf]
  · obtain ⟨p, hp, rfl⟩ := List.mem_map.1 hr
    have := (h3 p hp).2
    simp only [resOf]; omega
def keyV (x : Vl) : Value := .agg #[.string x.key, .int .i64 x.lo, .int .i64 x.hi]
def entV (x : Vl) : Value × Value := (keyV x, .bool true)
theorem keyV_inj {x y : Vl} (h : keyV y = keyV x) : pcB x y = true := by
  unfold keyV at h
  injection h with h
  simp at h
  exact pcB_iff.2 ⟨h.1, h.2.1, h.2.2⟩
end Go.Proofs.Ytimlkhbedhjehaa
