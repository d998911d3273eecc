/-
  Layer fold in plain Lean: what a fold has of values; no program in sight. No condition.
-/
import Derived.RowKit
namespace Go.Proofs.YtbhblhcgfenobaaDoor
open Go.RowKit
set_option linter.unusedSimpArgs false
set_option linter.unusedVariables false

structure Acc where
  n : Int
  a : Int
  b : Int

def I64 (x : Int) : Prop := -9223372036854775808 ≤ x ∧ x ≤ 9223372036854775807
theorem wrap64_i64 (x : Int) : I64 (wrap64 x) := by unfold I64 wrap64; omega
theorem wrap64_id {x : Int} (h : I64 x) : wrap64 x = x := by unfold I64 at h; unfold wrap64; omega

def joinA (k x y : Int) : Int := if k = 2 then wrap64 (x + y) else if k = 3 then min x y else if k = 4 then max x y else if k = 5 then min x y else 0
def joinB (k x y : Int) : Int := if k = 5 then max x y else 0
def fRight (k : Int) : Bool := decide (1 ≤ k) && decide (k ≤ 5)
def fJoin (k : Int) (x y : Acc) : Acc :=
  if fRight k = false then ⟨0, 0, 0⟩ else if x.n = 0 then y else if y.n = 0 then x else ⟨wrap64 (x.n + y.n), joinA k x.a y.a, joinB k x.b y.b⟩
def fOne (k v : Int) : Acc :=
  if k = 1 then ⟨1, 0, 0⟩ else if k = 2 ∨ k = 3 ∨ k = 4 then ⟨1, v, 0⟩ else if k = 5 then ⟨1, v, v⟩ else ⟨0, 0, 0⟩
def fVal (k : Int) (x : Acc) : Int :=
  if x.n = 0 ∨ fRight k = false then 0 else if k = 1 then x.n else if k = 5 then wrap64 (x.b - x.a) else x.a
def allFrom (k : Int) (a : Acc) (l : List Int) : Acc := l.foldl (fun a v => fJoin k a (fOne k v)) a
def allL (k : Int) (l : List Int) : Acc := allFrom k ⟨0, 0, 0⟩ l

theorem right_cases {k : Int} (h : fRight k = true) : k = 1 ∨ k = 2 ∨ k = 3 ∨ k = 4 ∨ k = 5 := by
  simp [fRight] at h; omega
theorem right_not {k : Int} (h : fRight k = false) : k < 1 ∨ 5 < k := by
  simp [fRight] at h; omega
theorem allL_nil (k : Int) : allL k [] = ⟨0, 0, 0⟩ := rfl
theorem allL_snoc (k : Int) (l : List Int) (x : Int) : allL k (l ++ [x]) = fJoin k (allL k l) (fOne k x) := by
  simp [allL, allFrom]
theorem fOne_not {k v : Int} (h : fRight k = false) : fOne k v = ⟨0, 0, 0⟩ := by
  have := right_not h; unfold fOne
  rw [if_neg (by omega), if_neg (by omega), if_neg (by omega)]
theorem fOne_n {k v : Int} (h : fRight k = true) : (fOne k v).n = 1 := by
  rcases right_cases h with rfl | rfl | rfl | rfl | rfl <;> rfl
theorem fJoin_not {k : Int} {x y : Acc} (h : fRight k = false) : fJoin k x y = ⟨0, 0, 0⟩ := by simp [fJoin, h]

/-- few values, and none of nothing -/
def Good (x : Acc) : Prop := 0 ≤ x.n ∧ x.n ≤ 1000000000 ∧ (x.n = 0 → x = ⟨0, 0, 0⟩)

theorem joinA_comm (k x y : Int) : joinA k x y = joinA k y x := by
  unfold joinA
  rw [Int.add_comm x y, Int.min_comm x y, Int.max_comm x y]
theorem joinB_comm (k x y : Int) : joinB k x y = joinB k y x := by
  unfold joinB
  rw [Int.max_comm x y]
theorem wrap64_assoc (x y z : Int) : wrap64 (wrap64 (x + y) + z) = wrap64 (x + wrap64 (y + z)) := by unfold wrap64; omega
theorem joinA_assoc (k x y z : Int) : joinA k (joinA k x y) z = joinA k x (joinA k y z) := by
  unfold joinA
  repeat' split
  all_goals first | exact wrap64_assoc _ _ _ | exact Int.min_assoc _ _ _ | exact Int.max_assoc _ _ _ | rfl
theorem joinB_assoc (k x y z : Int) : joinB k (joinB k x y) z = joinB k x (joinB k y z) := by
  unfold joinB
  split
  · exact Int.max_assoc _ _ _
  · rfl
theorem wrap_small {x : Int} (h0 : 0 ≤ x) (h1 : x ≤ 10000000000) : wrap64 x = x := wrap64_id ⟨by omega, by omega⟩

theorem join_n {k : Int} {x y : Acc} (h : fRight k = true) (hx : Good x) (hy : Good y) : (fJoin k x y).n = x.n + y.n := by
  obtain ⟨x0, x1, _⟩ := hx
  obtain ⟨y0, y1, _⟩ := hy
  unfold fJoin
  rw [if_neg (by simp [h])]
  split
  · omega
  · split
    · omega
    · exact wrap_small (by omega) (by omega)
theorem join_zero_left {k : Int} {x : Acc} (h : fRight k = true) : fJoin k ⟨0, 0, 0⟩ x = x := by simp [fJoin, h]
theorem join_zero_right {k : Int} {x : Acc} (h : fRight k = true) (hx : Good x) : fJoin k x ⟨0, 0, 0⟩ = x := by
  simp only [fJoin, h, Bool.true_eq_false, if_false, if_true]
  split
  · rename_i h0; exact (hx.2.2 h0).symm
  · rfl
theorem join_good {k : Int} {x y : Acc} (h : fRight k = true) (hx : Good x) (hy : Good y) (hs : x.n + y.n ≤ 1000000000) : Good (fJoin k x y) := by
  have e := join_n h hx hy
  refine ⟨by rw [e]; have := hx.1; have := hy.1; omega, by rw [e]; exact hs, fun h0 => ?_⟩
  rw [e] at h0
  have hx0 : x.n = 0 := by have := hx.1; have := hy.1; omega
  have hy0 : y.n = 0 := by have := hx.1; have := hy.1; omega
  rw [hx.2.2 hx0, hy.2.2 hy0]
  exact join_zero_left h
theorem join_comm {k : Int} {x y : Acc} (hx : Good x) (hy : Good y) : fJoin k x y = fJoin k y x := by
  by_cases h : fRight k = true
  · by_cases hx0 : x.n = 0
    · rw [hx.2.2 hx0, join_zero_left h, join_zero_right h hy]
    · by_cases hy0 : y.n = 0
      · rw [hy.2.2 hy0, join_zero_left h, join_zero_right h hx]
      · simp only [fJoin, h, hx0, hy0, Bool.true_eq_false, if_false]
        rw [Int.add_comm, joinA_comm, joinB_comm]
  · have h : fRight k = false := by simpa using h
    rw [fJoin_not h, fJoin_not h]
theorem join_assoc {k : Int} {x y z : Acc} (hx : Good x) (hy : Good y) (hz : Good z) :
    fJoin k (fJoin k x y) z = fJoin k x (fJoin k y z) := by
  by_cases h : fRight k = true
  · by_cases hx0 : x.n = 0
    · rw [hx.2.2 hx0, join_zero_left h, join_zero_left h]
    · by_cases hy0 : y.n = 0
      · rw [hy.2.2 hy0, join_zero_left h, join_zero_right h hx]
      · by_cases hz0 : z.n = 0
        · rw [hz.2.2 hz0, join_zero_right h hy]
          have : (fJoin k x y).n ≠ 0 := by rw [join_n h hx hy]; have := hx.1; have := hy.1; omega
          simp only [fJoin, h, hx0, hy0, Bool.true_eq_false, if_false] at this ⊢
          simp [this]
        · have e1 : (fJoin k x y).n ≠ 0 := by rw [join_n h hx hy]; have := hx.1; have := hy.1; omega
          have e2 : (fJoin k y z).n ≠ 0 := by rw [join_n h hy hz]; have := hz.1; have := hy.1; omega
          have f1 : fJoin k x y = ⟨wrap64 (x.n + y.n), joinA k x.a y.a, joinB k x.b y.b⟩ := by simp [fJoin, h, hx0, hy0]
          have f2 : fJoin k y z = ⟨wrap64 (y.n + z.n), joinA k y.a z.a, joinB k y.b z.b⟩ := by simp [fJoin, h, hz0, hy0]
          rw [f1] at e1 ⊢
          rw [f2] at e2 ⊢
          simp only [fJoin, h, hx0, hz0, e1, e2, Bool.true_eq_false, if_false]
          rw [wrap64_assoc, joinA_assoc, joinB_assoc]
  · have h : fRight k = false := by simpa using h
    rw [fJoin_not h, fJoin_not h]

theorem fOne_good (k v : Int) : Good (fOne k v) := by
  by_cases h : fRight k = true
  · refine ⟨by rw [fOne_n h]; omega, by rw [fOne_n h]; omega, fun h0 => ?_⟩
    rw [fOne_n h] at h0; omega
  · have h : fRight k = false := by simpa using h
    rw [fOne_not h]
    exact ⟨by simp, by simp, fun _ => rfl⟩
theorem zero_good : Good ⟨0, 0, 0⟩ := ⟨by simp, by simp, fun _ => rfl⟩

theorem allL_not {k : Int} (h : fRight k = false) (l : List Int) : allL k l = ⟨0, 0, 0⟩ := by
  rcases List.eq_nil_or_concat l with rfl | ⟨m, x, rfl⟩
  · rfl
  · rw [List.concat_eq_append, allL_snoc, fJoin_not h]
theorem snoc_ind {α} {p : List α → Prop} (h0 : p []) (h1 : ∀ l x, p l → p (l ++ [x])) (l : List α) : p l := by
  have key : ∀ n (l : List α), l.length = n → p l := by
    intro n
    induction n with
    | zero => intro l hl; rw [List.eq_nil_of_length_eq_zero hl]; exact h0
    | succ n ih =>
      intro l hl
      rcases List.eq_nil_or_concat l with rfl | ⟨m, x, rfl⟩
      · exact h0
      · rw [List.concat_eq_append] at hl ⊢
        exact h1 m x (ih m (by simpa using hl))
  exact key _ l rfl
theorem allL_n_good {k : Int} (h : fRight k = true) (l : List Int) : l.length ≤ 1000000000 → (allL k l).n = l.length ∧ Good (allL k l) := by
  refine snoc_ind (p := fun l => l.length ≤ 1000000000 → (allL k l).n = l.length ∧ Good (allL k l)) ?_ ?_ l
  · intro _; exact ⟨rfl, zero_good⟩
  · intro l x ih hl
    simp only [List.length_append, List.length_cons, List.length_nil] at hl
    obtain ⟨e, g⟩ := ih (by omega)
    rw [allL_snoc]
    have hn := join_n h g (fOne_good k x)
    rw [e, fOne_n h] at hn
    exact ⟨by rw [hn]; simp, join_good h g (fOne_good k x) (by rw [e, fOne_n h]; omega)⟩
theorem allL_good (k : Int) (l : List Int) (hl : l.length ≤ 1000000000) : Good (allL k l) := by
  by_cases h : fRight k = true
  · exact (allL_n_good h l hl).2
  · rw [allL_not (by simpa using h)]; exact zero_good
theorem allL_append (k : Int) (l m : List Int) : l.length + m.length ≤ 1000000000 → allL k (l ++ m) = fJoin k (allL k l) (allL k m) := by
  refine snoc_ind (p := fun m => l.length + m.length ≤ 1000000000 → allL k (l ++ m) = fJoin k (allL k l) (allL k m)) ?_ ?_ m
  · intro hl
    rw [List.append_nil, allL_nil]
    by_cases h : fRight k = true
    · exact (join_zero_right h (allL_good k l (by omega))).symm
    · have h : fRight k = false := by simpa using h
      rw [allL_not h, fJoin_not h]
  · intro m x ih hl
    simp only [List.length_append, List.length_cons, List.length_nil] at hl
    rw [← List.append_assoc, allL_snoc, allL_snoc, ih (by omega), join_assoc (allL_good k l (by omega)) (allL_good k m (by omega)) (fOne_good k x)]
theorem allL_one (k v : Int) : allL k [v] = fOne k v := by
  show fJoin k ⟨0, 0, 0⟩ (fOne k v) = fOne k v
  by_cases h : fRight k = true
  · exact join_zero_left h
  · have h : fRight k = false := by simpa using h
    rw [fJoin_not h, fOne_not h]
theorem allL_perm (k : Int) {l m : List Int} (h : l.Perm m) : l.length ≤ 1000000000 → allL k l = allL k m := by
  induction h with
  | nil => intro _; rfl
  | cons x hp ih =>
    rename_i l1 l2
    intro hl
    simp only [List.length_cons] at hl
    have hlen := hp.length_eq
    have e1 := allL_append k [x] l1 (by simp; omega)
    have e2 := allL_append k [x] l2 (by simp; omega)
    simp only [List.singleton_append] at e1 e2
    rw [e1, e2, ih (by omega)]
  | swap x y l =>
    intro hl
    simp only [List.length_cons] at hl
    have e1 := allL_append k [y, x] l (by simp; omega)
    have e2 := allL_append k [x, y] l (by simp; omega)
    have f1 := allL_append k [y] [x] (by simp)
    have f2 := allL_append k [x] [y] (by simp)
    simp only [List.cons_append, List.nil_append] at e1 e2 f1 f2
    rw [e1, e2, f1, f2, allL_one, allL_one, join_comm (fOne_good k y) (fOne_good k x)]
  | trans h1 _ ih1 ih2 => intro hl; rw [ih1 hl, ih2 (by rw [← h1.length_eq]; exact hl)]

/-- what the reference does, value by value -/
def refStep (k : Int) (q : Int) (x : Acc) (v : Int) : Acc :=
  if k = 1 then ⟨x.n + 1, 0, 0⟩ else if k = 2 then ⟨x.n + 1, wrap64 (x.a + v), 0⟩
  else if k = 3 then ⟨x.n + 1, if q = 0 ∨ v < x.a then v else x.a, 0⟩
  else if k = 4 then ⟨x.n + 1, if q = 0 ∨ x.a < v then v else x.a, 0⟩
  else ⟨x.n + 1, if q = 0 ∨ v < x.a then v else x.a, if q = 0 ∨ x.b < v then v else x.b⟩
/-- which fields a fold leaves alone -/
def Shape (k : Int) (x : Acc) : Prop := (k = 1 → x.a = 0) ∧ (k ≠ 5 → x.b = 0)
theorem allL_shape {k : Int} (h : fRight k = true) (l : List Int) (hl : l.length ≤ 1000000000) : Shape k (allL k l) := by
  have key : l.length ≤ 1000000000 → Shape k (allL k l) := by
    refine snoc_ind (p := fun l => l.length ≤ 1000000000 → Shape k (allL k l)) ?_ ?_ l
    · intro _; exact ⟨fun _ => rfl, fun _ => rfl⟩
    · intro l x ih hl
      simp only [List.length_append, List.length_cons, List.length_nil] at hl
      have ih := ih (by omega)
      rw [allL_snoc]
      have hone : Shape k (fOne k x) := by rcases right_cases h with rfl | rfl | rfl | rfl | rfl <;> simp [Shape, fOne]
      unfold fJoin
      split
      · exact ⟨fun _ => rfl, fun _ => rfl⟩
      · split
        · exact hone
        · split
          · exact ih
          · refine ⟨fun e => ?_, fun e => ?_⟩
            · subst e; rfl
            · simp [joinB, e]
  exact key hl
theorem refStep_eq {k : Int} (h : fRight k = true) (l : List Int) (v : Int) (hl : l.length + 1 ≤ 1000000000) (hv : I64 v) :
    refStep k l.length (allL k l) v = allL k (l ++ [v]) := by
  obtain ⟨e, g⟩ := allL_n_good h l (by omega)
  have sh := allL_shape h l (by omega)
  rw [allL_snoc]
  generalize allL k l = x at e g sh
  obtain ⟨n, a, b⟩ := x
  simp only at e
  subst e
  unfold Shape at sh
  simp only at sh
  have hq0 : (l.length : Int) + 1 ≤ 1000000000 := by omega
  have hq1 : 0 ≤ (l.length : Int) := by omega
  clear hl
  generalize (l.length : Int) = q at *
  by_cases h0 : q = 0
  · have hz := g.2.2 h0
    simp only [Acc.mk.injEq] at hz
    obtain ⟨rfl, rfl, rfl⟩ := hz
    have ew := wrap64_id hv
    rcases right_cases h with rfl | rfl | rfl | rfl | rfl <;> simp [refStep, fJoin, fOne, fRight, ew]
  · have hw : wrap64 (q + 1) = q + 1 := wrap_small (by omega) (by omega)
    have e1 : ∀ y, (if v < y then v else y) = min y v := by intro y; split <;> omega
    have e2 : ∀ y, (if y < v then v else y) = max y v := by intro y; split <;> omega
    rcases right_cases h with rfl | rfl | rfl | rfl | rfl <;> simp at sh <;> simp [refStep, fJoin, fOne, fRight, h0, hw, joinA, joinB, sh, e1, e2]
end Go.Proofs.YtbhblhcgfenobaaDoor
