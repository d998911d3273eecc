/-
  slices.Insert of one pane into a row of one's own: every row, every place in it.
-/
import Derived.Test.YtagfjnjpgphnjaaPnB
import Derived.Test.YtagfjnjpgphnjaaAvX
import Derived.Shelf.Spec.SlicesInsertGrow
namespace Go.Proofs.Ytagfjnjpgphnjaa
open Go.RowKit
set_option linter.unusedSimpArgs false
set_option linter.unusedVariables false
section
variable {P : Program}
theorem run_copy_at (w : World) (dT sT ty elem : TypeId) (i : TypeInfo) (hu : P.underlying dT = some (.slice elem)) (hi : P.info? elem = some i) (g o dLen dCap : Nat) (a : Addr) (sLen sCap k bt : Nat) (cur : Array Value) (cs : List Value)
    (hk : k = Nat.min sLen dLen) (hn : cs.length = k * i.size) (hsrc : ∀ j v, cs[j]? = some v → w.cell? (a.add j) = some v) (hg : w.heap[g]? = some (.cells cur bt (0, 0))) (hl : o + cs.length ≤ cur.size) (h1 : ∀ v ∈ cs, v.oneCell' = true) :
    (Builtin.copy_ #[dT, sT] ty #[.slice (some ⟨g, o, none⟩) dLen dCap, .slice (some a) sLen sCap]).run P w = .ok (goInt k) (w.setRow g (cur.toList.take o ++ cs ++ cur.toList.drop (o + cs.length)).toArray) := by
  have hl' := run_firstCells_some (P := P) w i.size k a sLen sCap cs hn hsrc
  have hst := run_storeCells_at (P := P) g o bt cs 0 cur w hg (by simpa using hl) h1
  simp only [Nat.add_zero] at hst
  simp [Builtin.copy_, run_underlying hu, Builtin.lenOf, sizeOf, typeInfo, hi, ← hk, hl', hst]
end
/-- what an insertion makes -/
def Ins (w : World) (v : Value) (n : Nat) (cs : List Value) (e : Ending) (w' : World) : Prop :=
  ∃ v', e = .returned v' ∧ w'.ownsRow 0 86 6 v' (n + 1) cs ∧ w.grownBy w' v.ownBlock ∧ (v'.ownBlock = v.ownBlock ∨ ∃ b, v'.ownBlock = some b ∧ w.heap.size ≤ b)
theorem info_PaneI : ∃ j, Try.prog.info? 86 = some j ∧ j.size = 6 ∧ j.bytes = 56 ∧ j.zero = some (.agg #[.int .i64 0, .int .i64 0, .string ByteArray.empty, .int .i64 0, .int .i64 0, .int .i64 0]) := by
  have h := info_Pane
  cases hj : Try.prog.info? 86 with
  | none => rw [hj] at h; cases h
  | some j =>
    rw [hj] at h
    simp only [Option.map_some, Option.some.injEq, Prod.mk.injEq] at h
    exact ⟨j, rfl, h.2.1, h.2.2, h.1⟩
theorem grown_drew {w w' : World} {r : Option Nat} (h : w.drew.grownBy w' r) : w.grownBy w' r := ⟨h.os, h.tape, h.output, h.size, h.block⟩
theorem grown_set {w w' : World} {r : Option Nat} (h : w.grownBy w' r) (g : Nat) (cs : Array Value) (hg : w.heap.size ≤ g ∨ r = some g) : w.grownBy (w'.setRow g cs) r :=
  ⟨h.os, h.tape, h.output, by rw [World.setRow]; simpa using h.size, fun k hk hne => by
    have : k ≠ g := by
      rcases hg with hg | hg
      · omega
      · intro e; subst e; exact hne hg.symm
    rw [setRow_other w' g k _ this]
    exact h.block k hk hne⟩
theorem grown_alloc {w w' : World} {r : Option Nat} (h : w.grownBy w' r) (o : Obj) : w.grownBy (w'.alloc o) r :=
  have hb := below_alloc w' o
  ⟨hb.os.trans h.os, hb.tape.trans h.tape, hb.output.trans h.output, Nat.le_trans h.size hb.size, fun k hk hne => (hb.block k (Nat.lt_of_lt_of_le hk h.size)).trans (h.block k hk hne)⟩
theorem grown_drew' {w w' : World} {r : Option Nat} (h : w.grownBy w' r) : w.grownBy w'.drew r := ⟨h.os, h.tape, h.output, h.size, h.block⟩
/-- the lists: made room for, and laid in -/
theorem ins_list {cur us news : List Value} {i n s : Nat} (hi : i ≤ n) (hu : us.length = n * s) (hnw : news.length = s) (hc : cur.take (i * s) = us.take (i * s)) (hlen : (n + 1) * s ≤ cur.length) :
    ((((cur.take ((i + 1) * s) ++ us.drop (i * s) ++ cur.drop ((i + 1) * s + (us.drop (i * s)).length)).take (i * s)) ++ news ++ ((cur.take ((i + 1) * s) ++ us.drop (i * s) ++ cur.drop ((i + 1) * s + (us.drop (i * s)).length)).drop (i * s + news.length))).take ((n + 1) * s)) = us.take (i * s) ++ news ++ us.drop (i * s) := by
  have h1 : i * s ≤ n * s := Nat.mul_le_mul_right _ hi
  have h2 : (i + 1) * s = i * s + s := by rw [Nat.add_mul]; omega
  have h3 : (n + 1) * s = n * s + s := by rw [Nat.add_mul]; omega
  have h4 : (cur.take ((i + 1) * s)).length = i * s + s := by rw [List.length_take]; omega
  have h5 : (us.drop (i * s)).length = n * s - i * s := by rw [List.length_drop]; omega
  have h6 : (cur.take ((i + 1) * s) ++ us.drop (i * s) ++ cur.drop ((i + 1) * s + (us.drop (i * s)).length)).take (i * s) = us.take (i * s) := by
    rw [List.append_assoc, List.take_append_of_le_length (by omega), List.take_take, ← hc]
    congr 1; omega
  have h7 : (cur.take ((i + 1) * s) ++ us.drop (i * s) ++ cur.drop ((i + 1) * s + (us.drop (i * s)).length)).drop (i * s + news.length) = us.drop (i * s) ++ cur.drop ((i + 1) * s + (us.drop (i * s)).length) := by
    rw [hnw, ← h4, List.append_assoc, List.drop_left]
  have h8 : (us.take (i * s)).length = i * s := by rw [List.length_take]; omega
  rw [h6, h7, ← List.append_assoc, List.take_append_of_le_length (by simp only [List.length_append, h8, h5, hnw]; omega), List.take_of_length_le (by simp only [List.length_append, h8, h5, hnw]; omega)]
theorem ins_list' {cur us news : List Value} {i n s : Nat} (hi : i ≤ n) (hu : us.length = n * s) (hnw : news.length = s) (hc : cur.take (i * s) = us.take (i * s)) (hlen : (n + 1) * s ≤ cur.length) :
    ((((cur.take (i * s) ++ news ++ cur.drop (i * s + news.length)).take ((i + 1) * s)) ++ us.drop (i * s) ++ ((cur.take (i * s) ++ news ++ cur.drop (i * s + news.length)).drop ((i + 1) * s + (us.drop (i * s)).length))).take ((n + 1) * s)) = us.take (i * s) ++ news ++ us.drop (i * s) := by
  have h1 : i * s ≤ n * s := Nat.mul_le_mul_right _ hi
  have h2 : (i + 1) * s = i * s + s := by rw [Nat.add_mul]; omega
  have h3 : (n + 1) * s = n * s + s := by rw [Nat.add_mul]; omega
  have h4 : (cur.take (i * s)).length = i * s := by rw [List.length_take]; omega
  have h5 : (us.drop (i * s)).length = n * s - i * s := by rw [List.length_drop]; omega
  have h6 : (cur.take (i * s) ++ news ++ cur.drop (i * s + news.length)).take ((i + 1) * s) = us.take (i * s) ++ news := by
    rw [List.take_append_of_le_length (by simp only [List.length_append, h4, hnw]; omega), List.take_of_length_le (by simp only [List.length_append, h4, hnw]; omega), hc]
  have h8 : (us.take (i * s)).length = i * s := by rw [List.length_take]; omega
  rw [h6, List.take_append_of_le_length (by simp only [List.length_append, h8, h5, hnw]; omega), List.take_of_length_le (by simp only [List.length_append, h8, h5, hnw]; omega)]

theorem grown_trans {w w' w'' : World} {r r' : Option Nat} (h : w.grownBy w' r) (k : w'.grownBy w'' r') (hr : r' = r ∨ ∃ b, r' = some b ∧ w.heap.size ≤ b) : w.grownBy w'' r :=
  ⟨k.os.trans h.os, k.tape.trans h.tape, k.output.trans h.output, Nat.le_trans h.size k.size, fun b hb hne => by
    rw [k.block b (Nat.lt_of_lt_of_le hb h.size) ?_, h.block b hb hne]
    rcases hr with rfl | ⟨c, rfl, hc⟩
    · exact hne
    · intro e; injection e with e; omega⟩
theorem cell_heap {W w : World} (h : W.heap = w.heap) (a : Addr) : W.cell? a = w.cell? a := by simp [World.cell?, h]
theorem setRow_at {w : World} {g : Nat} {cur cs : Array Value} {t : TypeId} {fr : Nat × Nat} (h : w.heap[g]? = some (.cells cur t fr)) : (w.setRow g cs).heap[g]? = some (.cells cs t fr) := by
  simp [World.setRow, Array.getElem?_modify, h]
theorem setRow_heap {W w : World} (h : W.heap = w.heap) (g : Nat) (cs : Array Value) : (W.setRow g cs).heap = (w.setRow g cs).heap := by simp [World.setRow, h]
theorem cell_row {w : World} {g : Nat} {cur : Array Value} {t : TypeId} {fr : Nat × Nat} (h : w.heap[g]? = some (.cells cur t fr)) (k : Nat) : w.cell? ⟨g, k, none⟩ = cur[k]? := by simp [World.cell?, h]
theorem sizeP : ∀ w, (Go.sizeOf 86).run Try.prog w = .ok 6 w := fun w => by
  obtain ⟨j, hj, hj1, _⟩ := info_PaneI
  simp [sizeOf, typeInfo, hj, hj1]
/-- A row of the store has turned, and nothing else. -/
theorem row_turn {σ σ' : Store} {μ : Nat → Value} {w w' : World} {M : Nat → Prop} {id e size : Nat} {xs xs' : List (List AV)} {v' : Value} {us us' : List Value} (hs : SRel σ μ w M) (e0 : find σ id = some (.row e size xs)) (hσ : ∀ i, find σ' i = if id = i then some (.row e size xs') else find σ i)
    (e11 : w.ownsRow 0 e size (μ id) xs.length us) (hown : w'.ownsRow 0 e size v' xs'.length us') (hrep : ∀ μ' A, Step σ μ w (av σ μ M) σ' μ' w' A → repLL [] μ' w' A size xs' us') (hgr : w.grownBy w' (μ id).ownBlock) (hbk : v'.ownBlock = (μ id).ownBlock ∨ ∃ b, v'.ownBlock = some b ∧ w.heap.size ≤ b) (hle : xs.length ≤ xs'.length) (hsame : xs'.length = xs.length → v' = μ id) :
    Gro σ μ w σ' (setμ μ id v') w' ∧ SRel σ' (setμ μ id v') w' M := by
  have hblk : ∀ y : Value, y.ownBlock = blk y ∨ (∃ p, y = .pointer p) ∨ ∃ p, y = .map p := by
    intro y
    cases y with
    | slice a n c => cases a <;> exact .inl rfl
    | pointer p => exact .inr (.inl ⟨p, rfl⟩)
    | map p => exact .inr (.inr ⟨p, rfl⟩)
    | _ => exact .inl rfl
  have hb0 : (μ id).ownBlock = blk (μ id) := by
    rcases hblk (μ id) with h | ⟨p, h⟩ | ⟨p, h⟩
    · exact h
    all_goals
      obtain ⟨A', c', h2, _⟩ := own_slice e11
      rw [h] at h2; cases h2
  have hb1 : v'.ownBlock = blk v' := by
    rcases hblk v' with h | ⟨p, h⟩ | ⟨p, h⟩
    · exact h
    all_goals
      obtain ⟨A', c', h2, _⟩ := own_slice hown
      rw [h] at h2; cases h2
  have hother : ∀ i o b, i ≠ id → find σ i = some o → blk (μ i) = some b → some b ≠ (μ id).ownBlock := by
    intro i o b h1 h2 h3 h4
    rw [hb0] at h4
    exact h1 (hs.inj i id o _ b h2 e0 h3 h4.symm)
  have hgro : Gro σ μ w σ' (setμ μ id v') w' := by
    refine ⟨hgr.os, hgr.tape, hgr.output, hgr.size, fun b hl hn => hgr.block b hl (fun h => ?_), fun i o b hf hb hl => ?_, fun i t cs hf => ?_, fun i e' size' ys hf => ?_, fun i es hf => ?_⟩
    · rw [hb0] at h
      exact hn id _ e0 h.symm
    · rw [hσ] at hf
      split at hf
      · rename_i h; subst h
        rw [setμ_same, ← hb1] at hb
        rcases hbk with h | ⟨c, h, hc⟩
        · rw [h, hb0] at hb; exact ⟨_, _, e0, hb⟩
        · rw [h] at hb; injection hb with hb; omega
      · rename_i h
        rw [setμ_ne μ v' (Ne.symm h)] at hb
        exact ⟨i, o, hf, hb⟩
    · have h : id ≠ i := fun h => by subst h; rw [e0] at hf; cases hf
      exact ⟨cs, by rw [hσ, if_neg h]; exact hf, rfl, setμ_ne μ v' (Ne.symm h)⟩
    · by_cases h : id = i
      · subst h
        rw [e0] at hf; injection hf with hf; injection hf with h1 h2 h3; subst h1 h2 h3
        refine ⟨xs', by rw [hσ, if_pos rfl], hle, fun hl => ?_⟩
        rw [setμ_same]
        exact hsame hl
      · exact ⟨ys, by rw [hσ, if_neg h]; exact hf, Nat.le_refl _, fun _ => setμ_ne μ v' (Ne.symm h)⟩
    · have h : id ≠ i := fun h => by subst h; rw [e0] at hf; cases hf
      exact ⟨es, by rw [hσ, if_neg h]; exact hf, setμ_ne μ v' (Ne.symm h)⟩
  refine ⟨hgro, hs.at_ hgro id (fun i h => by rw [hσ, if_neg (Ne.symm h)]) (fun i h => setμ_ne μ v' h) (fun i o b h1 h2 h3 => hgr.block b (ObjRel.lt hs h2 h3) (hother i o b h1 h2 h3)) (fun o ho => ?_) (fun i o b h1 h2 h3 h4 => ?_) (fun b h1 h2 => ?_)⟩
  · rw [hσ, if_pos rfl] at ho
    injection ho with ho; subst ho
    refine ⟨us', ?_, hrep _ _ hgro.step⟩
    rw [setμ_same]
    exact hown
  · rw [setμ_same, ← hb1] at h4
    rcases hbk with h | ⟨c, h, hc⟩
    · rw [h] at h4
      exact hother i o b h1 h2 h3 h4.symm
    · rw [h] at h4; injection h4 with h4
      have := ObjRel.lt hs h2 h3
      omega
  · rw [setμ_same, ← hb1] at h1
    rcases hbk with h | ⟨c, h, hc⟩
    · rw [h, hb0] at h1
      exact hs.dis id _ b e0 h1 h2
    · rw [h] at h1; injection h1 with h1
      have := hs.lt b h2
      omega
end Go.Proofs.Ytagfjnjpgphnjaa
