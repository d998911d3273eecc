/-
  Panes, walked over abstract values: a row of one's own, what is due, results, likeness.
-/
import Derived.Test.YtbhblhcgfenobaaDoorPnA
import Derived.Test.YtbhblhcgfenobaaDoorFoldS
import Derived.Laws.Cover1
namespace Go.Proofs.YtbhblhcgfenobaaDoor
open Go.RowKit
set_option linter.unusedSimpArgs false
set_option linter.unusedVariables false

section
attribute [local go_sem ↓] Go.wp_at_zero Go.wp_at_succ
end
theorem own_base {w : World} {b b' : Nat} {e : TypeId} {size n : Nat} {v : Value} {xs : List Value} (h : w.ownsRow b e size v n xs) (hb : b' ≤ b) : w.ownsRow b' e size v n xs := by
  refine ⟨h.1, ?_⟩
  rcases h.2 with h2 | ⟨g, cap, cur, h1, h2, h3⟩
  · exact .inl h2
  · exact .inr ⟨g, cap, cur, h1, by omega, h3⟩
/-- A function that gives a row of its own. -/
theorem ac_own {P : Program} {f : FuncId} {size e : Nat} {xs : List (List AV)} {args : List AV} (ok : CallOK P f)
    (h : ∀ w A vs, repL [] (fun _ => undef) w A args vs → Calls P f vs.toArray w fun r w' => ∃ y us, r = .returned y ∧ w'.ownsRow w.heap.size e size y xs.length us ∧ repLL [] (fun _ => undef) w A size xs us ∧ Below w.heap.size w w') (htag : Nat.blt e 1048576 = true := by rfl) : AC P f args [] (.own 0 xs.length) [(0, .row e size xs)] := by
  refine ⟨ok, fun w M μ vs hs hrep => ?_⟩
  have hnil : ∀ (A A' : Nat → Prop) (μ μ' : Nat → Value), (∀ b, ¬ A b → ¬ A' b) → Step [] μ w A [] μ' w A' := fun A A' μ μ' h => ⟨fun b hb _ => ⟨rfl, h b hb⟩, Nat.le_refl _, fun _ _ _ h => by simp [find] at h, fun _ _ _ _ h => by simp [find] at h, fun _ _ h => by simp [find] at h, fun _ h => by simp [find] at h⟩
  refine (h w M vs (repL_mono (hnil _ _ _ _ fun b hb hc => hb (.inl hc)) hrep)).mono ?_
  rintro r w' ⟨y, us, rfl, ho, hr, hb⟩
  obtain ⟨A', c', hy, _, _⟩ := own_slice ho
  have hblk : ∀ b, blk y = some b → w.heap.size ≤ b ∧ b < w'.heap.size := by
    intro b hyb
    rcases ho.2 with ⟨h1, _⟩ | ⟨g, cap, cur, h1, h2, h3, _⟩
    · rw [h1] at hyb; simp [blk] at hyb
    · rw [h1] at hyb
      simp only [blk, Option.some.injEq] at hyb
      subst hyb
      exact ⟨h2, Blk.lt (t := e) (cs := cur) h3⟩
  have hfind : ∀ id o, find [((0 : Nat), SObj.row e size xs)] id = some o → id = 0 ∧ o = .row e size xs := by
    intro id o hf
    rw [find_cons] at hf
    split at hf
    · rename_i e1; injection hf with hf; exact ⟨e1.symm, hf.symm⟩
    · simp [find] at hf
  refine ⟨y, fun _ => y, rfl, ⟨fun id o hf => ?_, fun id id' o o' g h1 h2 _ _ => ?_, fun b hb' => Nat.lt_of_lt_of_le (hs.lt b hb') hb.size, fun id o b hf hyb hc => ?_⟩, ?_, ?_⟩
  · obtain ⟨rfl, rfl⟩ := hfind id o hf
    refine ⟨us, OwnS.of (own_base ho (Nat.zero_le _)) htag, ?_⟩
    refine repLL_mono (σ := []) (μ := fun _ => undef) (w := w) (A := M) ⟨fun b hb1 hl => ⟨hb.block b hl, fun hc => ?_⟩, hb.size, fun _ _ _ h => by simp [find] at h, fun _ _ _ _ h => by simp [find] at h, fun _ _ h => by simp [find] at h, fun _ h => by simp [find] at h⟩ hr
    rcases hc with hc | ⟨id, o, _, h2⟩
    · exact hb1 hc
    · have := (hblk b h2).1; omega
  · rw [(hfind _ _ h1).1, (hfind _ _ h2).1]
  · have h1 := (hblk b hyb).1
    have h2 := hs.lt b hc
    omega
  · simp only [rep, find_cons, if_true]
    exact ⟨by rw [hy]; rfl, .inr ⟨e, size, xs, rfl, Nat.le_refl _, fun _ => trivial⟩⟩
  · exact ⟨hb.os, hb.tape, hb.output, hb.size, fun b hl _ => hb.block b hl, fun id o b hf hyb hl => by have := (hblk b hyb).1; omega, fun _ _ _ h => by simp [find] at h, fun _ _ _ _ h => by simp [find] at h, fun _ _ h => by simp [find] at h, fun _ h => by simp [find] at h⟩
def fidx (p : Pn → Bool) (xs : List Pn) : Nat := (xs.takeWhile fun x => !p x).length
def ridx (p : Pn → Bool) (xs : List Pn) : Int := if fidx p xs < xs.length then (fidx p xs : Int) else -1
theorem fidx_le (p : Pn → Bool) (xs : List Pn) : fidx p xs ≤ xs.length := (List.takeWhile_sublist _).length_le
theorem fidx_at (p : Pn → Bool) (xs : List Pn) (q : Nat) (h : q < xs.length) (h1 : (xs.take q).all (fun x => !p x) = true) (h2 : p xs[q] = true) : fidx p xs = q := by
  unfold fidx
  have e : xs = xs.take q ++ xs.drop q := (List.take_append_drop q xs).symm
  have e2 : xs.drop q = xs[q] :: xs.drop (q + 1) := List.drop_eq_getElem_cons h
  rw [e, List.takeWhile_append_of_pos (by intro a ha; exact List.all_eq_true.1 h1 a ha), e2, List.takeWhile_cons_of_neg (by simp [h2])]
  simp
  omega
theorem fidx_all (p : Pn → Bool) (xs : List Pn) (h1 : xs.all (fun x => !p x) = true) : fidx p xs = xs.length := by
  unfold fidx
  have := List.takeWhile_append_of_pos (l₁ := xs) (l₂ := []) (p := fun x : Pn => !p x) (by intro a ha; exact List.all_eq_true.1 h1 a ha)
  rw [List.append_nil] at this
  rw [this]; simp
theorem ridx_at {p : Pn → Bool} {xs : List Pn} {q : Nat} (h : q < xs.length) (h1 : (xs.take q).all (fun x => !p x) = true) (h2 : p xs[q] = true) : ridx p xs = (q : Int) := by
  unfold ridx
  rw [fidx_at p xs q h h1 h2, if_pos h]
theorem ridx_all {p : Pn → Bool} {xs : List Pn} (h1 : xs.all (fun x => !p x) = true) : ridx p xs = -1 := by
  unfold ridx
  rw [fidx_all p xs h1, if_neg (by omega)]
end Go.Proofs.YtbhblhcgfenobaaDoor
