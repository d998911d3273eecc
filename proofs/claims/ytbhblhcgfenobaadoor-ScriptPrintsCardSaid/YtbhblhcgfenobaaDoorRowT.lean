/-
  A row of the store turned by a library's call.
-/
import Derived.Test.YtbhblhcgfenobaaDoorAvX
namespace Go.Proofs.YtbhblhcgfenobaaDoor
open Go.RowKit
set_option linter.unusedSimpArgs false
set_option linter.unusedVariables false
/-- A row of the store has turned, and nothing else. -/
theorem row_turn {σ σ' : Store} {μ : Nat → Value} {w w' : World} {M : Nat → Prop} {id e size : Nat} {xs xs' : List (List AV)} {v' : Value} {us us' : List Value} (hs : SRel σ μ w M) (e0 : find σ id = some (.row e size xs)) (hσ : ∀ i, find σ' i = if id = i then some (.row e size xs') else find σ i)
    (e11 : OwnS w e size (μ id) xs.length us) (hown : OwnS w' e size v' xs'.length us') (hrep : ∀ μ' A, Step σ μ w (av σ μ M) σ' μ' w' A → repLL [] μ' w' A size xs' us') (hgr : w.grownBy w' (μ id).ownBlock) (hbk : v'.ownBlock = (μ id).ownBlock ∨ ∃ b, v'.ownBlock = some b ∧ w.heap.size ≤ b) (hle : xs.length ≤ xs'.length) (hsame : xs'.length = xs.length → v' = μ id) :
    Gro σ μ w σ' (setμ μ id v') w' ∧ SRel σ' (setμ μ id v') w' M := by
  have hblk : ∀ y : Value, y.ownBlock = blk y ∨ (∃ p, y = .pointer p) ∨ ∃ p, y = .map p := by
    intro y
    cases y with
    | slice a n c => cases a <;> exact .inl rfl
    | pointer p => exact .inr (.inl ⟨p, rfl⟩)
    | map p => exact .inr (.inr ⟨p, rfl⟩)
    | _ => exact .inl rfl
  have hb0 : (μ id).ownBlock = blk (μ id) := by
    rcases hblk (μ id) with h | ⟨p, h⟩ | ⟨p, h⟩
    · exact h
    all_goals
      obtain ⟨A', c', h2, _⟩ := e11.slice
      rw [h] at h2; cases h2
  have hb1 : v'.ownBlock = blk v' := by
    rcases hblk v' with h | ⟨p, h⟩ | ⟨p, h⟩
    · exact h
    all_goals
      obtain ⟨A', c', h2, _⟩ := hown.slice
      rw [h] at h2; cases h2
  have hother : ∀ i o b, i ≠ id → find σ i = some o → blk (μ i) = some b → some b ≠ (μ id).ownBlock := by
    intro i o b h1 h2 h3 h4
    rw [hb0] at h4
    exact h1 (hs.inj i id o _ b h2 e0 h3 h4.symm)
  have hgro : Gro σ μ w σ' (setμ μ id v') w' := by
    refine ⟨hgr.os, hgr.tape, hgr.output, hgr.size, fun b hl hn => hgr.block b hl (fun h => ?_), fun i o b hf hb hl => ?_, fun i t cs hf => ?_, fun i e' size' ys hf => ?_, fun i es hf => ?_, fun i hf => ?_⟩
    · rw [hb0] at h
      exact hn id _ e0 h.symm
    · rw [hσ] at hf
      split at hf
      · rename_i h; subst h
        rw [setμ_same, ← hb1] at hb
        rcases hbk with h | ⟨c, h, hc⟩
        · rw [h, hb0] at hb; exact ⟨_, _, e0, hb⟩
        · rw [h] at hb; injection hb with hb; omega
      · rename_i h
        rw [setμ_ne μ v' (Ne.symm h)] at hb
        exact ⟨i, o, hf, hb⟩
    · have h : id ≠ i := fun h => by subst h; rw [e0] at hf; cases hf
      exact ⟨cs, by rw [hσ, if_neg h]; exact hf, rfl, setμ_ne μ v' (Ne.symm h)⟩
    · by_cases h : id = i
      · subst h
        rw [e0] at hf; injection hf with hf; injection hf with h1 h2 h3; subst h1 h2 h3
        refine .inr ⟨xs', by rw [hσ, if_pos rfl], hle, fun hl => ?_⟩
        rw [setμ_same]
        exact hsame hl
      · exact .inr ⟨ys, by rw [hσ, if_neg h]; exact hf, Nat.le_refl _, fun _ => setμ_ne μ v' (Ne.symm h)⟩
    · have h : id ≠ i := fun h => by subst h; rw [e0] at hf; cases hf
      exact ⟨es, by rw [hσ, if_neg h]; exact hf, setμ_ne μ v' (Ne.symm h)⟩
    · have h : id ≠ i := fun h => by subst h; rw [e0] at hf; cases hf
      rw [hσ, if_neg h]; exact hf
  refine ⟨hgro, hs.at_ hgro id (fun i h => by rw [hσ, if_neg (Ne.symm h)]) (fun i h => setμ_ne μ v' h) (fun i o b h1 h2 h3 => hgr.block b (ObjRel.lt hs h2 h3) (hother i o b h1 h2 h3)) (fun o ho => ?_) (fun i o b h1 h2 h3 h4 => ?_) (fun b h1 h2 => ?_)⟩
  · rw [hσ, if_pos rfl] at ho
    injection ho with ho; subst ho
    refine ⟨us', ?_, hrep _ _ hgro.step⟩
    rw [setμ_same]
    exact hown
  · rw [setμ_same, ← hb1] at h4
    rcases hbk with h | ⟨c, h, hc⟩
    · rw [h] at h4
      exact hother i o b h1 h2 h3 h4.symm
    · rw [h] at h4; injection h4 with h4
      have := ObjRel.lt hs h2 h3
      omega
  · rw [setμ_same, ← hb1] at h1
    rcases hbk with h | ⟨c, h, hc⟩
    · rw [h, hb0] at h1
      exact hs.dis id _ b e0 h1 h2
    · rw [h] at h1; injection h1 with h1
      have := hs.lt b h2
      omega
end Go.Proofs.YtbhblhcgfenobaaDoor
