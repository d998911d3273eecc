/-
  Walks over abstract values: what shortens a text. Over whatever program. No condition.
-/
import Derived.Test.YtbhblhcgfenobaaDoorAvX
namespace Go.Proofs.YtbhblhcgfenobaaDoor
open Go.RowKit
set_option linter.unusedSimpArgs false
set_option linter.unusedVariables false
theorem hbs : (∀ (p : Prop) [Decidable p], decide p = true ↔ p) ∧ (∀ (p : Prop) [Decidable p], decide p = false ↔ ¬ p) ∧ (∀ b : Bool, (!b) = true ↔ b = false) ∧ (∀ b : Bool, (!b) = false ↔ b = true) ∧ (∀ b : Bool, ¬ b = true ↔ b = false) ∧ (∀ b : Bool, ¬ b = false ↔ b = true) ∧ (∀ (p : Prop) [Decidable p], ¬ ¬ p ↔ p) :=
  ⟨fun p _ => decide_eq_true_iff, fun p _ => decide_eq_false_iff_not, fun b => by cases b <;> simp, fun b => by cases b <;> simp, fun b => by cases b <;> simp, fun b => by cases b <;> simp, fun p _ => Decidable.not_not⟩
theorem wkS {Γ : Ctx} {s t : ASt} (h : Weak Γ s t := by first | (refine ⟨by repeat' (first | exact trivial | exact FinA.one (FinB.cell (FinC.same rfl)) | exact FinA.one (FinB.cell FinC.nil) | exact FinA.bound rfl | exact FinA.one (FinB.cell (FinC.own rfl rfl rfl rfl)) | exact FinA.one (FinB.cell (FinC.v (by first | rfl | (simp)))) | exact FinA.one (FinB.cell (FinC.ow rfl (by first | rfl | (simp)))) | exact FinA.one (FinB.agg' rfl rfl) | refine ⟨⟨_, rfl, ?_⟩, ?_⟩), by repeat' (first | exact trivial | refine ⟨⟨_, rfl, by first | rfl | (simp; done) | (simp [renO, *]; done)⟩, by first | rfl | assumption, ?_⟩), rfl⟩; done) | fail) : Weak Γ s t := h
theorem fnq {σ σ' : Store} {v u : AV} (h : FinA σ σ' v u := by first | (((first | refine FinA.tup ?_ | refine FinA.one ?_); repeat' (first | exact FinBs.nil | exact FinCs.nil | refine FinBs.cons ?_ ?_ | refine FinCs.cons ?_ ?_ | refine FinB.cell (FinC.v ?_) | refine FinB.cell (FinC.own rfl rfl rfl ?_) | exact FinB.cell FinC.nil | refine FinB.cell (FinC.sl ?_) | exact FinB.agg' rfl rfl | exact FinB.cell (FinC.same rfl) | refine FinB.agg ?_ | refine FinC.v ?_ | refine FinC.own rfl rfl rfl ?_ | exact FinC.nil | refine FinC.sl ?_ | exact FinC.same rfl); all_goals try rfl); done) | fail) : FinA σ σ' v u := h
theorem rq {T : List TyI} {res : List ResultVar} {r : AV} {σ' : Store} {e : Exit} {s : ASt} {vs : List AV} (h2 : resL T s res = some vs) (h3 : FinA s.σ σ' (single vs) r) (h1 : e = .normal ∨ e = .ret := by first | exact .inr rfl | exact .inl rfl | fail) (h4 : Kept s.σ σ' σ' := by repeat' (first | exact trivial | refine ⟨⟨_, rfl, by first | rfl | (simp [renO, *]; done)⟩, by first | rfl | assumption, ?_⟩ | fail)) : RetQ T res r σ' e s := ⟨h1, vs, h2, h3, h4⟩
end Go.Proofs.YtbhblhcgfenobaaDoor
