/-
  Walks over abstract values: a region that draws its order, every order walked. Over whatever program. No condition.
-/
import Derived.Test.YteooamoagkcgnaaAvX
namespace Go.Proofs.Yteooamoagkcgnaa
open Go.RowKit
set_option linter.unusedSimpArgs false
set_option linter.unusedVariables false
section
variable {P : Program} {Γ : Ctx} {Q : Exit → ASt → Prop} {s t : ASt}
/-- what is left of a region, in whatever order -/
structure AR (P : Program) (Γ : Ctx) (ops : List Oper) (Q : Exit → ASt → Prop) (fuel : Nat) (listed : Array Bool) (s : ASt) : Prop where
  out : ∀ μ a w, Rel Γ s μ a w → wpAnyIn Γ.F 0 P .any ops.toArray (AK Γ Q) fuel listed a w
structure ARL (P : Program) (Γ : Ctx) (ops : List Oper) (Q : Exit → ASt → Prop) (fuel : Nat) (listed : Array Bool) (l : List Nat) (s : ASt) : Prop where
  out : ∀ i ∈ l, ∀ μ a w, Rel Γ s μ a w → wpOpIn Γ.F 0 P ops.toArray (AK Γ Q) i (wpAnyIn Γ.F 0 P .any ops.toArray (AK Γ Q) fuel (listed.setIfInBounds i true)) a w
variable {ops : List Oper} {fuel : Nat} {listed : Array Bool} {l : List Nat}
theorem ar_done (hl : Region.ready .any ops.toArray listed = []) (hQ : Q .normal s) : AR P Γ ops Q fuel listed s := by
  refine ⟨fun μ a w hr => ?_⟩
  cases fuel with
  | zero => exact ⟨hl, s, μ, hr, hQ⟩
  | succ fuel => exact ⟨fun _ => ⟨s, μ, hr, hQ⟩, fun i hi => by rw [hl] at hi; cases hi⟩
theorem ar_step (l : List Nat) (hl : Region.ready .any ops.toArray listed = l) (hne : l.isEmpty = false) (h : ARL P Γ ops Q fuel listed l s) : AR P Γ ops Q (fuel + 1) listed s := by
  refine ⟨fun μ a w hr => ⟨fun h0 => ?_, fun i hi => h.out i (by rw [← hl]; exact hi) μ a w hr⟩⟩
  rw [hl] at h0; subst h0; cases hne
theorem ar_weak (h : Weak Γ s t) (hk : AR P Γ ops Q fuel listed t) : AR P Γ ops Q fuel listed s := ⟨fun μ a w hr => hk.out μ a w (h.rel hr)⟩
theorem arl_nil : ARL P Γ ops Q fuel listed [] s := ⟨fun _ h => nomatch h⟩
theorem arl_cons {i : Nat} {dst : Option Tmp} {op : Op} {ty : TypeId} {pos : String} {after : Array Edge} {R : List Loc} {er : List (Nat × AV)} {eσ : List (Nat × SObj)} (ho : ops[i]? = some ⟨dst, op, ty, pos, after, none⟩) (hd : noDefer op = true) (h : LS P Γ ⟨dst, op, ty, pos, after, none⟩ s R er eσ)
    (hk : AR P Γ ops Q fuel (listed.setIfInBounds i true) (s.eff er eσ)) (hl : ARL P Γ ops Q fuel listed l s) : ARL P Γ ops Q fuel listed (i :: l) s := by
  refine ⟨fun j hj μ a w hr => ?_⟩
  rcases List.mem_cons.1 hj with rfl | hj
  · unfold wpOpIn
    simp only [List.getElem?_toArray, ho]
    have h2 : Region.wanted ⟨dst, op, ty, pos, after, none⟩ (yielded ops.toArray a.tmps) = true := by simp [Region.wanted]
    rw [if_pos h2]
    exact up_in hd (h.out s (Agree.refl s _) (AK Γ Q) μ a w hr _ fun μ' a' w' hr' => hk.out μ' a' w' hr')
  · exact hl.out j hj μ a w hr
theorem a_drawA {id : Nat} (hm : P.follows .mixedOrders = true) (h : AR P Γ ops Q ops.length (Array.replicate ops.length false) s) : AWP P Γ (.region id ops.toArray true) Q s := by
  refine ⟨fun μ a w hr => wpIn_region_any hm ?_⟩
  exact h.out μ a w.drew (hr.world ((Below.refl _ w).drew))
end
end Go.Proofs.Yteooamoagkcgnaa
