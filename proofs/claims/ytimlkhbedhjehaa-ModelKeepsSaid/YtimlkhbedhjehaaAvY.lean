/-
  Walks over abstract values: rows of the store, handed to a function that only looks. Over whatever program. No condition.
-/
import Derived.Test.YtimlkhbedhjehaaAvX
namespace Go.Proofs.Ytimlkhbedhjehaa
open Go.RowKit
set_option linter.unusedSimpArgs false
set_option linter.unusedVariables false
/-- the rows among values -/
def ownR : List AV → List Loc
  | [] => []
  | .own id _ :: l => .obj id :: ownR l
  | _ :: l => ownR l
inductive AsL (s : ASt) : List AV → List AV → Prop
  | nil : AsL s [] []
  | own {id n e size : Nat} {xs : List (List AV)} {vs us : List AV} (h : find s.σ id = some (.row e size xs)) (hn : n = xs.length) (hs : AsL s vs us) : AsL s (.own id n :: vs) (.sl size xs :: us)
  | vnil {n : Nat} {vs us : List AV} (hs : AsL s vs us) : AsL s (.v (.slice none 0 0) :: vs) (.sl n [] :: us)
  | same {v : AV} {vs us : List AV} (hs : AsL s vs us) : AsL s (v :: vs) (v :: us)
section
variable {P : Program} {Γ : Ctx} {s : ASt} {σ : Store} {μ : Nat → Value} {w : World} {T : List TyI}
variable {dst : Option Tmp} {ty : TypeId} {pos : String} {after : Array Edge}
theorem asL_rep {t : ASt} {a : Act} (hr : Rel Γ t μ a w) : ∀ {vs us : List AV} {ys : List Value}, Agree s t (ownR vs) → AsL s vs us → us.all pureB = true → repL t.σ μ w (av t.σ μ Γ.M) vs ys → repL [] μ w (fun _ => False) us ys
  | [], _, ys, _, .nil, _, hv => by simpa only [repL] using hv
  | _ :: vs, _ :: us, ys, hag, .own h hn hs, hp, hv => by
    simp only [List.all_cons, Bool.and_eq_true] at hp
    simp only [repL] at hv ⊢
    obtain ⟨y, ys', e, h1, h2⟩ := hv
    exact ⟨y, ys', e, asSl_rep hr (R := [.obj _]) ⟨hag.1, trivial⟩ (AsSl.own h hn) hp.1 h1, asL_rep hr hag.2 hs hp.2 h2⟩
  | _ :: vs, _ :: us, ys, hag, .vnil hs, hp, hv => by
    simp only [List.all_cons, Bool.and_eq_true] at hp
    simp only [repL] at hv ⊢
    obtain ⟨y, ys', e, h1, h2⟩ := hv
    exact ⟨y, ys', e, asSl_rep (s := s) hr (R := []) trivial AsSl.nil hp.1 h1, asL_rep hr (vs := vs) hag hs hp.2 h2⟩
  | v :: vs, _ :: us, ys, hag, .same hs, hp, hv => by
    simp only [List.all_cons, Bool.and_eq_true] at hp
    simp only [repL] at hv ⊢
    obtain ⟨y, ys', e, h1, h2⟩ := hv
    refine ⟨y, ys', e, asSl_rep (s := s) hr (R := []) trivial AsSl.same hp.1 h1, asL_rep hr ?_ hs hp.2 h2⟩
    cases v <;> first | exact hag | exact hag.2
/-- A call that only looks, with rows of the store among what it looks at, and whose answer holds no memory. -/
theorem ls_callR {f : FuncId} {args : Array Operand} {argTypes : Array TypeId} {c : Operand} {vs us caps : List AV} {r : AV} (h : PC P f us r) (hc : ev s c = some (.clo (.func f) [] caps)) (hargs : evL s args.toList = some vs) (hn : AsL s (vs ++ caps) us) (hp : us.all pureB = true) (hfl : flat r = true) (hd : okDst Γ.n dst = true) :
    LS P Γ ⟨dst, .call { callee := .value c, args := args, argTypes := argTypes }, ty, pos, after, none⟩ s (rd c (rdL args.toList (ownR (vs ++ caps) ++ []))) (dst1 dst r) [] := by
  refine ⟨fun t ht Q μ a w hr K hK => ?_⟩
  obtain ⟨h0, ht⟩ := ht.ev hc
  obtain ⟨ks, hks, h0⟩ := hr.callee h0
  obtain ⟨h1, ht⟩ := ht.evL hr hargs
  obtain ⟨hag, _⟩ := ht.app
  have h2 := asL_rep hr hag hn hp (repL_append h1 h0)
  have hs0 : SRel [] μ w (fun _ => False) := ⟨fun _ _ h => by simp [find] at h, fun _ _ _ _ _ h => by simp [find] at h, fun _ h => h.elim, fun _ _ _ h => by simp [find] at h⟩
  have h3 := h.ac.2 w (fun _ => False) μ (args.toList.map a.eval ++ ks) hs0 (by
    refine repL_mono (Step.same_world fun b _ hc => ?_) h2
    rcases hc with hc | ⟨_, _, hc, _⟩
    · exact hc
    · simp [find] at hc)
  unfold Oper.wp
  rw [run_call h.ac.1 hks]
  refine Calls.mono h3 ?_
  rintro e w' ⟨y, μ', rfl, h4, h5, h6⟩
  have hb : Below w.heap.size w w' := ⟨h6.os, h6.tape, h6.output, h6.size, fun k hk => h6.same k hk (fun _ _ h => by simp [find] at h)⟩
  exact hK μ _ _ ((hr.world hb).put hd (flat_rep hfl h5))
end
end Go.Proofs.Ytimlkhbedhjehaa
