/-
  Walks over abstract values: a struct that holds rows of one's own, handed to a function that only looks. Over whatever program. No condition.
-/
import Derived.Test.YthlimflfglkpiaaAvX
namespace Go.Proofs.Ythlimflfglkpiaa
open Go.RowKit
set_option linter.unusedSimpArgs false
set_option linter.unusedVariables false
section
variable {P : Program} {Γ : Ctx} {s : ASt} {μ : Nat → Value} {w : World} {dst : Option Tmp} {ty : TypeId} {pos : String} {after : Array Edge}
theorem pureC_B {v : AV} (h : pureC v = true) : pureB v = true := by
  cases v <;> first | exact h | (simp [pureC] at h)
theorem asL_repC {t : ASt} {a : Act} (hr : Rel Γ t μ a w) : ∀ {vs us : List AV} {ys : List Value}, Agree s t (ownR vs) → AsL s vs us → us.all pureC = true → repC t.σ μ w (av t.σ μ Γ.M) vs ys → repC [] μ w (fun _ => False) us ys
  | [], _, ys, _, .nil, _, hv => by simpa only [repC] using hv
  | _ :: vs, _ :: us, ys, hag, .own h hn hs, hp, hv => by
    simp only [List.all_cons, Bool.and_eq_true] at hp
    simp only [repC] at hv ⊢
    obtain ⟨y, ys', e, h0, h1, h2⟩ := hv
    exact ⟨y, ys', e, h0, asSl_rep hr (R := [.obj _]) ⟨hag.1, trivial⟩ (AsSl.own h hn) (pureC_B hp.1) h1, asL_repC hr hag.2 hs hp.2 h2⟩
  | _ :: vs, _ :: us, ys, hag, .vnil hs, hp, hv => by
    simp only [List.all_cons, Bool.and_eq_true] at hp
    simp only [repC] at hv ⊢
    obtain ⟨y, ys', e, h0, h1, h2⟩ := hv
    exact ⟨y, ys', e, h0, asSl_rep (s := s) hr (R := []) trivial AsSl.nil (pureC_B hp.1) h1, asL_repC hr (vs := vs) hag hs hp.2 h2⟩
  | v :: vs, _ :: us, ys, hag, .same hs, hp, hv => by
    simp only [List.all_cons, Bool.and_eq_true] at hp
    simp only [repC] at hv ⊢
    obtain ⟨y, ys', e, h0, h1, h2⟩ := hv
    refine ⟨y, ys', e, h0, asSl_rep (s := s) hr (R := []) trivial AsSl.same (pureC_B hp.1) h1, asL_repC hr ?_ hs hp.2 h2⟩
    cases v <;> first | exact hag | exact hag.2
/-- the rows among values and among their cells -/
def ownG : List AV → List Loc
  | [] => []
  | .agg cs :: l => ownR cs ++ ownG l
  | .own id _ :: l => .obj id :: ownG l
  | _ :: l => ownG l
/-- what is handed over, each struct's cells looked at -/
inductive AsG (s : ASt) : List AV → List AV → Prop
  | nil : AsG s [] []
  | own {id n e size : Nat} {xs : List (List AV)} {vs us : List AV} (h : find s.σ id = some (.row e size xs)) (hn : n = xs.length) (hp : pureB (.sl size xs) = true) (hs : AsG s vs us) : AsG s (.own id n :: vs) (.sl size xs :: us)
  | vnil {n : Nat} {vs us : List AV} (hs : AsG s vs us) : AsG s (.v (.slice none 0 0) :: vs) (.sl n [] :: us)
  | v {x : Value} {vs us : List AV} (hs : AsG s vs us) : AsG s (.v x :: vs) (.v x :: us)
  | sl {n : Nat} {xs : List (List AV)} {vs us : List AV} (hs : AsG s vs us) : AsG s (.sl n xs :: vs) (.sl n xs :: us)
  | agg {cs ds vs us : List AV} (h : AsL s cs ds) (hp : ds.all pureC = true) (hs : AsG s vs us) : AsG s (.agg cs :: vs) (.agg ds :: us)
theorem asG_rep {t : ASt} {a : Act} (hr : Rel Γ t μ a w) : ∀ {vs us : List AV} {ys : List Value}, Agree s t (ownG vs) → AsG s vs us → repL t.σ μ w (av t.σ μ Γ.M) vs ys → repL [] μ w (fun _ => False) us ys
  | [], _, ys, _, .nil, hv => by simpa only [repL] using hv
  | _ :: vs, _ :: us, ys, hag, .own h hn hp hs, hv => by
    simp only [repL] at hv ⊢
    obtain ⟨y, ys', e, h1, h2⟩ := hv
    exact ⟨y, ys', e, asSl_rep hr (R := [.obj _]) ⟨hag.1, trivial⟩ (AsSl.own h hn) hp h1, asG_rep hr hag.2 hs h2⟩
  | _ :: vs, _ :: us, ys, hag, .vnil hs, hv => by
    simp only [repL] at hv ⊢
    obtain ⟨y, ys', e, h1, h2⟩ := hv
    exact ⟨y, ys', e, asSl_rep (s := s) hr (R := []) trivial AsSl.nil rfl h1, asG_rep hr (vs := vs) hag hs h2⟩
  | _ :: vs, _ :: us, ys, hag, .v hs, hv => by
    simp only [repL] at hv ⊢
    obtain ⟨y, ys', e, h1, h2⟩ := hv
    exact ⟨y, ys', e, asSl_rep (s := s) hr (R := []) trivial AsSl.same rfl h1, asG_rep hr (vs := vs) hag hs h2⟩
  | _ :: vs, _ :: us, ys, hag, .sl hs, hv => by
    simp only [repL] at hv ⊢
    obtain ⟨y, ys', e, h1, h2⟩ := hv
    exact ⟨y, ys', e, asSl_rep (s := s) hr (R := []) trivial AsSl.same rfl h1, asG_rep hr (vs := vs) hag hs h2⟩
  | _ :: vs, _ :: us, ys, hag, .agg h hp hs, hv => by
    simp only [repL] at hv ⊢
    obtain ⟨y, ys', e, h1, h2⟩ := hv
    obtain ⟨h3, h4⟩ := Agree.app (l := ownR _) hag
    refine ⟨y, ys', e, ?_, asG_rep hr h4 hs h2⟩
    simp only [rep] at h1 ⊢
    obtain ⟨zs, e1, h5⟩ := h1
    exact ⟨zs, e1, asL_repC hr h3 h hp h5⟩
theorem ls_callG {f : FuncId} {args : Array Operand} {argTypes : Array TypeId} {c : Operand} {vs us caps : List AV} {r : AV} (h : PC P f us r) (hc : ev s c = some (.clo (.func f) [] caps)) (hargs : evL s args.toList = some vs) (hn : AsG s (vs ++ caps) us) (hfl : flat r = true) (hd : okDst Γ.n dst = true) :
    LS P Γ ⟨dst, .call { callee := .value c, args := args, argTypes := argTypes }, ty, pos, after, none⟩ s (rd c (rdL args.toList (ownG (vs ++ caps) ++ []))) (dst1 dst r) [] := by
  refine ⟨fun t ht Q μ a w hr K hK => ?_⟩
  obtain ⟨h0, ht⟩ := ht.ev hc
  obtain ⟨ks, hks, h0⟩ := hr.callee h0
  obtain ⟨h1, ht⟩ := ht.evL hr hargs
  obtain ⟨hag, _⟩ := ht.app
  have h2 := asG_rep hr hag hn (repL_append h1 h0)
  have hs0 : SRel [] μ w (fun _ => False) := ⟨fun _ _ h => by simp [find] at h, fun _ _ _ _ _ h => by simp [find] at h, fun _ h => h.elim, fun _ _ _ h => by simp [find] at h⟩
  have h3 := h.ac.2 w (fun _ => False) μ (args.toList.map a.eval ++ ks) hs0 (by
    refine repL_mono (Step.same_world fun b _ hc => ?_) h2
    rcases hc with hc | ⟨_, _, hc, _⟩
    · exact hc
    · simp [find] at hc)
  unfold Oper.wp
  rw [run_call h.ac.1 hks]
  refine Calls.mono h3 ?_
  rintro e w' ⟨y, μ', rfl, h4, h5, h6⟩
  have hb : Below w.heap.size w w' := ⟨h6.os, h6.tape, h6.output, h6.size, fun k hk => h6.same k hk (fun _ _ h => by simp [find] at h)⟩
  exact hK μ _ _ ((hr.world hb).put hd (flat_rep hfl h5))
end
end Go.Proofs.Ythlimflfglkpiaa
