/-
  Walks over abstract values: contracts and calls. Over whatever program. No condition.
-/
import Derived.Test.YtimlkhbedhjehaaAvB
namespace Go.Proofs.Ytimlkhbedhjehaa
open Go.RowKit
set_option linter.unusedSimpArgs false
set_option linter.unusedVariables false

/-! the same value under other names of places; with all its places at hand -/
def renD (ρ : Nat → Nat) : AV → AV
  | .own id n => .own (ρ id) n
  | .ref id o => .ref (ρ id) o
  | .eref id n i o => .eref (ρ id) n i o
  | x => x
def renC (ρ : Nat → Nat) : AV → AV
  | .clo fn f c => .clo fn (f.map (renD ρ)) (c.map (renD ρ))
  | x => renD ρ x
def renB (ρ : Nat → Nat) : AV → AV
  | .agg cs => .agg (cs.map (renC ρ))
  | x => renC ρ x
def renA (ρ : Nat → Nat) : AV → AV
  | .tup vs => .tup (vs.map (renB ρ))
  | x => renB ρ x
def renO (ρ : Nat → Nat) : SObj → SObj
  | .box t cs => .box t (cs.map (renC ρ))
  | x => x
def has (σ : Store) (id : Nat) : Bool := match find σ id with | some _ => true | none => false
def closD (σ : Store) : AV → Bool
  | .v _ | .sl _ _ | .el _ => true
  | .own id _ | .ref id _ | .eref id _ _ _ => has σ id
  | _ => false
def closC (σ : Store) : AV → Bool
  | .clo _ f c => f.all (closD σ) && c.all (closD σ)
  | x => closD σ x
def closB (σ : Store) : AV → Bool
  | .agg cs => cs.all (closC σ)
  | x => closC σ x
def closA (σ : Store) : AV → Bool
  | .tup vs => vs.all (closB σ)
  | x => closB σ x
def closO (σ : Store) : SObj → Bool
  | .box _ cs => cs.all (closC σ)
  | .row _ _ _ => true
/-- one store's objects lie in another one, under other names -/
structure Into (ρ : Nat → Nat) (σ : Store) (μ : Nat → Value) (σ' : Store) (μ' : Nat → Value) : Prop where
  obj : ∀ id o, find σ id = some o → find σ' (ρ id) = some (renO ρ o)
  loc : ∀ id o, find σ id = some o → μ' (ρ id) = μ id
section
variable {ρ : Nat → Nat} {σ σ' : Store} {μ μ' : Nat → Value} {w : World} {A A' : Nat → Prop}
theorem Step.same_world (h : ∀ b, ¬ A b → ¬ A' b) : Step [] μ w A [] μ' w A' := ⟨fun b hb _ => ⟨rfl, h b hb⟩, Nat.le_refl _, fun _ _ _ h => by simp [find] at h, fun _ _ _ _ h => by simp [find] at h⟩
theorem has_iff {id : Nat} (h : has σ id = true) : ∃ o, find σ id = some o := by
  unfold has at h
  split at h
  · rename_i o ho; exact ⟨o, ho⟩
  · cases h
theorem rep_ren_D (hi : Into ρ σ μ σ' μ') (hA : ∀ b, ¬ A b → ¬ A' b) {v : AV} {y : Value} (hc : closD σ v = true) (h : rep σ μ w A v y) : rep σ' μ' w A' (renD ρ v) y := by
  cases v with
  | v x => simpa only [renD, rep] using h
  | sl n xs =>
    simp only [renD, rep] at h ⊢
    obtain ⟨ad, c, us, e, h1, h2, h3, h4⟩ := h
    exact ⟨ad, c, us, e, h1, h2, h3.mono (fun b hb _ => ⟨rfl, hA b hb⟩) (Nat.le_refl _), repLL_mono (Step.same_world hA) h4⟩
  | el cs =>
    simp only [renD, rep] at h ⊢
    obtain ⟨b, off, us, e, h3, h4⟩ := h
    exact ⟨b, off, us, e, h3.mono (fun b hb _ => ⟨rfl, hA b hb⟩) (Nat.le_refl _), repC_mono (Step.same_world hA) h4⟩
  | own id n =>
    simp only [renD, rep] at h ⊢
    obtain ⟨h0, e, size, xs, h1, h2, h3⟩ := h
    exact ⟨h0, e, size, xs, hi.obj _ _ h1, h2, fun hn => (h3 hn).trans (hi.loc _ _ h1).symm⟩
  | ref id off =>
    simp only [renD, rep] at h ⊢
    obtain ⟨t, cs, g, h1, h2, h3, h4⟩ := h
    exact ⟨t, _, g, hi.obj _ _ h1, by simpa using h2, (hi.loc _ _ h1).trans h3, h4⟩
  | eref id n i off =>
    simp only [renD, rep] at h ⊢
    obtain ⟨h0, e, size, xs, h1, h2, h3⟩ := h
    refine ⟨h0, e, size, xs, hi.obj _ _ h1, h2, fun hn => ?_⟩
    obtain ⟨g, c, h4, h5, h6, h7⟩ := h3 hn
    exact ⟨g, c, h4, h5, (hi.loc _ _ h1).trans h6, h7⟩
  | _ => cases hc
theorem repL_ren_D (hi : Into ρ σ μ σ' μ') (hA : ∀ b, ¬ A b → ¬ A' b) : ∀ {vs : List AV} {us : List Value}, vs.all (closD σ) = true → repL σ μ w A vs us → repL σ' μ' w A' (vs.map (renD ρ)) us
  | [], us, _, h => by simpa only [List.map_nil, repL] using h
  | v :: vs, us, hc, h => by
    simp only [List.all_cons, Bool.and_eq_true] at hc
    simp only [List.map_cons, repL] at h ⊢
    obtain ⟨u, us', e, h1, h2⟩ := h
    exact ⟨u, us', e, rep_ren_D hi hA hc.1 h1, repL_ren_D hi hA hc.2 h2⟩
theorem rep_ren_C (hi : Into ρ σ μ σ' μ') (hA : ∀ b, ¬ A b → ¬ A' b) {v : AV} {y : Value} (hc : closC σ v = true) (h : rep σ μ w A v y) : rep σ' μ' w A' (renC ρ v) y := by
  have key := @rep_ren_D ρ σ σ' μ μ' w A A' hi hA v y
  cases v with
  | clo fn f c =>
    simp only [closC, Bool.and_eq_true] at hc
    simp only [renC, rep] at h ⊢
    obtain ⟨us, ks, e, h1, h2⟩ := h
    exact ⟨us, ks, e, repL_ren_D hi hA hc.1 h1, repL_ren_D hi hA hc.2 h2⟩
  | _ => exact key hc h
theorem repC_ren (hi : Into ρ σ μ σ' μ') (hA : ∀ b, ¬ A b → ¬ A' b) : ∀ {vs : List AV} {us : List Value}, vs.all (closC σ) = true → repC σ μ w A vs us → repC σ' μ' w A' (vs.map (renC ρ)) us
  | [], us, _, h => by simpa only [List.map_nil, repC] using h
  | v :: vs, us, hc, h => by
    simp only [List.all_cons, Bool.and_eq_true] at hc
    simp only [List.map_cons, repC] at h ⊢
    obtain ⟨u, us', e, h0, h1, h2⟩ := h
    exact ⟨u, us', e, h0, rep_ren_C hi hA hc.1 h1, repC_ren hi hA hc.2 h2⟩
theorem rep_ren_B (hi : Into ρ σ μ σ' μ') (hA : ∀ b, ¬ A b → ¬ A' b) {v : AV} {y : Value} (hc : closB σ v = true) (h : rep σ μ w A v y) : rep σ' μ' w A' (renB ρ v) y := by
  have key := @rep_ren_C ρ σ σ' μ μ' w A A' hi hA v y
  cases v with
  | agg cs =>
    simp only [closB] at hc
    simp only [renB, rep] at h ⊢
    obtain ⟨us, e, h1⟩ := h
    exact ⟨us, e, repC_ren hi hA hc h1⟩
  | _ => exact key hc h
theorem repL_ren_B (hi : Into ρ σ μ σ' μ') (hA : ∀ b, ¬ A b → ¬ A' b) : ∀ {vs : List AV} {us : List Value}, vs.all (closB σ) = true → repL σ μ w A vs us → repL σ' μ' w A' (vs.map (renB ρ)) us
  | [], us, _, h => by simpa only [List.map_nil, repL] using h
  | v :: vs, us, hc, h => by
    simp only [List.all_cons, Bool.and_eq_true] at hc
    simp only [List.map_cons, repL] at h ⊢
    obtain ⟨u, us', e, h1, h2⟩ := h
    exact ⟨u, us', e, rep_ren_B hi hA hc.1 h1, repL_ren_B hi hA hc.2 h2⟩
theorem rep_ren (hi : Into ρ σ μ σ' μ') (hA : ∀ b, ¬ A b → ¬ A' b) {v : AV} {y : Value} (hc : closA σ v = true) (h : rep σ μ w A v y) : rep σ' μ' w A' (renA ρ v) y := by
  have key := @rep_ren_B ρ σ σ' μ μ' w A A' hi hA v y
  cases v with
  | tup vs =>
    simp only [closA] at hc
    simp only [renA, rep] at h ⊢
    obtain ⟨us, e, h1⟩ := h
    exact ⟨us, e, repL_ren_B hi hA hc h1⟩
  | _ => exact key hc h
/-! and back: a value of the other store that is such a value's image -/
theorem rep_back_D (hi : Into ρ σ μ σ' μ') (hA : ∀ b, ¬ A b → ¬ A' b) {v : AV} {y : Value} (hc : closD σ v = true) (h : rep σ' μ' w A (renD ρ v) y) : rep σ μ w A' v y := by
  cases v with
  | v x => simpa only [renD, rep] using h
  | sl n xs =>
    simp only [renD, rep] at h ⊢
    obtain ⟨ad, c, us, e, h1, h2, h3, h4⟩ := h
    exact ⟨ad, c, us, e, h1, h2, h3.mono (fun b hb _ => ⟨rfl, hA b hb⟩) (Nat.le_refl _), repLL_mono (Step.same_world hA) h4⟩
  | el cs =>
    simp only [renD, rep] at h ⊢
    obtain ⟨b, off, us, e, h3, h4⟩ := h
    exact ⟨b, off, us, e, h3.mono (fun b hb _ => ⟨rfl, hA b hb⟩) (Nat.le_refl _), repC_mono (Step.same_world hA) h4⟩
  | own id n =>
    simp only [renD, rep] at h ⊢
    obtain ⟨h0, e, size, xs, h1, h2, h3⟩ := h
    obtain ⟨o, ho⟩ := has_iff hc
    have h4 := hi.obj _ _ ho
    rw [h1] at h4; injection h4 with h4
    cases o with
    | box t cs => cases h4
    | row e' s' x' =>
      simp only [renO] at h4
      injection h4 with h5 h6 h7; subst h5 h6 h7
      exact ⟨h0, e, size, xs, ho, h2, fun hn => (h3 hn).trans (hi.loc _ _ ho)⟩
  | ref id off =>
    simp only [renD, rep] at h ⊢
    obtain ⟨t, cs, g, h1, h2, h3, h4⟩ := h
    obtain ⟨o, ho⟩ := has_iff hc
    have h5 := hi.obj _ _ ho
    rw [h1] at h5; injection h5 with h5
    cases o with
    | row e' s' x' => cases h5
    | box t' cs' =>
      simp only [renO] at h5
      injection h5 with h6 h7; subst h6 h7
      exact ⟨t, cs', g, ho, by simpa using h2, (hi.loc _ _ ho).symm.trans h3, h4⟩
  | eref id n i off =>
    simp only [renD, rep] at h ⊢
    obtain ⟨h0, e, size, xs, h1, h2, h3⟩ := h
    obtain ⟨o, ho⟩ := has_iff hc
    have h4 := hi.obj _ _ ho
    rw [h1] at h4; injection h4 with h4
    cases o with
    | box t cs => cases h4
    | row e' s' x' =>
      simp only [renO] at h4
      injection h4 with h5 h6 h7; subst h5 h6 h7
      refine ⟨h0, e, size, xs, ho, h2, fun hn => ?_⟩
      obtain ⟨g, c, h8, h9, h10, h11⟩ := h3 hn
      exact ⟨g, c, h8, h9, (hi.loc _ _ ho).symm.trans h10, h11⟩
  | _ => cases hc
theorem repL_back_D (hi : Into ρ σ μ σ' μ') (hA : ∀ b, ¬ A b → ¬ A' b) : ∀ {vs : List AV} {us : List Value}, vs.all (closD σ) = true → repL σ' μ' w A (vs.map (renD ρ)) us → repL σ μ w A' vs us
  | [], us, _, h => by simpa only [List.map_nil, repL] using h
  | v :: vs, us, hc, h => by
    simp only [List.all_cons, Bool.and_eq_true] at hc
    simp only [List.map_cons, repL] at h ⊢
    obtain ⟨u, us', e, h1, h2⟩ := h
    exact ⟨u, us', e, rep_back_D hi hA hc.1 h1, repL_back_D hi hA hc.2 h2⟩
theorem rep_back_C (hi : Into ρ σ μ σ' μ') (hA : ∀ b, ¬ A b → ¬ A' b) {v : AV} {y : Value} (hc : closC σ v = true) (h : rep σ' μ' w A (renC ρ v) y) : rep σ μ w A' v y := by
  have key := @rep_back_D ρ σ σ' μ μ' w A A' hi hA v y
  cases v with
  | clo fn f c =>
    simp only [closC, Bool.and_eq_true] at hc
    simp only [renC, rep] at h ⊢
    obtain ⟨us, ks, e, h1, h2⟩ := h
    exact ⟨us, ks, e, repL_back_D hi hA hc.1 h1, repL_back_D hi hA hc.2 h2⟩
  | _ => exact key hc h
theorem repC_back (hi : Into ρ σ μ σ' μ') (hA : ∀ b, ¬ A b → ¬ A' b) : ∀ {vs : List AV} {us : List Value}, vs.all (closC σ) = true → repC σ' μ' w A (vs.map (renC ρ)) us → repC σ μ w A' vs us
  | [], us, _, h => by simpa only [List.map_nil, repC] using h
  | v :: vs, us, hc, h => by
    simp only [List.all_cons, Bool.and_eq_true] at hc
    simp only [List.map_cons, repC] at h ⊢
    obtain ⟨u, us', e, h0, h1, h2⟩ := h
    exact ⟨u, us', e, h0, rep_back_C hi hA hc.1 h1, repC_back hi hA hc.2 h2⟩
theorem rep_back_B (hi : Into ρ σ μ σ' μ') (hA : ∀ b, ¬ A b → ¬ A' b) {v : AV} {y : Value} (hc : closB σ v = true) (h : rep σ' μ' w A (renB ρ v) y) : rep σ μ w A' v y := by
  have key := @rep_back_C ρ σ σ' μ μ' w A A' hi hA v y
  cases v with
  | agg cs =>
    simp only [closB] at hc
    simp only [renB, rep] at h ⊢
    obtain ⟨us, e, h1⟩ := h
    exact ⟨us, e, repC_back hi hA hc h1⟩
  | _ => exact key hc h
theorem repL_back_B (hi : Into ρ σ μ σ' μ') (hA : ∀ b, ¬ A b → ¬ A' b) : ∀ {vs : List AV} {us : List Value}, vs.all (closB σ) = true → repL σ' μ' w A (vs.map (renB ρ)) us → repL σ μ w A' vs us
  | [], us, _, h => by simpa only [List.map_nil, repL] using h
  | v :: vs, us, hc, h => by
    simp only [List.all_cons, Bool.and_eq_true] at hc
    simp only [List.map_cons, repL] at h ⊢
    obtain ⟨u, us', e, h1, h2⟩ := h
    exact ⟨u, us', e, rep_back_B hi hA hc.1 h1, repL_back_B hi hA hc.2 h2⟩
end
/-- A function is there to be called. -/
def CallOK (P : Program) (f : FuncId) : Prop := ∃ fn, P.funcs[f]? = some fn ∧ (fn.name == "runtime.NumGoroutine") = false ∧ fn.body.isNone = false
/-- A contract: what a call at these arguments gives, and makes of the objects that were handed to it. -/
structure AC (P : Program) (f : FuncId) (args : List AV) (σ : Store) (r : AV) (σ' : Store) : Prop where
  ok : CallOK P f
  out : ∀ (w : World) (M : Nat → Prop) (μ : Nat → Value) (vs : List Value), SRel σ μ w M → repL σ μ w (av σ μ M) args vs →
    Calls P f vs.toArray w fun e w' => ∃ y μ', e = .returned y ∧ SRel σ' μ' w' M ∧ rep σ' μ' w' (av σ' μ' M) r y ∧ Gro σ μ w σ' μ' w'
/-- .. that only looks at what it is given -/
structure PC (P : Program) (f : FuncId) (args : List AV) (r : AV) : Prop where
  ac : AC P f args [] r []

def evL (s : ASt) : List Operand → Option (List AV)
  | [] => some []
  | x :: l => match ev s x, evL s l with
    | some v, some r => some (v :: r)
    | _, _ => none
def rdL : List Operand → List Loc → List Loc
  | [], R => R
  | x :: l, R => rd x (rdL l R)
/-- what the caller has, as the callee takes it: a nil slice is one of no element -/
inductive Nil1 : AV → AV → Prop
  | same {v : AV} : Nil1 v v
  | nil {n : Nat} : Nil1 (.v (.slice none 0 0)) (.sl n [])
inductive Nil1s : List AV → List AV → Prop
  | nil : Nil1s [] []
  | cons {v u : AV} {vs us : List AV} (h : Nil1 v u) (hs : Nil1s vs us) : Nil1s (v :: vs) (u :: us)
inductive Nil : AV → AV → Prop
  | same {v : AV} : Nil v v
  | nil {n : Nat} : Nil (.v (.slice none 0 0)) (.sl n [])
  | agg {cs ds : List AV} (h : Nil1s cs ds) : Nil (.agg cs) (.agg ds)
inductive NilL : List AV → List AV → Prop
  | nil : NilL [] []
  | cons {v u : AV} {vs us : List AV} (h : Nil v u) (hs : NilL vs us) : NilL (v :: vs) (u :: us)
section
variable {P : Program} {Γ : Ctx} {Q Q' : Exit → ASt → Prop} {s : ASt} {σ : Store} {μ : Nat → Value} {w : World} {A : Nat → Prop} {T : List TyI}
theorem rep_nil1 {v u : AV} {y : Value} (h : Nil1 v u) (hr : rep σ μ w A v y) : rep σ μ w A u y := by
  cases h with
  | same => exact hr
  | nil =>
    simp only [rep] at hr ⊢
    exact ⟨none, 0, [], hr.1, Nat.le_refl _, by simp [maxLen], .inl rfl, by simp [repLL]⟩
theorem repC_nil : ∀ {vs us : List AV} {ys : List Value}, Nil1s vs us → repC σ μ w A vs ys → repC σ μ w A us ys
  | [], [], ys, .nil, h => h
  | v :: vs, u :: us, ys, .cons h hs, hr => by
    simp only [repC] at hr ⊢
    obtain ⟨y, ys', e, h0, h1, h2⟩ := hr
    exact ⟨y, ys', e, h0, rep_nil1 h h1, repC_nil hs h2⟩
theorem rep_nil {v u : AV} {y : Value} (h : Nil v u) (hr : rep σ μ w A v y) : rep σ μ w A u y := by
  cases h with
  | same => exact hr
  | nil => exact rep_nil1 Nil1.nil hr
  | agg h =>
    simp only [rep] at hr ⊢
    obtain ⟨us, e, h1⟩ := hr
    exact ⟨us, e, repC_nil h h1⟩
theorem repL_nil : ∀ {vs us : List AV} {ys : List Value}, NilL vs us → repL σ μ w A vs ys → repL σ μ w A us ys
  | [], [], ys, .nil, h => h
  | v :: vs, u :: us, ys, .cons h hs, hr => by
    simp only [repL] at hr ⊢
    obtain ⟨y, ys', e, h1, h2⟩ := hr
    exact ⟨y, ys', e, rep_nil h h1, repL_nil hs h2⟩
theorem Agree.evL {s t : ASt} {a : Act} (hr : Rel Γ t μ a w) : ∀ {l : List Operand} {R : List Loc} {vs : List AV}, Agree s t (rdL l R) → evL s l = some vs → repL t.σ μ w (av t.σ μ Γ.M) vs (l.map a.eval) ∧ Agree s t R
  | [], R, vs, h, e => by simp [Proofs.Ytimlkhbedhjehaa.evL] at e; subst e; exact ⟨by simp [repL], h⟩
  | x :: l, R, vs, h, e => by
    simp only [Proofs.Ytimlkhbedhjehaa.evL] at e
    split at e
    · rename_i v r hv hl
      injection e with e; subst e
      obtain ⟨h1, h2⟩ := Agree.ev h hv
      obtain ⟨h3, h4⟩ := Agree.evL hr h2 hl
      simp only [List.map_cons, repL]
      exact ⟨⟨_, _, rfl, hr.ev h1, h3⟩, h4⟩
    · cases e
variable {dst : Option Tmp} {ty : TypeId} {pos : String} {after : Array Edge}
theorem run_call {f : FuncId} (h : CallOK P f) {c : Operand} {args : Array Operand} {argTypes : Array TypeId} {a : Act} {ks : List Value} (hc : a.eval c = .func (.func f) #[] ks.toArray) : (execOp a.eval ⟨dst, .call { callee := .value c, args := args, argTypes := argTypes }, ty, pos, after, none⟩).run P w = .ok (.enter f (args.toList.map a.eval ++ ks).toArray) w := by
  obtain ⟨fn, h1, h2, h3⟩ := h
  have h4 : args.map a.eval = (args.toList.map a.eval).toArray := by simp [← Array.toList_map]
  have h2' : ¬ fn.name = "runtime.NumGoroutine" := by simpa using h2
  have h3' : fn.body ≠ none := by
    intro h; rw [h] at h3; cases h3
  simp [execOp, resolve, hc, Deferred.ofValue, invoke, callFunc, h1, h2', h3', h4]
theorem repL_append : ∀ {vs us : List AV} {ys zs : List Value}, repL σ μ w A vs ys → repL σ μ w A us zs → repL σ μ w A (vs ++ us) (ys ++ zs)
  | [], us, ys, zs, h, k => by simp only [repL] at h; subst h; simpa using k
  | v :: vs, us, ys, zs, h, k => by
    simp only [repL] at h
    obtain ⟨y, ys', rfl, h1, h2⟩ := h
    simp only [List.cons_append, repL]
    exact ⟨y, _, rfl, h1, repL_append h2 k⟩
theorem Rel.callee {t : ASt} {a : Act} (hr : Rel Γ t μ a w) {c : Operand} {f : FuncId} {caps : List AV} (h : Proofs.Ytimlkhbedhjehaa.ev t c = some (.clo (.func f) [] caps)) : ∃ ks : List Value, a.eval c = .func (.func f) #[] ks.toArray ∧ repL t.σ μ w (av t.σ μ Γ.M) caps ks := by
  have h1 := hr.ev h
  simp only [rep, repL] at h1
  obtain ⟨us, ks, h2, rfl, h3⟩ := h1
  exact ⟨ks, h2, h3⟩
/-- A call that only looks at what it is given. -/
theorem ls_call {f : FuncId} {args : Array Operand} {argTypes : Array TypeId} {c : Operand} {vs us caps : List AV} {r : AV} (h : PC P f us r) (hc : ev s c = some (.clo (.func f) [] caps)) (hargs : evL s args.toList = some vs) (hn : NilL (vs ++ caps) us) (hp : us.all pureB = true) (hd : okDst Γ.n dst = true) :
    LS P Γ ⟨dst, .call { callee := .value c, args := args, argTypes := argTypes }, ty, pos, after, none⟩ s (rd c (rdL args.toList [])) (dst1 dst r) [] := by
  refine ⟨fun t ht Q μ a w hr K hK => ?_⟩
  obtain ⟨h0, ht⟩ := ht.ev hc
  obtain ⟨ks, hks, h0⟩ := hr.callee h0
  obtain ⟨h1, _⟩ := ht.evL hr hargs
  have h2 := repL_pure (μ' := μ) (repL_nil hn (repL_append h1 h0)) hp
  have hM : ∀ b, av t.σ μ Γ.M b → b < w.heap.size := by
    intro b hb
    rcases hb with hb | ⟨id, o, h3, h4⟩
    · exact hr.store.lt b hb
    · exact ObjRel.lt hr.store h3 h4
  have hs0 : SRel [] μ w (av t.σ μ Γ.M) := ⟨fun _ _ h => by simp [find] at h, fun _ _ _ _ _ h => by simp [find] at h, hM, fun _ _ _ h => by simp [find] at h⟩
  have h3 := h.ac.2 w (av t.σ μ Γ.M) μ (args.toList.map a.eval ++ ks) hs0 (by
    refine repL_mono (Step.same_world fun b hb hc => hb ?_) h2
    rcases hc with hc | ⟨_, _, hc, _⟩
    · exact hc
    · simp [find] at hc)
  unfold Oper.wp
  rw [run_call h.ac.1 hks]
  refine Calls.mono h3 ?_
  rintro e w' ⟨y, μ', rfl, h4, h5, h6⟩
  have hb : Below w.heap.size w w' := ⟨h6.os, h6.tape, h6.output, h6.size, fun k hk => h6.same k hk (fun _ _ h => by simp [find] at h)⟩
  have hr2 := hr.world hb
  refine hK μ _ _ (hr2.put hd ?_)
  refine rep_mono (σ := []) (μ := μ') (A := av [] μ' (av t.σ μ Γ.M)) ⟨fun b hb _ => ⟨rfl, fun hc => hb (.inl hc)⟩, Nat.le_refl _, fun _ _ _ h => by simp [find] at h, fun _ _ _ _ h => by simp [find] at h⟩ h5
/-! a row of the store, handed to a function that only looks, and whose answer holds no memory -/
inductive AsSl (s : ASt) : AV → AV → List Loc → Prop
  | same {v : AV} : AsSl s v v []
  | nil {n : Nat} : AsSl s (.v (.slice none 0 0)) (.sl n []) []
  | own {id n e size : Nat} {xs : List (List AV)} (h : find s.σ id = some (.row e size xs)) (hn : n = xs.length) : AsSl s (.own id n) (.sl size xs) [.obj id]
inductive AsSlL (s : ASt) : List AV → List AV → List Loc → Prop
  | nil : AsSlL s [] [] []
  | cons {v u : AV} {vs us : List AV} {R R' : List Loc} (h : AsSl s v u R) (hs : AsSlL s vs us R') : AsSlL s (v :: vs) (u :: us) (R ++ R')
def flat : AV → Bool
  | .v _ => true
  | .tup vs => vs.all fun | .v _ => true | _ => false
  | .agg vs => vs.all fun | .v _ => true | _ => false
  | _ => false
theorem flat_rep {σ' : Store} {μ' : Nat → Value} {w' : World} {A' : Nat → Prop} {r : AV} {y : Value} (hf : flat r = true) (h : rep σ μ w A r y) : rep σ' μ' w' A' r y := by
  have keyL : ∀ (vs : List AV) (us : List Value), (vs.all fun | .v _ => true | _ => false) = true → repL σ μ w A vs us → repL σ' μ' w' A' vs us := by
    intro vs
    induction vs with
    | nil => intro us _ h; simpa only [repL] using h
    | cons v vs ih =>
      intro us hv h
      simp only [List.all_cons, Bool.and_eq_true] at hv
      simp only [repL] at h ⊢
      obtain ⟨u, us', e, h1, h2⟩ := h
      refine ⟨u, us', e, ?_, ih us' hv.2 h2⟩
      cases v with
      | v x => simpa only [rep] using h1
      | _ => exact absurd hv.1 (by simp)
  have keyC : ∀ (vs : List AV) (us : List Value), (vs.all fun | .v _ => true | _ => false) = true → repC σ μ w A vs us → repC σ' μ' w' A' vs us := by
    intro vs
    induction vs with
    | nil => intro us _ h; simpa only [repC] using h
    | cons v vs ih =>
      intro us hv h
      simp only [List.all_cons, Bool.and_eq_true] at hv
      simp only [repC] at h ⊢
      obtain ⟨u, us', e, h0, h1, h2⟩ := h
      refine ⟨u, us', e, h0, ?_, ih us' hv.2 h2⟩
      cases v with
      | v x => simpa only [rep] using h1
      | _ => exact absurd hv.1 (by simp)
  cases r with
  | v x => simpa only [rep] using h
  | tup vs =>
    simp only [rep] at h ⊢
    obtain ⟨us, e, h1⟩ := h
    exact ⟨us, e, keyL vs us hf h1⟩
  | agg vs =>
    simp only [rep] at h ⊢
    obtain ⟨us, e, h1⟩ := h
    exact ⟨us, e, keyC vs us hf h1⟩
  | _ => cases hf
theorem asSl_rep {t : ASt} {a : Act} (hr : Rel Γ t μ a w) {v u : AV} {R : List Loc} {y : Value} (hag : Agree s t R) (h : AsSl s v u R) (hp : pureB u = true) (hv : rep t.σ μ w (av t.σ μ Γ.M) v y) : rep [] μ w (fun _ => False) u y := by
  have hst : Step [] μ w (av t.σ μ Γ.M) [] μ w (fun _ => False) := Step.same_world fun _ _ h => h
  cases h with
  | same => exact rep_mono hst (rep_pureB hv hp)
  | nil => exact rep_mono hst (rep_pureB (rep_nil Nil.nil hv) hp)
  | own h hn =>
    have h0 := hag.1.trans h
    simp only [rep] at hv ⊢
    obtain ⟨_, e, size', xs, h1, h2, h3⟩ := hv
    rw [h0] at h1
    injection h1 with h1; injection h1 with h4 h5 h6; subst h4 h5 h6
    obtain ⟨us, h6, h7⟩ := hr.store.obj _ _ h0
    obtain ⟨A', c', h8, h9, h10⟩ := own_slice h6
    have h3 := (h3 hn).trans h8
    refine ⟨A', c', us, h3, h9, by simpa [maxLen] using h10, ?_, repLL_mono hst h7⟩
    rw [h8] at h6
    have h11 := Reads.of_own h6
    rcases Nat.eq_zero_or_pos (List.length ‹List (List AV)›) with h12 | h12
    · left
      have := h6.1
      rw [h12, Nat.zero_mul] at this
      exact List.eq_nil_of_length_eq_zero this
    · obtain ⟨b, off, h13, h14, h15⟩ := h11.2 h12
      exact .inr ⟨b, off, h13, fun h => h, h14, h15⟩
theorem asSlL_rep {t : ASt} {a : Act} (hr : Rel Γ t μ a w) : ∀ {vs us : List AV} {R : List Loc} {ys : List Value}, Agree s t R → AsSlL s vs us R → us.all pureB = true → repL t.σ μ w (av t.σ μ Γ.M) vs ys → repL [] μ w (fun _ => False) us ys
  | [], [], _, ys, _, .nil, _, hv => by simpa only [repL] using hv
  | v :: vs, u :: us, _, ys, hag, .cons h hs, hp, hv => by
    simp only [List.all_cons, Bool.and_eq_true] at hp
    simp only [repL] at hv ⊢
    obtain ⟨y, ys', e, h1, h2⟩ := hv
    obtain ⟨h3, h4⟩ := hag.app
    exact ⟨y, ys', e, asSl_rep hr h3 h hp.1 h1, asSlL_rep hr h4 hs hp.2 h2⟩
theorem ls_callS {f : FuncId} {args : Array Operand} {argTypes : Array TypeId} {c : Operand} {vs us caps : List AV} {R : List Loc} {r : AV} (h : PC P f us r) (hc : ev s c = some (.clo (.func f) [] caps)) (hargs : evL s args.toList = some vs) (hn : AsSlL s (vs ++ caps) us R) (hp : us.all pureB = true) (hfl : flat r = true) (hd : okDst Γ.n dst = true) :
    LS P Γ ⟨dst, .call { callee := .value c, args := args, argTypes := argTypes }, ty, pos, after, none⟩ s (rd c (rdL args.toList (R ++ []))) (dst1 dst r) [] := by
  refine ⟨fun t ht Q μ a w hr K hK => ?_⟩
  obtain ⟨h0, ht⟩ := ht.ev hc
  obtain ⟨ks, hks, h0⟩ := hr.callee h0
  obtain ⟨h1, ht⟩ := ht.evL hr hargs
  obtain ⟨hag, _⟩ := ht.app
  have h2 := asSlL_rep hr hag hn hp (repL_append h1 h0)
  have hs0 : SRel [] μ w (fun _ => False) := ⟨fun _ _ h => by simp [find] at h, fun _ _ _ _ _ h => by simp [find] at h, fun _ h => h.elim, fun _ _ _ h => by simp [find] at h⟩
  have h3 := h.ac.2 w (fun _ => False) μ (args.toList.map a.eval ++ ks) hs0 (by
    refine repL_mono (Step.same_world fun b _ hc => ?_) h2
    rcases hc with hc | ⟨_, _, hc, _⟩
    · exact hc
    · simp [find] at hc)
  unfold Oper.wp
  rw [run_call h.ac.1 hks]
  refine Calls.mono h3 ?_
  rintro e w' ⟨y, μ', rfl, h4, h5, h6⟩
  have hb : Below w.heap.size w w' := ⟨h6.os, h6.tape, h6.output, h6.size, fun k hk => h6.same k hk (fun _ _ h => by simp [find] at h)⟩
  exact hK μ _ _ ((hr.world hb).put hd (flat_rep hfl h5))
end
end Go.Proofs.Ytimlkhbedhjehaa
