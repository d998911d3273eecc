/-
  Walks over abstract values: contracts and calls. Over whatever program. No condition.
    Walks over abstract values: results, loops, what is forgotten. Over whatever program. No condition.
    Walks over abstract values: regions that draw their order. Over whatever program. No condition.
    Walks over abstract values: a region that draws its order, in two parts, the second of which waits for all of the first. Over whatever program. No condition.
    Walks over abstract values: a call that is handed objects, or gives new ones. Over whatever program. No condition.
    Walks over abstract values: more operations. Over whatever program. No condition.
    Walks over abstract values: rows of the store, handed to a function that only looks. Over whatever program. No condition.
    Walks over abstract values: division, and a written row that is one's own. Over whatever program. No condition.
-/
import Derived.Orders
import Derived.Test.YtlgbadlgfdlheaaR2
set_option linter.unusedSimpArgs false
set_option linter.unusedVariables false
set_option maxHeartbeats 20000000
namespace Go.Proofs.Ytlgbadlgfdlheaa
open Go.RowKit

def renD (ρ : Nat → Nat) : AV → AV
 | .own id n => .own (ρ id) n
 | .ref id o => .ref (ρ id) o
 | .eref id n i o => .eref (ρ id) n i o
 | .mp id => .mp (ρ id)
 | .ifr t id o => .ifr t (ρ id) o
 | x => x
def renC (ρ : Nat → Nat) : AV → AV
 | .clo fn f c => .clo fn (f.map (renD ρ)) (c.map (renD ρ))
 | x => renD ρ x
def renB (ρ : Nat → Nat) : AV → AV
 | .agg cs => .agg (cs.map (renC ρ))
 | x => renC ρ x
def renA (ρ : Nat → Nat) : AV → AV
 | .tup vs => .tup (vs.map (renB ρ))
 | x => renB ρ x
def renO (ρ : Nat → Nat) : SObj → SObj
 | .box t cs => .box t (cs.map (renC ρ))
 | x => x
def has (σ : Store) (id : Nat) : Bool := match find σ id with | some _ => true | none => false
def closD (σ : Store) : AV → Bool
 | .v _ | .sl _ _ | .el _ | .ifa _ _ | .ife => true
 | .own id _ | .ref id _ | .eref id _ _ _ | .mp id | .ifr _ id _ => has σ id
 | _ => false
def closC (σ : Store) : AV → Bool
 | .clo _ f c => f.all (closD σ) && c.all (closD σ)
 | x => closD σ x
def closB (σ : Store) : AV → Bool
 | .agg cs => cs.all (closC σ)
 | x => closC σ x
def closA (σ : Store) : AV → Bool
 | .tup vs => vs.all (closB σ)
 | x => closB σ x
def closO (σ : Store) : SObj → Bool
 | .box _ cs => cs.all (closC σ)
 | .row _ _ _ => true
 | .mp _ => true
 | .dead => true
structure Into (ρ : Nat → Nat) (σ : Store) (μ : Nat → Value) (σ' : Store) (μ' : Nat → Value) : Prop where
 obj : ∀ id o, find σ id = some o → find σ' (ρ id) = some (renO ρ o)
 loc : ∀ id o, find σ id = some o → μ' (ρ id) = μ id
section
variable {ρ : Nat → Nat} {σ σ' : Store} {μ μ' : Nat → Value} {w : World} {A A' : Nat → Prop}
theorem Step.same_world (h : ∀ b, ¬ A b → ¬ A' b) : Step [] μ w A [] μ' w A' := ⟨fun b hb _ => ⟨rfl, h b hb⟩, Nat.le_refl _, fun _ _ _ h => by simp [find] at h, fun _ _ _ _ h => by simp [find] at h, fun _ _ h => by simp [find] at h, fun _ h => by simp [find] at h⟩
theorem has_iff {id : Nat} (h : has σ id = true) : ∃ o, find σ id = some o := by
 unfold has at h
 split at h
 ·rename_i o ho; exact ⟨o, ho⟩
 ·cases h
theorem rep_ren_D (hi : Into ρ σ μ σ' μ') (hA : ∀ b, ¬ A b → ¬ A' b) {v : AV} {y : Value} (hc : closD σ v = true) (h : rep σ μ w A v y) : rep σ' μ' w A' (renD ρ v) y := by
 cases v with
 | v x => simpa only [renD, rep] using h
 | sl n xs =>
  simp only [renD, rep] at h ⊢
  obtain ⟨ad, c, us, e, h1, h2, h3, h4⟩ := h
  exact ⟨ad, c, us, e, h1, h2, h3.mono (fun b hb _ => ⟨rfl, hA b hb⟩) (Nat.le_refl _), repLL_mono (Step.same_world hA) h4⟩
 | el cs =>
  simp only [renD, rep] at h ⊢
  obtain ⟨b, off, us, e, h3, h4⟩ := h
  exact ⟨b, off, us, e, h3.mono (fun b hb _ => ⟨rfl, hA b hb⟩) (Nat.le_refl _), repC_mono (Step.same_world hA) h4⟩
 | own id n =>
  simp only [renD, rep] at h ⊢
  obtain ⟨h0, hd | ⟨e, size, xs, h1, h2, h3⟩⟩ := h
  ·exact ⟨h0, .inl (hi.obj _ _ hd)⟩
  exact ⟨h0, .inr ⟨e, size, xs, hi.obj _ _ h1, h2, fun hn => (h3 hn).trans (hi.loc _ _ h1).symm⟩⟩
 | ref id off =>
  simp only [renD, rep] at h ⊢
  obtain ⟨t, cs, g, h1, h2, h3, h4⟩ := h
  exact ⟨t, _, g, hi.obj _ _ h1, by simpa using h2, (hi.loc _ _ h1).trans h3, h4⟩
 | eref id n i off =>
  simp only [renD, rep] at h ⊢
  obtain ⟨h0, hd | ⟨e, size, xs, h1, h2, h3⟩⟩ := h
  ·exact ⟨h0, .inl (hi.obj _ _ hd)⟩
  refine ⟨h0, .inr ⟨e, size, xs, hi.obj _ _ h1, h2, fun hn => ?_⟩⟩
  obtain ⟨g, c, h4, h5, h6, h7⟩ := h3 hn
  exact ⟨g, c, h4, h5, (hi.loc _ _ h1).trans h6, h7⟩
 | mp id =>
  simp only [renD, rep] at h ⊢
  obtain ⟨h0, h1, es, h2⟩ := h
  exact ⟨h0, h1.trans (hi.loc _ _ h2).symm, es, hi.obj _ _ h2⟩
 | ifr t id off =>
  simp only [renD, rep] at h ⊢
  obtain ⟨bt, cs, g, h1, h2, h3, h4⟩ := h
  exact ⟨bt, _, g, hi.obj _ _ h1, by simpa using h2, (hi.loc _ _ h1).trans h3, h4⟩
 | ifa t vs => simpa only [renD, rep] using h
 | ife => simpa only [renD, rep] using h
 | _ => cases hc
theorem repL_ren_D (hi : Into ρ σ μ σ' μ') (hA : ∀ b, ¬ A b → ¬ A' b) : ∀ {vs : List AV} {us : List Value}, vs.all (closD σ) = true → repL σ μ w A vs us → repL σ' μ' w A' (vs.map (renD ρ)) us
 | [], us, _, h => by simpa only [List.map_nil, repL] using h
 | v :: vs, us, hc, h => by
  simp only [List.all_cons, Bool.and_eq_true] at hc
  simp only [List.map_cons, repL] at h ⊢
  obtain ⟨u, us', e, h1, h2⟩ := h
  exact ⟨u, us', e, rep_ren_D hi hA hc.1 h1, repL_ren_D hi hA hc.2 h2⟩
theorem rep_ren_C (hi : Into ρ σ μ σ' μ') (hA : ∀ b, ¬ A b → ¬ A' b) {v : AV} {y : Value} (hc : closC σ v = true) (h : rep σ μ w A v y) : rep σ' μ' w A' (renC ρ v) y := by
 have key := @rep_ren_D ρ σ σ' μ μ' w A A' hi hA v y
 cases v with
 | clo fn f c =>
  simp only [closC, Bool.and_eq_true] at hc
  simp only [renC, rep] at h ⊢
  obtain ⟨us, ks, e, h1, h2⟩ := h
  exact ⟨us, ks, e, repL_ren_D hi hA hc.1 h1, repL_ren_D hi hA hc.2 h2⟩
 | _ => exact key hc h
theorem repC_ren (hi : Into ρ σ μ σ' μ') (hA : ∀ b, ¬ A b → ¬ A' b) : ∀ {vs : List AV} {us : List Value}, vs.all (closC σ) = true → repC σ μ w A vs us → repC σ' μ' w A' (vs.map (renC ρ)) us
 | [], us, _, h => by simpa only [List.map_nil, repC] using h
 | v :: vs, us, hc, h => by
  simp only [List.all_cons, Bool.and_eq_true] at hc
  simp only [List.map_cons, repC] at h ⊢
  obtain ⟨u, us', e, h0, h1, h2⟩ := h
  exact ⟨u, us', e, h0, rep_ren_C hi hA hc.1 h1, repC_ren hi hA hc.2 h2⟩
theorem rep_ren_B (hi : Into ρ σ μ σ' μ') (hA : ∀ b, ¬ A b → ¬ A' b) {v : AV} {y : Value} (hc : closB σ v = true) (h : rep σ μ w A v y) : rep σ' μ' w A' (renB ρ v) y := by
 have key := @rep_ren_C ρ σ σ' μ μ' w A A' hi hA v y
 cases v with
 | agg cs =>
  simp only [closB] at hc
  simp only [renB, rep] at h ⊢
  obtain ⟨us, e, h1⟩ := h
  exact ⟨us, e, repC_ren hi hA hc h1⟩
 | _ => exact key hc h
theorem repL_ren_B (hi : Into ρ σ μ σ' μ') (hA : ∀ b, ¬ A b → ¬ A' b) : ∀ {vs : List AV} {us : List Value}, vs.all (closB σ) = true → repL σ μ w A vs us → repL σ' μ' w A' (vs.map (renB ρ)) us
 | [], us, _, h => by simpa only [List.map_nil, repL] using h
 | v :: vs, us, hc, h => by
  simp only [List.all_cons, Bool.and_eq_true] at hc
  simp only [List.map_cons, repL] at h ⊢
  obtain ⟨u, us', e, h1, h2⟩ := h
  exact ⟨u, us', e, rep_ren_B hi hA hc.1 h1, repL_ren_B hi hA hc.2 h2⟩
theorem rep_ren (hi : Into ρ σ μ σ' μ') (hA : ∀ b, ¬ A b → ¬ A' b) {v : AV} {y : Value} (hc : closA σ v = true) (h : rep σ μ w A v y) : rep σ' μ' w A' (renA ρ v) y := by
 have key := @rep_ren_B ρ σ σ' μ μ' w A A' hi hA v y
 cases v with
 | tup vs =>
  simp only [closA] at hc
  simp only [renA, rep] at h ⊢
  obtain ⟨us, e, h1⟩ := h
  exact ⟨us, e, repL_ren_B hi hA hc h1⟩
 | _ => exact key hc h
theorem rep_back_D (hi : Into ρ σ μ σ' μ') (hA : ∀ b, ¬ A b → ¬ A' b) {v : AV} {y : Value} (hc : closD σ v = true) (h : rep σ' μ' w A (renD ρ v) y) : rep σ μ w A' v y := by
 cases v with
 | v x => simpa only [renD, rep] using h
 | sl n xs =>
  simp only [renD, rep] at h ⊢
  obtain ⟨ad, c, us, e, h1, h2, h3, h4⟩ := h
  exact ⟨ad, c, us, e, h1, h2, h3.mono (fun b hb _ => ⟨rfl, hA b hb⟩) (Nat.le_refl _), repLL_mono (Step.same_world hA) h4⟩
 | el cs =>
  simp only [renD, rep] at h ⊢
  obtain ⟨b, off, us, e, h3, h4⟩ := h
  exact ⟨b, off, us, e, h3.mono (fun b hb _ => ⟨rfl, hA b hb⟩) (Nat.le_refl _), repC_mono (Step.same_world hA) h4⟩
 | own id n =>
  simp only [renD, rep] at h ⊢
  obtain ⟨o, ho⟩ := has_iff hc
  have h4 := hi.obj _ _ ho
  obtain ⟨h0, h1 | ⟨e, size, xs, h1, h2, h3⟩⟩ := h
  ·refine ⟨h0, .inl ?_⟩
   rw [h1] at h4; injection h4 with h4
   cases o <;> first | exact ho | cases h4
  rw [h1] at h4; injection h4 with h4
  cases o with
  | box t cs => cases h4
  | mp es => cases h4
  | dead => cases h4
  | row e' s' x' =>
   simp only [renO] at h4
   injection h4 with h5 h6 h7; subst h5 h6 h7
   exact ⟨h0, .inr ⟨e, size, xs, ho, h2, fun hn => (h3 hn).trans (hi.loc _ _ ho)⟩⟩
 | ref id off =>
  simp only [renD, rep] at h ⊢
  obtain ⟨t, cs, g, h1, h2, h3, h4⟩ := h
  obtain ⟨o, ho⟩ := has_iff hc
  have h5 := hi.obj _ _ ho
  rw [h1] at h5; injection h5 with h5
  cases o with
  | row e' s' x' => cases h5
  | mp es => cases h5
  | dead => cases h5
  | box t' cs' =>
   simp only [renO] at h5
   injection h5 with h6 h7; subst h6 h7
   exact ⟨t, cs', g, ho, by simpa using h2, (hi.loc _ _ ho).symm.trans h3, h4⟩
 | eref id n i off =>
  simp only [renD, rep] at h ⊢
  obtain ⟨o, ho⟩ := has_iff hc
  have h4 := hi.obj _ _ ho
  obtain ⟨h0, h1 | ⟨e, size, xs, h1, h2, h3⟩⟩ := h
  ·refine ⟨h0, .inl ?_⟩
   rw [h1] at h4; injection h4 with h4
   cases o <;> first | exact ho | cases h4
  rw [h1] at h4; injection h4 with h4
  cases o with
  | box t cs => cases h4
  | mp es => cases h4
  | dead => cases h4
  | row e' s' x' =>
   simp only [renO] at h4
   injection h4 with h5 h6 h7; subst h5 h6 h7
   refine ⟨h0, .inr ⟨e, size, xs, ho, h2, fun hn => ?_⟩⟩
   obtain ⟨g, c, h8, h9, h10, h11⟩ := h3 hn
   exact ⟨g, c, h8, h9, (hi.loc _ _ ho).symm.trans h10, h11⟩
 | mp id =>
  simp only [renD, rep] at h ⊢
  obtain ⟨h0, h1, es, h2⟩ := h
  obtain ⟨o, ho⟩ := has_iff hc
  have h4 := hi.obj _ _ ho
  rw [h2] at h4; injection h4 with h4
  cases o with
  | box t cs => cases h4
  | row e' s' x' => cases h4
  | dead => cases h4
  | mp es' => exact ⟨h0, h1.trans (hi.loc _ _ ho), es', ho⟩
 | ifr t id off =>
  simp only [renD, rep] at h ⊢
  obtain ⟨bt, cs, g, h1, h2, h3, h4⟩ := h
  obtain ⟨o, ho⟩ := has_iff hc
  have h5 := hi.obj _ _ ho
  rw [h1] at h5; injection h5 with h5
  cases o with
  | row e' s' x' => cases h5
  | mp es => cases h5
  | dead => cases h5
  | box t' cs' =>
   simp only [renO] at h5
   injection h5 with h6 h7; subst h6 h7
   exact ⟨bt, cs', g, ho, by simpa using h2, (hi.loc _ _ ho).symm.trans h3, h4⟩
 | ifa t vs => simpa only [renD, rep] using h
 | ife => simpa only [renD, rep] using h
 | _ => cases hc
theorem repL_back_D (hi : Into ρ σ μ σ' μ') (hA : ∀ b, ¬ A b → ¬ A' b) : ∀ {vs : List AV} {us : List Value}, vs.all (closD σ) = true → repL σ' μ' w A (vs.map (renD ρ)) us → repL σ μ w A' vs us
 | [], us, _, h => by simpa only [List.map_nil, repL] using h
 | v :: vs, us, hc, h => by
  simp only [List.all_cons, Bool.and_eq_true] at hc
  simp only [List.map_cons, repL] at h ⊢
  obtain ⟨u, us', e, h1, h2⟩ := h
  exact ⟨u, us', e, rep_back_D hi hA hc.1 h1, repL_back_D hi hA hc.2 h2⟩
theorem rep_back_C (hi : Into ρ σ μ σ' μ') (hA : ∀ b, ¬ A b → ¬ A' b) {v : AV} {y : Value} (hc : closC σ v = true) (h : rep σ' μ' w A (renC ρ v) y) : rep σ μ w A' v y := by
 have key := @rep_back_D ρ σ σ' μ μ' w A A' hi hA v y
 cases v with
 | clo fn f c =>
  simp only [closC, Bool.and_eq_true] at hc
  simp only [renC, rep] at h ⊢
  obtain ⟨us, ks, e, h1, h2⟩ := h
  exact ⟨us, ks, e, repL_back_D hi hA hc.1 h1, repL_back_D hi hA hc.2 h2⟩
 | _ => exact key hc h
theorem repC_back (hi : Into ρ σ μ σ' μ') (hA : ∀ b, ¬ A b → ¬ A' b) : ∀ {vs : List AV} {us : List Value}, vs.all (closC σ) = true → repC σ' μ' w A (vs.map (renC ρ)) us → repC σ μ w A' vs us
 | [], us, _, h => by simpa only [List.map_nil, repC] using h
 | v :: vs, us, hc, h => by
  simp only [List.all_cons, Bool.and_eq_true] at hc
  simp only [List.map_cons, repC] at h ⊢
  obtain ⟨u, us', e, h0, h1, h2⟩ := h
  exact ⟨u, us', e, h0, rep_back_C hi hA hc.1 h1, repC_back hi hA hc.2 h2⟩
theorem rep_back_B (hi : Into ρ σ μ σ' μ') (hA : ∀ b, ¬ A b → ¬ A' b) {v : AV} {y : Value} (hc : closB σ v = true) (h : rep σ' μ' w A (renB ρ v) y) : rep σ μ w A' v y := by
 have key := @rep_back_C ρ σ σ' μ μ' w A A' hi hA v y
 cases v with
 | agg cs =>
  simp only [closB] at hc
  simp only [renB, rep] at h ⊢
  obtain ⟨us, e, h1⟩ := h
  exact ⟨us, e, repC_back hi hA hc h1⟩
 | _ => exact key hc h
theorem repL_back_B (hi : Into ρ σ μ σ' μ') (hA : ∀ b, ¬ A b → ¬ A' b) : ∀ {vs : List AV} {us : List Value}, vs.all (closB σ) = true → repL σ' μ' w A (vs.map (renB ρ)) us → repL σ μ w A' vs us
 | [], us, _, h => by simpa only [List.map_nil, repL] using h
 | v :: vs, us, hc, h => by
  simp only [List.all_cons, Bool.and_eq_true] at hc
  simp only [List.map_cons, repL] at h ⊢
  obtain ⟨u, us', e, h1, h2⟩ := h
  exact ⟨u, us', e, rep_back_B hi hA hc.1 h1, repL_back_B hi hA hc.2 h2⟩
end
def CallOK (P : Program) (f : FuncId) : Prop := ∃ fn, P.funcs[f]? = some fn ∧ (fn.name == "runtime.NumGoroutine") = false ∧ fn.body.isNone = false
structure AC (P : Program) (f : FuncId) (args : List AV) (σ : Store) (r : AV) (σ' : Store) : Prop where
 ok : CallOK P f
 out : ∀ (w : World) (M : Nat → Prop) (μ : Nat → Value) (vs : List Value), SRel σ μ w M → repL σ μ w (av σ μ M) args vs →
  Calls P f vs.toArray w fun e w' => ∃ y μ', e = .returned y ∧ SRel σ' μ' w' M ∧ rep σ' μ' w' (av σ' μ' M) r y ∧ Gro σ μ w σ' μ' w'
structure PC (P : Program) (f : FuncId) (args : List AV) (r : AV) : Prop where
 ac : AC P f args [] r []

def evL (s : ASt) : List Operand → Option (List AV)
 | [] => some []
 | x :: l => match ev s x, evL s l with
  | some v, some r => some (v :: r)
  | _, _ => none
def rdL : List Operand → List Loc → List Loc
 | [], R => R
 | x :: l, R => rd x (rdL l R)
inductive Nil1 : AV → AV → Prop
 | same {v : AV} : Nil1 v v
 | nil {n : Nat} : Nil1 (.v (.slice none 0 0)) (.sl n [])
inductive Nil1s : List AV → List AV → Prop
 | nil : Nil1s [] []
 | cons {v u : AV} {vs us : List AV} (h : Nil1 v u) (hs : Nil1s vs us) : Nil1s (v :: vs) (u :: us)
inductive Nil : AV → AV → Prop
 | same {v : AV} : Nil v v
 | nil {n : Nat} : Nil (.v (.slice none 0 0)) (.sl n [])
 | agg {cs ds : List AV} (h : Nil1s cs ds) : Nil (.agg cs) (.agg ds)
inductive NilL : List AV → List AV → Prop
 | nil : NilL [] []
 | cons {v u : AV} {vs us : List AV} (h : Nil v u) (hs : NilL vs us) : NilL (v :: vs) (u :: us)
section
variable {P : Program} {Γ : Ctx} {Q Q' : Exit → ASt → Prop} {s : ASt} {σ : Store} {μ : Nat → Value} {w : World} {A : Nat → Prop} {T : List TyI}
theorem rep_nil1 {v u : AV} {y : Value} (h : Nil1 v u) (hr : rep σ μ w A v y) : rep σ μ w A u y := by
 cases h with
 | same => exact hr
 | nil =>
  simp only [rep] at hr ⊢
  exact ⟨none, 0, [], hr.1, Nat.le_refl _, by simp [maxLen], .inl rfl, by simp [repLL]⟩
theorem repC_nil : ∀ {vs us : List AV} {ys : List Value}, Nil1s vs us → repC σ μ w A vs ys → repC σ μ w A us ys
 | [], [], ys, .nil, h => h
 | v :: vs, u :: us, ys, .cons h hs, hr => by
  simp only [repC] at hr ⊢
  obtain ⟨y, ys', e, h0, h1, h2⟩ := hr
  exact ⟨y, ys', e, h0, rep_nil1 h h1, repC_nil hs h2⟩
theorem rep_nil {v u : AV} {y : Value} (h : Nil v u) (hr : rep σ μ w A v y) : rep σ μ w A u y := by
 cases h with
 | same => exact hr
 | nil => exact rep_nil1 Nil1.nil hr
 | agg h =>
  simp only [rep] at hr ⊢
  obtain ⟨us, e, h1⟩ := hr
  exact ⟨us, e, repC_nil h h1⟩
theorem repL_nil : ∀ {vs us : List AV} {ys : List Value}, NilL vs us → repL σ μ w A vs ys → repL σ μ w A us ys
 | [], [], ys, .nil, h => h
 | v :: vs, u :: us, ys, .cons h hs, hr => by
  simp only [repL] at hr ⊢
  obtain ⟨y, ys', e, h1, h2⟩ := hr
  exact ⟨y, ys', e, rep_nil h h1, repL_nil hs h2⟩
theorem Agree.evL {s t : ASt} {a : Act} (hr : Rel Γ t μ a w) : ∀ {l : List Operand} {R : List Loc} {vs : List AV}, Agree s t (rdL l R) → evL s l = some vs → repL t.σ μ w (av t.σ μ Γ.M) vs (l.map a.eval) ∧ Agree s t R
 | [], R, vs, h, e => by simp [Proofs.Ytlgbadlgfdlheaa.evL] at e; subst e; exact ⟨by simp [repL], h⟩
 | x :: l, R, vs, h, e => by
  simp only [Proofs.Ytlgbadlgfdlheaa.evL] at e
  split at e
  ·rename_i v r hv hl
   injection e with e; subst e
   obtain ⟨h1, h2⟩ := Agree.ev h hv
   obtain ⟨h3, h4⟩ := Agree.evL hr h2 hl
   simp only [List.map_cons, repL]
   exact ⟨⟨_, _, rfl, hr.ev h1, h3⟩, h4⟩
  ·cases e
variable {dst : Option Tmp} {ty : TypeId} {pos : String} {after : Array Edge}
theorem run_call {f : FuncId} (h : CallOK P f) {c : Operand} {args : Array Operand} {argTypes : Array TypeId} {a : Act} {ks : List Value} (hc : a.eval c = .func (.func f) #[] ks.toArray) : (execOp a.eval ⟨dst, .call { callee := .value c, args := args, argTypes := argTypes }, ty, pos, after, none⟩).run P w = .ok (.enter f (args.toList.map a.eval ++ ks).toArray) w := by
 obtain ⟨fn, h1, h2, h3⟩ := h
 have h4 : args.map a.eval = (args.toList.map a.eval).toArray := by simp [← Array.toList_map]
 have h2' : ¬ fn.name = "runtime.NumGoroutine" := by simpa using h2
 have h3' : fn.body ≠ none := by
  intro h; rw [h] at h3; cases h3
 simp [execOp, resolve, hc, Deferred.ofValue, invoke, callFunc, h1, h2', h3', h4]
theorem repL_append : ∀ {vs us : List AV} {ys zs : List Value}, repL σ μ w A vs ys → repL σ μ w A us zs → repL σ μ w A (vs ++ us) (ys ++ zs)
 | [], us, ys, zs, h, k => by simp only [repL] at h; subst h; simpa using k
 | v :: vs, us, ys, zs, h, k => by
  simp only [repL] at h
  obtain ⟨y, ys', rfl, h1, h2⟩ := h
  simp only [List.cons_append, repL]
  exact ⟨y, _, rfl, h1, repL_append h2 k⟩
theorem Rel.callee {t : ASt} {a : Act} (hr : Rel Γ t μ a w) {c : Operand} {f : FuncId} {caps : List AV} (h : Proofs.Ytlgbadlgfdlheaa.ev t c = some (.clo (.func f) [] caps)) : ∃ ks : List Value, a.eval c = .func (.func f) #[] ks.toArray ∧ repL t.σ μ w (av t.σ μ Γ.M) caps ks := by
 have h1 := hr.ev h
 simp only [rep, repL] at h1
 obtain ⟨us, ks, h2, rfl, h3⟩ := h1
 exact ⟨ks, h2, h3⟩
theorem ls_call {f : FuncId} {args : Array Operand} {argTypes : Array TypeId} {c : Operand} {vs us caps : List AV} {r : AV} (h : PC P f us r) (hc : ev s c = some (.clo (.func f) [] caps)) (hargs : evL s args.toList = some vs) (hn : NilL (vs ++ caps) us) (hp : us.all pureB = true) (hd : okDst Γ.n dst = true) :
  LS P Γ ⟨dst, .call { callee := .value c, args := args, argTypes := argTypes }, ty, pos, after, none⟩ s (rd c (rdL args.toList [])) (dst1 dst r) [] := by
 refine ⟨fun t ht Q μ a w hr K hK => ?_⟩
 obtain ⟨h0, ht⟩ := ht.ev hc
 obtain ⟨ks, hks, h0⟩ := hr.callee h0
 obtain ⟨h1, _⟩ := ht.evL hr hargs
 have h2 := repL_pure (μ' := μ) (repL_nil hn (repL_append h1 h0)) hp
 have hM : ∀ b, av t.σ μ Γ.M b → b < w.heap.size := by
  intro b hb
  rcases hb with hb | ⟨id, o, h3, h4⟩
  ·exact hr.store.lt b hb
  ·exact ObjRel.lt hr.store h3 h4
 have hs0 : SRel [] μ w (av t.σ μ Γ.M) := ⟨fun _ _ h => by simp [find] at h, fun _ _ _ _ _ h => by simp [find] at h, hM, fun _ _ _ h => by simp [find] at h⟩
 have h3 := h.ac.2 w (av t.σ μ Γ.M) μ (args.toList.map a.eval ++ ks) hs0 (by
  refine repL_mono (Step.same_world fun b hb hc => hb ?_) h2
  rcases hc with hc | ⟨_, _, hc, _⟩
  ·exact hc
  ·simp [find] at hc)
 unfold Oper.wp
 rw [run_call h.ac.1 hks]
 refine Calls.mono h3 ?_
 rintro e w' ⟨y, μ', rfl, h4, h5, h6⟩
 have hb : Below w.heap.size w w' := ⟨h6.os, h6.tape, h6.output, h6.size, fun k hk => h6.same k hk (fun _ _ h => by simp [find] at h)⟩
 have hr2 := hr.world hb
 refine hK μ _ _ (hr2.put hd ?_)
 refine rep_mono (σ := []) (μ := μ') (A := av [] μ' (av t.σ μ Γ.M)) ⟨fun b hb _ => ⟨rfl, fun hc => hb (.inl hc)⟩, Nat.le_refl _, fun _ _ _ h => by simp [find] at h, fun _ _ _ _ h => by simp [find] at h, fun _ _ h => by simp [find] at h, fun _ h => by simp [find] at h⟩ h5
inductive AsSl (s : ASt) : AV → AV → List Loc → Prop
 | same {v : AV} : AsSl s v v []
 | nil {n : Nat} : AsSl s (.v (.slice none 0 0)) (.sl n []) []
 | own {id n e size : Nat} {xs : List (List AV)} (h : find s.σ id = some (.row e size xs)) (hn : n = xs.length) : AsSl s (.own id n) (.sl size xs) [.obj id]
def flat : AV → Bool
 | .v _ => true
 | .tup vs => vs.all fun | .v _ => true | _ => false
 | .agg vs => vs.all fun | .v _ => true | _ => false
 | _ => false
theorem flat_rep {σ' : Store} {μ' : Nat → Value} {w' : World} {A' : Nat → Prop} {r : AV} {y : Value} (hf : flat r = true) (h : rep σ μ w A r y) : rep σ' μ' w' A' r y := by
 have keyL : ∀ (vs : List AV) (us : List Value), (vs.all fun | .v _ => true | _ => false) = true → repL σ μ w A vs us → repL σ' μ' w' A' vs us := by
  intro vs
  induction vs with
  | nil => intro us _ h; simpa only [repL] using h
  | cons v vs ih =>
   intro us hv h
   simp only [List.all_cons, Bool.and_eq_true] at hv
   simp only [repL] at h ⊢
   obtain ⟨u, us', e, h1, h2⟩ := h
   refine ⟨u, us', e, ?_, ih us' hv.2 h2⟩
   cases v with
   | v x => simpa only [rep] using h1
   | _ => exact absurd hv.1 (by simp)
 have keyC : ∀ (vs : List AV) (us : List Value), (vs.all fun | .v _ => true | _ => false) = true → repC σ μ w A vs us → repC σ' μ' w' A' vs us := by
  intro vs
  induction vs with
  | nil => intro us _ h; simpa only [repC] using h
  | cons v vs ih =>
   intro us hv h
   simp only [List.all_cons, Bool.and_eq_true] at hv
   simp only [repC] at h ⊢
   obtain ⟨u, us', e, h0, h1, h2⟩ := h
   refine ⟨u, us', e, h0, ?_, ih us' hv.2 h2⟩
   cases v with
   | v x => simpa only [rep] using h1
   | _ => exact absurd hv.1 (by simp)
 cases r with
 | v x => simpa only [rep] using h
 | tup vs =>
  simp only [rep] at h ⊢
  obtain ⟨us, e, h1⟩ := h
  exact ⟨us, e, keyL vs us hf h1⟩
 | agg vs =>
  simp only [rep] at h ⊢
  obtain ⟨us, e, h1⟩ := h
  exact ⟨us, e, keyC vs us hf h1⟩
 | _ => cases hf
theorem asSl_rep {t : ASt} {a : Act} (hr : Rel Γ t μ a w) {v u : AV} {R : List Loc} {y : Value} (hag : Agree s t R) (h : AsSl s v u R) (hp : pureB u = true) (hv : rep t.σ μ w (av t.σ μ Γ.M) v y) : rep [] μ w (fun _ => False) u y := by
 have hst : Step [] μ w (av t.σ μ Γ.M) [] μ w (fun _ => False) := Step.same_world fun _ _ h => h
 cases h with
 | same => exact rep_mono hst (rep_pureB hv hp)
 | nil => exact rep_mono hst (rep_pureB (rep_nil Nil.nil hv) hp)
 | own h hn =>
  have h0 := hag.1.trans h
  simp only [rep] at hv ⊢
  obtain ⟨_, e, size', xs, h1, h2, h3⟩ := live h0 hv
  rw [h0] at h1
  injection h1 with h1; injection h1 with h4 h5 h6; subst h4 h5 h6
  obtain ⟨us, h6, h7⟩ := hr.store.obj _ _ h0
  obtain ⟨A', c', h8, h9, h10⟩ := h6.slice
  have h3 := (h3 hn).trans h8
  refine ⟨A', c', us, h3, h9, by simpa [maxLen] using h10, ?_, repLL_mono hst h7⟩
  rw [h8] at h6
  have h11 := h6.reads
  rcases Nat.eq_zero_or_pos (List.length ‹List (List AV)›) with h12 | h12
  ·left
   have := h6.1
   rw [h12, Nat.zero_mul] at this
   exact List.eq_nil_of_length_eq_zero this
  ·obtain ⟨b, off, h13, h14, h15⟩ := h11.2 h12
   exact .inr ⟨b, off, h13, fun h => h, h14, h15⟩
end
end Go.Proofs.Ytlgbadlgfdlheaa
namespace Go.Proofs.Ytlgbadlgfdlheaa
open Go.RowKit

theorem renD_id : ∀ v, renD (fun i => i) v = v := by intro v; cases v <;> rfl
theorem map_renD_id : ∀ l : List AV, l.map (renD fun i => i) = l
 | [] => rfl
 | x :: l => by rw [List.map_cons, renD_id, map_renD_id l]
theorem renC_id : ∀ v, renC (fun i => i) v = v := by
 intro v
 cases v <;> first | rfl | simp only [renC, map_renD_id]
theorem map_renC_id : ∀ l : List AV, l.map (renC fun i => i) = l
 | [] => rfl
 | x :: l => by rw [List.map_cons, renC_id, map_renC_id l]
theorem renO_id : ∀ o, renO (fun i => i) o = o := by intro o; cases o <;> simp [renO, map_renC_id]

def Kept (σ σ' : Store) : Store → Prop
 | [] => True
 | (id, o) :: l => (∃ o', find σ id = some o' ∧ o' = o) ∧ closO σ' o = true ∧ Kept σ σ' l
theorem Kept.at_ {σ σ' : Store} : ∀ {l : Store}, Kept σ σ' l → ∀ {id : Nat} {o : SObj}, find l id = some o → find σ id = some o ∧ closO σ' o = true
 | [], _, id, o, h => by simp [find] at h
 | (k, x) :: l, h, id, o, hf => by
  obtain ⟨⟨o', h1, rfl⟩, h2, h3⟩ := h
  rw [find_cons] at hf
  split at hf
  ·rename_i e; subst e; injection hf with hf; subst hf; exact ⟨h1, h2⟩
  ·exact h3.at_ hf
inductive FinC (σ σ' : Store) : AV → AV → Prop
 | own {id n e size : Nat} {xs ys : List (List AV)} (h : find σ id = some (.row e size xs)) (hn : n = xs.length) (hd : has σ' id = false) (he : xs = ys) : FinC σ σ' (.own id n) (.sl size ys)
 | nil {n : Nat} : FinC σ σ' (.v (.slice none 0 0)) (.sl n [])
 | v {x y : Value} (h : x = y) : FinC σ σ' (.v x) (.v y)
 | sl {n : Nat} {xs ys : List (List AV)} (h : xs = ys) : FinC σ σ' (.sl n xs) (.sl n ys)
 | same {v : AV} (h : closC σ' v = true) : FinC σ σ' v v
 | ow {id n m : Nat} (h : has σ' id = true) (e : n = m) : FinC σ σ' (.own id n) (.own id m)
 | el {id off : Nat} {t : TypeId} {cs ds : List AV} (h : find σ id = some (.box t cs)) (ho : dropN cs off = some ds) (hp : ds.all pureC = true) (hd : has σ' id = false) : FinC σ σ' (.ref id off) (.el ds)
inductive FinCs (σ σ' : Store) : List AV → List AV → Prop
 | nil : FinCs σ σ' [] []
 | cons {v u : AV} {vs us : List AV} (h : FinC σ σ' v u) (hs : FinCs σ σ' vs us) : FinCs σ σ' (v :: vs) (u :: us)
inductive FinB (σ σ' : Store) : AV → AV → Prop
 | cell {v u : AV} (h : FinC σ σ' v u) : FinB σ σ' v u
 | agg {vs us : List AV} (h : FinCs σ σ' vs us) : FinB σ σ' (.agg vs) (.agg us)
 | agg' {vs us : List AV} (hc : us.all (closC σ') = true) (h : vs = us) : FinB σ σ' (.agg vs) (.agg us)
inductive FinBs (σ σ' : Store) : List AV → List AV → Prop
 | nil : FinBs σ σ' [] []
 | cons {v u : AV} {vs us : List AV} (h : FinB σ σ' v u) (hs : FinBs σ σ' vs us) : FinBs σ σ' (v :: vs) (u :: us)
inductive FinA (σ σ' : Store) : AV → AV → Prop
 | one {v u : AV} (h : FinB σ σ' v u) : FinA σ σ' v u
 | tup {vs us : List AV} (h : FinBs σ σ' vs us) : FinA σ σ' (.tup vs) (.tup us)
 | bound {fn : Fn} {first : List AV} (h : first.all pureB = true) : FinA σ σ' (.clo fn first []) (.clo fn first [])
 | clo {fn : Fn} {vs us xs ys : List AV} (h : FinBs σ σ' vs us) (hk : FinBs σ σ' xs ys) : FinA σ σ' (.clo fn vs xs) (.clo fn us ys)

section
variable {σ σ' : Store} {μ : Nat → Value} {w : World} {M : Nat → Prop}
theorem Kept.into (hk : Kept σ σ' σ') : Into (fun i => i) σ' μ σ μ := ⟨fun id o h => by rw [renO_id]; exact (hk.at_ h).1, fun _ _ _ => rfl⟩
theorem Kept.av (hk : Kept σ σ' σ') : ∀ b, ¬ av σ μ M b → ¬ av σ' μ M b := by
 intro b hb hc
 rcases hc with hc | ⟨id, o, h1, h2⟩
 ·exact hb (.inl hc)
 ·exact hb (.inr ⟨id, o, (hk.at_ h1).1, h2⟩)
theorem finC_rep (hs : SRel σ μ w M) (hk : Kept σ σ' σ') {v u : AV} {y : Value} (h : FinC σ σ' v u) (hr : rep σ μ w (av σ μ M) v y) : rep σ' μ w (av σ' μ M) u y := by
 cases h with
 | own h hn hd he =>
  subst he
  rename_i id n e size xs
  simp only [rep] at hr ⊢
  obtain ⟨_, e', size', xs', h1, h2, h3⟩ := live h hr
  rw [h] at h1
  injection h1 with h1; injection h1 with h4 h5 h6; subst h4 h5 h6
  obtain ⟨us, h7, h8⟩ := hs.obj _ _ h
  have h3 := h3 hn
  obtain ⟨A', c', h9, h10, h11⟩ := h7.slice
  refine ⟨A', c', us, h3.trans h9, h10, by simpa [maxLen] using h11, ?_, repLL_mono (Step.same_world hk.av) h8⟩
  rcases h7.2 with ⟨h12, h13⟩ | ⟨g, cap, cur, h12, _, h14, _⟩
  ·left
   have := h7.1
   rw [h13, Nat.zero_mul] at this
   exact List.eq_nil_of_length_eq_zero this
  ·right
   rw [h9] at h12
   injection h12 with h12; subst h12
   have hb : blk (μ id) = some g := by rw [h9]; rfl
   refine ⟨g, 0, rfl, fun hc => ?_, h14.lt, fun j u hu => ?_⟩
   ·rcases hc with hc | ⟨id', o', h15, h16⟩
    ·exact hs.dis _ _ _ h hb hc
    ·have := hs.inj id id' _ _ g h (hk.at_ h15).1 hb h16
     subst this
     simp only [has, h15] at hd
     cases hd
   ·rw [h9] at h7
    exact h7.addr j u hu
 | el h ho hp hd =>
  rename_i id off t cs ds
  simp only [rep] at hr ⊢
  obtain ⟨t', cs', g, h1, h2, h3, h4⟩ := hr
  rw [h] at h1
  injection h1 with h1; injection h1 with h5 h6; subst h5 h6
  obtain ⟨g', us, h7, h8, h9⟩ := hs.obj _ _ h
  rw [h3] at h7
  injection h7 with h7; injection h7 with h7; injection h7 with h7; subst h7
  obtain ⟨_, rfl⟩ := dropN_spec ho
  have hb : blk (μ id) = some g := by rw [h3]; rfl
  refine ⟨g, off, us.drop off, h4, .inr ⟨g, off, rfl, fun hc => ?_, Blk.lt h8, blk_cells h8 off⟩, repC_mono (Step.same_world hk.av) (repC_pure (μ' := μ) (repC_drop off h9) hp)⟩
  rcases hc with hc | ⟨id', o', h15, h16⟩
  ·exact hs.dis _ _ _ h hb hc
  ·have := hs.inj id id' _ _ g h (hk.at_ h15).1 hb h16
   subst this
   simp only [has, h15] at hd
   cases hd
 | nil =>
  simp only [rep] at hr ⊢
  exact ⟨none, 0, [], hr.1, Nat.le_refl _, by simp [maxLen], .inl rfl, by simp [repLL]⟩
 | v h => subst h; simpa only [rep] using hr
 | sl h =>
  subst h
  have := rep_back_C (ρ := fun i => i) (Kept.into (μ := μ) hk) (A' := av σ' μ M) hk.av (v := .sl _ _) rfl (by rw [renC_id]; exact hr)
  exact this
 | same h => exact rep_back_C (ρ := fun i => i) (Kept.into (μ := μ) hk) hk.av h (by rw [renC_id]; exact hr)
 | ow h e => subst e; exact rep_back_C (ρ := fun i => i) (Kept.into (μ := μ) hk) hk.av (v := .own _ _) h (by rw [renC_id]; exact hr)
theorem cellsAll_rep (hs : SRel σ μ w M) (hk : Kept σ σ' σ') : ∀ {vs us : List AV} {ys : List Value}, FinCs σ σ' vs us → repC σ μ w (av σ μ M) vs ys → repC σ' μ w (av σ' μ M) us ys
 | [], [], ys, .nil, hr => by simpa only [repC] using hr
 | v :: vs, u :: us, ys, .cons h h2, hr => by
  simp only [repC] at hr ⊢
  obtain ⟨y, ys', e, h0, h3, h4⟩ := hr
  exact ⟨y, ys', e, h0, finC_rep hs hk h h3, cellsAll_rep hs hk h2 h4⟩
theorem finB_rep (hs : SRel σ μ w M) (hk : Kept σ σ' σ') {v u : AV} {y : Value} (h : FinB σ σ' v u) (hr : rep σ μ w (av σ μ M) v y) : rep σ' μ w (av σ' μ M) u y := by
 cases h with
 | cell h => exact finC_rep hs hk h hr
 | agg h =>
  simp only [rep] at hr ⊢
  obtain ⟨us, e, h1⟩ := hr
  exact ⟨us, e, cellsAll_rep hs hk h h1⟩
 | agg' hc h =>
  subst h
  simp only [rep] at hr ⊢
  obtain ⟨us, e, h1⟩ := hr
  exact ⟨us, e, repC_back (ρ := fun i => i) (Kept.into (μ := μ) hk) hk.av hc (by rw [map_renC_id]; exact h1)⟩
theorem finBs_rep (hs : SRel σ μ w M) (hk : Kept σ σ' σ') : ∀ {vs us : List AV} {ys : List Value}, FinBs σ σ' vs us → repL σ μ w (av σ μ M) vs ys → repL σ' μ w (av σ' μ M) us ys
 | [], [], ys, .nil, hr => by simpa only [repL] using hr
 | v :: vs, u :: us, ys, .cons h h2, hr => by
  simp only [repL] at hr ⊢
  obtain ⟨y, ys', e, h3, h4⟩ := hr
  exact ⟨y, ys', e, finB_rep hs hk h h3, finBs_rep hs hk h2 h4⟩
theorem finA_rep (hs : SRel σ μ w M) (hk : Kept σ σ' σ') {v u : AV} {y : Value} (h : FinA σ σ' v u) (hr : rep σ μ w (av σ μ M) v y) : rep σ' μ w (av σ' μ M) u y := by
 cases h with
 | bound h =>
  simp only [rep] at hr ⊢
  obtain ⟨us, ks, e, h1, h2⟩ := hr
  exact ⟨us, ks, e, repL_mono (σ := []) ⟨fun b hb _ => ⟨rfl, hk.av b hb⟩, Nat.le_refl _, fun _ _ _ h => by simp [find] at h, fun _ _ _ _ h => by simp [find] at h, fun _ _ h => by simp [find] at h, fun _ h => by simp [find] at h⟩ (repL_pure (μ' := μ) h1 h), h2⟩
 | one h => exact finB_rep hs hk h hr
 | clo h h2 =>
  simp only [rep] at hr ⊢
  obtain ⟨us, ks, e, h3, h4⟩ := hr
  exact ⟨us, ks, e, finBs_rep hs hk h h3, finBs_rep hs hk h2 h4⟩
 | tup h =>
  simp only [rep] at hr ⊢
  obtain ⟨us, e, h1⟩ := hr
  exact ⟨us, e, finBs_rep hs hk h h1⟩
theorem Kept.srel (hk : Kept σ σ' σ') (hs : SRel σ μ w M) : SRel σ' μ w M := by
 refine ⟨fun id o hf => ?_, fun id id' o o' g h1 h2 h3 h4 => hs.inj id id' o o' g (hk.at_ h1).1 (hk.at_ h2).1 h3 h4, hs.lt, fun id o b h1 h2 => hs.dis id o b (hk.at_ h1).1 h2⟩
 obtain ⟨h1, h2⟩ := hk.at_ hf
 have h3 := hs.obj id o h1
 cases o with
 | box t cs =>
  obtain ⟨g, us, h4, h5, h6⟩ := h3
  exact ⟨g, us, h4, h5, repC_back (ρ := fun i => i) (Kept.into (μ := μ) hk) hk.av h2 (by rw [map_renC_id]; exact h6)⟩
 | row e size xs =>
  obtain ⟨us, h4, h5⟩ := h3
  exact ⟨us, h4, repLL_mono (Step.same_world hk.av) h5⟩
 | mp es => exact h3
 | dead => exact h3
theorem Kept.gro {σ0 : Store} {μ0 : Nat → Value} {w0 : World} (hk : Kept σ σ' σ') (hg : Gro σ0 μ0 w0 σ μ w) (h0 : ∀ id o, find σ0 id = some o → has σ' id = true) : Gro σ0 μ0 w0 σ' μ w := by
 refine ⟨hg.os, hg.tape, hg.output, hg.size, hg.same, fun id o b h1 h2 h3 => hg.fresh id o b (hk.at_ h1).1 h2 h3, fun id t cs h => ?_, fun id e size xs h => ?_, fun id es h => ?_, fun id h => ?_⟩
 ·obtain ⟨cs', h1, h2, h3⟩ := hg.box id t cs h
  obtain ⟨o, ho⟩ := has_iff (h0 _ _ h)
  have h4 := (hk.at_ ho).1
  rw [h1] at h4; injection h4 with h4; subst h4
  exact ⟨cs', ho, h2, h3⟩
 ·obtain ⟨o, ho⟩ := has_iff (h0 _ _ h)
  have h4 := (hk.at_ ho).1
  rcases hg.row id e size xs h with h1 | ⟨xs', h1, h2, h3⟩
  ·rw [h1] at h4; injection h4 with h4; subst h4
   exact .inl ho
  rw [h1] at h4; injection h4 with h4; subst h4
  exact .inr ⟨xs', ho, h2, h3⟩
 ·obtain ⟨es', h1, h2⟩ := hg.mp id es h
  obtain ⟨o, ho⟩ := has_iff (h0 _ _ h)
  have h4 := (hk.at_ ho).1
  rw [h1] at h4; injection h4 with h4; subst h4
  exact ⟨es', ho, h2⟩
 ·obtain ⟨o, ho⟩ := has_iff (h0 _ _ h)
  have h4 := (hk.at_ ho).1
  rw [hg.dead id h] at h4; injection h4 with h4; subst h4
  exact ho
end

def resL (T : List TyI) (s : ASt) : List ResultVar → Option (List AV)
 | [] => some []
 | .tmp t :: l => match find s.regs t, resL T s l with
  | some v, some r => some (v :: r)
  | _, _ => none
 | .cell a ty :: l => match find s.regs a with
  | some (.ref id off) => match find s.σ id with
   | some (.box _ cs) => match dropN cs off with
    | some cs1 => match nth T ty with
     | some ti => match ldv ti cs1, resL T s l with
      | some v, some r => some (v :: r)
      | _, _ => none
     | none => none
    | none => none
   | _ => none
  | _ => none
def single : List AV → AV
 | [v] => v
 | vs => .tup vs
def resV (tmps : Array Value) : ResultVar → Sem Value
 | .tmp t => pure (tmps.getD t undef)
 | .cell a t => do loadVar t (← asAddr (tmps.getD a undef))
section
variable {P : Program} {Γ : Ctx} {Q Q' : Exit → ASt → Prop} {s : ASt} {σ σ' : Store} {μ : Nat → Value} {w : World} {A : Nat → Prop} {T : List TyI}
theorem results_ok (hT : okTab P T = true) {fn : Func} {a : Act} {vs : List AV} (hr : Rel Γ s μ a w) (h : resL T s fn.results.toList = some vs) : ∃ y, (results fn a.tmps).run P w = .ok y w ∧ rep s.σ μ w (av s.σ μ Γ.M) (single vs) y := by
 have key : ∀ (l : List ResultVar) (vs : List AV), resL T s l = some vs → ∃ us, (l.mapM (resV a.tmps)).run P w = .ok us w ∧ repL s.σ μ w (av s.σ μ Γ.M) vs us := by
  intro l
  induction l with
  | nil => intro vs h; simp [resL] at h; subst h; exact ⟨[], by simp, by simp [repL]⟩
  | cons x l ih =>
   intro vs h
   cases x with
   | tmp t =>
    simp only [resL] at h
    split at h
    ·rename_i v r hv hl
     injection h with h; subst h
     obtain ⟨us, h1, h2⟩ := ih r hl
     exact ⟨a.tmps.getD t undef :: us, by simp only [List.mapM_cons, Sem.run_bind, resV, Sem.run_pure, Result.andThen_ok, h1], by simp only [repL]; exact ⟨_, us, rfl, hr.regs t v hv, h2⟩⟩
    ·cases h
   | cell p ty =>
    simp only [resL] at h
    split at h
    ·rename_i id off hp
     split at h
     ·rename_i bt cs hσ
      split at h
      ·rename_i cs1 hd
       split at h
       ·rename_i ti hti
        split at h
        ·rename_i v r hv hl
         injection h with h; subst h
         obtain ⟨us, h1, h2⟩ := ih r hl
         have e1 := hr.regs p _ hp
         simp only [rep] at e1
         obtain ⟨bt', cs', g, e3, e4, e5, e6⟩ := e1
         rw [hσ] at e3
         injection e3 with e3; injection e3 with e3 e7; subst e3 e7
         obtain ⟨g', us', e8, e9, e10⟩ := hr.store.obj id _ hσ
         rw [e5] at e8
         injection e8 with e8; injection e8 with e8; injection e8 with e8; subst e8
         obtain ⟨_, rfl⟩ := dropN_spec hd
         obtain ⟨y, h3, h4⟩ := load_ok hT hti hv (repC_drop off e10) (blk_cells e9 off)
         exact ⟨y :: us, by simp only [List.mapM_cons, Sem.run_bind, resV, e6, asAddr, Sem.run_pure, Result.andThen_ok, h3, h1], by simp only [repL]; exact ⟨_, us, rfl, h4, h2⟩⟩
        ·cases h
       ·cases h
      ·cases h
     ·cases h
    ·cases h
 obtain ⟨us, h1, h2⟩ := key _ _ h
 have h3 : (fn.results.mapM (resV a.tmps)).run P w = .ok us.toArray w := by
  rw [Array.mapM_eq_mapM_toList]
  rw [map_eq_pure_bind, Sem.run_bind, h1]
  rfl
 have h4 : results fn a.tmps = (do let vs ← fn.results.mapM (resV a.tmps); pure (if h : vs.size = 1 then vs[0] else .tuple vs)) := by
  unfold results
  congr 1
 rw [h4]
 simp only [Sem.run_bind, h3, Result.andThen_ok, Sem.run_pure]
 refine ⟨_, rfl, ?_⟩
 match vs, us, h2 with
 | [], us, h2 =>
  simp only [repL] at h2; subst h2
  simp only [single, rep]
  exact ⟨[], by simp, by simp [repL]⟩
 | [v], us, h2 =>
  simp only [repL] at h2
  obtain ⟨u, us', rfl, h4, rfl⟩ := h2
  simpa [single] using h4
 | v :: v' :: vs, us, h2 =>
  simp only [repL] at h2
  obtain ⟨u, us', rfl, h4, u', us'', rfl, h5, h6⟩ := h2
  simp only [single, rep]
  refine ⟨u :: u' :: us'', by simp, ?_⟩
  simp only [repL]
  exact ⟨u, _, rfl, h4, u', us'', rfl, h5, h6⟩
def numb : Nat → List AV → List (Nat × AV)
 | _, [] => []
 | i, v :: l => (i, v) :: numb (i + 1) l
theorem find_numb : ∀ {l : List AV} {i t : Nat} {v : AV}, find (numb i l) t = some v → ∃ j, t = i + j ∧ l[j]? = some v
 | [], i, t, v, h => by simp [numb, find] at h
 | x :: l, i, t, v, h => by
  simp only [numb, find_cons] at h
  split at h
  ·rename_i e; injection h with h; subst h; exact ⟨0, e.symm, rfl⟩
  ·obtain ⟨j, h1, h2⟩ := find_numb h
   exact ⟨j + 1, by omega, h2⟩
theorem repL_get : ∀ {vs : List AV} {us : List Value} {j : Nat} {v : AV}, repL σ μ w A vs us → vs[j]? = some v → ∃ u, us[j]? = some u ∧ rep σ μ w A v u
 | [], us, j, v, h, hj => by simp at hj
 | x :: vs, us, 0, v, h, hj => by
  simp only [repL] at h
  obtain ⟨u, us', rfl, h1, h2⟩ := h
  simp only [List.getElem?_cons_zero, Option.some.injEq] at hj; subst hj
  exact ⟨u, rfl, h1⟩
 | x :: vs, us, j + 1, v, h, hj => by
  simp only [repL] at h
  obtain ⟨u, us', rfl, h1, h2⟩ := h
  exact repL_get (j := j) h2 (by simpa using hj)
theorem repL_len : ∀ {vs : List AV} {us : List Value}, repL σ μ w A vs us → us.length = vs.length
 | [], us, h => by simp only [repL] at h; simp [h]
 | x :: vs, us, h => by
  simp only [repL] at h
  obtain ⟨u, us', rfl, h1, h2⟩ := h
  simp [repL_len h2]
def Turns (w w' : World) : Prop := w.heap.size ≤ w'.heap.size ∧ ∀ b, b < w.heap.size → w'.heap[b]? = w.heap[b]? ∨ ∀ o, w.cell? ⟨b, o, none⟩ = none
theorem ReadsA.turn {w w' : World} (ht : Turns w w') {ad : Option Addr} {us : List Value} (h : ReadsA w A ad us) : us = [] ∨ ReadsA w' A ad us := by
 rcases h with h | ⟨b, off, e, ha, hb, hc⟩
 ·exact .inl h
 ·cases us with
  | nil => exact .inl rfl
  | cons u us =>
   refine .inr (.inr ⟨b, off, e, ha, Nat.lt_of_lt_of_le hb ht.1, fun j v hj => ?_⟩)
   rcases ht.2 b hb with h1 | h1
   ·exact (World.cell?_of_block (w := w) (a := ⟨b, off + j, none⟩) h1).trans (hc j v hj)
   ·have := hc 0 u rfl
    rw [h1] at this; cases this
mutual
theorem rep_turn {σ : Store} {μ : Nat → Value} {w w' : World} {A : Nat → Prop} (ht : Turns w w') : ∀ {x : AV} {y : Value}, rep σ μ w A x y → rep σ μ w' A x y
 | .v x, y, h => by simpa only [rep] using h
 | .agg cs, y, h => by
  simp only [rep] at h ⊢
  obtain ⟨us, e, h1⟩ := h
  exact ⟨us, e, repC_turn ht h1⟩
 | .tup cs, y, h => by
  simp only [rep] at h ⊢
  obtain ⟨us, e, h1⟩ := h
  exact ⟨us, e, repL_turn ht h1⟩
 | .sl size xs, y, h => by
  simp only [rep] at h ⊢
  obtain ⟨ad, c, us, e, h1, h2, h3, h4⟩ := h
  exact ⟨ad, c, us, e, h1, h2, (h3.turn ht).elim (fun h => .inl h) id, repLL_turn ht h4⟩
 | .own id n, y, h => by simpa only [rep] using h
 | .ref id off, y, h => by simpa only [rep] using h
 | .eref id n i off, y, h => by simpa only [rep] using h
 | .el cs, y, h => by
  simp only [rep] at h ⊢
  obtain ⟨b, off, us, e, h1, h2⟩ := h
  exact ⟨b, off, us, e, (h1.turn ht).elim (fun h => .inl h) id, repC_turn ht h2⟩
 | .clo fn first cap, y, h => by
  simp only [rep] at h ⊢
  obtain ⟨us, ks, e, h1, h2⟩ := h
  exact ⟨us, ks, e, repL_turn ht h1, repL_turn ht h2⟩
 | .mp id, y, h => by simpa only [rep] using h
 | .ifr t id off, y, h => by simpa only [rep] using h
 | .ifa t vs, y, h => by simpa only [rep] using h
 | .ife, y, h => by simpa only [rep] using h
theorem repL_turn {σ : Store} {μ : Nat → Value} {w w' : World} {A : Nat → Prop} (ht : Turns w w') : ∀ {x : List AV} {y : List Value}, repL σ μ w A x y → repL σ μ w' A x y
 | [], y, h => by simpa only [repL] using h
 | c :: cs, y, h => by
  simp only [repL] at h ⊢
  obtain ⟨u, us', e, h1, h2⟩ := h
  exact ⟨u, us', e, rep_turn ht h1, repL_turn ht h2⟩
theorem repC_turn {σ : Store} {μ : Nat → Value} {w w' : World} {A : Nat → Prop} (ht : Turns w w') : ∀ {x : List AV} {y : List Value}, repC σ μ w A x y → repC σ μ w' A x y
 | [], y, h => by simpa only [repC] using h
 | c :: cs, y, h => by
  simp only [repC] at h ⊢
  obtain ⟨u, us', e, h0, h1, h2⟩ := h
  exact ⟨u, us', e, h0, rep_turn ht h1, repC_turn ht h2⟩
theorem repLL_turn {σ : Store} {μ : Nat → Value} {w w' : World} {A : Nat → Prop} {size : Nat} (ht : Turns w w') : ∀ {x : List (List AV)} {y : List Value}, repLL σ μ w A size x y → repLL σ μ w' A size x y
 | [], y, h => by simpa only [repLL] using h
 | c :: cs, y, h => by
  simp only [repLL] at h ⊢
  obtain ⟨u, us', e, h0, h1, h2⟩ := h
  exact ⟨u, us', e, h0, repC_turn ht h1, repLL_turn ht h2⟩
end
theorem Rel.shut {a : Act} (hr : Rel Γ s μ a w) (hd0 : Γ.w0.heap.size ≤ Γ.d0) {d : Deferred} {ds : List Deferred} (hd : a.defers = d :: ds) :
  ∃ D, d = { target := .collected D, args := #[] } ∧ w.heap[D]? = some (.deferred (some [])) ∧ Rel Γ s μ { a with defers := ds } (w.putObj D (.deferred none)) := by
 have hm := hr.defers
 rw [hd] at hm
 obtain ⟨D, h1, h2, h3⟩ := hm.2 d (List.mem_cons_self ..)
 have hot : ∀ b, b ≠ D → (w.putObj D (.deferred none)).heap[b]? = w.heap[b]? := fun b hb => World.putObj_heap_other hb
 have hsz : (w.putObj D (.deferred none)).heap.size = w.heap.size := by simp
 have ht : Turns w (w.putObj D (.deferred none)) := by
  refine ⟨by rw [hsz]; exact Nat.le_refl _, fun b hb => ?_⟩
  by_cases e : b = D
  ·subst e; exact .inr fun o => by simp [World.cell?, h3]
  ·exact .inl (hot b e)
 have hnb : ∀ id o b, find s.σ id = some o → blk (μ id) = some b → b ≠ D := by
  intro id o b hf hb e
  subst e
  have h4 := hr.store.obj id o hf
  cases o with
  | box t cs =>
   obtain ⟨g, us, h5, h6, _⟩ := h4
   rw [h5] at hb; simp only [blk, Option.some.injEq] at hb; subst hb
   rw [show w.heap[g]? = _ from h6] at h3; cases h3
  | row e size xs =>
   obtain ⟨us, h5, _⟩ := h4
   rcases h5.2 with ⟨h6, _⟩ | ⟨g, cap, cur, h6, _, ⟨_, _, h7, _⟩, _⟩
   ·rw [h6] at hb; simp [blk] at hb
   ·rw [h6] at hb; simp only [blk, Option.some.injEq] at hb; subst hb
    rw [h7] at h3; cases h3
  | mp es =>
   obtain ⟨g, v, ob, h5, hb2, h6, h7⟩ := h4
   rw [h5, hb2] at hb; simp only [Option.some.injEq] at hb; subst hb
   rw [h6] at h3
   rcases h7.kind with ⟨_, _, rfl⟩ | ⟨_, _, _, _, rfl⟩ <;> cases h3
  | dead => rw [show blk (μ id) = none from h4] at hb; cases hb
 refine ⟨D, h1, h3, ⟨(List.nodup_cons.1 hm.1).2, fun d' hd' => ?_⟩, hr.tmps, fun t x hx => rep_turn ht (hr.regs t x hx), ⟨fun id o hf => ?_, hr.store.inj, fun b hb => by rw [hsz]; exact hr.store.lt b hb, hr.store.dis⟩, ?_⟩
 ·obtain ⟨D', h4, h5, h6⟩ := hm.2 d' (List.mem_cons_of_mem _ hd')
  refine ⟨D', h4, h5, (hot D' ?_).trans h6⟩
  rintro rfl
  exact (List.nodup_cons.1 hm.1).1 (by rw [h1, ← h4]; exact hd')
 ·have h4 := hr.store.obj id o hf
  cases o with
  | box t cs =>
   obtain ⟨g, us, h5, h6, h7⟩ := h4
   exact ⟨g, us, h5, (hot g (hnb id _ g hf (by rw [h5]; rfl))).trans h6, repC_turn ht h7⟩
  | row e size xs =>
   obtain ⟨us, h5, h6⟩ := h4
   refine ⟨us, ⟨h5.1, ?_⟩, repLL_turn ht h6⟩
   rcases h5.2 with h7 | ⟨g, cap, cur, h7, h8, h9, h10⟩
   ·exact .inl h7
   ·exact .inr ⟨g, cap, cur, h7, h8, h9.tr (hot g (hnb id _ g hf (by rw [h7]; rfl))), h10⟩
  | mp es =>
   obtain ⟨g, v, ob, h5, hb2, h6, h7⟩ := h4
   exact ⟨g, v, ob, h5, hb2, (hot g (hnb id _ g hf (by rw [h5]; exact hb2))).trans h6, h7⟩
  | dead => exact h4
 ·have hg := hr.gro
  exact ⟨hg.os, hg.tape, hg.output, by rw [hsz]; exact hg.size, fun b hb hn => (hot b (by omega)).trans (hg.same b hb hn), hg.fresh, hg.box, hg.row, hg.mp, hg.dead⟩
theorem leave_ok (hT : okTab P T = true) (hd0 : Γ.w0.heap.size ≤ Γ.d0) {fn : Func} {R : Ending → World → Prop} {vs : List AV} : ∀ (ds : List Deferred) {a : Act} {w : World}, Rel Γ s μ a w → a.defers = ds → resL T s fn.results.toList = some vs →
  (∀ a' w', Rel Γ s μ a' w' → ∀ y, (results fn a.tmps).run P w' = .ok y w' → rep s.σ μ w' (av s.σ μ Γ.M) (single vs) y → R (.returned y) w') → LeavesInM Fence.wide 0 P fn a.tmps R ds .returning w
 | [], a, w, hr, hd, hvs, hK => by
  obtain ⟨y, h1, h2⟩ := results_ok hT hr hvs
  exact ⟨y, h1, hK a w hr y h1 h2⟩
 | d :: ds, a, w, hr, hd, hvs, hK => by
  obtain ⟨D, h1, h2, h3⟩ := hr.shut hd0 hd
  exact ⟨by simp, .inl ⟨D, _, by rw [h1], run_takeDeferred h2, leave_ok hT hd0 ds (a := { a with defers := ds }) h3 rfl hvs hK⟩⟩
def RetQ (T : List TyI) (res : List ResultVar) (r : AV) (σ' : Store) : Exit → ASt → Prop := fun e s =>
 (e = .normal ∨ e = .ret) ∧ ∃ vs, resL T s res = some vs ∧ FinA s.σ σ' (single vs) r ∧ Kept s.σ σ' σ'
theorem ac_body (hT : okTab P T = true) {f : FuncId} {fn : Func} {c : Code} {args : List AV} {r : AV} (hf : P.funcs[f]? = some fn) (hb : fn.body = some c) (hname : (fn.name == "runtime.NumGoroutine") = false) (h0 : σ.all (fun p => has σ' p.1) = true)
  (H : ∀ w0 M μ0, AWP P ⟨w0, M, σ, μ0, args.length + (fn.ntmps - args.length), none, w0.heap.size⟩ c (RetQ T fn.results.toList r σ') ⟨numb 0 args, σ⟩) : AC P f args σ r σ' := by
 refine ⟨⟨fn, hf, hname, by rw [hb]; rfl⟩, fun w M μ vs hs hrep => ?_⟩
 refine (callsIn_wide (n := 0)).1 (callsIn_of_wp_marks hf hb trivial ?_ rfl)
 have hlen := repL_len hrep
 have hrel : Rel ⟨w, M, σ, μ, args.length + (fn.ntmps - args.length), none, w.heap.size⟩ ⟨numb 0 args, σ⟩ μ { tmps := vs.toArray ++ Array.replicate (fn.ntmps - vs.toArray.size) undef, defers := [] } w := by
  refine ⟨marks_nil, by simp [hlen], fun t x hx => ?_, hs, Gro.refl⟩
  obtain ⟨j, rfl, hj⟩ := find_numb hx
  obtain ⟨u, h1, h2⟩ := repL_get hrep hj
  have hlt : j < vs.length := (List.getElem?_eq_some_iff.1 h1).1
  have : (vs.toArray ++ Array.replicate (fn.ntmps - vs.toArray.size) undef)[0 + j]? = some u := by
   rw [Array.getElem?_append_left (by simpa using hlt)]
   simpa using h1
  rw [Array.getD_eq_getD_getElem?, this]
  exact h2
 refine wpIn_mono ((H w M μ).out μ _ w hrel) ?_
 rintro e a w' ⟨s', μ', hr', he, vs', hvs, hfin, hk⟩
 have hfin : LeavesInM Fence.wide 0 P fn a.tmps (fun e w' => ∃ y μ', e = .returned y ∧ SRel σ' μ' w' M ∧ rep σ' μ' w' (av σ' μ' M) r y ∧ Gro σ μ w σ' μ' w') a.defers .returning w' := by
  refine leave_ok hT (Nat.le_refl _) a.defers hr' rfl hvs fun a' w2 hr2 y h1 h2 => ?_
  have h3 := finA_rep hr2.store hk hfin h2
  have h4 := hk.srel hr2.store
  have h5 := hk.gro hr2.gro (fun id o hf => by
   have key : ∀ l : Store, l.all (fun p => has σ' p.1) = true → find l id = some o → has σ' id = true := by
    intro l
    induction l with
    | nil => intro _ h; simp [find] at h
    | cons p l ih =>
     intro hl h
     obtain ⟨k, x⟩ := p
     simp only [List.all_cons, Bool.and_eq_true] at hl
     rw [find_cons] at h
     split at h
     ·rename_i e; subst e; exact hl.1
     ·exact ih hl.2 h
   exact key σ h0 hf)
  exact ⟨y, μ', rfl, h4, h3, h5⟩
 rcases he with rfl | rfl
 ·exact hfin
 ·exact hfin
def WRegs (s : ASt) (σ' : Store) : List (Nat × AV) → Prop
 | [] => True
 | (t, u) :: l => (∃ v, find s.regs t = some v ∧ FinA s.σ σ' v u) ∧ WRegs s σ' l
theorem WRegs.at_ {s : ASt} : ∀ {l : List (Nat × AV)}, WRegs s σ' l → ∀ {t : Nat} {u : AV}, find l t = some u → ∃ v, find s.regs t = some v ∧ FinA s.σ σ' v u
 | [], _, t, u, h => by simp [find] at h
 | (k, x) :: l, ⟨h1, h2⟩, t, u, h => by
  rw [find_cons] at h
  split at h
  ·rename_i e; subst e; injection h with h; subst h; exact h1
  ·exact h2.at_ h
def Weak (Γ : Ctx) (s t : ASt) : Prop := WRegs s t.σ t.regs ∧ Kept s.σ t.σ t.σ ∧ Γ.σ0.all (fun p => has t.σ p.1) = true
theorem find_mem {α : Type} : ∀ {l : List (Nat × α)} {id : Nat} {o : α}, find l id = some o → (id, o) ∈ l
 | [], id, o, h => by simp [find] at h
 | (k, x) :: l, id, o, h => by
  rw [find_cons] at h
  split at h
  ·rename_i e; subst e; injection h with h; subst h; simp
  ·exact List.mem_cons_of_mem _ (find_mem h)
theorem Weak.rel {t : ASt} {a : Act} (h : Weak Γ s t) (hr : Rel Γ s μ a w) : Rel Γ t μ a w := by
 obtain ⟨h1, h2, h3⟩ := h
 refine ⟨hr.defers, hr.tmps, fun i u hu => ?_, h2.srel hr.store, h2.gro hr.gro (fun id o hf => ?_)⟩
 ·obtain ⟨v, h4, h5⟩ := h1.at_ hu
  exact finA_rep hr.store h2 h5 (hr.regs i v h4)
 ·exact List.all_eq_true.1 h3 _ (find_mem hf)
theorem a_weak {c : Code} {t : ASt} (h : Weak Γ s t) (hk : AWP P Γ c Q t) : AWP P Γ c Q s := ⟨fun μ a w hr => hk.out μ a w (h.rel hr)⟩
theorem a_loop {c : Code} {X : Type} (S : X → ASt) (m : X → Nat) (x0 : X) (h0 : Weak Γ s (S x0))
  (round : ∀ x, AWP P Γ c (AThen (fun s' => ∃ x', m x' < m x ∧ Weak Γ s' (S x')) Q) (S x)) : AWP P Γ (.loop c) Q s := by
 refine ⟨fun μ a w hr => ?_⟩
 have hr0 := h0.rel hr
 clear h0 hr
 have key : ∀ n x, m x = n → ∀ μ a w, Rel Γ (S x) μ a w → ∀ (b : Frame) (k : List Item) (cs : List Frame), b.roundOf = Γ.F.round → Γ.F.fn b.fn → Γ.F.room (cs.length + 1 + 0) →
   ∃ e a' w', AK Γ Q e a' w' ∧ ArrivesIn (Machine.fenced P Γ.F) P (lone (b.atR a (.code c :: .inLoop c :: k)) cs w) b k cs e a' w' := by
  intro n
  induction n using Nat.strongRecOn with
  | _ n ih =>
   intro x hx μ a w hr b k cs hro hb hm
   obtain ⟨e, a₁, w₁, ⟨s', μ', hr', hq⟩, harr⟩ := (round x).out μ a w hr b (.inLoop c :: k) cs hro hb hm
   cases e with
   | normal =>
    obtain ⟨x', hlt, hw⟩ := hq
    obtain ⟨e₂, a₂, w₂, hq₂, harr₂⟩ := ih (m x') (by omega) x' rfl μ' a₁ w₁ (hw.rel hr') b k cs hro hb hm
    exact ⟨e₂, a₂, w₂, hq₂, .of_steps (StepsIn.trans harr (.one (fenced_calm hb hm rfl) stepR_inLoop)) harr₂⟩
   | exit id => exact ⟨_, a₁, w₁, ⟨s', μ', hr', hq⟩, .pass (x := .inLoop c) rfl (fun _ _ => .inl (by simp)) harr⟩
   | goto l => exact ⟨_, a₁, w₁, ⟨s', μ', hr', hq⟩, .pass (x := .inLoop c) rfl (fun _ _ => .inl (by simp)) harr⟩
   | ret => exact ⟨_, a₁, w₁, ⟨s', μ', hr', hq⟩, .pass (x := .inLoop c) rfl (fun _ _ => .inl (by simp)) harr⟩
   | panic ch => exact ⟨_, a₁, w₁, ⟨s', μ', hr', hq⟩, .pass (x := .inLoop c) rfl (fun _ _ => .inl (by simp)) harr⟩
   | outgrown => exact ⟨_, a₁, w₁, ⟨s', μ', hr', hq⟩, .pass (x := .inLoop c) rfl (fun _ _ => .inl (by simp)) harr⟩
 intro b k cs hro hb hm
 obtain ⟨e, a', w', hq, harr⟩ := key _ x0 rfl μ a w hr0 b k cs hro hb hm
 exact ⟨e, a', w', hq, .of_steps (.one (fenced_calm hb hm rfl) stepR_loop) harr⟩
end
end Go.Proofs.Ytlgbadlgfdlheaa
namespace Go.Proofs.Ytlgbadlgfdlheaa
open Go.RowKit

structure Eff where
 R : List Loc
 er : List (Nat × AV)
 eσ : List (Nat × SObj)
def ASt.do_ (s : ASt) (e : Eff) : ASt := s.eff e.er e.eσ
def Eff.W (e : Eff) : List Loc := e.er.map (fun p => .reg p.1) ++ e.eσ.map (fun p => .obj p.1)
def same (s t : ASt) : Loc → Prop
 | .reg r => find s.regs r = find t.regs r
 | .obj i => find s.σ i = find t.σ i
theorem same.refl (s : ASt) (l : Loc) : same s s l := by cases l <;> rfl
theorem same.symm {s t : ASt} {l : Loc} (h : same s t l) : same t s l := by cases l <;> exact Eq.symm h
theorem same.trans {s t u : ASt} {l : Loc} (h : same s t l) (k : same t u l) : same s u l := by cases l <;> exact Eq.trans h k
theorem agree_of {s t : ASt} : ∀ {R : List Loc}, (∀ l ∈ R, same t s l) → Agree s t R
 | [], _ => trivial
 | .reg r :: R, h => ⟨h (.reg r) (by simp), agree_of fun l hl => h l (by simp [hl])⟩
 | .obj r :: R, h => ⟨h (.obj r) (by simp), agree_of fun l hl => h l (by simp [hl])⟩
theorem find_app {α : Type} (l m : List (Nat × α)) (i : Nat) : find (l ++ m) i = match find l i with | some x => some x | none => find m i := by
 induction l with
 | nil => simp [find]
 | cons p l ih =>
  obtain ⟨k, x⟩ := p
  rw [List.cons_append, find_cons, find_cons, ih]
  split <;> rfl
theorem find_some_iff {α : Type} {l : List (Nat × α)} {i : Nat} : i ∈ l.map Prod.fst ↔ ∃ x, find l i = some x := by
 induction l with
 | nil => simp [find]
 | cons p l ih =>
  obtain ⟨k, x⟩ := p
  rw [List.map_cons, List.mem_cons, find_cons]
  by_cases h : k = i
  ·subst h; simp
  ·rw [if_neg h, ← ih]
   constructor
   ·rintro (h1 | h1)
    ·exact absurd h1.symm h
    ·exact h1
   ·exact .inr
theorem memW_reg {e : Eff} {r : Nat} : Loc.reg r ∈ e.W ↔ ∃ x, find e.er r = some x := by
 rw [← find_some_iff]
 simp [Eff.W]
theorem memW_obj {e : Eff} {r : Nat} : Loc.obj r ∈ e.W ↔ ∃ x, find e.eσ r = some x := by
 rw [← find_some_iff]
 simp [Eff.W]
theorem do_out {s : ASt} {e : Eff} {l : Loc} (h : l ∉ e.W) : same (s.do_ e) s l := by
 cases l with
 | reg r =>
  rw [memW_reg] at h
  simp only [same, ASt.do_, ASt.eff, find_app]
  cases hf : find e.er r with
  | none => rfl
  | some x => exact absurd ⟨x, hf⟩ h
 | obj r =>
  rw [memW_obj] at h
  simp only [same, ASt.do_, ASt.eff, find_app]
  cases hf : find e.eσ r with
  | none => rfl
  | some x => exact absurd ⟨x, hf⟩ h
theorem do_in {s t : ASt} {e : Eff} {l : Loc} (h : l ∈ e.W) : same (s.do_ e) (t.do_ e) l := by
 cases l with
 | reg r =>
  obtain ⟨x, hx⟩ := memW_reg.1 h
  simp only [same, ASt.do_, ASt.eff, find_app, hx]
 | obj r =>
  obtain ⟨x, hx⟩ := memW_obj.1 h
  simp only [same, ASt.do_, ASt.eff, find_app, hx]
def appl (f : Nat → Bool) : Nat → List Eff → ASt → ASt
 | _, [], s => s
 | i, e :: es, s => appl f (i + 1) es (match f i with | true => s.do_ e | false => s)
theorem appl_same {f g : Nat → Bool} {l : Loc} : ∀ {es : List Eff} {i : Nat} {s t : ASt}, same s t l → (∀ j e, es[j]? = some e → l ∈ e.W → f (i + j) = g (i + j)) → same (appl f i es s) (appl g i es t) l
 | [], i, s, t, h, _ => h
 | e :: es, i, s, t, h, hfg => by
  simp only [appl]
  refine appl_same ?_ (fun j e' hj hl => by
   have := hfg (j + 1) e' (by simpa using hj) hl
   rwa [show i + (j + 1) = i + 1 + j by omega] at this)
  by_cases hw : l ∈ e.W
  ·have := hfg 0 e rfl hw
   rw [Nat.add_zero] at this
   rw [this]
   cases g i
   ·exact h
   ·exact do_in hw
  ·have h1 : ∀ (b : Bool) (u : ASt), same (match b with | true => u.do_ e | false => u) u l := by
    intro b u; cases b
    ·exact same.refl u l
    ·exact do_out hw
   exact (h1 _ s).trans (h.trans (h1 _ t).symm)
theorem appl_last {f : Nat → Bool} {l : Loc} {e : Eff} (hl : l ∈ e.W) : ∀ {es : List Eff} {i k : Nat} {s u : ASt}, es[k]? = some e → f (i + k) = true → (∀ j e', k < j → es[j]? = some e' → f (i + j) = true → l ∉ e'.W) → same (appl f i es s) (u.do_ e) l
 | [], i, k, s, u, h, _, _ => by simp at h
 | e0 :: es, i, 0, s, u, h, hf, hn => by
  simp only [List.getElem?_cons_zero, Option.some.injEq] at h
  subst h
  simp only [appl]
  rw [Nat.add_zero] at hf
  rw [hf]
  have h2 : same (appl f (i + 1) es (s.do_ e0)) (appl (fun _ => false) (i + 1) es (s.do_ e0)) l := appl_same (same.refl _ _) (fun j e' hj hl' => by
   cases h3 : f (i + 1 + j)
   ·rfl
   ·exact absurd hl' (hn (j + 1) e' (by omega) (by simpa using hj) (by rw [show i + (j + 1) = i + 1 + j by omega]; exact h3)))
  have h3 : ∀ (es : List Eff) (i : Nat) (s : ASt), appl (fun _ => false) i es s = s := by
   intro es
   induction es with
   | nil => intro i s; rfl
   | cons e es ih => intro i s; simp only [appl]; exact ih _ _
  rw [h3] at h2
  exact h2.trans (do_in hl)
 | e0 :: es, i, k + 1, s, u, h, hf, hn => by
  simp only [appl]
  refine appl_last hl (i := i + 1) (k := k) (by simpa using h) (by rw [← hf]; congr 1; omega) (fun j e' hj he hfj => hn (j + 1) e' (by omega) (by simpa using he) (by rw [← hfj]; congr 1; omega))
theorem appl_upto : ∀ {es : List Eff} {i k : Nat} {s : ASt}, k ≤ es.length → appl (fun j => decide (j < i + k)) i es s = (es.take k).foldl ASt.do_ s
 | [], i, k, s, h => by simp [appl]
 | e :: es, i, 0, s, h => by
  have : ∀ (es : List Eff) (i' : Nat) (s : ASt), i ≤ i' → appl (fun j => decide (j < i + 0)) i' es s = s := by
   intro es
   induction es with
   | nil => intro i' s _; rfl
   | cons e es ih =>
    intro i' s hi
    simp only [appl]
    rw [show decide (i' < i + 0) = false by simp; omega]
    exact ih _ _ (by omega)
  simpa using this (e :: es) i s (Nat.le_refl _)
 | e :: es, i, k + 1, s, h => by
  simp only [appl]
  rw [show decide (i < i + (k + 1)) = true by simp]
  have := appl_upto (es := es) (i := i + 1) (k := k) (s := s.do_ e) (by simpa using h)
  rw [show (fun j => decide (j < i + (k + 1))) = (fun j => decide (j < i + 1 + k)) from funext fun j => by congr 1; apply propext; omega]
  rw [this]
  rfl

def aft (o : Oper) : List Nat := (o.after.toList.filter fun e => Region.binds .any e).map (·.on)
def clos : List (List Nat) → List (List Nat) → List (List Nat)
 | acc, [] => acc
 | acc, a :: l => clos (acc ++ [(a ++ a.flatMap fun e => acc.getD e []).eraseDups]) l
def Loc.beq : Loc → Loc → Bool
 | .reg a, .reg b => Nat.beq a b
 | .obj a, .obj b => Nat.beq a b
 | _, _ => false
def disj (l m : List Loc) : Bool := l.all fun x => m.all fun y => !x.beq y
def okDraw (ops : List Oper) (es : List Eff) : Bool :=
 let cl := clos [] (ops.map aft)
 Nat.beq ops.length es.length && (List.range ops.length).all fun i =>
  ((ops.map aft).getD i []).all (fun e => Nat.blt e i) && (List.range i).all fun k =>
    (cl.getD i []).contains k || (match es[k]?, es[i]? with
     | some a, some b => disj a.W (b.R ++ b.W) && disj b.W (a.R ++ a.W)
     | _, _ => false)
theorem Loc.beq_refl (x : Loc) : x.beq x = true := by cases x <;> simp [Loc.beq]
theorem disj_not {l m : List Loc} (h : disj l m = true) {x : Loc} (hx : x ∈ l) (hy : x ∈ m) : False := by
 have h1 := List.all_eq_true.1 h x hx
 have h2 := List.all_eq_true.1 h1 x hy
 rw [Loc.beq_refl] at h2
 cases h2
theorem clos_len : ∀ (l acc : List (List Nat)), (clos acc l).length = acc.length + l.length
 | [], acc => by simp [clos]
 | a :: l, acc => by simp only [clos, clos_len l, List.length_append, List.length_cons, List.length_nil]; omega
theorem clos_keep : ∀ (l acc : List (List Nat)) (i : Nat), i < acc.length → (clos acc l).getD i [] = acc.getD i []
 | [], acc, i, h => rfl
 | a :: l, acc, i, h => by
  simp only [clos]
  rw [clos_keep l _ i (by simp; omega)]
  simp only [List.getD_eq_getElem?_getD]
  rw [List.getElem?_append_left h]
theorem clos_sound (all : List (List Nat)) (L : Nat → Bool) (hL : ∀ i, L i = true → ∀ e ∈ all.getD i [], L e = true) (hback : ∀ i, ∀ e ∈ all.getD i [], e < i) :
  ∀ (l acc : List (List Nat)), all = all.take acc.length ++ l → acc.length ≤ all.length → (∀ i < acc.length, (∀ e ∈ all.getD i [], L e = true) → ∀ k ∈ acc.getD i [], L k = true) →
   ∀ i < (clos acc l).length, (∀ e ∈ all.getD i [], L e = true) → ∀ k ∈ (clos acc l).getD i [], L k = true
 | [], acc, _, _, h => h
 | a :: l, acc, hal, hle, h => by
  simp only [clos]
  have ha : all.getD acc.length [] = a := by
   rw [List.getD_eq_getElem?_getD, hal, List.getElem?_append_right (by simp; omega)]
   simp [Nat.min_eq_left hle]
  have hlen : acc.length < all.length := by
   have := congrArg List.length hal
   simp only [List.length_append, List.length_take, List.length_cons] at this
   omega
  refine clos_sound all L hL hback l _ ?_ (by simp; omega) ?_
  ·have h1 : all.take (acc.length + 1) = all.take acc.length ++ [a] := by
    rw [List.take_succ_eq_append_getElem hlen]
    congr 2
    rw [List.getD_eq_getElem?_getD, List.getElem?_eq_getElem hlen] at ha
    simpa using ha
   simp only [List.length_append, List.length_cons, List.length_nil]
   rw [h1, List.append_assoc]
   exact hal
  ·intro i hi hpre k hk
   simp only [List.length_append, List.length_cons, List.length_nil] at hi
   rcases Nat.lt_or_ge i acc.length with h1 | h1
   ·rw [List.getD_eq_getElem?_getD, List.getElem?_append_left h1, ← List.getD_eq_getElem?_getD] at hk
    exact h i h1 hpre k hk
   ·obtain rfl : i = acc.length := by omega
    rw [List.getD_eq_getElem?_getD, List.getElem?_append_right (Nat.le_refl _)] at hk
    simp only [Nat.sub_self, List.getElem?_cons_zero, Option.getD_some, List.mem_eraseDups, List.mem_append, List.mem_flatMap] at hk
    rw [ha] at hpre
    rcases hk with hk | ⟨e, he, hk⟩
    ·exact hpre k hk
    ·have he2 : e < acc.length := hback acc.length e (by rw [ha]; exact he)
     exact h e he2 (hL e (hpre e he)) k hk

section
variable {P : Program} {Γ : Ctx} {Q : Exit → ASt → Prop} {s t : ASt} {μ : Nat → Value} {w : World} {a : Act}
theorem SRel.ext {σ σ' : Store} {M : Nat → Prop} (he : ∀ i, find σ i = find σ' i) (h : SRel σ μ w M) : SRel σ' μ w M := by
 have hav : ∀ b, ¬ av σ μ M b → ¬ av σ' μ M b := by
  intro b hb hc
  rcases hc with hc | ⟨id, o, h1, h2⟩
  ·exact hb (.inl hc)
  ·exact hb (.inr ⟨id, o, by rw [he]; exact h1, h2⟩)
 have hst : Step σ μ w (av σ μ M) σ' μ w (av σ' μ M) := ⟨fun b hb _ => ⟨rfl, hav b hb⟩, Nat.le_refl _, fun id t cs hf => ⟨cs, by rw [← he]; exact hf, rfl, rfl⟩, fun id e size xs hf => .inr ⟨xs, by rw [← he]; exact hf, Nat.le_refl _, fun _ => rfl⟩, fun id es hf => ⟨es, by rw [← he]; exact hf, rfl⟩, fun id hf => by rw [← he]; exact hf⟩
 refine ⟨fun id o hf => ?_, fun id id' o o' g h1 h2 h3 h4 => h.inj id id' o o' g (by rw [he]; exact h1) (by rw [he]; exact h2) h3 h4, h.lt, fun id o b h1 h2 => h.dis id o b (by rw [he]; exact h1) h2⟩
 have h1 := h.obj id o (by rw [he]; exact hf)
 cases o with
 | box t cs => obtain ⟨g, us, h2, h3, h4⟩ := h1; exact ⟨g, us, h2, h3, repC_mono hst h4⟩
 | row e size xs => obtain ⟨us, h2, h3⟩ := h1; exact ⟨us, h2, repLL_mono hst.pure h3⟩
 | mp es => exact h1
 | dead => exact h1
theorem Rel.ext (hl : ∀ l, same s t l) (h : Rel Γ s μ a w) : Rel Γ t μ a w := by
 have he : ∀ i, find s.σ i = find t.σ i := fun i => hl (.obj i)
 have hr : ∀ i, find s.regs i = find t.regs i := fun i => hl (.reg i)
 have hav : ∀ b, ¬ av s.σ μ Γ.M b → ¬ av t.σ μ Γ.M b := by
  intro b hb hc
  rcases hc with hc | ⟨id, o, h1, h2⟩
  ·exact hb (.inl hc)
  ·exact hb (.inr ⟨id, o, by rw [he]; exact h1, h2⟩)
 have hst : Step s.σ μ w (av s.σ μ Γ.M) t.σ μ w (av t.σ μ Γ.M) := ⟨fun b hb _ => ⟨rfl, hav b hb⟩, Nat.le_refl _, fun id t cs hf => ⟨cs, by rw [← he]; exact hf, rfl, rfl⟩, fun id e size xs hf => .inr ⟨xs, by rw [← he]; exact hf, Nat.le_refl _, fun _ => rfl⟩, fun id es hf => ⟨es, by rw [← he]; exact hf, rfl⟩, fun id hf => by rw [← he]; exact hf⟩
 have hg := h.gro
 refine ⟨h.defers, h.tmps, fun i x hx => rep_mono hst (h.regs i x (by rw [hr]; exact hx)), h.store.ext he, ⟨hg.os, hg.tape, hg.output, hg.size, hg.same, fun id o b h1 h2 h3 => hg.fresh id o b (by rw [he]; exact h1) h2 h3, fun id t cs hf => ?_, fun id e size xs hf => ?_, fun id es hf => ?_, fun id hf => by rw [← he]; exact hg.dead id hf⟩⟩
 ·obtain ⟨cs', h1, h2, h3⟩ := hg.box id t cs hf
  exact ⟨cs', by rw [← he]; exact h1, h2, h3⟩
 ·rcases hg.row id e size xs hf with hd | ⟨xs', h1, h2, h3⟩
  ·exact .inl (by rw [← he]; exact hd)
  exact .inr ⟨xs', by rw [← he]; exact h1, h2, h3⟩
 ·obtain ⟨es', h1, h2⟩ := hg.mp id es hf
  exact ⟨es', by rw [← he]; exact h1, h2⟩
def LG (P : Program) (Γ : Ctx) (ops : Array Oper) (o : Oper) (s : ASt) (e : Eff) : Prop :=
 ∀ t, Agree s t e.R → ∀ (Q : Exit → Act → World → Prop) μ a w, Rel Γ t μ a w → ∀ K : Act → World → Prop, (∀ μ' a' w', Rel Γ (t.do_ e) μ' a' w' → K a' w') →
  if Region.wanted o (yielded ops a.tmps) then o.wp P a w K Q else K (a.put o.dst undef) w
inductive Chain (P : Program) (Γ : Ctx) (ops : Array Oper) : List Oper → ASt → List Eff → ASt → Prop
 | nil {s : ASt} : Chain P Γ ops [] s [] s
 | cons {o : Oper} {rest : List Oper} {s s' : ASt} {e : Eff} {es : List Eff} (h : LG P Γ ops o s e) (hk : Chain P Γ ops rest (s.do_ e) es s') : Chain P Γ ops (o :: rest) s (e :: es) s'
theorem Chain.at_ {ops : Array Oper} : ∀ {l : List Oper} {s s' : ASt} {es : List Eff}, Chain P Γ ops l s es s' → ∀ {i : Nat} {o : Oper}, l[i]? = some o → ∃ e, es[i]? = some e ∧ LG P Γ ops o ((es.take i).foldl ASt.do_ s) e
 | [], _, _, _, .nil, i, o, h => by simp at h
 | o' :: l, s, s', e :: es, .cons h hk, 0, o, hi => by
  simp only [List.getElem?_cons_zero, Option.some.injEq] at hi; subst hi
  exact ⟨e, rfl, h⟩
 | o' :: l, s, s', e :: es, .cons h hk, i + 1, o, hi => by
  obtain ⟨e', h1, h2⟩ := hk.at_ (i := i) (by simpa using hi)
  exact ⟨e', by simpa using h1, by simpa using h2⟩
theorem Chain.final {ops : Array Oper} : ∀ {l : List Oper} {s s' : ASt} {es : List Eff}, Chain P Γ ops l s es s' → s' = es.foldl ASt.do_ s ∧ es.length = l.length
 | [], _, _, _, .nil => ⟨rfl, rfl⟩
 | o' :: l, s, s', e :: es, .cons h hk => by
  obtain ⟨h1, h2⟩ := hk.final
  exact ⟨h1, by simp [h2]⟩
theorem countP_lt (p : Nat → Bool) (i : Nat) : ∀ l : List Nat, i ∈ l → p i = true → l.countP (fun j => p j && decide (j ≠ i)) < l.countP p := by
 intro l
 induction l with
 | nil => intro h; cases h
 | cons x l ih =>
  intro hx hp
  have hle : l.countP (fun j => p j && decide (j ≠ i)) ≤ l.countP p := List.countP_mono_left fun j _ hj => by
   simp only [Bool.and_eq_true] at hj; exact hj.1
  by_cases h10 : x = i
  ·subst h10
   rw [List.countP_cons_of_neg (by simp), List.countP_cons_of_pos hp]
   omega
  ·rcases List.mem_cons.1 hx with h11 | h11
   ·exact absurd h11.symm h10
   ·have := ih h11 hp
    cases hb : p x
    ·rw [List.countP_cons_of_neg (by simp [hb]), List.countP_cons_of_neg (by simp [hb])]; exact this
    ·rw [List.countP_cons_of_pos (by simp [hb, h10]), List.countP_cons_of_pos hb]; omega
theorem draw_ok {ops : List Oper} {es : List Eff} {s0 s' : ASt} (hc : Chain P Γ ops.toArray ops s0 es s') (hnd : nodef ops = true) (hok : okDraw ops es = true) (hQ : Q .normal s') :
  ∀ (fuel : Nat) (listed : Array Bool) (t : ASt) (μ : Nat → Value) (a : Act) (w : World), listed.size = ops.length → (List.range ops.length).countP (fun i => !listed.getD i true) ≤ fuel →
   (∀ i, i < ops.length → listed.getD i true = true → ∀ e ∈ (ops.map aft).getD i [], listed.getD e true = true) →
   (∀ l, same t (appl (fun i => listed.getD i true) 0 es s0) l) → Rel Γ t μ a w → wpAnyIn Γ.F 0 P .any ops.toArray (AK Γ Q) fuel listed a w := by
 obtain ⟨hfin, hlen⟩ := hc.final
 simp only [okDraw, Bool.and_eq_true, Nat.beq_eq] at hok
 obtain ⟨_, hok⟩ := hok
 have hback : ∀ i, ∀ e ∈ (ops.map aft).getD i [], e < i := by
  intro i e he
  rcases Nat.lt_or_ge i ops.length with h | h
  ·have h1 := List.all_eq_true.1 hok i (by simpa using h)
   simp only [Bool.and_eq_true] at h1
   have := List.all_eq_true.1 h1.1 e he
   simpa [Nat.blt_eq] using this
  ·rw [List.getD_eq_getElem?_getD, List.getElem?_eq_none (by simpa using h)] at he
   simp at he
 have hconf : ∀ k i ek ei, k < i → es[k]? = some ek → es[i]? = some ei → ((clos [] (ops.map aft)).getD i []).contains k = true ∨ (disj ek.W (ei.R ++ ei.W) = true ∧ disj ei.W (ek.R ++ ek.W) = true) := by
  intro k i ek ei hki hk hi
  have hil : i < ops.length := by rw [← hlen]; exact (List.getElem?_eq_some_iff.1 hi).1
  have h1 := List.all_eq_true.1 hok i (by simpa using hil)
  simp only [Bool.and_eq_true] at h1
  have h2 := List.all_eq_true.1 h1.2 k (by simpa using hki)
  simp only [Bool.or_eq_true, hk, hi, Bool.and_eq_true] at h2
  exact h2
 have hready : ∀ (listed : Array Bool) (i : Nat), i ∈ Region.ready .any ops.toArray listed ↔ i < ops.length ∧ listed.getD i true = false ∧ ∀ e ∈ (ops.map aft).getD i [], listed.getD e false = true := by
  intro listed i
  unfold Region.ready
  simp only [List.size_toArray, List.mem_filter, List.mem_range, Bool.and_eq_true, Bool.not_eq_true', List.getElem?_toArray]
  constructor
  ·rintro ⟨h1, h2, h3⟩
   refine ⟨h1, h2, fun e he => ?_⟩
   rw [List.getElem?_eq_getElem h1] at h3
   simp only [Option.map_some, Option.getD_some, Array.all_eq_true_iff_forall_mem, Bool.or_eq_true, Bool.not_eq_true'] at h3
   simp only [List.getD_eq_getElem?_getD, List.getElem?_map, List.getElem?_eq_getElem h1, Option.map_some, Option.getD_some, aft, List.mem_map, List.mem_filter, Array.mem_toList_iff] at he
   obtain ⟨x, ⟨hx1, hx2⟩, rfl⟩ := he
   rcases h3 x hx1 with h4 | h4
   ·rw [hx2] at h4; cases h4
   ·exact h4
  ·rintro ⟨h1, h2, h3⟩
   refine ⟨h1, h2, ?_⟩
   rw [List.getElem?_eq_getElem h1]
   simp only [Option.map_some, Option.getD_some, Array.all_eq_true_iff_forall_mem, Bool.or_eq_true, Bool.not_eq_true']
   intro x hx
   cases hb : Region.binds .any x
   ·exact .inl rfl
   ·refine .inr (h3 x.on ?_)
    simp only [List.getD_eq_getElem?_getD, List.getElem?_map, List.getElem?_eq_getElem h1, Option.map_some, Option.getD_some, aft, List.mem_map, List.mem_filter, Array.mem_toList_iff]
    exact ⟨x, ⟨hx, hb⟩, rfl⟩
 have hdone : ∀ (listed : Array Bool), listed.size = ops.length → Region.ready .any ops.toArray listed = [] → ∀ i, i < ops.length → listed.getD i true = true := by
  intro listed hsz hr i
  induction i using Nat.strongRecOn with
  | _ i ih =>
   intro hi
   cases hv : listed.getD i true
   ·exfalso
    have : i ∈ Region.ready .any ops.toArray listed := (hready listed i).2 ⟨hi, hv, fun e he => by
     have h1 := hback i e he
     have h2 := ih e h1 (by omega)
     rw [Array.getD_eq_getD_getElem?, Array.getElem?_eq_getElem (by omega)] at h2 ⊢
     simpa using h2⟩
    rw [hr] at this; cases this
   ·rfl
 have hend : ∀ (listed : Array Bool) (t : ASt) μ a w, listed.size = ops.length → Region.ready .any ops.toArray listed = [] → (∀ l, same t (appl (fun i => listed.getD i true) 0 es s0) l) → Rel Γ t μ a w → AK Γ Q .normal a w := by
  intro listed t μ a w hsz hr hs hrel
  refine ⟨s', μ, hrel.ext fun l => (hs l).trans ?_, hQ⟩
  have h1 : same (appl (fun i => listed.getD i true) 0 es s0) (appl (fun j => decide (j < 0 + es.length)) 0 es s0) l := appl_same (same.refl _ _) (fun j e hj _ => by
   have hjl := (List.getElem?_eq_some_iff.1 hj).1
   rw [hdone listed hsz hr (0 + j) (by omega)]
   simp; exact hjl)
  rw [appl_upto (Nat.le_refl _), List.take_length, ← hfin] at h1
  exact h1
 intro fuel
 induction fuel with
 | zero =>
  intro listed t μ a w hsz hcnt hcl hs hrel
  have hr : Region.ready .any ops.toArray listed = [] := by
   rw [List.eq_nil_iff_forall_not_mem]
   intro i hi
   obtain ⟨h1, h2, _⟩ := (hready listed i).1 hi
   have : 0 < (List.range ops.length).countP (fun i => !listed.getD i true) := List.countP_pos_iff.2 ⟨i, by simpa using h1, by simp [h2]⟩
   omega
  exact ⟨hr, hend listed t μ a w hsz hr hs hrel⟩
 | succ fuel ih =>
  intro listed t μ a w hsz hcnt hcl hs hrel
  refine ⟨fun hr => hend listed t μ a w hsz hr hs hrel, fun i hi => ?_⟩
  obtain ⟨h1, h2, h3⟩ := (hready listed i).1 hi
  have hget : ops[i]? = some ops[i] := List.getElem?_eq_getElem h1
  obtain ⟨e, h4, h5⟩ := hc.at_ hget
  have hclos : ∀ j, j < ops.length → (∀ e ∈ (ops.map aft).getD j [], listed.getD e true = true) → ∀ k ∈ (clos [] (ops.map aft)).getD j [], listed.getD k true = true := by
   intro j hj hpre
   refine clos_sound (ops.map aft) (fun i => listed.getD i true) (fun i hi e he => ?_) hback (ops.map aft) [] (by simp) (by simp) (fun i hi => absurd hi (by simp)) j (by rw [clos_len]; simpa using hj) hpre
   rcases Nat.lt_or_ge i ops.length with h | h
   ·exact hcl i h hi e he
   ·rw [List.getD_eq_getElem?_getD, List.getElem?_eq_none (by simpa using h)] at he
    simp at he
  have hpre : ∀ e ∈ (ops.map aft).getD i [], listed.getD e true = true := by
   intro e he
   have h6 := h3 e he
   have := hback i e he
   rw [Array.getD_eq_getD_getElem?, Array.getElem?_eq_getElem (by omega)] at h6 ⊢
   simpa using h6
  have hag : Agree ((es.take i).foldl ASt.do_ s0) t e.R := by
   refine agree_of fun l hl => (hs l).trans ?_
   rw [← appl_upto (es := es) (i := 0) (by omega)]
   refine appl_same (same.refl _ _) (fun j e' hj hw => ?_)
   simp only [Nat.zero_add]
   rcases Nat.lt_trichotomy j i with h6 | h6 | h6
   ·rw [show decide (j < i) = true by simpa using h6]
    rcases hconf j i e' e h6 hj h4 with h7 | ⟨h7, _⟩
    ·exact hclos i h1 hpre j (by simpa using h7)
    ·exact (disj_not h7 hw (List.mem_append_left _ hl)).elim
   ·subst h6; rw [h2]; simp
   ·rw [show decide (j < i) = false by simp; omega]
    cases hv : listed.getD j true
    ·rfl
    ·exfalso
     have hjl : j < ops.length := by rw [← hlen]; exact (List.getElem?_eq_some_iff.1 hj).1
     rcases hconf i j e e' h6 h4 hj with h7 | ⟨_, h7⟩
     ·have := hclos j hjl (hcl j hjl hv) i (by simpa using h7)
      rw [h2] at this; cases this
     ·exact disj_not h7 hw (List.mem_append_left _ hl)
  have hset : ∀ j, (listed.setIfInBounds i true).getD j true = (if j = i then true else listed.getD j true) := by
   intro j
   rw [Array.getD_eq_getD_getElem?, Array.getD_eq_getD_getElem?]
   by_cases h6 : j = i
   ·subst h6; rw [if_pos rfl]; simp [h1, hsz]
   ·rw [if_neg h6, Array.getElem?_setIfInBounds_ne (Ne.symm h6)]
  have hnext : ∀ μ' a' w', Rel Γ (t.do_ e) μ' a' w' → wpAnyIn Γ.F 0 P .any ops.toArray (AK Γ Q) fuel (listed.setIfInBounds i true) a' w' := by
   intro μ' a' w' hrel'
   refine ih _ (t.do_ e) μ' a' w' (by simpa using hsz) ?_ ?_ ?_ hrel'
   ·have h6 : (List.range ops.length).countP (fun j => !(listed.setIfInBounds i true).getD j true) < (List.range ops.length).countP (fun j => !listed.getD j true) := by
     have h7 : (List.range ops.length).countP (fun j => !(listed.setIfInBounds i true).getD j true) = (List.range ops.length).countP (fun j => !listed.getD j true && decide (j ≠ i)) := by
      refine List.countP_congr fun j _ => ?_
      rw [hset j]
      by_cases h8 : j = i <;> simp [h8]
     rw [h7]
     exact countP_lt (fun j => !listed.getD j true) i _ (by simpa using h1) (by simp [h2])
    omega
   ·intro j hj hv e' he'
    rw [hset] at hv ⊢
    by_cases h6 : e' = i
    ·rw [if_pos h6]
    ·rw [if_neg h6]
     by_cases h7 : j = i
     ·subst h7; exact hpre e' he'
     ·rw [if_neg h7] at hv; exact hcl j hj hv e' he'
   ·intro l
    by_cases hw : l ∈ e.W
    ·refine same.symm (appl_last (k := i) hw h4 (by rw [Nat.zero_add, hset, if_pos rfl]) (fun j e' hj hje hv hw' => ?_))
     rw [Nat.zero_add, hset, if_neg (by omega)] at hv
     have hjl : j < ops.length := by rw [← hlen]; exact (List.getElem?_eq_some_iff.1 hje).1
     rcases hconf i j e e' hj h4 hje with h7 | ⟨h7, _⟩
     ·have := hclos j hjl (hcl j hjl hv) i (by simpa using h7)
      rw [h2] at this; cases this
     ·exact disj_not h7 hw (List.mem_append_right _ hw')
    ·refine (do_out hw).trans ((hs l).trans (appl_same (same.refl _ _) (fun j e' hj hw' => ?_)))
     rw [hset]
     by_cases h6 : 0 + j = i
     ·rw [show j = i by omega, h4] at hj
      injection hj with hj; subst hj
      exact absurd hw' hw
     ·rw [if_neg h6]
  unfold wpOpIn
  simp only [List.getElem?_toArray, hget]
  have := h5 t hag (AK Γ Q) μ a w hrel (wpAnyIn Γ.F 0 P .any ops.toArray (AK Γ Q) fuel (listed.setIfInBounds i true)) hnext
  split
  ·rename_i hw; rw [if_pos hw] at this; exact up_in (nodef_at hnd hget) this
  ·rename_i hw; rw [if_neg hw] at this; exact ⟨fun _ _ => trivial, this⟩
structure DR (P : Program) (Γ : Ctx) (ops : List Oper) (rest : List Oper) (acc : List Eff) (Q : Exit → ASt → Prop) (s : ASt) : Prop where
 out : ∃ es s', Chain P Γ ops.toArray rest s es s' ∧ okDraw ops (acc ++ es) = true ∧ Q .normal s'
variable {ops : List Oper} {rest : List Oper} {acc : List Eff}
theorem a_draw {id : Nat} (hm : P.follows .mixedOrders = true) (h : DR P Γ ops ops [] Q s) (hnd : nodef ops = true := by rfl) : AWP P Γ (.region id ops.toArray true) Q s := by
 obtain ⟨es, s', hc, hok, hQ⟩ := h.out
 refine ⟨fun μ a w hr => wpIn_region_any hm ?_⟩
 have hr' : Rel Γ s μ a w.drew := hr.world ((Below.refl _ w).drew)
 refine draw_ok hc hnd (by simpa using hok) hQ _ _ s μ a w.drew (by simp) (Nat.le_trans List.countP_le_length (by simp)) (fun i hi hl => ?_) (fun l => ?_) hr'
 ·exfalso
  simp [hi] at hl
 ·have h1 : same (appl (fun i => (Array.replicate ops.toArray.size false).getD i true) 0 es s) (appl (fun j => decide (j < 0 + 0)) 0 es s) l := appl_same (same.refl _ _) (fun j e hj _ => by
   have hjl : j < ops.length := by rw [← hc.final.2]; exact (List.getElem?_eq_some_iff.1 hj).1
   simp [hjl])
  rw [appl_upto (Nat.zero_le _)] at h1
  exact h1.symm
theorem d_nil (hok : okDraw ops acc = true) (h : Q .normal s) : DR P Γ ops [] acc Q s := ⟨⟨[], s, .nil, by simpa using hok, h⟩⟩
theorem d_step {o : Oper} {e : Eff} (h : LG P Γ ops.toArray o s e) (hk : DR P Γ ops rest (acc ++ [e]) Q (s.do_ e)) : DR P Γ ops (o :: rest) acc Q s := by
 obtain ⟨es, s', h1, h2, h3⟩ := hk.out
 exact ⟨⟨e :: es, s', .cons h h1, by rw [List.append_assoc] at h2; exact h2, h3⟩⟩
theorem d_do {dst : Option Tmp} {op : Op} {ty : TypeId} {pos : String} {after : Array Edge} {R : List Loc} {er : List (Nat × AV)} {eσ : List (Nat × SObj)} (h : LS P Γ ⟨dst, op, ty, pos, after, none⟩ s R er eσ)
  (hk : DR P Γ ops rest (acc ++ [⟨R, er, eσ⟩]) Q (s.eff er eσ)) : DR P Γ ops (⟨dst, op, ty, pos, after, none⟩ :: rest) acc Q s := by
 refine d_step (e := ⟨R, er, eσ⟩) (fun t ht Q' μ a w hr K hK => ?_) hk
 rw [if_pos (by simp [Region.wanted])]
 exact (h.out t ht Q' μ a w hr K hK)
theorem d_yes {dst : Option Tmp} {op : Op} {ty : TypeId} {pos : String} {after : Array Edge} {R : List Loc} {er : List (Nat × AV)} {eσ : List (Nat × SObj)} {j : Nat} {want b : Bool} {t : Tmp} (hj : (ops.toArray[j]?).bind (·.dst) = some t)
  (hb : find s.regs t = some (.v (.bool b))) (he : b = want) (h : LS P Γ ⟨dst, op, ty, pos, after, none⟩ s R er eσ)
  (hk : DR P Γ ops rest (acc ++ [⟨.reg t :: R, er, eσ⟩]) Q (s.eff er eσ)) : DR P Γ ops (⟨dst, op, ty, pos, after, some (j, want)⟩ :: rest) acc Q s := by
 refine d_step (e := ⟨.reg t :: R, er, eσ⟩) (fun u hu Q' μ a w hr K hK => ?_) hk
 have hb' : find u.regs t = some (.v (.bool b)) := hu.1.trans hb
 have h2 : Region.wanted ⟨dst, op, ty, pos, after, some (j, want)⟩ (yielded ops.toArray a.tmps) = true := by
  simp only [Region.wanted, yielded_reg hr hj hb' (by simp [undef]), he]
  simp
 rw [if_pos h2]
 exact (h.out u hu.2 Q' μ a w hr K hK)
theorem d_no {dst : Option Tmp} {op : Op} {ty : TypeId} {pos : String} {after : Array Edge} {j : Nat} {want b : Bool} {t : Tmp} (hd : okDst Γ.n dst = true) (hj : (ops.toArray[j]?).bind (·.dst) = some t)
  (hb : find s.regs t = some (.v (.bool b))) (he : b ≠ want)
  (hk : DR P Γ ops rest (acc ++ [⟨[.reg t], dst1 dst (.v undef), []⟩]) Q (s.eff (dst1 dst (.v undef)) [])) : DR P Γ ops (⟨dst, op, ty, pos, after, some (j, want)⟩ :: rest) acc Q s := by
 refine d_step (e := ⟨[.reg t], dst1 dst (.v undef), []⟩) (fun u hu Q' μ a w hr K hK => ?_) hk
 have hb' : find u.regs t = some (.v (.bool b)) := hu.1.trans hb
 have h2 : Region.wanted ⟨dst, op, ty, pos, after, some (j, want)⟩ (yielded ops.toArray a.tmps) = false := by
  simp only [Region.wanted, yielded_reg hr hj hb' (by simp [undef])]
  simpa using he
 rw [if_neg (by rw [h2]; simp)]
 exact hK μ _ _ (hr.put hd (by simp only [rep]; exact ⟨trivial, rfl⟩))
theorem d_no' {dst : Option Tmp} {op : Op} {ty : TypeId} {pos : String} {after : Array Edge} {j : Nat} {want : Bool} {t : Tmp} (hd : okDst Γ.n dst = true) (hj : (ops.toArray[j]?).bind (·.dst) = some t)
  (hb : find s.regs t = some (.v undef))
  (hk : DR P Γ ops rest (acc ++ [⟨[.reg t], dst1 dst (.v undef), []⟩]) Q (s.eff (dst1 dst (.v undef)) [])) : DR P Γ ops (⟨dst, op, ty, pos, after, some (j, want)⟩ :: rest) acc Q s := by
 refine d_step (e := ⟨[.reg t], dst1 dst (.v undef), []⟩) (fun u hu Q' μ a w hr K hK => ?_) hk
 have hb' : find u.regs t = some (.v undef) := hu.1.trans hb
 have h1 := hr.regs t _ hb'
 simp only [rep] at h1
 have h3 : yielded ops.toArray a.tmps j = none := by
  unfold yielded
  rw [hj]
  simp only [Option.bind_some]
  cases h : a.tmps[t]? with
  | none => rfl
  | some x =>
   have := h1.1
   rw [Array.getD_eq_getD_getElem?, h] at this
   simp only [Option.getD_some] at this
   subst this
   rfl
 have h2 : Region.wanted ⟨dst, op, ty, pos, after, some (j, want)⟩ (yielded ops.toArray a.tmps) = false := by
  simp only [Region.wanted, h3]
  rfl
 rw [if_neg (by rw [h2]; simp)]
 exact hK μ _ _ (hr.put hd (by simp only [rep]; exact ⟨trivial, rfl⟩))
theorem d_split {dst : Option Tmp} {op : Op} {ty : TypeId} {pos : String} {after : Array Edge} {j : Nat} {want b : Bool} {t : Tmp}
  (hb : find s.regs t = some (.v (.bool b))) (hj : (ops.toArray[j]?).bind (·.dst) = some t) (h1 : b = true → DR P Γ ops (⟨dst, op, ty, pos, after, some (j, want)⟩ :: rest) acc Q s) (h2 : b = false → DR P Γ ops (⟨dst, op, ty, pos, after, some (j, want)⟩ :: rest) acc Q s) : DR P Γ ops (⟨dst, op, ty, pos, after, some (j, want)⟩ :: rest) acc Q s := by
 cases hv : b
 ·exact h2 hv
 ·exact h1 hv
end
end Go.Proofs.Ytlgbadlgfdlheaa
namespace Go.Proofs.Ytlgbadlgfdlheaa
open Go.RowKit
section
variable {P : Program} {Γ : Ctx} {Q : Exit → ASt → Prop} {s t : ASt} {μ : Nat → Value} {w : World} {a : Act} {ops : List Oper}
theorem ready_iff {listed : Array Bool} {i : Nat} : i ∈ Region.ready .any ops.toArray listed ↔ i < ops.length ∧ listed.getD i true = false ∧ ∀ e ∈ (ops.map aft).getD i [], listed.getD e false = true := by
 unfold Region.ready
 simp only [List.size_toArray, List.mem_filter, List.mem_range, Bool.and_eq_true, Bool.not_eq_true', List.getElem?_toArray]
 constructor
 ·rintro ⟨h1, h2, h3⟩
  refine ⟨h1, h2, fun e he => ?_⟩
  rw [List.getElem?_eq_getElem h1] at h3
  simp only [Option.map_some, Option.getD_some, Array.all_eq_true_iff_forall_mem, Bool.or_eq_true, Bool.not_eq_true'] at h3
  simp only [List.getD_eq_getElem?_getD, List.getElem?_map, List.getElem?_eq_getElem h1, Option.map_some, Option.getD_some, aft, List.mem_map, List.mem_filter, Array.mem_toList_iff] at he
  obtain ⟨x, ⟨hx1, hx2⟩, rfl⟩ := he
  rcases h3 x hx1 with h4 | h4
  ·rw [hx2] at h4; cases h4
  ·exact h4
 ·rintro ⟨h1, h2, h3⟩
  refine ⟨h1, h2, ?_⟩
  rw [List.getElem?_eq_getElem h1]
  simp only [Option.map_some, Option.getD_some, Array.all_eq_true_iff_forall_mem, Bool.or_eq_true, Bool.not_eq_true']
  intro x hx
  cases hb : Region.binds .any x
  ·exact .inl rfl
  ·refine .inr (h3 x.on ?_)
   simp only [List.getD_eq_getElem?_getD, List.getElem?_map, List.getElem?_eq_getElem h1, Option.map_some, Option.getD_some, aft, List.mem_map, List.mem_filter, Array.mem_toList_iff]
   exact ⟨x, ⟨hx, hb⟩, rfl⟩
theorem ready_done (hback : ∀ i, ∀ e ∈ (ops.map aft).getD i [], e < i) {listed : Array Bool} (hsz : listed.size = ops.length) (hr : Region.ready .any ops.toArray listed = []) : ∀ i, i < ops.length → listed.getD i true = true := by
 intro i
 induction i using Nat.strongRecOn with
 | _ i ih =>
  intro hi
  cases hv : listed.getD i true
  ·exfalso
   have : i ∈ Region.ready .any ops.toArray listed := ready_iff.2 ⟨hi, hv, fun e he => by
    have h1 := hback i e he
    have h2 := ih e h1 (by omega)
    rw [Array.getD_eq_getD_getElem?, Array.getElem?_eq_getElem (by omega)] at h2 ⊢
    simpa using h2⟩
   rw [hr] at this; cases this
  ·rfl
theorem phase_step {es : List Eff} {s0 : ASt} {L L' : Nat → Bool} {i : Nat} {e : Eff} (he : es[i]? = some e) (hLi : L i = false) (hL' : ∀ j, L' j = if j = i then true else L j)
  (hb : ∀ j e', j < i → es[j]? = some e' → L j = true ∨ (disj e'.W (e.R ++ e.W) = true ∧ disj e.W (e'.R ++ e'.W) = true))
  (ha : ∀ j e', i < j → es[j]? = some e' → L j = false ∨ (disj e.W (e'.R ++ e'.W) = true ∧ disj e'.W (e.R ++ e.W) = true))
  (hs : ∀ l, same t (appl L 0 es s0) l) : Agree ((es.take i).foldl ASt.do_ s0) t e.R ∧ ∀ l, same (t.do_ e) (appl L' 0 es s0) l := by
 have hil : i < es.length := (List.getElem?_eq_some_iff.1 he).1
 constructor
 ·refine agree_of fun l hl => (hs l).trans ?_
  rw [← appl_upto (es := es) (i := 0) (by omega)]
  refine appl_same (same.refl _ _) (fun j e' hj hw => ?_)
  simp only [Nat.zero_add]
  rcases Nat.lt_trichotomy j i with h6 | h6 | h6
  ·rw [show decide (j < i) = true by simpa using h6]
   rcases hb j e' h6 hj with h7 | ⟨h7, _⟩
   ·exact h7
   ·exact (disj_not h7 hw (List.mem_append_left _ hl)).elim
  ·subst h6; rw [hLi]; simp
  ·rw [show decide (j < i) = false by simp; omega]
   rcases ha j e' h6 hj with h7 | ⟨_, h7⟩
   ·exact h7
   ·exact (disj_not h7 hw (List.mem_append_left _ hl)).elim
 ·intro l
  by_cases hw : l ∈ e.W
  ·refine same.symm (appl_last (k := i) hw he (by rw [Nat.zero_add, hL', if_pos rfl]) (fun j e' hj hje hv hw' => ?_))
   rw [Nat.zero_add, hL', if_neg (by omega)] at hv
   rcases ha j e' hj hje with h7 | ⟨h7, _⟩
   ·rw [h7] at hv; cases hv
   ·exact disj_not h7 hw (List.mem_append_right _ hw')
  ·refine (do_out hw).trans ((hs l).trans (appl_same (same.refl _ _) (fun j e' hj hw' => ?_)))
   rw [Nat.zero_add, hL']
   by_cases h6 : j = i
   ·subst h6
    rw [he] at hj
    injection hj with hj; subst hj
    exact absurd hw' hw
   ·rw [if_neg h6]
def barr (ops : List Oper) (m : Nat) : Bool :=
 Nat.ble m ops.length && ((ops.take m).all fun o => match o.guard with | some (j, _) => Nat.blt j m | none => true) &&
 (List.range ops.length).all fun i => Nat.blt i m || (List.range m).all fun k => ((clos [] (ops.map aft)).getD i []).contains k
theorem dummy_at {m i : Nat} {es : List Eff} : (List.replicate m (⟨[], [], []⟩ : Eff) ++ es)[m + i]? = es[i]? := by
 rw [List.getElem?_append_right (by simp)]
 simp
theorem clos_take (l : List (List Nat)) : ∀ (k : Nat) (acc : List (List Nat)) (i : Nat), i < acc.length + k → (clos acc (l.take k)).getD i [] = (clos acc l).getD i [] := by
 induction l with
 | nil => intro k acc i h; simp
 | cons a l ih =>
  intro k acc i h
  cases k with
  | zero => rw [clos_keep (a :: l) acc i (by omega)]; rfl
  | succ k =>
   simp only [List.take_succ_cons, clos]
   exact ih k _ i (by simp; omega)
theorem wanted_take {m : Nat} {o : Oper} {tm : Array Value} (h : ∀ j b, o.guard = some (j, b) → j < m) : Region.wanted o (yielded (ops.take m).toArray tm) = Region.wanted o (yielded ops.toArray tm) := by
 unfold Region.wanted
 cases hg : o.guard with
 | none => rfl
 | some p =>
  obtain ⟨j, b⟩ := p
  have hj := h j b hg
  have : yielded (ops.take m).toArray tm j = yielded ops.toArray tm j := by
   unfold yielded
   simp only [List.getElem?_toArray]
   rw [List.getElem?_take_of_lt hj]
  simp only [this]
theorem draw_ok2 {m : Nat} {esA esB : List Eff} {s0 s1 s2 s' : ASt} (hb : barr ops m = true) (hcA : Chain P Γ (ops.take m).toArray (ops.take m) s0 esA s1) (hokA : okDraw (ops.take m) esA = true) (hw : Weak Γ s1 s2)
  (hcB : Chain P Γ ops.toArray (ops.drop m) s2 esB s') (hnd : nodef ops = true) (hokB : okDraw ops (List.replicate m ⟨[], [], []⟩ ++ esB) = true) (hQ : Q .normal s') :
  ∀ (fuel : Nat) (listed : Array Bool) (t : ASt) (μ : Nat → Value) (a : Act) (w : World), listed.size = ops.length → (List.range ops.length).countP (fun i => !listed.getD i true) ≤ fuel →
   (∀ i, i < ops.length → listed.getD i true = true → ∀ e ∈ (ops.map aft).getD i [], listed.getD e true = true) →
   (((∀ i, m ≤ i → i < ops.length → listed.getD i true = false) ∧ ∀ l, same t (appl (fun i => listed.getD i true) 0 esA s0) l) ∨
    ((∀ i, i < m → listed.getD i true = true) ∧ ∀ l, same t (appl (fun i => listed.getD (m + i) true) 0 esB s2) l)) → Rel Γ t μ a w → wpAnyIn Γ.F 0 P .any ops.toArray (AK Γ Q) fuel listed a w := by
 obtain ⟨hfinA, hlenA⟩ := hcA.final
 obtain ⟨hfinB, hlenB⟩ := hcB.final
 simp only [barr, Bool.and_eq_true, Nat.ble_eq] at hb
 obtain ⟨⟨hml, hgd⟩, hbar⟩ := hb
 rw [List.length_take, Nat.min_eq_left hml] at hlenA
 rw [List.length_drop] at hlenB
 simp only [okDraw, Bool.and_eq_true, Nat.beq_eq] at hokA hokB
 obtain ⟨_, hokA⟩ := hokA
 obtain ⟨_, hokB⟩ := hokB
 have hback : ∀ i, ∀ e ∈ (ops.map aft).getD i [], e < i := by
  intro i e he
  rcases Nat.lt_or_ge i ops.length with h | h
  ·have h1 := List.all_eq_true.1 hokB i (by simpa using h)
   simp only [Bool.and_eq_true] at h1
   have := List.all_eq_true.1 h1.1 e he
   simpa [Nat.blt_eq] using this
  ·rw [List.getD_eq_getElem?_getD, List.getElem?_eq_none (by simpa using h)] at he
   simp at he
 have hconfA : ∀ k i ek ei, k < i → esA[k]? = some ek → esA[i]? = some ei → ((clos [] (ops.map aft)).getD i []).contains k = true ∨ (disj ek.W (ei.R ++ ei.W) = true ∧ disj ei.W (ek.R ++ ek.W) = true) := by
  intro k i ek ei hki hk hi
  have hil : i < m := by rw [← hlenA]; exact (List.getElem?_eq_some_iff.1 hi).1
  have h1 := List.all_eq_true.1 hokA i (by simp; omega)
  simp only [Bool.and_eq_true] at h1
  have h2 := List.all_eq_true.1 h1.2 k (by simpa using hki)
  simp only [Bool.or_eq_true, hk, hi, Bool.and_eq_true] at h2
  rw [List.map_take, clos_take (ops.map aft) m [] i (by simpa using hil)] at h2
  exact h2
 have hconfB : ∀ k i ek ei, k < i → esB[k]? = some ek → esB[i]? = some ei → ((clos [] (ops.map aft)).getD (m + i) []).contains (m + k) = true ∨ (disj ek.W (ei.R ++ ei.W) = true ∧ disj ei.W (ek.R ++ ek.W) = true) := by
  intro k i ek ei hki hk hi
  have hil : i < ops.length - m := by rw [← hlenB]; exact (List.getElem?_eq_some_iff.1 hi).1
  have h1 := List.all_eq_true.1 hokB (m + i) (by simp; omega)
  simp only [Bool.and_eq_true] at h1
  have h2 := List.all_eq_true.1 h1.2 (m + k) (by simpa using hki)
  simp only [Bool.or_eq_true, dummy_at, hk, hi, Bool.and_eq_true] at h2
  exact h2
 have hclos : ∀ (listed : Array Bool), (∀ i, i < ops.length → listed.getD i true = true → ∀ e ∈ (ops.map aft).getD i [], listed.getD e true = true) → ∀ j, j < ops.length → (∀ e ∈ (ops.map aft).getD j [], listed.getD e true = true) → ∀ k ∈ (clos [] (ops.map aft)).getD j [], listed.getD k true = true := by
  intro listed hcl j hj hpre
  refine clos_sound (ops.map aft) (fun i => listed.getD i true) (fun i hi e he => ?_) hback (ops.map aft) [] (by simp) (by simp) (fun i hi => absurd hi (by simp)) j (by rw [clos_len]; simpa using hj) hpre
  rcases Nat.lt_or_ge i ops.length with h | h
  ·exact hcl i h hi e he
  ·rw [List.getD_eq_getElem?_getD, List.getElem?_eq_none (by simpa using h)] at he
   simp at he
 have hturn : ∀ (listed : Array Bool) (t : ASt) μ a w, (∀ i, i < m → listed.getD i true = true) → (∀ i, m ≤ i → i < ops.length → listed.getD i true = false) → (∀ l, same t (appl (fun i => listed.getD i true) 0 esA s0) l) → Rel Γ t μ a w → Rel Γ s2 μ a w := by
  intro listed t μ a w h1 h2 hs hr
  refine hw.rel (hr.ext fun l => (hs l).trans ?_)
  have h3 : same (appl (fun i => listed.getD i true) 0 esA s0) (appl (fun j => decide (j < 0 + esA.length)) 0 esA s0) l := appl_same (same.refl _ _) (fun j e hj _ => by
   have hjl := (List.getElem?_eq_some_iff.1 hj).1
   rw [h1 (0 + j) (by omega)]
   simp; exact hjl)
  rw [appl_upto (Nat.le_refl _), List.take_length, ← hfinA] at h3
  exact h3
 have hend : ∀ (listed : Array Bool) (t : ASt) μ a w, listed.size = ops.length → Region.ready .any ops.toArray listed = [] → (∀ l, same t (appl (fun i => listed.getD (m + i) true) 0 esB s2) l) → Rel Γ t μ a w → AK Γ Q .normal a w := by
  intro listed t μ a w hsz hr hs hrel
  refine ⟨s', μ, hrel.ext fun l => (hs l).trans ?_, hQ⟩
  have h1 : same (appl (fun i => listed.getD (m + i) true) 0 esB s2) (appl (fun j => decide (j < 0 + esB.length)) 0 esB s2) l := appl_same (same.refl _ _) (fun j e hj _ => by
   have hjl := (List.getElem?_eq_some_iff.1 hj).1
   rw [ready_done hback hsz hr (m + (0 + j)) (by omega)]
   simp; exact hjl)
  rw [appl_upto (Nat.le_refl _), List.take_length, ← hfinB] at h1
  exact h1
 have hset : ∀ (listed : Array Bool) i, listed.size = ops.length → i < ops.length → ∀ j, (listed.setIfInBounds i true).getD j true = (if j = i then true else listed.getD j true) := by
  intro listed i hsz h1 j
  rw [Array.getD_eq_getD_getElem?, Array.getD_eq_getD_getElem?]
  by_cases h6 : j = i
  ·subst h6; rw [if_pos rfl]; simp [h1, hsz]
  ·rw [if_neg h6, Array.getElem?_setIfInBounds_ne (Ne.symm h6)]
 intro fuel
 induction fuel with
 | zero =>
  intro listed t μ a w hsz hcnt hcl hs hrel
  have hr : Region.ready .any ops.toArray listed = [] := by
   rw [List.eq_nil_iff_forall_not_mem]
   intro i hi
   obtain ⟨h1, h2, _⟩ := ready_iff.1 hi
   have : 0 < (List.range ops.length).countP (fun i => !listed.getD i true) := List.countP_pos_iff.2 ⟨i, by simpa using h1, by simp [h2]⟩
   omega
  refine ⟨hr, ?_⟩
  have hall := ready_done hback hsz hr
  rcases hs with ⟨h1, h2⟩ | ⟨h1, h2⟩
  ·have h0 : esB.length = 0 := by
    rcases Nat.eq_zero_or_pos (ops.length - m) with h | h
    ·omega
    ·have := h1 m (Nat.le_refl _) (by omega)
     rw [hall m (by omega)] at this; cases this
   have h3 := hturn listed t μ a w (fun i hi => hall i (by omega)) h1 h2 hrel
   rw [List.length_eq_zero_iff.1 h0] at hfinB
   exact ⟨s', μ, by rw [hfinB]; exact h3, hQ⟩
  ·exact hend listed t μ a w hsz hr h2 hrel
 | succ fuel ih =>
  intro listed t μ a w hsz hcnt hcl hs hrel
  have hs' : ((∃ i, i < m ∧ listed.getD i true = false) ∧ (∀ i, m ≤ i → i < ops.length → listed.getD i true = false) ∧ ∀ l, same t (appl (fun i => listed.getD i true) 0 esA s0) l) ∨
    ∃ t', Rel Γ t' μ a w ∧ (∀ i, i < m → listed.getD i true = true) ∧ ∀ l, same t' (appl (fun i => listed.getD (m + i) true) 0 esB s2) l := by
   rcases hs with ⟨h1, h2⟩ | ⟨h1, h2⟩
   ·by_cases hex : ∃ i, i < m ∧ listed.getD i true = false
    ·exact .inl ⟨hex, h1, h2⟩
    ·have hall : ∀ i, i < m → listed.getD i true = true := fun i hi => by
      cases hv : listed.getD i true
      ·exact absurd ⟨i, hi, hv⟩ hex
      ·rfl
     refine .inr ⟨s2, hturn listed t μ a w hall h1 h2 hrel, hall, fun l => ?_⟩
     have h3 : same (appl (fun i => listed.getD (m + i) true) 0 esB s2) (appl (fun j => decide (j < 0 + 0)) 0 esB s2) l := appl_same (same.refl _ _) (fun j e hj _ => by
      have hjl := (List.getElem?_eq_some_iff.1 hj).1
      rw [h1 (m + (0 + j)) (by omega) (by omega)]
      simp)
     rw [appl_upto (Nat.zero_le _)] at h3
     exact h3.symm
   ·exact .inr ⟨t, hrel, h1, h2⟩
  clear hs
  have hcount : ∀ i, i < ops.length → listed.getD i true = false → (List.range ops.length).countP (fun j => !(listed.setIfInBounds i true).getD j true) ≤ fuel := by
   intro i h1 h2
   have h7 : (List.range ops.length).countP (fun j => !(listed.setIfInBounds i true).getD j true) = (List.range ops.length).countP (fun j => !listed.getD j true && decide (j ≠ i)) := by
    refine List.countP_congr fun j _ => ?_
    rw [hset listed i hsz h1 j]
    by_cases h8 : j = i <;> simp [h8]
   have h6 := countP_lt (fun j => !listed.getD j true) i (List.range ops.length) (by simpa using h1) (by simp [h2])
   rw [h7]
   omega
  have hpre : ∀ i, (∀ e ∈ (ops.map aft).getD i [], listed.getD e false = true) → i < ops.length → ∀ e ∈ (ops.map aft).getD i [], listed.getD e true = true := by
   intro i h3 h1 e he
   have h6 := h3 e he
   have := hback i e he
   rw [Array.getD_eq_getD_getElem?, Array.getElem?_eq_getElem (by omega)] at h6 ⊢
   simpa using h6
  have hcl' : ∀ i, i < ops.length → (∀ e ∈ (ops.map aft).getD i [], listed.getD e true = true) → ∀ j, j < ops.length → (listed.setIfInBounds i true).getD j true = true → ∀ e ∈ (ops.map aft).getD j [], (listed.setIfInBounds i true).getD e true = true := by
   intro i h1 hp j hj hv e' he'
   rw [hset listed i hsz h1] at hv ⊢
   by_cases h6 : e' = i
   ·rw [if_pos h6]
   ·rw [if_neg h6]
    by_cases h7 : j = i
    ·subst h7; exact hp e' he'
    ·rw [if_neg h7] at hv; exact hcl j hj hv e' he'
  rcases hs' with ⟨⟨i0, hi0, hv0⟩, hlate, hs⟩ | ⟨t', hrel', hall, hs⟩
  ·refine ⟨fun hr => ?_, fun i hi => ?_⟩
   ·rw [ready_done hback hsz hr i0 (by omega)] at hv0; cases hv0
   ·obtain ⟨h1, h2, h3⟩ := ready_iff.1 hi
    have hp := hpre i h3 h1
    have him : i < m := by
     rcases Nat.lt_or_ge i m with h | h
     ·exact h
     ·have h4 := List.all_eq_true.1 hbar i (by simpa using h1)
      rw [show Nat.blt i m = false by cases hb : Nat.blt i m; rfl; simp [Nat.blt_eq] at hb; omega, Bool.false_or] at h4
      have h5 := List.all_eq_true.1 h4 i0 (by simpa using hi0)
      have := hclos listed hcl i h1 hp i0 (by simpa using h5)
      rw [this] at hv0; cases hv0
    have hget : ops[i]? = some ops[i] := List.getElem?_eq_getElem h1
    obtain ⟨e, h4, h5⟩ := hcA.at_ (i := i) (o := ops[i]) (by rw [List.getElem?_take_of_lt him]; exact hget)
    obtain ⟨hag, hnx⟩ := phase_step (L := fun i => listed.getD i true) (L' := fun j => (listed.setIfInBounds i true).getD j true) h4 h2 (hset listed i hsz h1) (fun j e' hj he' => by
      rcases hconfA j i e' e hj he' h4 with h7 | h7
      ·exact .inl (hclos listed hcl i h1 hp j (by simpa using h7))
      ·exact .inr h7) (fun j e' hj he' => by
      have hjl : j < m := by rw [← hlenA]; exact (List.getElem?_eq_some_iff.1 he').1
      rcases hconfA i j e e' hj h4 he' with h7 | h7
      ·cases hv : listed.getD j true
       ·exact .inl rfl
       ·have := hclos listed hcl j (by omega) (hcl j (by omega) hv) i (by simpa using h7)
        rw [h2] at this; cases this
      ·exact .inr h7) hs
    have hnext : ∀ μ' a' w', Rel Γ (t.do_ e) μ' a' w' → wpAnyIn Γ.F 0 P .any ops.toArray (AK Γ Q) fuel (listed.setIfInBounds i true) a' w' := fun μ' a' w' hr' =>
     ih _ (t.do_ e) μ' a' w' (by simpa using hsz) (hcount i h1 h2) (hcl' i h1 hp) (.inl ⟨fun j hj hjl => by rw [hset listed i hsz h1, if_neg (by omega)]; exact hlate j hj hjl, hnx⟩) hr'
    unfold wpOpIn
    simp only [List.getElem?_toArray, hget]
    have := h5 t hag (AK Γ Q) μ a w hrel (wpAnyIn Γ.F 0 P .any ops.toArray (AK Γ Q) fuel (listed.setIfInBounds i true)) hnext
    rw [wanted_take (fun j b hg => by
     have h8 := List.all_eq_true.1 hgd ops[i] (List.mem_of_getElem? (i := i) (by rw [List.getElem?_take_of_lt him]; exact hget))
     rw [hg] at h8
     simpa [Nat.blt_eq] using h8)] at this
    split
    ·rename_i hw'; rw [if_pos hw'] at this; exact up_in (nodef_at hnd hget) this
    ·rename_i hw'; rw [if_neg hw'] at this; exact ⟨fun _ _ => trivial, this⟩
  ·refine ⟨fun hr => hend listed t' μ a w hsz hr hs hrel', fun i hi => ?_⟩
   obtain ⟨h1, h2, h3⟩ := ready_iff.1 hi
   have hp := hpre i h3 h1
   have him : m ≤ i := by
    rcases Nat.lt_or_ge i m with h | h
    ·rw [hall i h] at h2; cases h2
    ·exact h
   obtain ⟨q, rfl⟩ : ∃ q, i = m + q := ⟨i - m, by omega⟩
   have hget : ops[m + q]? = some ops[m + q] := List.getElem?_eq_getElem h1
   obtain ⟨e, h4, h5⟩ := hcB.at_ (i := q) (o := ops[m + q]) (by rw [List.getElem?_drop]; exact hget)
   obtain ⟨hag, hnx⟩ := phase_step (L := fun i => listed.getD (m + i) true) (L' := fun j => (listed.setIfInBounds (m + q) true).getD (m + j) true) h4 h2 (fun j => by
     rw [hset listed (m + q) hsz h1]
     by_cases h6 : j = q
     ·subst h6; simp
     ·rw [if_neg (by omega), if_neg h6]) (fun j e' hj he' => by
     rcases hconfB j q e' e hj he' h4 with h7 | h7
     ·exact .inl (hclos listed hcl (m + q) h1 hp (m + j) (by simpa using h7))
     ·exact .inr h7) (fun j e' hj he' => by
     have hjl : j < ops.length - m := by rw [← hlenB]; exact (List.getElem?_eq_some_iff.1 he').1
     rcases hconfB q j e e' hj h4 he' with h7 | h7
     ·cases hv : listed.getD (m + j) true
      ·exact .inl rfl
      ·have := hclos listed hcl (m + j) (by omega) (hcl (m + j) (by omega) hv) (m + q) (by simpa using h7)
       rw [h2] at this; cases this
     ·exact .inr h7) hs
   have hnext : ∀ μ' a' w', Rel Γ (t'.do_ e) μ' a' w' → wpAnyIn Γ.F 0 P .any ops.toArray (AK Γ Q) fuel (listed.setIfInBounds (m + q) true) a' w' := fun μ' a' w' hr' =>
    ih _ (t'.do_ e) μ' a' w' (by simpa using hsz) (hcount (m + q) h1 h2) (hcl' (m + q) h1 hp) (.inr ⟨fun j hj => by rw [hset listed (m + q) hsz h1, if_neg (by omega)]; exact hall j hj, hnx⟩) hr'
   unfold wpOpIn
   simp only [List.getElem?_toArray, hget]
   have := h5 t' hag (AK Γ Q) μ a w hrel' (wpAnyIn Γ.F 0 P .any ops.toArray (AK Γ Q) fuel (listed.setIfInBounds (m + q) true)) hnext
   split
   ·rename_i hw'; rw [if_pos hw'] at this; exact up_in (nodef_at hnd hget) this
   ·rename_i hw'; rw [if_neg hw'] at this; exact ⟨fun _ _ => trivial, this⟩
theorem a_draw2 (m : Nat) {id : Nat} (hm : P.follows .mixedOrders = true) (hb : barr ops m = true) (h : DR P Γ (ops.take m) (ops.take m) [] (fun _ s1 => ∃ s2, Weak Γ s1 s2 ∧ DR P Γ ops (ops.drop m) (List.replicate m ⟨[], [], []⟩) Q s2) s) (hnd : nodef ops = true := by rfl) : AWP P Γ (.region id ops.toArray true) Q s := by
 obtain ⟨esA, s1, hcA, hokA, s2, hw, esB, s', hcB, hokB, hQ⟩ := h.out
 obtain ⟨h⟩ := h
 refine ⟨fun μ a w hr => wpIn_region_any hm ?_⟩
 have hr' : Rel Γ s μ a w.drew := hr.world ((Below.refl _ w).drew)
 refine draw_ok2 hb hcA (by simpa using hokA) hw hcB hnd hokB hQ _ _ s μ a w.drew (by simp) (Nat.le_trans List.countP_le_length (by simp)) (fun i hi hl => ?_) (.inl ⟨fun i _ hi => ?_, fun l => ?_⟩) hr'
 ·exfalso
  simp [hi] at hl
 ·simp [hi]
 ·have hml : m ≤ ops.length := by
   simp only [barr, Bool.and_eq_true, Nat.ble_eq] at hb
   exact hb.1.1
  have h1 : same (appl (fun i => (Array.replicate ops.toArray.size false).getD i true) 0 esA s) (appl (fun j => decide (j < 0 + 0)) 0 esA s) l := appl_same (same.refl _ _) (fun j e hj _ => by
   have hjl : j < (ops.take m).length := by rw [← hcA.final.2]; exact (List.getElem?_eq_some_iff.1 hj).1
   rw [List.length_take, Nat.min_eq_left hml] at hjl
   have hjo : j < ops.length := by omega
   simp [hjo])
  rw [appl_upto (Nat.zero_le _)] at h1
  exact h1.symm
end
end Go.Proofs.Ytlgbadlgfdlheaa
namespace Go.Proofs.Ytlgbadlgfdlheaa
open Go.RowKit

def rho (l : List Nat) (b : Nat) (i : Nat) : Nat := match nth l i with
 | some x => x
 | none => b + i
def injB (ρ : Nat → Nat) : List Nat → Bool
 | [] => true
 | x :: l => l.all (fun y => Nat.beq x y || !Nat.beq (ρ x) (ρ y)) && injB ρ l
theorem injB_inj {ρ : Nat → Nat} : ∀ {l : List Nat}, injB ρ l = true → ∀ x ∈ l, ∀ y ∈ l, ρ x = ρ y → x = y
 | [], _, x, hx, _, _, _ => by cases hx
 | a :: l, h, x, hx, y, hy, e => by
  simp only [injB, Bool.and_eq_true] at h
  have key : ∀ z ∈ l, ρ a = ρ z → a = z := by
   intro z hz hr
   have := List.all_eq_true.1 h.1 z hz
   simp only [Bool.or_eq_true, Nat.beq_eq, Bool.not_eq_true'] at this
   rcases this with h1 | h1
   ·exact h1
   ·rw [hr, Nat.beq_refl] at h1; cases h1
  rcases List.mem_cons.1 hx with hx1 | hx1
  ·rcases List.mem_cons.1 hy with hy1 | hy1
   ·rw [hx1, hy1]
   ·rw [hx1]; exact key y hy1 (by rw [← hx1]; exact e)
  ·rcases List.mem_cons.1 hy with hy1 | hy1
   ·rw [hy1]; exact (key x hx1 (by rw [← hy1]; exact e.symm)).symm
   ·exact injB_inj h.2 x hx1 y hy1 e
def Pass (ρ : Nat → Nat) (s : ASt) : Store → Prop
 | [] => True
 | (id, o) :: l => (∃ o', find s.σ (ρ id) = some o' ∧ o' = renO ρ o) ∧ Pass ρ s l
theorem Pass.at_ {ρ : Nat → Nat} {s : ASt} : ∀ {l : Store}, Pass ρ s l → ∀ {id : Nat} {o : SObj}, find l id = some o → find s.σ (ρ id) = some (renO ρ o)
 | [], _, id, o, h => by simp [find] at h
 | (k, x) :: l, ⟨⟨o', h1, h2⟩, h3⟩, id, o, hf => by
  rw [find_cons] at hf
  split at hf
  ·rename_i e; subst e; injection hf with hf; subst hf; rw [h1, h2]
  ·exact h3.at_ hf
def objs (ρ : Nat → Nat) (σ : Store) : List Loc := σ.map fun p => .obj (ρ p.1)
section
variable {P : Program} {Γ : Ctx} {Q : Exit → ASt → Prop} {s t : ASt} {μ : Nat → Value} {w : World} {a : Act}
theorem Agree.objs {ρ : Nat → Nat} : ∀ {σ : Store} {R : List Loc}, Agree s t (objs ρ σ ++ R) → (∀ id o, find σ id = some o → find t.σ (ρ id) = find s.σ (ρ id)) ∧ Agree s t R
 | [], R, h => ⟨fun id o hf => by simp [find] at hf, h⟩
 | (k, x) :: σ, R, h => by
  obtain ⟨h1, h2⟩ := h
  obtain ⟨h3, h4⟩ := Agree.objs (σ := σ) h2
  refine ⟨fun id o hf => ?_, h4⟩
  rw [find_cons] at hf
  split at hf
  ·rename_i e; subst e; exact h1
  ·exact h3 id o hf
theorem find_map_ren {ρ : Nat → Nat} : ∀ {σ : Store}, injB ρ (σ.map Prod.fst) = true → ∀ {id : Nat} {o : SObj}, find σ id = some o → find (σ.map fun p => (ρ p.1, renO ρ p.2)) (ρ id) = some (renO ρ o)
 | [], _, id, o, h => by simp [find] at h
 | (k, x) :: σ, hi, id, o, h => by
  rw [List.map_cons, find_cons]
  rw [find_cons] at h
  by_cases e : k = id
  ·subst e
   rw [if_pos rfl] at h ⊢
   injection h with h; subst h; rfl
  ·rw [if_neg e] at h
   have hne : ¬ ρ k = ρ id := fun h2 => e (injB_inj hi k (by simp) id (by
    rw [List.map_cons, List.mem_cons]
    exact .inr (find_some_iff.2 ⟨o, h⟩)) h2)
   rw [if_neg hne]
   simp only [List.map_cons, injB, Bool.and_eq_true] at hi
   exact find_map_ren hi.2 h
def inv (ρ : Nat → Nat) (σ : Store) (i : Nat) : Option Nat := find (σ.map fun p => (ρ p.1, p.1)) i
theorem inv_some {ρ : Nat → Nat} : ∀ {σ : Store} {i j : Nat}, inv ρ σ i = some j → i = ρ j ∧ has σ j = true
 | [], i, j, h => by simp [inv, find] at h
 | (k, x) :: σ, i, j, h => by
  simp only [inv, List.map_cons, find_cons] at h
  split at h
  ·rename_i e; injection h with h; subst h; exact ⟨e.symm, by simp [has, find_cons]⟩
  ·obtain ⟨h1, h2⟩ := inv_some (σ := σ) h
   refine ⟨h1, ?_⟩
   obtain ⟨o, ho⟩ := has_iff h2
   unfold has
   rw [find_cons]
   by_cases e2 : k = j
   ·rw [if_pos e2]
   ·rw [if_neg e2, ho]
theorem inv_none {ρ : Nat → Nat} : ∀ {σ : Store} {i : Nat}, inv ρ σ i = none → (∀ j, has σ j = true → ρ j ≠ i) ∧ find (σ.map fun p => (ρ p.1, renO ρ p.2)) i = none
 | [], i, _ => ⟨fun j h => by simp [has, find] at h, by simp [find]⟩
 | (k, x) :: σ, i, h => by
  simp only [inv, List.map_cons, find_cons] at h
  split at h
  ·cases h
  ·rename_i e
   obtain ⟨h1, h2⟩ := inv_none (σ := σ) h
   refine ⟨fun j hj => ?_, by rw [List.map_cons, find_cons, if_neg e]; exact h2⟩
   unfold has at hj
   rw [find_cons] at hj
   by_cases e2 : k = j
   ·subst e2; exact e
   ·rw [if_neg e2] at hj; exact h1 j hj
theorem has_of {σ : Store} {id : Nat} {o : SObj} (h : find σ id = some o) : has σ id = true := by simp [has, h]
variable {dst : Option Tmp} {ty : TypeId} {pos : String} {after : Array Edge}
theorem call_core {o : Oper} {t : ASt} {a : Act} {f : FuncId} {vs us : List AV} {ys : List Value} {r : AV} {σc σc' : Store} (l : List Nat) (b : Nat) (h : ∀ (M : Nat → Prop) (μ : Nat → Value) (vs : List Value), (∀ b, Γ.M b → M b) → SRel σc μ w M → repL σc μ w (av σc μ M) us vs → Calls P f vs.toArray w fun e w' => ∃ y μ', e = .returned y ∧ SRel σc' μ' w' M ∧ rep σc' μ' w' (av σc' μ' M) r y ∧ Gro σc μ w σc' μ' w') (hr : Rel Γ t μ a w) (hys : repL t.σ μ w (av t.σ μ Γ.M) vs ys) (hn : NilL vs (us.map (renB (rho l b)))) (hcl : us.all (closB σc) = true)
  (hp : ∀ id o, find σc id = some o → find t.σ (rho l b id) = some (renO (rho l b) o)) (hfr : ∀ id o, find σc' id = some o → has σc id = true ∨ find t.σ (rho l b id) = none)
  (hco : σc.all (fun p => closO σc p.2) = true) (hinj : injB (rho l b) (σc.map Prod.fst) = true) (hinj' : injB (rho l b) (σc'.map Prod.fst) = true)
  (hcr : closA σc' r = true) (hco' : σc'.all (fun p => closO σc' p.2) = true) (hd : okDst Γ.n o.dst = true) (hrun : (execOp a.eval o).run P w = .ok (.enter f ys.toArray) w)
  {Q : Exit → Act → World → Prop} {K : Act → World → Prop} (hK : ∀ μ' a' w', Rel Γ (t.eff (dst1 o.dst (renA (rho l b) r)) (σc'.map fun p => (rho l b p.1, renO (rho l b) p.2))) μ' a' w' → K a' w') : o.wp P a w K Q := by
 generalize hρ : rho l b = ρ at *
 have hsrel := hr.store
 have hinto : Into ρ σc (fun i => μ (ρ i)) t.σ μ := ⟨hp, fun _ _ _ => rfl⟩
 obtain ⟨Mc, hMc⟩ : ∃ Mc : Nat → Prop, Mc = fun b => Γ.M b ∨ ∃ id o, find t.σ id = some o ∧ blk (μ id) = some b ∧ ∀ i, has σc i = true → ρ i ≠ id := ⟨_, rfl⟩
 have hav : ∀ b, ¬ av t.σ μ Γ.M b → ¬ av σc (fun i => μ (ρ i)) Mc b := by
  intro b hb hc
  rcases hc with hc | ⟨id, o, h2, h3⟩
  ·rw [hMc] at hc
   rcases hc with hc | ⟨id, o, h2, h3, _⟩
   ·exact hb (.inl hc)
   ·exact hb (.inr ⟨id, o, h2, h3⟩)
  ·exact hb (.inr ⟨ρ id, _, hp id o h2, h3⟩)
 have hsc : SRel σc (fun i => μ (ρ i)) w Mc := by
  refine ⟨fun id o hf => ?_, fun id id' o o' g h2 h3 h4 h5 => ?_, fun b hb => ?_, fun id o b h2 h3 hc => ?_⟩
  ·have h2 := hsrel.obj _ _ (hp id o hf)
   have h3 := List.all_eq_true.1 hco _ (find_mem hf)
   cases o with
   | box bt cs =>
    obtain ⟨g, us', h4, h5, h6⟩ := h2
    exact ⟨g, us', h4, h5, repC_back hinto hav h3 h6⟩
   | row e size xs =>
    obtain ⟨us', h4, h5⟩ := h2
    exact ⟨us', h4, repLL_mono (Step.same_world hav) h5⟩
   | mp es => exact h2
   | dead => exact h2
  ·have := hsrel.inj _ _ _ _ g (hp id o h2) (hp id' o' h3) h4 h5
   exact injB_inj hinj id (find_some_iff.2 ⟨o, h2⟩) id' (find_some_iff.2 ⟨o', h3⟩) this
  ·rw [hMc] at hb
   rcases hb with hb | ⟨id, o, h2, h3, _⟩
   ·exact hsrel.lt b hb
   ·exact ObjRel.lt hsrel h2 h3
  ·rw [hMc] at hc
   rcases hc with hc | ⟨id', o', h4, h5, h6⟩
   ·exact hsrel.dis _ _ b (hp id o h2) h3 hc
   ·exact h6 id (has_of h2) (hsrel.inj _ _ _ _ b (hp id o h2) h4 h3 h5)
 have hargs2 : repL σc (fun i => μ (ρ i)) w (av σc (fun i => μ (ρ i)) Mc) us ys := repL_back_B hinto hav hcl (repL_nil hn hys)
 have h3 := h Mc _ _ (fun b hb => by rw [hMc]; exact .inl hb) hsc hargs2
 unfold Oper.wp
 rw [hrun]
 refine Calls.mono h3 ?_
 rintro e w' ⟨y, μ', rfl, hs', hry, hg⟩
 obtain ⟨μ'', hμ''⟩ : ∃ μ'' : Nat → Value, μ'' = fun i => match inv ρ σc' i with | some j => μ' j | none => μ i := ⟨_, rfl⟩
 have hμs : ∀ i j, inv ρ σc' i = some j → μ'' i = μ' j := fun i j h => by rw [hμ'']; simp only [h]
 have hμn : ∀ i, inv ρ σc' i = none → μ'' i = μ i := fun i h => by rw [hμ'']; simp only [h]
 have hkeep : ∀ i, has σc i = true → has σc' i = true := by
  intro i hi
  obtain ⟨o, ho⟩ := has_iff hi
  cases o with
  | box bt cs => obtain ⟨cs', h4, _⟩ := hg.box i bt cs ho; exact has_of h4
  | row e size xs =>
   rcases hg.row i e size xs ho with h4 | ⟨xs', h4, _⟩
   ·exact has_of h4
   ·exact has_of h4
  | mp es => obtain ⟨es', h4, _⟩ := hg.mp i es ho; exact has_of h4
  | dead => exact has_of (hg.dead i ho)
 have hinv : ∀ j, has σc' j = true → inv ρ σc' (ρ j) = some j := by
  intro j hj
  cases hv : inv ρ σc' (ρ j) with
  | none => exact absurd rfl ((inv_none hv).1 j hj)
  | some j' =>
   obtain ⟨h4, h5⟩ := inv_some hv
   obtain ⟨o, ho⟩ := has_iff hj
   obtain ⟨o', ho'⟩ := has_iff h5
   rw [injB_inj hinj' j (find_some_iff.2 ⟨o, ho⟩) j' (find_some_iff.2 ⟨o', ho'⟩) h4]
 obtain ⟨σ'', hσ''⟩ : ∃ σ'' : Store, σ'' = (σc'.map fun p => (ρ p.1, renO ρ p.2)) ++ t.σ := ⟨_, rfl⟩
 have hfs : ∀ i j o, inv ρ σc' i = some j → find σc' j = some o → find σ'' i = some (renO ρ o) := by
  intro i j o h4 h5
  obtain ⟨rfl, _⟩ := inv_some h4
  rw [hσ'', find_app, find_map_ren hinj' h5]
 have hfn : ∀ i, inv ρ σc' i = none → find σ'' i = find t.σ i := by
  intro i h4
  rw [hσ'', find_app, (inv_none h4).2]
 have hinto' : Into ρ σc' μ' σ'' μ'' := ⟨fun id o hf => hfs _ _ _ (hinv id (has_of hf)) hf, fun id o hf => hμs _ _ (hinv id (has_of hf))⟩
 have hfs' : ∀ i j o, inv ρ σc' i = some j → find σ'' i = some o → ∃ o', find σc' j = some o' ∧ o = renO ρ o' := by
  intro i j o h4 h5
  obtain ⟨_, h6⟩ := inv_some h4
  obtain ⟨o', ho'⟩ := has_iff h6
  rw [hfs i j o' h4 ho'] at h5
  injection h5 with h5
  exact ⟨o', ho', h5.symm⟩
 have hav' : ∀ b, ¬ av σc' μ' Mc b → ¬ av σ'' μ'' Γ.M b := by
  intro b hb hc
  rcases hc with hc | ⟨id, o, h4, h5⟩
  ·exact hb (.inl (by rw [hMc]; exact .inl hc))
  ·cases hv : inv ρ σc' id with
   | some j =>
    obtain ⟨o', h6, _⟩ := hfs' id j o hv h4
    rw [hμs id j hv] at h5
    exact hb (.inr ⟨j, o', h6, h5⟩)
   | none =>
    rw [hfn id hv] at h4
    rw [hμn id hv] at h5
    exact hb (.inl (by rw [hMc]; exact .inr ⟨id, o, h4, h5, fun i hi => (inv_none hv).1 i (hkeep i hi)⟩))
 have hgro : Gro t.σ μ w σ'' μ'' w' := by
  refine ⟨hg.os, hg.tape, hg.output, hg.size, fun b hl hn => hg.same b hl (fun id o hf => hn _ _ (hp id o hf)), fun id o b hf hb hl => ?_, fun id bt cs hf => ?_, fun id e size xs hf => ?_, fun id es hf => ?_, fun id hf => ?_⟩
  ·cases hv : inv ρ σc' id with
   | some j =>
    obtain ⟨o', h6, _⟩ := hfs' id j o hv hf
    rw [hμs id j hv] at hb
    obtain ⟨id0, o0, h7, h8⟩ := hg.fresh j o' b h6 hb hl
    exact ⟨ρ id0, _, hp id0 o0 h7, h8⟩
   | none =>
    rw [hfn id hv] at hf
    rw [hμn id hv] at hb
    exact ⟨id, o, hf, hb⟩
  ·cases hv : inv ρ σc' id with
   | some j =>
    obtain ⟨rfl, h5⟩ := inv_some hv
    obtain ⟨o', ho'⟩ := has_iff h5
    rcases hfr j o' ho' with h6 | h6
    ·obtain ⟨oc, hoc⟩ := has_iff h6
     have h7 := hp j oc hoc
     rw [hf] at h7; injection h7 with h7
     cases oc with
     | row _ _ _ => cases h7
     | mp _ => cases h7
     | dead => cases h7
     | box bt0 cs0 =>
      simp only [renO] at h7
      injection h7 with h8 h9; subst h8 h9
      obtain ⟨cs', h10, h11, h12⟩ := hg.box j _ _ hoc
      exact ⟨_, hfs _ j _ hv h10, by simp [h11], (hμs _ j hv).trans h12⟩
    ·rw [hf] at h6; cases h6
   | none => exact ⟨cs, by rw [hfn id hv]; exact hf, rfl, hμn id hv⟩
  ·cases hv : inv ρ σc' id with
   | some j =>
    obtain ⟨rfl, h5⟩ := inv_some hv
    obtain ⟨o', ho'⟩ := has_iff h5
    rcases hfr j o' ho' with h6 | h6
    ·obtain ⟨oc, hoc⟩ := has_iff h6
     have h7 := hp j oc hoc
     rw [hf] at h7; injection h7 with h7
     cases oc with
     | box _ _ => cases h7
     | mp _ => cases h7
     | dead => cases h7
     | row e0 n0 xs0 =>
      simp only [renO] at h7
      injection h7 with h8 h9 h10; subst h8 h9 h10
      rcases hg.row j _ _ _ hoc with hd | ⟨xs', h10, h11, h12⟩
      ·exact .inl (hfs _ j _ hv hd)
      exact .inr ⟨_, hfs _ j _ hv h10, h11, fun hl => (hμs _ j hv).trans (h12 hl)⟩
    ·rw [hf] at h6; cases h6
   | none => exact .inr ⟨xs, by rw [hfn id hv]; exact hf, Nat.le_refl _, fun _ => hμn id hv⟩
  ·cases hv : inv ρ σc' id with
   | some j =>
    obtain ⟨rfl, h5⟩ := inv_some hv
    obtain ⟨o', ho'⟩ := has_iff h5
    rcases hfr j o' ho' with h6 | h6
    ·obtain ⟨oc, hoc⟩ := has_iff h6
     have h7 := hp j oc hoc
     rw [hf] at h7; injection h7 with h7
     cases oc with
     | box _ _ => cases h7
     | row _ _ _ => cases h7
     | dead => cases h7
     | mp es0 =>
      obtain ⟨es', h10, h12⟩ := hg.mp j _ hoc
      exact ⟨es', hfs _ j _ hv h10, (hμs _ j hv).trans h12⟩
    ·rw [hf] at h6; cases h6
   | none => exact ⟨es, by rw [hfn id hv]; exact hf, hμn id hv⟩
  ·cases hv : inv ρ σc' id with
   | some j =>
    obtain ⟨rfl, h5⟩ := inv_some hv
    obtain ⟨o', ho'⟩ := has_iff h5
    rcases hfr j o' ho' with h6 | h6
    ·obtain ⟨oc, hoc⟩ := has_iff h6
     have h7 := hp j oc hoc
     rw [hf] at h7; injection h7 with h7
     cases oc with
     | box _ _ => cases h7
     | row _ _ _ => cases h7
     | mp _ => cases h7
     | dead => exact hfs _ j _ hv (hg.dead j hoc)
    ·rw [hf] at h6; cases h6
   | none => rw [hfn id hv]; exact hf
 have hst : Step t.σ μ w (av t.σ μ Γ.M) σ'' μ'' w' (av σ'' μ'' Γ.M) := hgro.step
 have hkeepblk : ∀ id o b, inv ρ σc' id = none → find t.σ id = some o → blk (μ id) = some b → w'.heap[b]? = w.heap[b]? := by
  intro id o b hv hf hb
  refine hg.same b (ObjRel.lt hsrel hf hb) (fun id' o' hf' hb' => ?_)
  exact (inv_none hv).1 id' (hkeep id' (has_of hf')) (hsrel.inj _ _ _ _ b (hp id' o' hf') hf hb' hb)
 have hsrel'' : SRel σ'' μ'' w' Γ.M := by
  refine ⟨fun id o hf => ?_, fun id id' o o' g h4 h5 h6 h7 => ?_, fun b hb => Nat.lt_of_lt_of_le (hsrel.lt b hb) hg.size, fun id o b h4 h5 hc => ?_⟩
  ·cases hv : inv ρ σc' id with
   | some j =>
    obtain ⟨o', h6, rfl⟩ := hfs' id j o hv hf
    have h7 := hs'.obj j o' h6
    have h8 := List.all_eq_true.1 hco' _ (find_mem h6)
    cases o' with
    | box bt cs =>
     obtain ⟨g, us', h9, h10, h11⟩ := h7
     exact ⟨g, us', (hμs id j hv).trans h9, h10, repC_ren hinto' hav' h8 h11⟩
    | row e size xs =>
     obtain ⟨us', h9, h10⟩ := h7
     refine ⟨us', by rw [hμs id j hv]; exact h9, repLL_mono (Step.same_world hav') h10⟩
    | mp es =>
     obtain ⟨g, v, ob, h9, hb2, h10, h11⟩ := h7
     exact ⟨g, v, ob, (hμs id j hv).trans h9, hb2, h10, h11⟩
    | dead => exact (congrArg blk (hμs id j hv)).trans h7
   | none =>
    rw [hfn id hv] at hf
    have h7 := hsrel.obj id o hf
    cases o with
    | box bt cs =>
     obtain ⟨g, us', h9, h10, h11⟩ := h7
     exact ⟨g, us', (hμn id hv).trans h9, (hkeepblk id _ g hv hf (by rw [h9]; rfl)).trans h10, repC_mono hst h11⟩
    | row e size xs =>
     obtain ⟨us', h9, h10⟩ := h7
     refine ⟨us', ⟨h9.1, ?_⟩, repLL_mono hst.pure h10⟩
     rw [hμn id hv]
     rcases h9.2 with h11 | ⟨g, cap, cur, h11, h12, h13, h14⟩
     ·exact .inl h11
     ·exact .inr ⟨g, cap, cur, h11, h12, h13.tr (hkeepblk id _ g hv hf (by rw [h11]; rfl)), h14⟩
    | mp es =>
     obtain ⟨g, v, ob, h9, hb2, h10, h11⟩ := h7
     exact ⟨g, v, ob, (hμn id hv).trans h9, hb2, (hkeepblk id _ g hv hf (by rw [h9]; exact hb2)).trans h10, h11⟩
    | dead => exact (congrArg blk (hμn id hv)).trans h7
  ·cases hv : inv ρ σc' id with
   | some j =>
    obtain ⟨o1, h8, _⟩ := hfs' id j o hv h4
    rw [hμs id j hv] at h6
    cases hv' : inv ρ σc' id' with
    | some j' =>
     obtain ⟨o2, h9, _⟩ := hfs' id' j' o' hv' h5
     rw [hμs id' j' hv'] at h7
     rw [(inv_some hv).1, (inv_some hv').1, hs'.inj j j' o1 o2 g h8 h9 h6 h7]
    | none =>
     rw [hfn id' hv'] at h5
     rw [hμn id' hv'] at h7
     exact (hs'.dis j o1 g h8 h6 (by rw [hMc]; exact .inr ⟨id', o', h5, h7, fun i hi => (inv_none hv').1 i (hkeep i hi)⟩)).elim
   | none =>
    rw [hfn id hv] at h4
    rw [hμn id hv] at h6
    cases hv' : inv ρ σc' id' with
    | some j' =>
     obtain ⟨o2, h9, _⟩ := hfs' id' j' o' hv' h5
     rw [hμs id' j' hv'] at h7
     exact (hs'.dis j' o2 g h9 h7 (by rw [hMc]; exact .inr ⟨id, o, h4, h6, fun i hi => (inv_none hv).1 i (hkeep i hi)⟩)).elim
    | none =>
     rw [hfn id' hv'] at h5
     rw [hμn id' hv'] at h7
     exact hsrel.inj id id' o o' g h4 h5 h6 h7
  ·cases hv : inv ρ σc' id with
   | some j =>
    obtain ⟨o1, h8, _⟩ := hfs' id j o hv h4
    rw [hμs id j hv] at h5
    exact hs'.dis j o1 b h8 h5 (by rw [hMc]; exact .inl hc)
   | none =>
    rw [hfn id hv] at h4
    rw [hμn id hv] at h5
    exact hsrel.dis id o b h4 h5 hc
 have hrel2 := hr.goes hgro hsrel''
 have hfin := hrel2.put hd (x := renA ρ r) (y := y) (rep_ren hinto' hav' hcr hry)
 refine hK μ'' _ _ ?_
 subst hσ''
 exact hfin
theorem pass_fresh {s t : ASt} {l : List Nat} {b : Nat} {σc σc' : Store} {R : List Loc} (hag : Agree s t (objs (rho l b) σc ++ (objs (rho l b) σc' ++ R))) (hpass : Pass (rho l b) s σc) (hnew : σc'.all (fun p => has σc p.1 || !has s.σ (rho l b p.1)) = true) :
  (∀ id o, find σc id = some o → find t.σ (rho l b id) = some (renO (rho l b) o)) ∧ ∀ id o, find σc' id = some o → has σc id = true ∨ find t.σ (rho l b id) = none := by
 obtain ⟨hag, ht⟩ := hag.objs
 obtain ⟨hag', _⟩ := ht.objs
 refine ⟨fun id o hf => (hag id o hf).trans (hpass.at_ hf), ?_⟩
 intro id o hf
 have h2 := List.all_eq_true.1 hnew _ (find_mem hf)
 simp only [Bool.or_eq_true, Bool.not_eq_true'] at h2
 rcases h2 with h2 | h2
 ·exact .inl h2
 ·right
  rw [hag' id o hf]
  unfold has at h2
  split at h2
  ·cases h2
  ·assumption
theorem ls_callA {f : FuncId} {args : Array Operand} {argTypes : Array TypeId} {c : Operand} {vs us caps : List AV} {r : AV} {σc σc' : Store} (l : List Nat) (b : Nat) (h : AC P f us σc r σc') (hc : ev s c = some (.clo (.func f) [] caps)) (hargs : evL s args.toList = some vs) (hn : NilL (vs ++ caps) (us.map (renB (rho l b)))) (hcl : us.all (closB σc) = true)
  (hpass : Pass (rho l b) s σc) (hco : σc.all (fun p => closO σc p.2) = true) (hinj : injB (rho l b) (σc.map Prod.fst) = true) (hinj' : injB (rho l b) (σc'.map Prod.fst) = true)
  (hnew : σc'.all (fun p => has σc p.1 || !has s.σ (rho l b p.1)) = true) (hcr : closA σc' r = true) (hco' : σc'.all (fun p => closO σc' p.2) = true) (hd : okDst Γ.n dst = true) :
  LS P Γ ⟨dst, .call { callee := .value c, args := args, argTypes := argTypes }, ty, pos, after, none⟩ s (rd c (rdL args.toList (objs (rho l b) σc ++ (objs (rho l b) σc' ++ [])))) (dst1 dst (renA (rho l b) r)) (σc'.map fun p => (rho l b p.1, renO (rho l b) p.2)) := by
 refine ⟨fun t ht Q μ a w hr K hK => ?_⟩
 obtain ⟨h0, ht⟩ := ht.ev hc
 obtain ⟨ks, hks, h0⟩ := hr.callee h0
 obtain ⟨h1, ht⟩ := ht.evL hr hargs
 obtain ⟨hp, hfr⟩ := pass_fresh ht hpass hnew
 exact call_core l b (fun M μ vs _ => h.out w M μ vs) hr (repL_append h1 h0) hn hcl hp hfr hco hinj hinj' hcr hco' hd (run_call h.ok hks) hK
end
end Go.Proofs.Ytlgbadlgfdlheaa
namespace Go.Proofs.Ytlgbadlgfdlheaa
open Go.RowKit
section
variable {P : Program} {Γ : Ctx} {Q Q' : Exit → ASt → Prop} {s : ASt} {σ : Store} {μ : Nat → Value} {w : World} {A : Nat → Prop} {T : List TyI}
variable {dst : Option Tmp} {ty : TypeId} {pos : String} {after : Array Edge}
theorem repLL_take {size : Nat} : ∀ {n : Nat} {xs : List (List AV)} {us : List Value}, repLL σ μ w A size xs us → repLL σ μ w A size (xs.take n) (us.take (n * size))
 | 0, xs, us, h => by simp [repLL]
 | n + 1, [], us, h => by simp only [repLL] at h; subst h; simp [repLL]
 | n + 1, x :: xs, us, h => by
  simp only [repLL] at h
  obtain ⟨u1, u2, rfl, h0, h1, h2⟩ := h
  simp only [List.take_succ_cons, repLL]
  refine ⟨u1, u2.take (n * size), ?_, h0, h1, repLL_take h2⟩
  rw [List.take_append, List.take_of_length_le (by rw [h0, Nat.add_mul]; omega), h0]
  congr 2
  rw [Nat.add_mul]; omega
theorem repLL_drop {size : Nat} : ∀ {n : Nat} {xs : List (List AV)} {us : List Value}, repLL σ μ w A size xs us → repLL σ μ w A size (xs.drop n) (us.drop (n * size))
 | 0, xs, us, h => by simpa using h
 | n + 1, [], us, h => by simp only [repLL] at h; subst h; simp [repLL]
 | n + 1, x :: xs, us, h => by
  simp only [repLL] at h
  obtain ⟨u1, u2, rfl, h0, h1, h2⟩ := h
  have e : (u1 ++ u2).drop ((n + 1) * size) = u2.drop (n * size) := by
   rw [List.drop_append, List.drop_of_length_le (by rw [h0, Nat.add_mul]; omega), h0, List.nil_append]
   congr 1
   rw [Nat.add_mul]; omega
  rw [List.drop_succ_cons, e]
  exact repLL_drop h2
theorem ReadsA.take {ad : Option Addr} {us : List Value} (h : ReadsA w A ad us) (n : Nat) : ReadsA w A ad (us.take n) := by
 rcases h with rfl | ⟨b, off, e, h1, h2, h3⟩
 ·exact .inl (by simp)
 ·refine .inr ⟨b, off, e, h1, h2, fun j u hu => ?_⟩
  rw [List.getElem?_take] at hu
  split at hu
  ·exact h3 j u hu
  ·cases hu
theorem ReadsA.drop {ad : Option Addr} {us : List Value} (h : ReadsA w A ad us) (n : Nat) : ReadsA w A (ad.map fun x => x.add n) (us.drop n) := by
 rcases h with rfl | ⟨b, off, rfl, h1, h2, h3⟩
 ·exact .inl (by simp)
 ·refine .inr ⟨b, off + n, by rw [Option.map_some, Go.WideShapes.add_plain], h1, h2, fun j u hu => ?_⟩
  rw [List.getElem?_drop] at hu
  rw [← h3 _ u hu]
  congr 2
  omega
theorem ls_slice_to (hT : okTab P T = true) {x y : Operand} {t n : Nat} {i : Int} {k : IntKind} {size : Nat} {xs : List (List AV)} {e bytes : Nat} (hx : ev s x = some (.sl size xs)) (hy : ev s y = some (.v (.int k i))) (hty : nth T t = some (.slice e size bytes)) (hi : i = (n : Int)) (hn : n ≤ xs.length) (hd : okDst Γ.n dst = true) :
  LS P Γ ⟨dst, .slice t x none (some y) none, ty, pos, after, none⟩ s (rd x (rd y [])) (dst1 dst (.sl size (xs.take n))) [] :=
 ls_pure hd fun t' ht μ a w hr => by
  obtain ⟨e1, ht⟩ := ht.ev hx
  obtain ⟨e2, ht⟩ := ht.ev hy
  have e1 := hr.ev e1
  have e2 := hr.ev e2
  simp only [rep] at e1 e2 ⊢
  obtain ⟨ad, c, us, e3, e4, e5, e6, e7⟩ := e1
  obtain ⟨hu, hpos, j, z, hj, hj2, _⟩ := slice_ty hT hty
  subst hi
  have hlen : (xs.take n).length = n := by rw [List.length_take]; omega
  have hnc : (n : Int) ≤ c := by omega
  refine ⟨.slice ad n c, ?_, ad, c, us.take (n * size), by rw [hlen], by omega, e5, e6.take _, repLL_take e7⟩
  simp [execOp, e3, e2.1, Instr.sliceAt, Instr.slice, run_underlying hu, Instr.sliceBounds, Instr.sliceBound, asIntOf, hnc, sizeOf, typeInfo, hj]
  have hnc' : n ≤ c := by omega
  cases ad <;> simp [hnc', Addr.add]
theorem ls_min {x y : Operand} {ts : Array TypeId} {k : IntKind} {a b : Int} (hx : ev s x = some (.v (.int k a))) (hy : ev s y = some (.v (.int k b))) (hd : okDst Γ.n dst = true) : LS P Γ ⟨dst, .call { callee := .builtin .min, args := #[x, y], argTypes := ts }, ty, pos, after, none⟩ s (rd x (rd y [])) (dst1 dst (.v (.int k (min a b)))) [] :=
 ls_pure hd fun t' ht μ ac w hr => by
  obtain ⟨e1, ht⟩ := ht.ev hx
  obtain ⟨e2, ht⟩ := ht.ev hy
  have e1 := hr.ev e1
  have e2 := hr.ev e2
  simp only [rep] at e1 e2 ⊢
  refine ⟨_, ?_, rfl, rfl⟩
  simp [execOp, resolve, invoke, builtin, e1.1, e2.1, run_min_int2]
  omega
theorem ls_max {x y : Operand} {ts : Array TypeId} {k : IntKind} {a b : Int} (hx : ev s x = some (.v (.int k a))) (hy : ev s y = some (.v (.int k b))) (hd : okDst Γ.n dst = true) : LS P Γ ⟨dst, .call { callee := .builtin .max, args := #[x, y], argTypes := ts }, ty, pos, after, none⟩ s (rd x (rd y [])) (dst1 dst (.v (.int k (max a b)))) [] :=
 ls_pure hd fun t' ht μ ac w hr => by
  obtain ⟨e1, ht⟩ := ht.ev hx
  obtain ⟨e2, ht⟩ := ht.ev hy
  have e1 := hr.ev e1
  have e2 := hr.ev e2
  simp only [rep] at e1 e2 ⊢
  refine ⟨_, ?_, rfl, rfl⟩
  simp [execOp, resolve, invoke, builtin, e1.1, e2.1, run_max_int2]
  omega
theorem ls_func {fn : Fn} {first cap : Array Operand} {fs ks : List AV} (hf : evL s first.toList = some fs) (hk : evL s cap.toList = some ks) (hd : okDst Γ.n dst = true) :
  LS P Γ ⟨dst, .makeFunc fn first cap, ty, pos, after, none⟩ s (rdL first.toList (rdL cap.toList [])) (dst1 dst (.clo fn fs ks)) [] :=
 ls_pure hd fun t' ht μ a w hr => by
  obtain ⟨h1, ht⟩ := ht.evL hr hf
  obtain ⟨h2, ht⟩ := ht.evL hr hk
  simp only [rep]
  refine ⟨.func fn (first.map a.eval) (cap.map a.eval), by simp [execOp, Instr.makeFunc], first.toList.map a.eval, cap.toList.map a.eval, ?_, h1, h2⟩
  simp [← Array.toList_map]
theorem a_adopt {c : Code} (t k e size : Nat) (hv : find s.regs t = some (.v (.slice none 0 0))) (hk : find s.σ k = none) (h : AWP P Γ c Q ⟨(t, .own k 0) :: s.regs, (k, .row e size []) :: s.σ⟩) : AWP P Γ c Q s := by
 refine ⟨fun μ a w hr => h.out (setμ μ k (.slice none 0 0)) a w ?_⟩
 have hn := hr.new (w' := w) (v := .slice none 0 0) (o := .row e size []) hk (Below.refl _ w) (by simp [blk]) (fun μ' A hμ hμk hA hst => ⟨[], by rw [hμk]; exact OwnS.nil, by simp [repLL]⟩)
 have h1 := hr.regs t _ hv
 simp only [rep] at h1
 refine ⟨hn.defers, hn.tmps, fun i x hx => ?_, hn.store, hn.gro⟩
 rw [find_cons] at hx
 split at hx
 ·rename_i e1; subst e1; injection hx with hx; subst hx
  simp only [rep, find_cons, if_true]
  exact ⟨by rw [h1.1]; rfl, .inr ⟨e, size, [], rfl, Nat.le_refl _, fun _ => by rw [setμ_same]; exact h1.1⟩⟩
 ·exact hn.regs i x hx
theorem pc_of_calls {f : FuncId} {xs : List Value} {r : Value} (ok : CallOK P f) (h : ∀ w, Calls P f xs.toArray w fun e w' => e = .returned r ∧ Below w.heap.size w w') (hs : scal r = true) : PC P f (xs.map .v) (.v r) := by
 refine ⟨ok, fun w M μ vs hsr hrep => ?_⟩
 have key : ∀ (xs vs : List Value), repL [] μ w (av [] μ M) (xs.map .v) vs → vs = xs := by
  intro xs
  induction xs with
  | nil => intro vs h; simpa only [List.map_nil, repL] using h
  | cons x xs ih =>
   intro vs h
   simp only [List.map_cons, repL, rep] at h
   obtain ⟨u, us', rfl, ⟨rfl, _⟩, h2⟩ := h
   rw [ih us' h2]
 rw [key xs vs hrep]
 refine (h w).mono ?_
 rintro e w' ⟨rfl, hb⟩
 refine ⟨r, μ, rfl, ⟨fun _ _ h => by simp [find] at h, fun _ _ _ _ _ h => by simp [find] at h, fun b hb' => Nat.lt_of_lt_of_le (hsr.lt b hb') hb.size, fun _ _ _ h => by simp [find] at h⟩, by simp only [rep]; exact ⟨trivial, hs⟩, ⟨hb.os, hb.tape, hb.output, hb.size, fun b hl _ => hb.block b hl, fun _ _ _ h => by simp [find] at h, fun _ _ _ h => by simp [find] at h, fun _ _ _ _ h => by simp [find] at h, fun _ _ h => by simp [find] at h, fun _ h => by simp [find] at h⟩⟩
theorem PC.law {f : FuncId} {args : List AV} {r : Value} (h : PC P f args (.v r)) {w : World} {vs : List Value} (hrep : repL [] (fun _ => undef) w (fun _ => False) args vs) : Calls P f vs.toArray w fun e w' => e = .returned r ∧ Below w.heap.size w w' := by
 have hs0 : SRel [] (fun _ => undef) w (fun _ => False) := ⟨fun _ _ h => by simp [find] at h, fun _ _ _ _ _ h => by simp [find] at h, fun _ h => h.elim, fun _ _ _ h => by simp [find] at h⟩
 refine (h.ac.out w _ _ vs hs0 (repL_mono (Step.same_world fun b _ hc => ?_) hrep)).mono ?_
 ·rcases hc with hc | ⟨_, _, hc, _⟩
  ·exact hc
  ·simp [find] at hc
 ·rintro e w' ⟨y, μ', rfl, _, h2, h3⟩
  simp only [rep] at h2
  exact ⟨by rw [h2.1], ⟨h3.os, h3.tape, h3.output, h3.size, fun k hk => h3.same k hk (fun _ _ h => by simp [find] at h)⟩⟩
theorem rep_sl {α : Type} {w : World} {size n c : Nat} {ad : Option Addr} {xs : List α} (cells : α → List Value) (avs : α → List AV) (hr : Reads w w.heap.size size ad n (xs.flatMap cells)) (hn : n = xs.length) (hc : n ≤ c) (hcm : c ≤ 9223372036854775807) (hsz : ∀ x, (cells x).length = size)
  (hel : ∀ x ∈ xs, repC [] (fun _ => undef) w (fun _ => False) (avs x) (cells x)) : rep [] (fun _ => undef) w (fun _ => False) (.sl size (xs.map avs)) (.slice ad n c) := by
 simp only [rep]
 refine ⟨ad, c, xs.flatMap cells, by rw [List.length_map, hn], by rw [List.length_map]; omega, by simpa [maxLen] using hcm, ?_, ?_⟩
 ·rcases Nat.eq_zero_or_pos n with h0 | h0
  ·left
   have : xs = [] := List.length_eq_zero_iff.1 (by omega)
   subst this; rfl
  ·obtain ⟨b, off, e, h1, h2⟩ := hr.2 h0
   exact .inr ⟨b, off, e, fun h => h, h1, h2⟩
 ·clear hr hn hc
  induction xs with
  | nil => simp [repLL]
  | cons x xs ih =>
   simp only [List.map_cons, List.flatMap_cons, repLL]
   exact ⟨_, _, rfl, hsz x, hel x (by simp), ih fun y hy => hel y (by simp [hy])⟩
end
end Go.Proofs.Ytlgbadlgfdlheaa
namespace Go.Proofs.Ytlgbadlgfdlheaa
open Go.RowKit
def ownR : List AV → List Loc
 | [] => []
 | .own id _ :: l => .obj id :: ownR l
 | _ :: l => ownR l
inductive AsL (s : ASt) : List AV → List AV → Prop
 | nil : AsL s [] []
 | own {id n e size : Nat} {xs : List (List AV)} {vs us : List AV} (h : find s.σ id = some (.row e size xs)) (hn : n = xs.length) (hs : AsL s vs us) : AsL s (.own id n :: vs) (.sl size xs :: us)
 | vnil {n : Nat} {vs us : List AV} (hs : AsL s vs us) : AsL s (.v (.slice none 0 0) :: vs) (.sl n [] :: us)
 | same {v : AV} {vs us : List AV} (hs : AsL s vs us) : AsL s (v :: vs) (v :: us)
section
variable {P : Program} {Γ : Ctx} {s : ASt} {σ : Store} {μ : Nat → Value} {w : World} {T : List TyI}
variable {dst : Option Tmp} {ty : TypeId} {pos : String} {after : Array Edge}
theorem asL_rep {t : ASt} {a : Act} (hr : Rel Γ t μ a w) : ∀ {vs us : List AV} {ys : List Value}, Agree s t (ownR vs) → AsL s vs us → us.all pureB = true → repL t.σ μ w (av t.σ μ Γ.M) vs ys → repL [] μ w (fun _ => False) us ys
 | [], _, ys, _, .nil, _, hv => by simpa only [repL] using hv
 | _ :: vs, _ :: us, ys, hag, .own h hn hs, hp, hv => by
  simp only [List.all_cons, Bool.and_eq_true] at hp
  simp only [repL] at hv ⊢
  obtain ⟨y, ys', e, h1, h2⟩ := hv
  exact ⟨y, ys', e, asSl_rep hr (R := [.obj _]) ⟨hag.1, trivial⟩ (AsSl.own h hn) hp.1 h1, asL_rep hr hag.2 hs hp.2 h2⟩
 | _ :: vs, _ :: us, ys, hag, .vnil hs, hp, hv => by
  simp only [List.all_cons, Bool.and_eq_true] at hp
  simp only [repL] at hv ⊢
  obtain ⟨y, ys', e, h1, h2⟩ := hv
  exact ⟨y, ys', e, asSl_rep (s := s) hr (R := []) trivial AsSl.nil hp.1 h1, asL_rep hr (vs := vs) hag hs hp.2 h2⟩
 | v :: vs, _ :: us, ys, hag, .same hs, hp, hv => by
  simp only [List.all_cons, Bool.and_eq_true] at hp
  simp only [repL] at hv ⊢
  obtain ⟨y, ys', e, h1, h2⟩ := hv
  refine ⟨y, ys', e, asSl_rep (s := s) hr (R := []) trivial AsSl.same hp.1 h1, asL_rep hr ?_ hs hp.2 h2⟩
  cases v <;> first | exact hag | exact hag.2
theorem ls_callR {f : FuncId} {args : Array Operand} {argTypes : Array TypeId} {c : Operand} {vs us caps : List AV} {r : AV} (h : PC P f us r) (hc : ev s c = some (.clo (.func f) [] caps)) (hargs : evL s args.toList = some vs) (hn : AsL s (vs ++ caps) us) (hp : us.all pureB = true) (hfl : flat r = true) (hd : okDst Γ.n dst = true) :
  LS P Γ ⟨dst, .call { callee := .value c, args := args, argTypes := argTypes }, ty, pos, after, none⟩ s (rd c (rdL args.toList (ownR (vs ++ caps) ++ []))) (dst1 dst r) [] := by
 refine ⟨fun t ht Q μ a w hr K hK => ?_⟩
 obtain ⟨h0, ht⟩ := ht.ev hc
 obtain ⟨ks, hks, h0⟩ := hr.callee h0
 obtain ⟨h1, ht⟩ := ht.evL hr hargs
 obtain ⟨hag, _⟩ := ht.app
 have h2 := asL_rep hr hag hn hp (repL_append h1 h0)
 have hs0 : SRel [] μ w (fun _ => False) := ⟨fun _ _ h => by simp [find] at h, fun _ _ _ _ _ h => by simp [find] at h, fun _ h => h.elim, fun _ _ _ h => by simp [find] at h⟩
 have h3 := h.ac.2 w (fun _ => False) μ (args.toList.map a.eval ++ ks) hs0 (by
  refine repL_mono (Step.same_world fun b _ hc => ?_) h2
  rcases hc with hc | ⟨_, _, hc, _⟩
  ·exact hc
  ·simp [find] at hc)
 unfold Oper.wp
 rw [run_call h.ac.1 hks]
 refine Calls.mono h3 ?_
 rintro e w' ⟨y, μ', rfl, h4, h5, h6⟩
 have hb : Below w.heap.size w w' := ⟨h6.os, h6.tape, h6.output, h6.size, fun k hk => h6.same k hk (fun _ _ h => by simp [find] at h)⟩
 exact hK μ _ _ ((hr.world hb).put hd (flat_rep hfl h5))
end
end Go.Proofs.Ytlgbadlgfdlheaa
namespace Go.Proofs.Ytlgbadlgfdlheaa
open Go.RowKit
section
variable {P : Program} {Γ : Ctx} {s : ASt} {σ : Store} {μ : Nat → Value} {w : World} {T : List TyI}
variable {dst : Option Tmp} {ty : TypeId} {pos : String} {after : Array Edge}
theorem ls_quo64 {xt yt : TypeId} {x y : Operand} {a b m : Int} (hm : a.tdiv b = m) (hx : ev s x = some (.v (.int .i64 a))) (hy : ev s y = some (.v (.int .i64 b))) (hb : b ≠ 0) (h : -9223372036854775808 ≤ m ∧ m ≤ 9223372036854775807) (hd : okDst Γ.n dst = true) : LS P Γ ⟨dst, .binOp .quo xt x y yt, ty, pos, after, none⟩ s (rd x (rd y [])) (dst1 dst (.v (.int .i64 m))) [] :=
 ls_bin hx hy (fun w => by
  subst hm
  have := IntWalk.i64_in (a.tdiv b) (by omega)
  simp [eqGuard, binOp, Op.intDiv, hb, this]) rfl hd
theorem ls_rem64 {xt yt : TypeId} {x y : Operand} {a b m : Int} (hm : a.tmod b = m) (hx : ev s x = some (.v (.int .i64 a))) (hy : ev s y = some (.v (.int .i64 b))) (hb : b ≠ 0) (h : -9223372036854775808 ≤ m ∧ m ≤ 9223372036854775807) (hd : okDst Γ.n dst = true) : LS P Γ ⟨dst, .binOp .rem xt x y yt, ty, pos, after, none⟩ s (rd x (rd y [])) (dst1 dst (.v (.int .i64 m))) [] :=
 ls_bin hx hy (fun w => by
  subst hm
  have := IntWalk.i64_in (a.tmod b) (by omega)
  simp [eqGuard, binOp, Op.intDiv, hb, this]) rfl hd
theorem ls_buildO (hT : okTab P T = true) {t len e size bytes k : Nat} {parts : Array (Nat × Operand)} {vs : List (Nat × AV)} {xs : List (List AV)} (hty : nth T t = some (.slice e size bytes)) (hp : evParts s parts.toList = some vs) (hb : bldS size 0 vs = some xs) (hl : Nat.beq xs.length len = true) (hle : Nat.ble (len * size) 16777216 = true) (hk : find s.σ k = none) (hd : okDst Γ.n dst = true) (htag : Nat.blt e 1048576 = true := by rfl) :
  LS P Γ ⟨dst, .buildSlice t len parts, ty, pos, after, none⟩ s (rdParts parts.toList [.obj k]) (dst1 dst (.own k len)) [(k, .row e size xs)] := by
 refine ⟨fun t' ht Q μ a w hr K hK => ?_⟩
 obtain ⟨h1, ht⟩ := ht.parts hr hp
 have hk' : find t'.σ k = none := ht.1.trans hk
 obtain ⟨hu, hpos, j, z, hj, hj2, hj3, hj4, hj5⟩ := slice_ty hT hty
 have hl := Nat.eq_of_beq_eq_true hl
 subst hl
 have hle := Nat.le_of_ble_eq_true hle
 obtain ⟨cells, zs, h2, h3, h4⟩ := fill_ord size hpos h1 hb (cells := (Array.range (xs.length * size)).map fun i => (if xs.length * size = 0 then #[] else z.cells)[i % (if xs.length * size = 0 then #[] else z.cells).size]!) (by simp)
 have h3' : cells.toList = zs := by
  rw [h3]
  simp [List.drop_of_length_le]
 have h9 : parts.map (fun p => (p.1, a.eval p.2)) = (parts.toList.map fun p => (p.1, a.eval p.2)).toArray := by simp [← Array.toList_map]
 have hzl : zs.length = xs.length * size := repLL_len h4
 have hrun : (execOp a.eval ⟨dst, .buildSlice t xs.length parts, ty, pos, after, none⟩).run P w = .ok (.value (.slice (some ⟨w.heap.size, 0, none⟩) xs.length xs.length)) (w.alloc (.cells cells e)) := by
  have hn : ¬ xs.length * size > 2 ^ 24 := by omega
  by_cases h0 : xs.length * size = 0
  ·simp only [h0, if_true] at h2
   simp [execOp, Instr.buildSlice, run_underlying hu, sizeOf, typeInfo, hj, hj2, h0, newRow, h9]
   have hz0 : ∀ f : Nat → Value, (Array.range 0).map f = #[] := by intro f; simp [Array.range]
   rw [hz0] at h2 ⊢
   rw [h2]
   simp
  ·simp only [h0, if_false] at h2
   simp [execOp, Instr.buildSlice, run_underlying hu, sizeOf, typeInfo, hj, hj2, h0, hn, newRow, zeroValue, hj4, h9]
   rw [h2]
   simp
 have hn := hr.new (w' := w.alloc (.cells cells e)) (v := .slice (some ⟨w.heap.size, 0, none⟩) xs.length xs.length) (o := .row e size xs) hk' (below_alloc _ _) (by simp [blk]) (fun μ' A hμ hμk hA hst => by
  refine ⟨zs, ?_, repLL_mono hst.pure (repLL_mono (Step.same_world fun _ h => h) h4)⟩
  rw [hμk]
  have hxl : xs.length ≤ xs.length * size := Nat.le_mul_of_pos_right _ hpos
  refine OwnS.of ⟨hzl, .inr ⟨w.heap.size, xs.length, cells, rfl, Nat.zero_le _, Blk.new w e cells, Nat.le_refl _, by simp only [maxLen]; omega, ?_, ?_⟩⟩ htag
  ·rw [← Array.length_toList, h3', hzl]
  ·rw [h3', List.take_of_length_le (by omega)])
 have hfin := hn.put (d := dst) (x := .own k xs.length) (y := .slice (some ⟨w.heap.size, 0, none⟩) xs.length xs.length) hd (by
  simp only [rep, ASt.eff, List.cons_append, List.nil_append, find_cons, if_true]
  exact ⟨rfl, .inr ⟨e, size, xs, rfl, Nat.le_refl _, fun _ => (setμ_same _ _ _).symm⟩⟩)
 unfold Oper.wp
 rw [hrun]
 refine hK (setμ μ k (.slice (some ⟨w.heap.size, 0, none⟩) xs.length xs.length)) _ _ ?_
 cases dst <;> exact hfin
end
end Go.Proofs.Ytlgbadlgfdlheaa
