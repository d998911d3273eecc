/-
  Walks over abstract values: results, loops, what is forgotten. Over whatever program. No condition.
-/
import Derived.Test.YtimlkhbedhjehaaAvC
namespace Go.Proofs.Ytimlkhbedhjehaa
open Go.RowKit
set_option linter.unusedSimpArgs false
set_option linter.unusedVariables false

theorem renD_id : ∀ v, renD (fun i => i) v = v := by intro v; cases v <;> rfl
theorem map_renD_id : ∀ l : List AV, l.map (renD fun i => i) = l
  | [] => rfl
  | x :: l => by rw [List.map_cons, renD_id, map_renD_id l]
theorem renC_id : ∀ v, renC (fun i => i) v = v := by
  intro v
  cases v <;> first | rfl | simp only [renC, map_renD_id]
theorem map_renC_id : ∀ l : List AV, l.map (renC fun i => i) = l
  | [] => rfl
  | x :: l => by rw [List.map_cons, renC_id, map_renC_id l]
theorem renO_id : ∀ o, renO (fun i => i) o = o := by intro o; cases o <;> simp [renO, map_renC_id]

/-- a part of a store, its objects as they stand there, all that they name at hand -/
def Kept (σ σ' : Store) : Store → Prop
  | [] => True
  | (id, o) :: l => (∃ o', find σ id = some o' ∧ o' = o) ∧ closO σ' o = true ∧ Kept σ σ' l
theorem Kept.at_ {σ σ' : Store} : ∀ {l : Store}, Kept σ σ' l → ∀ {id : Nat} {o : SObj}, find l id = some o → find σ id = some o ∧ closO σ' o = true
  | [], _, id, o, h => by simp [find] at h
  | (k, x) :: l, h, id, o, hf => by
    obtain ⟨⟨o', h1, rfl⟩, h2, h3⟩ := h
    rw [find_cons] at hf
    split at hf
    · rename_i e; subst e; injection hf with hf; subst hf; exact ⟨h1, h2⟩
    · exact h3.at_ hf
inductive FinC (σ σ' : Store) : AV → AV → Prop
  | own {id n e size : Nat} {xs ys : List (List AV)} (h : find σ id = some (.row e size xs)) (hn : n = xs.length) (hd : has σ' id = false) (he : xs = ys) : FinC σ σ' (.own id n) (.sl size ys)
  | nil {n : Nat} : FinC σ σ' (.v (.slice none 0 0)) (.sl n [])
  | v {x y : Value} (h : x = y) : FinC σ σ' (.v x) (.v y)
  | sl {n : Nat} {xs ys : List (List AV)} (h : xs = ys) : FinC σ σ' (.sl n xs) (.sl n ys)
  | same {v : AV} (h : closC σ' v = true) : FinC σ σ' v v
  | ow {id n m : Nat} (h : has σ' id = true) (e : n = m) : FinC σ σ' (.own id n) (.own id m)
  | el {id off : Nat} {t : TypeId} {cs ds : List AV} (h : find σ id = some (.box t cs)) (ho : dropN cs off = some ds) (hp : ds.all pureC = true) (hd : has σ' id = false) : FinC σ σ' (.ref id off) (.el ds)
inductive FinCs (σ σ' : Store) : List AV → List AV → Prop
  | nil : FinCs σ σ' [] []
  | cons {v u : AV} {vs us : List AV} (h : FinC σ σ' v u) (hs : FinCs σ σ' vs us) : FinCs σ σ' (v :: vs) (u :: us)
inductive FinB (σ σ' : Store) : AV → AV → Prop
  | cell {v u : AV} (h : FinC σ σ' v u) : FinB σ σ' v u
  | agg {vs us : List AV} (h : FinCs σ σ' vs us) : FinB σ σ' (.agg vs) (.agg us)
  | agg' {vs us : List AV} (hc : us.all (closC σ') = true) (h : vs = us) : FinB σ σ' (.agg vs) (.agg us)
inductive FinBs (σ σ' : Store) : List AV → List AV → Prop
  | nil : FinBs σ σ' [] []
  | cons {v u : AV} {vs us : List AV} (h : FinB σ σ' v u) (hs : FinBs σ σ' vs us) : FinBs σ σ' (v :: vs) (u :: us)
inductive FinA (σ σ' : Store) : AV → AV → Prop
  | one {v u : AV} (h : FinB σ σ' v u) : FinA σ σ' v u
  | tup {vs us : List AV} (h : FinBs σ σ' vs us) : FinA σ σ' (.tup vs) (.tup us)
  | bound {fn : Fn} {first : List AV} (h : first.all pureB = true) : FinA σ σ' (.clo fn first []) (.clo fn first [])
  | clo {fn : Fn} {vs us xs ys : List AV} (h : FinBs σ σ' vs us) (hk : FinBs σ σ' xs ys) : FinA σ σ' (.clo fn vs xs) (.clo fn us ys)

section
variable {σ σ' : Store} {μ : Nat → Value} {w : World} {M : Nat → Prop}
theorem Kept.into (hk : Kept σ σ' σ') : Into (fun i => i) σ' μ σ μ := ⟨fun id o h => by rw [renO_id]; exact (hk.at_ h).1, fun _ _ _ => rfl⟩
theorem Kept.av (hk : Kept σ σ' σ') : ∀ b, ¬ av σ μ M b → ¬ av σ' μ M b := by
  intro b hb hc
  rcases hc with hc | ⟨id, o, h1, h2⟩
  · exact hb (.inl hc)
  · exact hb (.inr ⟨id, o, (hk.at_ h1).1, h2⟩)
theorem finC_rep (hs : SRel σ μ w M) (hk : Kept σ σ' σ') {v u : AV} {y : Value} (h : FinC σ σ' v u) (hr : rep σ μ w (av σ μ M) v y) : rep σ' μ w (av σ' μ M) u y := by
  cases h with
  | own h hn hd he =>
    subst he
    rename_i id n e size xs
    simp only [rep] at hr ⊢
    obtain ⟨_, e', size', xs', h1, h2, h3⟩ := hr
    rw [h] at h1
    injection h1 with h1; injection h1 with h4 h5 h6; subst h4 h5 h6
    obtain ⟨us, h7, h8⟩ := hs.obj _ _ h
    have h3 := h3 hn
    obtain ⟨A', c', h9, h10, h11⟩ := own_slice h7
    refine ⟨A', c', us, h3.trans h9, h10, by simpa [maxLen] using h11, ?_, repLL_mono (Step.same_world hk.av) h8⟩
    rcases h7.2 with ⟨h12, h13⟩ | ⟨g, cap, cur, h12, _, h14, _⟩
    · left
      have := h7.1
      rw [h13, Nat.zero_mul] at this
      exact List.eq_nil_of_length_eq_zero this
    · right
      rw [h9] at h12
      injection h12 with h12; subst h12
      have hb : blk (μ id) = some g := by rw [h9]; rfl
      refine ⟨g, 0, rfl, fun hc => ?_, Blk.lt (t := e) (cs := cur) h14, fun j u hu => ?_⟩
      · rcases hc with hc | ⟨id', o', h15, h16⟩
        · exact hs.dis _ _ _ h hb hc
        · have := hs.inj id id' _ _ g h (hk.at_ h15).1 hb h16
          subst this
          simp only [has, h15] at hd
          cases hd
      · rw [h9] at h7
        exact own_addr h7 j u hu
  | el h ho hp hd =>
    rename_i id off t cs ds
    simp only [rep] at hr ⊢
    obtain ⟨t', cs', g, h1, h2, h3, h4⟩ := hr
    rw [h] at h1
    injection h1 with h1; injection h1 with h5 h6; subst h5 h6
    obtain ⟨g', us, h7, h8, h9⟩ := hs.obj _ _ h
    rw [h3] at h7
    injection h7 with h7; injection h7 with h7; injection h7 with h7; subst h7
    obtain ⟨_, rfl⟩ := dropN_spec ho
    have hb : blk (μ id) = some g := by rw [h3]; rfl
    refine ⟨g, off, us.drop off, h4, .inr ⟨g, off, rfl, fun hc => ?_, Blk.lt h8, blk_cells h8 off⟩, repC_mono (Step.same_world hk.av) (repC_pure (μ' := μ) (repC_drop off h9) hp)⟩
    rcases hc with hc | ⟨id', o', h15, h16⟩
    · exact hs.dis _ _ _ h hb hc
    · have := hs.inj id id' _ _ g h (hk.at_ h15).1 hb h16
      subst this
      simp only [has, h15] at hd
      cases hd
  | nil =>
    simp only [rep] at hr ⊢
    exact ⟨none, 0, [], hr.1, Nat.le_refl _, by simp [maxLen], .inl rfl, by simp [repLL]⟩
  | v h => subst h; simpa only [rep] using hr
  | sl h =>
    subst h
    have := rep_back_C (ρ := fun i => i) (Kept.into (μ := μ) hk) (A' := av σ' μ M) hk.av (v := .sl _ _) rfl (by rw [renC_id]; exact hr)
    exact this
  | same h => exact rep_back_C (ρ := fun i => i) (Kept.into (μ := μ) hk) hk.av h (by rw [renC_id]; exact hr)
  | ow h e => subst e; exact rep_back_C (ρ := fun i => i) (Kept.into (μ := μ) hk) hk.av (v := .own _ _) h (by rw [renC_id]; exact hr)
theorem cellsAll_rep (hs : SRel σ μ w M) (hk : Kept σ σ' σ') : ∀ {vs us : List AV} {ys : List Value}, FinCs σ σ' vs us → repC σ μ w (av σ μ M) vs ys → repC σ' μ w (av σ' μ M) us ys
  | [], [], ys, .nil, hr => by simpa only [repC] using hr
  | v :: vs, u :: us, ys, .cons h h2, hr => by
    simp only [repC] at hr ⊢
    obtain ⟨y, ys', e, h0, h3, h4⟩ := hr
    exact ⟨y, ys', e, h0, finC_rep hs hk h h3, cellsAll_rep hs hk h2 h4⟩
theorem finB_rep (hs : SRel σ μ w M) (hk : Kept σ σ' σ') {v u : AV} {y : Value} (h : FinB σ σ' v u) (hr : rep σ μ w (av σ μ M) v y) : rep σ' μ w (av σ' μ M) u y := by
  cases h with
  | cell h => exact finC_rep hs hk h hr
  | agg h =>
    simp only [rep] at hr ⊢
    obtain ⟨us, e, h1⟩ := hr
    exact ⟨us, e, cellsAll_rep hs hk h h1⟩
  | agg' hc h =>
    subst h
    simp only [rep] at hr ⊢
    obtain ⟨us, e, h1⟩ := hr
    exact ⟨us, e, repC_back (ρ := fun i => i) (Kept.into (μ := μ) hk) hk.av hc (by rw [map_renC_id]; exact h1)⟩
theorem finBs_rep (hs : SRel σ μ w M) (hk : Kept σ σ' σ') : ∀ {vs us : List AV} {ys : List Value}, FinBs σ σ' vs us → repL σ μ w (av σ μ M) vs ys → repL σ' μ w (av σ' μ M) us ys
  | [], [], ys, .nil, hr => by simpa only [repL] using hr
  | v :: vs, u :: us, ys, .cons h h2, hr => by
    simp only [repL] at hr ⊢
    obtain ⟨y, ys', e, h3, h4⟩ := hr
    exact ⟨y, ys', e, finB_rep hs hk h h3, finBs_rep hs hk h2 h4⟩
theorem finA_rep (hs : SRel σ μ w M) (hk : Kept σ σ' σ') {v u : AV} {y : Value} (h : FinA σ σ' v u) (hr : rep σ μ w (av σ μ M) v y) : rep σ' μ w (av σ' μ M) u y := by
  cases h with
  | bound h =>
    simp only [rep] at hr ⊢
    obtain ⟨us, ks, e, h1, h2⟩ := hr
    exact ⟨us, ks, e, repL_mono (σ := []) ⟨fun b hb _ => ⟨rfl, hk.av b hb⟩, Nat.le_refl _, fun _ _ _ h => by simp [find] at h, fun _ _ _ _ h => by simp [find] at h⟩ (repL_pure (μ' := μ) h1 h), h2⟩
  | one h => exact finB_rep hs hk h hr
  | clo h h2 =>
    simp only [rep] at hr ⊢
    obtain ⟨us, ks, e, h3, h4⟩ := hr
    exact ⟨us, ks, e, finBs_rep hs hk h h3, finBs_rep hs hk h2 h4⟩
  | tup h =>
    simp only [rep] at hr ⊢
    obtain ⟨us, e, h1⟩ := hr
    exact ⟨us, e, finBs_rep hs hk h h1⟩
theorem Kept.srel (hk : Kept σ σ' σ') (hs : SRel σ μ w M) : SRel σ' μ w M := by
  refine ⟨fun id o hf => ?_, fun id id' o o' g h1 h2 h3 h4 => hs.inj id id' o o' g (hk.at_ h1).1 (hk.at_ h2).1 h3 h4, hs.lt, fun id o b h1 h2 => hs.dis id o b (hk.at_ h1).1 h2⟩
  obtain ⟨h1, h2⟩ := hk.at_ hf
  have h3 := hs.obj id o h1
  cases o with
  | box t cs =>
    obtain ⟨g, us, h4, h5, h6⟩ := h3
    exact ⟨g, us, h4, h5, repC_back (ρ := fun i => i) (Kept.into (μ := μ) hk) hk.av h2 (by rw [map_renC_id]; exact h6)⟩
  | row e size xs =>
    obtain ⟨us, h4, h5⟩ := h3
    exact ⟨us, h4, repLL_mono (Step.same_world hk.av) h5⟩
theorem Kept.gro {σ0 : Store} {μ0 : Nat → Value} {w0 : World} (hk : Kept σ σ' σ') (hg : Gro σ0 μ0 w0 σ μ w) (h0 : ∀ id o, find σ0 id = some o → has σ' id = true) : Gro σ0 μ0 w0 σ' μ w := by
  refine ⟨hg.os, hg.tape, hg.output, hg.size, hg.same, fun id o b h1 h2 h3 => hg.fresh id o b (hk.at_ h1).1 h2 h3, fun id t cs h => ?_, fun id e size xs h => ?_⟩
  · obtain ⟨cs', h1, h2, h3⟩ := hg.box id t cs h
    obtain ⟨o, ho⟩ := has_iff (h0 _ _ h)
    have h4 := (hk.at_ ho).1
    rw [h1] at h4; injection h4 with h4; subst h4
    exact ⟨cs', ho, h2, h3⟩
  · obtain ⟨xs', h1, h2, h3⟩ := hg.row id e size xs h
    obtain ⟨o, ho⟩ := has_iff (h0 _ _ h)
    have h4 := (hk.at_ ho).1
    rw [h1] at h4; injection h4 with h4; subst h4
    exact ⟨xs', ho, h2, h3⟩
end

/-! results -/
def resL (T : List TyI) (s : ASt) : List ResultVar → Option (List AV)
  | [] => some []
  | .tmp t :: l => match find s.regs t, resL T s l with
    | some v, some r => some (v :: r)
    | _, _ => none
  | .cell a ty :: l => match find s.regs a with
    | some (.ref id off) => match find s.σ id with
      | some (.box _ cs) => match dropN cs off with
        | some cs1 => match nth T ty with
          | some ti => match ldv ti cs1, resL T s l with
            | some v, some r => some (v :: r)
            | _, _ => none
          | none => none
        | none => none
      | _ => none
    | _ => none
def single : List AV → AV
  | [v] => v
  | vs => .tup vs
def resV (tmps : Array Value) : ResultVar → Sem Value
  | .tmp t => pure (tmps.getD t undef)
  | .cell a t => do loadVar t (← asAddr (tmps.getD a undef))
section
variable {P : Program} {Γ : Ctx} {Q Q' : Exit → ASt → Prop} {s : ASt} {σ σ' : Store} {μ : Nat → Value} {w : World} {A : Nat → Prop} {T : List TyI}
theorem results_ok (hT : okTab P T = true) {fn : Func} {a : Act} {vs : List AV} (hr : Rel Γ s μ a w) (h : resL T s fn.results.toList = some vs) : ∃ y, (results fn a.tmps).run P w = .ok y w ∧ rep s.σ μ w (av s.σ μ Γ.M) (single vs) y := by
  have key : ∀ (l : List ResultVar) (vs : List AV), resL T s l = some vs → ∃ us, (l.mapM (resV a.tmps)).run P w = .ok us w ∧ repL s.σ μ w (av s.σ μ Γ.M) vs us := by
    intro l
    induction l with
    | nil => intro vs h; simp [resL] at h; subst h; exact ⟨[], by simp, by simp [repL]⟩
    | cons x l ih =>
      intro vs h
      cases x with
      | tmp t =>
        simp only [resL] at h
        split at h
        · rename_i v r hv hl
          injection h with h; subst h
          obtain ⟨us, h1, h2⟩ := ih r hl
          exact ⟨a.tmps.getD t undef :: us, by simp only [List.mapM_cons, Sem.run_bind, resV, Sem.run_pure, Result.andThen_ok, h1], by simp only [repL]; exact ⟨_, us, rfl, hr.regs t v hv, h2⟩⟩
        · cases h
      | cell p ty =>
        simp only [resL] at h
        split at h
        · rename_i id off hp
          split at h
          · rename_i bt cs hσ
            split at h
            · rename_i cs1 hd
              split at h
              · rename_i ti hti
                split at h
                · rename_i v r hv hl
                  injection h with h; subst h
                  obtain ⟨us, h1, h2⟩ := ih r hl
                  have e1 := hr.regs p _ hp
                  simp only [rep] at e1
                  obtain ⟨bt', cs', g, e3, e4, e5, e6⟩ := e1
                  rw [hσ] at e3
                  injection e3 with e3; injection e3 with e3 e7; subst e3 e7
                  obtain ⟨g', us', e8, e9, e10⟩ := hr.store.obj id _ hσ
                  rw [e5] at e8
                  injection e8 with e8; injection e8 with e8; injection e8 with e8; subst e8
                  obtain ⟨_, rfl⟩ := dropN_spec hd
                  obtain ⟨y, h3, h4⟩ := load_ok hT hti hv (repC_drop off e10) (blk_cells e9 off)
                  exact ⟨y :: us, by simp only [List.mapM_cons, Sem.run_bind, resV, e6, asAddr, Sem.run_pure, Result.andThen_ok, h3, h1], by simp only [repL]; exact ⟨_, us, rfl, h4, h2⟩⟩
                · cases h
              · cases h
            · cases h
          · cases h
        · cases h
  obtain ⟨us, h1, h2⟩ := key _ _ h
  have h3 : (fn.results.mapM (resV a.tmps)).run P w = .ok us.toArray w := by
    rw [Array.mapM_eq_mapM_toList]
    rw [map_eq_pure_bind, Sem.run_bind, h1]
    rfl
  have h4 : results fn a.tmps = (do let vs ← fn.results.mapM (resV a.tmps); pure (if h : vs.size = 1 then vs[0] else .tuple vs)) := by
    unfold results
    congr 1
  rw [h4]
  simp only [Sem.run_bind, h3, Result.andThen_ok, Sem.run_pure]
  refine ⟨_, rfl, ?_⟩
  match vs, us, h2 with
  | [], us, h2 =>
    simp only [repL] at h2; subst h2
    simp only [single, rep]
    exact ⟨[], by simp, by simp [repL]⟩
  | [v], us, h2 =>
    simp only [repL] at h2
    obtain ⟨u, us', rfl, h4, rfl⟩ := h2
    simpa [single] using h4
  | v :: v' :: vs, us, h2 =>
    simp only [repL] at h2
    obtain ⟨u, us', rfl, h4, u', us'', rfl, h5, h6⟩ := h2
    simp only [single, rep]
    refine ⟨u :: u' :: us'', by simp, ?_⟩
    simp only [repL]
    exact ⟨u, _, rfl, h4, u', us'', rfl, h5, h6⟩
def numb : Nat → List AV → List (Nat × AV)
  | _, [] => []
  | i, v :: l => (i, v) :: numb (i + 1) l
theorem find_numb : ∀ {l : List AV} {i t : Nat} {v : AV}, find (numb i l) t = some v → ∃ j, t = i + j ∧ l[j]? = some v
  | [], i, t, v, h => by simp [numb, find] at h
  | x :: l, i, t, v, h => by
    simp only [numb, find_cons] at h
    split at h
    · rename_i e; injection h with h; subst h; exact ⟨0, e.symm, rfl⟩
    · obtain ⟨j, h1, h2⟩ := find_numb h
      exact ⟨j + 1, by omega, h2⟩
theorem repL_get : ∀ {vs : List AV} {us : List Value} {j : Nat} {v : AV}, repL σ μ w A vs us → vs[j]? = some v → ∃ u, us[j]? = some u ∧ rep σ μ w A v u
  | [], us, j, v, h, hj => by simp at hj
  | x :: vs, us, 0, v, h, hj => by
    simp only [repL] at h
    obtain ⟨u, us', rfl, h1, h2⟩ := h
    simp only [List.getElem?_cons_zero, Option.some.injEq] at hj; subst hj
    exact ⟨u, rfl, h1⟩
  | x :: vs, us, j + 1, v, h, hj => by
    simp only [repL] at h
    obtain ⟨u, us', rfl, h1, h2⟩ := h
    exact repL_get (j := j) h2 (by simpa using hj)
theorem repL_len : ∀ {vs : List AV} {us : List Value}, repL σ μ w A vs us → us.length = vs.length
  | [], us, h => by simp only [repL] at h; simp [h]
  | x :: vs, us, h => by
    simp only [repL] at h
    obtain ⟨u, us', rfl, h1, h2⟩ := h
    simp [repL_len h2]
/-! a block that holds no cells may turn: nothing reads it -/
def Turns (w w' : World) : Prop := w.heap.size ≤ w'.heap.size ∧ ∀ b, b < w.heap.size → w'.heap[b]? = w.heap[b]? ∨ ∀ o, w.cell? ⟨b, o, none⟩ = none
theorem ReadsA.turn {w w' : World} (ht : Turns w w') {ad : Option Addr} {us : List Value} (h : ReadsA w A ad us) : us = [] ∨ ReadsA w' A ad us := by
  rcases h with h | ⟨b, off, e, ha, hb, hc⟩
  · exact .inl h
  · cases us with
    | nil => exact .inl rfl
    | cons u us =>
      refine .inr (.inr ⟨b, off, e, ha, Nat.lt_of_lt_of_le hb ht.1, fun j v hj => ?_⟩)
      rcases ht.2 b hb with h1 | h1
      · exact (World.cell?_of_block (w := w) (a := ⟨b, off + j, none⟩) h1).trans (hc j v hj)
      · have := hc 0 u rfl
        rw [h1] at this; cases this
mutual
theorem rep_turn {σ : Store} {μ : Nat → Value} {w w' : World} {A : Nat → Prop} (ht : Turns w w') : ∀ {x : AV} {y : Value}, rep σ μ w A x y → rep σ μ w' A x y
  | .v x, y, h => by simpa only [rep] using h
  | .agg cs, y, h => by
    simp only [rep] at h ⊢
    obtain ⟨us, e, h1⟩ := h
    exact ⟨us, e, repC_turn ht h1⟩
  | .tup cs, y, h => by
    simp only [rep] at h ⊢
    obtain ⟨us, e, h1⟩ := h
    exact ⟨us, e, repL_turn ht h1⟩
  | .sl size xs, y, h => by
    simp only [rep] at h ⊢
    obtain ⟨ad, c, us, e, h1, h2, h3, h4⟩ := h
    exact ⟨ad, c, us, e, h1, h2, (h3.turn ht).elim (fun h => .inl h) id, repLL_turn ht h4⟩
  | .own id n, y, h => by simpa only [rep] using h
  | .ref id off, y, h => by simpa only [rep] using h
  | .eref id n i off, y, h => by simpa only [rep] using h
  | .el cs, y, h => by
    simp only [rep] at h ⊢
    obtain ⟨b, off, us, e, h1, h2⟩ := h
    exact ⟨b, off, us, e, (h1.turn ht).elim (fun h => .inl h) id, repC_turn ht h2⟩
  | .clo fn first cap, y, h => by
    simp only [rep] at h ⊢
    obtain ⟨us, ks, e, h1, h2⟩ := h
    exact ⟨us, ks, e, repL_turn ht h1, repL_turn ht h2⟩
theorem repL_turn {σ : Store} {μ : Nat → Value} {w w' : World} {A : Nat → Prop} (ht : Turns w w') : ∀ {x : List AV} {y : List Value}, repL σ μ w A x y → repL σ μ w' A x y
  | [], y, h => by simpa only [repL] using h
  | c :: cs, y, h => by
    simp only [repL] at h ⊢
    obtain ⟨u, us', e, h1, h2⟩ := h
    exact ⟨u, us', e, rep_turn ht h1, repL_turn ht h2⟩
theorem repC_turn {σ : Store} {μ : Nat → Value} {w w' : World} {A : Nat → Prop} (ht : Turns w w') : ∀ {x : List AV} {y : List Value}, repC σ μ w A x y → repC σ μ w' A x y
  | [], y, h => by simpa only [repC] using h
  | c :: cs, y, h => by
    simp only [repC] at h ⊢
    obtain ⟨u, us', e, h0, h1, h2⟩ := h
    exact ⟨u, us', e, h0, rep_turn ht h1, repC_turn ht h2⟩
theorem repLL_turn {σ : Store} {μ : Nat → Value} {w w' : World} {A : Nat → Prop} {size : Nat} (ht : Turns w w') : ∀ {x : List (List AV)} {y : List Value}, repLL σ μ w A size x y → repLL σ μ w' A size x y
  | [], y, h => by simpa only [repLL] using h
  | c :: cs, y, h => by
    simp only [repLL] at h ⊢
    obtain ⟨u, us', e, h0, h1, h2⟩ := h
    exact ⟨u, us', e, h0, repC_turn ht h1, repLL_turn ht h2⟩
end
/-- a list of deferred calls is shut -/
theorem Rel.shut {a : Act} (hr : Rel Γ s μ a w) (hd0 : Γ.w0.heap.size ≤ Γ.d0) {d : Deferred} {ds : List Deferred} (hd : a.defers = d :: ds) :
    ∃ D, d = { target := .collected D, args := #[] } ∧ w.heap[D]? = some (.deferred (some [])) ∧ Rel Γ s μ { a with defers := ds } (w.putObj D (.deferred none)) := by
  have hm := hr.defers
  rw [hd] at hm
  obtain ⟨D, h1, h2, h3⟩ := hm.2 d (List.mem_cons_self ..)
  have hot : ∀ b, b ≠ D → (w.putObj D (.deferred none)).heap[b]? = w.heap[b]? := fun b hb => World.putObj_heap_other hb
  have hsz : (w.putObj D (.deferred none)).heap.size = w.heap.size := by simp
  have ht : Turns w (w.putObj D (.deferred none)) := by
    refine ⟨by rw [hsz]; exact Nat.le_refl _, fun b hb => ?_⟩
    by_cases e : b = D
    · subst e; exact .inr fun o => by simp [World.cell?, h3]
    · exact .inl (hot b e)
  have hnb : ∀ id o b, find s.σ id = some o → blk (μ id) = some b → b ≠ D := by
    intro id o b hf hb e
    subst e
    have h4 := hr.store.obj id o hf
    cases o with
    | box t cs =>
      obtain ⟨g, us, h5, h6, _⟩ := h4
      rw [h5] at hb; simp only [blk, Option.some.injEq] at hb; subst hb
      rw [show w.heap[g]? = _ from h6] at h3; cases h3
    | row e size xs =>
      obtain ⟨us, h5, _⟩ := h4
      rcases h5.2 with ⟨h6, _⟩ | ⟨g, cap, cur, h6, _, h7, _⟩
      · rw [h6] at hb; simp [blk] at hb
      · rw [h6] at hb; simp only [blk, Option.some.injEq] at hb; subst hb
        rw [h7] at h3; cases h3
  refine ⟨D, h1, h3, ⟨(List.nodup_cons.1 hm.1).2, fun d' hd' => ?_⟩, hr.tmps, fun t x hx => rep_turn ht (hr.regs t x hx), ⟨fun id o hf => ?_, hr.store.inj, fun b hb => by rw [hsz]; exact hr.store.lt b hb, hr.store.dis⟩, ?_⟩
  · obtain ⟨D', h4, h5, h6⟩ := hm.2 d' (List.mem_cons_of_mem _ hd')
    refine ⟨D', h4, h5, (hot D' ?_).trans h6⟩
    rintro rfl
    exact (List.nodup_cons.1 hm.1).1 (by rw [h1, ← h4]; exact hd')
  · have h4 := hr.store.obj id o hf
    cases o with
    | box t cs =>
      obtain ⟨g, us, h5, h6, h7⟩ := h4
      exact ⟨g, us, h5, (hot g (hnb id _ g hf (by rw [h5]; rfl))).trans h6, repC_turn ht h7⟩
    | row e size xs =>
      obtain ⟨us, h5, h6⟩ := h4
      refine ⟨us, ⟨h5.1, ?_⟩, repLL_turn ht h6⟩
      rcases h5.2 with h7 | ⟨g, cap, cur, h7, h8, h9, h10⟩
      · exact .inl h7
      · exact .inr ⟨g, cap, cur, h7, h8, (hot g (hnb id _ g hf (by rw [h7]; rfl))).trans h9, h10⟩
  · have hg := hr.gro
    exact ⟨hg.os, hg.tape, hg.output, by rw [hsz]; exact hg.size, fun b hb hn => (hot b (by omega)).trans (hg.same b hb hn), hg.fresh, hg.box, hg.row⟩
theorem leave_ok (hT : okTab P T = true) (hd0 : Γ.w0.heap.size ≤ Γ.d0) {fn : Func} {R : Ending → World → Prop} {vs : List AV} : ∀ (ds : List Deferred) {a : Act} {w : World}, Rel Γ s μ a w → a.defers = ds → resL T s fn.results.toList = some vs →
    (∀ a' w', Rel Γ s μ a' w' → ∀ y, (results fn a.tmps).run P w' = .ok y w' → rep s.σ μ w' (av s.σ μ Γ.M) (single vs) y → R (.returned y) w') → LeavesInM Fence.wide 0 P fn a.tmps R ds .returning w
  | [], a, w, hr, hd, hvs, hK => by
    obtain ⟨y, h1, h2⟩ := results_ok hT hr hvs
    exact ⟨y, h1, hK a w hr y h1 h2⟩
  | d :: ds, a, w, hr, hd, hvs, hK => by
    obtain ⟨D, h1, h2, h3⟩ := hr.shut hd0 hd
    exact ⟨by simp, .inl ⟨D, _, by rw [h1], run_takeDeferred h2, leave_ok hT hd0 ds (a := { a with defers := ds }) h3 rfl hvs hK⟩⟩
/-- what a walk through a body must come to -/
def RetQ (T : List TyI) (res : List ResultVar) (r : AV) (σ' : Store) : Exit → ASt → Prop := fun e s =>
  (e = .normal ∨ e = .ret) ∧ ∃ vs, resL T s res = some vs ∧ FinA s.σ σ' (single vs) r ∧ Kept s.σ σ' σ'
theorem ac_body (hT : okTab P T = true) {f : FuncId} {fn : Func} {c : Code} {args : List AV} {r : AV} (hf : P.funcs[f]? = some fn) (hb : fn.body = some c) (hname : (fn.name == "runtime.NumGoroutine") = false) (h0 : σ.all (fun p => has σ' p.1) = true)
    (H : ∀ w0 M μ0, AWP P ⟨w0, M, σ, μ0, args.length + (fn.ntmps - args.length), none, w0.heap.size⟩ c (RetQ T fn.results.toList r σ') ⟨numb 0 args, σ⟩) : AC P f args σ r σ' := by
  refine ⟨⟨fn, hf, hname, by rw [hb]; rfl⟩, fun w M μ vs hs hrep => ?_⟩
  refine (callsIn_wide (n := 0)).1 (callsIn_of_wp_marks hf hb trivial ?_ rfl)
  have hlen := repL_len hrep
  have hrel : Rel ⟨w, M, σ, μ, args.length + (fn.ntmps - args.length), none, w.heap.size⟩ ⟨numb 0 args, σ⟩ μ { tmps := vs.toArray ++ Array.replicate (fn.ntmps - vs.toArray.size) undef, defers := [] } w := by
    refine ⟨marks_nil, by simp [hlen], fun t x hx => ?_, hs, Gro.refl⟩
    obtain ⟨j, rfl, hj⟩ := find_numb hx
    obtain ⟨u, h1, h2⟩ := repL_get hrep hj
    have hlt : j < vs.length := (List.getElem?_eq_some_iff.1 h1).1
    have : (vs.toArray ++ Array.replicate (fn.ntmps - vs.toArray.size) undef)[0 + j]? = some u := by
      rw [Array.getElem?_append_left (by simpa using hlt)]
      simpa using h1
    rw [Array.getD_eq_getD_getElem?, this]
    exact h2
  refine wpIn_mono ((H w M μ).out μ _ w hrel) ?_
  rintro e a w' ⟨s', μ', hr', he, vs', hvs, hfin, hk⟩
  have hfin : LeavesInM Fence.wide 0 P fn a.tmps (fun e w' => ∃ y μ', e = .returned y ∧ SRel σ' μ' w' M ∧ rep σ' μ' w' (av σ' μ' M) r y ∧ Gro σ μ w σ' μ' w') a.defers .returning w' := by
    refine leave_ok hT (Nat.le_refl _) a.defers hr' rfl hvs fun a' w2 hr2 y h1 h2 => ?_
    have h3 := finA_rep hr2.store hk hfin h2
    have h4 := hk.srel hr2.store
    have h5 := hk.gro hr2.gro (fun id o hf => by
      have key : ∀ l : Store, l.all (fun p => has σ' p.1) = true → find l id = some o → has σ' id = true := by
        intro l
        induction l with
        | nil => intro _ h; simp [find] at h
        | cons p l ih =>
          intro hl h
          obtain ⟨k, x⟩ := p
          simp only [List.all_cons, Bool.and_eq_true] at hl
          rw [find_cons] at h
          split at h
          · rename_i e; subst e; exact hl.1
          · exact ih hl.2 h
      exact key σ h0 hf)
    exact ⟨y, μ', rfl, h4, h3, h5⟩
  rcases he with rfl | rfl
  · exact hfin
  · exact hfin
/-! what is forgotten -/
def WRegs (s : ASt) (σ' : Store) : List (Nat × AV) → Prop
  | [] => True
  | (t, u) :: l => (∃ v, find s.regs t = some v ∧ FinA s.σ σ' v u) ∧ WRegs s σ' l
theorem WRegs.at_ {s : ASt} : ∀ {l : List (Nat × AV)}, WRegs s σ' l → ∀ {t : Nat} {u : AV}, find l t = some u → ∃ v, find s.regs t = some v ∧ FinA s.σ σ' v u
  | [], _, t, u, h => by simp [find] at h
  | (k, x) :: l, ⟨h1, h2⟩, t, u, h => by
    rw [find_cons] at h
    split at h
    · rename_i e; subst e; injection h with h; subst h; exact h1
    · exact h2.at_ h
/-- A frame of which less is known. -/
def Weak (Γ : Ctx) (s t : ASt) : Prop := WRegs s t.σ t.regs ∧ Kept s.σ t.σ t.σ ∧ Γ.σ0.all (fun p => has t.σ p.1) = true
theorem find_mem {α : Type} : ∀ {l : List (Nat × α)} {id : Nat} {o : α}, find l id = some o → (id, o) ∈ l
  | [], id, o, h => by simp [find] at h
  | (k, x) :: l, id, o, h => by
    rw [find_cons] at h
    split at h
    · rename_i e; subst e; injection h with h; subst h; simp
    · exact List.mem_cons_of_mem _ (find_mem h)
theorem Weak.rel {t : ASt} {a : Act} (h : Weak Γ s t) (hr : Rel Γ s μ a w) : Rel Γ t μ a w := by
  obtain ⟨h1, h2, h3⟩ := h
  refine ⟨hr.defers, hr.tmps, fun i u hu => ?_, h2.srel hr.store, h2.gro hr.gro (fun id o hf => ?_)⟩
  · obtain ⟨v, h4, h5⟩ := h1.at_ hu
    exact finA_rep hr.store h2 h5 (hr.regs i v h4)
  · exact List.all_eq_true.1 h3 _ (find_mem hf)
theorem a_weak {c : Code} {t : ASt} (h : Weak Γ s t) (hk : AWP P Γ c Q t) : AWP P Γ c Q s := ⟨fun μ a w hr => hk.out μ a w (h.rel hr)⟩
theorem a_loop {c : Code} {X : Type} (S : X → ASt) (m : X → Nat) (x0 : X) (h0 : Weak Γ s (S x0))
    (round : ∀ x, AWP P Γ c (AThen (fun s' => ∃ x', m x' < m x ∧ Weak Γ s' (S x')) Q) (S x)) : AWP P Γ (.loop c) Q s := by
  refine ⟨fun μ a w hr => ?_⟩
  have hr0 := h0.rel hr
  clear h0 hr
  have key : ∀ n x, m x = n → ∀ μ a w, Rel Γ (S x) μ a w → ∀ (b : Frame) (k : List Item) (cs : List Frame), b.roundOf = Γ.F.round → Γ.F.fn b.fn → Γ.F.room (cs.length + 1 + 0) →
      ∃ e a' w', AK Γ Q e a' w' ∧ ArrivesIn (Machine.fenced P Γ.F) P (lone (b.atR a (.code c :: .inLoop c :: k)) cs w) b k cs e a' w' := by
    intro n
    induction n using Nat.strongRecOn with
    | _ n ih =>
      intro x hx μ a w hr b k cs hro hb hm
      obtain ⟨e, a₁, w₁, ⟨s', μ', hr', hq⟩, harr⟩ := (round x).out μ a w hr b (.inLoop c :: k) cs hro hb hm
      cases e with
      | normal =>
        obtain ⟨x', hlt, hw⟩ := hq
        obtain ⟨e₂, a₂, w₂, hq₂, harr₂⟩ := ih (m x') (by omega) x' rfl μ' a₁ w₁ (hw.rel hr') b k cs hro hb hm
        exact ⟨e₂, a₂, w₂, hq₂, .of_steps (StepsIn.trans harr (.one (fenced_calm hb hm rfl) stepR_inLoop)) harr₂⟩
      | exit id => exact ⟨_, a₁, w₁, ⟨s', μ', hr', hq⟩, .pass (x := .inLoop c) rfl (fun _ _ => .inl (by simp)) harr⟩
      | goto l => exact ⟨_, a₁, w₁, ⟨s', μ', hr', hq⟩, .pass (x := .inLoop c) rfl (fun _ _ => .inl (by simp)) harr⟩
      | ret => exact ⟨_, a₁, w₁, ⟨s', μ', hr', hq⟩, .pass (x := .inLoop c) rfl (fun _ _ => .inl (by simp)) harr⟩
      | panic ch => exact ⟨_, a₁, w₁, ⟨s', μ', hr', hq⟩, .pass (x := .inLoop c) rfl (fun _ _ => .inl (by simp)) harr⟩
      | outgrown => exact ⟨_, a₁, w₁, ⟨s', μ', hr', hq⟩, .pass (x := .inLoop c) rfl (fun _ _ => .inl (by simp)) harr⟩
  intro b k cs hro hb hm
  obtain ⟨e, a', w', hq, harr⟩ := key _ x0 rfl μ a w hr0 b k cs hro hb hm
  exact ⟨e, a', w', hq, .of_steps (.one (fenced_calm hb hm rfl) stepR_loop) harr⟩
end
end Go.Proofs.Ytimlkhbedhjehaa
