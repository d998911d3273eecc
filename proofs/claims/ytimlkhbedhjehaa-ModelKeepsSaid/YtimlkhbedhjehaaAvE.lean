/-
  Walks over abstract values: a call that is handed objects, or gives new ones. Over whatever program. No condition.
-/
import Derived.Test.YtimlkhbedhjehaaAvD
namespace Go.Proofs.Ytimlkhbedhjehaa
open Go.RowKit
set_option linter.unusedSimpArgs false
set_option linter.unusedVariables false

/-- the caller's names: those of the objects that are handed over, then new ones -/
def rho (l : List Nat) (b : Nat) (i : Nat) : Nat := match nth l i with
  | some x => x
  | none => b + i
def injB (ρ : Nat → Nat) : List Nat → Bool
  | [] => true
  | x :: l => l.all (fun y => Nat.beq x y || !Nat.beq (ρ x) (ρ y)) && injB ρ l
theorem injB_inj {ρ : Nat → Nat} : ∀ {l : List Nat}, injB ρ l = true → ∀ x ∈ l, ∀ y ∈ l, ρ x = ρ y → x = y
  | [], _, x, hx, _, _, _ => by cases hx
  | a :: l, h, x, hx, y, hy, e => by
    simp only [injB, Bool.and_eq_true] at h
    have key : ∀ z ∈ l, ρ a = ρ z → a = z := by
      intro z hz hr
      have := List.all_eq_true.1 h.1 z hz
      simp only [Bool.or_eq_true, Nat.beq_eq, Bool.not_eq_true'] at this
      rcases this with h1 | h1
      · exact h1
      · rw [hr, Nat.beq_refl] at h1; cases h1
    rcases List.mem_cons.1 hx with hx1 | hx1
    · rcases List.mem_cons.1 hy with hy1 | hy1
      · rw [hx1, hy1]
      · rw [hx1]; exact key y hy1 (by rw [← hx1]; exact e)
    · rcases List.mem_cons.1 hy with hy1 | hy1
      · rw [hy1]; exact (key x hx1 (by rw [← hy1]; exact e.symm)).symm
      · exact injB_inj h.2 x hx1 y hy1 e
def Pass (ρ : Nat → Nat) (s : ASt) : Store → Prop
  | [] => True
  | (id, o) :: l => (∃ o', find s.σ (ρ id) = some o' ∧ o' = renO ρ o) ∧ Pass ρ s l
theorem Pass.at_ {ρ : Nat → Nat} {s : ASt} : ∀ {l : Store}, Pass ρ s l → ∀ {id : Nat} {o : SObj}, find l id = some o → find s.σ (ρ id) = some (renO ρ o)
  | [], _, id, o, h => by simp [find] at h
  | (k, x) :: l, ⟨⟨o', h1, h2⟩, h3⟩, id, o, hf => by
    rw [find_cons] at hf
    split at hf
    · rename_i e; subst e; injection hf with hf; subst hf; rw [h1, h2]
    · exact h3.at_ hf
def objs (ρ : Nat → Nat) (σ : Store) : List Loc := σ.map fun p => .obj (ρ p.1)
section
variable {P : Program} {Γ : Ctx} {Q : Exit → ASt → Prop} {s t : ASt} {μ : Nat → Value} {w : World} {a : Act}
theorem Agree.objs {ρ : Nat → Nat} : ∀ {σ : Store} {R : List Loc}, Agree s t (objs ρ σ ++ R) → (∀ id o, find σ id = some o → find t.σ (ρ id) = find s.σ (ρ id)) ∧ Agree s t R
  | [], R, h => ⟨fun id o hf => by simp [find] at hf, h⟩
  | (k, x) :: σ, R, h => by
    obtain ⟨h1, h2⟩ := h
    obtain ⟨h3, h4⟩ := Agree.objs (σ := σ) h2
    refine ⟨fun id o hf => ?_, h4⟩
    rw [find_cons] at hf
    split at hf
    · rename_i e; subst e; exact h1
    · exact h3 id o hf
theorem find_map_ren {ρ : Nat → Nat} : ∀ {σ : Store}, injB ρ (σ.map Prod.fst) = true → ∀ {id : Nat} {o : SObj}, find σ id = some o → find (σ.map fun p => (ρ p.1, renO ρ p.2)) (ρ id) = some (renO ρ o)
  | [], _, id, o, h => by simp [find] at h
  | (k, x) :: σ, hi, id, o, h => by
    rw [List.map_cons, find_cons]
    rw [find_cons] at h
    by_cases e : k = id
    · subst e
      rw [if_pos rfl] at h ⊢
      injection h with h; subst h; rfl
    · rw [if_neg e] at h
      have hne : ¬ ρ k = ρ id := fun h2 => e (injB_inj hi k (by simp) id (by
        rw [List.map_cons, List.mem_cons]
        exact .inr (find_some_iff.2 ⟨o, h⟩)) h2)
      rw [if_neg hne]
      simp only [List.map_cons, injB, Bool.and_eq_true] at hi
      exact find_map_ren hi.2 h
/-- the callee's name of an object of the caller's -/
def inv (ρ : Nat → Nat) (σ : Store) (i : Nat) : Option Nat := find (σ.map fun p => (ρ p.1, p.1)) i
theorem inv_some {ρ : Nat → Nat} : ∀ {σ : Store} {i j : Nat}, inv ρ σ i = some j → i = ρ j ∧ has σ j = true
  | [], i, j, h => by simp [inv, find] at h
  | (k, x) :: σ, i, j, h => by
    simp only [inv, List.map_cons, find_cons] at h
    split at h
    · rename_i e; injection h with h; subst h; exact ⟨e.symm, by simp [has, find_cons]⟩
    · obtain ⟨h1, h2⟩ := inv_some (σ := σ) h
      refine ⟨h1, ?_⟩
      obtain ⟨o, ho⟩ := has_iff h2
      unfold has
      rw [find_cons]
      by_cases e2 : k = j
      · rw [if_pos e2]
      · rw [if_neg e2, ho]
theorem inv_none {ρ : Nat → Nat} : ∀ {σ : Store} {i : Nat}, inv ρ σ i = none → (∀ j, has σ j = true → ρ j ≠ i) ∧ find (σ.map fun p => (ρ p.1, renO ρ p.2)) i = none
  | [], i, _ => ⟨fun j h => by simp [has, find] at h, by simp [find]⟩
  | (k, x) :: σ, i, h => by
    simp only [inv, List.map_cons, find_cons] at h
    split at h
    · cases h
    · rename_i e
      obtain ⟨h1, h2⟩ := inv_none (σ := σ) h
      refine ⟨fun j hj => ?_, by rw [List.map_cons, find_cons, if_neg e]; exact h2⟩
      unfold has at hj
      rw [find_cons] at hj
      by_cases e2 : k = j
      · subst e2; exact e
      · rw [if_neg e2] at hj; exact h1 j hj
theorem has_of {σ : Store} {id : Nat} {o : SObj} (h : find σ id = some o) : has σ id = true := by simp [has, h]
variable {dst : Option Tmp} {ty : TypeId} {pos : String} {after : Array Edge}
theorem ls_callA {f : FuncId} {args : Array Operand} {argTypes : Array TypeId} {c : Operand} {vs us caps : List AV} {r : AV} {σc σc' : Store} (l : List Nat) (b : Nat) (h : AC P f us σc r σc') (hc : ev s c = some (.clo (.func f) [] caps)) (hargs : evL s args.toList = some vs) (hn : NilL (vs ++ caps) (us.map (renB (rho l b)))) (hcl : us.all (closB σc) = true)
    (hpass : Pass (rho l b) s σc) (hco : σc.all (fun p => closO σc p.2) = true) (hinj : injB (rho l b) (σc.map Prod.fst) = true) (hinj' : injB (rho l b) (σc'.map Prod.fst) = true)
    (hnew : σc'.all (fun p => has σc p.1 || !has s.σ (rho l b p.1)) = true) (hcr : closA σc' r = true) (hco' : σc'.all (fun p => closO σc' p.2) = true) (hd : okDst Γ.n dst = true) :
    LS P Γ ⟨dst, .call { callee := .value c, args := args, argTypes := argTypes }, ty, pos, after, none⟩ s (rd c (rdL args.toList (objs (rho l b) σc ++ (objs (rho l b) σc' ++ [])))) (dst1 dst (renA (rho l b) r)) (σc'.map fun p => (rho l b p.1, renO (rho l b) p.2)) := by
  refine ⟨fun t ht Q μ a w hr K hK => ?_⟩
  generalize hρ : rho l b = ρ at *
  obtain ⟨h0, ht⟩ := ht.ev hc
  obtain ⟨ks, hks, h0⟩ := hr.callee h0
  obtain ⟨h1, ht⟩ := ht.evL hr hargs
  have h1 := repL_append h1 h0
  obtain ⟨hag, ht⟩ := ht.objs
  obtain ⟨hag', _⟩ := ht.objs
  have hp : ∀ id o, find σc id = some o → find t.σ (ρ id) = some (renO ρ o) := fun id o hf => (hag id o hf).trans (hpass.at_ hf)
  have hfr : ∀ id o, find σc' id = some o → has σc id = true ∨ find t.σ (ρ id) = none := by
    intro id o hf
    have h2 := List.all_eq_true.1 hnew _ (find_mem hf)
    simp only [Bool.or_eq_true, Bool.not_eq_true'] at h2
    rcases h2 with h2 | h2
    · exact .inl h2
    · right
      rw [hag' id o hf]
      unfold has at h2
      split at h2
      · cases h2
      · assumption
  have hsrel := hr.store
  have hinto : Into ρ σc (fun i => μ (ρ i)) t.σ μ := ⟨hp, fun _ _ _ => rfl⟩
  obtain ⟨Mc, hMc⟩ : ∃ Mc : Nat → Prop, Mc = fun b => Γ.M b ∨ ∃ id o, find t.σ id = some o ∧ blk (μ id) = some b ∧ ∀ i, has σc i = true → ρ i ≠ id := ⟨_, rfl⟩
  have hav : ∀ b, ¬ av t.σ μ Γ.M b → ¬ av σc (fun i => μ (ρ i)) Mc b := by
    intro b hb hc
    rcases hc with hc | ⟨id, o, h2, h3⟩
    · rw [hMc] at hc
      rcases hc with hc | ⟨id, o, h2, h3, _⟩
      · exact hb (.inl hc)
      · exact hb (.inr ⟨id, o, h2, h3⟩)
    · exact hb (.inr ⟨ρ id, _, hp id o h2, h3⟩)
  have hsc : SRel σc (fun i => μ (ρ i)) w Mc := by
    refine ⟨fun id o hf => ?_, fun id id' o o' g h2 h3 h4 h5 => ?_, fun b hb => ?_, fun id o b h2 h3 hc => ?_⟩
    · have h2 := hsrel.obj _ _ (hp id o hf)
      have h3 := List.all_eq_true.1 hco _ (find_mem hf)
      cases o with
      | box bt cs =>
        obtain ⟨g, us', h4, h5, h6⟩ := h2
        exact ⟨g, us', h4, h5, repC_back hinto hav h3 h6⟩
      | row e size xs =>
        obtain ⟨us', h4, h5⟩ := h2
        exact ⟨us', h4, repLL_mono (Step.same_world hav) h5⟩
    · have := hsrel.inj _ _ _ _ g (hp id o h2) (hp id' o' h3) h4 h5
      exact injB_inj hinj id (find_some_iff.2 ⟨o, h2⟩) id' (find_some_iff.2 ⟨o', h3⟩) this
    · rw [hMc] at hb
      rcases hb with hb | ⟨id, o, h2, h3, _⟩
      · exact hsrel.lt b hb
      · exact ObjRel.lt hsrel h2 h3
    · rw [hMc] at hc
      rcases hc with hc | ⟨id', o', h4, h5, h6⟩
      · exact hsrel.dis _ _ b (hp id o h2) h3 hc
      · exact h6 id (has_of h2) (hsrel.inj _ _ _ _ b (hp id o h2) h4 h3 h5)
  have hargs2 : repL σc (fun i => μ (ρ i)) w (av σc (fun i => μ (ρ i)) Mc) us (args.toList.map a.eval ++ ks) := repL_back_B hinto hav hcl (repL_nil hn h1)
  have h3 := h.out w Mc _ _ hsc hargs2
  unfold Oper.wp
  rw [run_call h.ok hks]
  refine Calls.mono h3 ?_
  rintro e w' ⟨y, μ', rfl, hs', hry, hg⟩
  obtain ⟨μ'', hμ''⟩ : ∃ μ'' : Nat → Value, μ'' = fun i => match inv ρ σc' i with | some j => μ' j | none => μ i := ⟨_, rfl⟩
  have hμs : ∀ i j, inv ρ σc' i = some j → μ'' i = μ' j := fun i j h => by rw [hμ'']; simp only [h]
  have hμn : ∀ i, inv ρ σc' i = none → μ'' i = μ i := fun i h => by rw [hμ'']; simp only [h]
  have hkeep : ∀ i, has σc i = true → has σc' i = true := by
    intro i hi
    obtain ⟨o, ho⟩ := has_iff hi
    cases o with
    | box bt cs => obtain ⟨cs', h4, _⟩ := hg.box i bt cs ho; exact has_of h4
    | row e size xs => obtain ⟨xs', h4, _⟩ := hg.row i e size xs ho; exact has_of h4
  have hinv : ∀ j, has σc' j = true → inv ρ σc' (ρ j) = some j := by
    intro j hj
    cases hv : inv ρ σc' (ρ j) with
    | none => exact absurd rfl ((inv_none hv).1 j hj)
    | some j' =>
      obtain ⟨h4, h5⟩ := inv_some hv
      obtain ⟨o, ho⟩ := has_iff hj
      obtain ⟨o', ho'⟩ := has_iff h5
      rw [injB_inj hinj' j (find_some_iff.2 ⟨o, ho⟩) j' (find_some_iff.2 ⟨o', ho'⟩) h4]
  obtain ⟨σ'', hσ''⟩ : ∃ σ'' : Store, σ'' = (σc'.map fun p => (ρ p.1, renO ρ p.2)) ++ t.σ := ⟨_, rfl⟩
  have hfs : ∀ i j o, inv ρ σc' i = some j → find σc' j = some o → find σ'' i = some (renO ρ o) := by
    intro i j o h4 h5
    obtain ⟨rfl, _⟩ := inv_some h4
    rw [hσ'', find_app, find_map_ren hinj' h5]
  have hfn : ∀ i, inv ρ σc' i = none → find σ'' i = find t.σ i := by
    intro i h4
    rw [hσ'', find_app, (inv_none h4).2]
  have hinto' : Into ρ σc' μ' σ'' μ'' := ⟨fun id o hf => hfs _ _ _ (hinv id (has_of hf)) hf, fun id o hf => hμs _ _ (hinv id (has_of hf))⟩
  have hfs' : ∀ i j o, inv ρ σc' i = some j → find σ'' i = some o → ∃ o', find σc' j = some o' ∧ o = renO ρ o' := by
    intro i j o h4 h5
    obtain ⟨_, h6⟩ := inv_some h4
    obtain ⟨o', ho'⟩ := has_iff h6
    rw [hfs i j o' h4 ho'] at h5
    injection h5 with h5
    exact ⟨o', ho', h5.symm⟩
  have hav' : ∀ b, ¬ av σc' μ' Mc b → ¬ av σ'' μ'' Γ.M b := by
    intro b hb hc
    rcases hc with hc | ⟨id, o, h4, h5⟩
    · exact hb (.inl (by rw [hMc]; exact .inl hc))
    · cases hv : inv ρ σc' id with
      | some j =>
        obtain ⟨o', h6, _⟩ := hfs' id j o hv h4
        rw [hμs id j hv] at h5
        exact hb (.inr ⟨j, o', h6, h5⟩)
      | none =>
        rw [hfn id hv] at h4
        rw [hμn id hv] at h5
        exact hb (.inl (by rw [hMc]; exact .inr ⟨id, o, h4, h5, fun i hi => (inv_none hv).1 i (hkeep i hi)⟩))
  have hgro : Gro t.σ μ w σ'' μ'' w' := by
    refine ⟨hg.os, hg.tape, hg.output, hg.size, fun b hl hn => hg.same b hl (fun id o hf => hn _ _ (hp id o hf)), fun id o b hf hb hl => ?_, fun id bt cs hf => ?_, fun id e size xs hf => ?_⟩
    · cases hv : inv ρ σc' id with
      | some j =>
        obtain ⟨o', h6, _⟩ := hfs' id j o hv hf
        rw [hμs id j hv] at hb
        obtain ⟨id0, o0, h7, h8⟩ := hg.fresh j o' b h6 hb hl
        exact ⟨ρ id0, _, hp id0 o0 h7, h8⟩
      | none =>
        rw [hfn id hv] at hf
        rw [hμn id hv] at hb
        exact ⟨id, o, hf, hb⟩
    · cases hv : inv ρ σc' id with
      | some j =>
        obtain ⟨rfl, h5⟩ := inv_some hv
        obtain ⟨o', ho'⟩ := has_iff h5
        rcases hfr j o' ho' with h6 | h6
        · obtain ⟨oc, hoc⟩ := has_iff h6
          have h7 := hp j oc hoc
          rw [hf] at h7; injection h7 with h7
          cases oc with
          | row _ _ _ => cases h7
          | box bt0 cs0 =>
            simp only [renO] at h7
            injection h7 with h8 h9; subst h8 h9
            obtain ⟨cs', h10, h11, h12⟩ := hg.box j _ _ hoc
            exact ⟨_, hfs _ j _ hv h10, by simp [h11], (hμs _ j hv).trans h12⟩
        · rw [hf] at h6; cases h6
      | none => exact ⟨cs, by rw [hfn id hv]; exact hf, rfl, hμn id hv⟩
    · cases hv : inv ρ σc' id with
      | some j =>
        obtain ⟨rfl, h5⟩ := inv_some hv
        obtain ⟨o', ho'⟩ := has_iff h5
        rcases hfr j o' ho' with h6 | h6
        · obtain ⟨oc, hoc⟩ := has_iff h6
          have h7 := hp j oc hoc
          rw [hf] at h7; injection h7 with h7
          cases oc with
          | box _ _ => cases h7
          | row e0 n0 xs0 =>
            simp only [renO] at h7
            injection h7 with h8 h9 h10; subst h8 h9 h10
            obtain ⟨xs', h10, h11, h12⟩ := hg.row j _ _ _ hoc
            exact ⟨_, hfs _ j _ hv h10, h11, fun hl => (hμs _ j hv).trans (h12 hl)⟩
        · rw [hf] at h6; cases h6
      | none => exact ⟨xs, by rw [hfn id hv]; exact hf, Nat.le_refl _, fun _ => hμn id hv⟩
  have hst : Step t.σ μ w (av t.σ μ Γ.M) σ'' μ'' w' (av σ'' μ'' Γ.M) := hgro.step
  have hkeepblk : ∀ id o b, inv ρ σc' id = none → find t.σ id = some o → blk (μ id) = some b → w'.heap[b]? = w.heap[b]? := by
    intro id o b hv hf hb
    refine hg.same b (ObjRel.lt hsrel hf hb) (fun id' o' hf' hb' => ?_)
    exact (inv_none hv).1 id' (hkeep id' (has_of hf')) (hsrel.inj _ _ _ _ b (hp id' o' hf') hf hb' hb)
  have hsrel'' : SRel σ'' μ'' w' Γ.M := by
    refine ⟨fun id o hf => ?_, fun id id' o o' g h4 h5 h6 h7 => ?_, fun b hb => Nat.lt_of_lt_of_le (hsrel.lt b hb) hg.size, fun id o b h4 h5 hc => ?_⟩
    · cases hv : inv ρ σc' id with
      | some j =>
        obtain ⟨o', h6, rfl⟩ := hfs' id j o hv hf
        have h7 := hs'.obj j o' h6
        have h8 := List.all_eq_true.1 hco' _ (find_mem h6)
        cases o' with
        | box bt cs =>
          obtain ⟨g, us', h9, h10, h11⟩ := h7
          exact ⟨g, us', (hμs id j hv).trans h9, h10, repC_ren hinto' hav' h8 h11⟩
        | row e size xs =>
          obtain ⟨us', h9, h10⟩ := h7
          refine ⟨us', by rw [hμs id j hv]; exact h9, repLL_mono (Step.same_world hav') h10⟩
      | none =>
        rw [hfn id hv] at hf
        have h7 := hsrel.obj id o hf
        cases o with
        | box bt cs =>
          obtain ⟨g, us', h9, h10, h11⟩ := h7
          exact ⟨g, us', (hμn id hv).trans h9, (hkeepblk id _ g hv hf (by rw [h9]; rfl)).trans h10, repC_mono hst h11⟩
        | row e size xs =>
          obtain ⟨us', h9, h10⟩ := h7
          refine ⟨us', ⟨h9.1, ?_⟩, repLL_mono hst.pure h10⟩
          rw [hμn id hv]
          rcases h9.2 with h11 | ⟨g, cap, cur, h11, h12, h13, h14⟩
          · exact .inl h11
          · exact .inr ⟨g, cap, cur, h11, h12, (hkeepblk id _ g hv hf (by rw [h11]; rfl)).trans h13, h14⟩
    · cases hv : inv ρ σc' id with
      | some j =>
        obtain ⟨o1, h8, _⟩ := hfs' id j o hv h4
        rw [hμs id j hv] at h6
        cases hv' : inv ρ σc' id' with
        | some j' =>
          obtain ⟨o2, h9, _⟩ := hfs' id' j' o' hv' h5
          rw [hμs id' j' hv'] at h7
          rw [(inv_some hv).1, (inv_some hv').1, hs'.inj j j' o1 o2 g h8 h9 h6 h7]
        | none =>
          rw [hfn id' hv'] at h5
          rw [hμn id' hv'] at h7
          exact (hs'.dis j o1 g h8 h6 (by rw [hMc]; exact .inr ⟨id', o', h5, h7, fun i hi => (inv_none hv').1 i (hkeep i hi)⟩)).elim
      | none =>
        rw [hfn id hv] at h4
        rw [hμn id hv] at h6
        cases hv' : inv ρ σc' id' with
        | some j' =>
          obtain ⟨o2, h9, _⟩ := hfs' id' j' o' hv' h5
          rw [hμs id' j' hv'] at h7
          exact (hs'.dis j' o2 g h9 h7 (by rw [hMc]; exact .inr ⟨id, o, h4, h6, fun i hi => (inv_none hv).1 i (hkeep i hi)⟩)).elim
        | none =>
          rw [hfn id' hv'] at h5
          rw [hμn id' hv'] at h7
          exact hsrel.inj id id' o o' g h4 h5 h6 h7
    · cases hv : inv ρ σc' id with
      | some j =>
        obtain ⟨o1, h8, _⟩ := hfs' id j o hv h4
        rw [hμs id j hv] at h5
        exact hs'.dis j o1 b h8 h5 (by rw [hMc]; exact .inl hc)
      | none =>
        rw [hfn id hv] at h4
        rw [hμn id hv] at h5
        exact hsrel.dis id o b h4 h5 hc
  have hrel2 := hr.goes hgro hsrel''
  have hfin := hrel2.put hd (x := renA ρ r) (y := y) (rep_ren hinto' hav' hcr hry)
  refine hK μ'' _ _ ?_
  subst hσ''
  exact hfin
end
end Go.Proofs.Ytimlkhbedhjehaa
