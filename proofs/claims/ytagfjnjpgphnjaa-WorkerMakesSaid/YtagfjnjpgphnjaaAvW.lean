/-
  Walks over abstract values: a method's value (a function with a bound receiver) called; a nil check; a shift by one. Over whatever program. No condition.
-/
import Derived.Test.YtagfjnjpgphnjaaAvX
namespace Go.Proofs.Ytagfjnjpgphnjaa
open Go.RowKit
set_option linter.unusedSimpArgs false
set_option linter.unusedVariables false
section
variable {P : Program} {T : List TyI} {Γ : Ctx} {s : ASt} {μ : Nat → Value} {w : World} {dst : Option Tmp} {ty : TypeId} {pos : String} {after : Array Edge}
theorem run_callB {f : FuncId} (h : CallOK P f) {c : Operand} {args : Array Operand} {argTypes : Array TypeId} {a : Act} {fs ks : List Value} (hc : a.eval c = .func (.func f) fs.toArray ks.toArray) : (execOp a.eval ⟨dst, .call { callee := .value c, args := args, argTypes := argTypes }, ty, pos, after, none⟩).run P w = .ok (.enter f (fs ++ args.toList.map a.eval ++ ks).toArray) w := by
  obtain ⟨fn, h1, h2, h3⟩ := h
  have h4 : args.map a.eval = (args.toList.map a.eval).toArray := by simp [← Array.toList_map]
  have h2' : ¬ fn.name = "runtime.NumGoroutine" := by simpa using h2
  have h3' : fn.body ≠ none := by
    intro h; rw [h] at h3; cases h3
  simp [execOp, resolve, hc, Deferred.ofValue, invoke, callFunc, h1, h2', h3', h4]
theorem Rel.calleeB {t : ASt} {a : Act} (hr : Rel Γ t μ a w) {c : Operand} {f : FuncId} {first caps : List AV} (h : Proofs.Ytagfjnjpgphnjaa.ev t c = some (.clo (.func f) first caps)) : ∃ fs ks : List Value, a.eval c = .func (.func f) fs.toArray ks.toArray ∧ repL t.σ μ w (av t.σ μ Γ.M) first fs ∧ repL t.σ μ w (av t.σ μ Γ.M) caps ks := by
  have h1 := hr.ev h
  simp only [rep] at h1
  obtain ⟨us, ks, h2, h3, h4⟩ := h1
  exact ⟨us, ks, h2, h3, h4⟩
/-- A method's value is called that only looks at what it is given. -/
theorem ls_callB {f : FuncId} {args : Array Operand} {argTypes : Array TypeId} {c : Operand} {first vs us caps : List AV} {r : AV} (h : PC P f us r) (hc : ev s c = some (.clo (.func f) first caps)) (hargs : evL s args.toList = some vs) (hn : NilL (first ++ vs ++ caps) us) (hp : us.all pureB = true) (hd : okDst Γ.n dst = true) :
    LS P Γ ⟨dst, .call { callee := .value c, args := args, argTypes := argTypes }, ty, pos, after, none⟩ s (rd c (rdL args.toList [])) (dst1 dst r) [] := by
  refine ⟨fun t ht Q μ a w hr K hK => ?_⟩
  obtain ⟨h0, ht⟩ := ht.ev hc
  obtain ⟨fs, ks, hks, hfs, h0⟩ := hr.calleeB h0
  obtain ⟨h1, _⟩ := ht.evL hr hargs
  have h2 := repL_pure (μ' := μ) (repL_nil hn (repL_append (repL_append hfs h1) h0)) hp
  have hM : ∀ b, av t.σ μ Γ.M b → b < w.heap.size := by
    intro b hb
    rcases hb with hb | ⟨id, o, h3, h4⟩
    · exact hr.store.lt b hb
    · exact ObjRel.lt hr.store h3 h4
  have hs0 : SRel [] μ w (av t.σ μ Γ.M) := ⟨fun _ _ h => by simp [find] at h, fun _ _ _ _ _ h => by simp [find] at h, hM, fun _ _ _ h => by simp [find] at h⟩
  have h3 := h.ac.2 w (av t.σ μ Γ.M) μ (fs ++ args.toList.map a.eval ++ ks) hs0 (by
    refine repL_mono (Step.same_world fun b hb hc => hb ?_) h2
    rcases hc with hc | ⟨_, _, hc, _⟩
    · exact hc
    · simp [find] at hc)
  unfold Oper.wp
  rw [run_callB h.ac.1 hks]
  refine Calls.mono h3 ?_
  rintro e w' ⟨y, μ', rfl, h4, h5, h6⟩
  have hb : Below w.heap.size w w' := ⟨h6.os, h6.tape, h6.output, h6.size, fun k hk => h6.same k hk (fun _ _ h => by simp [find] at h)⟩
  have hr2 := hr.world hb
  refine hK μ _ _ (hr2.put hd ?_)
  refine rep_mono (σ := []) (μ := μ') (A := av [] μ' (av t.σ μ Γ.M)) ⟨fun b hb _ => ⟨rfl, fun hc => hb (.inl hc)⟩, Nat.le_refl _, fun _ _ _ h => by simp [find] at h, fun _ _ _ _ h => by simp [find] at h, fun _ _ h => by simp [find] at h⟩ h5
/-- A pointer into a box is not nil. -/
theorem ls_nilCheck {x : Operand} {id off : Nat} (hx : ev s x = some (.ref id off)) (hd : okDst Γ.n dst = true) :
    LS P Γ ⟨dst, .nilCheck x, ty, pos, after, none⟩ s (rd x []) (dst1 dst (.ref id off)) [] :=
  ls_pure hd fun t' ht μ a w hr => by
    obtain ⟨e1, ht⟩ := ht.ev hx
    have e1 := hr.ev e1
    simp only [rep] at e1 ⊢
    obtain ⟨t, cs, g, h1, h2, h3, h4⟩ := e1
    refine ⟨.pointer (some ⟨g, off, none⟩), ?_, t, cs, g, h1, h2, h3, rfl⟩
    simp [execOp, h4]
theorem ls_callAB {f : FuncId} {args : Array Operand} {argTypes : Array TypeId} {c : Operand} {first vs us caps : List AV} {r : AV} {σc σc' : Store} (l : List Nat) (b : Nat) (h : AC P f us σc r σc') (hc : ev s c = some (.clo (.func f) first caps)) (hargs : evL s args.toList = some vs) (hn : NilL (first ++ vs ++ caps) (us.map (renB (rho l b)))) (hcl : us.all (closB σc) = true)
    (hpass : Pass (rho l b) s σc) (hco : σc.all (fun p => closO σc p.2) = true) (hinj : injB (rho l b) (σc.map Prod.fst) = true) (hinj' : injB (rho l b) (σc'.map Prod.fst) = true)
    (hnew : σc'.all (fun p => has σc p.1 || !has s.σ (rho l b p.1)) = true) (hcr : closA σc' r = true) (hco' : σc'.all (fun p => closO σc' p.2) = true) (hd : okDst Γ.n dst = true) :
    LS P Γ ⟨dst, .call { callee := .value c, args := args, argTypes := argTypes }, ty, pos, after, none⟩ s (rd c (rdL args.toList (objs (rho l b) σc ++ (objs (rho l b) σc' ++ [])))) (dst1 dst (renA (rho l b) r)) (σc'.map fun p => (rho l b p.1, renO (rho l b) p.2)) := by
  refine ⟨fun t ht Q μ a w hr K hK => ?_⟩
  generalize hρ : rho l b = ρ at *
  obtain ⟨h0, ht⟩ := ht.ev hc
  obtain ⟨fs, ks, hks, hfs, h0⟩ := hr.calleeB h0
  obtain ⟨h1, ht⟩ := ht.evL hr hargs
  have h1 := repL_append (repL_append hfs h1) h0
  obtain ⟨hag, ht⟩ := ht.objs
  obtain ⟨hag', _⟩ := ht.objs
  have hp : ∀ id o, find σc id = some o → find t.σ (ρ id) = some (renO ρ o) := fun id o hf => (hag id o hf).trans (hpass.at_ hf)
  have hfr : ∀ id o, find σc' id = some o → has σc id = true ∨ find t.σ (ρ id) = none := by
    intro id o hf
    have h2 := List.all_eq_true.1 hnew _ (find_mem hf)
    simp only [Bool.or_eq_true, Bool.not_eq_true'] at h2
    rcases h2 with h2 | h2
    · exact .inl h2
    · right
      rw [hag' id o hf]
      unfold has at h2
      split at h2
      · cases h2
      · assumption
  have hsrel := hr.store
  have hinto : Into ρ σc (fun i => μ (ρ i)) t.σ μ := ⟨hp, fun _ _ _ => rfl⟩
  obtain ⟨Mc, hMc⟩ : ∃ Mc : Nat → Prop, Mc = fun b => Γ.M b ∨ ∃ id o, find t.σ id = some o ∧ blk (μ id) = some b ∧ ∀ i, has σc i = true → ρ i ≠ id := ⟨_, rfl⟩
  have hav : ∀ b, ¬ av t.σ μ Γ.M b → ¬ av σc (fun i => μ (ρ i)) Mc b := by
    intro b hb hc
    rcases hc with hc | ⟨id, o, h2, h3⟩
    · rw [hMc] at hc
      rcases hc with hc | ⟨id, o, h2, h3, _⟩
      · exact hb (.inl hc)
      · exact hb (.inr ⟨id, o, h2, h3⟩)
    · exact hb (.inr ⟨ρ id, _, hp id o h2, h3⟩)
  have hsc : SRel σc (fun i => μ (ρ i)) w Mc := by
    refine ⟨fun id o hf => ?_, fun id id' o o' g h2 h3 h4 h5 => ?_, fun b hb => ?_, fun id o b h2 h3 hc => ?_⟩
    · have h2 := hsrel.obj _ _ (hp id o hf)
      have h3 := List.all_eq_true.1 hco _ (find_mem hf)
      cases o with
      | box bt cs =>
        obtain ⟨g, us', h4, h5, h6⟩ := h2
        exact ⟨g, us', h4, h5, repC_back hinto hav h3 h6⟩
      | row e size xs =>
        obtain ⟨us', h4, h5⟩ := h2
        exact ⟨us', h4, repLL_mono (Step.same_world hav) h5⟩
      | mp es => exact h2
    · have := hsrel.inj _ _ _ _ g (hp id o h2) (hp id' o' h3) h4 h5
      exact injB_inj hinj id (find_some_iff.2 ⟨o, h2⟩) id' (find_some_iff.2 ⟨o', h3⟩) this
    · rw [hMc] at hb
      rcases hb with hb | ⟨id, o, h2, h3, _⟩
      · exact hsrel.lt b hb
      · exact ObjRel.lt hsrel h2 h3
    · rw [hMc] at hc
      rcases hc with hc | ⟨id', o', h4, h5, h6⟩
      · exact hsrel.dis _ _ b (hp id o h2) h3 hc
      · exact h6 id (has_of h2) (hsrel.inj _ _ _ _ b (hp id o h2) h4 h3 h5)
  have hargs2 : repL σc (fun i => μ (ρ i)) w (av σc (fun i => μ (ρ i)) Mc) us (fs ++ args.toList.map a.eval ++ ks) := repL_back_B hinto hav hcl (repL_nil hn h1)
  have h3 := h.out w Mc _ _ hsc hargs2
  unfold Oper.wp
  rw [run_callB h.ok hks]
  refine Calls.mono h3 ?_
  rintro e w' ⟨y, μ', rfl, hs', hry, hg⟩
  obtain ⟨μ'', hμ''⟩ : ∃ μ'' : Nat → Value, μ'' = fun i => match inv ρ σc' i with | some j => μ' j | none => μ i := ⟨_, rfl⟩
  have hμs : ∀ i j, inv ρ σc' i = some j → μ'' i = μ' j := fun i j h => by rw [hμ'']; simp only [h]
  have hμn : ∀ i, inv ρ σc' i = none → μ'' i = μ i := fun i h => by rw [hμ'']; simp only [h]
  have hkeep : ∀ i, has σc i = true → has σc' i = true := by
    intro i hi
    obtain ⟨o, ho⟩ := has_iff hi
    cases o with
    | box bt cs => obtain ⟨cs', h4, _⟩ := hg.box i bt cs ho; exact has_of h4
    | row e size xs => obtain ⟨xs', h4, _⟩ := hg.row i e size xs ho; exact has_of h4
    | mp es => obtain ⟨es', h4, _⟩ := hg.mp i es ho; exact has_of h4
  have hinv : ∀ j, has σc' j = true → inv ρ σc' (ρ j) = some j := by
    intro j hj
    cases hv : inv ρ σc' (ρ j) with
    | none => exact absurd rfl ((inv_none hv).1 j hj)
    | some j' =>
      obtain ⟨h4, h5⟩ := inv_some hv
      obtain ⟨o, ho⟩ := has_iff hj
      obtain ⟨o', ho'⟩ := has_iff h5
      rw [injB_inj hinj' j (find_some_iff.2 ⟨o, ho⟩) j' (find_some_iff.2 ⟨o', ho'⟩) h4]
  obtain ⟨σ'', hσ''⟩ : ∃ σ'' : Store, σ'' = (σc'.map fun p => (ρ p.1, renO ρ p.2)) ++ t.σ := ⟨_, rfl⟩
  have hfs : ∀ i j o, inv ρ σc' i = some j → find σc' j = some o → find σ'' i = some (renO ρ o) := by
    intro i j o h4 h5
    obtain ⟨rfl, _⟩ := inv_some h4
    rw [hσ'', find_app, find_map_ren hinj' h5]
  have hfn : ∀ i, inv ρ σc' i = none → find σ'' i = find t.σ i := by
    intro i h4
    rw [hσ'', find_app, (inv_none h4).2]
  have hinto' : Into ρ σc' μ' σ'' μ'' := ⟨fun id o hf => hfs _ _ _ (hinv id (has_of hf)) hf, fun id o hf => hμs _ _ (hinv id (has_of hf))⟩
  have hfs' : ∀ i j o, inv ρ σc' i = some j → find σ'' i = some o → ∃ o', find σc' j = some o' ∧ o = renO ρ o' := by
    intro i j o h4 h5
    obtain ⟨_, h6⟩ := inv_some h4
    obtain ⟨o', ho'⟩ := has_iff h6
    rw [hfs i j o' h4 ho'] at h5
    injection h5 with h5
    exact ⟨o', ho', h5.symm⟩
  have hav' : ∀ b, ¬ av σc' μ' Mc b → ¬ av σ'' μ'' Γ.M b := by
    intro b hb hc
    rcases hc with hc | ⟨id, o, h4, h5⟩
    · exact hb (.inl (by rw [hMc]; exact .inl hc))
    · cases hv : inv ρ σc' id with
      | some j =>
        obtain ⟨o', h6, _⟩ := hfs' id j o hv h4
        rw [hμs id j hv] at h5
        exact hb (.inr ⟨j, o', h6, h5⟩)
      | none =>
        rw [hfn id hv] at h4
        rw [hμn id hv] at h5
        exact hb (.inl (by rw [hMc]; exact .inr ⟨id, o, h4, h5, fun i hi => (inv_none hv).1 i (hkeep i hi)⟩))
  have hgro : Gro t.σ μ w σ'' μ'' w' := by
    refine ⟨hg.os, hg.tape, hg.output, hg.size, fun b hl hn => hg.same b hl (fun id o hf => hn _ _ (hp id o hf)), fun id o b hf hb hl => ?_, fun id bt cs hf => ?_, fun id e size xs hf => ?_, fun id es hf => ?_⟩
    · cases hv : inv ρ σc' id with
      | some j =>
        obtain ⟨o', h6, _⟩ := hfs' id j o hv hf
        rw [hμs id j hv] at hb
        obtain ⟨id0, o0, h7, h8⟩ := hg.fresh j o' b h6 hb hl
        exact ⟨ρ id0, _, hp id0 o0 h7, h8⟩
      | none =>
        rw [hfn id hv] at hf
        rw [hμn id hv] at hb
        exact ⟨id, o, hf, hb⟩
    · cases hv : inv ρ σc' id with
      | some j =>
        obtain ⟨rfl, h5⟩ := inv_some hv
        obtain ⟨o', ho'⟩ := has_iff h5
        rcases hfr j o' ho' with h6 | h6
        · obtain ⟨oc, hoc⟩ := has_iff h6
          have h7 := hp j oc hoc
          rw [hf] at h7; injection h7 with h7
          cases oc with
          | row _ _ _ => cases h7
          | mp _ => cases h7
          | box bt0 cs0 =>
            simp only [renO] at h7
            injection h7 with h8 h9; subst h8 h9
            obtain ⟨cs', h10, h11, h12⟩ := hg.box j _ _ hoc
            exact ⟨_, hfs _ j _ hv h10, by simp [h11], (hμs _ j hv).trans h12⟩
        · rw [hf] at h6; cases h6
      | none => exact ⟨cs, by rw [hfn id hv]; exact hf, rfl, hμn id hv⟩
    · cases hv : inv ρ σc' id with
      | some j =>
        obtain ⟨rfl, h5⟩ := inv_some hv
        obtain ⟨o', ho'⟩ := has_iff h5
        rcases hfr j o' ho' with h6 | h6
        · obtain ⟨oc, hoc⟩ := has_iff h6
          have h7 := hp j oc hoc
          rw [hf] at h7; injection h7 with h7
          cases oc with
          | box _ _ => cases h7
          | mp _ => cases h7
          | row e0 n0 xs0 =>
            simp only [renO] at h7
            injection h7 with h8 h9 h10; subst h8 h9 h10
            obtain ⟨xs', h10, h11, h12⟩ := hg.row j _ _ _ hoc
            exact ⟨_, hfs _ j _ hv h10, h11, fun hl => (hμs _ j hv).trans (h12 hl)⟩
        · rw [hf] at h6; cases h6
      | none => exact ⟨xs, by rw [hfn id hv]; exact hf, Nat.le_refl _, fun _ => hμn id hv⟩
    · cases hv : inv ρ σc' id with
      | some j =>
        obtain ⟨rfl, h5⟩ := inv_some hv
        obtain ⟨o', ho'⟩ := has_iff h5
        rcases hfr j o' ho' with h6 | h6
        · obtain ⟨oc, hoc⟩ := has_iff h6
          have h7 := hp j oc hoc
          rw [hf] at h7; injection h7 with h7
          cases oc with
          | box _ _ => cases h7
          | row _ _ _ => cases h7
          | mp es0 =>
            obtain ⟨es', h10, h12⟩ := hg.mp j _ hoc
            exact ⟨es', hfs _ j _ hv h10, (hμs _ j hv).trans h12⟩
        · rw [hf] at h6; cases h6
      | none => exact ⟨es, by rw [hfn id hv]; exact hf, hμn id hv⟩
  have hst : Step t.σ μ w (av t.σ μ Γ.M) σ'' μ'' w' (av σ'' μ'' Γ.M) := hgro.step
  have hkeepblk : ∀ id o b, inv ρ σc' id = none → find t.σ id = some o → blk (μ id) = some b → w'.heap[b]? = w.heap[b]? := by
    intro id o b hv hf hb
    refine hg.same b (ObjRel.lt hsrel hf hb) (fun id' o' hf' hb' => ?_)
    exact (inv_none hv).1 id' (hkeep id' (has_of hf')) (hsrel.inj _ _ _ _ b (hp id' o' hf') hf hb' hb)
  have hsrel'' : SRel σ'' μ'' w' Γ.M := by
    refine ⟨fun id o hf => ?_, fun id id' o o' g h4 h5 h6 h7 => ?_, fun b hb => Nat.lt_of_lt_of_le (hsrel.lt b hb) hg.size, fun id o b h4 h5 hc => ?_⟩
    · cases hv : inv ρ σc' id with
      | some j =>
        obtain ⟨o', h6, rfl⟩ := hfs' id j o hv hf
        have h7 := hs'.obj j o' h6
        have h8 := List.all_eq_true.1 hco' _ (find_mem h6)
        cases o' with
        | box bt cs =>
          obtain ⟨g, us', h9, h10, h11⟩ := h7
          exact ⟨g, us', (hμs id j hv).trans h9, h10, repC_ren hinto' hav' h8 h11⟩
        | row e size xs =>
          obtain ⟨us', h9, h10⟩ := h7
          refine ⟨us', by rw [hμs id j hv]; exact h9, repLL_mono (Step.same_world hav') h10⟩
        | mp es =>
          obtain ⟨g, ents, ck, h9, h10, h11⟩ := h7
          exact ⟨g, ents, ck, (hμs id j hv).trans h9, h10, h11⟩
      | none =>
        rw [hfn id hv] at hf
        have h7 := hsrel.obj id o hf
        cases o with
        | box bt cs =>
          obtain ⟨g, us', h9, h10, h11⟩ := h7
          exact ⟨g, us', (hμn id hv).trans h9, (hkeepblk id _ g hv hf (by rw [h9]; rfl)).trans h10, repC_mono hst h11⟩
        | row e size xs =>
          obtain ⟨us', h9, h10⟩ := h7
          refine ⟨us', ⟨h9.1, ?_⟩, repLL_mono hst.pure h10⟩
          rw [hμn id hv]
          rcases h9.2 with h11 | ⟨g, cap, cur, h11, h12, h13, h14⟩
          · exact .inl h11
          · exact .inr ⟨g, cap, cur, h11, h12, (hkeepblk id _ g hv hf (by rw [h11]; rfl)).trans h13, h14⟩
        | mp es =>
          obtain ⟨g, ents, ck, h9, h10, h11⟩ := h7
          exact ⟨g, ents, ck, (hμn id hv).trans h9, (hkeepblk id _ g hv hf (by rw [h9]; rfl)).trans h10, h11⟩
    · cases hv : inv ρ σc' id with
      | some j =>
        obtain ⟨o1, h8, _⟩ := hfs' id j o hv h4
        rw [hμs id j hv] at h6
        cases hv' : inv ρ σc' id' with
        | some j' =>
          obtain ⟨o2, h9, _⟩ := hfs' id' j' o' hv' h5
          rw [hμs id' j' hv'] at h7
          rw [(inv_some hv).1, (inv_some hv').1, hs'.inj j j' o1 o2 g h8 h9 h6 h7]
        | none =>
          rw [hfn id' hv'] at h5
          rw [hμn id' hv'] at h7
          exact (hs'.dis j o1 g h8 h6 (by rw [hMc]; exact .inr ⟨id', o', h5, h7, fun i hi => (inv_none hv').1 i (hkeep i hi)⟩)).elim
      | none =>
        rw [hfn id hv] at h4
        rw [hμn id hv] at h6
        cases hv' : inv ρ σc' id' with
        | some j' =>
          obtain ⟨o2, h9, _⟩ := hfs' id' j' o' hv' h5
          rw [hμs id' j' hv'] at h7
          exact (hs'.dis j' o2 g h9 h7 (by rw [hMc]; exact .inr ⟨id, o, h4, h6, fun i hi => (inv_none hv).1 i (hkeep i hi)⟩)).elim
        | none =>
          rw [hfn id' hv'] at h5
          rw [hμn id' hv'] at h7
          exact hsrel.inj id id' o o' g h4 h5 h6 h7
    · cases hv : inv ρ σc' id with
      | some j =>
        obtain ⟨o1, h8, _⟩ := hfs' id j o hv h4
        rw [hμs id j hv] at h5
        exact hs'.dis j o1 b h8 h5 (by rw [hMc]; exact .inl hc)
      | none =>
        rw [hfn id hv] at h4
        rw [hμn id hv] at h5
        exact hsrel.dis id o b h4 h5 hc
  have hrel2 := hr.goes hgro hsrel''
  have hfin := hrel2.put hd (x := renA ρ r) (y := y) (rep_ren hinto' hav' hcr hry)
  refine hK μ'' _ _ ?_
  subst hσ''
  exact hfin
end
end Go.Proofs.Ytagfjnjpgphnjaa
