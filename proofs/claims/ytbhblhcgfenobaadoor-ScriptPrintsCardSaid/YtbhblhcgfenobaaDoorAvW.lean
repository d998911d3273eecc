/-
  Walks over abstract values: a method's value (a function with a bound receiver) called; a nil check; a shift by one. Over whatever program. No condition.
-/
import Derived.Test.YtbhblhcgfenobaaDoorAvX
namespace Go.Proofs.YtbhblhcgfenobaaDoor
open Go.RowKit
set_option linter.unusedSimpArgs false
set_option linter.unusedVariables false
section
variable {P : Program} {T : List TyI} {Γ : Ctx} {s : ASt} {μ : Nat → Value} {w : World} {dst : Option Tmp} {ty : TypeId} {pos : String} {after : Array Edge}
theorem run_callB {f : FuncId} (h : CallOK P f) {c : Operand} {args : Array Operand} {argTypes : Array TypeId} {a : Act} {fs ks : List Value} (hc : a.eval c = .func (.func f) fs.toArray ks.toArray) : (execOp a.eval ⟨dst, .call { callee := .value c, args := args, argTypes := argTypes }, ty, pos, after, none⟩).run P w = .ok (.enter f (fs ++ args.toList.map a.eval ++ ks).toArray) w := by
  obtain ⟨fn, h1, h2, h3⟩ := h
  have h4 : args.map a.eval = (args.toList.map a.eval).toArray := by simp [← Array.toList_map]
  have h2' : ¬ fn.name = "runtime.NumGoroutine" := by simpa using h2
  have h3' : fn.body ≠ none := by
    intro h; rw [h] at h3; cases h3
  simp [execOp, resolve, hc, Deferred.ofValue, invoke, callFunc, h1, h2', h3', h4]
theorem Rel.calleeB {t : ASt} {a : Act} (hr : Rel Γ t μ a w) {c : Operand} {f : FuncId} {first caps : List AV} (h : Proofs.YtbhblhcgfenobaaDoor.ev t c = some (.clo (.func f) first caps)) : ∃ fs ks : List Value, a.eval c = .func (.func f) fs.toArray ks.toArray ∧ repL t.σ μ w (av t.σ μ Γ.M) first fs ∧ repL t.σ μ w (av t.σ μ Γ.M) caps ks := by
  have h1 := hr.ev h
  simp only [rep] at h1
  obtain ⟨us, ks, h2, h3, h4⟩ := h1
  exact ⟨us, ks, h2, h3, h4⟩
/-- A method's value is called that only looks at what it is given. -/
theorem ls_callB {f : FuncId} {args : Array Operand} {argTypes : Array TypeId} {c : Operand} {first vs us caps : List AV} {r : AV} (h : PC P f us r) (hc : ev s c = some (.clo (.func f) first caps)) (hargs : evL s args.toList = some vs) (hn : NilL (first ++ vs ++ caps) us) (hp : us.all pureB = true) (hd : okDst Γ.n dst = true) :
    LS P Γ ⟨dst, .call { callee := .value c, args := args, argTypes := argTypes }, ty, pos, after, none⟩ s (rd c (rdL args.toList [])) (dst1 dst r) [] := by
  refine ⟨fun t ht Q μ a w hr K hK => ?_⟩
  obtain ⟨h0, ht⟩ := ht.ev hc
  obtain ⟨fs, ks, hks, hfs, h0⟩ := hr.calleeB h0
  obtain ⟨h1, _⟩ := ht.evL hr hargs
  have h2 := repL_pure (μ' := μ) (repL_nil hn (repL_append (repL_append hfs h1) h0)) hp
  have hM : ∀ b, av t.σ μ Γ.M b → b < w.heap.size := by
    intro b hb
    rcases hb with hb | ⟨id, o, h3, h4⟩
    · exact hr.store.lt b hb
    · exact ObjRel.lt hr.store h3 h4
  have hs0 : SRel [] μ w (av t.σ μ Γ.M) := ⟨fun _ _ h => by simp [find] at h, fun _ _ _ _ _ h => by simp [find] at h, hM, fun _ _ _ h => by simp [find] at h⟩
  have h3 := h.ac.2 w (av t.σ μ Γ.M) μ (fs ++ args.toList.map a.eval ++ ks) hs0 (by
    refine repL_mono (Step.same_world fun b hb hc => hb ?_) h2
    rcases hc with hc | ⟨_, _, hc, _⟩
    · exact hc
    · simp [find] at hc)
  unfold Oper.wp
  rw [run_callB h.ac.1 hks]
  refine Calls.mono h3 ?_
  rintro e w' ⟨y, μ', rfl, h4, h5, h6⟩
  have hb : Below w.heap.size w w' := ⟨h6.os, h6.tape, h6.output, h6.size, fun k hk => h6.same k hk (fun _ _ h => by simp [find] at h)⟩
  have hr2 := hr.world hb
  refine hK μ _ _ (hr2.put hd ?_)
  refine rep_mono (σ := []) (μ := μ') (A := av [] μ' (av t.σ μ Γ.M)) ⟨fun b hb _ => ⟨rfl, fun hc => hb (.inl hc)⟩, Nat.le_refl _, fun _ _ _ h => by simp [find] at h, fun _ _ _ _ h => by simp [find] at h, fun _ _ h => by simp [find] at h, fun _ h => by simp [find] at h⟩ h5
/-- A pointer into a box is not nil. -/
theorem ls_nilCheck {x : Operand} {id off : Nat} (hx : ev s x = some (.ref id off)) (hd : okDst Γ.n dst = true) :
    LS P Γ ⟨dst, .nilCheck x, ty, pos, after, none⟩ s (rd x []) (dst1 dst (.ref id off)) [] :=
  ls_pure hd fun t' ht μ a w hr => by
    obtain ⟨e1, ht⟩ := ht.ev hx
    have e1 := hr.ev e1
    simp only [rep] at e1 ⊢
    obtain ⟨t, cs, g, h1, h2, h3, h4⟩ := e1
    refine ⟨.pointer (some ⟨g, off, none⟩), ?_, t, cs, g, h1, h2, h3, rfl⟩
    simp [execOp, h4]
theorem ls_callAB {f : FuncId} {args : Array Operand} {argTypes : Array TypeId} {c : Operand} {first vs us caps : List AV} {r : AV} {σc σc' : Store} (l : List Nat) (b : Nat) (h : AC P f us σc r σc') (hc : ev s c = some (.clo (.func f) first caps)) (hargs : evL s args.toList = some vs) (hn : NilL (first ++ vs ++ caps) (us.map (renB (rho l b)))) (hcl : us.all (closB σc) = true)
    (hpass : Pass (rho l b) s σc) (hco : σc.all (fun p => closO σc p.2) = true) (hinj : injB (rho l b) (σc.map Prod.fst) = true) (hinj' : injB (rho l b) (σc'.map Prod.fst) = true)
    (hnew : σc'.all (fun p => has σc p.1 || !has s.σ (rho l b p.1)) = true) (hcr : closA σc' r = true) (hco' : σc'.all (fun p => closO σc' p.2) = true) (hd : okDst Γ.n dst = true) :
    LS P Γ ⟨dst, .call { callee := .value c, args := args, argTypes := argTypes }, ty, pos, after, none⟩ s (rd c (rdL args.toList (objs (rho l b) σc ++ (objs (rho l b) σc' ++ [])))) (dst1 dst (renA (rho l b) r)) (σc'.map fun p => (rho l b p.1, renO (rho l b) p.2)) := by
  refine ⟨fun t ht Q μ a w hr K hK => ?_⟩
  obtain ⟨h0, ht⟩ := ht.ev hc
  obtain ⟨fs, ks, hks, hfs, h0⟩ := hr.calleeB h0
  obtain ⟨h1, ht⟩ := ht.evL hr hargs
  obtain ⟨hp, hfr⟩ := pass_fresh ht hpass hnew
  exact call_core l b (fun M μ vs _ => h.out w M μ vs) hr (repL_append (repL_append hfs h1) h0) hn hcl hp hfr hco hinj hinj' hcr hco' hd (run_callB h.ok hks) hK
end
end Go.Proofs.YtbhblhcgfenobaaDoor
