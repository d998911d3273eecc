/-
  Walks over abstract values: contracts that lean on a fact on memory which hangs on kept blocks alone (a table of a package). Over whatever program. No condition.
-/
import Derived.Test.YtbhblhcgfenobaaDoorAvX
import Derived.Test.YtbhblhcgfenobaaDoorAvW
namespace Go.Proofs.YtbhblhcgfenobaaDoor
open Go.RowKit
set_option linter.unusedSimpArgs false
set_option linter.unusedVariables false
/-- a fact that hangs on the kept blocks alone -/
def TB (T : World → Prop) (M : Nat → Prop) (w : World) : Prop := ∀ w' : World, (∀ b, M b → w'.heap[b]? = w.heap[b]?) → T w'
structure TBG (T : World → Prop) (Γ : Ctx) : Prop where
  tb : TB T Γ.M Γ.w0
  lt : ∀ b, Γ.M b → b < Γ.w0.heap.size
  dis : ∀ id o b, find Γ.σ0 id = some o → blk (Γ.μ0 id) = some b → ¬ Γ.M b
section
variable {P : Program} {Γ : Ctx} {T : World → Prop} {s t : ASt} {σ σ' : Store}
theorem TB.here {M : Nat → Prop} {w : World} (h : TB T M w) : T w := h w fun _ _ => rfl
theorem TB.more {M M' : Nat → Prop} {w : World} (h : TB T M w) (hm : ∀ b, M b → M' b) : TB T M' w := fun w' hw => h w' fun b hb => hw b (hm b hb)
theorem TBG.at_ (h : TBG T Γ) {μ : Nat → Value} {a : Act} {w : World} (hr : Rel Γ t μ a w) : TB T Γ.M w := fun w' hw => h.tb w' fun b hb => (hw b hb).trans (hr.gro.same b (h.lt b hb) fun id o hf he => h.dis id o b hf he hb)
/-- A contract that leans on it. -/
structure ACT (P : Program) (T : World → Prop) (f : FuncId) (args : List AV) (σ : Store) (r : AV) (σ' : Store) : Prop where
  ok : CallOK P f
  out : ∀ (w : World) (M : Nat → Prop) (μ : Nat → Value) (vs : List Value), TB T M w → SRel σ μ w M → repL σ μ w (av σ μ M) args vs →
    Calls P f vs.toArray w fun e w' => ∃ y μ', e = .returned y ∧ SRel σ' μ' w' M ∧ rep σ' μ' w' (av σ' μ' M) r y ∧ Gro σ μ w σ' μ' w'
structure PCT (P : Program) (T : World → Prop) (f : FuncId) (args : List AV) (r : AV) : Prop where
  ac : ACT P T f args [] r []
theorem AC.tb {f : FuncId} {args : List AV} {r : AV} (h : AC P f args σ r σ') : ACT P T f args σ r σ' := ⟨h.ok, fun w M μ vs _ => h.out w M μ vs⟩
theorem PC.tb {f : FuncId} {args : List AV} {r : AV} (h : PC P f args r) : PCT P T f args r := ⟨AC.tb h.ac⟩
theorem act_body {TY : List TyI} (hT : okTab P TY = true) {f : FuncId} {fn : Func} {c : Code} {args : List AV} {r : AV} (hf : P.funcs[f]? = some fn) (hb : fn.body = some c) (hname : (fn.name == "runtime.NumGoroutine") = false) (h0 : σ.all (fun p => has σ' p.1) = true)
    (H : ∀ w0 M μ0, TBG T ⟨w0, M, σ, μ0, args.length + (fn.ntmps - args.length), none, w0.heap.size⟩ → AWP P ⟨w0, M, σ, μ0, args.length + (fn.ntmps - args.length), none, w0.heap.size⟩ c (RetQ TY fn.results.toList r σ') ⟨numb 0 args, σ⟩) : ACT P T f args σ r σ' := by
  refine ⟨⟨fn, hf, hname, by rw [hb]; rfl⟩, fun w M μ vs hTB hs hrep => ?_⟩
  refine (callsIn_wide (n := 0)).1 (callsIn_of_wp_marks hf hb trivial ?_ rfl)
  have hlen := repL_len hrep
  have hrel : Rel ⟨w, M, σ, μ, args.length + (fn.ntmps - args.length), none, w.heap.size⟩ ⟨numb 0 args, σ⟩ μ { tmps := vs.toArray ++ Array.replicate (fn.ntmps - vs.toArray.size) undef, defers := [] } w := by
    refine ⟨marks_nil, by simp [hlen], fun t x hx => ?_, hs, Gro.refl⟩
    obtain ⟨j, rfl, hj⟩ := find_numb hx
    obtain ⟨u, h1, h2⟩ := repL_get hrep hj
    have hlt : j < vs.length := (List.getElem?_eq_some_iff.1 h1).1
    have : (vs.toArray ++ Array.replicate (fn.ntmps - vs.toArray.size) undef)[0 + j]? = some u := by
      rw [Array.getElem?_append_left (by simpa using hlt)]
      simpa using h1
    rw [Array.getD_eq_getD_getElem?, this]
    exact h2
  refine wpIn_mono ((H w M μ ⟨hTB, hs.lt, fun id o b h1 h2 => hs.dis id o b h1 h2⟩).out μ _ w hrel) ?_
  rintro e a w' ⟨s', μ', hr', he, vs', hvs, hfin, hk⟩
  have hfin : LeavesInM Fence.wide 0 P fn a.tmps (fun e w' => ∃ y μ', e = .returned y ∧ SRel σ' μ' w' M ∧ rep σ' μ' w' (av σ' μ' M) r y ∧ Gro σ μ w σ' μ' w') a.defers .returning w' := by
    refine leave_ok hT (Nat.le_refl _) a.defers hr' rfl hvs fun a' w2 hr2 y h1 h2 => ?_
    have h3 := finA_rep hr2.store hk hfin h2
    have h4 := hk.srel hr2.store
    have h5 := hk.gro hr2.gro (fun id o hf => by
      have key : ∀ l : Store, l.all (fun p => has σ' p.1) = true → find l id = some o → has σ' id = true := by
        intro l
        induction l with
        | nil => intro _ h; simp [find] at h
        | cons p l ih =>
          intro hl h
          obtain ⟨k, x⟩ := p
          simp only [List.all_cons, Bool.and_eq_true] at hl
          rw [find_cons] at h
          split at h
          · rename_i e; subst e; exact hl.1
          · exact ih hl.2 h
      exact key σ h0 hf)
    exact ⟨y, μ', rfl, h4, h3, h5⟩
  rcases he with rfl | rfl
  · exact hfin
  · exact hfin
variable {dst : Option Tmp} {ty : TypeId} {pos : String} {after : Array Edge}
theorem ls_callT (hG : TBG T Γ) {f : FuncId} {args : Array Operand} {argTypes : Array TypeId} {c : Operand} {vs us caps : List AV} {r : AV} (h : PCT P T f us r) (hc : ev s c = some (.clo (.func f) [] caps)) (hargs : evL s args.toList = some vs) (hn : NilL (vs ++ caps) us) (hp : us.all pureB = true) (hd : okDst Γ.n dst = true) :
    LS P Γ ⟨dst, .call { callee := .value c, args := args, argTypes := argTypes }, ty, pos, after, none⟩ s (rd c (rdL args.toList [])) (dst1 dst r) [] := by
  refine ⟨fun t ht Q μ a w hr K hK => ?_⟩
  have hTB := hG.at_ hr
  obtain ⟨h0, ht⟩ := ht.ev hc
  obtain ⟨ks, hks, h0⟩ := hr.callee h0
  obtain ⟨h1, _⟩ := ht.evL hr hargs
  have h2 := repL_pure (μ' := μ) (repL_nil hn (repL_append h1 h0)) hp
  have hM : ∀ b, av t.σ μ Γ.M b → b < w.heap.size := by
    intro b hb
    rcases hb with hb | ⟨id, o, h3, h4⟩
    · exact hr.store.lt b hb
    · exact ObjRel.lt hr.store h3 h4
  have hs0 : SRel [] μ w (av t.σ μ Γ.M) := ⟨fun _ _ h => by simp [find] at h, fun _ _ _ _ _ h => by simp [find] at h, hM, fun _ _ _ h => by simp [find] at h⟩
  have h3 := h.ac.out w (av t.σ μ Γ.M) μ (args.toList.map a.eval ++ ks) (hTB.more fun b hb => .inl hb) hs0 (by
    refine repL_mono (Step.same_world fun b hb hc => hb ?_) h2
    rcases hc with hc | ⟨_, _, hc, _⟩
    · exact hc
    · simp [find] at hc)
  unfold Oper.wp
  rw [run_call h.ac.ok hks]
  refine Calls.mono h3 ?_
  rintro e w' ⟨y, μ', rfl, h4, h5, h6⟩
  have hb : Below w.heap.size w w' := ⟨h6.os, h6.tape, h6.output, h6.size, fun k hk => h6.same k hk (fun _ _ h => by simp [find] at h)⟩
  have hr2 := hr.world hb
  refine hK μ _ _ (hr2.put hd ?_)
  refine rep_mono (σ := []) (μ := μ') (A := av [] μ' (av t.σ μ Γ.M)) ⟨fun b hb _ => ⟨rfl, fun hc => hb (.inl hc)⟩, Nat.le_refl _, fun _ _ _ h => by simp [find] at h, fun _ _ _ _ h => by simp [find] at h, fun _ _ h => by simp [find] at h, fun _ h => by simp [find] at h⟩ h5
theorem ls_callAT (hG : TBG T Γ) {f : FuncId} {args : Array Operand} {argTypes : Array TypeId} {c : Operand} {first vs us caps : List AV} {r : AV} {σc σc' : Store} (l : List Nat) (b : Nat) (h : ACT P T f us σc r σc') (hc : ev s c = some (.clo (.func f) first caps)) (hargs : evL s args.toList = some vs) (hn : NilL (first ++ vs ++ caps) (us.map (renB (rho l b)))) (hcl : us.all (closB σc) = true)
    (hpass : Pass (rho l b) s σc) (hco : σc.all (fun p => closO σc p.2) = true) (hinj : injB (rho l b) (σc.map Prod.fst) = true) (hinj' : injB (rho l b) (σc'.map Prod.fst) = true)
    (hnew : σc'.all (fun p => has σc p.1 || !has s.σ (rho l b p.1)) = true) (hcr : closA σc' r = true) (hco' : σc'.all (fun p => closO σc' p.2) = true) (hd : okDst Γ.n dst = true) :
    LS P Γ ⟨dst, .call { callee := .value c, args := args, argTypes := argTypes }, ty, pos, after, none⟩ s (rd c (rdL args.toList (objs (rho l b) σc ++ (objs (rho l b) σc' ++ [])))) (dst1 dst (renA (rho l b) r)) (σc'.map fun p => (rho l b p.1, renO (rho l b) p.2)) := by
  refine ⟨fun t ht Q μ a w hr K hK => ?_⟩
  have hTB := hG.at_ hr
  obtain ⟨h0, ht⟩ := ht.ev hc
  obtain ⟨fs, ks, hks, hfs, h0⟩ := hr.calleeB h0
  obtain ⟨h1, ht⟩ := ht.evL hr hargs
  obtain ⟨hp, hfr⟩ := pass_fresh ht hpass hnew
  exact call_core l b (fun M μ vs hM => h.out w M μ vs (hTB.more hM)) hr (repL_append (repL_append hfs h1) h0) hn hcl hp hfr hco hinj hinj' hcr hco' hd (run_callB h.ok hks) hK
/-- What is known of a call at memory, where only scalars come and go. -/
theorem pct_of_calls {f : FuncId} {xs : List Value} {r : Value} (ok : CallOK P f) (h : ∀ w, T w → Calls P f xs.toArray w fun e w' => e = .returned r ∧ Below w.heap.size w w') (hs : scal r = true) : PCT P T f (xs.map .v) (.v r) := by
  refine ⟨ok, fun w M μ vs hTB hsr hrep => ?_⟩
  have key : ∀ (xs vs : List Value), repL [] μ w (av [] μ M) (xs.map .v) vs → vs = xs := by
    intro xs
    induction xs with
    | nil => intro vs h; simpa only [List.map_nil, repL] using h
    | cons x xs ih =>
      intro vs h
      simp only [List.map_cons, repL, rep] at h
      obtain ⟨u, us', rfl, ⟨rfl, _⟩, h2⟩ := h
      rw [ih us' h2]
  rw [key xs vs hrep]
  refine (h w hTB.here).mono ?_
  rintro e w' ⟨rfl, hb⟩
  refine ⟨r, μ, rfl, ⟨fun _ _ h => by simp [find] at h, fun _ _ _ _ _ h => by simp [find] at h, fun b hb' => Nat.lt_of_lt_of_le (hsr.lt b hb') hb.size, fun _ _ _ h => by simp [find] at h⟩, by simp only [rep]; exact ⟨trivial, hs⟩, ⟨hb.os, hb.tape, hb.output, hb.size, fun b hl _ => hb.block b hl, fun _ _ _ h => by simp [find] at h, fun _ _ _ h => by simp [find] at h, fun _ _ _ _ h => by simp [find] at h, fun _ _ h => by simp [find] at h, fun _ h => by simp [find] at h⟩⟩
/-- A contract as a law's row wants it. -/
theorem PCT.law {f : FuncId} {args : List AV} {r : Value} (h : PCT P T f args (.v r)) {w : World} {vs : List Value} (M : Nat → Prop) (hT : TB T M w) (hM : ∀ b, M b → b < w.heap.size) (hrep : repL [] (fun _ => undef) w M args vs) : Calls P f vs.toArray w fun e w' => e = .returned r ∧ Below w.heap.size w w' := by
  have hs0 : SRel [] (fun _ => undef) w M := ⟨fun _ _ h => by simp [find] at h, fun _ _ _ _ _ h => by simp [find] at h, hM, fun _ _ _ h => by simp [find] at h⟩
  refine (h.ac.out w M _ vs hT hs0 (repL_mono (Step.same_world fun b hb hc => ?_) hrep)).mono ?_
  · rcases hc with hc | ⟨_, _, hc, _⟩
    · exact hb hc
    · simp [find] at hc
  · rintro e w' ⟨y, μ', rfl, _, h2, h3⟩
    simp only [rep] at h2
    exact ⟨by rw [h2.1], ⟨h3.os, h3.tape, h3.output, h3.size, fun k hk => h3.same k hk (fun _ _ h => by simp [find] at h)⟩⟩
end
end Go.Proofs.YtbhblhcgfenobaaDoor
