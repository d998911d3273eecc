/-
  Walks over abstract values: interface values; a row that is cut. Over whatever program. No condition.
-/
import Derived.Test.YteooamoagkcgnaaAvX
namespace Go.Proofs.Yteooamoagkcgnaa
open Go.RowKit
set_option linter.unusedSimpArgs false
set_option linter.unusedVariables false
section
variable {P : Program} {T : List TyI} {Γ : Ctx} {s : ASt} {σ : Store} {μ : Nat → Value} {w : World} {M : Nat → Prop} {dst : Option Tmp} {ty : TypeId} {pos : String} {after : Array Edge}
/-- no type of interfaces -/
def plainT (P : Program) (t : TypeId) : Bool := match P.underlying t with
  | some (.interface _) => false
  | some _ => true
  | none => false
theorem run_mk {t : TypeId} (h : plainT P t = true) (x : Value) : (Instr.makeInterface t x).run P w = .ok (.iface t x) w := by
  unfold plainT at h
  split at h
  · cases h
  · rename_i u hn hu
    simp only [Instr.makeInterface, Sem.run_bind, run_underlying hu, Result.andThen_ok]
    cases u <;> first | rfl | exact absurd rfl (hn _)
  · cases h
theorem ls_mkIfr {x : Operand} {t id off : Nat} (hx : ev s x = some (.ref id off)) (ht : plainT P t = true) (hd : okDst Γ.n dst = true) : LS P Γ ⟨dst, .makeInterface t x, ty, pos, after, none⟩ s (rd x []) (dst1 dst (.ifr t id off)) [] :=
  ls_pure hd fun t' h μ a w hr => by
    obtain ⟨e1, h⟩ := h.ev hx
    have e1 := hr.ev e1
    simp only [rep] at e1 ⊢
    obtain ⟨bt, cs, g, e3, e4, e5, e6⟩ := e1
    exact ⟨_, by simp only [execOp, e6, Sem.run_bind, run_mk ht, Result.andThen_ok, Sem.run_pure], bt, cs, g, e3, e4, e5, rfl⟩
def allV : List AV → Option (List Value)
  | [] => some []
  | .v x :: l => match scal x && x.oneCell', allV l with
    | true, some r => some (x :: r)
    | _, _ => none
  | _ :: _ => none
theorem repC_allV {A : Nat → Prop} : ∀ {cs : List AV} {us vs : List Value}, repC σ μ w A cs us → allV cs = some vs → us = vs ∧ (vs.all fun c => scal c && c.oneCell') = true
  | [], us, vs, h, e => by simp only [repC] at h; simp only [allV, Option.some.injEq] at e; subst e; exact ⟨h, rfl⟩
  | .v x :: l, us, vs, h, e => by
    simp only [repC] at h
    obtain ⟨u, us', rfl, h0, h1, h2⟩ := h
    simp only [allV] at e
    split at e
    · rename_i r e1 e2
      injection e with e; subst e
      obtain ⟨h3, h4⟩ := repC_allV h2 e2
      simp only [rep] at h1
      rw [h1.1, h3]
      refine ⟨rfl, ?_⟩
      rw [List.all_cons, h4, e1]; rfl
    · cases e
  | .agg _ :: _, _, _, _, e => by cases e
  | .tup _ :: _, _, _, _, e => by cases e
  | .sl _ _ :: _, _, _, _, e => by cases e
  | .own _ _ :: _, _, _, _, e => by cases e
  | .ref _ _ :: _, _, _, _, e => by cases e
  | .eref _ _ _ _ :: _, _, _, _, e => by cases e
  | .el _ :: _, _, _, _, e => by cases e
  | .clo _ _ _ :: _, _, _, _, e => by cases e
  | .mp _ :: _, _, _, _, e => by cases e
  | .ifr _ _ _ :: _, _, _, _, e => by cases e
  | .ifa _ _ :: _, _, _, _, e => by cases e
  | .ife :: _, _, _, _, e => by cases e
theorem ls_mkIfa {x : Operand} {t : Nat} {cs : List AV} {vs : List Value} (hx : ev s x = some (.agg cs)) (hv : allV cs = some vs) (ht : plainT P t = true) (hd : okDst Γ.n dst = true) : LS P Γ ⟨dst, .makeInterface t x, ty, pos, after, none⟩ s (rd x []) (dst1 dst (.ifa t vs)) [] :=
  ls_pure hd fun t' h μ a w hr => by
    obtain ⟨e1, h⟩ := h.ev hx
    have e1 := hr.ev e1
    simp only [rep] at e1 ⊢
    obtain ⟨us, e3, e4⟩ := e1
    obtain ⟨rfl, e5⟩ := repC_allV e4 hv
    exact ⟨_, by simp only [execOp, e3, Sem.run_bind, run_mk ht, Result.andThen_ok, Sem.run_pure], rfl, e5⟩
theorem run_assert {t xt : TypeId} (h : plainT P t = true) (x : Value) (c : Bool) : (Instr.typeAssert (.iface t x) xt t c).run P w = .ok (if c then .tuple #[x, .bool true] else x) w := by
  unfold plainT at h
  split at h
  · cases h
  · rename_i u hn hu
    simp only [Instr.typeAssert, Sem.run_bind, run_underlying hu, Result.andThen_ok]
    cases u <;> first | exact absurd rfl (hn _) | simp
  · cases h
theorem ls_assert {x : Operand} {t xt : Nat} {vs : List Value} (hx : ev s x = some (.ifa t vs)) (ht : plainT P t = true) (hd : okDst Γ.n dst = true) : LS P Γ ⟨dst, .typeAssert x xt t false, ty, pos, after, none⟩ s (rd x []) (dst1 dst (.agg (vs.map .v))) [] :=
  ls_pure hd fun t' h μ a w hr => by
    obtain ⟨e1, h⟩ := h.ev hx
    have e1 := hr.ev e1
    simp only [rep] at e1 ⊢
    exact ⟨.agg vs.toArray, by simp only [execOp, e1.1, Sem.run_bind, run_assert ht, Result.andThen_ok, Sem.run_pure, Bool.false_eq_true, if_false], _, rfl, repC_con e1.2⟩
theorem ls_assertOk {x : Operand} {t xt : Nat} {vs : List Value} (hx : ev s x = some (.ifa t vs)) (ht : plainT P t = true) (hd : okDst Γ.n dst = true) : LS P Γ ⟨dst, .typeAssert x xt t true, ty, pos, after, none⟩ s (rd x []) (dst1 dst (.tup [.agg (vs.map .v), .v (.bool true)])) [] :=
  ls_pure hd fun t' h μ a w hr => by
    obtain ⟨e1, h⟩ := h.ev hx
    have e1 := hr.ev e1
    simp only [rep] at e1 ⊢
    refine ⟨.tuple #[.agg vs.toArray, .bool true], by simp only [execOp, e1.1, Sem.run_bind, run_assert ht, Result.andThen_ok, Sem.run_pure, if_true], [_, _], rfl, ?_⟩
    simp only [repL, rep]
    exact ⟨_, _, rfl, ⟨_, rfl, repC_con e1.2⟩, _, _, rfl, ⟨rfl, rfl⟩, rfl⟩
/-! methods, called through an interface value -/
def meth (P : Program) (t : TypeId) (name : String) : Option (Array FieldStep × Option (FuncId × Bool)) := (P.info? t).bind fun i => (i.methods.find? (·.name == name)).map fun m => (m.path, m.func)
theorem meth_at {t : TypeId} {name : String} {q : Array FieldStep × Option (FuncId × Bool)} (h : meth P t name = some q) : ∃ i m, P.info? t = some i ∧ i.methods.find? (·.name == name) = some m ∧ m.path = q.1 ∧ m.func = q.2 := by
  unfold meth at h
  cases hi : P.info? t with
  | none => rw [hi] at h; cases h
  | some i =>
    rw [hi] at h
    simp only [Option.bind_some] at h
    cases hm : i.methods.find? (·.name == name) with
    | none => rw [hm] at h; cases h
    | some m =>
      rw [hm] at h
      simp only [Option.map_some, Option.some.injEq] at h
      exact ⟨i, m, rfl, hm, by rw [← h], by rw [← h]⟩
/-- a method on the pointer -/
theorem run_methP {t e : TypeId} {name : String} {f : FuncId} (h : meth P t name = some (#[], some (f, true))) (hu : P.underlying t = some (.pointer e)) (x : Value) (n : Nat) : (Go.method (n + 1) t x name).run P w = .ok (f, x) w := by
  obtain ⟨i, m, h1, h2, h3, h4⟩ := meth_at h
  simp [Go.method, typeInfo, h1, h2, h3, h4, Go.follow, Go.receiverAt, run_underlying hu, Place.get]
theorem run_nilchk (t : TypeId) (ad : Addr) (x y : ByteArray) : (Builtin.ssaWrapNilChk_ #[t] t #[.pointer (some ad), .string x, .string y]).run P w = .ok (.pointer (some ad)) w := rfl
/-- a method on the value that the pointer points to -/
theorem run_methV {t e : TypeId} {name : String} {f : FuncId} (h : meth P t name = some (#[], some (f, false))) (hu : P.underlying t = some (.pointer e)) {ad : Addr} {y : Value} (hl : (loadVar e ad).run P w = .ok y w) (n : Nat) : (Go.method (n + 1) t (.pointer (some ad)) name).run P w = .ok (f, y) w := by
  obtain ⟨i, m, h1, h2, h3, h4⟩ := meth_at h
  simp [Go.method, typeInfo, h1, h2, h3, h4, Go.follow, Go.receiverAt, run_underlying hu, Place.get, strVal, run_nilchk, asAddr, hl]
theorem run_enter {f : FuncId} (h : CallOK P f) (args : Array Value) : (callFunc f args).run P w = .ok (.enter f args) w := by
  obtain ⟨fn, h1, h2, h3⟩ := h
  have h2' : ¬ fn.name = "runtime.NumGoroutine" := by simpa using h2
  have h3' : fn.body ≠ none := by
    intro h; rw [h] at h3; cases h3
  simp [callFunc, h1, h2', h3']
theorem run_inv {t : TypeId} {v y : Value} {name : String} {f : FuncId} (h : CallOK P f) (hm : ∀ n, (Go.method (n + 1) t v name).run P w = .ok (f, y) w) {c : Operand} {args : Array Operand} {argTypes : Array TypeId} {a : Act} (hc : a.eval c = .iface t v) :
    (execOp a.eval ⟨dst, .call { callee := .invoke c name, args := args, argTypes := argTypes }, ty, pos, after, none⟩).run P w = .ok (.enter f (y :: args.toList.map a.eval).toArray) w := by
  have h9 : 0 < Made.depth := by decide
  have hd : ∃ n, P.types.size + Made.depth = n + 1 := ⟨P.types.size + Made.depth - 1, by omega⟩
  obtain ⟨n, hn⟩ := hd
  have h4 : args.map a.eval = (args.toList.map a.eval).toArray := by simp [← Array.toList_map]
  have h5 : (#[Value.iface t v] ++ (args.toList.map a.eval).toArray).extract 1 (#[Value.iface t v] ++ (args.toList.map a.eval).toArray).size = (args.toList.map a.eval).toArray := by
    simp only [List.append_toArray, List.extract_toArray]
    simp [List.extract_eq_take_drop]
    exact List.take_of_length_le (by simp)
  simp only [execOp, resolve, hc, h4, Sem.run_bind, Sem.run_pure, Result.andThen_ok, invoke]
  rw [show (#[Value.iface t v] ++ (args.toList.map a.eval).toArray)[0]? = some (Value.iface t v) by simp]
  simp only [h5, callMethod, Sem.run_bind, run_program, Result.andThen_ok, hn, hm n, run_enter h]
  simp
/-- A method on the pointer, called through an interface value. -/
theorem ls_invP {f : FuncId} {args : Array Operand} {argTypes : Array TypeId} {c : Operand} {t id off e : Nat} {name : String} {vs us : List AV} {r : AV} {σc σc' : Store} (l : List Nat) (b : Nat) (h : AC P f us σc r σc') (hm : meth P t name = some (#[], some (f, true))) (hu : P.underlying t = some (.pointer e)) (hc : ev s c = some (.ifr t id off)) (hargs : evL s args.toList = some vs) (hn : NilL (.ref id off :: vs) (us.map (renB (rho l b)))) (hcl : us.all (closB σc) = true)
    (hpass : Pass (rho l b) s σc) (hco : σc.all (fun p => closO σc p.2) = true) (hinj : injB (rho l b) (σc.map Prod.fst) = true) (hinj' : injB (rho l b) (σc'.map Prod.fst) = true)
    (hnew : σc'.all (fun p => has σc p.1 || !has s.σ (rho l b p.1)) = true) (hcr : closA σc' r = true) (hco' : σc'.all (fun p => closO σc' p.2) = true) (hd : okDst Γ.n dst = true) :
    LS P Γ ⟨dst, .call { callee := .invoke c name, args := args, argTypes := argTypes }, ty, pos, after, none⟩ s (rd c (rdL args.toList (objs (rho l b) σc ++ (objs (rho l b) σc' ++ [])))) (dst1 dst (renA (rho l b) r)) (σc'.map fun p => (rho l b p.1, renO (rho l b) p.2)) := by
  refine ⟨fun t' ht Q μ a w hr K hK => ?_⟩
  obtain ⟨h0, ht⟩ := ht.ev hc
  have h0 := hr.ev h0
  simp only [rep] at h0
  obtain ⟨bt, cs, g, h2, h3, h4, h5⟩ := h0
  obtain ⟨h1, ht⟩ := ht.evL hr hargs
  obtain ⟨hp, hfr⟩ := pass_fresh ht hpass hnew
  refine call_core l b h hr (vs := .ref id off :: vs) (ys := .pointer (some ⟨g, off, none⟩) :: args.toList.map a.eval) ?_ hn hcl hp hfr hco hinj hinj' hcr hco' hd (run_inv h.ok (fun n => run_methP hm hu _ n) h5) hK
  simp only [repL, rep]
  exact ⟨_, _, rfl, ⟨bt, cs, g, h2, h3, h4, rfl⟩, h1⟩
/-- A method on what the pointer points to. -/
theorem ls_invV (hT : okTab P T = true) {f : FuncId} {args : Array Operand} {argTypes : Array TypeId} {c : Operand} {t id off e bt : Nat} {cs cs1 : List AV} {ti : TyI} {v0 : AV} {name : String} {vs us : List AV} {r : AV} {σc σc' : Store} (l : List Nat) (b : Nat) (h : AC P f us σc r σc') (hm : meth P t name = some (#[], some (f, false))) (hu : P.underlying t = some (.pointer e)) (hc : ev s c = some (.ifr t id off)) (hσ : find s.σ id = some (.box bt cs)) (hty : nth T e = some ti) (h1 : dropN cs off = some cs1) (h2 : ldv ti cs1 = some v0)
    (hargs : evL s args.toList = some vs) (hn : NilL (v0 :: vs) (us.map (renB (rho l b)))) (hcl : us.all (closB σc) = true)
    (hpass : Pass (rho l b) s σc) (hco : σc.all (fun p => closO σc p.2) = true) (hinj : injB (rho l b) (σc.map Prod.fst) = true) (hinj' : injB (rho l b) (σc'.map Prod.fst) = true)
    (hnew : σc'.all (fun p => has σc p.1 || !has s.σ (rho l b p.1)) = true) (hcr : closA σc' r = true) (hco' : σc'.all (fun p => closO σc' p.2) = true) (hd : okDst Γ.n dst = true) :
    LS P Γ ⟨dst, .call { callee := .invoke c name, args := args, argTypes := argTypes }, ty, pos, after, none⟩ s (rd c (.obj id :: rdL args.toList (objs (rho l b) σc ++ (objs (rho l b) σc' ++ [])))) (dst1 dst (renA (rho l b) r)) (σc'.map fun p => (rho l b p.1, renO (rho l b) p.2)) := by
  refine ⟨fun t' ht Q μ a w hr K hK => ?_⟩
  obtain ⟨h0, ht⟩ := ht.ev hc
  have e2 : find t'.σ id = some (.box bt cs) := ht.1.trans hσ
  have h0 := hr.ev h0
  simp only [rep] at h0
  obtain ⟨bt', cs', g, e3, h3, h4, h5⟩ := h0
  rw [e2] at e3
  injection e3 with e3; injection e3 with e3 e7; subst e3 e7
  obtain ⟨g', us', e8, e9, e10⟩ := hr.store.obj id _ e2
  rw [h4] at e8
  injection e8 with e8; injection e8 with e8; injection e8 with e8; subst e8
  obtain ⟨_, rfl⟩ := dropN_spec h1
  obtain ⟨y, h6, h7⟩ := load_ok hT hty h2 (repC_drop off e10) (blk_cells e9 off)
  obtain ⟨h8, ht⟩ := ht.2.evL hr hargs
  obtain ⟨hp, hfr⟩ := pass_fresh ht hpass hnew
  refine call_core l b h hr (vs := v0 :: vs) (ys := y :: args.toList.map a.eval) ?_ hn hcl hp hfr hco hinj hinj' hcr hco' hd (run_inv h.ok (fun n => run_methV hm hu h6 n) h5) hK
  simp only [repL]
  exact ⟨_, _, rfl, h7, h8⟩
/-! a row that is cut -/
theorem own_cut {g c n k size : Nat} {e : TypeId} {us : List Value} (h : w.ownsRow 0 e size (.slice (some ⟨g, 0, none⟩) n c) n us) (hk : k ≤ n) : w.ownsRow 0 e size (.slice (some ⟨g, 0, none⟩) k c) k (us.take (k * size)) := by
  rcases h.2 with ⟨h1, _⟩ | ⟨g', cap, cur, h1, h2, h3, h4, h5, h6, h7⟩
  · cases h1
  injection h1 with h1 h8 h9
  injection h1 with h1; injection h1 with h1; subst h1 h9
  have hle : k * size ≤ n * size := Nat.mul_le_mul_right _ hk
  refine ⟨by rw [List.length_take, h.1]; exact Nat.min_eq_left hle, .inr ⟨g, c, cur, rfl, h2, h3, by omega, h5, h6, ?_⟩⟩
  rw [← h7, List.take_take, Nat.min_eq_left hle]
def cutμ (μ : Nat → Value) (id id' : Nat) (v : Value) : Nat → Value := fun i => if i = id then .nilFunc else if i = id' then v else μ i
theorem cut_rel (hs : SRel σ μ w M) {id id' g n c k : Nat} {e : TypeId} {size : Nat} {xs : List (List AV)} (e0 : find σ id = some (.row e size xs)) (hk' : find σ id' = none) (hv : μ id = .slice (some ⟨g, 0, none⟩) n c) (hn : n = xs.length) (hk : k ≤ n) :
    Gro σ μ w ((id, .dead) :: (id', .row e size (xs.take k)) :: σ) (cutμ μ id id' (.slice (some ⟨g, 0, none⟩) k c)) w ∧ SRel ((id, .dead) :: (id', .row e size (xs.take k)) :: σ) (cutμ μ id id' (.slice (some ⟨g, 0, none⟩) k c)) w M := by
  have hne : id ≠ id' := fun h => by subst h; rw [hk'] at e0; cases e0
  have f1 : find ((id, SObj.dead) :: (id', .row e size (xs.take k)) :: σ) id = some .dead := by rw [find_cons, if_pos rfl]
  have f2 : find ((id, SObj.dead) :: (id', .row e size (xs.take k)) :: σ) id' = some (.row e size (xs.take k)) := by rw [find_cons, if_neg hne, find_cons, if_pos rfl]
  have f3 : ∀ i, i ≠ id → i ≠ id' → find ((id, SObj.dead) :: (id', .row e size (xs.take k)) :: σ) i = find σ i := fun i h1 h2 => by rw [find_cons, if_neg (Ne.symm h1), find_cons, if_neg (Ne.symm h2)]
  have m1 : blk (cutμ μ id id' (.slice (some ⟨g, 0, none⟩) k c) id) = none := by simp [cutμ, blk]
  have m2 : cutμ μ id id' (.slice (some ⟨g, 0, none⟩) k c) id' = .slice (some ⟨g, 0, none⟩) k c := by simp [cutμ, Ne.symm hne]
  have m3 : ∀ i, i ≠ id → i ≠ id' → cutμ μ id id' (.slice (some ⟨g, 0, none⟩) k c) i = μ i := fun i h1 h2 => by simp [cutμ, h1, h2]
  have mg : blk (μ id) = some g := by rw [hv]; rfl
  have hn2 : ∀ i o, find σ i = some o → i ≠ id' := fun i o hf h => by subst h; rw [hk'] at hf; cases hf
  generalize hσ' : ((id, SObj.dead) :: (id', .row e size (xs.take k)) :: σ) = σ' at *
  generalize hμ' : cutμ μ id id' (.slice (some ⟨g, 0, none⟩) k c) = μ' at *
  have hg : Gro σ μ w σ' μ' w := by
    refine ⟨rfl, rfl, rfl, Nat.le_refl _, fun _ _ _ => rfl, fun i o b hf hb hl => ?_, fun i t cs hf => ?_, fun i e' size' ys hf => ?_, fun i es hf => ?_, fun i hf => ?_⟩
    · by_cases h1 : i = id
      · subst h1; rw [m1] at hb; cases hb
      by_cases h2 : i = id'
      · subst h2; rw [m2] at hb; exact ⟨id, _, e0, by rw [mg]; exact hb⟩
      · rw [f3 i h1 h2] at hf; rw [m3 i h1 h2] at hb; exact ⟨i, o, hf, hb⟩
    · have h1 : i ≠ id := fun h => by subst h; rw [e0] at hf; cases hf
      exact ⟨cs, by rw [f3 i h1 (hn2 i _ hf)]; exact hf, rfl, m3 i h1 (hn2 i _ hf)⟩
    · by_cases h1 : i = id
      · subst h1; exact .inl f1
      · exact .inr ⟨ys, by rw [f3 i h1 (hn2 i _ hf)]; exact hf, Nat.le_refl _, fun _ => m3 i h1 (hn2 i _ hf)⟩
    · have h1 : i ≠ id := fun h => by subst h; rw [e0] at hf; cases hf
      exact ⟨es, by rw [f3 i h1 (hn2 i _ hf)]; exact hf, m3 i h1 (hn2 i _ hf)⟩
    · have h1 : i ≠ id := fun h => by subst h; rw [e0] at hf; cases hf
      rw [f3 i h1 (hn2 i _ hf)]; exact hf
  refine ⟨hg, ⟨fun i o hf => ?_, fun i j o o' b hf hf' hb hb' => ?_, hs.lt, fun i o b hf hb => ?_⟩⟩
  · have hst : Step σ μ w (av σ μ M) σ' μ' w (av σ' μ' M) := hg.step
    by_cases h1 : i = id
    · subst h1
      rw [f1] at hf; injection hf with hf; subst hf
      exact m1
    by_cases h2 : i = id'
    · subst h2
      rw [f2] at hf; injection hf with hf; subst hf
      obtain ⟨us, h3, h4⟩ := hs.obj _ _ e0
      subst hn
      rw [hv] at h3
      refine ⟨us.take (k * size), ?_, repLL_take (repLL_mono hst.pure h4)⟩
      rw [m2, List.length_take, Nat.min_eq_left hk]
      exact own_cut h3 hk
    · rw [f3 i h1 h2] at hf
      have h3 := hs.obj i o hf
      have h4 := m3 i h1 h2
      cases o with
      | box t cs =>
        obtain ⟨g', us, h5, h6, h7⟩ := h3
        exact ⟨g', us, h4.trans h5, h6, repC_mono hst h7⟩
      | row e' size' ys =>
        obtain ⟨us, h5, h6⟩ := h3
        exact ⟨us, by rw [h4]; exact h5, repLL_mono hst.pure h6⟩
      | mp es =>
        obtain ⟨g', ents, ck, h5, h6, h7⟩ := h3
        exact ⟨g', ents, ck, h4.trans h5, h6, h7⟩
      | dead => exact (congrArg blk h4).trans h3
  · have key : ∀ i o, find σ' i = some o → blk (μ' i) = some b → ∃ i0 o0, find σ i0 = some o0 ∧ blk (μ i0) = some b ∧ (i = id' ∧ i0 = id ∨ i ≠ id ∧ i ≠ id' ∧ i0 = i) := by
      intro i o hf hb
      by_cases h1 : i = id
      · subst h1; rw [m1] at hb; cases hb
      by_cases h2 : i = id'
      · subst h2; rw [m2] at hb; exact ⟨id, _, e0, by rw [mg]; exact hb, .inl ⟨rfl, rfl⟩⟩
      · rw [f3 i h1 h2] at hf; rw [m3 i h1 h2] at hb; exact ⟨i, o, hf, hb, .inr ⟨h1, h2, rfl⟩⟩
    obtain ⟨i0, o0, h1, h2, h3⟩ := key i o hf hb
    obtain ⟨j0, p0, h4, h5, h6⟩ := key j o' hf' hb'
    have h7 := hs.inj i0 j0 o0 p0 b h1 h4 h2 h5
    rcases h3 with ⟨h8, h9⟩ | ⟨h8, h9, h10⟩ <;> rcases h6 with ⟨k8, k9⟩ | ⟨k8, k9, k10⟩
    · rw [h8, k8]
    · exact absurd (k10.symm.trans (h7.symm.trans h9)) k8
    · exact absurd (h10.symm.trans (h7.trans k9)) h8
    · rw [← h10, ← k10]; exact h7
  · by_cases h1 : i = id
    · subst h1; rw [m1] at hb; cases hb
    by_cases h2 : i = id'
    · subst h2; rw [m2] at hb; exact hs.dis id _ b e0 (by rw [mg]; exact hb)
    · rw [f3 i h1 h2] at hf; rw [m3 i h1 h2] at hb; exact hs.dis i o b hf hb
/-- l[:k] of a row of one's own: the row is cut. -/
theorem ls_cut (hT : okTab P T = true) {x y : Operand} {t id id' n k : Nat} {i : Int} {ik : IntKind} {size : Nat} {xs : List (List AV)} {e bytes : Nat} (hx : ev s x = some (.own id n)) (hσ : find s.σ id = some (.row e size xs)) (hn : n = xs.length) (hy : ev s y = some (.v (.int ik i))) (hty : nth T t = some (.slice e size bytes)) (hi : i = (k : Int)) (hk : k < n) (hk' : find s.σ id' = none) (hd : okDst Γ.n dst = true) :
    LS P Γ ⟨dst, .slice t x none (some y) none, ty, pos, after, none⟩ s (rd x (rd y [.obj id, .obj id'])) (dst1 dst (.own id' (xs.take k).length)) [(id, .dead), (id', .row e size (xs.take k))] := by
  refine ⟨fun t' ht Q μ a w hr K hK => ?_⟩
  obtain ⟨e1, ht⟩ := ht.ev hx
  obtain ⟨e2, ht⟩ := ht.ev hy
  have e0 : find t'.σ id = some (.row e size xs) := ht.1.trans hσ
  have ek : find t'.σ id' = none := ht.2.1.trans hk'
  have e1 := hr.ev e1
  have e2 := hr.ev e2
  simp only [rep] at e1 e2
  obtain ⟨_, e', size', xs', e3, e4, e5⟩ := live e0 e1
  rw [e0] at e3
  injection e3 with e3; injection e3 with e3 e7 e8; subst e3 e7 e8
  have e5 := e5 hn
  obtain ⟨us, e11, e12⟩ := hr.store.obj id _ e0
  obtain ⟨hu, hpos, j, z, hj, hj2, _⟩ := slice_ty hT hty
  subst hi
  rcases e11.2 with ⟨_, h0⟩ | ⟨g, cap, cur, h1, _, h2, h3, h4, h5⟩
  · omega
  rw [← hn] at h1 h3
  obtain ⟨hg, hs⟩ := cut_rel hr.store (id' := id') (k := k) e0 ek h1 hn (Nat.le_of_lt hk)
  have hlen : (xs.take k).length = k := by rw [List.length_take]; omega
  have hfin := (hr.goes hg hs).put (d := dst) (x := .own id' (xs.take k).length) (y := .slice (some ⟨g, 0, none⟩) k cap) hd (by
    have hne : id ≠ id' := fun h => by subst h; rw [ek] at e0; cases e0
    simp only [rep]
    refine ⟨rfl, .inr ⟨e, size, xs.take k, by rw [find_cons, if_neg hne, find_cons, if_pos rfl], Nat.le_refl _, fun _ => ?_⟩⟩
    simp [cutμ, Ne.symm hne])
  unfold Oper.wp
  have hkc : k ≤ cap := by omega
  have hrun : (execOp a.eval ⟨dst, .slice t x none (some y) none, ty, pos, after, none⟩).run P w = .ok (.value (.slice (some ⟨g, 0, none⟩) k cap)) w := by
    simp [execOp, e5, h1, e2.1, Instr.sliceAt, Instr.slice, run_underlying hu, Instr.sliceBounds, Instr.sliceBound, asIntOf, sizeOf, typeInfo, hj, hkc, Addr.add]
  rw [hrun]
  refine hK (cutμ μ id id' (.slice (some ⟨g, 0, none⟩) k cap)) _ _ ?_
  cases dst <;> exact hfin
/-! a row under another name; loops whose rounds give rows other names -/
def mv (i j k : Nat) : Nat := match Nat.beq k i with
  | true => j
  | false => k
theorem mv_at (i j k : Nat) : mv i j k = if k = i then j else k := by
  unfold mv
  by_cases h : k = i
  · subst h; rw [Nat.beq_refl]; simp
  · have : Nat.beq k i = false := by
      cases hb : Nat.beq k i
      · rfl
      · exact absurd (Nat.eq_of_beq_eq_true hb) h
    rw [this]; simp [h]
def ASt.mv (s : ASt) (i j : Nat) : ASt := ⟨s.regs.map fun p => (p.1, renA (Proofs.Yteooamoagkcgnaa.mv i j) p.2), (i, .dead) :: (s.σ.map fun p => (Proofs.Yteooamoagkcgnaa.mv i j p.1, renO (Proofs.Yteooamoagkcgnaa.mv i j) p.2))⟩
def Turn (Γ : Ctx) (s t : ASt) : Prop := ∀ μ a w, Rel Γ s μ a w → ∃ μ', Rel Γ t μ' a w
theorem Turn.weak {t : ASt} (h : Weak Γ s t) : Turn Γ s t := fun μ a w hr => ⟨μ, h.rel hr⟩
theorem Turn.trans {t u : ASt} (h : Turn Γ s t) (k : Turn Γ t u) : Turn Γ s u := fun μ a w hr => let ⟨μ', hr'⟩ := h μ a w hr; k μ' a w hr'
theorem find_regs {f : AV → AV} : ∀ {l : List (Nat × AV)} {t : Nat} {x : AV}, find (l.map fun p => (p.1, f p.2)) t = some x → ∃ v, find l t = some v ∧ x = f v
  | [], t, x, h => by simp [find] at h
  | (k, v) :: l, t, x, h => by
    rw [List.map_cons, find_cons] at h
    rw [find_cons]
    split at h
    · rename_i e; injection h with h; exact ⟨v, by rw [if_pos e], h.symm⟩
    · rename_i e; rw [if_neg e]; exact find_regs h
theorem Turn.move (i j : Nat) {e : TypeId} {size : Nat} {xs : List (List AV)} (e0 : find s.σ i = some (.row e size xs)) (hj : find s.σ j = none) (hinj : injB (mv i j) (s.σ.map Prod.fst) = true) (hcr : s.regs.all (fun p => closA s.σ p.2) = true) (hco : s.σ.all (fun p => closO s.σ p.2) = true) : Turn Γ s (s.mv i j) := by
  intro μ a w hr
  have hne : j ≠ i := fun h => by subst h; rw [hj] at e0; cases e0
  have hnj : ∀ id o, find s.σ id = some o → id ≠ j := fun id o hf h => by subst h; rw [hj] at hf; cases hf
  obtain ⟨ρ, hρ⟩ : ∃ ρ, ρ = mv i j := ⟨_, rfl⟩
  have hρi : ρ i = j := by rw [hρ, mv_at, if_pos rfl]
  have hρn : ∀ k, k ≠ i → ρ k = k := fun k h => by rw [hρ, mv_at, if_neg h]
  obtain ⟨σ', hσ'⟩ : ∃ σ' : Store, σ' = (i, .dead) :: (s.σ.map fun p => (ρ p.1, renO ρ p.2)) := ⟨_, rfl⟩
  obtain ⟨μ', hμ'⟩ : ∃ μ' : Nat → Value, μ' = fun k => if k = i then .nilFunc else if k = j then μ i else μ k := ⟨_, rfl⟩
  rw [← hρ] at hinj
  have fi : find σ' i = some .dead := by rw [hσ', find_cons, if_pos rfl]
  have fo : ∀ k, k ≠ i → find σ' k = find (s.σ.map fun p => (ρ p.1, renO ρ p.2)) k := fun k h => by rw [hσ', find_cons, if_neg (Ne.symm h)]
  have hρ1 : ∀ id o, find s.σ id = some o → ρ id ≠ i := by
    intro id o hf h
    by_cases h1 : id = i
    · subst h1; exact hne (hρi.symm.trans h)
    · rw [hρn id h1] at h; exact h1 h
  have f1 : ∀ id o, find s.σ id = some o → find σ' (ρ id) = some (renO ρ o) := fun id o hf => by rw [fo _ (hρ1 id o hf)]; exact find_map_ren hinj hf
  have m1 : ∀ id o, find s.σ id = some o → μ' (ρ id) = μ id := by
    intro id o hf
    rw [hμ']
    by_cases h1 : id = i
    · subst h1; rw [hρi]; simp [hne]
    · rw [hρn id h1]; simp [h1, hnj id o hf]
  have mi : blk (μ' i) = none := by rw [hμ']; simp [blk]
  have f2 : ∀ k o, k ≠ i → find σ' k = some o → ∃ id o', find s.σ id = some o' ∧ ρ id = k ∧ o = renO ρ o' := by
    intro k o hk hf
    rw [fo k hk] at hf
    cases hv : inv ρ s.σ k with
    | none => rw [(inv_none hv).2] at hf; cases hf
    | some id =>
      obtain ⟨h1, h2⟩ := inv_some hv
      obtain ⟨o', ho'⟩ := has_iff h2
      have := find_map_ren hinj ho'
      rw [← h1, hf] at this
      injection this with this
      exact ⟨id, o', ho', h1.symm, this⟩
  have hinto : Into ρ s.σ μ σ' μ' := ⟨f1, m1⟩
  have hav : ∀ M : Nat → Prop, ∀ b, ¬ av s.σ μ M b → ¬ av σ' μ' M b := by
    intro M b hb hc
    rcases hc with hc | ⟨k, o, h1, h2⟩
    · exact hb (.inl hc)
    · by_cases hk : k = i
      · subst hk; rw [mi] at h2; cases h2
      · obtain ⟨id, o', h3, h4, _⟩ := f2 k o hk h1
        rw [← h4, m1 id o' h3] at h2
        exact hb (.inr ⟨id, o', h3, h2⟩)
  have hg : Gro s.σ μ w σ' μ' w := by
    refine ⟨rfl, rfl, rfl, Nat.le_refl _, fun _ _ _ => rfl, fun k o b hf hb hl => ?_, fun id t cs hf => ?_, fun id e' size' ys hf => ?_, fun id es hf => ?_, fun id hf => ?_⟩
    · by_cases hk : k = i
      · subst hk; rw [mi] at hb; cases hb
      · obtain ⟨id, o', h3, h4, _⟩ := f2 k o hk hf
        rw [← h4, m1 id o' h3] at hb
        exact ⟨id, o', h3, hb⟩
    · have h1 : id ≠ i := fun h => by subst h; rw [e0] at hf; cases hf
      have h2 := f1 id _ hf
      have h3 := m1 id _ hf
      rw [hρn id h1] at h2 h3
      exact ⟨_, h2, by simp, h3⟩
    · by_cases h1 : id = i
      · subst h1; exact .inl fi
      · have h2 := f1 id _ hf
        have h3 := m1 id _ hf
        rw [hρn id h1] at h2 h3
        exact .inr ⟨ys, h2, Nat.le_refl _, fun _ => h3⟩
    · have h1 : id ≠ i := fun h => by subst h; rw [e0] at hf; cases hf
      have h2 := f1 id _ hf
      have h3 := m1 id _ hf
      rw [hρn id h1] at h2 h3
      exact ⟨es, h2, h3⟩
    · have h1 : id ≠ i := fun h => by subst h; rw [e0] at hf; cases hf
      have h2 := f1 id _ hf
      rw [hρn id h1] at h2
      exact h2
  have hs : SRel σ' μ' w Γ.M := by
    refine ⟨fun k o hf => ?_, fun k k' o o' b h1 h2 h3 h4 => ?_, hr.store.lt, fun k o b h1 h2 => ?_⟩
    · by_cases hk : k = i
      · subst hk; rw [fi] at hf; injection hf with hf; subst hf; exact mi
      · obtain ⟨id, o', h3, h4, rfl⟩ := f2 k o hk hf
        have h5 := hr.store.obj id o' h3
        have h6 := m1 id o' h3
        rw [h4] at h6
        have h7 := List.all_eq_true.1 hco _ (find_mem h3)
        cases o' with
        | box t cs =>
          obtain ⟨g, us, h8, h9, h10⟩ := h5
          exact ⟨g, us, h6.trans h8, h9, repC_ren hinto (hav _) h7 h10⟩
        | row e' size' ys =>
          obtain ⟨us, h8, h9⟩ := h5
          exact ⟨us, by rw [h6]; exact h8, repLL_mono (Step.same_world (hav _)) h9⟩
        | mp es =>
          obtain ⟨g, ents, ck, h8, h9, h10⟩ := h5
          exact ⟨g, ents, ck, h6.trans h8, h9, h10⟩
        | dead => exact (congrArg blk h6).trans h5
    · by_cases hk : k = i
      · subst hk; rw [mi] at h3; cases h3
      by_cases hk' : k' = i
      · subst hk'; rw [mi] at h4; cases h4
      obtain ⟨id, q, h5, h6, _⟩ := f2 k o hk h1
      obtain ⟨id', q', h7, h8, _⟩ := f2 k' o' hk' h2
      rw [← h6, m1 id q h5] at h3
      rw [← h8, m1 id' q' h7] at h4
      rw [← h6, ← h8, hr.store.inj id id' q q' b h5 h7 h3 h4]
    · by_cases hk : k = i
      · subst hk; rw [mi] at h2; cases h2
      obtain ⟨id, q, h5, h6, _⟩ := f2 k o hk h1
      rw [← h6, m1 id q h5] at h2
      exact hr.store.dis id q b h5 h2
  refine ⟨μ', ?_⟩
  have e1 : s.mv i j = ⟨s.regs.map fun p => (p.1, renA ρ p.2), σ'⟩ := by rw [hσ', hρ]; rfl
  rw [e1]
  refine ⟨marks_gro hr.store hg hr.defers, hr.tmps, fun t x hx => ?_, hs, hr.gro.trans hg⟩
  obtain ⟨v, h1, rfl⟩ := find_regs hx
  exact rep_ren hinto (hav _) (List.all_eq_true.1 hcr _ (find_mem h1)) (hr.regs t v h1)
theorem a_turn {Q : Exit → ASt → Prop} {c : Code} {t : ASt} (h : Turn Γ s t) (hk : AWP P Γ c Q t) : AWP P Γ c Q s := ⟨fun μ a w hr => let ⟨μ', hr'⟩ := h μ a w hr; hk.out μ' a w hr'⟩
theorem a_loopM {Q : Exit → ASt → Prop} {c : Code} {X : Type} (S : X → ASt) (m : X → Nat) (x0 : X) (h0 : Turn Γ s (S x0))
    (round : ∀ x, AWP P Γ c (AThen (fun s' => ∃ x', m x' < m x ∧ Turn Γ s' (S x')) Q) (S x)) : AWP P Γ (.loop c) Q s := by
  refine ⟨fun μ a w hr => ?_⟩
  obtain ⟨μ, hr0⟩ := h0 μ a w hr
  clear h0 hr
  have key : ∀ n x, m x = n → ∀ μ a w, Rel Γ (S x) μ a w → ∀ (b : Frame) (k : List Item) (cs : List Frame), b.roundOf = Γ.F.round → Γ.F.fn b.fn → Γ.F.room (cs.length + 1 + 0) →
      ∃ e a' w', AK Γ Q e a' w' ∧ ArrivesIn (Machine.fenced P Γ.F) P (lone (b.atR a (.code c :: .inLoop c :: k)) cs w) b k cs e a' w' := by
    intro n
    induction n using Nat.strongRecOn with
    | _ n ih =>
      intro x hx μ a w hr b k cs hro hb hm
      obtain ⟨e, a₁, w₁, ⟨s', μ', hr', hq⟩, harr⟩ := (round x).out μ a w hr b (.inLoop c :: k) cs hro hb hm
      cases e with
      | normal =>
        obtain ⟨x', hlt, hw⟩ := hq
        obtain ⟨μ'', hr''⟩ := hw μ' a₁ w₁ hr'
        obtain ⟨e₂, a₂, w₂, hq₂, harr₂⟩ := ih (m x') (by omega) x' rfl μ'' a₁ w₁ hr'' b k cs hro hb hm
        exact ⟨e₂, a₂, w₂, hq₂, .of_steps (StepsIn.trans harr (.one (fenced_calm hb hm rfl) stepR_inLoop)) harr₂⟩
      | exit id => exact ⟨_, a₁, w₁, ⟨s', μ', hr', hq⟩, .pass (x := .inLoop c) rfl (fun _ _ => .inl (by simp)) harr⟩
      | goto l => exact ⟨_, a₁, w₁, ⟨s', μ', hr', hq⟩, .pass (x := .inLoop c) rfl (fun _ _ => .inl (by simp)) harr⟩
      | ret => exact ⟨_, a₁, w₁, ⟨s', μ', hr', hq⟩, .pass (x := .inLoop c) rfl (fun _ _ => .inl (by simp)) harr⟩
      | panic ch => exact ⟨_, a₁, w₁, ⟨s', μ', hr', hq⟩, .pass (x := .inLoop c) rfl (fun _ _ => .inl (by simp)) harr⟩
      | outgrown => exact ⟨_, a₁, w₁, ⟨s', μ', hr', hq⟩, .pass (x := .inLoop c) rfl (fun _ _ => .inl (by simp)) harr⟩
  intro b k cs hro hb hm
  obtain ⟨e, a', w', hq, harr⟩ := key _ x0 rfl μ a w hr0 b k cs hro hb hm
  exact ⟨e, a', w', hq, .of_steps (.one (fenced_calm hb hm rfl) stepR_loop) harr⟩
/-- a way out, a row under another name -/
theorem a_retM (i j : Nat) {Q : Exit → ASt → Prop} {e : TypeId} {size : Nat} {xs : List (List AV)} (e0 : find s.σ i = some (.row e size xs)) (hj : find s.σ j = none) (hinj : injB (mv i j) (s.σ.map Prod.fst) = true) (hcr : s.regs.all (fun p => closA s.σ p.2) = true) (hco : s.σ.all (fun p => closO s.σ p.2) = true) (h : Q .ret (s.mv i j)) : AWP P Γ .ret Q s :=
  a_turn (Turn.move i j e0 hj hinj hcr hco) (a_ret h)
end
end Go.Proofs.Yteooamoagkcgnaa
