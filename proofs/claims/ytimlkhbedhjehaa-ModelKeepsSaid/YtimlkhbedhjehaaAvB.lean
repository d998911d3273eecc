/-
  Walks over abstract values: values of parts, rows. Over whatever program. No condition.
-/
import Derived.Test.YtimlkhbedhjehaaAvS
namespace Go.Proofs.Ytimlkhbedhjehaa
open Go.RowKit
set_option linter.unusedSimpArgs false
set_option linter.unusedVariables false

/-! values of parts -/
theorem splice_fold (off : Nat) : ∀ (vs : List Value) (j : Nat) (cells : Array Value), off + j + vs.length ≤ cells.size →
    ((vs.zipIdx j).foldl (fun cs (p : Value × Nat) => cs.setIfInBounds (off + p.2) p.1) cells).toList = cells.toList.take (off + j) ++ vs ++ cells.toList.drop (off + j + vs.length)
  | [], j, cells, _ => by simp
  | v :: vs, j, cells, h => by
    simp only [List.length_cons] at h
    have ih := splice_fold off vs (j + 1) (cells.setIfInBounds (off + j) v) (by simp; omega)
    simp only [List.zipIdx_cons, List.foldl_cons, ih, Array.toList_setIfInBounds, List.length_cons]
    have h1 : (cells.toList.set (off + j) v).take (off + (j + 1)) = cells.toList.take (off + j) ++ [v] := by
      rw [← Nat.add_assoc, List.take_succ_eq_append_getElem (by simp; omega), List.take_set_of_le (by omega)]
      simp
    have h2 : (cells.toList.set (off + j) v).drop (off + (j + 1) + vs.length) = cells.toList.drop (off + j + (vs.length + 1)) := by
      rw [List.drop_set_of_lt (by omega)]
      congr 1; omega
    rw [h1, h2]
    simp
def bldK (T : List TyI) (fs : List (Nat × Nat)) : List (Nat × AV) → List AV → Option (List AV)
  | [], cs => some cs
  | (i, v) :: rest, cs => match nth fs i with
    | none => none
    | some (off, ft) => match nth T ft with
      | none => none
      | some ti => match Nat.beq ti.size (acells v).length && cellOK v && !Nat.beq ti.size 0 with
        | false => none
        | true => match putK cs off (acells v) (fun r => bldK T fs rest r) with
          | some r => r
          | none => none
def evParts (s : ASt) : List (Nat × Operand) → Option (List (Nat × AV))
  | [] => some []
  | (i, x) :: l => match ev s x, evParts s l with
    | some v, some r => some ((i, v) :: r)
    | _, _ => none
def rdParts : List (Nat × Operand) → List Loc → List Loc
  | [], R => R
  | (_, x) :: l, R => rd x (rdParts l R)
def PartsRep (σ : Store) (μ : Nat → Value) (w : World) (A : Nat → Prop) : List (Nat × AV) → List (Nat × Value) → Prop
  | [], [] => True
  | (i, v) :: vs, (j, u) :: us => i = j ∧ rep σ μ w A v u ∧ PartsRep σ μ w A vs us
  | _, _ => False
section
variable {P : Program} {Γ : Ctx} {Q Q' : Exit → ASt → Prop} {s : ASt} {σ : Store} {μ : Nat → Value} {w : World} {A : Nat → Prop} {T : List TyI}
variable {dst : Option Tmp} {ty : TypeId} {pos : String} {after : Array Edge}
theorem Agree.parts {s t : ASt} {a : Act} (hr : Rel Γ t μ a w) : ∀ {l : List (Nat × Operand)} {R : List Loc} {vs : List (Nat × AV)}, Agree s t (rdParts l R) → evParts s l = some vs →
    PartsRep t.σ μ w (av t.σ μ Γ.M) vs (l.map fun p => (p.1, a.eval p.2)) ∧ Agree s t R
  | [], R, vs, h, e => by simp [evParts] at e; subst e; exact ⟨trivial, h⟩
  | (i, x) :: l, R, vs, h, e => by
    simp only [evParts] at e
    split at e
    · rename_i v r hv hl
      injection e with e; subst e
      obtain ⟨h1, h2⟩ := Agree.ev h hv
      obtain ⟨h3, h4⟩ := Agree.parts hr h2 hl
      exact ⟨⟨rfl, hr.ev h1, h3⟩, h4⟩
    · cases e
theorem fill_ok (place : Nat → Option (Nat × Nat)) (fs : List (Nat × Nat)) (hpl : ∀ i off ft ti, nth fs i = some (off, ft) → nth T ft = some ti → ti.size ≠ 0 → place i = some (off, ti.size)) :
    ∀ {vs : List (Nat × AV)} {us : List (Nat × Value)} {cs cs' : List AV} {cells : Array Value}, PartsRep σ μ w A vs us → bldK T fs vs cs = some cs' → repC σ μ w A cs cells.toList →
      ∃ cells', Instr.fill place cells us = some cells' ∧ repC σ μ w A cs' cells'.toList
  | [], _ :: _, cs, cs', cells, h, hb, hc => h.elim
  | _ :: _, [], cs, cs', cells, h, hb, hc => h.elim
  | [], [], cs, cs', cells, _, hb, hc => by
    simp only [bldK, Option.some.injEq] at hb; subst hb
    exact ⟨cells, rfl, hc⟩
  | (i, v) :: vs, (j, u) :: us, cs, cs', cells, ⟨h1, h2, h3⟩, hb, hc => by
    subst h1
    simp only [bldK] at hb
    split at hb
    · cases hb
    · rename_i off ft hf
      split at hb
      · cases hb
      · rename_i ti hti
        split at hb
        · cases hb
        · rename_i hcond
          simp only [Bool.and_eq_true, Nat.beq_eq, Bool.not_eq_true', ne_eq] at hcond
          obtain ⟨⟨h4, h5⟩, h6⟩ := hcond
          have h0 : ti.size ≠ 0 := fun h => by rw [h] at h6; cases h6
          split at hb
          · rename_i r hp
            obtain ⟨h7, rfl⟩ := putK_spec hp
            have h8 := rep_cells h2 h5
            have h9 : u.cells.size = ti.size := by rw [h4, ← repC_len h8]; simp
            have hlen := repC_len hc
            have h10 := splice_fold off u.cells.toList 0 cells (by simp at hlen ⊢; omega)
            simp only [Nat.add_zero] at h10
            have hz : u.cells.zipIdx.toList = u.cells.toList.zipIdx 0 := by simp
            obtain ⟨cells', h11, h12⟩ := fill_ok place fs hpl h3 hb (cells := (u.cells.toList.zipIdx 0).foldl (fun cs (p : Value × Nat) => cs.setIfInBounds (off + p.2) p.1) cells) (by
              rw [h10]
              refine repC_append (repC_append (repC_take off hc) h8) ?_
              have h13 : off + u.cells.toList.length = off + (acells v).length := by rw [repC_len h8]
              rw [h13]
              exact repC_drop _ hc)
            refine ⟨cells', ?_, h12⟩
            simp only [Instr.fill, hpl i off ft ti hf hti h0]
            have h14 : ¬ (u.cells.size ≠ ti.size || decide (off + u.cells.size > cells.size)) = true := by
              simp only [Array.length_toList] at hlen
              simp [h9]; omega
            rw [if_neg (by simpa using h14)]
            rw [← h11, ← Array.foldl_toList, hz]
          · cases hb
theorem ls_build (hT : okTab P T = true) (hZ : okZero P T = true) {t n : Nat} {fs : List (Nat × Nat)} {parts : Array (Nat × Operand)} {vs : List (Nat × AV)} {zs : List Value} {cs : List AV} (hty : nth T t = some (.struct n fs)) (hz : zcells T 10 t = some zs) (hzs : (zs.all fun c => scal c && c.oneCell') = true)
    (hp : evParts s parts.toList = some vs) (hb : bldK T fs vs (zs.map .v) = some cs) (hd : okDst Γ.n dst = true) : LS P Γ ⟨dst, .build t parts, ty, pos, after, none⟩ s (rdParts parts.toList []) (dst1 dst (.agg cs)) [] :=
  ls_pure hd fun t' ht μ a w hr => by
    obtain ⟨h1, _⟩ := ht.parts hr hp
    obtain ⟨i, z, hi, hiz, hzc⟩ := okZero_at hZ hz
    have h3 := okTab_at hT hty
    simp only [okTy] at h3
    split at h3
    · rename_i fields i' hu hi'
      simp only [Bool.and_eq_true, Nat.beq_eq, decide_eq_true_eq] at h3
      obtain ⟨⟨h4, h5⟩, h6⟩ := h3
      have key : ∀ (l : List Field), (l.all fun f => match P.info? f.type with | some j => !Nat.beq j.size 0 | .none => false) = true → ∃ places, l.mapM (fun f => (P.info? f.type).map fun i => (f.offset, i.size)) = some places ∧
          ∀ i off ft ti, nth (l.map fun f => (f.offset, f.type)) i = some (off, ft) → nth T ft = some ti → ti.size ≠ 0 → places[i]? = some (off, ti.size) := by
        intro l
        induction l with
        | nil => intro _; exact ⟨[], rfl, fun i off ft ti h => by simp [nth] at h⟩
        | cons f l ih =>
          intro h
          simp only [List.all_cons, Bool.and_eq_true] at h
          obtain ⟨h7, h8⟩ := h
          obtain ⟨places, h9, h10⟩ := ih h8
          split at h7
          · rename_i j hj
            refine ⟨(f.offset, j.size) :: places, by simp [List.mapM_cons, hj, h9], fun i off ft ti h11 h12 h13 => ?_⟩
            cases i with
            | zero =>
              simp only [List.map_cons, nth, Option.some.injEq, Prod.mk.injEq] at h11
              obtain ⟨rfl, rfl⟩ := h11
              obtain ⟨⟨j', hj', hs⟩, _⟩ := ty_size hT h12 h13
              rw [hj] at hj'; injection hj' with hj'; subst hj'
              simp [hs]
            | succ i => exact h10 i off ft ti h11 h12 h13
          · cases h7
      obtain ⟨places, h9, h10⟩ := key _ h6
      obtain ⟨cells, h7, h8⟩ := fill_ok (σ := t'.σ) (μ := μ) (w := w) (A := av t'.σ μ Γ.M) (fun i => places.toArray[i]?) fs (T := T) (fun j off ft ti hj hti h0 => by
        subst h5
        simpa using h10 j off ft ti hj hti h0) h1 hb (cells := z.cells) (by rw [hzc]; exact repC_con hzs)
      refine ⟨.agg cells, ?_, by simp only [rep]; exact ⟨cells.toList, by simp, h8⟩⟩
      have h11 : P.built t (parts.map fun p => (p.1, a.eval p.2)).toList = some cells := by
        unfold Program.built
        simp only [hi, hu, hiz, h9]
        simpa using h7
      simp only [execOp, Sem.run_bind, run_build w t _ cells h11, Sem.run_pure, Result.andThen_ok]
    · cases h3
/-! rows -/
def pureC : AV → Bool
  | .v _ | .sl _ _ | .el _ => true
  | .clo _ f c => f.isEmpty && c.isEmpty
  | _ => false
def pureB : AV → Bool
  | .agg cs => cs.all pureC
  | .tup _ => false
  | x => pureC x
def pureA : AV → Bool
  | .agg cs => cs.all pureC
  | .tup vs => vs.all pureB
  | x => pureC x
theorem rep_pureC {v : AV} {y : Value} {μ' : Nat → Value} (h : rep σ μ w A v y) (hp : pureC v = true) : rep [] μ' w A v y := by
  cases v with
  | v x => simpa only [rep] using h
  | sl n xs =>
    simp only [rep] at h ⊢
    obtain ⟨ad, c, us, e, h1, h2, h3, h4⟩ := h
    exact ⟨ad, c, us, e, h1, h2, h3, repLL_mono (Step.up (σ := []) (μ := μ)) h4 |> fun h => repLL_mono ⟨fun b hb _ => ⟨rfl, hb⟩, Nat.le_refl _, fun _ _ _ h => by simp [find] at h, fun _ _ _ _ h => by simp [find] at h⟩ h⟩
  | el cs =>
    simp only [rep] at h ⊢
    obtain ⟨b, off, us, e, h3, h4⟩ := h
    exact ⟨b, off, us, e, h3, repC_mono ⟨fun b hb _ => ⟨rfl, hb⟩, Nat.le_refl _, fun _ _ _ h => by simp [find] at h, fun _ _ _ _ h => by simp [find] at h⟩ h4⟩
  | clo fn f c =>
    simp only [pureC, Bool.and_eq_true, List.isEmpty_iff] at hp
    obtain ⟨rfl, rfl⟩ := hp
    simpa only [rep, repL] using h
  | _ => cases hp
theorem repC_pure {μ' : Nat → Value} : ∀ {cs : List AV} {us : List Value}, repC σ μ w A cs us → cs.all pureC = true → repC [] μ' w A cs us
  | [], us, h, _ => by simpa only [repC] using h
  | c :: cs, us, h, hp => by
    simp only [List.all_cons, Bool.and_eq_true] at hp
    simp only [repC] at h ⊢
    obtain ⟨u, us', e, h0, h1, h2⟩ := h
    exact ⟨u, us', e, h0, rep_pureC h1 hp.1, repC_pure h2 hp.2⟩
theorem rep_pureB {v : AV} {y : Value} {μ' : Nat → Value} (h : rep σ μ w A v y) (hp : pureB v = true) : rep [] μ' w A v y := by
  cases v with
  | agg cs =>
    simp only [rep] at h ⊢
    obtain ⟨us, e, h1⟩ := h
    exact ⟨us, e, repC_pure h1 hp⟩
  | tup _ => cases hp
  | _ => exact rep_pureC h hp
theorem repL_pure {μ' : Nat → Value} : ∀ {cs : List AV} {us : List Value}, repL σ μ w A cs us → cs.all pureB = true → repL [] μ' w A cs us
  | [], us, h, _ => by simpa only [repL] using h
  | c :: cs, us, h, hp => by
    simp only [List.all_cons, Bool.and_eq_true] at hp
    simp only [repL] at h ⊢
    obtain ⟨u, us', e, h1, h2⟩ := h
    exact ⟨u, us', e, rep_pureB h1 hp.1, repL_pure h2 hp.2⟩
theorem rep_pure {v : AV} {y : Value} {μ' : Nat → Value} (h : rep σ μ w A v y) (hp : pureA v = true) : rep [] μ' w A v y := by
  cases v with
  | agg cs =>
    simp only [rep] at h ⊢
    obtain ⟨us, e, h1⟩ := h
    exact ⟨us, e, repC_pure h1 hp⟩
  | tup vs =>
    simp only [rep] at h ⊢
    obtain ⟨us, e, h1⟩ := h
    exact ⟨us, e, repL_pure h1 hp⟩
  | _ => exact rep_pureC h hp
def bldS (size : Nat) : Nat → List (Nat × AV) → Option (List (List AV))
  | _, [] => some []
  | j, (i, v) :: l => match Nat.beq i j && Nat.beq (acells v).length size && cellOK v && (acells v).all pureC with
    | true => match bldS size (j + 1) l with
      | some r => some (acells v :: r)
      | none => none
    | false => none
theorem fill_ord (size : Nat) (hs : 0 < size) : ∀ {vs : List (Nat × AV)} {us : List (Nat × Value)} {j : Nat} {xs : List (List AV)} {cells : Array Value}, PartsRep σ μ w A vs us → bldS size j vs = some xs → (j + xs.length) * size ≤ cells.size →
      ∃ cells' zs, Instr.fill (fun i => some (i * size, size)) cells us = some cells' ∧ cells'.toList = cells.toList.take (j * size) ++ zs ++ cells.toList.drop ((j + xs.length) * size) ∧ repLL [] μ w A size xs zs
  | [], _ :: _, j, xs, cells, h, hb, hc => h.elim
  | _ :: _, [], j, xs, cells, h, hb, hc => h.elim
  | [], [], j, xs, cells, _, hb, hc => by
    simp only [bldS, Option.some.injEq] at hb; subst hb
    exact ⟨cells, [], rfl, by simp, by simp [repLL]⟩
  | (i, v) :: vs, (j', u) :: us, j, xs, cells, ⟨h1, h2, h3⟩, hb, hc => by
    subst h1
    simp only [bldS] at hb
    split at hb
    · rename_i hcond
      simp only [Bool.and_eq_true, Nat.beq_eq] at hcond
      obtain ⟨⟨⟨rfl, h4⟩, h5⟩, h6⟩ := hcond
      split at hb
      · rename_i r hr
        injection hb with hb; subst hb
        simp only [List.length_cons] at hc
        have h8 := rep_cells h2 h5
        have h9 : u.cells.size = size := by rw [← h4, ← repC_len h8]; simp
        have hb1 : i * size + size ≤ cells.size := by
          have : (i + 1) * size ≤ (i + (r.length + 1)) * size := Nat.mul_le_mul_right _ (by omega)
          rw [Nat.add_mul] at this; omega
        have h10 := splice_fold (i * size) u.cells.toList 0 cells (by simp; omega)
        simp only [Nat.add_zero] at h10
        have hsz : ((u.cells.toList.zipIdx 0).foldl (fun cs (p : Value × Nat) => cs.setIfInBounds (i * size + p.2) p.1) cells).size = cells.size := by
          have := congrArg List.length h10
          simp only [Array.length_toList, List.length_append, List.length_take, List.length_drop] at this
          omega
        have hz : u.cells.zipIdx.toList = u.cells.toList.zipIdx 0 := by simp
        obtain ⟨cells', zs, h11, h12, h13⟩ := fill_ord size hs h3 hr (cells := (u.cells.toList.zipIdx 0).foldl (fun cs (p : Value × Nat) => cs.setIfInBounds (i * size + p.2) p.1) cells) (by rw [hsz]; refine Nat.le_trans (Nat.mul_le_mul_right _ ?_) hc; omega)
        refine ⟨cells', u.cells.toList ++ zs, ?_, ?_, ?_⟩
        · simp only [Instr.fill]
          have h14 : ¬ (u.cells.size ≠ size || decide (i * size + u.cells.size > cells.size)) = true := by
            simp [h9]; omega
          rw [if_neg (by simpa using h14)]
          rw [← h11, ← Array.foldl_toList, hz]
        · rw [h12, h10]
          have e1 : (i + 1) * size = i * size + size := by rw [Nat.add_mul]; omega
          have e2 : (i + 1 + r.length) * size = (i + (r.length + 1)) * size := by congr 1; omega
          have e3 : u.cells.toList.length = size := by simpa using h9
          have e4 : (cells.toList.take (i * size) ++ u.cells.toList).length = i * size + size := by
            simp only [List.length_append, List.length_take, Array.length_toList, e3]; omega
          rw [e1, e2]
          have e5 : (cells.toList.take (i * size) ++ u.cells.toList ++ cells.toList.drop (i * size + u.cells.toList.length)).take (i * size + size) = cells.toList.take (i * size) ++ u.cells.toList := by
            rw [← e4]; exact List.take_left
          have e6 : (cells.toList.take (i * size) ++ u.cells.toList ++ cells.toList.drop (i * size + u.cells.toList.length)).drop ((i + (r.length + 1)) * size) = cells.toList.drop ((i + (r.length + 1)) * size) := by
            have : (i + (r.length + 1)) * size = (i * size + size) + r.length * size := by rw [Nat.add_mul, Nat.add_mul]; omega
            rw [this, ← List.drop_drop, ← e4, List.drop_left, e3, List.drop_drop, e4]
          rw [e5, e6]
          simp [List.append_assoc]
        · simp only [List.length_cons, repLL]
          exact ⟨u.cells.toList, zs, rfl, by simpa using h9, repC_pure h8 h6, h13⟩
      · cases hb
    · cases hb
/-- A row that is written out, and only read. -/
theorem ls_buildS (hT : okTab P T = true) {t len e size bytes : Nat} {parts : Array (Nat × Operand)} {vs : List (Nat × AV)} {xs : List (List AV)} (hty : nth T t = some (.slice e size bytes)) (hp : evParts s parts.toList = some vs) (hb : bldS size 0 vs = some xs) (hl : Nat.beq xs.length len = true) (hle : Nat.ble (len * size) 16777216 = true) (hd : okDst Γ.n dst = true) :
    LS P Γ ⟨dst, .buildSlice t len parts, ty, pos, after, none⟩ s (rdParts parts.toList []) (dst1 dst (.sl size xs)) [] := by
  refine ⟨fun t' ht Q μ a w hr K hK => ?_⟩
  obtain ⟨h1, _⟩ := ht.parts hr hp
  obtain ⟨hu, hpos, j, z, hj, hj2, hj3, hj4, hj5⟩ := slice_ty hT hty
  have hl := Nat.eq_of_beq_eq_true hl
  subst hl
  have hle := Nat.le_of_ble_eq_true hle
  obtain ⟨cells, zs, h2, h3, h4⟩ := fill_ord size hpos h1 hb (cells := (Array.range (xs.length * size)).map fun i => (if xs.length * size = 0 then #[] else z.cells)[i % (if xs.length * size = 0 then #[] else z.cells).size]!) (by simp)
  have h3' : cells.toList = zs := by
    rw [h3]
    simp [List.drop_of_length_le]
  have h9 : parts.map (fun p => (p.1, a.eval p.2)) = (parts.toList.map fun p => (p.1, a.eval p.2)).toArray := by simp [← Array.toList_map]
  have hrun : (execOp a.eval ⟨dst, .buildSlice t xs.length parts, ty, pos, after, none⟩).run P w = .ok (.value (.slice (some ⟨w.heap.size, 0, none⟩) xs.length xs.length)) (w.alloc (.cells cells e)) := by
    have hn : ¬ xs.length * size > 2 ^ 24 := by omega
    by_cases h0 : xs.length * size = 0
    · simp only [h0, if_true] at h2
      simp [execOp, Instr.buildSlice, run_underlying hu, sizeOf, typeInfo, hj, hj2, h0, newRow, h9]
      have hz0 : ∀ f : Nat → Value, (Array.range 0).map f = #[] := by intro f; simp [Array.range]
      rw [hz0] at h2 ⊢
      rw [h2]
      simp
    · simp only [h0, if_false] at h2
      simp [execOp, Instr.buildSlice, run_underlying hu, sizeOf, typeInfo, hj, hj2, h0, hn, newRow, zeroValue, hj4, h9]
      rw [h2]
      simp
  unfold Oper.wp
  rw [hrun]
  have hr2 := hr.world (below_alloc w (.cells cells e))
  refine hK μ _ _ (hr2.put (d := dst) hd ?_)
  have hst := (hr.store.keep (below_alloc w (.cells cells e))).1.step (M := Γ.M)
  simp only [rep]
  refine ⟨some ⟨w.heap.size, 0, none⟩, xs.length, zs, rfl, Nat.le_refl _, ?_, ?_, repLL_mono hst.pure h4⟩
  · simp only [maxLen]
    have : xs.length ≤ xs.length * size := Nat.le_mul_of_pos_right _ hpos
    omega
  · refine .inr ⟨w.heap.size, 0, rfl, fun hc => ?_, by simp, fun j u hu => ?_⟩
    · rcases hc with hc | ⟨id, o, h5, h6⟩
      · have := hr.store.lt _ hc; omega
      · have := ObjRel.lt hr.store h5 h6; omega
    · have := (Blk.new w e cells).cell (0 + j)
      rw [this, Nat.zero_add, ← Array.getElem?_toList, h3']; exact hu
/-- An empty row that will be appended to. -/
theorem ls_build0 (hT : okTab P T = true) {t e size bytes k : Nat} {parts : Array (Nat × Operand)} (hty : nth T t = some (.slice e size bytes)) (hp : parts = #[]) (hk : find s.σ k = none) (hd : okDst Γ.n dst = true) :
    LS P Γ ⟨dst, .buildSlice t 0 parts, ty, pos, after, none⟩ s [.obj k] (dst1 dst (.own k 0)) [(k, .row e size [])] := by
  refine ⟨fun t' ht Q μ a w hr K hK => ?_⟩
  subst hp
  have hk' : find t'.σ k = none := ht.1.trans hk
  obtain ⟨hu, hpos, j, z, hj, hj2, hj3, hj4, hj5⟩ := slice_ty hT hty
  have hn := hr.new (w' := w.alloc (.cells #[] e)) (v := .slice (some ⟨w.heap.size, 0, none⟩) 0 0) (o := .row e size []) hk' (below_alloc _ _) (by simp [blk]) (fun μ' A hμ hμk hA hst => by
    refine ⟨[], ?_, by simp [repLL]⟩
    rw [hμk]
    exact own_new (Blk.new w e #[]) (Nat.zero_le _))
  have hfin := hn.put (d := dst) (x := .own k 0) (y := .slice (some ⟨w.heap.size, 0, none⟩) 0 0) hd (by
    simp only [rep, ASt.eff, List.cons_append, List.nil_append, find_cons, if_true]
    exact ⟨rfl, e, size, [], rfl, Nat.le_refl _, fun _ => (setμ_same _ _ _).symm⟩)
  unfold Oper.wp
  have hrun : (execOp a.eval ⟨dst, .buildSlice t 0 #[], ty, pos, after, none⟩).run P w = .ok (.value (.slice (some ⟨w.heap.size, 0, none⟩) 0 0)) (w.alloc (.cells #[] e)) := by
    have hz0 : ∀ f : Nat → Value, (Array.range 0).map f = #[] := by intro f; simp [Array.range]
    simp [execOp, Instr.buildSlice, run_underlying hu, sizeOf, typeInfo, hj, hj2, newRow, Instr.fill, hz0]
  rw [hrun]
  refine hK (setμ μ k (.slice (some ⟨w.heap.size, 0, none⟩) 0 0)) _ _ ?_
  cases dst <;> exact hfin
/-! append -/
/-- what an appended operand reads as -/
inductive SrcIs (s : ASt) (size : Nat) : AV → List (List AV) → List Loc → Prop
  | sl {ys : List (List AV)} : SrcIs s size (.sl size ys) ys []
  | nil : SrcIs s size (.v (.slice none 0 0)) [] []
  | own {id n : Nat} {e : Nat} {ys : List (List AV)} (h : find s.σ id = some (.row e size ys)) (hn : n = ys.length) : SrcIs s size (.own id n) ys [.obj id]
theorem src_reads {t : ASt} {a : Act} {size : Nat} {x : Operand} {v : AV} {ys : List (List AV)} {R : List Loc} (hr : Rel Γ t μ a w) (hag : Agree s t R) (hv : rep t.σ μ w (av t.σ μ Γ.M) v (a.eval x)) (h : SrcIs s size v ys R) (hs : 0 < size) :
    ∃ ad c us, a.eval x = .slice ad ys.length c ∧ Reads w w.heap.size size ad ys.length us ∧ repLL [] μ w (av t.σ μ Γ.M) size ys us := by
  cases h with
  | sl =>
    simp only [rep] at hv
    obtain ⟨ad, c, us, e, h1, h2, h3, h4⟩ := hv
    refine ⟨ad, c, us, e, ⟨repLL_len h4, fun hn => ?_⟩, h4⟩
    rcases h3 with rfl | ⟨b, off, rfl, _, hb, hc⟩
    · have := repLL_len h4
      simp only [List.length_nil] at this
      have : 0 < ys.length * size := Nat.mul_pos hn hs
      omega
    · exact ⟨b, off, rfl, hb, hc⟩
  | nil =>
    simp only [rep] at hv
    exact ⟨none, 0, [], hv.1, Reads.none_, by simp [repLL]⟩
  | own h hn =>
    have h0 := hag.1.trans h
    simp only [rep] at hv
    obtain ⟨_, e, size', xs, h1, h2, h3⟩ := hv
    rw [h0] at h1
    injection h1 with h1; injection h1 with _ h4 h5; subst h4 h5
    obtain ⟨us, h6, h7⟩ := hr.store.obj _ _ h0
    obtain ⟨A', c', h8, _, _⟩ := own_slice h6
    rw [h8] at h6
    exact ⟨A', c', us, (h3 hn).trans h8, Reads.of_own h6, h7⟩
theorem Agree.app {s t : ASt} : ∀ {l R : List Loc}, Agree s t (l ++ R) → Agree s t l ∧ Agree s t R
  | [], R, h => ⟨trivial, h⟩
  | .reg _ :: l, R, h => by
    obtain ⟨h1, h2⟩ := h
    obtain ⟨h3, h4⟩ := Agree.app h2
    exact ⟨⟨h1, h3⟩, h4⟩
  | .obj _ :: l, R, h => by
    obtain ⟨h1, h2⟩ := h
    obtain ⟨h3, h4⟩ := Agree.app h2
    exact ⟨⟨h1, h3⟩, h4⟩
theorem run_append_zero (w : World) (base : Nat) (t ty e : TypeId) (i : TypeInfo) (size : Nat) (ht : P.underlying t = some (.slice e)) (hi : P.info? e = some i)
    (v : Value) (n : Nat) (xs : List Value) (hown : w.ownsRow base e size v n xs) (ad : Option Addr) (c : Nat) : (Builtin.append_ #[t, t] ty #[v, .slice ad 0 c]).run P w = .ok v w := by
  rcases hown.2 with ⟨rfl, rfl⟩ | ⟨g, cap, cur, rfl, _, _, hnc, _⟩ <;> cases ad <;>
    simp [Builtin.append_, run_underlying ht, sizeOf, typeInfo, hi, Builtin.lenOf, Builtin.firstCells, loadCells, loadCellsFrom, storeCells, *]
theorem ls_append (hT : okTab P T = true) {x z : Operand} {t e size bytes id n : Nat} {xs ys : List (List AV)} {v : AV} {R : List Loc} (hx : ev s x = some (.own id n)) (hσ : find s.σ id = some (.row e size xs)) (hn : n = xs.length) (hz : ev s z = some v) (hsrc : SrcIs s size v ys R)
    (hty : nth T t = some (.slice e size bytes)) (hlen : xs.length + ys.length ≤ 1000000000) (hby : Nat.ble bytes 1000 = true) (hd : okDst Γ.n dst = true) :
    LS P Γ ⟨dst, .call { callee := .builtin .append, args := #[x, z], argTypes := #[t, t] }, ty, pos, after, none⟩ s (rd x (rd z (R ++ [.obj id]))) (dst1 dst (.own id (xs ++ ys).length)) [(id, .row e size (xs ++ ys))] := by
  refine ⟨fun t' ht Q μ a w hr K hK => ?_⟩
  obtain ⟨e1, ht⟩ := ht.ev hx
  obtain ⟨e2, ht⟩ := ht.ev hz
  obtain ⟨hag, ht⟩ := ht.app
  have e0 : find t'.σ id = some (.row e size xs) := ht.1.trans hσ
  have e1 := hr.ev e1
  have e2 := hr.ev e2
  obtain ⟨hu, hpos, j, zz, hj, hj2, hj3, hj4, hj5⟩ := slice_ty hT hty
  have hby := Nat.le_of_ble_eq_true hby
  obtain ⟨ad, c, news, e3, e4, e5⟩ := src_reads hr hag e2 hsrc hpos
  simp only [rep] at e1
  obtain ⟨_, e', size', xs', e6, e7, e8⟩ := e1
  rw [e0] at e6
  injection e6 with e6; injection e6 with e6 e9 e10; subst e6 e9 e10
  have e8 := e8 hn
  subst hn
  obtain ⟨us, e11, e12⟩ := hr.store.obj id _ e0
  have happ : ∃ v' w', (Builtin.append_ #[t, t] ty #[μ id, .slice ad ys.length c]).run P w = .ok v' w' ∧ w'.ownsRow 0 e size v' (xs.length + ys.length) (us ++ news) ∧ w.grownBy w' (μ id).ownBlock ∧
      (v'.ownBlock = (μ id).ownBlock ∨ v'.ownBlock = some w.heap.size) ∧ (ys = [] → v' = μ id) := by
    by_cases hy : ys = []
    · subst hy
      have hnews : news = [] := List.eq_nil_of_length_eq_zero (by simpa using e4.1)
      subst hnews
      exact ⟨μ id, w, run_append_zero w 0 t ty e j size hu hj _ _ _ e11 ad c, by simpa using e11, World.grownBy.refl w _, .inl rfl, fun _ => rfl⟩
    · obtain ⟨v', w', h1, h2, h3, h4⟩ := run_append_any (P := P) w 0 t ty e j zz size bytes hu hj hj4 hj2 hj3 hj5 hpos (μ id) xs.length us e11 w.heap.size ad ys.length c news e4 (repLL_one e5) (by simp only [maxLen]; omega) (by
        have h2 : (xs.length + ys.length) * bytes ≤ 1000000000 * 1000 := Nat.mul_le_mul hlen hby
        omega) (Nat.zero_le _)
      exact ⟨v', w', h1, h2, h3, h4, fun h => absurd h hy⟩
  obtain ⟨v', w', hrun, hown, hgr, hbk, hzero⟩ := happ
  have hblk : ∀ y : Value, y.ownBlock = blk y ∨ (∃ p, y = .pointer p) := by
    intro y
    cases y with
    | slice a n c => cases a <;> exact .inl rfl
    | pointer p => exact .inr ⟨p, rfl⟩
    | _ => exact .inl rfl
  have hb0 : (μ id).ownBlock = blk (μ id) := by
    rcases hblk (μ id) with h | ⟨p, h⟩
    · exact h
    · obtain ⟨A', c', h2, _⟩ := own_slice e11
      rw [h] at h2; cases h2
  have hb1 : v'.ownBlock = blk v' := by
    rcases hblk v' with h | ⟨p, h⟩
    · exact h
    · obtain ⟨A', c', h2, _⟩ := own_slice hown
      rw [h] at h2; cases h2
  have hne : ∀ i o, find t'.σ i = some o → i = id ∨ i ≠ id := fun i o _ => by by_cases h : i = id <;> simp [h]
  have hother : ∀ i o b, i ≠ id → find t'.σ i = some o → blk (μ i) = some b → some b ≠ (μ id).ownBlock := by
    intro i o b h1 h2 h3 h4
    rw [hb0] at h4
    exact h1 (hr.store.inj i id o _ b h2 e0 h3 h4.symm)
  have hgro : Gro t'.σ μ w ((id, .row e size (xs ++ ys)) :: t'.σ) (setμ μ id v') w' := by
    refine ⟨hgr.os, hgr.tape, hgr.output, hgr.size, fun b hl hn => hgr.block b hl (fun h => ?_), fun i o b hf hb hl => ?_, fun i t cs hf => ?_, fun i e' size' xs' hf => ?_⟩
    · rw [hb0] at h
      exact hn id _ e0 h.symm
    · rw [find_cons] at hf
      split at hf
      · rename_i h; subst h
        rw [setμ_same, ← hb1] at hb
        rcases hbk with h | h
        · rw [h, hb0] at hb; exact ⟨_, _, e0, hb⟩
        · rw [h] at hb; injection hb with hb; omega
      · rename_i h
        rw [setμ_ne μ v' (Ne.symm h)] at hb
        exact ⟨i, o, hf, hb⟩
    · have h : id ≠ i := fun h => by subst h; rw [e0] at hf; cases hf
      exact ⟨cs, by rw [find_cons, if_neg h]; exact hf, rfl, setμ_ne μ v' (Ne.symm h)⟩
    · by_cases h : id = i
      · subst h
        rw [e0] at hf; injection hf with hf; injection hf with h1 h2 h3; subst h1 h2 h3
        refine ⟨xs ++ ys, by rw [find_cons, if_pos rfl], by simp, fun hl => ?_⟩
        rw [setμ_same]
        exact hzero (by simpa using hl)
      · exact ⟨xs', by rw [find_cons, if_neg h]; exact hf, Nat.le_refl _, fun _ => setμ_ne μ v' (Ne.symm h)⟩
  have hs : SRel ((id, .row e size (xs ++ ys)) :: t'.σ) (setμ μ id v') w' Γ.M := by
    refine hr.store.at_ hgro id (fun i h => by rw [find_cons, if_neg (Ne.symm h)]) (fun i h => setμ_ne μ v' h) (fun i o b h1 h2 h3 => hgr.block b (ObjRel.lt hr.store h2 h3) (hother i o b h1 h2 h3)) (fun o ho => ?_) (fun i o b h1 h2 h3 h4 => ?_) (fun b h1 h2 => ?_)
    · rw [find_cons, if_pos rfl] at ho
      injection ho with ho; subst ho
      have hst := hgro.step (M := Γ.M)
      refine ⟨us ++ news, ?_, repLL_mono hst.pure (repLL_append e12 e5)⟩
      rw [setμ_same, List.length_append]
      exact hown
    · rw [setμ_same, ← hb1] at h4
      rcases hbk with h | h
      · rw [h] at h4
        exact hother i o b h1 h2 h3 h4.symm
      · rw [h] at h4; injection h4 with h4
        have := ObjRel.lt hr.store h2 h3
        omega
    · rw [setμ_same, ← hb1] at h1
      rcases hbk with h | h
      · rw [h, hb0] at h1
        exact hr.store.dis id _ b e0 h1 h2
      · rw [h] at h1; injection h1 with h1
        have := hr.store.lt b h2
        omega
  have hfin := (hr.goes hgro hs).put (d := dst) (x := .own id (xs ++ ys).length) (y := v') hd (by
    simp only [rep, find_cons, if_true]
    obtain ⟨A', c', h2, _⟩ := own_slice hown
    exact ⟨by rw [h2]; rfl, e, size, xs ++ ys, rfl, Nat.le_refl _, fun _ => (setμ_same _ _ _).symm⟩)
  unfold Oper.wp
  have hrun2 : (execOp a.eval ⟨dst, .call { callee := .builtin .append, args := #[x, z], argTypes := #[t, t] }, ty, pos, after, none⟩).run P w = .ok (.value v') w' := by
    simp only [execOp, resolve, Sem.run_bind, Sem.run_pure, Result.andThen_ok, invoke, builtin, List.map_toArray, List.map_cons, List.map_nil, e8, e3, hrun]
  rw [hrun2]
  refine hK (setμ μ id v') _ _ ?_
  cases dst <;> exact hfin
end
end Go.Proofs.Ytimlkhbedhjehaa
