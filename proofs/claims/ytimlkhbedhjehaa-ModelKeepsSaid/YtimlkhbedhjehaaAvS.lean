/-
  Walks over abstract values: what makes and writes memory. Over whatever program. No condition.
-/
import Derived.Test.YtimlkhbedhjehaaAvM
namespace Go.Proofs.Ytimlkhbedhjehaa
open Go.RowKit
set_option linter.unusedSimpArgs false
set_option linter.unusedVariables false

/-- A value that may lie in cells. -/
def cellOK : AV → Bool
  | .v x => x.oneCell'
  | .tup _ => false
  | _ => true
section
variable {σ : Store} {μ : Nat → Value} {w : World} {A : Nat → Prop}
theorem rep_cells {v : AV} {y : Value} (h : rep σ μ w A v y) (hv : cellOK v = true) : repC σ μ w A (acells v) y.cells.toList := by
  have one : ∀ {v : AV} {y : Value}, rep σ μ w A v y → acells v = [v] → y.oneCell' = true → repC σ μ w A (acells v) y.cells.toList := by
    intro v y h1 h2 h3
    rw [h2]
    have h4 : y.cells = #[y] := by cases y <;> first | rfl | simp [Value.oneCell'] at h3
    rw [h4]
    simp only [repC]
    exact ⟨y, [], rfl, h3, h1, rfl⟩
  cases v with
  | v x =>
    refine one h rfl ?_
    simp only [rep] at h
    rw [h.1]; exact hv
  | agg cs =>
    simp only [rep] at h
    obtain ⟨us, rfl, h1⟩ := h
    simpa [acells, Value.cells] using h1
  | tup vs => simp [cellOK] at hv
  | sl size xs =>
    refine one h rfl ?_
    simp only [rep] at h
    obtain ⟨ad, c, us, rfl, _⟩ := h
    rfl
  | own id n =>
    refine one h rfl ?_
    simp only [rep] at h
    exact h.1
  | ref id off =>
    refine one h rfl ?_
    simp only [rep] at h
    obtain ⟨t, cs, g, _, _, _, rfl⟩ := h
    rfl
  | eref id n i off =>
    refine one h rfl ?_
    simp only [rep] at h
    exact h.1
  | el cs =>
    refine one h rfl ?_
    simp only [rep] at h
    obtain ⟨b, off, us, rfl, _⟩ := h
    rfl
  | clo fn f c =>
    refine one h rfl ?_
    simp only [rep] at h
    obtain ⟨us, ks, rfl, _⟩ := h
    rfl
end
def setμ (μ : Nat → Value) (k : Nat) (v : Value) : Nat → Value := fun i => if i = k then v else μ i
theorem setμ_same (μ : Nat → Value) (k : Nat) (v : Value) : setμ μ k v k = v := by simp [setμ]
theorem setμ_ne (μ : Nat → Value) {k i : Nat} (v : Value) (h : i ≠ k) : setμ μ k v i = μ i := by simp [setμ, h]
section
variable {σ : Store} {μ : Nat → Value} {w w' : World} {M : Nat → Prop} {Γ : Ctx} {s : ASt} {a : Act}
theorem ObjRel.lt (h : SRel σ μ w M) {id : Nat} {o : SObj} {b : Nat} (hf : find σ id = some o) (hb : blk (μ id) = some b) : b < w.heap.size := by
  have h1 := h.obj id o hf
  cases o with
  | box t cs =>
    obtain ⟨g, us, h2, h3, _⟩ := h1
    rw [h2] at hb
    simp only [blk, Option.some.injEq] at hb
    subst hb
    exact h3.lt
  | row e size xs =>
    obtain ⟨us, h2, _⟩ := h1
    rcases h2.2 with ⟨h3, _⟩ | ⟨g, cap, cur, h3, _, h4, _⟩
    · rw [h3] at hb; simp [blk] at hb
    · rw [h3] at hb
      simp only [blk, Option.some.injEq] at hb
      subst hb
      exact Blk.lt (t := e) (cs := cur) h4
/-- A new object. -/
theorem new_obj (h : SRel σ μ w M) {k : Nat} (hk : find σ k = none) {o : SObj} {v : Value} (hb : Below w.heap.size w w') (hv : ∀ b, blk v = some b → w.heap.size ≤ b)
    (ho : ∀ μ' A, (∀ id, id ≠ k → μ' id = μ id) → μ' k = v → (∀ b, ¬ A b → ¬ av σ μ M b) → Step σ μ w (av σ μ M) ((k, o) :: σ) μ' w' A → ObjRel ((k, o) :: σ) μ' w' A k o) : Gro σ μ w ((k, o) :: σ) (setμ μ k v) w' ∧ SRel ((k, o) :: σ) (setμ μ k v) w' M := by
  have hne : ∀ id o', find σ id = some o' → id ≠ k := fun id o' hf e => by subst e; rw [hk] at hf; cases hf
  have hg : Gro σ μ w ((k, o) :: σ) (setμ μ k v) w' := by
    refine ⟨hb.os, hb.tape, hb.output, hb.size, fun b hl _ => hb.block b hl, fun id o' b hf hbl hl => ?_, fun id t cs hf => ?_, fun id e size xs hf => ?_⟩
    · rw [find_cons] at hf
      split at hf
      · rename_i e; subst e
        rw [setμ_same] at hbl
        have := hv b hbl; omega
      · rename_i e
        rw [setμ_ne μ v (Ne.symm e)] at hbl
        exact ⟨id, o', hf, hbl⟩
    · have := hne id _ hf
      exact ⟨cs, by rw [find_cons, if_neg (Ne.symm this)]; exact hf, rfl, setμ_ne μ v this⟩
    · have := hne id _ hf
      exact ⟨xs, by rw [find_cons, if_neg (Ne.symm this)]; exact hf, Nat.le_refl _, fun _ => setμ_ne μ v this⟩
  refine ⟨hg, h.at_ hg k (fun id e => by rw [find_cons, if_neg (Ne.symm e)]) (fun id e => setμ_ne μ v e) (fun id o' b e hf hbl => hb.block b (ObjRel.lt h hf hbl)) (fun o' ho' => ?_) (fun id o' b e hf hbl => ?_) (fun b hb1 hc => ?_)⟩
  · rw [find_cons, if_pos rfl] at ho'
    injection ho' with ho'; subst ho'
    refine ho _ _ (fun id e => setμ_ne μ v e) (setμ_same μ k v) (fun b hb' hc => hb' ?_) hg.step
    rcases hc with hc | ⟨id, o', h1, h2⟩
    · exact .inl hc
    · have := hne id _ h1
      exact .inr ⟨id, o', by rw [find_cons, if_neg (Ne.symm this)]; exact h1, by rw [setμ_ne μ v this]; exact h2⟩
  · rw [setμ_same]
    intro hc
    have := hv b hc
    have := ObjRel.lt h hf hbl
    omega
  · rw [setμ_same] at hb1
    have := hv b hb1
    have := h.lt b hc
    omega
theorem Rel.new (hr : Rel Γ s μ a w) {k : Nat} (hk : find s.σ k = none) {o : SObj} {v : Value} (hb : Below w.heap.size w w') (hv : ∀ b, blk v = some b → w.heap.size ≤ b)
    (ho : ∀ μ' A, (∀ id, id ≠ k → μ' id = μ id) → μ' k = v → (∀ b, ¬ A b → ¬ av s.σ μ Γ.M b) → Step s.σ μ w (av s.σ μ Γ.M) ((k, o) :: s.σ) μ' w' A → ObjRel ((k, o) :: s.σ) μ' w' A k o) : Rel Γ (s.eff [] [(k, o)]) (setμ μ k v) a w' := by
  obtain ⟨hg, hs⟩ := new_obj hr.store hk hb hv ho
  exact hr.goes hg hs
theorem below_alloc (w : World) (o : Obj) : Below w.heap.size w (w.alloc o) := (Below.refl _ w).alloc (Nat.le_refl _) o
end
section
variable {P : Program} {Γ : Ctx} {Q Q' : Exit → ASt → Prop} {s : ASt} {σ : Store} {μ : Nat → Value} {w : World} {A : Nat → Prop} {T : List TyI}
variable {dst : Option Tmp} {ty : TypeId} {pos : String} {after : Array Edge}
/-- A value that is laid into a variable of its own. -/
theorem ls_box {x : Operand} {e k : Nat} {v : AV} (hx : ev s x = some v) (hv : cellOK v = true) (hk : find s.σ k = none) (hd : okDst Γ.n dst = true) :
    LS P Γ ⟨dst, .box e x, ty, pos, after, none⟩ s (rd x [.obj k]) (dst1 dst (.ref k 0)) [(k, .box e (acells v))] := by
  refine ⟨fun t ht Q μ a w hr K hK => ?_⟩
  obtain ⟨e1, ht⟩ := ht.ev hx
  have hk' : find t.σ k = none := ht.1.trans hk
  have e2 := hr.ev e1
  have hn := hr.new (w' := w.alloc (.cells (a.eval x).cells e)) (v := .pointer (some ⟨w.heap.size, 0, none⟩)) (o := .box e (acells v)) hk' (below_alloc _ _) (by simp [blk]) (fun μ' A hμ hμk hA hst => by
    refine ⟨w.heap.size, (a.eval x).cells.toList, hμk, by simpa using Blk.new w e (a.eval x).cells, ?_⟩
    exact rep_cells (rep_mono hst e2) hv)
  have hfin := hn.put (d := dst) (x := .ref k 0) (y := .pointer (some ⟨w.heap.size, 0, none⟩)) hd (by
    simp only [rep, ASt.eff, List.cons_append, List.nil_append, find_cons, if_true]
    exact ⟨e, acells v, w.heap.size, rfl, Nat.zero_le _, setμ_same _ _ _, rfl⟩)
  unfold Oper.wp
  have hrun : (execOp a.eval ⟨dst, .box e x, ty, pos, after, none⟩).run P w = .ok (.value (.pointer (some ⟨w.heap.size, 0, none⟩))) (w.alloc (.cells (a.eval x).cells e)) := by
    simp only [execOp, Instr.box, newVar, newRow, Sem.run_bind, run_newObj, Result.andThen_ok, Sem.run_pure]
    rfl
  rw [hrun]
  refine hK (setμ μ k (.pointer (some ⟨w.heap.size, 0, none⟩))) _ _ ?_
  cases dst <;> exact hfin
/-! zero values -/
def zcells (T : List TyI) : Nat → Nat → Option (List Value)
  | 0, _ => none
  | d + 1, t => match nth T t with
    | some (.int k) => some [.int k 0]
    | some .string => some [.string ByteArray.empty]
    | some .bool => some [.bool false]
    | some .pointer => some [.pointer none]
    | some .func => some [.nilFunc]
    | some (.slice _ _ _) => some [.slice none 0 0]
    | some (.struct _ fs) => fs.foldr (fun f acc => match zcells T d f.2, acc with | some x, some y => some (x ++ y) | _, _ => none) (some [])
    | _ => none
def zeq : Value → Value → Bool
  | .int k a, .int k' b => decide (k = k') && decide (a = b)
  | .string a, .string b => Nat.beq a.size 0 && Nat.beq b.size 0
  | .bool a, .bool b => a == b
  | .pointer none, .pointer none => true
  | .nilFunc, .nilFunc => true
  | .slice none 0 0, .slice none 0 0 => true
  | _, _ => false
theorem zeq_eq : ∀ {x y : Value}, zeq x y = true → x = y
  | .int k a, .int k' b, h => by simp [zeq] at h; rw [h.1, h.2]
  | .string a, .string b, h => by
    simp only [zeq, Bool.and_eq_true, Nat.beq_eq] at h
    rw [ByteArray.size_eq_zero_iff.1 h.1, ByteArray.size_eq_zero_iff.1 h.2]
  | .bool a, .bool b, h => by simp [zeq] at h; rw [h]
  | .pointer none, .pointer none, _ => rfl
  | .nilFunc, .nilFunc, _ => rfl
  | .slice none 0 0, .slice none 0 0, _ => rfl
def zeqL : List Value → List Value → Bool
  | [], [] => true
  | x :: l, y :: m => zeq x y && zeqL l m
  | _, _ => false
theorem zeqL_eq : ∀ {l m : List Value}, zeqL l m = true → l = m
  | [], [], _ => rfl
  | x :: l, y :: m, h => by
    simp only [zeqL, Bool.and_eq_true] at h
    rw [zeq_eq h.1, zeqL_eq h.2]
  | [], _ :: _, h => by simp [zeqL] at h
  | _ :: _, [], h => by simp [zeqL] at h
def okZero (P : Program) (T : List TyI) : Bool := (List.range T.length).all fun t => match zcells T 10 t, P.info? t with
  | some zs, some i => (match i.zero with | some z => zeqL z.cells.toList zs | none => false)
  | some _, none => false
  | none, _ => true
theorem okZero_at (h : okZero P T = true) {t : Nat} {zs : List Value} (hz : zcells T 10 t = some zs) : ∃ i z, P.info? t = some i ∧ i.zero = some z ∧ z.cells = zs.toArray := by
  have hlt : t < T.length := by
    rcases Nat.lt_or_ge t T.length with h1 | h1
    · exact h1
    · have : nth T t = none := by
        cases h2 : nth T t with
        | none => rfl
        | some x => have := nth_lt h2; omega
      simp [zcells, this] at hz
  have := List.all_eq_true.1 h t (by simpa using hlt)
  rw [hz] at this
  split at this
  · rename_i zs' i hz' hi
    injection hz' with hz'; subst hz'
    split at this
    · rename_i z hzz
      exact ⟨i, z, hi, hzz, by rw [← zeqL_eq this]⟩
    · cases this
  · cases this
  · rename_i h1; cases h1
theorem repC_v : ∀ {cs : List Value}, (cs.all fun c => scal c && c.oneCell') = true → repC σ μ w A (cs.map .v) cs := repC_con
def zAV (zs : List Value) : List AV := zs.map .v
theorem ls_alloc (hZ : okZero P T = true) {e k : Nat} {zs : List Value} (hz : zcells T 10 e = some zs) (hs : (zs.all fun c => scal c && c.oneCell') = true) (hk : find s.σ k = none) (hd : okDst Γ.n dst = true) :
    LS P Γ ⟨dst, .alloc e, ty, pos, after, none⟩ s [.obj k] (dst1 dst (.ref k 0)) [(k, .box e (zs.map .v))] := by
  refine ⟨fun t ht Q μ a w hr K hK => ?_⟩
  have hk' : find t.σ k = none := ht.1.trans hk
  obtain ⟨i, z, hi, hiz, hzc⟩ := okZero_at hZ hz
  have hn := hr.new (w' := w.alloc (.cells z.cells e)) (v := .pointer (some ⟨w.heap.size, 0, none⟩)) (o := .box e (zs.map .v)) hk' (below_alloc _ _) (by simp [blk]) (fun μ' A hμ hμk hA hst => by
    refine ⟨w.heap.size, zs, hμk, by rw [hzc]; exact Blk.new w e _, repC_con hs⟩)
  have hfin := hn.put (d := dst) (x := .ref k 0) (y := .pointer (some ⟨w.heap.size, 0, none⟩)) hd (by
    simp only [rep, ASt.eff, List.cons_append, List.nil_append, find_cons, if_true]
    exact ⟨e, zs.map .v, w.heap.size, rfl, Nat.zero_le _, setμ_same _ _ _, rfl⟩)
  unfold Oper.wp
  have hrun : (execOp a.eval ⟨dst, .alloc e, ty, pos, after, none⟩).run P w = .ok (.value (.pointer (some ⟨w.heap.size, 0, none⟩))) (w.alloc (.cells z.cells e)) := by
    simp only [execOp, Instr.alloc, newVar, newRow, zeroValue, typeInfo, Sem.run_bind, run_program, run_newObj, Result.andThen_ok, Sem.run_pure, hi, hiz]
    rfl
  rw [hrun]
  refine hK (setμ μ k (.pointer (some ⟨w.heap.size, 0, none⟩))) _ _ ?_
  cases dst <;> exact hfin
end
section
variable {P : Program} {Γ : Ctx} {Q Q' : Exit → ASt → Prop} {s : ASt} {σ : Store} {μ : Nat → Value} {w : World} {A : Nat → Prop} {T : List TyI}
variable {dst : Option Tmp} {ty : TypeId} {pos : String} {after : Array Edge}
/-! stores -/
theorem setRow_below {w : World} {g : Nat} {cs : Array Value} (b : Nat) (h : b ≠ g) : (w.setRow g cs).heap[b]? = w.heap[b]? := setRow_other w g b _ h
/-- A store into one object of the store. -/
theorem store_rel {a : Act} {k : Nat} {o o' : SObj} {g : Nat} {w' : World} (hr : Rel Γ s μ a w) (hf : find s.σ k = some o) (hg : blk (μ k) = some g)
    (hsz : w'.heap.size = w.heap.size) (hos : w'.os = w.os) (htp : w'.tape = w.tape) (hout : w'.output = w.output) (hoth : ∀ b, b ≠ g → w'.heap[b]? = w.heap[b]?)
    (hsh : match o, o' with | .box t cs, .box t' cs' => t = t' ∧ cs'.length = cs.length | .row e n xs, .row e' n' xs' => e = e' ∧ n = n' ∧ xs'.length = xs.length | _, _ => False)
    (ho : ∀ A, Step s.σ μ w (av s.σ μ Γ.M) ((k, o') :: s.σ) μ w' A → (∀ b, ¬ A b → ¬ av s.σ μ Γ.M b) → ObjRel ((k, o') :: s.σ) μ w' A k o') : Rel Γ (s.eff [] [(k, o')]) μ a w' := by
  have hgro : Gro s.σ μ w ((k, o') :: s.σ) μ w' := by
    refine ⟨hos, htp, hout, by omega, fun b hl hn => hoth b (fun e => hn k o hf (by rw [hg, e])), fun id o1 b hf1 hb1 hl => ?_, fun id t cs hf1 => ?_, fun id e size xs hf1 => ?_⟩
    · rw [find_cons] at hf1
      split at hf1
      · rename_i e; subst e; exact ⟨k, o, hf, hb1⟩
      · exact ⟨id, o1, hf1, hb1⟩
    · by_cases e : k = id
      · subst e
        rw [hf] at hf1; injection hf1 with hf1; subst hf1
        cases o' with
        | box t' cs' =>
          simp only at hsh
          exact ⟨cs', by rw [find_cons, if_pos rfl, hsh.1], hsh.2, rfl⟩
        | row _ _ _ => exact hsh.elim
      · exact ⟨cs, by rw [find_cons, if_neg e]; exact hf1, rfl, rfl⟩
    · by_cases e1 : k = id
      · subst e1
        rw [hf] at hf1; injection hf1 with hf1; subst hf1
        cases o' with
        | row e' n' xs' =>
          simp only at hsh
          exact ⟨xs', by rw [find_cons, if_pos rfl, hsh.1, hsh.2.1], by omega, fun _ => rfl⟩
        | box _ _ => exact hsh.elim
      · exact ⟨xs, by rw [find_cons, if_neg e1]; exact hf1, Nat.le_refl _, fun _ => rfl⟩
  show Rel Γ ⟨s.regs, (k, o') :: s.σ⟩ μ a w'
  refine hr.goes hgro (hr.store.at_ (σ' := (k, o') :: s.σ) hgro k (fun id e => by rw [find_cons, if_neg (Ne.symm e)]) (fun _ _ => rfl) (fun id o1 b e hf1 hb1 => ?_) (fun o1 ho1 => ?_) (fun id o1 b e hf1 hb1 hc => e (hr.store.inj id k o1 o b hf1 hf hb1 hc)) (fun b hb1 => hr.store.dis k o b hf hb1))
  · refine hoth b (fun e1 => e (hr.store.inj id k o1 o b hf1 hf hb1 (by rw [hg, e1])))
  · rw [find_cons, if_pos rfl] at ho1
    injection ho1 with ho1; subst ho1
    refine ho _ hgro.step (fun b hb hc => hb ?_)
    rcases hc with hc | ⟨id, o1, h1, h2⟩
    · exact .inl hc
    · by_cases e : id = k
      · subst e
        exact .inr ⟨id, o', by rw [find_cons, if_pos rfl], h2⟩
      · exact .inr ⟨id, o1, by rw [find_cons, if_neg (Ne.symm e)]; exact h1, h2⟩
theorem store_run {g off t bt : Nat} {cur : Array Value} {y : Value} (hsz : (P.info? t).map (·.size) = some y.cells.size) (hg : w.heap[g]? = some (.cells cur bt (0, 0))) (hl : off + y.cells.size ≤ cur.size) (h1 : ∀ u ∈ y.cells.toList, u.oneCell' = true) :
    (storeVar t ⟨g, off, none⟩ y).run P w = .ok () (w.setRow g (cur.toList.take off ++ y.cells.toList ++ cur.toList.drop (off + y.cells.size)).toArray) := by
  have := run_storeCells_at P g off bt y.cells.toList 0 cur w hg (by simpa using hl) h1
  cases hi : P.info? t with
  | none => simp [hi] at hsz
  | some i =>
    have hs : y.cells.size = i.size := by simp [hi] at hsz; omega
    simp only [Nat.add_zero, Array.length_toList] at this
    simp [storeVar, sizeOf, typeInfo, hi, hs]
    rw [this]; simp [hs]
theorem ty_size1 (hT : okTab P T = true) {t n : Nat} {ti : TyI} (ht : nth T t = some ti) (hn : ti.size = n) (h0 : n ≠ 0) : (P.info? t).map (·.size) = some n := by
  obtain ⟨⟨i, hi, hs⟩, _⟩ := ty_size hT ht (by omega)
  rw [hi]; simp [hs, hn]
theorem ls_store_ref (hT : okTab P T = true) {x z : Operand} {t id off : Nat} {bt : TypeId} {cs cs' : List AV} {ti : TyI} {v : AV} (hx : ev s x = some (.ref id off)) (hz : ev s z = some v) (hσ : find s.σ id = some (.box bt cs)) (hty : nth T t = some ti) (hv : cellOK v = true)
    (hs : Nat.beq ti.size (acells v).length = true) (h0 : Nat.beq ti.size 0 = false) (hp : putK cs off (acells v) (fun r => r) = some cs') (hdst : dst = none) :
    LS P Γ ⟨dst, .store t x z, ty, pos, after, none⟩ s (rd x (rd z [.obj id])) [] [(id, .box bt cs')] := by
  refine ⟨fun t' ht Q μ a w hr K hK => ?_⟩
  subst hdst
  obtain ⟨e1, ht⟩ := ht.ev hx
  obtain ⟨e2, ht⟩ := ht.ev hz
  have e0 : find t'.σ id = some (.box bt cs) := ht.1.trans hσ
  have e1 := hr.ev e1
  have e2 := hr.ev e2
  simp only [rep] at e1
  obtain ⟨bt', cs0, g, e3, e4, e5, e6⟩ := e1
  rw [e0] at e3
  injection e3 with e3; injection e3 with e3 e7; subst e3 e7
  obtain ⟨g', us, e8, e9, e10⟩ := hr.store.obj id _ e0
  rw [e5] at e8
  injection e8 with e8; injection e8 with e8; injection e8 with e8; subst e8
  have hs := Nat.eq_of_beq_eq_true hs
  have h0 : ti.size ≠ 0 := fun h => by rw [h] at h0; cases h0
  have e11 := rep_cells e2 hv
  have e12 : (a.eval z).cells.size = ti.size := by rw [hs, ← repC_len e11]; simp
  obtain ⟨h3, rfl⟩ := putK_spec hp
  have hlen := repC_len e10
  have hrun := store_run (P := P) (w := w) (t := t) (off := off) (y := a.eval z) (by rw [ty_size1 hT hty rfl h0, e12]) e9 (by simp; omega) (repC_one e11)
  unfold Oper.wp
  have hrun2 : (execOp a.eval ⟨none, .store t x z, ty, pos, after, none⟩).run P w = .ok .skip (w.setRow g (us.take off ++ (a.eval z).cells.toList ++ us.drop (off + (a.eval z).cells.size)).toArray) := by
    simp only [execOp, Instr.storeAt, Instr.sureAddr, e6, Sem.run_bind, Sem.run_pure, Result.andThen_ok, hrun]
  rw [hrun2]
  refine hK μ _ _ ?_
  refine store_rel hr e0 (g := g) (by rw [e5]; rfl) (by simp) rfl rfl rfl (fun b hb => setRow_other w g b _ hb) ⟨rfl, ?_⟩ (fun A hst hA => ?_)
  · simp only [List.length_append, List.length_take, List.length_drop]; omega
  · refine ⟨g, _, e5, setRow_heap w g us.toArray _ bt (0, 0) e9, ?_⟩
    have e13 := rep_mono hst e2
    have e14 := repC_mono hst e10
    refine repC_append (repC_append (repC_take off e14) (rep_cells e13 hv)) ?_
    have h := repC_drop (off + (acells v).length) e14
    have he : us.drop (off + (acells v).length) = us.drop (off + (a.eval z).cells.size) := by rw [e12, hs]
    rw [he] at h
    exact h
theorem splice_row {cur us z : List Value} {n i size off m : Nat} (hus : us = cur.take (n * size)) (hi : i < n) (hm : off + m ≤ size) (hz : z.length = m) (hcur : n * size ≤ cur.length) :
    us.take (i * size) ++ (((us.drop (i * size)).take size).take off ++ z ++ ((us.drop (i * size)).take size).drop (off + m)) ++ us.drop (i * size + size) = (cur.take (i * size + off) ++ z ++ cur.drop (i * size + off + m)).take (n * size) := by
  have hb : i * size + size ≤ n * size := by
    have : (i + 1) * size ≤ n * size := Nat.mul_le_mul_right _ hi
    rw [Nat.add_mul] at this; omega
  have e1 : us.take (i * size) ++ ((us.drop (i * size)).take size).take off = cur.take (i * size + off) := by
    rw [List.take_take, Nat.min_eq_left (by omega), ← List.take_add, hus, List.take_take, Nat.min_eq_left (by omega)]
  have e2 : ((us.drop (i * size)).take size).drop (off + m) ++ us.drop (i * size + size) = (cur.drop (i * size + off + m)).take (n * size - (i * size + off + m)) := by
    have h1 : us.drop (i * size + (off + m)) = (us.drop (i * size)).drop (off + m) := by rw [List.drop_drop]
    have h2 : us.drop (i * size + size) = (us.drop (i * size)).drop size := by rw [List.drop_drop]
    have h3 : ((us.drop (i * size)).take size).drop (off + m) ++ (us.drop (i * size)).drop size = (us.drop (i * size)).drop (off + m) := by
      generalize us.drop (i * size) = l
      have h4 : l.drop size = (l.drop (off + m)).drop (size - (off + m)) := by rw [List.drop_drop]; congr 1; omega
      rw [List.drop_take, h4, List.take_append_drop]
    rw [h2, h3, ← h1, hus, List.drop_take, Nat.add_assoc]
  have e3 : (cur.take (i * size + off) ++ z ++ cur.drop (i * size + off + m)).take (n * size) = cur.take (i * size + off) ++ z ++ (cur.drop (i * size + off + m)).take (n * size - (i * size + off + m)) := by
    rw [List.take_append, List.take_of_length_le (by simp; omega)]
    congr 2
    simp; omega
  rw [e3, ← e1, ← e2]
  simp [List.append_assoc]
theorem ls_store_eref (hT : okTab P T = true) {x z : Operand} {t id n i off : Nat} {e : TypeId} {size : Nat} {xs : List (List AV)} {cs cs' : List AV} {ti : TyI} {v : AV} (hx : ev s x = some (.eref id n i off)) (hz : ev s z = some v) (hσ : find s.σ id = some (.row e size xs)) (hn : n = xs.length) (hi : xs[i]? = some cs) (hty : nth T t = some ti) (hv : cellOK v = true)
    (hpure : ∀ σ μ w A y, rep σ μ w A v y → rep [] μ w A v y) (hs : Nat.beq ti.size (acells v).length = true) (h0 : Nat.beq ti.size 0 = false) (hp : putK cs off (acells v) (fun r => r) = some cs') (hdst : dst = none) :
    LS P Γ ⟨dst, .store t x z, ty, pos, after, none⟩ s (rd x (rd z [.obj id])) [] [(id, .row e size (xs.set i cs'))] := by
  refine ⟨fun t' ht Q μ a w hr K hK => ?_⟩
  subst hdst
  obtain ⟨e1, ht⟩ := ht.ev hx
  obtain ⟨e2, ht⟩ := ht.ev hz
  have e0 : find t'.σ id = some (.row e size xs) := ht.1.trans hσ
  have e1 := hr.ev e1
  have e2 := hpure _ _ _ _ _ (hr.ev e2)
  simp only [rep] at e1
  obtain ⟨_, e', size', xs', e3, e4, e5⟩ := e1
  rw [e0] at e3
  injection e3 with e3; injection e3 with e3 e7 e8; subst e3 e7 e8
  obtain ⟨g, c, hlt, h2, h3, h4⟩ := e5 hn
  obtain ⟨us, e11, e12⟩ := hr.store.obj id _ e0
  have hs := Nat.eq_of_beq_eq_true hs
  have h0 : ti.size ≠ 0 := fun h => by rw [h] at h0; cases h0
  have e13 := rep_cells e2 hv
  have e14 : (a.eval z).cells.size = ti.size := by rw [hs, ← repC_len e13]; simp
  obtain ⟨h5, rfl⟩ := putK_spec hp
  obtain ⟨h6, h7⟩ := repLL_get e12 hi
  have h8 : cs.length = size := by rw [← repC_len h6]; exact h7
  subst hn
  rw [h3] at e11
  rcases e11.2 with ⟨h9, _⟩ | ⟨g', cap, cur, h9, _, h10, h11, h12, h13, h14⟩
  · cases h9
  injection h9 with h9 _ h15
  injection h9 with h9
  injection h9 with h9
  subst h9 h15
  have hul := repLL_len e12
  have hbound : i * size + size ≤ xs.length * size := by
    have : (i + 1) * size ≤ xs.length * size := Nat.mul_le_mul_right _ hlt
    rw [Nat.add_mul] at this; omega
  have hcap : xs.length * size ≤ c * size := Nat.mul_le_mul_right _ h11
  have hrun := store_run (P := P) (w := w) (t := t) (off := i * size + off) (y := a.eval z) (by rw [ty_size1 hT hty rfl h0, e14]) h10 (by omega) (repC_one e13)
  unfold Oper.wp
  have hrun2 : (execOp a.eval ⟨none, .store t x z, ty, pos, after, none⟩).run P w = .ok .skip (w.setRow g (cur.toList.take (i * size + off) ++ (a.eval z).cells.toList ++ cur.toList.drop (i * size + off + (a.eval z).cells.size)).toArray) := by
    simp only [execOp, Instr.storeAt, Instr.sureAddr, h4, Sem.run_bind, Sem.run_pure, Result.andThen_ok, hrun]
  rw [hrun2]
  refine hK μ _ _ ?_
  refine store_rel hr e0 (g := g) (by rw [h3]; rfl) (by simp) rfl rfl rfl (fun b hb => setRow_other w g b _ hb) ⟨rfl, rfl, by simp⟩ (fun A hst hA => ?_)
  have e15 := rep_mono hst.pure e2
  have e16 := repLL_mono hst.pure e12
  have e17 := repC_mono hst.pure h6
  have hnew := repLL_set e16 hlt (repC_append (repC_append (repC_take off e17) (rep_cells e15 hv)) (repC_drop (off + (acells v).length) e17)) (by
    simp only [List.length_append, List.length_take, List.length_drop, Array.length_toList]
    rw [e14]; omega)
  refine ⟨_, ⟨repLL_len hnew, .inr ⟨g, c, _, by rw [h3]; simp, Nat.zero_le _, setRow_heap w g cur _ e (0, 0) h10, by simpa using h11, h12, ?_, ?_⟩⟩, hnew⟩
  · simp only [List.size_toArray, List.length_append, List.length_take, List.length_drop, Array.length_toList]; omega
  · rw [List.length_set]
    have hs2 : (a.eval z).cells.size = (acells v).length := by omega
    have := splice_row (cur := cur.toList) (us := us) (z := (a.eval z).cells.toList) (n := xs.length) (i := i) (size := size) (off := off) (m := (acells v).length) h14.symm hlt (by omega) (by simpa using hs2) (by simp; omega)
    rw [this]
    simp only [List.toList_toArray]
    rw [hs2]
end
end Go.Proofs.Ytimlkhbedhjehaa
