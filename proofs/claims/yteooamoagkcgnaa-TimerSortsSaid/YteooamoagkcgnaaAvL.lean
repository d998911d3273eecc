/-
  Walks over abstract values: the end of a row of one's own is cleared. Over whatever program. No condition.
-/
import Derived.Test.YteooamoagkcgnaaAvX
import Derived.Laws.CopyRow
namespace Go.Proofs.Yteooamoagkcgnaa
open Go.RowKit
set_option linter.unusedSimpArgs false
set_option linter.unusedVariables false
theorem o_weak {P : Program} {Γ : Ctx} {Q : Exit → ASt → Prop} {s t : ASt} {ops : Array Oper} {rest : List Oper} (h : Weak Γ s t) (hk : AOps P Γ ops rest Q t) : AOps P Γ ops rest Q s := ⟨fun hnd μ a w hr => hk.out hnd μ a w (h.rel hr)⟩
section
variable {P : Program} {T : List TyI} {Γ : Ctx} {s : ASt} {Q : Exit → ASt → Prop} {ops : Array Oper} {rest : List Oper} {ty ty' : TypeId} {pos pos' : String} {after after' : Array Edge}
theorem Rel.putFree {μ : Nat → Value} {w : World} {a : Act} (hr : Rel Γ s μ a w) {d : Nat} (y : Value) (hfree : find s.regs d = none) : Rel Γ s μ (a.put (some d) y) w := by
  refine ⟨hr.defers, by simpa [Act.put] using hr.tmps, fun t z hz => ?_, hr.store, hr.gro⟩
  have e : d ≠ t := fun e => by subst e; rw [hfree] at hz; cases hz
  have := hr.regs t z hz
  simpa [Act.put, Array.getD_eq_getD_getElem?, Array.getElem?_setIfInBounds_ne e] using this
theorem repLL_app {σ : Store} {μ : Nat → Value} {w : World} {A : Nat → Prop} {size : Nat} : ∀ {xs ys : List (List AV)} {us vs : List Value}, repLL σ μ w A size xs us → repLL σ μ w A size ys vs → repLL σ μ w A size (xs ++ ys) (us ++ vs)
  | [], ys, us, vs, h, k => by simp only [repLL] at h; subst h; exact k
  | x :: xs, ys, us, vs, h, k => by
    simp only [repLL] at h
    obtain ⟨u1, u2, rfl, h0, h1, h2⟩ := h
    exact ⟨u1, u2 ++ vs, by rw [List.append_assoc], h0, h1, repLL_app h2 k⟩
theorem repLL_repW {σ : Store} {μ : Nat → Value} {w : World} {A : Nat → Prop} {size : Nat} {zc : List AV} {zs : List Value} (hz : repC σ μ w A zc zs) (hl : zs.length = size) : ∀ m : Nat, repLL σ μ w A size (List.replicate m zc) (List.replicate m zs).flatten
  | 0 => rfl
  | m + 1 => ⟨zs, (List.replicate m zs).flatten, by simp [List.replicate_succ], hl, hz, repLL_repW hz hl m⟩
theorem flat_len {zs : List Value} {size : Nat} (hl : zs.length = size) : ∀ m : Nat, (List.replicate m zs).flatten.length = m * size
  | 0 => by simp
  | m + 1 => by rw [List.replicate_succ, List.flatten_cons, List.length_append, flat_len hl m, hl, Nat.add_mul]; omega
theorem zeros_list {z : Array Value} {size : Nat} (h0 : 0 < size) (hz : z.size = size) : ∀ m : Nat, (Builtin.zeroCells z m).toList = (List.replicate m z.toList).flatten := by
  intro m
  unfold Builtin.zeroCells
  rw [hz, Array.toList_map, Array.toList_range]
  induction m with
  | zero => simp
  | succ m ih =>
    rw [List.replicate_succ', List.flatten_concat, ← ih, Nat.add_mul, Nat.one_mul, List.range_add, List.map_append, List.map_map]
    congr 1
    apply List.ext_getElem
    · simp [hz]
    · intro j h1 h2
      simp only [List.length_map, List.length_range] at h1
      simp only [List.getElem_map, List.getElem_range, Function.comp]
      rw [Nat.mul_comm m size, Nat.mul_add_mod, Nat.mod_eq_of_lt h1, getElem!_pos z j (by omega)]
      simp
set_option maxHeartbeats 1000000 in
theorem o_sliceClear (hT : okTab P T = true) {x y : Operand} {t e id n q d : Nat} {i : Int} {k : IntKind} {size bytes : Nat} {xs : List (List AV)} {zc : List AV} {zv : Value}
    (hx : ev s x = some (.own id n)) (hσ : find s.σ id = some (.row e size xs)) (hn : n = xs.length) (hy : ev s y = some (.v (.int k i))) (hi : i = (q : Int)) (hq : q < xs.length) (hty : nth T t = some (.slice e size bytes))
    (hz : ∀ w, (zeroValue e).run P w = .ok zv w) (hzc : ∀ σ μ w A, repC σ μ w A zc zv.cells.toList) (hzl : zv.cells.size = size) (hfree : find s.regs d = none) (hd : okDst Γ.n (some d) = true)
    (hk : AOps P Γ ops rest Q ⟨s.regs, (id, .row e size (xs.take q ++ List.replicate (xs.length - q) zc)) :: s.σ⟩) :
    AOps P Γ ops (⟨some d, .slice t x (some y) none none, ty, pos, after, none⟩ :: ⟨none, .call { callee := .builtin .clear, args := #[.tmp d], argTypes := #[t] }, ty', pos', after', none⟩ :: rest) Q s := by
  refine ⟨fun hnd μ a w hr => plain_in hnd rfl fun K hK => ?_⟩
  have e1 := hr.ev hx
  have e2 := hr.ev hy
  simp only [rep] at e1 e2
  obtain ⟨_, e', size', xs', e3, e4, e5⟩ := live hσ e1
  rw [hσ] at e3
  injection e3 with e3; injection e3 with e3 e7 e8; subst e3 e7 e8
  have e5 := e5 hn
  obtain ⟨us, e11, e12⟩ := hr.store.obj id _ hσ
  obtain ⟨hu, hpos, j, z, hj, hj2, _⟩ := slice_ty hT hty
  subst hi
  have hdl : d < a.tmps.size := by rw [hr.tmps]; exact Nat.le_of_ble_eq_true hd
  have hul := repLL_len e12
  rcases e11.2 with ⟨h9, h0⟩ | ⟨g, cap, cur, h9, _, h10, h11, h12, h13, h14⟩
  · omega
  have hnc : (q : Int) ≤ xs.length := by omega
  have hnc2 : (q : Int) ≤ cap := by omega
  have hcq : cap ≠ q := by omega
  have hle : q ≤ xs.length := by omega
  have hrun : (execOp a.eval ⟨some d, .slice t x (some y) none none, ty, pos, after, none⟩).run P w = .ok (.value (.slice (some ⟨g, q * size, none⟩) (xs.length - q) (cap - q))) w := by
    simp [execOp, e5, h9, e2.1, Instr.sliceAt, Instr.slice, run_underlying hu, Instr.sliceBounds, Instr.sliceBound, asIntOf, hnc, hle, sizeOf, typeInfo, hj, hj2, hcq, Addr.add]
    by_cases h0 : q * size = 0 <;> simp [h0]
  unfold Oper.wp
  rw [hrun]
  refine hK _ _ ?_
  refine plain_in (nodef_cons hnd).2 rfl fun K2 hK2 => ?_
  have hr2 : Rel Γ s μ (a.put (some d) (.slice (some ⟨g, q * size, none⟩) (xs.length - q) (cap - q))) w := hr.putFree _ hfree
  have hev : (a.put (some d) (.slice (some ⟨g, q * size, none⟩) (xs.length - q) (cap - q))).eval (.tmp d) = .slice (some ⟨g, q * size, none⟩) (xs.length - q) (cap - q) := by simp [Act.put, Act.eval, Array.getD_eq_getD_getElem?, hdl]
  have hzl' : zv.cells.toList.length = size := by simpa using hzl
  have hfl := flat_len hzl' (xs.length - q)
  have hqs : q * size + (xs.length - q) * size = xs.length * size := by rw [← Nat.add_mul]; congr 1; omega
  have hcs : xs.length * size ≤ cap * size := Nat.mul_le_mul_right _ h11
  have hone : ∀ v ∈ (List.replicate (xs.length - q) zv.cells.toList).flatten, v.oneCell' = true := by
    intro v hv
    obtain ⟨l, hl, hvl⟩ := List.mem_flatten.1 hv
    rw [(List.mem_replicate.1 hl).2] at hvl
    exact repC_one (hzc s.σ μ w (fun _ => False)) v hvl
  have hst := run_storeCells_at (P := P) g (q * size) e (List.replicate (xs.length - q) zv.cells.toList).flatten 0 cur w h10 (by rw [hfl]; omega) hone
  have hne : xs.length - q ≠ 0 := by omega
  have hclr : (Builtin.clear_ #[t] ty' #[.slice (some ⟨g, q * size, none⟩) (xs.length - q) (cap - q)]).run P w = .ok (.tuple #[]) (w.setRow g (cur.toList.take (q * size + 0) ++ (List.replicate (xs.length - q) zv.cells.toList).flatten ++ cur.toList.drop (q * size + 0 + (List.replicate (xs.length - q) zv.cells.toList).flatten.length)).toArray) := by
    rw [← zeros_list (by omega : 0 < size) hzl] at hst ⊢
    obtain ⟨m, hm⟩ : ∃ m, xs.length - q = m + 1 := ⟨xs.length - q - 1, by omega⟩
    rw [hm] at hst ⊢
    simp [Builtin.clear_, run_underlying hu, hz, hst]
  have hrun2 : (execOp (a.put (some d) (.slice (some ⟨g, q * size, none⟩) (xs.length - q) (cap - q))).eval ⟨none, .call { callee := .builtin .clear, args := #[.tmp d], argTypes := #[t] }, ty', pos', after', none⟩).run P w = .ok (.value (.tuple #[])) (w.setRow g (cur.toList.take (q * size + 0) ++ (List.replicate (xs.length - q) zv.cells.toList).flatten ++ cur.toList.drop (q * size + 0 + (List.replicate (xs.length - q) zv.cells.toList).flatten.length)).toArray) := by
    simp [execOp, resolve, invoke, builtin, hev, hclr, Result.andThen]
  unfold Oper.wp
  rw [hrun2]
  refine hK2 _ _ (hk.out (nodef_cons (nodef_cons hnd).2).2 μ _ _ ?_)
  have hlen : (xs.take q ++ List.replicate (xs.length - q) zc).length = xs.length := by rw [List.length_append, List.length_take, List.length_replicate]; omega
  refine store_rel hr2 hσ (g := g) (by rw [h9]; rfl) (by simp) rfl rfl rfl (fun b hb => setRow_other w g b _ hb) ⟨rfl, rfl, hlen⟩ (fun A hst hA => ?_)
  have e16 := repLL_mono hst.pure e12
  have hnew := repLL_app (repLL_take (n := q) e16) (repLL_repW (hzc [] μ _ A) hzl' (xs.length - q))
  refine ⟨_, ⟨repLL_len hnew, .inr ⟨g, cap, _, by rw [h9, hlen], Nat.zero_le _, Go.setRow_heap w g cur _ e (0, 0) h10, by omega, h12, ?_, ?_⟩⟩, hnew⟩
  · simp only [List.size_toArray, List.length_append, List.length_take, List.length_drop, Array.length_toList, hfl]; omega
  · rw [hlen]
    simp only [Nat.add_zero, List.toList_toArray]
    have hA : (cur.toList.take (q * size)).length = q * size := by rw [List.length_take, Array.length_toList, h13]; exact Nat.min_eq_left (by omega)
    rw [List.take_append_of_le_length (by rw [List.length_append, hA, hfl]; omega), List.take_of_length_le (by rw [List.length_append, hA, hfl]; omega)]
    congr 1
    rw [← h14, List.take_take]
    congr 1
    have : q * size ≤ xs.length * size := Nat.mul_le_mul_right _ (by omega)
    omega
end
end Go.Proofs.Yteooamoagkcgnaa
