/-
  Walks over abstract values: maps of one's own. Over whatever program. No condition.
-/
import Derived.Test.YtimlkhbedhjehaaAvX
import Derived.DeepKeys3
import Derived.StringKeys
namespace Go.Proofs.Ytimlkhbedhjehaa
open Go.RowKit
set_option linter.unusedSimpArgs false
set_option linter.unusedVariables false
def convL : List AV → Option (List Value)
  | [] => some []
  | .v x :: l => match convL l with
    | some us => some (x :: us)
    | none => none
  | _ => none
/-- the value that an abstract one that holds no memory stands for -/
def conv : AV → Option Value
  | .v x => some x
  | .agg cs => match convL cs with
    | some us => some (.agg us.toArray)
    | none => none
  | _ => none
section
variable {P : Program} {Γ : Ctx} {s : ASt} {σ : Store} {μ : Nat → Value} {w : World} {A : Nat → Prop}
variable {dst : Option Tmp} {ty : TypeId} {pos : String} {after : Array Edge}
theorem convL_rep : ∀ {cs : List AV} {xs us : List Value}, convL cs = some xs → repC σ μ w A cs us → us = xs
  | [], xs, us, h, h2 => by
    simp only [convL, Option.some.injEq] at h; subst h
    simpa only [repC] using h2
  | .v x :: cs, xs, us, h, h2 => by
    simp only [convL] at h
    split at h
    · rename_i ys hy
      injection h with h; subst h
      simp only [repC, rep] at h2
      obtain ⟨u, us', rfl, _, ⟨rfl, _⟩, h3⟩ := h2
      rw [convL_rep hy h3]
    · cases h
  | .agg _ :: _, _, _, h, _ => by simp [convL] at h
  | .tup _ :: _, _, _, h, _ => by simp [convL] at h
  | .sl _ _ :: _, _, _, h, _ => by simp [convL] at h
  | .own _ _ :: _, _, _, h, _ => by simp [convL] at h
  | .ref _ _ :: _, _, _, h, _ => by simp [convL] at h
  | .eref _ _ _ _ :: _, _, _, h, _ => by simp [convL] at h
  | .el _ :: _, _, _, h, _ => by simp [convL] at h
  | .clo _ _ _ :: _, _, _, h, _ => by simp [convL] at h
  | .mp _ :: _, _, _, h, _ => by simp [convL] at h
theorem conv_rep {v : AV} {x y : Value} (h : conv v = some x) (hr : rep σ μ w A v y) : y = x := by
  cases v with
  | v z => simp only [conv, Option.some.injEq] at h; subst h; simp only [rep] at hr; exact hr.1
  | agg cs =>
    simp only [conv] at h
    split at h
    · rename_i us hu
      injection h with h; subst h
      simp only [rep] at hr
      obtain ⟨us', rfl, h2⟩ := hr
      rw [convL_rep hu h2]
    · cases h
  | _ => cases h
theorem ls_makeMap {t k : Nat} (hk : find s.σ k = none) (hd : okDst Γ.n dst = true) : LS P Γ ⟨dst, .makeMap t none, ty, pos, after, none⟩ s [.obj k] (dst1 dst (.mp k)) [(k, .mp [])] := by
  refine ⟨fun t' ht Q μ a w hr K hK => ?_⟩
  have hk' : find t'.σ k = none := ht.1.trans hk
  have hn := hr.new (w' := w.alloc (.map #[] 0)) (v := .map (some w.heap.size)) (o := .mp []) hk' (below_alloc _ _) (by simp [blk]) (fun μ' A hμ hμk hA hst => by
    exact ⟨w.heap.size, #[], 0, hμk, (MapKept.heap_alloc w _).1, rfl⟩)
  have hfin := hn.put (d := dst) (x := .mp k) (y := .map (some w.heap.size)) hd (by
    simp only [rep, ASt.eff, List.cons_append, List.nil_append, find_cons, if_true]
    exact ⟨rfl, (setμ_same _ _ _).symm, [], rfl⟩)
  unfold Oper.wp
  have hrun : (execOp a.eval ⟨dst, .makeMap t none, ty, pos, after, none⟩).run P w = .ok (.value (.map (some w.heap.size))) (w.alloc (.map #[] 0)) := by
    simp [execOp, Instr.makeMap, run_newObj]
  rw [hrun]
  refine hK (setμ μ k (.map (some w.heap.size))) _ _ ?_
  cases dst <;> exact hfin
theorem ls_len_mp {x : Operand} {t kt et id : Nat} {es : List (Value × Value)} (hx : ev s x = some (.mp id)) (hσ : find s.σ id = some (.mp es)) (hu : P.underlying t = some (.map kt et)) (hd : okDst Γ.n dst = true) :
    LS P Γ ⟨dst, .call { callee := .builtin .len, args := #[x], argTypes := #[t] }, ty, pos, after, none⟩ s (rd x [.obj id]) (dst1 dst (.v (.int .i64 es.length))) [] :=
  ls_pure hd fun t' ht μ a w hr => by
    obtain ⟨e1, ht⟩ := ht.ev hx
    have e0 : find t'.σ id = some (.mp es) := ht.1.trans hσ
    have e1 := hr.ev e1
    simp only [rep] at e1 ⊢
    obtain ⟨g, ents, ck, h1, h2, h3⟩ := hr.store.obj id _ e0
    refine ⟨.int .i64 es.length, ?_, rfl, rfl⟩
    have hl : ents.size = es.length := by rw [← h3]; simp
    simp [execOp, resolve, invoke, builtin, Builtin.len_, e1.2.1, h1, run_underlying hu, MapKept.run_getObj_map h2, hl, goInt]
/-- m[k] = v -/
theorem ls_mapUpdate {kt : TypeId} (K : WideMaps.KeyLaw P kt) {m x y : Operand} {t et id : Nat} {es es' : List (Value × Value)} {kv vv : AV} {key val : Value} {kl : Lit}
    (hm : ev s m = some (.mp id)) (hx : ev s x = some kv) (hy : ev s y = some vv) (hσ : find s.σ id = some (.mp es)) (hu : P.underlying t = some (.map kt et)) (hk : conv kv = some key) (hv : conv vv = some val)
    (hkey : keyOf P kt key = some kl) (hall : ∀ p ∈ es, ∃ l, keyOf P kt p.1 = some l) (h1 : (∀ p ∈ es, p.1 ≠ key) → es' = es ++ [(key, val)]) (h2 : ∀ j p, es[j]? = some p → p.1 = key → es' = es.set j (key, val)) (hdst : dst = none) :
    LS P Γ ⟨dst, .mapUpdate t m x y, ty, pos, after, none⟩ s (rd m (rd x (rd y [.obj id]))) [] [(id, .mp es')] := by
  refine ⟨fun t' ht Q μ a w hr K' hK => ?_⟩
  subst hdst
  obtain ⟨e1, ht⟩ := ht.ev hm
  obtain ⟨e2, ht⟩ := ht.ev hx
  obtain ⟨e3, ht⟩ := ht.ev hy
  have e0 : find t'.σ id = some (.mp es) := ht.1.trans hσ
  have e1 := hr.ev e1
  have e2 := conv_rep hk (hr.ev e2)
  have e3 := conv_rep hv (hr.ev e3)
  simp only [rep] at e1
  obtain ⟨g, ents, ck, h3, h4, h5⟩ := hr.store.obj id _ e0
  have hall' : ∀ e ∈ ents.toList, ∃ l, keyOf P kt e.key = some l := fun e he => by
    have := hall (e.key, e.val) (by rw [← h5]; exact List.mem_map.2 ⟨e, he, rfl⟩)
    exact this
  obtain ⟨ents', ck', hrun, hents⟩ : ∃ ents' ck', (Instr.mapUpdate t (.map (some g)) key val).run P w = .ok () { w with heap := w.heap.setIfInBounds g (.map ents' ck') } ∧ ents'.toList.map (fun e => (e.key, e.val)) = es' := by
    rcases K.find w hkey ents.toList hall' with ⟨h6, h7⟩ | ⟨j, e, h6, h7, h8⟩
    · refine ⟨ents.push { key, val := val, born := ck }, ck + 1, ?_, ?_⟩
      · simp [Instr.mapUpdate, run_underlying hu, MapKept.run_getObj_map h4, K.check w false hkey, h6, MapKept.run_setObj_map _ h4]
      · rw [Array.toList_push, List.map_append, h5]
        refine (h1 fun p hp => ?_).symm
        rw [← h5] at hp
        obtain ⟨e, he, rfl⟩ := List.mem_map.1 hp
        exact h7 e he
    · have hj : j < ents.size := by simpa using (List.getElem?_eq_some_iff.1 h7).1
      have hge : ents[j]? = some e := by simpa using h7
      refine ⟨ents.modify j fun e => { e with key, val := val }, ck, ?_, ?_⟩
      · simp [Instr.mapUpdate, run_underlying hu, MapKept.run_getObj_map h4, K.check w false hkey, h6, hge, h8, K.stays w hkey, MapKept.run_setObj_map _ h4]
      · rw [h2 j (e.key, e.val) (by rw [← h5, List.getElem?_map, h7]; rfl) h8, ← h5, Array.toList_modify]
        apply List.ext_getElem?
        intro i
        rw [List.getElem?_map, List.getElem?_modify, List.getElem?_set, List.getElem?_map]
        by_cases hij : j = i
        · subst hij
          rw [h7]
          simp [hj]
        · simp [hij]
  unfold Oper.wp
  have hrun2 : (execOp a.eval ⟨none, .mapUpdate t m x y, ty, pos, after, none⟩).run P w = .ok .skip { w with heap := w.heap.setIfInBounds g (.map ents' ck') } := by
    simp only [execOp, e1.2.1, h3, e2, e3, Sem.run_bind, hrun, Result.andThen_ok, Sem.run_pure]
  rw [hrun2]
  refine hK μ _ _ ?_
  refine store_rel hr e0 (g := g) (by rw [h3]; rfl) (by simp) rfl rfl rfl (fun b hb => ?_) trivial (fun A hst hA => ?_)
  · simp only [Array.getElem?_setIfInBounds_ne (Ne.symm hb)]
  · have hlt := (Array.getElem?_eq_some_iff.1 h4).1
    exact ⟨g, ents', ck', h3, by simp [hlt], hents⟩
end
end Go.Proofs.Ytimlkhbedhjehaa
