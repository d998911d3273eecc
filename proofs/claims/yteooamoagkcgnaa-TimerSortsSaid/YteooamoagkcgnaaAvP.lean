/-
  Walks over abstract values: maps of one's own. Over whatever program. No condition.
-/
import Derived.Test.YteooamoagkcgnaaAvX
import Derived.DeepKeys3
import Derived.StringKeys
namespace Go.Proofs.Yteooamoagkcgnaa
open Go.RowKit
set_option linter.unusedSimpArgs false
set_option linter.unusedVariables false
def convL : List AV → Option (List Value)
  | [] => some []
  | .v x :: l => match convL l with
    | some us => some (x :: us)
    | none => none
  | _ => none
/-- the value that an abstract one that holds no memory stands for -/
def conv : AV → Option Value
  | .v x => some x
  | .agg cs => match convL cs with
    | some us => some (.agg us.toArray)
    | none => none
  | _ => none
section
variable {P : Program} {Γ : Ctx} {s : ASt} {σ : Store} {μ : Nat → Value} {w : World} {A : Nat → Prop}
variable {dst : Option Tmp} {ty : TypeId} {pos : String} {after : Array Edge}
theorem convL_rep : ∀ {cs : List AV} {xs us : List Value}, convL cs = some xs → repC σ μ w A cs us → us = xs
  | [], xs, us, h, h2 => by
    simp only [convL, Option.some.injEq] at h; subst h
    simpa only [repC] using h2
  | .v x :: cs, xs, us, h, h2 => by
    simp only [convL] at h
    split at h
    · rename_i ys hy
      injection h with h; subst h
      simp only [repC, rep] at h2
      obtain ⟨u, us', rfl, _, ⟨rfl, _⟩, h3⟩ := h2
      rw [convL_rep hy h3]
    · cases h
  | .agg _ :: _, _, _, h, _ => by simp [convL] at h
  | .tup _ :: _, _, _, h, _ => by simp [convL] at h
  | .sl _ _ :: _, _, _, h, _ => by simp [convL] at h
  | .own _ _ :: _, _, _, h, _ => by simp [convL] at h
  | .ref _ _ :: _, _, _, h, _ => by simp [convL] at h
  | .eref _ _ _ _ :: _, _, _, h, _ => by simp [convL] at h
  | .el _ :: _, _, _, h, _ => by simp [convL] at h
  | .clo _ _ _ :: _, _, _, h, _ => by simp [convL] at h
  | .mp _ :: _, _, _, h, _ => by simp [convL] at h
theorem conv_rep {v : AV} {x y : Value} (h : conv v = some x) (hr : rep σ μ w A v y) : y = x := by
  cases v with
  | v z => simp only [conv, Option.some.injEq] at h; subst h; simp only [rep] at hr; exact hr.1
  | agg cs =>
    simp only [conv] at h
    split at h
    · rename_i us hu
      injection h with h; subst h
      simp only [rep] at hr
      obtain ⟨us', rfl, h2⟩ := hr
      rw [convL_rep hu h2]
    · cases h
  | _ => cases h
theorem borns_push {ents : Array MapEntry} {ck : Nat} (h : Borns ents ck) (key val : Value) : Borns (ents.push { key, val := val, born := ck }) (ck + 1) := by
  refine ⟨by simp [h.1], fun i e he => ?_⟩
  rw [Array.getElem?_push] at he
  split at he
  · rename_i h1; injection he with he; subst he; exact h.1.trans h1.symm
  · exact h.2 i e he
theorem borns_modify {ents : Array MapEntry} {ck : Nat} (h : Borns ents ck) (j : Nat) (f : MapEntry → MapEntry) (hf : ∀ e, (f e).born = e.born) : Borns (ents.modify j f) ck := by
  refine ⟨by simp [h.1], fun i e he => ?_⟩
  rw [Array.getElem?_modify] at he
  split at he
  · cases hi : ents[i]? with
    | none => rw [hi] at he; cases he
    | some e' =>
      rw [hi] at he
      simp only [Option.map_some, Option.some.injEq] at he
      subst he
      rw [hf]; exact h.2 i e' hi
  · exact h.2 i e he
theorem ls_makeMap {t k : Nat} (hk : find s.σ k = none) (hd : okDst Γ.n dst = true) : LS P Γ ⟨dst, .makeMap t none, ty, pos, after, none⟩ s [.obj k] (dst1 dst (.mp k)) [(k, .mp [])] := by
  refine ⟨fun t' ht Q μ a w hr K hK => ?_⟩
  have hk' : find t'.σ k = none := ht.1.trans hk
  have hn := hr.new (w' := w.alloc (.map #[] 0)) (v := .map (some w.heap.size)) (o := .mp []) hk' (below_alloc _ _) (by simp [blk]) (fun μ' A hμ hμk hA hst => by
    exact ⟨w.heap.size, #[], 0, hμk, (MapKept.heap_alloc w _).1, rfl, rfl, fun i e h => by simp at h⟩)
  have hfin := hn.put (d := dst) (x := .mp k) (y := .map (some w.heap.size)) hd (by
    simp only [rep, ASt.eff, List.cons_append, List.nil_append, find_cons, if_true]
    exact ⟨rfl, (setμ_same _ _ _).symm, [], rfl⟩)
  unfold Oper.wp
  have hrun : (execOp a.eval ⟨dst, .makeMap t none, ty, pos, after, none⟩).run P w = .ok (.value (.map (some w.heap.size))) (w.alloc (.map #[] 0)) := by
    simp [execOp, Instr.makeMap, run_newObj]
  rw [hrun]
  refine hK (setμ μ k (.map (some w.heap.size))) _ _ ?_
  cases dst <;> exact hfin
theorem ls_len_mp {x : Operand} {t kt et id : Nat} {es : List (Value × Value)} (hx : ev s x = some (.mp id)) (hσ : find s.σ id = some (.mp es)) (hu : P.underlying t = some (.map kt et)) (hd : okDst Γ.n dst = true) :
    LS P Γ ⟨dst, .call { callee := .builtin .len, args := #[x], argTypes := #[t] }, ty, pos, after, none⟩ s (rd x [.obj id]) (dst1 dst (.v (.int .i64 es.length))) [] :=
  ls_pure hd fun t' ht μ a w hr => by
    obtain ⟨e1, ht⟩ := ht.ev hx
    have e0 : find t'.σ id = some (.mp es) := ht.1.trans hσ
    have e1 := hr.ev e1
    simp only [rep] at e1 ⊢
    obtain ⟨g, ents, ck, h1, h2, h3, _⟩ := hr.store.obj id _ e0
    refine ⟨.int .i64 es.length, ?_, rfl, rfl⟩
    have hl : ents.size = es.length := by rw [← h3]; simp
    simp [execOp, resolve, invoke, builtin, Builtin.len_, e1.2.1, h1, run_underlying hu, MapKept.run_getObj_map h2, hl, goInt]
/-- m[k] = v -/
theorem ls_mapUpdate {kt : TypeId} (K : WideMaps.KeyLaw P kt) {m x y : Operand} {t et id : Nat} {es es' : List (Value × Value)} {kv vv : AV} {key val : Value} {kl : Lit}
    (hm : ev s m = some (.mp id)) (hx : ev s x = some kv) (hy : ev s y = some vv) (hσ : find s.σ id = some (.mp es)) (hu : P.underlying t = some (.map kt et)) (hk : conv kv = some key) (hv : conv vv = some val)
    (hkey : keyOf P kt key = some kl) (hall : ∀ p ∈ es, ∃ l, keyOf P kt p.1 = some l) (h1 : (∀ p ∈ es, p.1 ≠ key) → es' = es ++ [(key, val)]) (h2 : ∀ j p, es[j]? = some p → p.1 = key → es' = es.set j (key, val)) (hdst : dst = none) :
    LS P Γ ⟨dst, .mapUpdate t m x y, ty, pos, after, none⟩ s (rd m (rd x (rd y [.obj id]))) [] [(id, .mp es')] := by
  refine ⟨fun t' ht Q μ a w hr K' hK => ?_⟩
  subst hdst
  obtain ⟨e1, ht⟩ := ht.ev hm
  obtain ⟨e2, ht⟩ := ht.ev hx
  obtain ⟨e3, ht⟩ := ht.ev hy
  have e0 : find t'.σ id = some (.mp es) := ht.1.trans hσ
  have e1 := hr.ev e1
  have e2 := conv_rep hk (hr.ev e2)
  have e3 := conv_rep hv (hr.ev e3)
  simp only [rep] at e1
  obtain ⟨g, ents, ck, h3, h4, h5, hbo⟩ := hr.store.obj id _ e0
  have hall' : ∀ e ∈ ents.toList, ∃ l, keyOf P kt e.key = some l := fun e he => by
    have := hall (e.key, e.val) (by rw [← h5]; exact List.mem_map.2 ⟨e, he, rfl⟩)
    exact this
  obtain ⟨ents', ck', hrun, hents⟩ : ∃ ents' ck', (Instr.mapUpdate t (.map (some g)) key val).run P w = .ok () { w with heap := w.heap.setIfInBounds g (.map ents' ck') } ∧ ents'.toList.map (fun e => (e.key, e.val)) = es' ∧ Borns ents' ck' := by
    rcases K.find w hkey ents.toList hall' with ⟨h6, h7⟩ | ⟨j, e, h6, h7, h8⟩
    · refine ⟨ents.push { key, val := val, born := ck }, ck + 1, ?_, ?_, borns_push hbo _ _⟩
      · simp [Instr.mapUpdate, run_underlying hu, MapKept.run_getObj_map h4, K.check w false hkey, h6, MapKept.run_setObj_map _ h4]
      · rw [Array.toList_push, List.map_append, h5]
        refine (h1 fun p hp => ?_).symm
        rw [← h5] at hp
        obtain ⟨e, he, rfl⟩ := List.mem_map.1 hp
        exact h7 e he
    · have hj : j < ents.size := by simpa using (List.getElem?_eq_some_iff.1 h7).1
      have hge : ents[j]? = some e := by simpa using h7
      refine ⟨ents.modify j fun e => { e with key, val := val }, ck, ?_, ?_, borns_modify hbo j _ (fun _ => rfl)⟩
      · simp [Instr.mapUpdate, run_underlying hu, MapKept.run_getObj_map h4, K.check w false hkey, h6, hge, h8, K.stays w hkey, MapKept.run_setObj_map _ h4]
      · rw [h2 j (e.key, e.val) (by rw [← h5, List.getElem?_map, h7]; rfl) h8, ← h5, Array.toList_modify]
        apply List.ext_getElem?
        intro i
        rw [List.getElem?_map, List.getElem?_modify, List.getElem?_set, List.getElem?_map]
        by_cases hij : j = i
        · subst hij
          rw [h7]
          simp [hj]
        · simp [hij]
  unfold Oper.wp
  have hrun2 : (execOp a.eval ⟨none, .mapUpdate t m x y, ty, pos, after, none⟩).run P w = .ok .skip { w with heap := w.heap.setIfInBounds g (.map ents' ck') } := by
    simp only [execOp, e1.2.1, h3, e2, e3, Sem.run_bind, hrun, Result.andThen_ok, Sem.run_pure]
  rw [hrun2]
  refine hK μ _ _ ?_
  refine store_rel hr e0 (g := g) (by rw [h3]; rfl) (by simp) rfl rfl rfl (fun b hb => ?_) trivial (fun A hst hA => ?_)
  · simp only [Array.getElem?_setIfInBounds_ne (Ne.symm hb)]
  · have hlt := (Array.getElem?_eq_some_iff.1 h4).1
    exact ⟨g, ents', ck', h3, by simp [hlt], hents⟩
/-- m[k], asked -/
theorem ls_lookup {kt : TypeId} (K : WideMaps.KeyLaw P kt) {m x : Operand} {t et id : Nat} {es : List (Value × Value)} {kv : AV} {key r z : Value} {b : Bool} {kl : Lit} (c : Bool)
    (hm : ev s m = some (.mp id)) (hx : ev s x = some kv) (hσ : find s.σ id = some (.mp es)) (hu : P.underlying t = some (.map kt et)) (hk : conv kv = some key) (hz : ∀ w, (zeroValue et).run P w = .ok z w) (hr : scal r = true)
    (hkey : keyOf P kt key = some kl) (hall : ∀ p ∈ es, ∃ l, keyOf P kt p.1 = some l) (h1 : (∀ p ∈ es, p.1 ≠ key) → r = z ∧ b = false) (h2 : ∀ (j : Nat) (p : Value × Value), es[j]? = some p → p.1 = key → r = p.2 ∧ b = true) (hd : okDst Γ.n dst = true) :
    LS P Γ ⟨dst, .lookup t m x c, ty, pos, after, none⟩ s (rd m (rd x [.obj id])) (dst1 dst (match c with | true => .tup [.v r, .v (.bool b)] | false => .v r)) [] :=
  ls_pure hd fun t' ht μ a w hR => by
    obtain ⟨e1, ht⟩ := ht.ev hm
    obtain ⟨e2, ht⟩ := ht.ev hx
    have e0 : find t'.σ id = some (.mp es) := ht.1.trans hσ
    have e1 := hR.ev e1
    have e2 := conv_rep hk (hR.ev e2)
    simp only [rep] at e1
    obtain ⟨g, ents, ck, h3, h4, h5, hbo⟩ := hR.store.obj id _ e0
    have hall' : ∀ e ∈ ents.toList, ∃ l, keyOf P kt e.key = some l := fun e he => hall (e.key, e.val) (by rw [← h5]; exact List.mem_map.2 ⟨e, he, rfl⟩)
    have hrun : (Instr.lookup t (.map (some g)) key c).run P w = .ok (if c then .tuple #[r, .bool b] else r) w := by
      rcases K.find w hkey ents.toList hall' with ⟨h6, h7⟩ | ⟨j, e, h6, h7, h8⟩
      · obtain ⟨rfl, rfl⟩ := h1 fun p hp => by
          rw [← h5] at hp
          obtain ⟨e, he, rfl⟩ := List.mem_map.1 hp
          exact h7 e he
        simp [Instr.lookup, run_underlying hu, MapKept.run_getObj_map h4, K.check w _ hkey, h6, hz]
      · obtain ⟨rfl, rfl⟩ := h2 j (e.key, e.val) (by rw [← h5, List.getElem?_map, h7]; rfl) h8
        simp [Instr.lookup, run_underlying hu, MapKept.run_getObj_map h4, K.check w _ hkey, h6]
    refine ⟨if c then .tuple #[r, .bool b] else r, by simp only [execOp, e1.2.1, h3, e2, Sem.run_bind, hrun, Result.andThen_ok, Sem.run_pure], ?_⟩
    cases c
    · simp only [rep]; exact ⟨rfl, hr⟩
    · simp only [rep, repL]; exact ⟨[_, _], rfl, _, _, rfl, ⟨rfl, hr⟩, _, _, rfl, ⟨rfl, rfl⟩, rfl⟩
/-- m[k] op= v, its first half: the entry is there, or is made -/
theorem ls_mapEntry {kt : TypeId} (K : WideMaps.KeyLaw P kt) {m x : Operand} {t et id i : Nat} {es es' : List (Value × Value)} {kv : AV} {key r z : Value} {kl : Lit}
    (hm : ev s m = some (.mp id)) (hx : ev s x = some kv) (hσ : find s.σ id = some (.mp es)) (hu : P.underlying t = some (.map kt et)) (hk : conv kv = some key) (hz : ∀ w, (zeroValue et).run P w = .ok z w) (hr : scal r = true)
    (hkey : keyOf P kt key = some kl) (hall : ∀ p ∈ es, ∃ l, keyOf P kt p.1 = some l) (h1 : (∀ p ∈ es, p.1 ≠ key) → r = z ∧ i = es.length ∧ es' = es ++ [(key, z)]) (h2 : ∀ j p, es[j]? = some p → p.1 = key → r = p.2 ∧ i = j ∧ es' = es) (hd : okDst Γ.n dst = true) :
    LS P Γ ⟨dst, .mapEntry t m x, ty, pos, after, none⟩ s (rd m (rd x [.obj id])) (dst1 dst (.tup [.v r, .v (.int .i64 i)])) [(id, .mp es')] := by
  refine ⟨fun t' ht Q μ a w hR K' hK => ?_⟩
  obtain ⟨e1, ht⟩ := ht.ev hm
  obtain ⟨e2, ht⟩ := ht.ev hx
  have e0 : find t'.σ id = some (.mp es) := ht.1.trans hσ
  have e1 := hR.ev e1
  have e2 := conv_rep hk (hR.ev e2)
  simp only [rep] at e1
  obtain ⟨g, ents, ck, h3, h4, h5, hbo⟩ := hR.store.obj id _ e0
  have hall' : ∀ e ∈ ents.toList, ∃ l, keyOf P kt e.key = some l := fun e he => hall (e.key, e.val) (by rw [← h5]; exact List.mem_map.2 ⟨e, he, rfl⟩)
  have hlen : ents.size = es.length := by rw [← h5]; simp
  obtain ⟨ents', ck', hrun, hents⟩ : ∃ ents' ck', (Instr.mapEntry t (.map (some g)) key).run P w = .ok (.tuple #[r, .int .i64 i]) { w with heap := w.heap.setIfInBounds g (.map ents' ck') } ∧ ents'.toList.map (fun e => (e.key, e.val)) = es' ∧ Borns ents' ck' := by
    rcases K.find w hkey ents.toList hall' with ⟨h6, h7⟩ | ⟨j, e, h6, h7, h8⟩
    · obtain ⟨rfl, rfl, rfl⟩ := h1 fun p hp => by
        rw [← h5] at hp
        obtain ⟨e, he, rfl⟩ := List.mem_map.1 hp
        exact h7 e he
      refine ⟨ents.push { key, val := r, born := ck }, ck + 1, ?_, ?_, borns_push hbo _ _⟩
      · have : (ck : Int) = (es.length : Int) := by rw [hbo.1, hlen]
        simp [Instr.mapEntry, run_underlying hu, MapKept.run_getObj_map h4, K.check w false hkey, h6, hz, MapKept.run_setObj_map _ h4, goInt, this]
      · rw [Array.toList_push, List.map_append, h5]; rfl
    · have hj : j < ents.size := by simpa using (List.getElem?_eq_some_iff.1 h7).1
      have hge : ents[j]? = some e := by simpa using h7
      obtain ⟨rfl, rfl, rfl⟩ := h2 j (e.key, e.val) (by rw [← h5, List.getElem?_map, h7]; rfl) h8
      refine ⟨ents.modify i fun e => { e with key }, ck, ?_, ?_, borns_modify hbo i _ (fun _ => rfl)⟩
      · simp [Instr.mapEntry, run_underlying hu, MapKept.run_getObj_map h4, K.check w false hkey, h6, hge, h8, K.stays w hkey, MapKept.run_setObj_map _ h4, goInt, hbo.2 i e hge]
      · rw [← h5, Array.toList_modify]
        apply List.ext_getElem?
        intro q
        rw [List.getElem?_map, List.getElem?_modify, List.getElem?_map]
        by_cases hij : i = q
        · subst hij
          rw [h7]
          simp [h8]
        · simp [hij]
  have hst := store_rel hR e0 (g := g) (o' := .mp es') (w' := { w with heap := w.heap.setIfInBounds g (.map ents' ck') }) (by rw [h3]; rfl) (by simp) rfl rfl rfl (fun b hb => by simp only [Array.getElem?_setIfInBounds_ne (Ne.symm hb)]) trivial (fun A hst hA => by
    have hlt := (Array.getElem?_eq_some_iff.1 h4).1
    exact ⟨g, ents', ck', h3, by simp [hlt], hents⟩)
  have hfin := hst.put (d := dst) (x := .tup [.v r, .v (.int .i64 i)]) (y := .tuple #[r, .int .i64 i]) hd (by
    simp only [rep, repL]
    exact ⟨[_, _], rfl, _, _, rfl, ⟨rfl, hr⟩, _, _, rfl, ⟨rfl, rfl⟩, rfl⟩)
  unfold Oper.wp
  have hrun2 : (execOp a.eval ⟨dst, .mapEntry t m x, ty, pos, after, none⟩).run P w = .ok (.value (.tuple #[r, .int .i64 i])) { w with heap := w.heap.setIfInBounds g (.map ents' ck') } := by
    simp only [execOp, e1.2.1, h3, e2, Sem.run_bind, hrun, Result.andThen_ok, Sem.run_pure]
  rw [hrun2]
  refine hK μ _ _ ?_
  cases dst <;> exact hfin
/-- .. its second half -/
theorem ls_entryStore {m st y : Operand} {t id i : Nat} {es : List (Value × Value)} {vv : AV} {val k0 v0 : Value}
    (hm : ev s m = some (.mp id)) (hst : ev s st = some (.v (.int .i64 i))) (hy : ev s y = some vv) (hσ : find s.σ id = some (.mp es)) (hv : conv vv = some val) (hi : es[i]? = some (k0, v0)) (hdst : dst = none) :
    LS P Γ ⟨dst, .entryStore t m st y, ty, pos, after, none⟩ s (rd m (rd st (rd y [.obj id]))) [] [(id, .mp (es.set i (k0, val)))] := by
  refine ⟨fun t' ht Q μ a w hR K' hK => ?_⟩
  subst hdst
  obtain ⟨e1, ht⟩ := ht.ev hm
  obtain ⟨e2, ht⟩ := ht.ev hst
  obtain ⟨e3, ht⟩ := ht.ev hy
  have e0 : find t'.σ id = some (.mp es) := ht.1.trans hσ
  have e1 := hR.ev e1
  have e2 := hR.ev e2
  have e3 := conv_rep hv (hR.ev e3)
  simp only [rep] at e1 e2
  obtain ⟨g, ents, ck, h3, h4, h5, hbo⟩ := hR.store.obj id _ e0
  have hie : ∃ e, ents[i]? = some e ∧ e.key = k0 := by
    rw [← h5, List.getElem?_map] at hi
    cases he : ents.toList[i]? with
    | none => rw [he] at hi; cases hi
    | some e =>
      rw [he] at hi
      simp only [Option.map_some, Option.some.injEq, Prod.mk.injEq] at hi
      exact ⟨e, by simpa using he, hi.1⟩
  obtain ⟨e, he, hk⟩ := hie
  have hlt : i < ents.size := (Array.getElem?_eq_some_iff.1 he).1
  have hfind : ents.findIdx? (fun e => (e.born : Int) == (i : Int)) = some i := by
    rw [Array.findIdx?_eq_some_iff_getElem]
    refine ⟨hlt, ?_, fun j hj => ?_⟩
    · have : ents[i].born = i := hbo.2 i _ (by rw [Array.getElem?_eq_getElem hlt])
      simp [this]
    · have : ents[j].born = j := hbo.2 j _ (by rw [Array.getElem?_eq_getElem (by omega)])
      simp [this]; omega
  have hrun : (Instr.entryStore t (.map (some g)) (.int .i64 i) val).run P w = .ok () { w with heap := w.heap.setIfInBounds g (.map (ents.modify i fun e => { e with val := val }) ck) } := by
    simp [Instr.entryStore, MapKept.run_getObj_map h4, asInt, asIntOf, hfind, MapKept.run_setObj_map _ h4]
  unfold Oper.wp
  have hrun2 : (execOp a.eval ⟨none, .entryStore t m st y, ty, pos, after, none⟩).run P w = .ok .skip { w with heap := w.heap.setIfInBounds g (.map (ents.modify i fun e => { e with val := val }) ck) } := by
    simp only [execOp, e1.2.1, h3, e2.1, e3, Sem.run_bind, hrun, Result.andThen_ok, Sem.run_pure]
  rw [hrun2]
  refine hK μ _ _ ?_
  refine store_rel hR e0 (g := g) (by rw [h3]; rfl) (by simp) rfl rfl rfl (fun b hb => by simp only [Array.getElem?_setIfInBounds_ne (Ne.symm hb)]) trivial (fun A hst hA => ?_)
  have hlt2 := (Array.getElem?_eq_some_iff.1 h4).1
  refine ⟨g, ents.modify i fun e => { e with val := val }, ck, h3, by simp [hlt2], ?_, borns_modify hbo i (fun e => { e with val := val }) (fun _ => rfl)⟩
  rw [← h5, Array.toList_modify]
  apply List.ext_getElem?
  intro q
  rw [List.getElem?_map, List.getElem?_modify, List.getElem?_set, List.getElem?_map]
  by_cases hij : i = q
  · subst hij
    have : ents.toList[i]? = some e := by simpa using he
    rw [this]
    simp [hk, hlt]
  · simp [hij]
end
end Go.Proofs.Yteooamoagkcgnaa
