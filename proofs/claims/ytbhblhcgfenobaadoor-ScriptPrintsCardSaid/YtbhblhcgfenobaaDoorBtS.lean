/-
  Walks over abstract values: a text turned to bytes, and what is appended to them. Over whatever program. No condition.
-/
import Derived.Test.YtbhblhcgfenobaaDoorBtA
import Derived.Lib.ConvBytes
namespace Go.Proofs.YtbhblhcgfenobaaDoor
open Go.RowKit
set_option linter.unusedSimpArgs false
set_option linter.unusedVariables false
section
variable {P : Program} {T : List TyI} {Γ : Ctx} {s : ASt} {dst : Option Tmp} {ty : TypeId} {pos : String} {after : Array Edge}
variable {σ : Store} {μ : Nat → Value} {w : World} {A : Nat → Prop} {M : Nat → Prop}
theorem tag_no (e : TypeId) : Nat.blt (e + 1048576) 1048576 = false := by
  cases h : Nat.blt (e + 1048576) 1048576
  · rfl
  · have := Nat.le_of_ble_eq_true h; omega
theorem tag_abs (e : TypeId) (h : Nat.blt (e + 1048576) 1048576 = true) : False := by rw [tag_no] at h; cases h
theorem OwnS.tag {e : TypeId} {size n : Nat} {v : Value} {xs : List Value} (h : w.ownsRow 0 e size v n xs) : OwnS w (e + 1048576) size v n xs := by
  refine ⟨h.1, h.2.imp id ?_⟩
  rintro ⟨g, cap, cur, h1, h2, h3, h4⟩
  exact ⟨g, cap, cur, h1, h2, ⟨e, (0, 0), h3, fun h => (tag_abs _ h).elim, fun _ => ⟨(Nat.add_sub_cancel (n := _) (m := 1048576)).symm, .inl rfl⟩⟩, h4⟩
theorem store_tail (g o : Nat) (t : TypeId) (fz : Nat × Nat) : ∀ (vs : List Value) (i : Nat) (cur : Array Value) (w : World), w.heap[g]? = some (.cells cur t fz) → fz.1 = cur.size → o + i + vs.length ≤ cur.size → (∀ v ∈ vs, v.oneCell' = true) →
    (storeCells ⟨g, o, none⟩ vs i).run P w = .ok () (w.setRow g (cur.toList.take (o + i) ++ vs ++ cur.toList.drop (o + i + vs.length)).toArray)
  | [], i, cur, w, hg, _, _, _ => by
    simp only [storeCells, List.append_nil, List.length_nil, Nat.add_zero, List.take_append_drop, Array.toArray_toList]
    rw [setRow_self w g cur t fz hg]
    rfl
  | v :: rest, i, cur, w, hg, hz, hl, h1 => by
    rw [List.length_cons] at hl
    have hi : o + i < cur.size := by omega
    have ha : (⟨g, o, none⟩ : Addr).add i = ⟨g, o + i, none⟩ := Go.WideShapes.add_plain _ _ _
    have hc : w.cell? ⟨g, o + i, none⟩ = some cur[o + i] := by simp [World.cell?, hg, hi]
    have hf : w.frozen? ⟨g, o + i, none⟩ = false := by
      simp only [World.frozen?, hg, hz, Bool.and_eq_false_iff, decide_eq_false_iff_not]
      exact .inl (by omega)
    have hst : (store ((⟨g, o, none⟩ : Addr).add i) v).run P w = .ok () (w.setRow g (cur.setIfInBounds (o + i) v)) := by
      rw [ha, run_store P w _ v _ (h1 v (by simp)), hc]
      simp [hf, setCell_eq_setRow w g (o + i) cur t fz v hg]
    have ih := store_tail g o t fz rest (i + 1) (cur.setIfInBounds (o + i) v) (w.setRow g (cur.setIfInBounds (o + i) v)) (setRow_heap w g cur _ t _ hg) (by simpa using hz) (by simp; omega) (fun x hx => h1 x (by simp [hx]))
    simp only [storeCells, Sem.run_bind, hst, Result.andThen_ok, ih, setRow_setRow]
    have e := list_seg_step cur.toList (o + i) v rest (by simp; omega)
    congr 3
    simpa [Array.toList_setIfInBounds, Nat.add_assoc] using e
theorem app_strT {t u ty' e : TypeId} {i : TypeInfo} (ht : P.underlying t = some (.slice e)) (hu : P.underlying u = some .string) (hi : P.info? e = some i) (hz : i.zero = some (.int .u8 0)) (hsize : i.size = 1) (hby : i.bytes = 1)
    {v : Value} {n : Nat} {xs : List Value} (hown : OwnS w (e + 1048576) 1 v n xs) (b : ByteArray) (hb : n + b.size ≤ 100000000000000) :
    ∃ v' w', (Builtin.append_ #[t, u] ty' #[v, .string b]).run P w = .ok v' w' ∧ OwnS w' (e + 1048576) 1 v' (n + b.size) (xs ++ Lib.strCells b) ∧ w.grownBy w' v.ownBlock ∧
      (v'.ownBlock = v.ownBlock ∨ ∃ c, v'.ownBlock = some c ∧ w.heap.size ≤ c) ∧ (b.size = 0 → v' = v) := by
  have key : w.ownsRow 0 e 1 v n xs → ∃ v' w', (Builtin.append_ #[t, u] ty' #[v, .string b]).run P w = .ok v' w' ∧ OwnS w' (e + 1048576) 1 v' (n + b.size) (xs ++ Lib.strCells b) ∧ w.grownBy w' v.ownBlock ∧
      (v'.ownBlock = v.ownBlock ∨ ∃ c, v'.ownBlock = some c ∧ w.heap.size ≤ c) ∧ (b.size = 0 → v' = v) := fun h => by
    obtain ⟨v', w', h1, h2, h3⟩ := app_str (ty' := ty') ht hu hi hz hsize hby h b hb
    exact ⟨v', w', h1, OwnS.tag h2, h3⟩
  have hxl : xs.length = n := by simpa using hown.1
  rcases hown.2 with h | ⟨g, cap, cur, hv, h0, ⟨e', fz, hg, _, h5⟩, hnc, hcm, hcs, htake⟩
  · exact key ⟨hown.1, .inl h⟩
  obtain ⟨he, hfz⟩ := h5 (tag_no e)
  rw [Nat.add_sub_cancel] at he
  subst he
  rcases hfz with rfl | hfz
  · exact key ⟨hown.1, .inr ⟨g, cap, cur, hv, h0, hg, hnc, hcm, hcs, htake⟩⟩
  subst hv
  rw [Nat.mul_one] at htake hcs
  by_cases hroom : n + b.size ≤ cap
  · have hf := Lib.run_firstCells_string (P := P) w 1 b
    have hst := store_tail (P := P) g n e' fz (Lib.strCells b) 0 cur w hg hfz (by rw [Lib.strCells_length]; omega) (Lib.strCells_oneCell b)
    simp only [Nat.add_zero, Lib.strCells_length] at hst
    have hr : (Builtin.append_ #[t, u] ty' #[.slice (some ⟨g, 0, none⟩) n cap, .string b]).run P w = .ok (.slice (some ⟨g, 0, none⟩) (n + b.size) cap) (w.setRow g (cur.toList.take n ++ Lib.strCells b ++ cur.toList.drop (n + b.size)).toArray) := by
      simp [Builtin.append_, run_underlying ht, run_underlying hu, sizeOf, typeInfo, hi, hsize, Builtin.lenOf, hroom, hf, Addr.add_lit, hst]
    have hsz : (cur.toList.take n ++ Lib.strCells b ++ cur.toList.drop (n + b.size)).toArray.size = cur.size := by
      simp only [List.size_toArray, List.length_append, List.length_take, List.length_drop, Array.length_toList, Lib.strCells_length]
      omega
    refine ⟨_, _, hr, ⟨by rw [List.length_append, hxl, Lib.strCells_length, Nat.mul_one], .inr ⟨g, cap, _, rfl, h0, ⟨e', fz, setRow_heap w g cur _ e' fz hg, fun h => (tag_abs _ h).elim, fun _ => ⟨(Nat.add_sub_cancel (n := _) (m := 1048576)).symm, .inr (hfz.trans hsz.symm)⟩⟩, hroom, hcm, by rw [hsz, Nat.mul_one]; exact hcs, ?_⟩⟩, ⟨rfl, rfl, rfl, by simp, fun k _ hk => setRow_other w g k _ (fun e => hk (by simp [Value.ownBlock, e]))⟩, .inl rfl, fun h => by rw [h]; rfl⟩
    rw [htake, Nat.mul_one]
    have hl2 : (xs ++ Lib.strCells b).length = n + b.size := by rw [List.length_append, hxl, Lib.strCells_length]
    rw [← hl2]
    exact List.take_left
  · have holds : ∀ j u, xs[j]? = some u → w.cell? ((⟨g, 0, none⟩ : Addr).add j) = some u := fun j u hu => by
      rw [Go.WideShapes.add_plain]
      exact hown.addr j u hu
    have hr := Lib.run_append_grow_string (P := P) w t u ty' e' i (.int .u8 0) ht hu hi hz ⟨g, 0, none⟩ n cap xs (by rw [hsize]; simpa using hxl) holds b (by omega) (by omega) (by rw [hby]; exact growslice_fits (by omega) (by omega))
    have hge := grownCap_ge w (n + b.size) cap e'
    have hcm2 : grownCap w (n + b.size) cap e' ≤ maxLen := grownCap_le_maxLen w (n + b.size) cap e' (by simp only [maxLen]; omega)
    refine ⟨_, _, hr, OwnS.tag ⟨by rw [List.length_append, hxl, Lib.strCells_length, Nat.mul_one], .inr ⟨w.heap.size, _, _, rfl, Nat.zero_le _, heap_alloc_new w.drew _, hge, hcm2, ?_, ?_⟩⟩, ⟨rfl, rfl, rfl, by simp, fun k hk _ => heap_alloc_old w.drew _ hk⟩, .inr ⟨_, rfl, Nat.le_refl _⟩, fun h => by omega⟩
    · have hz1 : (Value.int IntKind.u8 0).cells.size = 1 := rfl
      simp only [Array.size_append, List.size_toArray, size_zeroCells, hz1, hxl, Lib.strCells_length]
      omega
    · simp only [Array.toList_append, List.append_assoc]
      have hl2 : (xs ++ Lib.strCells b).length = (n + b.size) * 1 := by rw [List.length_append, hxl, Lib.strCells_length, Nat.mul_one]
      rw [← List.append_assoc, ← hl2]
      exact List.take_left
/-- append(b, s...) onto a text's bytes -/
theorem ls_appendT (hT : okTab P T = true) {x z : Operand} {t u e E bytes id n : Nat} {xs : List (List AV)} {b : ByteArray} (h8 : U8 P e) (hx : ev s x = some (.own id n)) (hσ : find s.σ id = some (.row E 1 xs)) (hE : E = e + 1048576) (hn : n = xs.length) (hz : ev s z = some (.v (.string b)))
    (hty : nth T t = some (.slice e 1 bytes)) (hu : nth T u = some .string) (hlen : xs.length + b.size ≤ 100000000000000) (hd : okDst Γ.n dst = true) :
    LS P Γ ⟨dst, .call { callee := .builtin .append, args := #[x, z], argTypes := #[t, u] }, ty, pos, after, none⟩ s (rd x (rd z [.obj id])) (dst1 dst (.own id (xs ++ b.data.toList.map byAv).length)) [(id, .row E 1 (xs ++ b.data.toList.map byAv))] := by
  refine ⟨fun t' ht Q μ a w hr K hK => ?_⟩
  subst hE
  obtain ⟨e1, ht⟩ := ht.ev hx
  obtain ⟨e2, ht⟩ := ht.ev hz
  have e0 : find t'.σ id = some (.row (e + 1048576) 1 xs) := ht.1.trans hσ
  have e1 := hr.ev e1
  have e2 := hr.ev e2
  obtain ⟨hut, _⟩ := slice_ty hT hty
  have hus := str_ty hT hu
  obtain ⟨⟨i, hi, hz, hs, hb⟩, _, _⟩ := h8
  simp only [rep] at e1 e2
  obtain ⟨_, e', size', xs', e6, e7, e8⟩ := live e0 e1
  rw [e0] at e6
  injection e6 with e6; injection e6 with e6 e9 e10; subst e6 e9 e10
  have e8 := e8 hn
  subst hn
  obtain ⟨us, e11, e12⟩ := hr.store.obj id _ e0
  obtain ⟨v', w', hrun, hown, hgr, hbk, hzero⟩ := app_strT (P := P) (ty' := ty) hut hus hi hz hs hb e11 b hlen
  have hl : (xs ++ b.data.toList.map byAv).length = xs.length + b.size := by rw [List.length_append, List.length_map, Array.length_toList]; rfl
  obtain ⟨hg, hs2⟩ := row_turn (σ' := (id, .row (e + 1048576) 1 (xs ++ b.data.toList.map byAv)) :: t'.σ) (xs' := xs ++ b.data.toList.map byAv) hr.store e0 (fun i => by rw [find_cons]) e11 (by rw [hl]; exact hown) (fun μ' A' hst => by
    rw [Lib.strCells_eq]
    exact repLL_append (repLL_mono hst.pure e12) (repLL_by _)) hgr hbk (by simp) (fun h => hzero (by rw [hl] at h; omega))
  have hfin := (hr.goes hg hs2).put (d := dst) (x := .own id (xs ++ b.data.toList.map byAv).length) (y := v') hd (by
    simp only [rep, find_cons, if_true]
    obtain ⟨A', c', h2, _⟩ := hown.slice
    exact ⟨by rw [h2]; rfl, .inr ⟨e + 1048576, 1, xs ++ b.data.toList.map byAv, rfl, Nat.le_refl _, fun _ => (setμ_same _ _ _).symm⟩⟩)
  unfold Oper.wp
  have hrun2 : (execOp a.eval ⟨dst, .call { callee := .builtin .append, args := #[x, z], argTypes := #[t, u] }, ty, pos, after, none⟩).run P w = .ok (.value v') w' := by
    simp only [execOp, resolve, Sem.run_bind, Sem.run_pure, Result.andThen_ok, invoke, builtin, List.map_toArray, List.map_cons, List.map_nil, e8, e2.1, hrun]
  rw [hrun2]
  refine hK (setμ μ id v') _ _ ?_
  cases dst <;> exact hfin
/-- []byte(s) -/
theorem ls_toBytes (hT : okTab P T = true) {x : Operand} {t u e bytes k : Nat} {b : ByteArray} (h8 : U8 P e) (hx : ev s x = some (.v (.string b))) (hty : nth T t = some (.slice e 1 bytes)) (hu : nth T u = some .string) (hlen : b.size ≤ 100000000000000) (hk : find s.σ k = none) (hd : okDst Γ.n dst = true) :
    LS P Γ ⟨dst, .convert u t x, ty, pos, after, none⟩ s (rd x [.obj k]) (dst1 dst (.own k (b.data.toList.map byAv).length)) [(k, .row (e + 1048576) 1 (b.data.toList.map byAv))] := by
  refine ⟨fun t' ht Q μ a w hr K hK => ?_⟩
  obtain ⟨e1, ht⟩ := ht.ev hx
  have hk' : find t'.σ k = none := ht.1.trans hk
  have e1 := hr.ev e1
  simp only [rep] at e1
  obtain ⟨hut, _⟩ := slice_ty hT hty
  have hus := str_ty hT hu
  have hl : (b.data.toList.map byAv).length = b.size := by rw [List.length_map, Array.length_toList]; rfl
  have hbel : Below w.heap.size w (Lib.bytesWorld w e b) := by
    refine ⟨?_, ?_, ?_, by rw [Lib.bytesWorld_size]; omega, fun j hj => Lib.bytesWorld_at_old w e b j hj⟩
    all_goals
      unfold Lib.bytesWorld World.freeze
      split <;> rfl
  have hge := grownCap_ge w b.size 0 e
  have hcm : grownCap w b.size 0 e ≤ maxLen := grownCap_le_maxLen w b.size 0 e (by simp only [maxLen]; omega)
  have hcsz : (Lib.bytesCells w e b).size = grownCap w b.size 0 e := by
    have : b.data.size = b.size := rfl
    simp only [Lib.bytesCells, Array.size_append, Array.size_map, Array.size_replicate]
    omega
  have hown : OwnS (Lib.bytesWorld w e b) (e + 1048576) 1 (.slice (some ⟨w.heap.size, 0, none⟩) b.size (grownCap w b.size 0 e)) b.size (Lib.strCells b) := by
    refine ⟨by rw [Lib.strCells_length, Nat.mul_one], .inr ⟨w.heap.size, _, Lib.bytesCells w e b, rfl, Nat.zero_le _, ⟨e, _, Lib.bytesWorld_at_new w e b, fun h => (tag_abs _ h).elim, fun _ => ⟨(Nat.add_sub_cancel (n := _) (m := 1048576)).symm, .inr rfl⟩⟩, hge, hcm, by rw [hcsz, Nat.mul_one], ?_⟩⟩
    have hl2 : (Lib.strCells b).length = b.size * 1 := by rw [Lib.strCells_length, Nat.mul_one]
    have he : (Lib.bytesCells w e b).toList = Lib.strCells b ++ List.replicate (grownCap w b.size 0 e - b.size) (.int .u8 0) := by
      simp [Lib.bytesCells, Lib.strCells]
    rw [he, ← hl2]
    exact List.take_left
  have hn := hr.new (w' := Lib.bytesWorld w e b) (v := .slice (some ⟨w.heap.size, 0, none⟩) b.size (grownCap w b.size 0 e)) (o := .row (e + 1048576) 1 (b.data.toList.map byAv)) hk' hbel (by simp [blk]) (fun μ' A hμ hμk hA hst => by
    refine ⟨Lib.strCells b, ?_, by rw [Lib.strCells_eq]; exact repLL_by _⟩
    rw [hμk, hl]
    exact hown)
  have hfin := hn.put (d := dst) (x := .own k (b.data.toList.map byAv).length) (y := .slice (some ⟨w.heap.size, 0, none⟩) b.size (grownCap w b.size 0 e)) hd (by
    simp only [rep, ASt.eff, List.cons_append, List.nil_append, find_cons, if_true]
    exact ⟨rfl, .inr ⟨e + 1048576, 1, _, rfl, Nat.le_refl _, fun _ => (setμ_same _ _ _).symm⟩⟩)
  unfold Oper.wp
  have hrun2 : (execOp a.eval ⟨dst, .convert u t x, ty, pos, after, none⟩).run P w = .ok (.value (.slice (some ⟨w.heap.size, 0, none⟩) b.size (grownCap w b.size 0 e))) (Lib.bytesWorld w e b) := by
    simp [execOp, e1.1, Lib.run_convert_string_bytes w u t e b hus hut h8.2.1]
  rw [hrun2]
  refine hK (setμ μ k (.slice (some ⟨w.heap.size, 0, none⟩) b.size (grownCap w b.size 0 e))) _ _ ?_
  cases dst <;> exact hfin
/-- string(b) of a text's bytes -/
theorem ls_toStrT (hT : okTab P T = true) {x : Operand} {t u e E bytes id n : Nat} {l : List UInt8} {xs : List (List AV)} (h8 : U8 P e) (hx : ev s x = some (.own id n)) (hσ : find s.σ id = some (.row E 1 xs)) (hxs : xs = l.map byAv) (hn : n = xs.length)
    (hty : nth T t = some (.slice e 1 bytes)) (hu : nth T u = some .string) (hd : okDst Γ.n dst = true) :
    LS P Γ ⟨dst, .convert t u x, ty, pos, after, none⟩ s (rd x [.obj id]) (dst1 dst (.v (.string ⟨l.toArray⟩))) [] :=
  ls_pure hd fun t' ht μ a w hr => by
    subst hxs
    obtain ⟨e1, ht⟩ := ht.ev hx
    have e0 : find t'.σ id = some (.row E 1 (l.map byAv)) := ht.1.trans hσ
    have e1 := hr.ev e1
    simp only [rep] at e1 ⊢
    obtain ⟨_, e', size', xs', e3, e4, e5⟩ := live e0 e1
    rw [e0] at e3
    injection e3 with e3; injection e3 with e3 e7 e8; subst e3 e7 e8
    have e5 := e5 hn
    subst hn
    obtain ⟨us, e11, e12⟩ := hr.store.obj id _ e0
    have hus := by_repLL l e12
    subst hus
    obtain ⟨hut, _⟩ := slice_ty hT hty
    have hst := str_ty hT hu
    refine ⟨.string ⟨l.toArray⟩, ?_, rfl, rfl⟩
    have hload : ∀ g cap, μ id = .slice (some ⟨g, 0, none⟩) (l.map byAv).length cap → (loadCells ⟨g, 0, none⟩ (l.map byAv).length).run P w = .ok ((l.map fun b => (b.toNat : Int)).map (Value.int .u8)).toArray w := by
      intro g cap hv
      have h1 := run_loadCells_list (P := P) w ⟨g, 0, none⟩ (Lib.byteCells l) (fun j v hj => by
        rw [hv] at e11
        have h2 := e11.addr j v hj
        rw [Go.WideShapes.add_plain]
        exact h2)
      rw [Lib.byteCells_length] at h1
      rw [List.length_map, h1]
      congr 1
      simp [Lib.byteCells]
    have hconv : (convert t u (μ id)).run P w = .ok (.string ⟨l.toArray⟩) w := by
      rcases e11.2 with ⟨h0, hn0⟩ | ⟨g, cap, cur, h1, _⟩
      · have hl0 : l = [] := List.eq_nil_of_length_eq_zero (by simpa using hn0)
        subst hl0
        rw [h0, run_convert_bytes_string w t u e none 0 0 hut h8.2.1 hst]
        rfl
      · rw [h1, run_convert_bytes_string w t u e _ _ _ hut h8.2.1 hst, run_bytesToString w _ _ cap _ (hload g cap h1), push_fold]
        show Result.ok (Value.string ⟨#[] ++ l.toArray⟩) w = _
        simp
    simp [execOp, e5, hconv]
/-- string(b) of bytes that are only read -/
theorem ls_toStrS (hT : okTab P T = true) {x : Operand} {t u e bytes : Nat} {l : List UInt8} {xs : List (List AV)} (h8 : U8 P e) (hx : ev s x = some (.sl 1 xs)) (hxs : xs = l.map byAv)
    (hty : nth T t = some (.slice e 1 bytes)) (hu : nth T u = some .string) (hd : okDst Γ.n dst = true) :
    LS P Γ ⟨dst, .convert t u x, ty, pos, after, none⟩ s (rd x []) (dst1 dst (.v (.string ⟨l.toArray⟩))) [] :=
  ls_pure hd fun t' ht μ a w hr => by
    subst hxs
    obtain ⟨e1, ht⟩ := ht.ev hx
    have e1 := hr.ev e1
    simp only [rep] at e1 ⊢
    obtain ⟨ad, c, us, e2, _, _, h3, h4⟩ := e1
    have hus := by_repLL l h4
    subst hus
    obtain ⟨hut, _⟩ := slice_ty hT hty
    have hst := str_ty hT hu
    refine ⟨.string ⟨l.toArray⟩, ?_, rfl, rfl⟩
    have hconv : (convert t u (.slice ad (l.map byAv).length c)).run P w = .ok (.string ⟨l.toArray⟩) w := by
      cases ad with
      | none =>
        have hl0 : l = [] := by
          rcases h3 with h3 | ⟨b, off, h3, _⟩
          · exact List.eq_nil_of_length_eq_zero (by rw [← Lib.byteCells_length, h3]; rfl)
          · cases h3
        subst hl0
        rw [run_convert_bytes_string w t u e none _ _ hut h8.2.1 hst]
        rfl
      | some ad =>
        have hload : (loadCells ad (l.map byAv).length).run P w = .ok ((l.map fun b => (b.toNat : Int)).map (Value.int .u8)).toArray w := by
          have h1 := run_loadCells_list (P := P) w ad (Lib.byteCells l) (fun j v hj => by
            rcases h3 with h3 | ⟨b, off, h5, _, _, h6⟩
            · rw [h3] at hj; simp at hj
            · injection h5 with h5
              subst h5
              rw [Go.WideShapes.add_plain]
              exact h6 j v hj)
          rw [Lib.byteCells_length] at h1
          rw [List.length_map, h1]
          congr 1
          simp [Lib.byteCells]
        rw [run_convert_bytes_string w t u e _ _ _ hut h8.2.1 hst, run_bytesToString w _ _ c _ hload, push_fold]
        show Result.ok (Value.string ⟨#[] ++ l.toArray⟩) w = _
        simp
    rw [List.length_map] at hconv
    simp [execOp, e2, hconv]
end
end Go.Proofs.YtbhblhcgfenobaaDoor
