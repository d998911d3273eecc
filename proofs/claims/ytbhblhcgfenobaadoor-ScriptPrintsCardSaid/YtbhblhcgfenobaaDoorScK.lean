/-
  Walks over abstract values: a row of bytes appended to a text's bytes. Over whatever program. No condition.
-/
import Derived.Test.YtbhblhcgfenobaaDoorBtS
namespace Go.Proofs.YtbhblhcgfenobaaDoor
open Go.RowKit
set_option linter.unusedSimpArgs false
set_option linter.unusedVariables false
section
variable {P : Program} {T : List TyI} {Γ : Ctx} {s : ASt} {dst : Option Tmp} {ty : TypeId} {pos : String} {after : Array Edge}
variable {σ : Store} {μ : Nat → Value} {w : World} {A : Nat → Prop} {M : Nat → Prop}
theorem app_rowT {t ty' e : TypeId} {i : TypeInfo} {B : Nat} (ht : P.underlying t = some (.slice e)) (hi : P.info? e = some i) (hz : i.zero = some (.int .u8 0)) (hsize : i.size = 1) (hby : i.bytes = 1)
    {v : Value} {n : Nat} {xs : List Value} (hown : OwnS w (e + 1048576) 1 v n xs) (ad : Option Addr) (m c : Nat) (news : List Value) (hr : Reads w B 1 ad m news) (h1 : ∀ u ∈ news, u.oneCell' = true) (hm : 0 < m) (hb : n + m ≤ 100000000000000) :
    ∃ v' w', (Builtin.append_ #[t, t] ty' #[v, .slice ad m c]).run P w = .ok v' w' ∧ OwnS w' (e + 1048576) 1 v' (n + m) (xs ++ news) ∧ w.grownBy w' v.ownBlock ∧
      (v'.ownBlock = v.ownBlock ∨ v'.ownBlock = some w.heap.size) := by
  have key : w.ownsRow 0 e 1 v n xs → ∃ v' w', (Builtin.append_ #[t, t] ty' #[v, .slice ad m c]).run P w = .ok v' w' ∧ OwnS w' (e + 1048576) 1 v' (n + m) (xs ++ news) ∧ w.grownBy w' v.ownBlock ∧
      (v'.ownBlock = v.ownBlock ∨ v'.ownBlock = some w.heap.size) := fun h => by
    obtain ⟨v', w', h1, h2, h3, h4⟩ := run_append_any (P := P) w 0 t ty' e i _ 1 1 ht hi hz hsize hby rfl (by omega) v n xs h B ad m c news hr h1 (by simp only [maxLen]; omega) (by omega) (Nat.zero_le _)
    exact ⟨v', w', h1, OwnS.tag h2, h3, h4⟩
  have hxl : xs.length = n := by simpa using hown.1
  have hnl : news.length = m := by have := hr.1; omega
  rcases hown.2 with h | ⟨g, cap, cur, hv, h0, ⟨e', fz, hg, _, h5⟩, hnc, hcm, hcs, htake⟩
  · exact key ⟨hown.1, .inl h⟩
  obtain ⟨he, hfz⟩ := h5 (tag_no e)
  rw [Nat.add_sub_cancel] at he
  subst he
  rcases hfz with rfl | hfz
  · exact key ⟨hown.1, .inr ⟨g, cap, cur, hv, h0, hg, hnc, hcm, hcs, htake⟩⟩
  subst hv
  rw [Nat.mul_one] at htake hcs
  obtain ⟨b, off, hbad, _, hcell⟩ := hr.2 hm
  subst hbad
  have hcells : ∀ j u, news[j]? = some u → w.cell? ((⟨b, off, none⟩ : Addr).add j) = some u := fun j u hu => by
    rw [Go.WideShapes.add_plain]
    exact hcell j u hu
  by_cases hroom : n + m ≤ cap
  · have hf := run_firstCells_some (P := P) w i.size m ⟨b, off, none⟩ m c news (by rw [hsize]; omega) hcells
    have hst := store_tail (P := P) g n e' fz news 0 cur w hg hfz (by omega) h1
    simp only [Nat.add_zero, hnl] at hst
    rw [hsize] at hf
    have hr : (Builtin.append_ #[t, t] ty' #[.slice (some ⟨g, 0, none⟩) n cap, .slice (some ⟨b, off, none⟩) m c]).run P w = .ok (.slice (some ⟨g, 0, none⟩) (n + m) cap) (w.setRow g (cur.toList.take n ++ news ++ cur.toList.drop (n + m)).toArray) := by
      simp [Builtin.append_, run_underlying ht, sizeOf, typeInfo, hi, hsize, Builtin.lenOf, hroom, hf, Addr.add_lit, hst]
    have hsz : (cur.toList.take n ++ news ++ cur.toList.drop (n + m)).toArray.size = cur.size := by
      simp only [List.size_toArray, List.length_append, List.length_take, List.length_drop, Array.length_toList, hnl]
      omega
    refine ⟨_, _, hr, ⟨by rw [List.length_append, hxl, hnl, Nat.mul_one], .inr ⟨g, cap, _, rfl, h0, ⟨e', fz, setRow_heap w g cur _ e' fz hg, fun h => (tag_abs _ h).elim, fun _ => ⟨(Nat.add_sub_cancel (n := _) (m := 1048576)).symm, .inr (hfz.trans hsz.symm)⟩⟩, hroom, hcm, by rw [hsz, Nat.mul_one]; exact hcs, ?_⟩⟩, ⟨rfl, rfl, rfl, by simp, fun k _ hk => setRow_other w g k _ (fun e => hk (by simp [Value.ownBlock, e]))⟩, .inl rfl⟩
    rw [htake, Nat.mul_one]
    have hl2 : (xs ++ news).length = n + m := by rw [List.length_append, hxl, hnl]
    rw [← hl2]
    exact List.take_left
  · have holds : ∀ j u, xs[j]? = some u → w.cell? ((⟨g, 0, none⟩ : Addr).add j) = some u := fun j u hu => by
      rw [Go.WideShapes.add_plain]
      exact hown.addr j u hu
    have hr := run_append_grow (P := P) w t ty' e' i (.int .u8 0) ht hi hz ⟨g, 0, none⟩ n cap xs (by rw [hsize]; simpa using hxl) holds ⟨b, off, none⟩ m c news (by rw [hsize]; omega) hcells (by omega) (by omega) (by rw [hby]; exact growslice_fits (by omega) (by omega))
    have hge := grownCap_ge w (n + m) cap e'
    have hcm2 : grownCap w (n + m) cap e' ≤ maxLen := grownCap_le_maxLen w (n + m) cap e' (by simp only [maxLen]; omega)
    refine ⟨_, _, hr, OwnS.tag ⟨by rw [List.length_append, hxl, hnl, Nat.mul_one], .inr ⟨w.heap.size, _, _, rfl, Nat.zero_le _, heap_alloc_new w.drew _, hge, hcm2, ?_, ?_⟩⟩, ⟨rfl, rfl, rfl, by simp, fun k hk _ => heap_alloc_old w.drew _ hk⟩, .inr rfl⟩
    · have hz1 : (Value.int IntKind.u8 0).cells.size = 1 := rfl
      simp only [Array.size_append, List.size_toArray, size_zeroCells, hz1, hxl, hnl]
      omega
    · simp only [Array.toList_append, List.append_assoc]
      have hl2 : (xs ++ news).length = (n + m) * 1 := by rw [List.length_append, hxl, hnl, Nat.mul_one]
      rw [← List.append_assoc, ← hl2]
      exact List.take_left
/-- append(b, c...) of bytes that are read onto a text's bytes -/
theorem ls_appendTR (hT : okTab P T = true) {x z : Operand} {t e E bytes id n : Nat} {xs ys : List (List AV)} {v : AV} {R : List Loc} (h8 : U8 P e) (hx : ev s x = some (.own id n)) (hσ : find s.σ id = some (.row E 1 xs)) (hE : E = e + 1048576) (hn : n = xs.length) (hz : ev s z = some v) (hsrc : SrcIs s 1 v ys R) (hpos : 0 < ys.length)
    (hty : nth T t = some (.slice e 1 bytes)) (hlen : xs.length + ys.length ≤ 100000000000000) (hd : okDst Γ.n dst = true) :
    LS P Γ ⟨dst, .call { callee := .builtin .append, args := #[x, z], argTypes := #[t, t] }, ty, pos, after, none⟩ s (rd x (rd z (R ++ [.obj id]))) (dst1 dst (.own id (xs ++ ys).length)) [(id, .row E 1 (xs ++ ys))] := by
  refine ⟨fun t' ht Q μ a w hr K hK => ?_⟩
  subst hE
  obtain ⟨e1, ht⟩ := ht.ev hx
  obtain ⟨e2, ht⟩ := ht.ev hz
  obtain ⟨hag, ht⟩ := ht.app
  have e0 : find t'.σ id = some (.row (e + 1048576) 1 xs) := ht.1.trans hσ
  have e1 := hr.ev e1
  have e2 := hr.ev e2
  obtain ⟨hut, _⟩ := slice_ty hT hty
  obtain ⟨ad, c, news, e3, e4, e5⟩ := src_reads hr hag e2 hsrc (by omega)
  obtain ⟨⟨i, hi, hz, hs, hb⟩, _, _⟩ := h8
  simp only [rep] at e1
  obtain ⟨_, e', size', xs', e6, e7, e8⟩ := live e0 e1
  rw [e0] at e6
  injection e6 with e6; injection e6 with e6 e9 e10; subst e6 e9 e10
  have e8 := e8 hn
  subst hn
  obtain ⟨us, e11, e12⟩ := hr.store.obj id _ e0
  obtain ⟨v', w', hrun, hown, hgr, hbk⟩ := app_rowT (P := P) (ty' := ty) hut hi hz hs hb e11 ad ys.length c news e4 (repLL_one e5) hpos hlen
  have hl : (xs ++ ys).length = xs.length + ys.length := List.length_append
  obtain ⟨hg, hs2⟩ := row_turn (σ' := (id, .row (e + 1048576) 1 (xs ++ ys)) :: t'.σ) (xs' := xs ++ ys) hr.store e0 (fun i => by rw [find_cons]) e11 (by rw [hl]; exact hown) (fun μ' A' hst => repLL_append (repLL_mono hst.pure e12) (repLL_mono hst.pure e5)) hgr (by rcases hbk with h | h; exact .inl h; exact .inr ⟨_, h, Nat.le_refl _⟩) (by simp) (fun h => by rw [hl] at h; omega)
  have hfin := (hr.goes hg hs2).put (d := dst) (x := .own id (xs ++ ys).length) (y := v') hd (by
    simp only [rep, find_cons, if_true]
    obtain ⟨A', c', h2, _⟩ := hown.slice
    exact ⟨by rw [h2]; rfl, .inr ⟨e + 1048576, 1, xs ++ ys, rfl, Nat.le_refl _, fun _ => (setμ_same _ _ _).symm⟩⟩)
  unfold Oper.wp
  have hrun2 : (execOp a.eval ⟨dst, .call { callee := .builtin .append, args := #[x, z], argTypes := #[t, t] }, ty, pos, after, none⟩).run P w = .ok (.value v') w' := by
    simp only [execOp, resolve, Sem.run_bind, Sem.run_pure, Result.andThen_ok, invoke, builtin, List.map_toArray, List.map_cons, List.map_nil, e8, e3, hrun]
  rw [hrun2]
  refine hK (setμ μ id v') _ _ ?_
  cases dst <;> exact hfin
end
end Go.Proofs.YtbhblhcgfenobaaDoor
