/-
  Walks over abstract values: rows of bytes and texts; what strings.Builder does to its memory. Over whatever program. No condition.
-/
import Derived.Test.YtbhblhcgfenobaaDoorAvE2
import Derived.Test.YtbhblhcgfenobaaDoorRowT
import Derived.Lib.UnsafeStr
import Derived.Lib.Builder
import Derived.Laws.BytesString
import Derived.Laws.Externs
namespace Go.Proofs.YtbhblhcgfenobaaDoor
open Go.RowKit
set_option linter.unusedSimpArgs false
set_option linter.unusedVariables false
def byAv (b : UInt8) : List AV := [.v (.int .u8 (b.toNat : Int))]
/-- the type of bytes -/
def U8 (P : Program) (e : TypeId) : Prop := (∃ i, P.info? e = some i ∧ i.zero = some (.int .u8 0) ∧ i.size = 1 ∧ i.bytes = 1) ∧ P.underlying e = some (.int .u8) ∧ P.cellsOf e = 1
section
variable {P : Program} {T : List TyI} {Γ : Ctx} {s : ASt} {dst : Option Tmp} {ty : TypeId} {pos : String} {after : Array Edge}
variable {σ : Store} {μ : Nat → Value} {w : World} {A : Nat → Prop} {M : Nat → Prop}
theorem repLL_by : ∀ (l : List UInt8), repLL σ μ w A 1 (l.map byAv) (Lib.byteCells l)
  | [] => by simp [repLL, Lib.byteCells]
  | b :: l => by
    simp only [List.map_cons, repLL]
    exact ⟨[.int .u8 b.toNat], Lib.byteCells l, rfl, rfl, by simp only [byAv, repC, rep]; exact ⟨_, _, rfl, rfl, ⟨rfl, rfl⟩, rfl⟩, repLL_by l⟩
theorem by_repLL : ∀ (l : List UInt8) {us : List Value}, repLL σ μ w A 1 (l.map byAv) us → us = Lib.byteCells l
  | [], us, h => by simpa [repLL, Lib.byteCells] using h
  | b :: l, us, h => by
    simp only [List.map_cons, repLL] at h
    obtain ⟨u, r, rfl, h1, h2, h3⟩ := h
    simp only [byAv, repC, rep] at h2
    obtain ⟨v, us', rfl, _, ⟨rfl, _⟩, h4⟩ := h2
    have h5 : us' = [] := by simpa using h4
    rw [h5, by_repLL l h3]
    rfl
theorem app_str {t u ty' e : TypeId} {i : TypeInfo} (ht : P.underlying t = some (.slice e)) (hu : P.underlying u = some .string) (hi : P.info? e = some i) (hz : i.zero = some (.int .u8 0)) (hsize : i.size = 1) (hby : i.bytes = 1)
    {v : Value} {n : Nat} {xs : List Value} (hown : w.ownsRow 0 e 1 v n xs) (b : ByteArray) (hb : n + b.size ≤ 100000000000000) :
    ∃ v' w', (Builtin.append_ #[t, u] ty' #[v, .string b]).run P w = .ok v' w' ∧ w'.ownsRow 0 e 1 v' (n + b.size) (xs ++ Lib.strCells b) ∧ w.grownBy w' v.ownBlock ∧
      (v'.ownBlock = v.ownBlock ∨ ∃ c, v'.ownBlock = some c ∧ w.heap.size ≤ c) ∧ (b.size = 0 → v' = v) := by
  obtain ⟨v', w', hr, h2, h3, h4⟩ := Lib.run_append_own_string (P := P) w 0 t u ty' e i ht hu hi hz hsize hby v n xs hown b (by simp only [maxLen]; omega) (by omega) (Nat.zero_le _)
  refine ⟨v', w', hr, h2, h3, ?_⟩
  rcases hown.2 with ⟨rfl, rfl⟩ | ⟨g, cap, cur, rfl, _, hg, hnc, hcm, hcs, htake⟩
  · by_cases hm : b.size = 0
    · have h5 : v' = .slice none 0 0 := h4.2 ⟨rfl, hm⟩
      exact ⟨.inl (by rw [h5]), fun _ => h5⟩
    · have hr2 := run_append_nil_string (P := P) w t u ty' e i (.int .u8 0) ht hu hi hz b (by omega) (by omega) (by rw [hby]; omega)
      rw [hr] at hr2
      injection hr2 with h5 _
      exact ⟨.inr ⟨_, by rw [h5]; rfl, Nat.le_refl _⟩, fun h => absurd h hm⟩
  · by_cases hroom : n + b.size ≤ cap
    · have hr2 := Lib.run_append_room_string (P := P) w t u ty' e i ht hu hi hsize g n cap cur hg b hroom (by omega)
      rw [hr] at hr2
      injection hr2 with h5 _
      exact ⟨.inl (by rw [h5]; rfl), fun h => by rw [h5, h]; rfl⟩
    · have hxl : xs.length = n := by simpa using hown.1
      have holds : ∀ j u, xs[j]? = some u → w.cell? ((⟨g, 0, none⟩ : Addr).add j) = some u := hown.cells (g := g) rfl
      have hr2 := Lib.run_append_grow_string (P := P) w t u ty' e i (.int .u8 0) ht hu hi hz ⟨g, 0, none⟩ n cap xs (by rw [hsize]; simpa using hxl) holds b (by omega) (by omega) (by rw [hby]; exact growslice_fits (by omega) (by omega))
      rw [hr] at hr2
      injection hr2 with h5 _
      exact ⟨.inr ⟨_, by rw [h5]; rfl, Nat.le_refl _⟩, fun h => absurd h (by omega)⟩
/-- append(b, s...): a text's bytes behind those of a row of one's own -/
theorem ls_appendS (hT : okTab P T = true) {x z : Operand} {t u e bytes id n : Nat} {xs : List (List AV)} {b : ByteArray} (h8 : U8 P e) (hx : ev s x = some (.own id n)) (hσ : find s.σ id = some (.row e 1 xs)) (hn : n = xs.length) (hz : ev s z = some (.v (.string b)))
    (hty : nth T t = some (.slice e 1 bytes)) (hu : nth T u = some .string) (hlen : xs.length + b.size ≤ 100000000000000) (hd : okDst Γ.n dst = true) (htag : Nat.blt e 1048576 = true := by rfl) :
    LS P Γ ⟨dst, .call { callee := .builtin .append, args := #[x, z], argTypes := #[t, u] }, ty, pos, after, none⟩ s (rd x (rd z [.obj id])) (dst1 dst (.own id (xs ++ b.data.toList.map byAv).length)) [(id, .row e 1 (xs ++ b.data.toList.map byAv))] := by
  refine ⟨fun t' ht Q μ a w hr K hK => ?_⟩
  obtain ⟨e1, ht⟩ := ht.ev hx
  obtain ⟨e2, ht⟩ := ht.ev hz
  have e0 : find t'.σ id = some (.row e 1 xs) := ht.1.trans hσ
  have e1 := hr.ev e1
  have e2 := hr.ev e2
  obtain ⟨hut, _⟩ := slice_ty hT hty
  have hus := str_ty hT hu
  obtain ⟨⟨i, hi, hz, hs, hb⟩, _, _⟩ := h8
  simp only [rep] at e1 e2
  obtain ⟨_, e', size', xs', e6, e7, e8⟩ := live e0 e1
  rw [e0] at e6
  injection e6 with e6; injection e6 with e6 e9 e10; subst e6 e9 e10
  have e8 := e8 hn
  subst hn
  obtain ⟨us, e11, e12⟩ := hr.store.obj id _ e0
  obtain ⟨v', w', hrun, hown, hgr, hbk, hzero⟩ := app_str (P := P) (ty' := ty) hut hus hi hz hs hb (e11.own htag) b hlen
  have hl : (xs ++ b.data.toList.map byAv).length = xs.length + b.size := by rw [List.length_append, List.length_map, Array.length_toList]; rfl
  obtain ⟨hg, hs2⟩ := row_turn (σ' := (id, .row e 1 (xs ++ b.data.toList.map byAv)) :: t'.σ) (xs' := xs ++ b.data.toList.map byAv) hr.store e0 (fun i => by rw [find_cons]) e11 (by rw [hl]; exact OwnS.of hown htag) (fun μ' A' hst => by
    rw [Lib.strCells_eq]
    exact repLL_append (repLL_mono hst.pure e12) (repLL_by _)) hgr hbk (by simp) (fun h => hzero (by rw [hl] at h; omega))
  have hfin := (hr.goes hg hs2).put (d := dst) (x := .own id (xs ++ b.data.toList.map byAv).length) (y := v') hd (by
    simp only [rep, find_cons, if_true]
    obtain ⟨A', c', h2, _⟩ := own_slice hown
    exact ⟨by rw [h2]; rfl, .inr ⟨e, 1, xs ++ b.data.toList.map byAv, rfl, Nat.le_refl _, fun _ => (setμ_same _ _ _).symm⟩⟩)
  unfold Oper.wp
  have hrun2 : (execOp a.eval ⟨dst, .call { callee := .builtin .append, args := #[x, z], argTypes := #[t, u] }, ty, pos, after, none⟩).run P w = .ok (.value v') w' := by
    simp only [execOp, resolve, Sem.run_bind, Sem.run_pure, Result.andThen_ok, invoke, builtin, List.map_toArray, List.map_cons, List.map_nil, e8, e2.1, hrun]
  rw [hrun2]
  refine hK (setμ μ id v') _ _ ?_
  cases dst <;> exact hfin
theorem push_fold : ∀ (l : List UInt8) (z : ByteArray), ((l.map fun b => (b.toNat : Int)).foldl (fun r n => r.push (UInt8.ofNat n.toNat)) z) = ⟨z.data ++ l.toArray⟩
  | [], z => by simp
  | b :: l, z => by
    simp only [List.map_cons, List.foldl_cons, push_fold l]
    apply ByteArray.ext
    simp [ByteArray.push]
/-- string(b) of a row of one's own -/
theorem ls_toStr (hT : okTab P T = true) {x : Operand} {t u e bytes id n : Nat} {l : List UInt8} {xs : List (List AV)} (h8 : U8 P e) (hx : ev s x = some (.own id n)) (hσ : find s.σ id = some (.row e 1 xs)) (hxs : xs = l.map byAv) (hn : n = xs.length)
    (hty : nth T t = some (.slice e 1 bytes)) (hu : nth T u = some .string) (hd : okDst Γ.n dst = true) :
    LS P Γ ⟨dst, .convert t u x, ty, pos, after, none⟩ s (rd x [.obj id]) (dst1 dst (.v (.string ⟨l.toArray⟩))) [] :=
  ls_pure hd fun t' ht μ a w hr => by
    subst hxs
    obtain ⟨e1, ht⟩ := ht.ev hx
    have e0 : find t'.σ id = some (.row e 1 (l.map byAv)) := ht.1.trans hσ
    have e1 := hr.ev e1
    simp only [rep] at e1 ⊢
    obtain ⟨_, e', size', xs', e3, e4, e5⟩ := live e0 e1
    rw [e0] at e3
    injection e3 with e3; injection e3 with e3 e7 e8; subst e3 e7 e8
    have e5 := e5 hn
    subst hn
    obtain ⟨us, e11, e12⟩ := hr.store.obj id _ e0
    have hus := by_repLL l e12
    subst hus
    obtain ⟨hut, _⟩ := slice_ty hT hty
    have hst := str_ty hT hu
    refine ⟨.string ⟨l.toArray⟩, ?_, rfl, rfl⟩
    have hload : ∀ g cap, μ id = .slice (some ⟨g, 0, none⟩) (l.map byAv).length cap → (loadCells ⟨g, 0, none⟩ (l.map byAv).length).run P w = .ok ((l.map fun b => (b.toNat : Int)).map (Value.int .u8)).toArray w := by
      intro g cap hv
      have h1 := run_loadCells_list (P := P) w ⟨g, 0, none⟩ (Lib.byteCells l) (fun j v hj => by
        rw [hv] at e11
        have h2 := e11.addr j v hj
        rw [Go.WideShapes.add_plain]
        exact h2)
      rw [Lib.byteCells_length] at h1
      rw [List.length_map, h1]
      congr 1
      simp [Lib.byteCells]
    have hconv : (convert t u (μ id)).run P w = .ok (.string ⟨l.toArray⟩) w := by
      rcases e11.2 with ⟨h0, hn0⟩ | ⟨g, cap, cur, h1, _⟩
      · have hl0 : l = [] := List.eq_nil_of_length_eq_zero (by simpa using hn0)
        subst hl0
        rw [h0, run_convert_bytes_string w t u e none 0 0 hut h8.2.1 hst]
        rfl
      · rw [h1, run_convert_bytes_string w t u e _ _ _ hut h8.2.1 hst, run_bytesToString w _ _ cap _ (hload g cap h1), push_fold]
        show Result.ok (Value.string ⟨#[] ++ l.toArray⟩) w = _
        simp
    simp [execOp, e5, hconv]
/-! a builder's memory -/
/-- A row dies. -/
theorem die_rel (hs : SRel σ μ w M) {id g e size : Nat} {xs : List (List AV)} {w' : World} (e0 : find σ id = some (.row e size xs)) (hv : blk (μ id) = some g) (h1 : w'.os = w.os) (h2 : w'.tape = w.tape) (h3 : w'.output = w.output) (h4 : w'.heap.size = w.heap.size) (h5 : ∀ b, b ≠ g → w'.heap[b]? = w.heap[b]?) :
    Gro σ μ w ((id, .dead) :: σ) (setμ μ id .nilFunc) w' ∧ SRel ((id, .dead) :: σ) (setμ μ id .nilFunc) w' M := by
  have mid : blk (setμ μ id .nilFunc id) = none := by rw [setμ_same]; rfl
  have hg : Gro σ μ w ((id, .dead) :: σ) (setμ μ id .nilFunc) w' := by
    refine ⟨h1, h2, h3, Nat.le_of_eq h4.symm, fun b _ hn => h5 b fun e => hn id _ e0 (by rw [hv, e]), fun i o b hf hb hl => ?_, fun i t cs hf => ?_, fun i e' size' ys hf => ?_, fun i es hf => ?_, fun i hf => ?_⟩
    · by_cases h : id = i
      · subst h; rw [mid] at hb; cases hb
      · rw [find_cons, if_neg h] at hf
        rw [setμ_ne μ _ (Ne.symm h)] at hb
        exact ⟨i, o, hf, hb⟩
    · have h : id ≠ i := fun h => by subst h; rw [e0] at hf; cases hf
      exact ⟨cs, by rw [find_cons, if_neg h]; exact hf, rfl, setμ_ne μ _ (Ne.symm h)⟩
    · by_cases h : id = i
      · subst h; exact .inl (by rw [find_cons, if_pos rfl])
      · exact .inr ⟨ys, by rw [find_cons, if_neg h]; exact hf, Nat.le_refl _, fun _ => setμ_ne μ _ (Ne.symm h)⟩
    · have h : id ≠ i := fun h => by subst h; rw [e0] at hf; cases hf
      exact ⟨es, by rw [find_cons, if_neg h]; exact hf, setμ_ne μ _ (Ne.symm h)⟩
    · have h : id ≠ i := fun h => by subst h; rw [e0] at hf; cases hf
      rw [find_cons, if_neg h]; exact hf
  refine ⟨hg, hs.at_ hg id (fun i h => by rw [find_cons, if_neg (Ne.symm h)]) (fun i h => setμ_ne μ _ h) (fun i o b h1 h2 h3 => h5 b fun e => h1 (hs.inj i id o _ b h2 e0 h3 (by rw [hv, e]))) (fun o ho => ?_) (fun i o b h1 h2 h3 h4 => ?_) (fun b h1 h2 => ?_)⟩
  · rw [find_cons, if_pos rfl] at ho
    injection ho with ho; subst ho
    exact mid
  · rw [mid] at h4; cases h4
  · rw [mid] at h1; cases h1
/-- unsafe.SliceData of a row of one's own -/
theorem ls_sliceData {x : Operand} {t id n e size : Nat} {xs : List (List AV)} (hx : ev s x = some (.own id n)) (hσ : find s.σ id = some (.row e size xs)) (hn : n = xs.length) (h0 : 0 < n) (hd : okDst Γ.n dst = true) :
    LS P Γ ⟨dst, .call { callee := .builtin .unsafeSliceData, args := #[x], argTypes := #[t] }, ty, pos, after, none⟩ s (rd x [.obj id]) (dst1 dst (.eref id n 0 0)) [] :=
  ls_pure hd fun t' ht μ a w hr => by
    obtain ⟨e1, ht⟩ := ht.ev hx
    have e0 : find t'.σ id = some (.row e size xs) := ht.1.trans hσ
    have e1 := hr.ev e1
    simp only [rep] at e1 ⊢
    obtain ⟨_, e', size', xs', e3, e4, e5⟩ := live e0 e1
    rw [e0] at e3
    injection e3 with e3; injection e3 with e3 e7 e8; subst e3 e7 e8
    have e5 := e5 hn
    obtain ⟨us, e11, e12⟩ := hr.store.obj id _ e0
    rcases e11.2 with ⟨_, h1⟩ | ⟨g, cap, cur, h1, _, h2, h3, h4, h5⟩
    · omega
    refine ⟨.pointer (some ⟨g, 0, none⟩), ?_, rfl, .inr ⟨e, size, xs, e0, by omega, fun h => ⟨g, cap, h0, Nat.zero_le _, by rw [h1, h], by simp⟩⟩⟩
    have hr2 := Lib.run_unsafeSliceData_row (P := P) w #[t] ty ⟨g, 0, none⟩ xs.length cap (by omega)
    simp [execOp, resolve, invoke, builtin, e5, h1, hr2]
/-- unsafe.String over the whole row: the row is told no more -/
theorem ls_unsafeStr {x y : Operand} {pt it id n e : Nat} {l : List UInt8} {xs : List (List AV)} {k : Int} (h8 : U8 P e) (hp : P.underlying pt = some (.pointer e)) (hx : ev s x = some (.eref id n 0 0)) (hσ : find s.σ id = some (.row e 1 xs)) (hxs : xs = l.map byAv) (hn : n = xs.length) (hy : ev s y = some (.v (.int .i64 k))) (hk : k = (n : Int)) (hd : okDst Γ.n dst = true) (htag : Nat.blt e 1048576 = true := by rfl) :
    LS P Γ ⟨dst, .call { callee := .builtin .unsafeString, args := #[x, y], argTypes := #[pt, it] }, ty, pos, after, none⟩ s (rd x (rd y [.obj id])) (dst1 dst (.v (.string ⟨l.toArray⟩))) [(id, .dead)] := by
  refine ⟨fun t' ht Q μ a w hr K hK => ?_⟩
  subst hxs hk
  obtain ⟨e1, ht⟩ := ht.ev hx
  obtain ⟨e2, ht⟩ := ht.ev hy
  have e0 : find t'.σ id = some (.row e 1 (l.map byAv)) := ht.1.trans hσ
  have e1 := hr.ev e1
  have e2 := hr.ev e2
  simp only [rep] at e1 e2
  obtain ⟨_, e', size', xs', e3, e4, e5⟩ := live e0 e1
  rw [e0] at e3
  injection e3 with e3; injection e3 with e3 e7 e8; subst e3 e7 e8
  obtain ⟨g, c, h0, _, h1, h2⟩ := e5 hn
  obtain ⟨us, e11, e12⟩ := hr.store.obj id _ e0
  have hus := by_repLL l e12
  subst hus
  rw [Nat.zero_mul] at h2
  have hl : n = l.length := by rw [hn, List.length_map]
  have e11 := e11.own htag
  rw [h1, ← hn] at e11
  rcases e11.2 with ⟨h3, _⟩ | ⟨g', cap, cur, h3, _, h4, h5, h6, h7, h9⟩
  · cases h3
  injection h3 with h3 _ h10
  injection h3 with h3; injection h3 with h3; subst h3 h10
  have hsh : w.shape? g = some (e, cur.size) := by simp [World.shape?, h4]
  have hcells : ∀ j x, l[j]? = some x → w.cell? ((⟨g, 0, none⟩ : Addr).add j) = some (.int .u8 x.toNat) := fun j x hj => e11.cells (g := g) rfl j _ (by simp [Lib.byteCells, hj])
  have hrun := Lib.run_unsafeString_row (P := P) w pt it ty e hp h8.2.2 g cur.size hsh l (fun h => by rw [hl, h] at h0; exact absurd h0 (by simp)) (by omega) (by simp only [maxLen] at h6; omega) hcells
  have hfz : ∀ b, b ≠ g → (w.freeze ⟨g, 0, none⟩ l.length).heap[b]? = w.heap[b]? := by
    intro b hb
    unfold World.freeze
    split
    · rfl
    · simp only [Array.getElem?_modify]
      rw [if_neg (Ne.symm hb)]
  obtain ⟨hg, hs⟩ := die_rel (w' := w.freeze ⟨g, 0, none⟩ l.length) hr.store e0 (by rw [h1]; rfl) (by unfold World.freeze; split <;> rfl) (by unfold World.freeze; split <;> rfl) (by unfold World.freeze; split <;> rfl) (by unfold World.freeze; split <;> simp) hfz
  have hfin := (hr.goes hg hs).put (d := dst) (x := .v (.string ⟨l.toArray⟩)) (y := .string ⟨l.toArray⟩) hd (by simp only [rep]; exact ⟨trivial, rfl⟩)
  unfold Oper.wp
  have hrun2 : (execOp a.eval ⟨dst, .call { callee := .builtin .unsafeString, args := #[x, y], argTypes := #[pt, it] }, ty, pos, after, none⟩).run P w = .ok (.value (.string ⟨l.toArray⟩)) (w.freeze ⟨g, 0, none⟩ l.length) := by
    simp only [execOp, resolve, Sem.run_bind, Sem.run_pure, Result.andThen_ok, invoke, builtin, List.map_toArray, List.map_cons, List.map_nil, h2, e2.1, hl, hrun]
  rw [hrun2]
  refine hK (setμ μ id .nilFunc) _ _ ?_
  cases dst <;> exact hfin
/-! pointers to one's own box -/
theorem run_eqPnil {t te : TypeId} (hp : P.underlying t = some (.pointer te)) (w : World) : (binOp .eql t (.pointer none) (.pointer none)).run P w = .ok (.bool true) w := by
  have h : ∀ d : Nat, (Op.equalIn (d + 1) t (.pointer none) (.pointer none)).run P w = .ok true w := fun d => by
    simp [Op.equalIn, run_underlying hp]
  simp only [binOp]
  simp [Op.equal, Op.maxDepth, h 9999]
theorem run_eqPsome {t te : TypeId} (hp : P.underlying t = some (.pointer te)) (a : Addr) (w : World) : (binOp .eql t (.pointer (some a)) (.pointer none)).run P w = .ok (.bool false) w := by
  have h : ∀ d : Nat, (Op.equalIn (d + 1) t (.pointer (some a)) (.pointer none)).run P w = .ok false w := fun d => by
    simp [Op.equalIn, run_underlying hp]
  simp only [binOp]
  simp [Op.equal, Op.maxDepth, h 9999]
theorem ls_eqPN {t te yt : TypeId} (hp : P.underlying t = some (.pointer te)) {x : Operand} (hx : ev s x = some (.v (.pointer none))) (hd : okDst Γ.n dst = true) :
    LS P Γ ⟨dst, .binOp .eql t x (.const (.pointer none)) yt, ty, pos, after, none⟩ s (rd x (rd (.const (.pointer none)) [])) (dst1 dst (.v (.bool true))) [] :=
  ls_pure hd fun t' ht μ a w hr => by
    obtain ⟨e1, ht⟩ := ht.ev hx
    have e1 := hr.ev e1
    simp only [rep] at e1 ⊢
    refine ⟨.bool true, ?_, rfl, rfl⟩
    have he : a.eval (.const (.pointer none)) = .pointer none := rfl
    simp [execOp, e1.1, he, eqGuard, run_eqPnil hp w]
theorem ls_eqRN {t te yt : TypeId} (hp : P.underlying t = some (.pointer te)) {x : Operand} {id off : Nat} (hx : ev s x = some (.ref id off)) (hd : okDst Γ.n dst = true) :
    LS P Γ ⟨dst, .binOp .eql t x (.const (.pointer none)) yt, ty, pos, after, none⟩ s (rd x (rd (.const (.pointer none)) [])) (dst1 dst (.v (.bool false))) [] :=
  ls_pure hd fun t' ht μ a w hr => by
    obtain ⟨e1, ht⟩ := ht.ev hx
    have e1 := hr.ev e1
    simp only [rep] at e1 ⊢
    obtain ⟨_, _, g, _, _, _, h4⟩ := e1
    refine ⟨.bool false, ?_, rfl, rfl⟩
    have he : a.eval (.const (.pointer none)) = .pointer none := rfl
    simp [execOp, h4, he, eqGuard, run_eqPsome hp _ w]
theorem ls_neRR {t te yt : TypeId} {j : TypeInfo} (hp : P.underlying t = some (.pointer te)) (hj : P.info? te = some j) {x y : Operand} {id off : Nat} (hx : ev s x = some (.ref id off)) (hy : ev s y = some (.ref id off)) (hd : okDst Γ.n dst = true) :
    LS P Γ ⟨dst, .binOp .neq t x y yt, ty, pos, after, none⟩ s (rd x (rd y [])) (dst1 dst (.v (.bool false))) [] :=
  ls_pure hd fun t' ht μ a w hr => by
    obtain ⟨e1, ht⟩ := ht.ev hx
    obtain ⟨e2, ht⟩ := ht.ev hy
    have e1 := hr.ev e1
    have e2 := hr.ev e2
    simp only [rep] at e1 e2 ⊢
    obtain ⟨_, _, g, _, _, h3, h4⟩ := e1
    obtain ⟨_, _, g', _, _, h3', h4'⟩ := e2
    rw [h3] at h3'
    injection h3' with h3'; injection h3' with h3'; injection h3' with h3'; subst h3'
    refine ⟨.bool false, ?_, rfl, rfl⟩
    simp [execOp, h4, h4', eqGuard, Lib.run_neq_ptr_same w _ hp hj]
/-- a pointer to one's own box as an unsafe.Pointer, and back -/
theorem ls_toUn {a b t : TypeId} {j : TypeInfo} (ha : P.underlying a = some (.pointer t)) (hb : P.underlying b = some .unsafePointer) (hj : P.info? t = some j) (hj0 : j.size ≠ 0) {x : Operand} {id : Nat} {bt : TypeId} {cs : List AV} (hx : ev s x = some (.ref id 0)) (hσ : find s.σ id = some (.box bt cs)) (hc : 0 < cs.length) (hd : okDst Γ.n dst = true) :
    LS P Γ ⟨dst, .convert a b x, ty, pos, after, none⟩ s (rd x [.obj id]) (dst1 dst (.ref id 0)) [] :=
  ls_pure hd fun t' ht μ ac w hr => by
    obtain ⟨e1, ht⟩ := ht.ev hx
    have e0 : find t'.σ id = some (.box bt cs) := ht.1.trans hσ
    have e1 := hr.ev e1
    simp only [rep] at e1 ⊢
    obtain ⟨bt', cs', g, h1, h2, h3, h4⟩ := e1
    obtain ⟨g', us, h5, h6, h7⟩ := hr.store.obj id _ e0
    rw [h3] at h5
    injection h5 with h5; injection h5 with h5; injection h5 with h5; subst h5
    refine ⟨.pointer (some ⟨g, 0, none⟩), ?_, bt', cs', g, h1, h2, h3, rfl⟩
    have hsh : w.shape? g = some (bt, us.length) := by
      have : w.heap[g]? = some (.cells us.toArray bt (0, 0)) := h6
      simp [World.shape?, this]
    have hl : us.length = cs.length := repC_len h7
    have hr2 := Lib.run_to_unsafe (P := P) w (src := a) (dst := b) ⟨g, 0, none⟩ ha hb hj hj0 hsh (by rw [hl]; exact hc)
    simp [execOp, h4, hr2]
theorem ls_fromUn {a b t : TypeId} {j : TypeInfo} {n : Nat} (ha : P.underlying a = some .unsafePointer) (hb : P.underlying b = some (.pointer t)) (hj : P.info? t = some j) {x : Operand} {id : Nat} {bt : TypeId} {cs : List AV} (hx : ev s x = some (.ref id 0)) (hσ : find s.σ id = some (.box bt cs)) (hc : cs.length = n) (hlies : liesAt P P.depth bt (n / P.cellsOf bt) 0 t 1 = true) (hd : okDst Γ.n dst = true) :
    LS P Γ ⟨dst, .convert a b x, ty, pos, after, none⟩ s (rd x [.obj id]) (dst1 dst (.ref id 0)) [] :=
  ls_pure hd fun t' ht μ ac w hr => by
    obtain ⟨e1, ht⟩ := ht.ev hx
    have e0 : find t'.σ id = some (.box bt cs) := ht.1.trans hσ
    have e1 := hr.ev e1
    simp only [rep] at e1 ⊢
    obtain ⟨bt', cs', g, h1, h2, h3, h4⟩ := e1
    obtain ⟨g', us, h5, h6, h7⟩ := hr.store.obj id _ e0
    rw [h3] at h5
    injection h5 with h5; injection h5 with h5; injection h5 with h5; subst h5
    refine ⟨.pointer (some ⟨g, 0, none⟩), ?_, bt', cs', g, h1, h2, h3, rfl⟩
    have hsh : w.shape? g = some (bt, us.length) := by
      have : w.heap[g]? = some (.cells us.toArray bt (0, 0)) := h6
      simp [World.shape?, this]
    have hl : us.length = n := (repC_len h7).trans hc
    have hr2 := Lib.run_from_unsafe (P := P) w (src := a) (dst := b) ⟨g, 0, none⟩ ha hb hj hsh (by rw [hl]; exact hlies)
    simp [execOp, h4, hr2]
/-- a call that hands its one argument back -/
theorem ls_same {f : FuncId} {argTypes : Array TypeId} {x : Operand} {id : Nat} (hf : ∀ (y : Value) (w : World), (callFunc f #[y]).run P w = .ok (.value y) w) (hx : ev s x = some (.ref id 0)) (hd : okDst Γ.n dst = true) :
    LS P Γ ⟨dst, .call { callee := .value (.func f), args := #[x], argTypes := argTypes }, ty, pos, after, none⟩ s (rd x []) (dst1 dst (.ref id 0)) [] :=
  ls_pure hd fun t' ht μ ac w hr => by
    obtain ⟨e1, ht⟩ := ht.ev hx
    have e1 := hr.ev e1
    refine ⟨ac.eval x, ?_, e1⟩
    have he : ac.eval (.func f) = .func (.func f) #[] #[] := rfl
    simp [execOp, resolve, he, Deferred.ofValue, invoke, hf]
end
end Go.Proofs.YtbhblhcgfenobaaDoor
