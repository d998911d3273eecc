/-
  Walks over abstract values: memory. Over whatever program. No condition.
-/
import Derived.Test.YtimlkhbedhjehaaAvO
namespace Go.Proofs.Ytimlkhbedhjehaa
open Go.RowKit
set_option linter.unusedSimpArgs false
set_option linter.unusedVariables false

def dropN {α : Type} : List α → Nat → Option (List α)
  | l, 0 => some l
  | [], _ + 1 => none
  | _ :: l, n + 1 => dropN l n
def takeK {α β : Type} : List α → Nat → (List α → β) → Option β
  | _, 0, k => some (k [])
  | [], _ + 1, _ => none
  | c :: cs, n + 1, k => takeK cs n fun r => k (c :: r)
def putK {β : Type} : List AV → Nat → List AV → (List AV → β) → Option β
  | cs, 0, [], k => some (k cs)
  | _ :: cs, 0, v :: vs, k => putK cs 0 vs fun r => k (v :: r)
  | c :: cs, n + 1, vs, k => putK cs n vs fun r => k (c :: r)
  | [], _, _, _ => none
def acells : AV → List AV
  | .agg cs => cs
  | x => [x]
def ldv (ti : TyI) (cs : List AV) : Option AV := match ti with
  | .none => none
  | .struct n _ => takeK cs n .agg
  | _ => nth cs 0
theorem dropN_spec {α : Type} : ∀ {l r : List α} {n : Nat}, dropN l n = some r → n ≤ l.length ∧ r = l.drop n
  | l, r, 0, h => by simp [dropN] at h; exact ⟨Nat.zero_le _, by simp [h]⟩
  | [], r, n + 1, h => by simp [dropN] at h
  | x :: l, r, n + 1, h => by
    have := dropN_spec (l := l) (n := n) h
    exact ⟨by simp; omega, this.2⟩
theorem takeK_spec {α β : Type} : ∀ {l : List α} {n : Nat} {k : List α → β} {b : β}, takeK l n k = some b → n ≤ l.length ∧ b = k (l.take n)
  | l, 0, k, b, h => by simp [takeK] at h; exact ⟨Nat.zero_le _, by simp [h]⟩
  | [], n + 1, k, b, h => by simp [takeK] at h
  | x :: l, n + 1, k, b, h => by
    have := takeK_spec (l := l) (n := n) h
    exact ⟨by simp; omega, this.2⟩
theorem putK_spec {β : Type} : ∀ {cs : List AV} {n : Nat} {vs : List AV} {k : List AV → β} {b : β}, putK cs n vs k = some b → n + vs.length ≤ cs.length ∧ b = k (cs.take n ++ vs ++ cs.drop (n + vs.length))
  | [], 0, [], k, b, h => by simp [putK] at h; exact ⟨by simp, by simp [h]⟩
  | c :: cs, 0, [], k, b, h => by simp [putK] at h; exact ⟨by simp, by simp [h]⟩
  | c :: cs, 0, v :: vs, k, b, h => by
    have := putK_spec (cs := cs) (n := 0) (vs := vs) h
    refine ⟨by simp at this ⊢; omega, by rw [this.2]; simp⟩
  | c :: cs, n + 1, vs, k, b, h => by
    have := putK_spec (cs := cs) (n := n) (vs := vs) (by cases vs <;> exact h)
    refine ⟨by simp; omega, by rw [this.2]; simp [Nat.add_right_comm]⟩
  | [], 0, v :: vs, k, b, h => by simp [putK] at h
  | [], n + 1, vs, k, b, h => by cases vs <;> simp [putK] at h

section
variable {σ : Store} {μ : Nat → Value} {w : World} {A : Nat → Prop}
theorem repC_len : ∀ {cs : List AV} {us : List Value}, repC σ μ w A cs us → us.length = cs.length
  | [], us, h => by simp only [repC] at h; simp [h]
  | c :: cs, us, h => by
    simp only [repC] at h
    obtain ⟨u, us', rfl, _, _, h2⟩ := h
    simp [repC_len h2]
theorem repC_one : ∀ {cs : List AV} {us : List Value}, repC σ μ w A cs us → ∀ u ∈ us, u.oneCell' = true
  | [], us, h => by simp only [repC] at h; simp [h]
  | c :: cs, us, h => by
    simp only [repC] at h
    obtain ⟨u, us', rfl, h0, _, h2⟩ := h
    intro v hv
    simp only [List.mem_cons] at hv
    rcases hv with rfl | hv
    · exact h0
    · exact repC_one h2 v hv
theorem repC_drop : ∀ (n : Nat) {cs : List AV} {us : List Value}, repC σ μ w A cs us → repC σ μ w A (cs.drop n) (us.drop n)
  | 0, cs, us, h => by simpa using h
  | n + 1, [], us, h => by simp only [repC] at h; subst h; simp [repC]
  | n + 1, c :: cs, us, h => by
    simp only [repC] at h
    obtain ⟨u, us', rfl, _, _, h2⟩ := h
    exact repC_drop n h2
theorem repC_take : ∀ (n : Nat) {cs : List AV} {us : List Value}, repC σ μ w A cs us → repC σ μ w A (cs.take n) (us.take n)
  | 0, cs, us, h => by simp [repC]
  | n + 1, [], us, h => by simp only [repC] at h; subst h; simp [repC]
  | n + 1, c :: cs, us, h => by
    simp only [repC] at h
    obtain ⟨u, us', rfl, h0, h1, h2⟩ := h
    simp only [List.take_succ_cons, repC]
    exact ⟨u, _, rfl, h0, h1, repC_take n h2⟩
theorem repC_append : ∀ {cs ds : List AV} {us vs : List Value}, repC σ μ w A cs us → repC σ μ w A ds vs → repC σ μ w A (cs ++ ds) (us ++ vs)
  | [], ds, us, vs, h, k => by simp only [repC] at h; subst h; simpa using k
  | c :: cs, ds, us, vs, h, k => by
    simp only [repC] at h
    obtain ⟨u, us', rfl, h0, h1, h2⟩ := h
    simp only [List.cons_append, repC]
    exact ⟨u, _, rfl, h0, h1, repC_append h2 k⟩
theorem repC_nth : ∀ {i : Nat} {cs : List AV} {us : List Value} {c : AV}, repC σ μ w A cs us → nth cs i = some c → ∃ u, us[i]? = some u ∧ u.oneCell' = true ∧ rep σ μ w A c u
  | i, [], us, c, h, hi => by simp [nth] at hi
  | 0, d :: cs, us, c, h, hi => by
    simp only [nth, Option.some.injEq] at hi; subst hi
    simp only [repC] at h
    obtain ⟨u, us', rfl, h0, h1, h2⟩ := h
    exact ⟨u, rfl, h0, h1⟩
  | i + 1, d :: cs, us, c, h, hi => by
    simp only [repC] at h
    obtain ⟨u, us', rfl, _, _, h2⟩ := h
    exact repC_nth (i := i) h2 hi
/-- What held with no store holds with one. -/
theorem Step.up : Step [] μ w A σ μ w A := ⟨fun b hb _ => ⟨rfl, hb⟩, Nat.le_refl _, fun _ _ _ h => by simp [find] at h, fun _ _ _ _ h => by simp [find] at h⟩
theorem repLL_get {size : Nat} : ∀ {i : Nat} {xs : List (List AV)} {us : List Value} {x : List AV}, repLL σ μ w A size xs us → xs[i]? = some x → repC σ μ w A x ((us.drop (i * size)).take size) ∧ ((us.drop (i * size)).take size).length = size
  | i, [], us, x, h, hi => by simp at hi
  | 0, d :: xs, us, x, h, hi => by
    simp only [List.getElem?_cons_zero, Option.some.injEq] at hi; subst hi
    simp only [repLL] at h
    obtain ⟨u1, u2, rfl, h0, h1, h2⟩ := h
    subst h0
    simp only [Nat.zero_mul, List.drop_zero, List.take_left]
    exact ⟨h1, by simp⟩
  | i + 1, d :: xs, us, x, h, hi => by
    simp only [repLL] at h
    obtain ⟨u1, u2, rfl, h0, h1, h2⟩ := h
    have := repLL_get (i := i) h2 (by simpa using hi)
    have e : (u1 ++ u2).drop ((i + 1) * size) = u2.drop (i * size) := by
      rw [List.drop_append, Nat.add_mul, Nat.one_mul, List.drop_of_length_le (by omega), h0, List.nil_append]
      congr 1
      omega
    rw [e]; exact this
theorem repLL_len {size : Nat} : ∀ {xs : List (List AV)} {us : List Value}, repLL σ μ w A size xs us → us.length = xs.length * size
  | [], us, h => by simp only [repLL] at h; simp [h]
  | d :: xs, us, h => by
    simp only [repLL] at h
    obtain ⟨u1, u2, rfl, h0, h1, h2⟩ := h
    rw [List.length_append, h0, repLL_len h2, List.length_cons, Nat.add_mul]; omega
theorem repLL_one {size : Nat} : ∀ {xs : List (List AV)} {us : List Value}, repLL σ μ w A size xs us → ∀ u ∈ us, u.oneCell' = true
  | [], us, h => by simp only [repLL] at h; simp [h]
  | d :: xs, us, h => by
    simp only [repLL] at h
    obtain ⟨u1, u2, rfl, h0, h1, h2⟩ := h
    intro v hv
    rcases List.mem_append.1 hv with hv | hv
    · exact repC_one h1 v hv
    · exact repLL_one h2 v hv
theorem repLL_append {size : Nat} : ∀ {xs ys : List (List AV)} {us vs : List Value}, repLL σ μ w A size xs us → repLL σ μ w A size ys vs → repLL σ μ w A size (xs ++ ys) (us ++ vs)
  | [], ys, us, vs, h, k => by simp only [repLL] at h; subst h; simpa using k
  | d :: xs, ys, us, vs, h, k => by
    simp only [repLL] at h
    obtain ⟨u1, u2, rfl, h0, h1, h2⟩ := h
    simp only [List.cons_append, repLL]
    exact ⟨u1, u2 ++ vs, by rw [List.append_assoc], h0, h1, repLL_append h2 k⟩
theorem repLL_set {size : Nat} : ∀ {i : Nat} {xs : List (List AV)} {us : List Value} {x : List AV} {u : List Value}, repLL σ μ w A size xs us → i < xs.length → repC σ μ w A x u → u.length = size → repLL σ μ w A size (xs.set i x) (us.take (i * size) ++ u ++ us.drop (i * size + size))
  | i, [], us, x, u, h, hi, hx, hu => by simp at hi
  | 0, d :: xs, us, x, u, h, hi, hx, hu => by
    simp only [repLL] at h
    obtain ⟨u1, u2, rfl, h0, h1, h2⟩ := h
    subst h0
    simp only [List.set_cons_zero, Nat.zero_mul, List.take_zero, List.nil_append, Nat.zero_add, List.drop_left, repLL]
    exact ⟨u, u2, rfl, hu, hx, h2⟩
  | i + 1, d :: xs, us, x, u, h, hi, hx, hu => by
    simp only [repLL] at h
    obtain ⟨u1, u2, rfl, h0, h1, h2⟩ := h
    have := repLL_set (i := i) h2 (by simpa using hi) hx hu
    simp only [List.set_cons_succ, repLL]
    refine ⟨u1, _, ?_, h0, h1, this⟩
    have e1 : (u1 ++ u2).take ((i + 1) * size) = u1 ++ u2.take (i * size) := by
      rw [List.take_append, List.take_of_length_le (by rw [h0, Nat.add_mul]; omega), h0]
      congr 2
      rw [Nat.add_mul]; omega
    have e2 : (u1 ++ u2).drop ((i + 1) * size + size) = u2.drop (i * size + size) := by
      rw [List.drop_append, List.drop_of_length_le (by rw [h0, Nat.add_mul]; omega), h0, List.nil_append]
      congr 1
      rw [Nat.add_mul]; omega
    rw [e1, e2]; simp [List.append_assoc]
variable {P : Program} {T : List TyI}
theorem load_ok (hT : okTab P T = true) {t b off : Nat} {ti : TyI} {cs : List AV} {us : List Value} {v : AV} (ht : nth T t = some ti) (hl : ldv ti cs = some v) (hr : repC σ μ w A cs us)
    (hc : ∀ j u, us[j]? = some u → w.cell? ⟨b, off + j, none⟩ = some u) : ∃ y, (loadVar t ⟨b, off, none⟩).run P w = .ok y w ∧ rep σ μ w A v y := by
  have single : nth cs 0 = some v → ti.ag = false → ti.size ≠ 0 → ∃ y, (loadVar t ⟨b, off, none⟩).run P w = .ok y w ∧ rep σ μ w A v y := by
    intro hn ha hs
    obtain ⟨_, h2⟩ := ty_size hT ht hs
    obtain ⟨u, h3, _, h4⟩ := repC_nth hr hn
    have h5 := hc 0 u h3
    simp only [Nat.add_zero] at h5
    exact ⟨u, by simp [loadVar, h2, ha, h5], h4⟩
  cases ti with
  | struct n fs =>
    simp only [ldv] at hl
    obtain ⟨h1, rfl⟩ := takeK_spec hl
    rcases Nat.eq_zero_or_pos n with h0 | h0
    · subst h0
      have h3 := okTab_at hT ht
      simp only [okTy] at h3
      split at h3
      · rename_i hu hi
        simp only [Bool.and_eq_true, Nat.beq_eq] at h3
        have h4 : (isAgg t).run P w = .ok true w := by simp [isAgg, run_underlying hu]
        refine ⟨.agg #[], ?_, by simp [rep, repC]⟩
        simp [loadVar, h4, sizeOf, typeInfo, hi, h3.1.1, loadCells, loadCellsFrom]
      · cases h3
    · obtain ⟨⟨i, hi, hs⟩, h2⟩ := ty_size hT ht (by simp [TyI.size]; omega)
      have hr2 := repC_take n hr
      have hlen : (us.take n).length = n := by rw [List.length_take, repC_len hr]; exact Nat.min_eq_left h1
      have h3 := run_loadCells_list (P := P) w ⟨b, off, none⟩ (us.take n) (fun j u hu => by
        rw [Go.WideShapes.add_plain]
        rw [List.getElem?_take] at hu
        split at hu
        · exact hc j u hu
        · cases hu)
      rw [hlen] at h3
      refine ⟨.agg (us.take n).toArray, ?_, by simp only [rep]; exact ⟨_, rfl, hr2⟩⟩
      simp only [TyI.size] at hs
      simp [loadVar, h2, TyI.ag, sizeOf, typeInfo, hi, hs, h3]
  | none => simp [ldv] at hl
  | int _ => exact single hl rfl (by simp [TyI.size])
  | string => exact single hl rfl (by simp [TyI.size])
  | bool => exact single hl rfl (by simp [TyI.size])
  | pointer => exact single hl rfl (by simp [TyI.size])
  | func => exact single hl rfl (by simp [TyI.size])
  | slice _ _ _ => exact single hl rfl (by simp [TyI.size])
theorem blk_cells {g : Nat} {t : TypeId} {us : List Value} (h : Blk w g t us.toArray) (off : Nat) : ∀ j u, (us.drop off)[j]? = some u → w.cell? ⟨g, off + j, none⟩ = some u := by
  intro j u hu
  rw [h.cell]
  rw [List.getElem?_drop] at hu
  simpa using hu
end
section
variable {P : Program} {Γ : Ctx} {Q Q' : Exit → ASt → Prop} {s : ASt} {σ : Store} {μ : Nat → Value} {w : World} {A : Nat → Prop} {T : List TyI}
variable {dst : Option Tmp} {ty : TypeId} {pos : String} {after : Array Edge}
theorem ls_load_ref (hT : okTab P T = true) {x : Operand} {t id off : Nat} {bt : TypeId} {cs cs1 : List AV} {ti : TyI} {v : AV} (hx : ev s x = some (.ref id off)) (hσ : find s.σ id = some (.box bt cs)) (hty : nth T t = some ti) (h1 : dropN cs off = some cs1) (h2 : ldv ti cs1 = some v) (hd : okDst Γ.n dst = true) :
    LS P Γ ⟨dst, .load t x, ty, pos, after, none⟩ s (rd x [.obj id]) (dst1 dst v) [] :=
  ls_pure hd fun t' ht μ a w hr => by
    obtain ⟨e1, ht⟩ := ht.ev hx
    have e2 : find t'.σ id = some (.box bt cs) := ht.1.trans hσ
    have e1 := hr.ev e1
    simp only [rep] at e1
    obtain ⟨bt', cs', g, e3, e4, e5, e6⟩ := e1
    rw [e2] at e3
    injection e3 with e3; injection e3 with e3 e7; subst e3 e7
    obtain ⟨g', us, e8, e9, e10⟩ := hr.store.obj id _ e2
    rw [e5] at e8
    injection e8 with e8; injection e8 with e8; injection e8 with e8; subst e8
    obtain ⟨_, rfl⟩ := dropN_spec h1
    obtain ⟨y, h3, h4⟩ := load_ok hT hty h2 (repC_drop off e10) (blk_cells e9 off)
    exact ⟨y, by simp [execOp, Instr.loadAt, Instr.sureAddr, e6, h3], h4⟩
theorem ls_load_el (hT : okTab P T = true) {x : Operand} {t : Nat} {cs : List AV} {ti : TyI} {v : AV} (hx : ev s x = some (.el cs)) (hty : nth T t = some ti) (h2 : ldv ti cs = some v) (hd : okDst Γ.n dst = true) :
    LS P Γ ⟨dst, .load t x, ty, pos, after, none⟩ s (rd x []) (dst1 dst v) [] :=
  ls_pure hd fun t' ht μ a w hr => by
    obtain ⟨e1, ht⟩ := ht.ev hx
    have e1 := hr.ev e1
    simp only [rep] at e1
    obtain ⟨b, off, us, e3, e4, e5⟩ := e1
    have hc : ∀ j u, us[j]? = some u → w.cell? ⟨b, off + j, none⟩ = some u := by
      rcases e4 with rfl | ⟨b', off', e6, _, _, e7⟩
      · intro j u hu; simp at hu
      · injection e6 with e6; injection e6 with e6 e8; subst e6 e8; exact e7
    obtain ⟨y, h3, h4⟩ := load_ok hT hty h2 e5 hc
    exact ⟨y, by simp [execOp, Instr.loadAt, Instr.sureAddr, e3, h3], rep_mono Step.up h4⟩
theorem own_addr {g c n : Nat} {e : TypeId} {size : Nat} {us : List Value} (h : w.ownsRow 0 e size (.slice (some ⟨g, 0, none⟩) n c) n us) : ∀ j u, us[j]? = some u → w.cell? ⟨g, 0 + j, none⟩ = some u := by
  intro j u hu
  have := h.cells (g := g) rfl j u hu
  rw [Go.WideShapes.add_plain] at this
  exact this
theorem ls_load_eref (hT : okTab P T = true) {x : Operand} {t id n i off : Nat} {e : TypeId} {size : Nat} {xs : List (List AV)} {cs cs1 : List AV} {ti : TyI} {v : AV} (hx : ev s x = some (.eref id n i off)) (hσ : find s.σ id = some (.row e size xs)) (hn : n = xs.length) (hi : xs[i]? = some cs)
    (hty : nth T t = some ti) (h1 : dropN cs off = some cs1) (h2 : ldv ti cs1 = some v) (hd : okDst Γ.n dst = true) : LS P Γ ⟨dst, .load t x, ty, pos, after, none⟩ s (rd x [.obj id]) (dst1 dst v) [] :=
  ls_pure hd fun t' ht μ a w hr => by
    obtain ⟨e1, ht⟩ := ht.ev hx
    have e2 : find t'.σ id = some (.row e size xs) := ht.1.trans hσ
    have e1 := hr.ev e1
    simp only [rep] at e1
    obtain ⟨_, e', size', xs', e3, e4, e5⟩ := e1
    rw [e2] at e3
    injection e3 with e3; injection e3 with e3 e7 e8; subst e3 e7 e8
    obtain ⟨g, c, _, _, e9, e10⟩ := e5 hn
    obtain ⟨us, e11, e12⟩ := hr.store.obj id _ e2
    subst hn
    rw [e9] at e11
    obtain ⟨h5, h6⟩ := repLL_get e12 hi
    obtain ⟨_, rfl⟩ := dropN_spec h1
    obtain ⟨y, h3, h4⟩ := load_ok (b := g) (off := i * size + off) hT hty h2 (repC_drop off h5) (fun j u hu => by
      rw [List.getElem?_drop, List.getElem?_take] at hu
      split at hu
      · rw [List.getElem?_drop] at hu
        have := own_addr e11 _ u hu
        rw [← this]
        congr 2
        omega
      · cases hu)
    exact ⟨y, by simp [execOp, Instr.loadAt, Instr.sureAddr, e10, h3], rep_mono Step.up h4⟩
/-! fields, elements, lengths -/
theorem ls_field (hT : okTab P T = true) {x : Operand} {t f : Nat} {cs cs1 : List AV} {n off ft : Nat} {fs : List (Nat × Nat)} {ti : TyI} {v : AV} (hx : ev s x = some (.agg cs)) (hty : nth T t = some (.struct n fs)) (hf : nth fs f = some (off, ft)) (htf : nth T ft = some ti)
    (h1 : dropN cs off = some cs1) (h2 : ldv ti cs1 = some v) (hd : okDst Γ.n dst = true) : LS P Γ ⟨dst, .field t x f, ty, pos, after, none⟩ s (rd x []) (dst1 dst v) [] :=
  ls_pure hd fun t' ht μ a w hr => by
    obtain ⟨e1, ht⟩ := ht.ev hx
    have e1 := hr.ev e1
    simp only [rep] at e1
    obtain ⟨us, e2, e3⟩ := e1
    have h3 := okTab_at hT hty
    simp only [okTy] at h3
    split at h3
    · rename_i fields i hu hi
      simp only [Bool.and_eq_true, Nat.beq_eq, decide_eq_true_eq] at h3
      obtain ⟨⟨h4, h5⟩, h6⟩ := h3
      have h7 : ∃ fi, fields[f]? = some fi ∧ fi.offset = off ∧ fi.type = ft := by
        subst h5
        have key : ∀ (l : List Field) (f : Nat), nth (l.map fun f => (f.offset, f.type)) f = some (off, ft) → ∃ fi, l[f]? = some fi ∧ fi.offset = off ∧ fi.type = ft := by
          intro l
          induction l with
          | nil => intro f h; simp [nth] at h
          | cons y l ih =>
            intro f h
            cases f with
            | zero => simp only [List.map_cons, nth, Option.some.injEq, Prod.mk.injEq] at h; exact ⟨y, rfl, h⟩
            | succ f => exact ih f h
        obtain ⟨fi, h8, h9⟩ := key _ f hf
        exact ⟨fi, by rw [← Array.getElem?_toList]; exact h8, h9⟩
      obtain ⟨fi, h8, rfl, rfl⟩ := h7
      obtain ⟨h10, rfl⟩ := dropN_spec h1
      have e4 := repC_drop fi.offset e3
      cases ti with
      | none => simp [ldv] at h2
      | struct m gs =>
        simp only [ldv] at h2
        obtain ⟨h11, rfl⟩ := takeK_spec h2
        have h12 := okTab_at hT htf
        simp only [okTy] at h12
        split at h12
        · rename_i hu' hi'
          simp only [Bool.and_eq_true, Nat.beq_eq] at h12
          refine ⟨.agg ((us.drop fi.offset).take m).toArray, ?_, by simp only [rep]; exact ⟨_, rfl, repC_take m e4⟩⟩
          simp only [execOp, Instr.field, Sem.run_bind, run_underlying hu, Result.andThen_ok, h8, e2, asAgg, part, isAgg, run_underlying hu', sizeOf, typeInfo, run_program, hi', Sem.run_pure, if_true, h12.1.1]
          congr 3
          simp [List.extract_toArray, List.extract_eq_take_drop]
        · cases h12
      | _ =>
        obtain ⟨u, h11, _, h12⟩ := repC_nth e4 h2
        obtain ⟨_, h13⟩ := ty_size hT htf (by simp [TyI.size])
        refine ⟨u, ?_, h12⟩
        rw [List.getElem?_drop] at h11
        simp only [Nat.add_zero] at h11
        simp [execOp, Instr.field, run_underlying hu, h8, e2, asAgg, part, h13, TyI.ag, h11]
    · cases h3
theorem fieldAt_ok (hT : okTab P T = true) {t f n off ft b o : Nat} {fs : List (Nat × Nat)} (hty : nth T t = some (.struct n fs)) (hf : nth fs f = some (off, ft)) : (Instr.fieldAt t (.pointer (some ⟨b, o, none⟩)) f).run P w = .ok (.pointer (some ⟨b, o + off, none⟩)) w := by
  have h3 := okTab_at hT hty
  simp only [okTy] at h3
  split at h3
  · rename_i fields i hu hi
    simp only [Bool.and_eq_true, Nat.beq_eq, decide_eq_true_eq] at h3
    obtain ⟨⟨h4, h5⟩, h6⟩ := h3
    subst h5
    have key : ∀ (l : List Field) (f : Nat), nth (l.map fun f => (f.offset, f.type)) f = some (off, ft) → ∃ fi, l[f]? = some fi ∧ fi ∈ l ∧ fi.offset = off ∧ fi.type = ft := by
      intro l
      induction l with
      | nil => intro f h; simp [nth] at h
      | cons y l ih =>
        intro f h
        cases f with
        | zero => simp only [List.map_cons, nth, Option.some.injEq, Prod.mk.injEq] at h; exact ⟨y, rfl, by simp, h⟩
        | succ f => obtain ⟨fi, h1, h2, h3⟩ := ih f h; exact ⟨fi, h1, by simp [h2], h3⟩
    obtain ⟨fi, h8, h9, rfl, rfl⟩ := key _ f hf
    have h10 := List.all_eq_true.1 h6 fi h9
    split at h10
    · rename_i j hj
      have h11 : ¬ j.size = 0 := fun h => by rw [h] at h10; cases h10
      simp [Instr.fieldAt, run_underlying hu, ← Array.getElem?_toList, h8, Instr.sureAddr, fieldPlace, sizeOf, typeInfo, hj, h11, Go.WideShapes.add_plain]
    · cases h10
  · cases h3
theorem ls_fieldAddr_ref (hT : okTab P T = true) {x : Operand} {t f id o : Nat} {bt : TypeId} {cs : List AV} {n off ft : Nat} {fs : List (Nat × Nat)} (hx : ev s x = some (.ref id o)) (hσ : find s.σ id = some (.box bt cs)) (hty : nth T t = some (.struct n fs)) (hf : nth fs f = some (off, ft)) (hle : Nat.ble (o + off) cs.length = true) (hd : okDst Γ.n dst = true) :
    LS P Γ ⟨dst, .fieldAddr t x f, ty, pos, after, none⟩ s (rd x [.obj id]) (dst1 dst (.ref id (o + off))) [] :=
  ls_pure hd fun t' ht μ a w hr => by
    obtain ⟨e1, ht⟩ := ht.ev hx
    have e0 : find t'.σ id = some (.box bt cs) := ht.1.trans hσ
    have e1 := hr.ev e1
    simp only [rep] at e1 ⊢
    obtain ⟨bt', cs', g, e3, e4, e5, e6⟩ := e1
    rw [e0] at e3
    injection e3 with e3; injection e3 with e3 e7; subst e3 e7
    exact ⟨_, by simp [execOp, e6, fieldAt_ok hT hty hf], bt, cs, g, e0, Nat.le_of_ble_eq_true hle, e5, rfl⟩
theorem ls_fieldAddr_el (hT : okTab P T = true) {x : Operand} {t f : Nat} {cs cs1 : List AV} {n off ft : Nat} {fs : List (Nat × Nat)} (hx : ev s x = some (.el cs)) (hty : nth T t = some (.struct n fs)) (hf : nth fs f = some (off, ft)) (h1 : dropN cs off = some cs1) (hd : okDst Γ.n dst = true) :
    LS P Γ ⟨dst, .fieldAddr t x f, ty, pos, after, none⟩ s (rd x []) (dst1 dst (.el cs1)) [] :=
  ls_pure hd fun t' ht μ a w hr => by
    obtain ⟨e1, ht⟩ := ht.ev hx
    have e1 := hr.ev e1
    simp only [rep] at e1 ⊢
    obtain ⟨b, o, us, e3, e4, e5⟩ := e1
    obtain ⟨_, rfl⟩ := dropN_spec h1
    refine ⟨_, by simp [execOp, e3, fieldAt_ok hT hty hf], b, o + off, us.drop off, rfl, ?_, repC_drop off e5⟩
    rcases e4 with rfl | ⟨b', off', e6, e8, e9, e10⟩
    · exact .inl (by simp)
    · injection e6 with e6; injection e6 with e6 e7; subst e6 e7
      refine .inr ⟨b, o + off, rfl, e8, e9, fun j u hu => ?_⟩
      rw [List.getElem?_drop] at hu
      rw [← e10 _ u hu]
      congr 2
      omega
theorem ls_fieldAddr_eref (hT : okTab P T = true) {x : Operand} {t f id m i o : Nat} {e : TypeId} {size : Nat} {xs : List (List AV)} {n off ft : Nat} {fs : List (Nat × Nat)} (hx : ev s x = some (.eref id m i o)) (hσ : find s.σ id = some (.row e size xs)) (hty : nth T t = some (.struct n fs)) (hf : nth fs f = some (off, ft)) (hle : Nat.ble (o + off) size = true) (hd : okDst Γ.n dst = true) :
    (hm : m = xs.length) → LS P Γ ⟨dst, .fieldAddr t x f, ty, pos, after, none⟩ s (rd x [.obj id]) (dst1 dst (.eref id m i (o + off))) [] := fun hm =>
  ls_pure hd fun t' ht μ a w hr => by
    obtain ⟨e1, ht⟩ := ht.ev hx
    have e0 : find t'.σ id = some (.row e size xs) := ht.1.trans hσ
    have e1 := hr.ev e1
    simp only [rep] at e1 ⊢
    obtain ⟨_, e', size', xs', e3, e4, e5⟩ := e1
    rw [e0] at e3
    injection e3 with e3; injection e3 with e3 e7 e8; subst e3 e7 e8
    obtain ⟨g, c, h1, h2, h3, h4⟩ := e5 hm
    exact ⟨.pointer (some ⟨g, i * size + (o + off), none⟩), by simp [execOp, h4, fieldAt_ok hT hty hf, Nat.add_assoc], rfl, e, size, xs, e0, e4, fun _ => ⟨g, c, h1, Nat.le_of_ble_eq_true hle, h3, rfl⟩⟩
theorem slice_ty (hT : okTab P T = true) {t e size bytes : Nat} (hty : nth T t = some (.slice e size bytes)) : P.underlying t = some (.slice e) ∧ 0 < size ∧ ∃ j z, P.info? e = some j ∧ j.size = size ∧ j.bytes = bytes ∧ j.zero = some z ∧ z.cells.size = size := by
  have h3 := okTab_at hT hty
  simp only [okTy] at h3
  split at h3
  · rename_i e' i j hu hi hj
    simp only [Bool.and_eq_true, Nat.beq_eq, Bool.not_eq_true', Bool.eq_false_iff, ne_eq] at h3
    obtain ⟨⟨⟨⟨⟨h4, rfl⟩, h6⟩, h7⟩, h8⟩, h9⟩ := h3
    split at h9
    · rename_i z hz
      exact ⟨hu, by omega, j, z, hj, h6, h7, hz, by simpa using h9⟩
    · cases h9
  · cases h3
theorem ls_indexAddr_sl (hT : okTab P T = true) {x y : Operand} {t : Nat} {xs : List (List AV)} {k : IntKind} {i : Int} {q : Nat} {cs : List AV} {e size bytes : Nat} (hx : ev s x = some (.sl size xs)) (hy : ev s y = some (.v (.int k i))) (hty : nth T t = some (.slice e size bytes)) (hi : i = (q : Int)) (hq : xs[q]? = some cs) (hd : okDst Γ.n dst = true) :
    LS P Γ ⟨dst, .indexAddr t x y, ty, pos, after, none⟩ s (rd x (rd y [])) (dst1 dst (.el cs)) [] :=
  ls_pure hd fun t' ht μ a w hr => by
    obtain ⟨e1, ht⟩ := ht.ev hx
    obtain ⟨e2, ht⟩ := ht.ev hy
    have e1 := hr.ev e1
    have e2 := hr.ev e2
    simp only [rep] at e1 e2 ⊢
    obtain ⟨ad, c, us, e3, e4, e5, e6, e7⟩ := e1
    obtain ⟨hu, hpos, j, z, hj, hj2, _⟩ := slice_ty hT hty
    obtain ⟨h5, h6⟩ := repLL_get e7 hq
    have hlt : q < xs.length := (List.getElem?_eq_some_iff.1 hq).1
    have hul : 0 < us.length := by rw [repLL_len e7]; exact Nat.mul_pos (by omega) hpos
    rcases e6 with rfl | ⟨b, off, rfl, hA, hb, hc⟩
    · simp at hul
    subst hi
    refine ⟨.pointer (some ⟨b, off + q * size, none⟩), ?_, b, off + q * size, (us.drop (q * size)).take size, rfl, ?_, h5⟩
    · have hlt' : (q : Int) < (xs.length : Int) := by omega
      simp [execOp, e3, e2.1, Instr.indexAt, asIntOf, run_underlying hu, hlt', sizeOf, typeInfo, hj, hj2, Go.WideShapes.add_plain]
      try (intro h; omega)
    · refine .inr ⟨b, off + q * size, rfl, hA, hb, fun j u hu => ?_⟩
      rw [List.getElem?_take] at hu
      split at hu
      · rw [List.getElem?_drop] at hu
        rw [← hc _ u hu]
        congr 2
        omega
      · cases hu
theorem ls_indexAddr_own (hT : okTab P T = true) {x y : Operand} {t : Nat} {id n : Nat} {xs : List (List AV)} {k : IntKind} {i : Int} {q : Nat} {e size bytes : Nat} (hx : ev s x = some (.own id n)) (hσ : find s.σ id = some (.row e size xs)) (hn : n = xs.length) (hy : ev s y = some (.v (.int k i))) (hty : nth T t = some (.slice e size bytes)) (hi : i = (q : Int)) (hq : q < xs.length) (hd : okDst Γ.n dst = true) :
    LS P Γ ⟨dst, .indexAddr t x y, ty, pos, after, none⟩ s (rd x (rd y [.obj id])) (dst1 dst (.eref id n q 0)) [] :=
  ls_pure hd fun t' ht μ a w hr => by
    obtain ⟨e1, ht⟩ := ht.ev hx
    obtain ⟨e2, ht⟩ := ht.ev hy
    have e0 : find t'.σ id = some (.row e size xs) := ht.1.trans hσ
    have e1 := hr.ev e1
    have e2 := hr.ev e2
    simp only [rep] at e1 e2 ⊢
    obtain ⟨_, e', size', xs', e3, e4, e5⟩ := e1
    rw [e0] at e3
    injection e3 with e3; injection e3 with e3 e7 e8; subst e3 e7 e8
    have e5 := e5 hn
    obtain ⟨us, e11, e12⟩ := hr.store.obj id _ e0
    obtain ⟨hu, hpos, j, z, hj, hj2, _⟩ := slice_ty hT hty
    subst hn hi
    rcases e11.2 with ⟨_, h0⟩ | ⟨g, cap, cur, h1, _, h2, h3, h4, h5⟩
    · omega
    refine ⟨.pointer (some ⟨g, q * size, none⟩), ?_, rfl, e, size, xs, e0, Nat.le_refl _, fun _ => ⟨g, cap, hq, Nat.zero_le _, h1, rfl⟩⟩
    have hlt' : (q : Int) < (xs.length : Int) := by omega
    simp [execOp, e5, h1, e2.1, Instr.indexAt, asIntOf, run_underlying hu, hlt', sizeOf, typeInfo, hj, hj2, Go.WideShapes.add_plain]
    try (intro h; omega)
/-- an index of a string -/
theorem ls_index_str {x y : Operand} {t : Nat} {k : IntKind} {i : Int} {q : Nat} {z : ByteArray} (hT : okTab P T = true) (hx : ev s x = some (.v (.string z))) (hy : ev s y = some (.v (.int k i))) (hty : nth T t = some .string) (hi : i = (q : Int)) (hq : q < z.size) (hd : okDst Γ.n dst = true) :
    LS P Γ ⟨dst, .index t x y, ty, pos, after, none⟩ s (rd x (rd y [])) (dst1 dst (.v (.int .u8 (z[q].toNat : Int)))) [] :=
  ls_pure hd fun t' ht μ a w hr => by
    obtain ⟨e1, ht⟩ := ht.ev hx
    obtain ⟨e2, ht⟩ := ht.ev hy
    have e1 := hr.ev e1
    have e2 := hr.ev e2
    simp only [rep] at e1 e2 ⊢
    have h3 := okTab_at hT hty
    simp only [okTy] at h3
    split at h3
    · rename_i hu hi2
      subst hi
      have h4 := run_index_string (P := P) w t z k (q : Int) hu
      rw [dif_pos ⟨by omega, by omega⟩] at h4
      refine ⟨.int .u8 (z[q].toNat : Int), ?_, rfl, rfl⟩
      simp only [execOp, e1.1, e2.1, Sem.run_bind, h4, Result.andThen_ok, Sem.run_pure]
      rfl
    · cases h3
/-! lengths -/
theorem ls_len_str (hT : okTab P T = true) {x : Operand} {t : Nat} {z : ByteArray} (hx : ev s x = some (.v (.string z))) (hty : nth T t = some .string) (hd : okDst Γ.n dst = true) : LS P Γ ⟨dst, .call { callee := .builtin .len, args := #[x], argTypes := #[t] }, ty, pos, after, none⟩ s (rd x []) (dst1 dst (.v (.int .i64 (z.size : Int)))) [] :=
  ls_pure hd fun t' ht μ a w hr => by
    obtain ⟨e1, ht⟩ := ht.ev hx
    have e1 := hr.ev e1
    simp only [rep] at e1 ⊢
    have h3 := okTab_at hT hty
    simp only [okTy] at h3
    split at h3
    · rename_i hu hi
      exact ⟨_, by simp [execOp, resolve, invoke, builtin, Builtin.len_, e1.1, run_underlying hu, goInt], rfl, rfl⟩
    · cases h3
theorem ls_len_sl (hT : okTab P T = true) {x : Operand} {t e size bytes sz : Nat} {xs : List (List AV)} (hx : ev s x = some (.sl sz xs)) (hty : nth T t = some (.slice e size bytes)) (hd : okDst Γ.n dst = true) : LS P Γ ⟨dst, .call { callee := .builtin .len, args := #[x], argTypes := #[t] }, ty, pos, after, none⟩ s (rd x []) (dst1 dst (.v (.int .i64 (xs.length : Int)))) [] :=
  ls_pure hd fun t' ht μ a w hr => by
    obtain ⟨e1, ht⟩ := ht.ev hx
    have e1 := hr.ev e1
    simp only [rep] at e1 ⊢
    obtain ⟨ad, c, us, e3, e4, e5, e6, e7⟩ := e1
    obtain ⟨hu, _⟩ := slice_ty hT hty
    exact ⟨_, by simp [execOp, resolve, invoke, builtin, Builtin.len_, e3, run_underlying hu, goInt], rfl, rfl⟩
theorem ls_len_nil (hT : okTab P T = true) {x : Operand} {t e size bytes : Nat} (hx : ev s x = some (.v (.slice none 0 0))) (hty : nth T t = some (.slice e size bytes)) (hd : okDst Γ.n dst = true) : LS P Γ ⟨dst, .call { callee := .builtin .len, args := #[x], argTypes := #[t] }, ty, pos, after, none⟩ s (rd x []) (dst1 dst (.v (.int .i64 0))) [] :=
  ls_pure hd fun t' ht μ a w hr => by
    obtain ⟨e1, ht⟩ := ht.ev hx
    have e1 := hr.ev e1
    simp only [rep] at e1 ⊢
    obtain ⟨hu, _⟩ := slice_ty hT hty
    exact ⟨_, by simp [execOp, resolve, invoke, builtin, Builtin.len_, e1.1, run_underlying hu, goInt], rfl, rfl⟩
theorem ls_len_own (hT : okTab P T = true) {x : Operand} {t e size bytes id n : Nat} {xs : List (List AV)} {e' size' : Nat} (hx : ev s x = some (.own id n)) (hσ : find s.σ id = some (.row e' size' xs)) (hn : n = xs.length) (hty : nth T t = some (.slice e size bytes)) (hd : okDst Γ.n dst = true) : LS P Γ ⟨dst, .call { callee := .builtin .len, args := #[x], argTypes := #[t] }, ty, pos, after, none⟩ s (rd x [.obj id]) (dst1 dst (.v (.int .i64 (xs.length : Int)))) [] :=
  ls_pure hd fun t' ht μ a w hr => by
    obtain ⟨e1, ht⟩ := ht.ev hx
    have e0 : find t'.σ id = some (.row e' size' xs) := ht.1.trans hσ
    have e1 := hr.ev e1
    simp only [rep] at e1 ⊢
    obtain ⟨_, _, _, xs', e3, e4, e5⟩ := e1
    rw [e0] at e3
    injection e3 with e3; injection e3 with _ _ e8; subst e8
    obtain ⟨us, e11, e12⟩ := hr.store.obj id _ e0
    obtain ⟨A', c', h6, _, _⟩ := own_slice e11
    obtain ⟨hu, _⟩ := slice_ty hT hty
    have e5 := (e5 hn).trans h6
    exact ⟨_, by simp [execOp, resolve, invoke, builtin, Builtin.len_, e5, run_underlying hu, goInt], rfl, rfl⟩
theorem ls_makeFunc {fn : Fn} {first cap : Array Operand} {fs ks : List AV} (hf : first.toList.mapM (ev s) = some fs) (hk : cap.toList.mapM (ev s) = some ks) (hd : okDst Γ.n dst = true) :
    LS P Γ ⟨dst, .makeFunc fn first cap, ty, pos, after, none⟩ s (first.toList.foldr rd (cap.toList.foldr rd [])) (dst1 dst (.clo fn fs ks)) [] :=
  ls_pure hd fun t' ht μ a w hr => by
    have key : ∀ (l : List Operand) (R : List Loc) (vs : List AV), Agree s t' (l.foldr rd R) → l.mapM (ev s) = some vs → repL t'.σ μ w (av t'.σ μ Γ.M) vs (l.map a.eval) ∧ Agree s t' R := by
      intro l
      induction l with
      | nil => intro R vs h e; simp at e; subst e; simp only [List.foldr_nil] at h; exact ⟨by simp [repL], h⟩
      | cons x l ih =>
        intro R vs h e
        simp only [List.foldr_cons] at h
        rw [List.mapM_cons] at e
        cases hx : ev s x with
        | none => rw [hx] at e; simp at e
        | some v =>
          rw [hx] at e
          obtain ⟨h1, h2⟩ := h.ev hx
          cases hl : l.mapM (ev s) with
          | none => rw [hl] at e; simp at e
          | some vs' =>
            rw [hl] at e
            simp at e
            subst e
            obtain ⟨h3, h4⟩ := ih R vs' h2 hl
            simp only [List.map_cons, repL]
            exact ⟨⟨_, _, rfl, hr.ev h1, h3⟩, h4⟩
    obtain ⟨h1, ht⟩ := key _ _ _ ht hf
    obtain ⟨h2, ht⟩ := key _ _ _ ht hk
    simp only [rep]
    refine ⟨.func fn (first.map a.eval) (cap.map a.eval), by simp [execOp, Instr.makeFunc], first.toList.map a.eval, cap.toList.map a.eval, ?_, h1, h2⟩
    simp [← Array.toList_map]
end
end Go.Proofs.Ytimlkhbedhjehaa
