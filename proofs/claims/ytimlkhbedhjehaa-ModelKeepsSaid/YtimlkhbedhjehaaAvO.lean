/-
  Walks over abstract values: the operations. Over whatever program. No condition.
-/
import Derived.Test.YtimlkhbedhjehaaAv
namespace Go.Proofs.Ytimlkhbedhjehaa
open Go.RowKit
set_option linter.unusedSimpArgs false
set_option linter.unusedVariables false

inductive TyI where
  | int (k : IntKind)
  | string
  | bool
  | pointer
  | func
  | struct (size : Nat) (fs : List (Nat × Nat))
  | slice (e size bytes : Nat)
  | none
def nth {α : Type} : List α → Nat → Option α
  | [], _ => .none
  | x :: _, 0 => some x
  | _ :: l, n + 1 => nth l n
def okTy (P : Program) (t : Nat) : TyI → Bool
  | .int k => match P.underlying t, P.info? t with
    | some (.int k'), some i => decide (k = k') && Nat.beq i.size 1
    | _, _ => false
  | .string => match P.underlying t, P.info? t with
    | some .string, some i => Nat.beq i.size 1
    | _, _ => false
  | .bool => match P.underlying t, P.info? t with
    | some .bool, some i => Nat.beq i.size 1
    | _, _ => false
  | .pointer => match P.underlying t, P.info? t with
    | some (.pointer _), some i => Nat.beq i.size 1
    | _, _ => false
  | .func => match P.underlying t, P.info? t with
    | some (.func _ _ _), some i => Nat.beq i.size 1
    | _, _ => false
  | .struct n fs => match P.underlying t, P.info? t with
    | some (.struct fields), some i => Nat.beq i.size n && decide (fields.toList.map (fun f => (f.offset, f.type)) = fs) && (fields.toList.all fun f => match P.info? f.type with | some j => !Nat.beq j.size 0 | .none => false)
    | _, _ => false
  | .slice e n b => match P.underlying t, P.info? t, P.info? e with
    | some (.slice e'), some i, some j => Nat.beq i.size 1 && Nat.beq e e' && Nat.beq j.size n && Nat.beq j.bytes b && !Nat.beq n 0 && (match j.zero with | some z => Nat.beq z.cells.size n | .none => false)
    | _, _, _ => false
  | .none => true
def okTab (P : Program) (l : List TyI) : Bool := (List.range l.length).all fun t => match nth l t with | some x => okTy P t x | .none => true
theorem nth_lt {α : Type} : ∀ {l : List α} {n : Nat} {x : α}, nth l n = some x → n < l.length
  | [], _, _, h => by simp [nth] at h
  | _ :: _, 0, _, _ => by simp
  | _ :: l, n + 1, _, h => by
    have := nth_lt (l := l) (n := n) h
    simp; omega
theorem okTab_at {P : Program} {l : List TyI} (h : okTab P l = true) {t : Nat} {x : TyI} (hx : nth l t = some x) : okTy P t x = true := by
  have := List.all_eq_true.1 h t (by simpa using nth_lt hx)
  simpa [hx] using this
def TyI.ag : TyI → Bool
  | .struct _ _ => true
  | _ => false
def TyI.size : TyI → Nat
  | .struct n _ => n
  | .none => 0
  | _ => 1
theorem ty_size {P : Program} {l : List TyI} (h : okTab P l = true) {t : Nat} {x : TyI} (hx : nth l t = some x) (hn : x.size ≠ 0) :
    (∃ i, P.info? t = some i ∧ i.size = x.size) ∧ ∀ w, (isAgg t).run P w = .ok x.ag w := by
  have h1 := okTab_at h hx
  cases x <;> simp only [okTy] at h1 <;> (try exact absurd rfl hn)
  all_goals
    split at h1
    · simp only [Bool.and_eq_true, Nat.beq_eq] at h1
      rename_i hu
      refine ⟨⟨_, by assumption, ?_⟩, fun w => ?_⟩
      · first | exact h1 | exact h1.2 | exact h1.1.1 | exact h1.1.1.1.1.1
      · have hu2 := run_underlying (P := P) (t := t) (by assumption) w
        simp [isAgg, hu2, TyI.ag]
    · cases h1

section
variable {P : Program} {Γ : Ctx} {Q Q' : Exit → ASt → Prop} {s : ASt} {σ : Store} {μ : Nat → Value} {w : World} {A : Nat → Prop} {T : List TyI}
/-! ### Operations that turn nothing -/
variable {dst : Option Tmp} {ty : TypeId} {pos : String} {after : Array Edge}
theorem ls_move {x : Operand} {v : AV} (hx : ev s x = some v) (hd : okDst Γ.n dst = true) : LS P Γ ⟨dst, .move x, ty, pos, after, none⟩ s (rd x []) (dst1 dst v) [] :=
  ls_pure hd fun t ht μ a w hr => ⟨_, rfl, hr.ev (ht.ev hx).1⟩
theorem ls_assign {x : Operand} {v : AV} (hx : ev s x = some v) (hd : okDst Γ.n dst = true) : LS P Γ ⟨dst, .assign x, ty, pos, after, none⟩ s (rd x []) (dst1 dst v) [] :=
  ls_pure hd fun t ht μ a w hr => ⟨_, rfl, hr.ev (ht.ev hx).1⟩
theorem ls_pick {c x y : Operand} {b : Bool} {v : AV} (hc : ev s c = some (.v (.bool b))) (hx : b = true → ev s x = some v) (hy : b = false → ev s y = some v) (hd : okDst Γ.n dst = true) :
    LS P Γ ⟨dst, .pick c x y, ty, pos, after, none⟩ s (rd c (rd x (rd y []))) (dst1 dst v) [] :=
  ls_pure hd fun t ht μ a w hr => by
    obtain ⟨h1, ht⟩ := ht.ev hc
    have h2 := hr.ev h1
    simp only [rep] at h2
    cases b with
    | true =>
      obtain ⟨h3, ht⟩ := ht.ev (hx rfl)
      exact ⟨_, by simp [execOp, asBool, h2.1], hr.ev h3⟩
    | false =>
      obtain ⟨_, ht⟩ := ht.ev (x := x) rfl
      obtain ⟨h3, ht⟩ := ht.ev (hy rfl)
      exact ⟨_, by simp [execOp, asBool, h2.1], hr.ev h3⟩
theorem ls_pickT {c x y : Operand} {v : AV} (hc : ev s c = some (.v (.bool true))) (hx : ev s x = some v) (hd : okDst Γ.n dst = true) : LS P Γ ⟨dst, .pick c x y, ty, pos, after, none⟩ s (rd c (rd x (rd y []))) (dst1 dst v) [] :=
  ls_pick hc (fun _ => hx) (fun h => nomatch h) hd
theorem ls_pickF {c x y : Operand} {v : AV} (hc : ev s c = some (.v (.bool false))) (hy : ev s y = some v) (hd : okDst Γ.n dst = true) : LS P Γ ⟨dst, .pick c x y, ty, pos, after, none⟩ s (rd c (rd x (rd y []))) (dst1 dst v) [] :=
  ls_pick hc (fun h => nomatch h) (fun _ => hy) hd
/-- An operation of two operands that hold no memory. -/
theorem ls_bin {op : BinOp} {xt yt : TypeId} {x y : Operand} {p q r : Value} (hx : ev s x = some (.v p)) (hy : ev s y = some (.v q)) (hr : ∀ w, (do eqGuard op xt x y p q; binOp op xt p q : Sem Value).run P w = .ok r w) (hs : scal r = true) (hd : okDst Γ.n dst = true) :
    LS P Γ ⟨dst, .binOp op xt x y yt, ty, pos, after, none⟩ s (rd x (rd y [])) (dst1 dst (.v r)) [] :=
  ls_pure hd fun t ht μ a w hrel => by
    obtain ⟨h1, ht⟩ := ht.ev hx
    obtain ⟨h2, ht⟩ := ht.ev hy
    have h1 := hrel.ev h1
    have h2 := hrel.ev h2
    simp only [rep] at h1 h2
    refine ⟨r, ?_, by simp only [rep]; exact ⟨trivial, hs⟩⟩
    have := hr w
    simp only [execOp, h1.1, h2.1, Sem.run_bind, this, Result.andThen, Sem.run_pure]
section
variable {xt yt : TypeId} {x y : Operand} {k : IntKind} {a b c : Int} {p q : ByteArray}
theorem ls_add (hx : ev s x = some (.v (.int k a))) (hy : ev s y = some (.v (.int k b))) (hd : okDst Γ.n dst = true) : LS P Γ ⟨dst, .binOp .add xt x y yt, ty, pos, after, none⟩ s (rd x (rd y [])) (dst1 dst (.v (.int k (k.wrap (a + b))))) [] :=
  ls_bin hx hy (fun w => by simp [eqGuard, binOp, Op.intArith]) rfl hd
theorem ls_sub (hx : ev s x = some (.v (.int k a))) (hy : ev s y = some (.v (.int k b))) (hd : okDst Γ.n dst = true) : LS P Γ ⟨dst, .binOp .sub xt x y yt, ty, pos, after, none⟩ s (rd x (rd y [])) (dst1 dst (.v (.int k (k.wrap (a - b))))) [] :=
  ls_bin hx hy (fun w => by simp [eqGuard, binOp, Op.intArith]) rfl hd
theorem ls_mul (hx : ev s x = some (.v (.int k a))) (hy : ev s y = some (.v (.int k b))) (hd : okDst Γ.n dst = true) : LS P Γ ⟨dst, .binOp .mul xt x y yt, ty, pos, after, none⟩ s (rd x (rd y [])) (dst1 dst (.v (.int k (k.wrap (a * b))))) [] :=
  ls_bin hx hy (fun w => by simp [eqGuard, binOp, Op.intArith]) rfl hd
theorem ls_add64 (hx : ev s x = some (.v (.int .i64 a))) (hy : ev s y = some (.v (.int .i64 b))) (h : -9223372036854775808 ≤ a + b ∧ a + b ≤ 9223372036854775807) (hd : okDst Γ.n dst = true) : LS P Γ ⟨dst, .binOp .add xt x y yt, ty, pos, after, none⟩ s (rd x (rd y [])) (dst1 dst (.v (.int .i64 (a + b)))) [] := by
  have := ls_add (P := P) (Γ := Γ) (ty := ty) (pos := pos) (after := after) (xt := xt) (yt := yt) hx hy hd
  rwa [IntWalk.i64_in _ (by omega)] at this
theorem ls_sub64 (hx : ev s x = some (.v (.int .i64 a))) (hy : ev s y = some (.v (.int .i64 b))) (h : -9223372036854775808 ≤ a - b ∧ a - b ≤ 9223372036854775807) (hd : okDst Γ.n dst = true) : LS P Γ ⟨dst, .binOp .sub xt x y yt, ty, pos, after, none⟩ s (rd x (rd y [])) (dst1 dst (.v (.int .i64 (a - b)))) [] := by
  have := ls_sub (P := P) (Γ := Γ) (ty := ty) (pos := pos) (after := after) (xt := xt) (yt := yt) hx hy hd
  rwa [IntWalk.i64_in _ (by omega)] at this
theorem ls_mul64 (hx : ev s x = some (.v (.int .i64 a))) (hy : ev s y = some (.v (.int .i64 b))) (h : -9223372036854775808 ≤ a * b ∧ a * b ≤ 9223372036854775807) (hd : okDst Γ.n dst = true) : LS P Γ ⟨dst, .binOp .mul xt x y yt, ty, pos, after, none⟩ s (rd x (rd y [])) (dst1 dst (.v (.int .i64 (a * b)))) [] := by
  have := ls_mul (P := P) (Γ := Γ) (ty := ty) (pos := pos) (after := after) (xt := xt) (yt := yt) hx hy hd
  rwa [IntWalk.i64_in _ (by omega)] at this
theorem ls_lss (hx : ev s x = some (.v (.int k a))) (hy : ev s y = some (.v (.int k b))) (hd : okDst Γ.n dst = true) : LS P Γ ⟨dst, .binOp .lss xt x y yt, ty, pos, after, none⟩ s (rd x (rd y [])) (dst1 dst (.v (.bool (decide (a < b))))) [] :=
  ls_bin hx hy (fun w => by simp [eqGuard, binOp, Op.intCmp]) rfl hd
theorem ls_leq (hx : ev s x = some (.v (.int k a))) (hy : ev s y = some (.v (.int k b))) (hd : okDst Γ.n dst = true) : LS P Γ ⟨dst, .binOp .leq xt x y yt, ty, pos, after, none⟩ s (rd x (rd y [])) (dst1 dst (.v (.bool (decide (a ≤ b))))) [] :=
  ls_bin hx hy (fun w => by simp [eqGuard, binOp, Op.intCmp]) rfl hd
theorem ls_gtr (hx : ev s x = some (.v (.int k a))) (hy : ev s y = some (.v (.int k b))) (hd : okDst Γ.n dst = true) : LS P Γ ⟨dst, .binOp .gtr xt x y yt, ty, pos, after, none⟩ s (rd x (rd y [])) (dst1 dst (.v (.bool (decide (b < a))))) [] :=
  ls_bin hx hy (fun w => by simp [eqGuard, binOp, Op.intCmp]) rfl hd
theorem ls_geq (hx : ev s x = some (.v (.int k a))) (hy : ev s y = some (.v (.int k b))) (hd : okDst Γ.n dst = true) : LS P Γ ⟨dst, .binOp .geq xt x y yt, ty, pos, after, none⟩ s (rd x (rd y [])) (dst1 dst (.v (.bool (decide (b ≤ a))))) [] :=
  ls_bin hx hy (fun w => by simp [eqGuard, binOp, Op.intCmp]) rfl hd
theorem ls_eql (hx : ev s x = some (.v (.int k a))) (hy : ev s y = some (.v (.int k b))) (hd : okDst Γ.n dst = true) : LS P Γ ⟨dst, .binOp .eql xt x y yt, ty, pos, after, none⟩ s (rd x (rd y [])) (dst1 dst (.v (.bool (decide (a = b))))) [] :=
  ls_bin hx hy (fun w => by simp [eqGuard, binOp, Op.intCmp]; rfl) rfl hd
theorem ls_neq (hx : ev s x = some (.v (.int k a))) (hy : ev s y = some (.v (.int k b))) (hd : okDst Γ.n dst = true) : LS P Γ ⟨dst, .binOp .neq xt x y yt, ty, pos, after, none⟩ s (rd x (rd y [])) (dst1 dst (.v (.bool (decide (a ≠ b))))) [] :=
  ls_bin hx hy (fun w => by simp [eqGuard, binOp, Op.intCmp]; rfl) rfl hd
theorem ls_seq (hx : ev s x = some (.v (.string p))) (hy : ev s y = some (.v (.string q))) (hd : okDst Γ.n dst = true) : LS P Γ ⟨dst, .binOp .eql xt x y yt, ty, pos, after, none⟩ s (rd x (rd y [])) (dst1 dst (.v (.bool (p.toList == q.toList)))) [] :=
  ls_bin hx hy (fun w => by simp [eqGuard, binOp, Op.stringOp]) rfl hd
theorem ls_sne (hx : ev s x = some (.v (.string p))) (hy : ev s y = some (.v (.string q))) (hd : okDst Γ.n dst = true) : LS P Γ ⟨dst, .binOp .neq xt x y yt, ty, pos, after, none⟩ s (rd x (rd y [])) (dst1 dst (.v (.bool (!(p.toList == q.toList))))) [] :=
  ls_bin hx hy (fun w => by simp [eqGuard, binOp, Op.stringOp]) rfl hd
theorem ls_slt (hx : ev s x = some (.v (.string p))) (hy : ev s y = some (.v (.string q))) (hd : okDst Γ.n dst = true) : LS P Γ ⟨dst, .binOp .lss xt x y yt, ty, pos, after, none⟩ s (rd x (rd y [])) (dst1 dst (.v (.bool (Op.bytesLess p.toList q.toList)))) [] :=
  ls_bin hx hy (fun w => by simp [eqGuard, binOp, Op.stringOp]) rfl hd
theorem ls_sgt (hx : ev s x = some (.v (.string p))) (hy : ev s y = some (.v (.string q))) (hd : okDst Γ.n dst = true) : LS P Γ ⟨dst, .binOp .gtr xt x y yt, ty, pos, after, none⟩ s (rd x (rd y [])) (dst1 dst (.v (.bool (!(Op.bytesLess p.toList q.toList || p.toList == q.toList))))) [] :=
  ls_bin hx hy (fun w => by simp [eqGuard, binOp, Op.stringOp]) rfl hd
theorem ls_sle (hx : ev s x = some (.v (.string p))) (hy : ev s y = some (.v (.string q))) (hd : okDst Γ.n dst = true) : LS P Γ ⟨dst, .binOp .leq xt x y yt, ty, pos, after, none⟩ s (rd x (rd y [])) (dst1 dst (.v (.bool (Op.bytesLess p.toList q.toList || p.toList == q.toList)))) [] :=
  ls_bin hx hy (fun w => by simp [eqGuard, binOp, Op.stringOp]) rfl hd
theorem ls_sge (hx : ev s x = some (.v (.string p))) (hy : ev s y = some (.v (.string q))) (hd : okDst Γ.n dst = true) : LS P Γ ⟨dst, .binOp .geq xt x y yt, ty, pos, after, none⟩ s (rd x (rd y [])) (dst1 dst (.v (.bool (!Op.bytesLess p.toList q.toList)))) [] :=
  ls_bin hx hy (fun w => by simp [eqGuard, binOp, Op.stringOp]) rfl hd
theorem ls_cat (hx : ev s x = some (.v (.string p))) (hy : ev s y = some (.v (.string q))) (h : p.size + q.size ≤ 9223372036854775807) (hd : okDst Γ.n dst = true) : LS P Γ ⟨dst, .binOp .add xt x y yt, ty, pos, after, none⟩ s (rd x (rd y [])) (dst1 dst (.v (.string (p ++ q)))) [] :=
  ls_bin hx hy (fun w => by
    have : ¬ ((p.size + q.size : Nat) : Int) > IntKind.i64.max := by simp [IntKind.max, IntKind.signed, IntKind.bits]; omega
    simp only [eqGuard, binOp, Op.stringOp, if_neg this]; rfl) rfl hd
theorem ls_beq {p q : Bool} (hT : okTab P T = true) (hx : ev s x = some (.v (.bool p))) (hy : ev s y = some (.v (.bool q))) (hu : nth T xt = some .bool) (hd : okDst Γ.n dst = true) : LS P Γ ⟨dst, .binOp .eql xt x y yt, ty, pos, after, none⟩ s (rd x (rd y [])) (dst1 dst (.v (.bool (p == q)))) [] := by
  have h1 := okTab_at hT hu
  simp only [okTy] at h1
  split at h1
  · rename_i hu2 _
    exact ls_bin hx hy (fun w => by simp [eqGuard, run_eql_bool w xt p q hu2]) rfl hd
  · cases h1
theorem ls_bne {p q : Bool} (hT : okTab P T = true) (hx : ev s x = some (.v (.bool p))) (hy : ev s y = some (.v (.bool q))) (hu : nth T xt = some .bool) (hd : okDst Γ.n dst = true) : LS P Γ ⟨dst, .binOp .neq xt x y yt, ty, pos, after, none⟩ s (rd x (rd y [])) (dst1 dst (.v (.bool (!(p == q))))) [] := by
  have h1 := okTab_at hT hu
  simp only [okTy] at h1
  split at h1
  · rename_i hu2 _
    exact ls_bin hx hy (fun w => by simp [eqGuard, run_neq_bool w xt p q hu2]) rfl hd
  · cases h1
theorem ls_not {p : Bool} {xt : TypeId} (hx : ev s x = some (.v (.bool p))) (hd : okDst Γ.n dst = true) : LS P Γ ⟨dst, .unOp .not xt x, ty, pos, after, none⟩ s (rd x []) (dst1 dst (.v (.bool (!p)))) [] :=
  ls_pure hd fun t ht μ a w hr => by
    obtain ⟨h1, ht⟩ := ht.ev hx
    have h1 := hr.ev h1
    simp only [rep] at h1
    exact ⟨.bool (!p), by simp [execOp, h1.1, Op.unary], by simp only [rep]; exact ⟨trivial, rfl⟩⟩
theorem ls_neg {xt : TypeId} (hx : ev s x = some (.v (.int k a))) (hd : okDst Γ.n dst = true) : LS P Γ ⟨dst, .unOp .neg xt x, ty, pos, after, none⟩ s (rd x []) (dst1 dst (.v (.int k (k.wrap (0 - a))))) [] :=
  ls_pure hd fun t ht μ ac w hr => by
    obtain ⟨h1, ht⟩ := ht.ev hx
    have h1 := hr.ev h1
    simp only [rep] at h1
    exact ⟨.int k (k.wrap (0 - a)), by simp [execOp, h1.1, Op.unary, Op.intArith], by simp only [rep]; exact ⟨trivial, rfl⟩⟩
end
theorem ls_extract {x : Operand} {i : Nat} {vs : List AV} {v : AV} (hx : ev s x = some (.tup vs)) (hi : nth vs i = some v) (hd : okDst Γ.n dst = true) : LS P Γ ⟨dst, .extract x i, ty, pos, after, none⟩ s (rd x []) (dst1 dst v) [] :=
  ls_pure hd fun t ht μ a w hr => by
    obtain ⟨h1, ht⟩ := ht.ev hx
    have h1 := hr.ev h1
    simp only [rep] at h1
    obtain ⟨us, e, h2⟩ := h1
    have key : ∀ (vs : List AV) (us : List Value) (i : Nat), repL t.σ μ w (av t.σ μ Γ.M) vs us → nth vs i = some v → ∃ u, us[i]? = some u ∧ rep t.σ μ w (av t.σ μ Γ.M) v u := by
      intro vs
      induction vs with
      | nil => intro us i _ h; simp [nth] at h
      | cons c cs ih =>
        intro us i h hi
        simp only [repL] at h
        obtain ⟨u, us', rfl, h3, h4⟩ := h
        cases i with
        | zero => simp only [nth, Option.some.injEq] at hi; subst hi; exact ⟨u, rfl, h3⟩
        | succ i => exact ih us' i h4 hi
    obtain ⟨u, h3, h4⟩ := key vs us i h2 hi
    exact ⟨u, by simp [execOp, e, Instr.extract, h3], h4⟩
end
end Go.Proofs.Ytimlkhbedhjehaa
