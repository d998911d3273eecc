/-
  Walks over abstract values: more operations. Over whatever program. No condition.
-/
import Derived.Test.YtimlkhbedhjehaaAvE
namespace Go.Proofs.Ytimlkhbedhjehaa
open Go.RowKit
set_option linter.unusedSimpArgs false
set_option linter.unusedVariables false
section
variable {P : Program} {Γ : Ctx} {Q Q' : Exit → ASt → Prop} {s : ASt} {σ : Store} {μ : Nat → Value} {w : World} {A : Nat → Prop} {T : List TyI}
variable {dst : Option Tmp} {ty : TypeId} {pos : String} {after : Array Edge}
theorem repLL_take {size : Nat} : ∀ {n : Nat} {xs : List (List AV)} {us : List Value}, repLL σ μ w A size xs us → repLL σ μ w A size (xs.take n) (us.take (n * size))
  | 0, xs, us, h => by simp [repLL]
  | n + 1, [], us, h => by simp only [repLL] at h; subst h; simp [repLL]
  | n + 1, x :: xs, us, h => by
    simp only [repLL] at h
    obtain ⟨u1, u2, rfl, h0, h1, h2⟩ := h
    simp only [List.take_succ_cons, repLL]
    refine ⟨u1, u2.take (n * size), ?_, h0, h1, repLL_take h2⟩
    rw [List.take_append, List.take_of_length_le (by rw [h0, Nat.add_mul]; omega), h0]
    congr 2
    rw [Nat.add_mul]; omega
theorem repLL_drop {size : Nat} : ∀ {n : Nat} {xs : List (List AV)} {us : List Value}, repLL σ μ w A size xs us → repLL σ μ w A size (xs.drop n) (us.drop (n * size))
  | 0, xs, us, h => by simpa using h
  | n + 1, [], us, h => by simp only [repLL] at h; subst h; simp [repLL]
  | n + 1, x :: xs, us, h => by
    simp only [repLL] at h
    obtain ⟨u1, u2, rfl, h0, h1, h2⟩ := h
    have e : (u1 ++ u2).drop ((n + 1) * size) = u2.drop (n * size) := by
      rw [List.drop_append, List.drop_of_length_le (by rw [h0, Nat.add_mul]; omega), h0, List.nil_append]
      congr 1
      rw [Nat.add_mul]; omega
    rw [List.drop_succ_cons, e]
    exact repLL_drop h2
theorem ReadsA.take {ad : Option Addr} {us : List Value} (h : ReadsA w A ad us) (n : Nat) : ReadsA w A ad (us.take n) := by
  rcases h with rfl | ⟨b, off, e, h1, h2, h3⟩
  · exact .inl (by simp)
  · refine .inr ⟨b, off, e, h1, h2, fun j u hu => ?_⟩
    rw [List.getElem?_take] at hu
    split at hu
    · exact h3 j u hu
    · cases hu
theorem ReadsA.drop {ad : Option Addr} {us : List Value} (h : ReadsA w A ad us) (n : Nat) : ReadsA w A (ad.map fun x => x.add n) (us.drop n) := by
  rcases h with rfl | ⟨b, off, rfl, h1, h2, h3⟩
  · exact .inl (by simp)
  · refine .inr ⟨b, off + n, by rw [Option.map_some, Go.WideShapes.add_plain], h1, h2, fun j u hu => ?_⟩
    rw [List.getElem?_drop] at hu
    rw [← h3 _ u hu]
    congr 2
    omega
/-- l[:n] -/
theorem ls_slice_to (hT : okTab P T = true) {x y : Operand} {t n : Nat} {i : Int} {k : IntKind} {size : Nat} {xs : List (List AV)} {e bytes : Nat} (hx : ev s x = some (.sl size xs)) (hy : ev s y = some (.v (.int k i))) (hty : nth T t = some (.slice e size bytes)) (hi : i = (n : Int)) (hn : n ≤ xs.length) (hd : okDst Γ.n dst = true) :
    LS P Γ ⟨dst, .slice t x none (some y) none, ty, pos, after, none⟩ s (rd x (rd y [])) (dst1 dst (.sl size (xs.take n))) [] :=
  ls_pure hd fun t' ht μ a w hr => by
    obtain ⟨e1, ht⟩ := ht.ev hx
    obtain ⟨e2, ht⟩ := ht.ev hy
    have e1 := hr.ev e1
    have e2 := hr.ev e2
    simp only [rep] at e1 e2 ⊢
    obtain ⟨ad, c, us, e3, e4, e5, e6, e7⟩ := e1
    obtain ⟨hu, hpos, j, z, hj, hj2, _⟩ := slice_ty hT hty
    subst hi
    have hlen : (xs.take n).length = n := by rw [List.length_take]; omega
    have hnc : (n : Int) ≤ c := by omega
    refine ⟨.slice ad n c, ?_, ad, c, us.take (n * size), by rw [hlen], by omega, e5, e6.take _, repLL_take e7⟩
    simp [execOp, e3, e2.1, Instr.sliceAt, Instr.slice, run_underlying hu, Instr.sliceBounds, Instr.sliceBound, asIntOf, hnc, sizeOf, typeInfo, hj]
    have hnc' : n ≤ c := by omega
    cases ad <;> simp [hnc', Addr.add]
/-- l[n:] -/
theorem ls_slice_from (hT : okTab P T = true) {x y : Operand} {t n : Nat} {i : Int} {k : IntKind} {size : Nat} {xs : List (List AV)} {e bytes : Nat} (hx : ev s x = some (.sl size xs)) (hy : ev s y = some (.v (.int k i))) (hty : nth T t = some (.slice e size bytes)) (hi : i = (n : Int)) (hn : n ≤ xs.length) (hd : okDst Γ.n dst = true) :
    LS P Γ ⟨dst, .slice t x (some y) none none, ty, pos, after, none⟩ s (rd x (rd y [])) (dst1 dst (.sl size (xs.drop n))) [] :=
  ls_pure hd fun t' ht μ a w hr => by
    obtain ⟨e1, ht⟩ := ht.ev hx
    obtain ⟨e2, ht⟩ := ht.ev hy
    have e1 := hr.ev e1
    have e2 := hr.ev e2
    simp only [rep] at e1 e2 ⊢
    obtain ⟨ad, c, us, e3, e4, e5, e6, e7⟩ := e1
    obtain ⟨hu, hpos, j, z, hj, hj2, _⟩ := slice_ty hT hty
    subst hi
    have hnc : (n : Int) ≤ xs.length := by omega
    have hnc2 : (n : Int) ≤ c := by omega
    refine ⟨.slice (if c = n then ad else ad.map (·.add (n * size))) (xs.length - n) (c - n), ?_, _, c - n, us.drop (n * size), by rw [List.length_drop], by rw [List.length_drop]; omega, by simp only [maxLen] at e5 ⊢; omega, ?_, repLL_drop e7⟩
    · simp [execOp, e3, e2.1, Instr.sliceAt, Instr.slice, run_underlying hu, Instr.sliceBounds, Instr.sliceBound, asIntOf, hnc, sizeOf, typeInfo, hj, hj2]
      try (intro h; omega)
    · by_cases h : c = n
      · rw [if_pos h]
        left
        rw [List.drop_of_length_le]
        rw [repLL_len e7]
        exact Nat.mul_le_mul_right _ (by omega)
      · rw [if_neg h]; exact e6.drop _
theorem ls_min {x y : Operand} {ts : Array TypeId} {k : IntKind} {a b : Int} (hx : ev s x = some (.v (.int k a))) (hy : ev s y = some (.v (.int k b))) (hd : okDst Γ.n dst = true) : LS P Γ ⟨dst, .call { callee := .builtin .min, args := #[x, y], argTypes := ts }, ty, pos, after, none⟩ s (rd x (rd y [])) (dst1 dst (.v (.int k (min a b)))) [] :=
  ls_pure hd fun t' ht μ ac w hr => by
    obtain ⟨e1, ht⟩ := ht.ev hx
    obtain ⟨e2, ht⟩ := ht.ev hy
    have e1 := hr.ev e1
    have e2 := hr.ev e2
    simp only [rep] at e1 e2 ⊢
    refine ⟨_, ?_, rfl, rfl⟩
    simp [execOp, resolve, invoke, builtin, e1.1, e2.1, run_min_int2]
    omega
theorem ls_max {x y : Operand} {ts : Array TypeId} {k : IntKind} {a b : Int} (hx : ev s x = some (.v (.int k a))) (hy : ev s y = some (.v (.int k b))) (hd : okDst Γ.n dst = true) : LS P Γ ⟨dst, .call { callee := .builtin .max, args := #[x, y], argTypes := ts }, ty, pos, after, none⟩ s (rd x (rd y [])) (dst1 dst (.v (.int k (max a b)))) [] :=
  ls_pure hd fun t' ht μ ac w hr => by
    obtain ⟨e1, ht⟩ := ht.ev hx
    obtain ⟨e2, ht⟩ := ht.ev hy
    have e1 := hr.ev e1
    have e2 := hr.ev e2
    simp only [rep] at e1 e2 ⊢
    refine ⟨_, ?_, rfl, rfl⟩
    simp [execOp, resolve, invoke, builtin, e1.1, e2.1, run_max_int2]
    omega
/-- Two values of one struct type, compared. -/
theorem ls_eqA {op : BinOp} {xt yt : TypeId} {x y : Operand} {cs ds : List AV} {r : Bool} (xs ys : List Value) (hrun : ∀ w, (do eqGuard op xt x y (.agg xs.toArray) (.agg ys.toArray); binOp op xt (.agg xs.toArray) (.agg ys.toArray) : Sem Value).run P w = .ok (.bool r) w) (hx : ev s x = some (.agg cs)) (hy : ev s y = some (.agg ds)) (hc : cs = xs.map .v) (hd' : ds = ys.map .v) (hd : okDst Γ.n dst = true) :
    LS P Γ ⟨dst, .binOp op xt x y yt, ty, pos, after, none⟩ s (rd x (rd y [])) (dst1 dst (.v (.bool r))) [] :=
  ls_pure hd fun t ht μ a w hrel => by
    obtain ⟨h1, ht⟩ := ht.ev hx
    obtain ⟨h2, ht⟩ := ht.ev hy
    have h1 := hrel.ev h1
    have h2 := hrel.ev h2
    simp only [rep] at h1 h2
    have key : ∀ (xs us : List Value), repC t.σ μ w (av t.σ μ Γ.M) (xs.map .v) us → us = xs := by
      intro xs
      induction xs with
      | nil => intro us h; simpa only [List.map_nil, repC] using h
      | cons x xs ih =>
        intro us h
        simp only [List.map_cons, repC, rep] at h
        obtain ⟨u, us', rfl, _, ⟨rfl, _⟩, h5⟩ := h
        rw [ih us' h5]
    obtain ⟨us, e1, r1⟩ := h1
    obtain ⟨vs, e2, r2⟩ := h2
    subst hc hd'
    rw [key xs us r1] at e1
    rw [key ys vs r2] at e2
    refine ⟨.bool r, ?_, by simp only [rep]; exact ⟨trivial, rfl⟩⟩
    have := hrun w
    simp only [execOp, e1, e2, Sem.run_bind, this, Result.andThen, Sem.run_pure]
theorem ls_func {fn : Fn} {first cap : Array Operand} {fs ks : List AV} (hf : evL s first.toList = some fs) (hk : evL s cap.toList = some ks) (hd : okDst Γ.n dst = true) :
    LS P Γ ⟨dst, .makeFunc fn first cap, ty, pos, after, none⟩ s (rdL first.toList (rdL cap.toList [])) (dst1 dst (.clo fn fs ks)) [] :=
  ls_pure hd fun t' ht μ a w hr => by
    obtain ⟨h1, ht⟩ := ht.evL hr hf
    obtain ⟨h2, ht⟩ := ht.evL hr hk
    simp only [rep]
    refine ⟨.func fn (first.map a.eval) (cap.map a.eval), by simp [execOp, Instr.makeFunc], first.toList.map a.eval, cap.toList.map a.eval, ?_, h1, h2⟩
    simp [← Array.toList_map]
/-- A nil slice that will be appended to. -/
theorem a_adopt {c : Code} (t k e size : Nat) (hv : find s.regs t = some (.v (.slice none 0 0))) (hk : find s.σ k = none) (h : AWP P Γ c Q ⟨(t, .own k 0) :: s.regs, (k, .row e size []) :: s.σ⟩) : AWP P Γ c Q s := by
  refine ⟨fun μ a w hr => h.out (setμ μ k (.slice none 0 0)) a w ?_⟩
  have hn := hr.new (w' := w) (v := .slice none 0 0) (o := .row e size []) hk (Below.refl _ w) (by simp [blk]) (fun μ' A hμ hμk hA hst => ⟨[], by rw [hμk]; exact own_nil, by simp [repLL]⟩)
  have h1 := hr.regs t _ hv
  simp only [rep] at h1
  refine ⟨hn.defers, hn.tmps, fun i x hx => ?_, hn.store, hn.gro⟩
  rw [find_cons] at hx
  split at hx
  · rename_i e1; subst e1; injection hx with hx; subst hx
    simp only [rep, find_cons, if_true]
    exact ⟨by rw [h1.1]; rfl, e, size, [], rfl, Nat.le_refl _, fun _ => by rw [setμ_same]; exact h1.1⟩
  · exact hn.regs i x hx
/-- What is known of a call at memory, where only scalars come and go. -/
theorem pc_of_calls {f : FuncId} {xs : List Value} {r : Value} (ok : CallOK P f) (h : ∀ w, Calls P f xs.toArray w fun e w' => e = .returned r ∧ Below w.heap.size w w') (hs : scal r = true) : PC P f (xs.map .v) (.v r) := by
  refine ⟨ok, fun w M μ vs hsr hrep => ?_⟩
  have key : ∀ (xs vs : List Value), repL [] μ w (av [] μ M) (xs.map .v) vs → vs = xs := by
    intro xs
    induction xs with
    | nil => intro vs h; simpa only [List.map_nil, repL] using h
    | cons x xs ih =>
      intro vs h
      simp only [List.map_cons, repL, rep] at h
      obtain ⟨u, us', rfl, ⟨rfl, _⟩, h2⟩ := h
      rw [ih us' h2]
  rw [key xs vs hrep]
  refine (h w).mono ?_
  rintro e w' ⟨rfl, hb⟩
  refine ⟨r, μ, rfl, ⟨fun _ _ h => by simp [find] at h, fun _ _ _ _ _ h => by simp [find] at h, fun b hb' => Nat.lt_of_lt_of_le (hsr.lt b hb') hb.size, fun _ _ _ h => by simp [find] at h⟩, by simp only [rep]; exact ⟨trivial, hs⟩, ⟨hb.os, hb.tape, hb.output, hb.size, fun b hl _ => hb.block b hl, fun _ _ _ h => by simp [find] at h, fun _ _ _ h => by simp [find] at h, fun _ _ _ _ h => by simp [find] at h⟩⟩
/-- A contract as a law's row wants it. -/
theorem PC.law {f : FuncId} {args : List AV} {r : Value} (h : PC P f args (.v r)) {w : World} {vs : List Value} (hrep : repL [] (fun _ => undef) w (fun _ => False) args vs) : Calls P f vs.toArray w fun e w' => e = .returned r ∧ Below w.heap.size w w' := by
  have hs0 : SRel [] (fun _ => undef) w (fun _ => False) := ⟨fun _ _ h => by simp [find] at h, fun _ _ _ _ _ h => by simp [find] at h, fun _ h => h.elim, fun _ _ _ h => by simp [find] at h⟩
  refine (h.ac.out w _ _ vs hs0 (repL_mono (Step.same_world fun b _ hc => ?_) hrep)).mono ?_
  · rcases hc with hc | ⟨_, _, hc, _⟩
    · exact hc
    · simp [find] at hc
  · rintro e w' ⟨y, μ', rfl, _, h2, h3⟩
    simp only [rep] at h2
    exact ⟨by rw [h2.1], ⟨h3.os, h3.tape, h3.output, h3.size, fun k hk => h3.same k hk (fun _ _ h => by simp [find] at h)⟩⟩
/-- A slice that is read, as an abstract value. -/
theorem rep_sl {α : Type} {w : World} {size n c : Nat} {ad : Option Addr} {xs : List α} (cells : α → List Value) (avs : α → List AV) (hr : Reads w w.heap.size size ad n (xs.flatMap cells)) (hn : n = xs.length) (hc : n ≤ c) (hcm : c ≤ 9223372036854775807) (hsz : ∀ x, (cells x).length = size)
    (hel : ∀ x ∈ xs, repC [] (fun _ => undef) w (fun _ => False) (avs x) (cells x)) : rep [] (fun _ => undef) w (fun _ => False) (.sl size (xs.map avs)) (.slice ad n c) := by
  simp only [rep]
  refine ⟨ad, c, xs.flatMap cells, by rw [List.length_map, hn], by rw [List.length_map]; omega, by simpa [maxLen] using hcm, ?_, ?_⟩
  · rcases Nat.eq_zero_or_pos n with h0 | h0
    · left
      have : xs = [] := List.length_eq_zero_iff.1 (by omega)
      subst this; rfl
    · obtain ⟨b, off, e, h1, h2⟩ := hr.2 h0
      exact .inr ⟨b, off, e, fun h => h, h1, h2⟩
  · clear hr hn hc
    induction xs with
    | nil => simp [repLL]
    | cons x xs ih =>
      simp only [List.map_cons, List.flatMap_cons, repLL]
      exact ⟨_, _, rfl, hsz x, hel x (by simp), ih fun y hy => hel y (by simp [hy])⟩
end
end Go.Proofs.Ytimlkhbedhjehaa
