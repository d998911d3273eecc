/-
  Timers, walked over abstract values: a heap's row cloned, and parts of it dropped.
-/
import Derived.Test.YteooamoagkcgnaaTmE

namespace Go.Proofs.Yteooamoagkcgnaa
open Go.RowKit
set_option linter.unusedSimpArgs false
set_option linter.unusedVariables false
theorem repC_flat {σ σ' : Store} {μ μ' : Nat → Value} {w w' : World} {A A' : Nat → Prop} : ∀ {cs : List AV} {us : List Value}, (∀ c ∈ cs, ∃ v, c = AV.v v) → repC σ μ w A cs us → repC σ' μ' w' A' cs us
  | [], us, _, h => by simpa only [repC] using h
  | c :: cs, us, hf, h => by
    simp only [repC] at h ⊢
    obtain ⟨u, us', e, h0, h1, h2⟩ := h
    obtain ⟨v, rfl⟩ := hf c (by simp)
    exact ⟨u, us', e, h0, by simpa only [rep] using h1, repC_flat (fun c hc => hf c (by simp [hc])) h2⟩
theorem repLL_flat {σ σ' : Store} {μ μ' : Nat → Value} {w w' : World} {A A' : Nat → Prop} {size : Nat} : ∀ {xs : List (List AV)} {us : List Value}, (∀ x ∈ xs, ∀ c ∈ x, ∃ v, c = AV.v v) → repLL σ μ w A size xs us → repLL σ' μ' w' A' size xs us
  | [], us, _, h => by simpa only [repLL] using h
  | x :: xs, us, hf, h => by
    simp only [repLL] at h ⊢
    obtain ⟨u, us', e, h0, h1, h2⟩ := h
    exact ⟨u, us', e, h0, repC_flat (hf x (by simp)) h1, repLL_flat (fun x hx => hf x (by simp [hx])) h2⟩
/-- what reads a slice and gives a row of one's own reads a row of one's own too -/
theorem ac_ofSl {P : Program} {f : FuncId} {size size' n : Nat} {e e' : TypeId} {xs ys : List (List AV)} (h : AC P f [.sl size xs] [] (.own 0 n) [(0, .row e' size' ys)]) (hfl : ∀ x ∈ ys, ∀ c ∈ x, ∃ v, c = AV.v v) : AC P f [.own 0 xs.length] [(0, .row e size xs)] (.own 1 n) [(0, .row e size xs), (1, .row e' size' ys)] := by
  refine ⟨h.ok, fun w M μ vs hs hrep => ?_⟩
  have f0 : find [((0 : Nat), SObj.row e size xs)] 0 = some (.row e size xs) := rfl
  obtain ⟨us, h6, h7⟩ := hs.obj 0 _ f0
  obtain ⟨A', c', h8, h9, h10⟩ := own_slice h6
  have hst : Step [] μ w (av [(0, SObj.row e size xs)] μ M) [] μ w (av [] μ M) := Step.same_world fun b hb hc => by
    rcases hc with hc | ⟨_, _, h1, _⟩
    · exact hb (.inl hc)
    · simp [find] at h1
  have hrep2 : repL [] μ w (av [] μ M) [.sl size xs] vs := by
    simp only [repL, rep] at hrep ⊢
    obtain ⟨y, ys', rfl, h1, h2⟩ := hrep
    obtain ⟨_, e1, s1, x1, h3, h4, h5⟩ := live f0 h1
    rw [f0] at h3
    injection h3 with h3; injection h3 with h11 h12 h13; subst h11 h12 h13
    refine ⟨y, ys', rfl, ⟨A', c', us, (h5 rfl).trans h8, h9, by simpa [maxLen] using h10, ?_, repLL_mono hst h7⟩, h2⟩
    rcases h6.2 with ⟨h12, h13⟩ | ⟨g, cap, cur, h12, _, h14, _⟩
    · left
      have := h6.1
      rw [h13, Nat.zero_mul] at this
      exact List.eq_nil_of_length_eq_zero this
    · right
      rw [h8] at h12
      injection h12 with h12; subst h12
      have hb : blk (μ 0) = some g := by rw [h8]; rfl
      refine ⟨g, 0, rfl, fun hc => ?_, Blk.lt (t := e) (cs := cur) h14, fun j u hu => ?_⟩
      · rcases hc with hc | ⟨_, _, h15, _⟩
        · exact hs.dis _ _ _ f0 hb hc
        · simp [find] at h15
      · rw [h8] at h6
        exact own_addr h6 j u hu
  refine (h.out w M μ vs ⟨fun _ _ h => by simp [find] at h, fun _ _ _ _ _ h => by simp [find] at h, hs.lt, fun _ _ _ h => by simp [find] at h⟩ hrep2).mono ?_
  rintro r w' ⟨y, μ', rfl, hs', hry, hg⟩
  have g0 : find [((0 : Nat), SObj.row e' size' ys)] 0 = some (.row e' size' ys) := rfl
  have hnew : ∀ b, blk (μ' 0) = some b → w.heap.size ≤ b := by
    intro b hb
    rcases Nat.lt_or_ge b w.heap.size with hl | hl
    · obtain ⟨_, _, h1, _⟩ := hg.fresh 0 _ b g0 hb hl
      simp [find] at h1
    · exact hl
  have hsame : ∀ b, b < w.heap.size → w'.heap[b]? = w.heap[b]? := fun b hl => hg.same b hl (fun _ _ h => by simp [find] at h)
  obtain ⟨μ'', hμ''⟩ : ∃ μ'' : Nat → Value, μ'' = fun i => if i = 0 then μ 0 else if i = 1 then μ' 0 else μ i := ⟨_, rfl⟩
  have m0 : μ'' 0 = μ 0 := by rw [hμ'']; simp
  have m1 : μ'' 1 = μ' 0 := by rw [hμ'']; simp
  have hf : ∀ i o, find [((0 : Nat), SObj.row e size xs), (1, .row e' size' ys)] i = some o → (i = 0 ∧ o = .row e size xs) ∨ (i = 1 ∧ o = .row e' size' ys) := by
    intro i o h
    rw [find_cons] at h
    split at h
    · rename_i h1; injection h with h; exact .inl ⟨h1.symm, h.symm⟩
    · rw [find_cons] at h
      split at h
      · rename_i h1; injection h with h; exact .inr ⟨h1.symm, h.symm⟩
      · simp [find] at h
  have hf0 : ∀ i o, find [((0 : Nat), SObj.row e size xs)] i = some o → i = 0 ∧ o = .row e size xs := by
    intro i o h
    rw [find_cons] at h
    split at h
    · rename_i h1; injection h with h; exact ⟨h1.symm, h.symm⟩
    · simp [find] at h
  have hgro : Gro [(0, SObj.row e size xs)] μ w [(0, SObj.row e size xs), (1, .row e' size' ys)] μ'' w' := by
    refine ⟨hg.os, hg.tape, hg.output, hg.size, fun b hl _ => hsame b hl, fun i o b h1 h2 hl => ?_, fun i t cs h1 => ?_, fun i e1 s1 x1 h1 => ?_, fun i es h1 => ?_, fun i h1 => ?_⟩
    · rcases hf i o h1 with ⟨rfl, _⟩ | ⟨rfl, _⟩
      · rw [m0] at h2; exact ⟨0, _, f0, h2⟩
      · rw [m1] at h2; have := hnew b h2; omega
    · obtain ⟨_, h⟩ := hf0 i _ h1; cases h
    · obtain ⟨rfl, h⟩ := hf0 i _ h1
      injection h with h2 h3 h4; subst h2 h3 h4
      exact .inr ⟨x1, rfl, Nat.le_refl _, fun _ => m0⟩
    · obtain ⟨_, h⟩ := hf0 i _ h1; cases h
    · obtain ⟨_, h⟩ := hf0 i _ h1; cases h
  refine ⟨y, μ'', rfl, ⟨fun i o h1 => ?_, fun i j o o' b h1 h2 h3 h4 => ?_, hs'.lt, fun i o b h1 h2 => ?_⟩, ?_, hgro⟩
  · have hst2 : Step [(0, SObj.row e size xs)] μ w (av [(0, SObj.row e size xs)] μ M) [(0, SObj.row e size xs), (1, .row e' size' ys)] μ'' w' (av [(0, SObj.row e size xs), (1, .row e' size' ys)] μ'' M) := hgro.step
    rcases hf i o h1 with ⟨rfl, rfl⟩ | ⟨rfl, rfl⟩
    · refine ⟨us, ⟨h6.1, ?_⟩, repLL_mono hst2.pure h7⟩
      rw [m0]
      rcases h6.2 with h11 | ⟨g, cap, cur, h11, h12, h13, h14⟩
      · exact .inl h11
      · exact .inr ⟨g, cap, cur, h11, h12, (hsame g (Blk.lt (t := e) (cs := cur) h13)).trans h13, h14⟩
    · obtain ⟨us', h11, h12⟩ := hs'.obj 0 _ g0
      exact ⟨us', by rw [m1]; exact h11, repLL_flat hfl h12⟩
  · rcases hf i o h1 with ⟨rfl, rfl⟩ | ⟨rfl, rfl⟩ <;> rcases hf j o' h2 with ⟨rfl, rfl⟩ | ⟨rfl, rfl⟩
    · rfl
    · rw [m0] at h3; rw [m1] at h4
      have := hnew b h4
      have := ObjRel.lt hs f0 h3
      omega
    · rw [m0] at h4; rw [m1] at h3
      have := hnew b h3
      have := ObjRel.lt hs f0 h4
      omega
    · rfl
  · rcases hf i o h1 with ⟨rfl, rfl⟩ | ⟨rfl, rfl⟩
    · rw [m0] at h2; exact hs.dis 0 _ b f0 h2
    · rw [m1] at h2; exact hs'.dis 0 _ b g0 h2
  · simp only [rep] at hry ⊢
    obtain ⟨h11, e1, s1, x1, h12, h13, h14⟩ := live g0 hry
    rw [g0] at h12
    injection h12 with h12; injection h12 with q1 q2 q3; subst q1 q2 q3
    exact ⟨h11, .inr ⟨e', size', ys, rfl, h13, fun hn => (h14 hn).trans m1.symm⟩⟩
theorem tm_flat (r : List Tm) : ∀ x ∈ r.map Tm.av, ∀ c ∈ x, ∃ v, c = AV.v v := by
  intro x hx c hc
  obtain ⟨t, _, rfl⟩ := List.mem_map.1 hx
  simp only [Tm.av, List.mem_cons, List.not_mem_nil, or_false] at hc
  rcases hc with rfl | rfl
  · exact ⟨_, rfl⟩
  · exact ⟨_, rfl⟩
section
attribute [local go_sem ↓] Go.wp_at_zero Go.wp_at_succ
theorem info_Tim : (Try.prog.info? 27).map (fun i => (i.zero, i.size, i.bytes)) = some (some (.agg #[.int .i64 0, .string ByteArray.empty]), 2, 24) := by kernel_rfl
set_option maxRecDepth 10000 in
theorem clone_Tim (A : Option Addr) (n c : Nat) (us : List Value) (w : World) (hr : Reads w w.heap.size 2 A n us) (h1 : ∀ u ∈ us, u.oneCell' = true) (hn : n ≤ 1000000) :
    Calls Try.prog 23 #[.slice A n c] w fun e w' => ∃ y, e = .returned y ∧ w'.ownsRow w.heap.size 27 2 y n us ∧ Below w.heap.size w w' := by
  cases A with
  | none =>
    have h0 : n = 0 := by
      rcases Nat.eq_zero_or_pos n with h | h
      · exact h
      · obtain ⟨b, off, h, _⟩ := hr.2 h; cases h
    subst h0
    have hx : us = [] := List.length_eq_zero_iff.1 (by simpa using hr.1)
    subst hx
    have hq := fun w => Lib.run_eql_slice_nil (P := Try.prog) w 22 27 none 0 c 0 0 Try.underlying22
    simp only [Option.isNone_none] at hq
    go_enter Try.func23, Try.ntmps23
    go_wp2
    go_ret
    exact ⟨_, rfl, own_nil, by repeat (first | assumption | exact Below.refl _ _ | refine Gr.drew ?_ | refine Gr.drewN ?_ _ | refine Gr.alloc ?_ _ | refine Gr.set_ ?_ (by first | (simp; done) | assumption | omega | (simp; omega)) _)⟩
  | some ad =>
    have hq := fun w => Lib.run_eql_slice_nil (P := Try.prog) w 22 27 (some ad) n c 0 0 Try.underlying22
    simp only [Option.isNone_some] at hq
    go_enter Try.func23, Try.ntmps23
    go_wp2_with (at_builtin; refine app_any (.tmp 5) (.tmp 6) rfl rfl Try.underlying22 info_Tim rfl (by omega) (by rfl) (own_new (Blk.new _ _ _) (Nat.le_refl _) : World.ownsRow _ w.heap.size _ _ _ _ _) (by rfl) (hr.alloc (Nat.le_refl _) _) h1 n us (Nat.zero_add _) (List.nil_append _) (by omega) (by omega) (by simp) ?_; intro A1 c1 w1 ho1 hg1 h1 h2; have hb := grow_own (a := w) (by repeat (first | assumption | exact Below.refl _ _ | refine Gr.drew ?_ | refine Gr.drewN ?_ _ | refine Gr.alloc ?_ _ | refine Gr.set_ ?_ (by first | (simp; done) | assumption | omega | (simp; omega)) _)) hg1 (own_new (base := w.heap.size) (size := 2) (Blk.new _ _ _) (Nat.le_refl _)) (Nat.le_refl _))
    go_ret
    exact ⟨_, rfl, ho1, hb⟩
end
theorem okC_Tim : CallOK Try.prog 23 := ⟨_, Try.func23, by kernel_rfl, rfl⟩
theorem cl_Tim (xs : List (List AV)) (hx : xs.length ≤ 1000000) : AC Try.prog 23 [.sl 2 xs] [] (.own 0 xs.length) [(0, .row 27 2 xs)] := by
  refine ac_own okC_Tim fun w A vs h => ?_
  simp only [repL, rep] at h
  obtain ⟨y, us', rfl, ⟨ad, c, us, rfl, h1, h2, h3, h4⟩, rfl⟩ := h
  have hr : Reads w w.heap.size 2 ad xs.length us := by
    refine ⟨repLL_len h4, fun hn => ?_⟩
    rcases h3 with rfl | ⟨b, off, e, _, h6, h7⟩
    · have := repLL_len h4
      simp only [List.length_nil] at this
      omega
    · exact ⟨b, off, e, h6, h7⟩
  refine (clone_Tim ad xs.length c us w hr (repLL_one h4) hx).mono ?_
  rintro r w' ⟨y, rfl, h5, h6⟩
  exact ⟨y, us, rfl, h5, h4, h6⟩
theorem a_Clone (r : List Tm) (hm : r.length ≤ 1000) : AC Try.prog 23 [.own 0 (r.map Tm.av).length] (RS r) (.own 1 (r.map Tm.av).length) [(0, .row 27 2 (r.map Tm.av)), (1, .row 27 2 (r.map Tm.av))] :=
  ac_ofSl (cl_Tim (r.map Tm.av) (by rw [List.length_map]; omega)) (tm_flat r)
end Go.Proofs.Yteooamoagkcgnaa
