/-
  Panes, walked over abstract values: a row of one's own, what is due, results, likeness.
-/
import Derived.Test.YthlimflfglkpiaaPnA
import Derived.Test.YthlimflfglkpiaaFoldS
import Derived.Laws.Cover1
namespace Go.Proofs.Ythlimflfglkpiaa
open Go.RowKit
set_option linter.unusedSimpArgs false
set_option linter.unusedVariables false

section
attribute [local go_sem ↓] Go.wp_at_zero Go.wp_at_succ
theorem info_Pane : (Try.prog.info? 45).map (fun i => (i.zero, i.size, i.bytes)) = some (some (.agg #[.int .i64 0, .int .i64 0, .string ByteArray.empty, .int .i64 0, .int .i64 0, .int .i64 0]), 6, 56) := by kernel_rfl
end
theorem own_base {w : World} {b b' : Nat} {e : TypeId} {size n : Nat} {v : Value} {xs : List Value} (h : w.ownsRow b e size v n xs) (hb : b' ≤ b) : w.ownsRow b' e size v n xs := by
  refine ⟨h.1, ?_⟩
  rcases h.2 with h2 | ⟨g, cap, cur, h1, h2, h3⟩
  · exact .inl h2
  · exact .inr ⟨g, cap, cur, h1, by omega, h3⟩
/-- A function that gives a row of its own. -/
theorem ac_own {P : Program} {f : FuncId} {size e : Nat} {xs : List (List AV)} {args : List AV} (ok : CallOK P f)
    (h : ∀ w A vs, repL [] (fun _ => undef) w A args vs → Calls P f vs.toArray w fun r w' => ∃ y us, r = .returned y ∧ w'.ownsRow w.heap.size e size y xs.length us ∧ repLL [] (fun _ => undef) w A size xs us ∧ Below w.heap.size w w') (htag : Nat.blt e 1048576 = true := by rfl) : AC P f args [] (.own 0 xs.length) [(0, .row e size xs)] := by
  refine ⟨ok, fun w M μ vs hs hrep => ?_⟩
  have hnil : ∀ (A A' : Nat → Prop) (μ μ' : Nat → Value), (∀ b, ¬ A b → ¬ A' b) → Step [] μ w A [] μ' w A' := fun A A' μ μ' h => ⟨fun b hb _ => ⟨rfl, h b hb⟩, Nat.le_refl _, fun _ _ _ h => by simp [find] at h, fun _ _ _ _ h => by simp [find] at h, fun _ _ h => by simp [find] at h, fun _ h => by simp [find] at h⟩
  refine (h w M vs (repL_mono (hnil _ _ _ _ fun b hb hc => hb (.inl hc)) hrep)).mono ?_
  rintro r w' ⟨y, us, rfl, ho, hr, hb⟩
  obtain ⟨A', c', hy, _, _⟩ := own_slice ho
  have hblk : ∀ b, blk y = some b → w.heap.size ≤ b ∧ b < w'.heap.size := by
    intro b hyb
    rcases ho.2 with ⟨h1, _⟩ | ⟨g, cap, cur, h1, h2, h3, _⟩
    · rw [h1] at hyb; simp [blk] at hyb
    · rw [h1] at hyb
      simp only [blk, Option.some.injEq] at hyb
      subst hyb
      exact ⟨h2, Blk.lt (t := e) (cs := cur) h3⟩
  have hfind : ∀ id o, find [((0 : Nat), SObj.row e size xs)] id = some o → id = 0 ∧ o = .row e size xs := by
    intro id o hf
    rw [find_cons] at hf
    split at hf
    · rename_i e1; injection hf with hf; exact ⟨e1.symm, hf.symm⟩
    · simp [find] at hf
  refine ⟨y, fun _ => y, rfl, ⟨fun id o hf => ?_, fun id id' o o' g h1 h2 _ _ => ?_, fun b hb' => Nat.lt_of_lt_of_le (hs.lt b hb') hb.size, fun id o b hf hyb hc => ?_⟩, ?_, ?_⟩
  · obtain ⟨rfl, rfl⟩ := hfind id o hf
    refine ⟨us, OwnS.of (own_base ho (Nat.zero_le _)) htag, ?_⟩
    refine repLL_mono (σ := []) (μ := fun _ => undef) (w := w) (A := M) ⟨fun b hb1 hl => ⟨hb.block b hl, fun hc => ?_⟩, hb.size, fun _ _ _ h => by simp [find] at h, fun _ _ _ _ h => by simp [find] at h, fun _ _ h => by simp [find] at h, fun _ h => by simp [find] at h⟩ hr
    rcases hc with hc | ⟨id, o, _, h2⟩
    · exact hb1 hc
    · have := (hblk b h2).1; omega
  · rw [(hfind _ _ h1).1, (hfind _ _ h2).1]
  · have h1 := (hblk b hyb).1
    have h2 := hs.lt b hc
    omega
  · simp only [rep, find_cons, if_true]
    exact ⟨by rw [hy]; rfl, .inr ⟨e, size, xs, rfl, Nat.le_refl _, fun _ => trivial⟩⟩
  · exact ⟨hb.os, hb.tape, hb.output, hb.size, fun b hl _ => hb.block b hl, fun id o b hf hyb hl => by have := (hblk b hyb).1; omega, fun _ _ _ h => by simp [find] at h, fun _ _ _ _ h => by simp [find] at h, fun _ _ h => by simp [find] at h, fun _ h => by simp [find] at h⟩
def fidx (p : Pn → Bool) (xs : List Pn) : Nat := (xs.takeWhile fun x => !p x).length
def ridx (p : Pn → Bool) (xs : List Pn) : Int := if fidx p xs < xs.length then (fidx p xs : Int) else -1
theorem fidx_le (p : Pn → Bool) (xs : List Pn) : fidx p xs ≤ xs.length := (List.takeWhile_sublist _).length_le
theorem fidx_at (p : Pn → Bool) (xs : List Pn) (q : Nat) (h : q < xs.length) (h1 : (xs.take q).all (fun x => !p x) = true) (h2 : p xs[q] = true) : fidx p xs = q := by
  unfold fidx
  have e : xs = xs.take q ++ xs.drop q := (List.take_append_drop q xs).symm
  have e2 : xs.drop q = xs[q] :: xs.drop (q + 1) := List.drop_eq_getElem_cons h
  rw [e, List.takeWhile_append_of_pos (by intro a ha; exact List.all_eq_true.1 h1 a ha), e2, List.takeWhile_cons_of_neg (by simp [h2])]
  simp
  omega
theorem fidx_all (p : Pn → Bool) (xs : List Pn) (h1 : xs.all (fun x => !p x) = true) : fidx p xs = xs.length := by
  unfold fidx
  have := List.takeWhile_append_of_pos (l₁ := xs) (l₂ := []) (p := fun x : Pn => !p x) (by intro a ha; exact List.all_eq_true.1 h1 a ha)
  rw [List.append_nil] at this
  rw [this]; simp
theorem ridx_at {p : Pn → Bool} {xs : List Pn} {q : Nat} (h : q < xs.length) (h1 : (xs.take q).all (fun x => !p x) = true) (h2 : p xs[q] = true) : ridx p xs = (q : Int) := by
  unfold ridx
  rw [fidx_at p xs q h h1 h2, if_pos h]
theorem ridx_all {p : Pn → Bool} {xs : List Pn} (h1 : xs.all (fun x => !p x) = true) : ridx p xs = -1 := by
  unfold ridx
  rw [fidx_all p xs h1, if_neg (by omega)]
set_option maxHeartbeats 1000000 in
theorem p_Index (f : FuncId) (p : Pn → Bool) (bt : Nat) (cs : List AV) (hcs : (cs.all (closC [(0, .box bt cs)])) = true) (hren : ∀ ρ, cs.map (renC ρ) = cs)
    (hclo : ∀ lo hi k n a b, AC Try.prog f [.agg [.v (.int .i64 lo), .v (.int .i64 hi), .v (.string k), .v (.int .i64 n), .v (.int .i64 a), .v (.int .i64 b)], .ref 0 0] [(0, .box bt cs)] (.v (.bool (p ⟨lo, hi, k, n, a, b⟩))) [(0, .box bt cs)])
    (xs : List Pn) (hx : xs.length ≤ 9223372036854775807) : AC Try.prog 48 [.sl 6 (xs.map Pn.av), .clo (.func f) [] [.ref 0 0]] [(0, .box bt cs)] (.v (.int .i64 (ridx p xs))) [(0, .box bt cs)] := by
  refine (ac_body tab_ok Try.func48 rfl (by kernel_rfl) rfl ?_); intro w0 M μ0; simp only [Try.ntmps48, List.length_cons, List.length_nil, Nat.reduceAdd, Nat.reduceSub, numb]
  repeat (first | (apply o_do; exact lsq) | first | refine a_seq ?_ | refine a_region ?_ | refine o_nil ?_ | refine a_block ?_ | refine a_ret ?_ | refine a_exit ?_ | refine a_skip ?_ | refine a_draw mixed ?_ | refine d_nil (by kernel_rfl) ?_)
  refine a_loop (X := {q : Nat // q ≤ xs.length ∧ (xs.take q).all (fun x => !p x) = true}) (fun x => ⟨[(0, .sl 6 (xs.map Pn.av)), (1, .clo (.func f) [] [.ref 0 0]), (7, .v (.int .i64 xs.length)), (8, .v (.int .i64 x.1))], [(0, .box bt cs)]⟩) (fun x => xs.length - x.1) ⟨0, Nat.zero_le _, by simp⟩ ?_ ?_
  · refine ⟨by repeat' (first | exact trivial | exact FinA.one (FinB.cell (FinC.same rfl)) | exact FinA.one (FinB.cell FinC.nil) | exact FinA.bound rfl | exact FinA.one (FinB.cell (FinC.own rfl rfl rfl rfl)) | exact FinA.one (FinB.cell (FinC.v (by first | rfl | (simp)))) | exact FinA.one (FinB.cell (FinC.ow rfl (by first | rfl | (simp)))) | exact FinA.one (FinB.agg' rfl rfl) | refine ⟨⟨_, rfl, ?_⟩, ?_⟩), by repeat' (first | exact trivial | refine ⟨⟨_, rfl, by first | rfl | (simp; done) | (simp [renO, *]; done)⟩, by first | rfl | assumption, ?_⟩), rfl⟩
  rintro ⟨q, hq, hall⟩
  dsimp only
  by_cases hlt : q < xs.length
  · have hel : (xs.map Pn.av)[q]? = some (Pn.av xs[q]) := by simp [hlt]
    have hsn := take_snoc xs q hlt
    have hat := fun h => ridx_at (p := p) hlt hall h
    generalize xs[q] = x at *
    repeat' (first | ((first | apply o_do | apply d_do | apply d_yes rfl rfl rfl); first | exact ls_indexAddr_sl tab_ok rfl rfl rfl rfl (by assumption) rfl | exact ls_callA [0] 1 (hclo _ _ _ _ _ _) rfl rfl (by (repeat' (first | exact NilL.nil | refine NilL.cons Nil.same ?_ | refine NilL.cons Nil.nil ?_ | refine NilL.cons (Nil.agg ?_) ?_ | exact Nil1s.nil | refine Nil1s.cons Nil1.same ?_ | refine Nil1s.cons Nil1.nil ?_)); first | done | fail) rfl (by repeat' (first | exact trivial | refine ⟨⟨_, rfl, by first | rfl | (simp [renO, *]; done)⟩, ?_⟩)) (by first | rfl | simp [closO, *]) rfl rfl rfl rfl (by first | rfl | simp [closO, *]) rfl | exact lsq) | refine a_seq ?_ | refine a_region ?_ | refine o_nil ?_ | refine a_block ?_ | refine a_ret ?_ | refine a_exit ?_ | refine a_skip ?_ | refine a_draw mixed ?_ | refine d_nil (by kernel_rfl) ?_ | refine o_yes rfl rfl rfl ?_ | refine o_no rfl rfl rfl (by decide) ?_ | refine o_no' rfl rfl rfl ?_ | refine a_condT rfl ?_ | refine a_condF rfl ?_ | refine d_no rfl rfl rfl (by decide) ?_ | refine d_no' rfl rfl rfl ?_ | (refine wq2 (fun hb => ?_) (fun hb => ?_) <;> (simp only [hb]; try simp only [hbs, ne_eq] at hb; try (exfalso; first | omega | exact hb trivial))) | fail)
    · refine ⟨by first | exact .inr rfl | exact .inl rfl, _, rfl, ?_, by repeat' (first | exact trivial | refine ⟨⟨_, rfl, by first | rfl | (simp [renO, *]; done)⟩, by first | rfl | assumption, ?_⟩)⟩
      (first | refine FinA.tup ?_ | refine FinA.one ?_); repeat' (first | exact FinBs.nil | exact FinCs.nil | refine FinBs.cons ?_ ?_ | refine FinCs.cons ?_ ?_ | refine FinB.cell (FinC.v ?_) | refine FinB.cell (FinC.own rfl rfl rfl ?_) | exact FinB.cell FinC.nil | refine FinB.cell (FinC.sl ?_) | exact FinB.agg' rfl rfl | exact FinB.cell (FinC.same rfl) | refine FinB.agg ?_ | refine FinC.v ?_ | refine FinC.own rfl rfl rfl ?_ | exact FinC.nil | refine FinC.sl ?_ | exact FinC.same rfl); all_goals try rfl
      rw [hat hb]
    · refine ⟨⟨q + 1, by omega, by rw [hsn, List.all_append, hall]; simp; exact hb⟩, by dsimp only; omega, ?_⟩
      refine ⟨by repeat' (first | exact trivial | exact FinA.one (FinB.cell (FinC.same rfl)) | exact FinA.one (FinB.cell FinC.nil) | exact FinA.bound rfl | exact FinA.one (FinB.cell (FinC.own rfl rfl rfl rfl)) | exact FinA.one (FinB.cell (FinC.v (by first | rfl | (simp)))) | exact FinA.one (FinB.cell (FinC.ow rfl (by first | rfl | (simp)))) | exact FinA.one (FinB.agg' rfl rfl) | refine ⟨⟨_, rfl, ?_⟩, ?_⟩), by repeat' (first | exact trivial | refine ⟨⟨_, rfl, by first | rfl | (simp; done) | (simp [renO, *]; done)⟩, by first | rfl | assumption, ?_⟩), rfl⟩
  · repeat' (first | ((first | apply o_do | apply d_do | apply d_yes rfl rfl rfl); exact lsq) | refine a_seq ?_ | refine a_region ?_ | refine o_nil ?_ | refine a_block ?_ | refine a_ret ?_ | refine a_exit ?_ | refine a_skip ?_ | refine a_draw mixed ?_ | refine d_nil (by kernel_rfl) ?_ | refine o_yes rfl rfl rfl ?_ | refine o_no rfl rfl rfl (by decide) ?_ | refine o_no' rfl rfl rfl ?_ | refine a_condT rfl ?_ | refine a_condF rfl ?_ | refine d_no rfl rfl rfl (by decide) ?_ | refine d_no' rfl rfl rfl ?_ | (refine wq2 (fun hb => ?_) (fun hb => ?_) <;> (simp only [hb]; try simp only [hbs, ne_eq] at hb; try (exfalso; first | omega | exact hb trivial))) | fail)
    refine ⟨by first | exact .inr rfl | exact .inl rfl, _, rfl, ?_, by repeat' (first | exact trivial | refine ⟨⟨_, rfl, by first | rfl | (simp [renO, *]; done)⟩, by first | rfl | assumption, ?_⟩)⟩
    (first | refine FinA.tup ?_ | refine FinA.one ?_); repeat' (first | exact FinBs.nil | exact FinCs.nil | refine FinBs.cons ?_ ?_ | refine FinCs.cons ?_ ?_ | refine FinB.cell (FinC.v ?_) | refine FinB.cell (FinC.own rfl rfl rfl ?_) | exact FinB.cell FinC.nil | refine FinB.cell (FinC.sl ?_) | exact FinB.agg' rfl rfl | exact FinB.cell (FinC.same rfl) | refine FinB.agg ?_ | refine FinC.v ?_ | refine FinC.own rfl rfl rfl ?_ | exact FinC.nil | refine FinC.sl ?_ | exact FinC.same rfl); all_goals try rfl
    obtain rfl : q = xs.length := by omega
    rw [List.take_length] at hall
    rw [ridx_all hall]
theorem p_Contains (f : FuncId) (p : Pn → Bool) (bt : Nat) (cs : List AV) (hcs : (cs.all (closC [(0, .box bt cs)])) = true) (hren : ∀ ρ, cs.map (renC ρ) = cs)
    (hclo : ∀ lo hi k n a b, AC Try.prog f [.agg [.v (.int .i64 lo), .v (.int .i64 hi), .v (.string k), .v (.int .i64 n), .v (.int .i64 a), .v (.int .i64 b)], .ref 0 0] [(0, .box bt cs)] (.v (.bool (p ⟨lo, hi, k, n, a, b⟩))) [(0, .box bt cs)])
    (xs : List Pn) (hx : xs.length ≤ 9223372036854775807) : AC Try.prog 32 [.sl 6 (xs.map Pn.av), .clo (.func f) [] [.ref 0 0]] [(0, .box bt cs)] (.v (.bool (decide (0 ≤ ridx p xs)))) [(0, .box bt cs)] := by
  refine (ac_body tab_ok Try.func32 rfl (by kernel_rfl) rfl ?_); intro w0 M μ0; simp only [Try.ntmps32, List.length_cons, List.length_nil, Nat.reduceAdd, Nat.reduceSub, numb]
  repeat' (first | ((first | apply o_do | apply d_do | apply d_yes rfl rfl rfl); first | exact ls_callA [0] 1 (p_Index f p bt cs hcs hren hclo xs hx) rfl rfl (by (repeat' (first | exact NilL.nil | refine NilL.cons Nil.same ?_ | refine NilL.cons Nil.nil ?_ | refine NilL.cons (Nil.agg ?_) ?_ | exact Nil1s.nil | refine Nil1s.cons Nil1.same ?_ | refine Nil1s.cons Nil1.nil ?_)); first | done | fail) rfl (by repeat' (first | exact trivial | refine ⟨⟨_, rfl, by first | rfl | (simp [renO, *]; done)⟩, ?_⟩)) (by first | rfl | simp [closO, *]) rfl rfl rfl rfl (by first | rfl | simp [closO, *]) rfl | exact lsq) | refine a_seq ?_ | refine a_region ?_ | refine o_nil ?_ | refine a_block ?_ | refine a_ret ?_ | refine a_exit ?_ | refine a_skip ?_ | refine a_draw mixed ?_ | refine d_nil (by kernel_rfl) ?_ | refine o_yes rfl rfl rfl ?_ | refine o_no rfl rfl rfl (by decide) ?_ | refine o_no' rfl rfl rfl ?_ | refine a_condT rfl ?_ | refine a_condF rfl ?_ | refine d_no rfl rfl rfl (by decide) ?_ | refine d_no' rfl rfl rfl ?_ | (refine wq2 (fun hb => ?_) (fun hb => ?_) <;> (simp only [hb]; try simp only [hbs, ne_eq] at hb; try (exfalso; first | omega | exact hb trivial))) | fail)
  refine ⟨by first | exact .inr rfl | exact .inl rfl, _, rfl, ?_, by repeat' (first | exact trivial | refine ⟨⟨_, rfl, by first | rfl | (simp [renO, *]; done)⟩, by first | rfl | assumption, ?_⟩)⟩
  (first | refine FinA.tup ?_ | refine FinA.one ?_); repeat' (first | exact FinBs.nil | exact FinCs.nil | refine FinBs.cons ?_ ?_ | refine FinCs.cons ?_ ?_ | refine FinB.cell (FinC.v ?_) | refine FinB.cell (FinC.own rfl rfl rfl ?_) | exact FinB.cell FinC.nil | refine FinB.cell (FinC.sl ?_) | exact FinB.agg' rfl rfl | exact FinB.cell (FinC.same rfl) | refine FinB.agg ?_ | refine FinC.v ?_ | refine FinC.own rfl rfl rfl ?_ | exact FinC.nil | refine FinC.sl ?_ | exact FinC.same rfl); all_goals try rfl
end Go.Proofs.Ythlimflfglkpiaa
