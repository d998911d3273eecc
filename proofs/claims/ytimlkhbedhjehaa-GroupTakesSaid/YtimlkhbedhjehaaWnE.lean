/-
  Windows that hold a time, walked over abstract values: a function that gives a row.
-/
import Derived.Test.YtimlkhbedhjehaaWnD
import Derived.Test.YtimlkhbedhjehaaGrA
namespace Go.Proofs.Ytimlkhbedhjehaa
open Go.RowKit
set_option linter.unusedSimpArgs false
set_option linter.unusedVariables false
theorem own_base' {w : World} {b b' : Nat} {e : TypeId} {size n : Nat} {v : Value} {xs : List Value} (h : w.ownsRow b e size v n xs) (hb : b' ≤ b) : w.ownsRow b' e size v n xs := by
  refine ⟨h.1, ?_⟩
  rcases h.2 with h2 | ⟨g, cap, cur, h1, h2, h3⟩
  · exact .inl h2
  · exact .inr ⟨g, cap, cur, h1, by omega, h3⟩
/-- of a function that turns a row that it is handed: what it does to memory -/
theorem ac_row1 {P : Program} {f : FuncId} {e size : Nat} {xs ys : List (List AV)} (h : AC P f [.own 0 xs.length] [(0, .row e size xs)] (.tup []) [(0, .row e size ys)]) (hl : ys.length = xs.length) {base : Nat} {w : World} {v : Value} {us : List Value}
    (hv : w.ownsRow base e size v xs.length us) (hr : ∀ μ A, repLL [] μ w A size xs us) :
    Calls P f #[v] w fun r w' => (∃ y, r = .returned y) ∧ (∃ us', w'.ownsRow base e size v ys.length us' ∧ ∃ μ A, repLL [] μ w' A size ys us') ∧ w.grownBy w' v.ownBlock := by
  have hfind : ∀ (zs : List (List AV)) id o, find [((0 : Nat), SObj.row e size zs)] id = some o → id = 0 ∧ o = .row e size zs := by
    intro zs id o hf
    rw [find_cons] at hf
    split at hf
    · rename_i e1; injection hf with hf; exact ⟨e1.symm, hf.symm⟩
    · simp [find] at hf
  have hone : v.oneCell' = true := by
    rcases hv.2 with ⟨h1, _⟩ | ⟨g, cap, cur, h1, _⟩ <;> rw [h1] <;> rfl
  refine (h.out w (fun _ => False) (fun _ => v) [v] ⟨fun id o hf => ?_, fun id id' o o' g h1 h2 _ _ => ?_, fun _ h => h.elim, fun _ _ _ _ _ h => h⟩ ?_).mono ?_
  · obtain ⟨rfl, rfl⟩ := hfind xs id o hf
    exact ⟨us, own_base' hv (Nat.zero_le _), hr _ _⟩
  · rw [(hfind _ _ _ h1).1, (hfind _ _ _ h2).1]
  · simp only [repL, rep, find_cons, if_true]
    exact ⟨v, [], rfl, ⟨hone, e, size, xs, rfl, Nat.le_refl _, fun _ => rfl⟩, rfl⟩
  · rintro r w' ⟨y, μ', rfl, hs', _, hg⟩
    obtain ⟨us', ho', hr'⟩ := hs'.obj 0 _ (by rw [find_cons, if_pos rfl])
    obtain ⟨zs, hz, _, hmu⟩ := hg.row 0 e size xs (by rw [find_cons, if_pos rfl])
    have := (hfind ys 0 _ hz).2
    injection this with _ _ hzs
    subst hzs
    have hmu := hmu hl
    rw [hmu] at ho'
    refine ⟨⟨y, rfl⟩, ⟨us', ?_, μ', _, hr'⟩, ⟨hg.os, hg.tape, hg.output, hg.size, fun k hk hne => hg.same k hk fun id o hf => ?_⟩⟩
    · refine ⟨ho'.1, ?_⟩
      rcases ho'.2 with h2 | ⟨g, cap, cur, h1, h2, h3⟩
      · exact .inl h2
      · refine .inr ⟨g, cap, cur, h1, ?_, h3⟩
        rcases hv.2 with ⟨h4, _⟩ | ⟨g', cap', cur', h4, h5, _⟩
        · rw [h4] at h1; simp at h1
        · rw [h4] at h1; simp at h1; omega
    · rintro e1
      apply hne
      rcases hv.2 with ⟨h4, _⟩ | ⟨g', cap', cur', h4, h5, _⟩
      · rw [h4] at e1; simp [blk] at e1
      · rw [h4] at e1 ⊢; simpa [blk, Value.ownBlock] using e1.symm
theorem repLL_wn {μ : Nat → Value} {w : World} {A : Nat → Prop} : ∀ {ws : List Wn} {us : List Value}, repLL [] μ w A 2 (ws.map Wn.av) us → us = ws.flatMap Wn.cells
  | [], us, h => by simpa [repLL] using h
  | x :: ws, us, h => by
    simp only [List.map_cons, repLL] at h
    obtain ⟨u1, u2, rfl, _, h2, h3⟩ := h
    have e1 : u1 = Wn.cells x := by
      simp only [Wn.av, repC, rep] at h2
      obtain ⟨a, l, rfl, _, ⟨rfl, _⟩, b, m, rfl, _, ⟨rfl, _⟩, rfl⟩ := h2
      rfl
    rw [repLL_wn h3, e1]; rfl
theorem wn_repLL {μ : Nat → Value} {w : World} {A : Nat → Prop} : ∀ ws : List Wn, repLL [] μ w A 2 (ws.map Wn.av) (ws.flatMap Wn.cells)
  | [] => rfl
  | x :: ws => ⟨Wn.cells x, ws.flatMap Wn.cells, rfl, rfl, repC_con (cs := Wn.cells x) rfl, wn_repLL ws⟩
theorem c_Rev (base : Nat) (ws : List Wn) (v : Value) (w : World) (h : RowW base w v ws) (hl : ws.length ≤ 1000000) :
    Calls Try.prog 105 #[v] w fun e w' => (∃ r, e = .returned r) ∧ RowW base w' v ws.reverse ∧ w.grownBy w' v.ownBlock := by
  have hv : w.ownsRow base 37 2 v (ws.map Wn.av).length (ws.flatMap Wn.cells) := by rw [List.length_map]; exact h
  refine (ac_row1 (p_Rev ws hl) (by simp) hv (fun _ _ => wn_repLL ws)).mono ?_
  rintro e w' ⟨h1, ⟨us', h2, μ, A, h3⟩, h4⟩
  refine ⟨h1, ?_, h4⟩
  rw [repLL_wn h3, List.length_map] at h2
  exact h2
theorem c_Of (size slide t : Int) (w : World) (hok : okT size slide t = true) :
    Calls Try.prog 55 #[.int .i64 size, .int .i64 slide, .int .i64 t] w fun e w' => ∃ v, e = .returned v ∧ RowW w.heap.size w' v (winL size slide t) ∧ Below w.heap.size w w' := by
  have hwin : winB size slide = true := by
    unfold okT at hok
    simp only [Bool.and_eq_true] at hok
    exact hok.1
  refine (callsIn_wide (n := 3)).1 (of_in Fence.wide rfl trivial trivial trivial trivial trivial trivial trivial 3 (by omega) size slide t w hok (fun w => ?_) (fun w => callsIn_wide.2 (c_floor t slide w)) (fun k w => callsIn_wide.2 (c_addT k size w)) (fun base ws v w h hl => callsIn_wide.2 (c_Rev base ws v w h hl)))
  refine callsIn_wide.2 ((window_Right size slide w).mono ?_)
  rintro e w' ⟨h1, h2⟩
  exact ⟨by rw [h1, hwin], h2⟩
theorem p_OfNo (size slide t : Int) (hok : okT size slide t = false) : PC Try.prog 55 [.v (.int .i64 size), .v (.int .i64 slide), .v (.int .i64 t)] (.v (.slice none 0 0)) := by
  have h := p_wRight size slide
  cases hw : winB size slide
  · rw [hw] at h
    refine PC.mk (ac_body tab_ok Try.func55 rfl (by kernel_rfl) rfl ?_); intro w0 M μ0; simp only [Try.ntmps55, List.length_cons, List.length_nil, Nat.reduceAdd, Nat.reduceSub, numb]
    repeat' (first | ((first | apply o_do | apply d_do | apply d_yes rfl rfl rfl); first | exact lsc (h) | exact lsq) | first | refine a_seq ?_ | refine a_region ?_ | refine o_nil ?_ | refine a_block ?_ | refine a_ret ?_ | refine a_exit ?_ | refine a_skip ?_ | refine a_draw mixed ?_ | refine d_nil (by kernel_rfl) ?_ | first | refine o_yes rfl rfl rfl ?_ | refine o_no rfl rfl rfl (by decide) ?_ | refine o_no' rfl rfl rfl ?_ | refine a_condT rfl ?_ | refine a_condF rfl ?_ | refine d_no rfl rfl rfl (by decide) ?_ | refine d_no' rfl rfl rfl ?_ | ((first | refine o_split_t rfl rfl rfl (fun hb => ?_) (fun hb => ?_) | refine o_split_f rfl rfl rfl (fun hb => ?_) (fun hb => ?_) | refine a_cond rfl (fun hb => ?_) (fun hb => ?_) | refine d_split rfl rfl (fun hb => ?_) (fun hb => ?_)) <;> (simp only [hb]; try simp only [decide_eq_true_eq, decide_eq_false_iff_not, Bool.not_eq_true', Bool.not_eq_false', Bool.not_eq_true, Bool.not_eq_false, ne_eq, Decidable.not_not] at hb; try (exfalso; first | omega | exact hb trivial))))
    all_goals refine ⟨by first | exact .inr rfl | exact .inl rfl, _, rfl, ?_, by repeat' (first | exact trivial | refine ⟨⟨_, rfl, by first | rfl | (simp [renO, *]; done)⟩, by first | rfl | assumption, ?_⟩)⟩
    all_goals (first | refine FinA.tup ?_ | refine FinA.one ?_); repeat' (first | exact FinBs.nil | exact FinCs.nil | refine FinBs.cons ?_ ?_ | refine FinCs.cons ?_ ?_ | refine FinB.cell (FinC.v ?_) | refine FinB.cell (FinC.own rfl rfl rfl ?_) | exact FinB.cell FinC.nil | refine FinB.cell (FinC.sl ?_) | exact FinB.agg' rfl rfl | exact FinB.cell (FinC.same rfl) | refine FinB.agg ?_ | refine FinC.v ?_ | refine FinC.own rfl rfl rfl ?_ | exact FinC.nil | refine FinC.sl ?_ | exact FinC.same rfl); all_goals try rfl
  · rw [hw] at h
    by_cases h0 : t < 0
    · refine PC.mk (ac_body tab_ok Try.func55 rfl (by kernel_rfl) rfl ?_); intro w0 M μ0; simp only [Try.ntmps55, List.length_cons, List.length_nil, Nat.reduceAdd, Nat.reduceSub, numb]
      repeat' (first | ((first | apply o_do | apply d_do | apply d_yes rfl rfl rfl); first | exact lsc (h) | exact lsq) | first | refine a_seq ?_ | refine a_region ?_ | refine o_nil ?_ | refine a_block ?_ | refine a_ret ?_ | refine a_exit ?_ | refine a_skip ?_ | refine a_draw mixed ?_ | refine d_nil (by kernel_rfl) ?_ | first | refine o_yes rfl rfl rfl ?_ | refine o_no rfl rfl rfl (by decide) ?_ | refine o_no' rfl rfl rfl ?_ | refine a_condT rfl ?_ | refine a_condF rfl ?_ | refine d_no rfl rfl rfl (by decide) ?_ | refine d_no' rfl rfl rfl ?_ | ((first | refine o_split_t rfl rfl rfl (fun hb => ?_) (fun hb => ?_) | refine o_split_f rfl rfl rfl (fun hb => ?_) (fun hb => ?_) | refine a_cond rfl (fun hb => ?_) (fun hb => ?_) | refine d_split rfl rfl (fun hb => ?_) (fun hb => ?_)) <;> (simp only [hb]; try simp only [decide_eq_true_eq, decide_eq_false_iff_not, Bool.not_eq_true', Bool.not_eq_false', Bool.not_eq_true, Bool.not_eq_false, ne_eq, Decidable.not_not] at hb; try (exfalso; first | omega | exact hb trivial))))
      all_goals refine ⟨by first | exact .inr rfl | exact .inl rfl, _, rfl, ?_, by repeat' (first | exact trivial | refine ⟨⟨_, rfl, by first | rfl | (simp [renO, *]; done)⟩, by first | rfl | assumption, ?_⟩)⟩
      all_goals (first | refine FinA.tup ?_ | refine FinA.one ?_); repeat' (first | exact FinBs.nil | exact FinCs.nil | refine FinBs.cons ?_ ?_ | refine FinCs.cons ?_ ?_ | refine FinB.cell (FinC.v ?_) | refine FinB.cell (FinC.own rfl rfl rfl ?_) | exact FinB.cell FinC.nil | refine FinB.cell (FinC.sl ?_) | exact FinB.agg' rfl rfl | exact FinB.cell (FinC.same rfl) | refine FinB.agg ?_ | refine FinC.v ?_ | refine FinC.own rfl rfl rfl ?_ | exact FinC.nil | refine FinC.sl ?_ | exact FinC.same rfl); all_goals try rfl
    · have h1 : 1099511627776 ≤ t := by
        simp [okT, hw] at hok
        omega
      refine PC.mk (ac_body tab_ok Try.func55 rfl (by kernel_rfl) rfl ?_); intro w0 M μ0; simp only [Try.ntmps55, List.length_cons, List.length_nil, Nat.reduceAdd, Nat.reduceSub, numb]
      repeat' (first | ((first | apply o_do | apply d_do | apply d_yes rfl rfl rfl); first | exact lsc (h) | exact lsq) | first | refine a_seq ?_ | refine a_region ?_ | refine o_nil ?_ | refine a_block ?_ | refine a_ret ?_ | refine a_exit ?_ | refine a_skip ?_ | refine a_draw mixed ?_ | refine d_nil (by kernel_rfl) ?_ | first | refine o_yes rfl rfl rfl ?_ | refine o_no rfl rfl rfl (by decide) ?_ | refine o_no' rfl rfl rfl ?_ | refine a_condT rfl ?_ | refine a_condF rfl ?_ | refine d_no rfl rfl rfl (by decide) ?_ | refine d_no' rfl rfl rfl ?_ | ((first | refine o_split_t rfl rfl rfl (fun hb => ?_) (fun hb => ?_) | refine o_split_f rfl rfl rfl (fun hb => ?_) (fun hb => ?_) | refine a_cond rfl (fun hb => ?_) (fun hb => ?_) | refine d_split rfl rfl (fun hb => ?_) (fun hb => ?_)) <;> (simp only [hb]; try simp only [decide_eq_true_eq, decide_eq_false_iff_not, Bool.not_eq_true', Bool.not_eq_false', Bool.not_eq_true, Bool.not_eq_false, ne_eq, Decidable.not_not] at hb; try (exfalso; first | omega | exact hb trivial))))
      all_goals refine ⟨by first | exact .inr rfl | exact .inl rfl, _, rfl, ?_, by repeat' (first | exact trivial | refine ⟨⟨_, rfl, by first | rfl | (simp [renO, *]; done)⟩, by first | rfl | assumption, ?_⟩)⟩
      all_goals (first | refine FinA.tup ?_ | refine FinA.one ?_); repeat' (first | exact FinBs.nil | exact FinCs.nil | refine FinBs.cons ?_ ?_ | refine FinCs.cons ?_ ?_ | refine FinB.cell (FinC.v ?_) | refine FinB.cell (FinC.own rfl rfl rfl ?_) | exact FinB.cell FinC.nil | refine FinB.cell (FinC.sl ?_) | exact FinB.agg' rfl rfl | exact FinB.cell (FinC.same rfl) | refine FinB.agg ?_ | refine FinC.v ?_ | refine FinC.own rfl rfl rfl ?_ | exact FinC.nil | refine FinC.sl ?_ | exact FinC.same rfl); all_goals try rfl
theorem ok_Of : CallOK Try.prog 55 := ⟨_, Try.func55, by kernel_rfl, rfl⟩
theorem p_Of (size slide t : Int) : AC Try.prog 55 [.v (.int .i64 size), .v (.int .i64 slide), .v (.int .i64 t)] [] (.own 0 ((winL size slide t).map Wn.av).length) [(0, .row 37 2 ((winL size slide t).map Wn.av))] := by
  refine ac_own ok_Of fun w A vs h => ?_
  simp only [repL, rep] at h
  obtain ⟨a, l, rfl, ⟨rfl, _⟩, b, m, rfl, ⟨rfl, _⟩, c, n, rfl, ⟨rfl, _⟩, rfl⟩ := h
  cases hok : okT size slide t
  · have e : winL size slide t = [] := by simp [winL, hok]
    rw [e]
    refine ((p_OfNo size slide t hok).law (w := w) (vs := [_, _, _]) ⟨_, _, rfl, by simp [rep, scal], _, _, rfl, by simp [rep, scal], _, _, rfl, by simp [rep, scal], rfl⟩).mono ?_
    rintro e w' ⟨rfl, hb⟩
    exact ⟨_, [], rfl, World.ownsRow_nil _ _ _ _, rfl, hb⟩
  · refine (c_Of size slide t w hok).mono ?_
    rintro e w' ⟨v, rfl, h1, h2⟩
    exact ⟨v, _, rfl, by rw [List.length_map]; exact h1, wn_repLL _, h2⟩
end Go.Proofs.Ytimlkhbedhjehaa
