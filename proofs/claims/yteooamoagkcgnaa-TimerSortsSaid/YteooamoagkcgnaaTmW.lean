/-
  Timers: the law TimerSorts walked.
-/
import Derived.Test.YteooamoagkcgnaaTmV
import Derived.Test.YteooamoagkcgnaaTmDr
import Derived.Test.YteooamoagkcgnaaAvG
namespace Go.Proofs.Yteooamoagkcgnaa
open Go.RowKit
set_option linter.unusedSimpArgs false
set_option linter.unusedVariables false
theorem c_right {ms : Cnt} {x : Tm} {n : Int} (h : ∀ p ∈ ms, p.1.right) (hx : x.right) : ∀ p ∈ cSet ms x n, p.1.right := by
  intro p hp
  unfold cSet at hp
  rcases List.mem_or_eq_of_mem_set hp with h1 | h1
  · unfold cMake at h1
    split at h1
    · exact h p h1
    · rcases List.mem_append.1 h1 with h2 | h2
      · exact h p h2
      · rw [List.mem_singleton] at h2; subst h2; exact hx
  · subst h1; exact hx
theorem c_len {ms : Cnt} {x : Tm} {n : Int} (h : cIdx ms x < ms.length) : (cSet ms x n).length = ms.length := by
  unfold cSet cMake
  rw [if_pos h, List.length_set]
theorem make_set (ms : Cnt) (x : Tm) : cMake ms x = cSet ms x (cAt ms x) := by
  unfold cSet
  have h := make_at ms x
  apply List.ext_getElem?
  intro i
  rw [List.getElem?_set]
  split
  · rename_i e
    subst e
    rw [h, if_pos (List.getElem?_eq_some_iff.1 h).1]
  · rfl
structure SoA (l : List Tm) (q : Nat) (r : List Tm) (ms : Cnt) : Prop where
  hq : q ≤ l.length
  hi : Inv (tSort (l.take q)) r
  hc : Counts ms (l.take q)
  hn : ms.length ≤ q
  hr : ∀ p ∈ ms, p.1.right
structure SoB (l : List Tm) (q : Nat) (r rem : List Tm) (ms : Cnt) (last : Tm) : Prop where
  hq : rem.length + q = l.length
  hi : Inv rem r
  hc : Counts ms rem
  hr : ∀ p ∈ ms, p.1.right
  hx : ∀ y ∈ rem, y.right
  ha : 0 < q → ∀ y ∈ rem, tLt y last = false
theorem SoA.start (l : List Tm) : SoA l 0 [] [] := ⟨Nat.zero_le _, inv_nil, counts_nil, Nat.le_refl _, by simp⟩
theorem SoA.next {l r : List Tm} {q : Nat} {ms : Cnt} {x : Tm} (h : SoA l q r ms) (hl : l.length ≤ 300) (hlt : q < l.length) (hx : l.take (q + 1) = l.take q ++ [x]) (hr : x.right) : SoA l (q + 1) (hpush tLt tmZ r x) (cSet ms x (cAt ms x + 1)) := by
  refine ⟨hlt, ?_, ?_, ?_, c_right h.hr hr⟩
  · rw [hx, tSort_snoc]; exact h.hi.push x
  · rw [hx]; exact h.hc.up x (by have := h.hn; omega)
  · have := set_len ms x (cAt ms x + 1); have := h.hn; omega
theorem SoB.start {l r : List Tm} {ms : Cnt} (h : SoA l l.length r ms) (hl : ∀ x ∈ l, x.right) : SoB l 0 r (tSort l) ms tmZ := by
  have hi := h.hi
  have hc := h.hc
  rw [List.take_length] at hi hc
  exact ⟨by rw [tSort_len]; exact Nat.add_zero _, hi, hc.perm (tSort_sorted l).2.symm, h.hr, fun y hy => hl y ((tSort_sorted l).2.subset hy), fun h => absurd h (Nat.lt_irrefl 0)⟩
theorem SoB.next {l r rem : List Tm} {q : Nat} {ms : Cnt} {last a : Tm} (h : SoB l q r (a :: rem) ms last) : SoB l (q + 1) (hpop tLt tmZ r) rem (cSet ms a (cAt ms a - 1)) a := by
  have hth := h.hc.there
  refine ⟨by have := h.hq; simp at this; omega, h.hi.pop.2, h.hc.down (by rw [c_len hth.1]; exact h.hc.len), c_right h.hr (h.hx a (by simp)), fun y hy => h.hx y (by simp [hy]), fun _ y hy => ?_⟩
  exact (List.pairwise_cons.1 h.hi.so).1 y hy
theorem cAt_small {ms : Cnt} {l : List Tm} (h : Counts ms l) (hl : l.length ≤ 300) (x : Tm) : 0 ≤ cAt ms x ∧ cAt ms x ≤ 300 := by
  rw [h.at']
  have := List.count_le_length (a := x) (l := l)
  omega
theorem kt_conv (x : Tm) : conv (.agg x.av) = some (keyT x) := rfl
theorem z_int (w : World) : (zeroValue 3).run Try.prog w = .ok (.int .i64 0) w := by go_simp

/-- what the counting map's steps say, at once -/
structure CF (ms : Cnt) (x : Tm) : Prop where
  kl : ∃ kl, keyOf Try.prog 27 (keyT x) = some kl
  hks : ∀ p ∈ ms.map cEnt, ∃ lt, keyOf Try.prog 27 p.1 = some lt
  hks' : ∀ p ∈ (cMake ms x).map cEnt, ∃ lt, keyOf Try.prog 27 p.1 = some lt
  hu : cUniq ms
  hu' : cUniq (cMake ms x)
  ha : cAt (cMake ms x) x = cAt ms x
theorem CF.of {ms : Cnt} {l : List Tm} {x : Tm} (hc : Counts ms l) (hr : ∀ p ∈ ms, p.1.right) (hx : x.right) : CF ms x := by
  have hm := make_set ms x
  have hu' : cUniq (cMake ms x) := by rw [hm]; exact set_uniq hc.uniq _ _
  refine ⟨tim_key hx, c_keys hc hr, ?_, hc.uniq, hu', ?_⟩
  · intro p hp
    obtain ⟨q, hq, rfl⟩ := List.mem_map.1 hp
    exact tim_key (by rw [hm] at hq; exact c_right hr hx q hq)
  · rw [hm, set_at hc.uniq, if_pos rfl]
section
variable {Γ : Ctx} {s : ASt} {dst : Option Tmp} {ty yt : TypeId} {pos : String} {after : Array Edge} {m x y st : Operand} {id : Nat}
theorem ls_cl {ms : Cnt} {t : Tm} (h : CF ms t) (hm : ev s m = some (.mp id)) (hx : ev s x = some (.agg t.av)) (hσ : find s.σ id = some (.mp (ms.map cEnt))) (hd : okDst Γ.n dst = true) :
    LS Try.prog Γ ⟨dst, .lookup 25 m x false, ty, pos, after, none⟩ s (rd m (rd x [.obj id])) (dst1 dst (.v (.int .i64 (cAt ms t)))) [] := by
  obtain ⟨kl, hkl⟩ := h.kl
  obtain ⟨k1, k2⟩ := c_look ms h.hu t
  exact ls_lookup (key := keyT t) (r := .int .i64 (cAt ms t)) (z := .int .i64 0) (b := decide (cIdx ms t < ms.length)) tim_law false hm hx hσ Try.underlying25 (kt_conv t) z_int rfl hkl h.hks k1 k2 hd
theorem ls_cl' {ms : Cnt} {t : Tm} (h : CF ms t) (hm : ev s m = some (.mp id)) (hx : ev s x = some (.agg t.av)) (hσ : find s.σ id = some (.mp ((cMake ms t).map cEnt))) (hd : okDst Γ.n dst = true) :
    LS Try.prog Γ ⟨dst, .lookup 25 m x false, ty, pos, after, none⟩ s (rd m (rd x [.obj id])) (dst1 dst (.v (.int .i64 (cAt ms t)))) [] := by
  obtain ⟨kl, hkl⟩ := h.kl
  obtain ⟨k1, k2⟩ := c_look (cMake ms t) h.hu' t
  rw [h.ha] at k1 k2
  exact ls_lookup (key := keyT t) (r := .int .i64 (cAt ms t)) (z := .int .i64 0) (b := decide (cIdx (cMake ms t) t < (cMake ms t).length)) tim_law false hm hx hσ Try.underlying25 (kt_conv t) z_int rfl hkl h.hks' k1 k2 hd
theorem ls_cm {ms : Cnt} {t : Tm} (h : CF ms t) (hm : ev s m = some (.mp id)) (hx : ev s x = some (.agg t.av)) (hσ : find s.σ id = some (.mp (ms.map cEnt))) (hd : okDst Γ.n dst = true) :
    LS Try.prog Γ ⟨dst, .mapEntry 25 m x, ty, pos, after, none⟩ s (rd m (rd x [.obj id])) (dst1 dst (.tup [.v (.int .i64 (cAt ms t)), .v (.int .i64 (cIdx ms t))])) [(id, .mp ((cMake ms t).map cEnt))] := by
  obtain ⟨kl, hkl⟩ := h.kl
  obtain ⟨k3, k4⟩ := c_make ms h.hu t
  exact ls_mapEntry (key := keyT t) (r := .int .i64 (cAt ms t)) (z := .int .i64 0) (i := cIdx ms t) (es' := (cMake ms t).map cEnt) tim_law hm hx hσ Try.underlying25 (kt_conv t) z_int rfl hkl h.hks k3 k4 hd
theorem ls_ce {ms : Cnt} {t : Tm} {n : Int} (hm : ev s m = some (.mp id)) (hst : ev s st = some (.v (.int .i64 (cIdx ms t)))) (hy : ev s y = some (.v (.int .i64 n))) (hσ : find s.σ id = some (.mp ((cMake ms t).map cEnt))) (hdst : dst = none) :
    LS Try.prog Γ ⟨dst, .entryStore 25 m st y, ty, pos, after, none⟩ s (rd m (rd st (rd y [.obj id]))) [] [(id, .mp ((cSet ms t n).map cEnt))] := by
  have h := ls_entryStore (P := Try.prog) (Γ := Γ) (s := s) (dst := dst) (ty := ty) (pos := pos) (after := after) (t := 25) (k0 := keyT t) hm hst hy hσ rfl (c_there ms t) hdst
  rw [c_set] at h
  exact h
end
set_option maxHeartbeats 16000000 in
set_option maxRecDepth 20000 in
theorem p_sorts (xs : List Tm) (hx : xs.length ≤ 9223372036854775807) (hr : ∀ x ∈ xs, x.right) : PC Try.prog 3 [.sl 2 (xs.map Tm.av)] (.v (.bool true)) := by
  have hn : (xs.map Tm.av).length = xs.length := List.length_map _
  obtain ⟨l, hl, hlr, hcase⟩ : ∃ l : List Tm, l.length ≤ 300 ∧ (∀ x ∈ l, x.right) ∧ ((300 < xs.length ∧ (xs.map Tm.av).take 300 = l.map Tm.av) ∨ (¬ 300 < xs.length ∧ l = xs)) := by
    by_cases h : 300 < xs.length
    · exact ⟨xs.take 300, by rw [List.length_take]; omega, fun x hx => hr x (List.mem_of_mem_take hx), .inl ⟨h, by rw [List.map_take]⟩⟩
    · exact ⟨xs, by omega, hr, .inr ⟨h, rfl⟩⟩
  have hnl : (l.map Tm.av).length = l.length := List.length_map _
  have hN := a_New2
  unfold HS at hN
  rcases hcase with ⟨h1, h2⟩ | ⟨h1, rfl⟩
  all_goals
    refine PC.mk (ac_body tab_ok Try.func3 rfl (by kernel_rfl) rfl ?_); intro w0 M μ0; simp only [Try.ntmps3, List.length_cons, List.length_nil, Nat.reduceAdd, Nat.reduceSub, numb]
    repeat' (first | ((first | apply o_do | apply d_do | apply d_yes rfl rfl rfl); first | exact ls_slice_to (n := 300) tab_ok rfl rfl rfl rfl (by rw [hn]; omega) rfl | exact ls_callA [] 0 hN rfl rfl (by (repeat' (first | exact NilL.nil | refine NilL.cons Nil.same ?_ | refine NilL.cons Nil.nil ?_ | refine NilL.cons (Nil.agg ?_) ?_ | exact Nil1s.nil | refine Nil1s.cons Nil1.same ?_ | refine Nil1s.cons Nil1.nil ?_)); first | done | fail) rfl (by repeat' (first | exact trivial | refine ⟨⟨_, rfl, by first | rfl | (simp [renO, *]; done)⟩, ?_⟩)) (by first | rfl | simp [closO, *]) rfl rfl rfl rfl (by first | rfl | simp [closO, *]) rfl | exact ls_eqRef uH rfl rfl rfl | exact ls_makeMap (k := 2) rfl rfl | exact lsq) | refine a_seq ?_ | refine a_region ?_ | refine o_nil ?_ | refine a_block ?_ | refine a_ret ?_ | refine a_exit ?_ | refine a_skip ?_ | refine a_drawA mixed ?_ | refine d_nil (by kernel_rfl) ?_ | refine o_yes rfl rfl rfl ?_ | refine o_no rfl rfl rfl (by decide) ?_ | refine o_no' rfl rfl rfl ?_ | refine a_condT rfl ?_ | refine a_condF rfl ?_ | refine d_no rfl rfl rfl (by decide) ?_ | refine d_no' rfl rfl rfl ?_ | (refine wq2 (fun hb => ?_) (fun hb => ?_) <;> (simp only [hb]; try simp only [hbs, ne_eq] at hb; try (exfalso; first | omega | exact hb trivial))) | fail)
    try simp only [h2]
    try repeat' (first | ((first | apply o_do | apply d_do | apply d_yes rfl rfl rfl); first | exact ls_callA [] 0 hN rfl rfl (by (repeat' (first | exact NilL.nil | refine NilL.cons Nil.same ?_ | refine NilL.cons Nil.nil ?_ | refine NilL.cons (Nil.agg ?_) ?_ | exact Nil1s.nil | refine Nil1s.cons Nil1.same ?_ | refine Nil1s.cons Nil1.nil ?_)); first | done | fail) rfl (by repeat' (first | exact trivial | refine ⟨⟨_, rfl, by first | rfl | (simp [renO, *]; done)⟩, ?_⟩)) (by first | rfl | simp [closO, *]) rfl rfl rfl rfl (by first | rfl | simp [closO, *]) rfl | exact ls_eqRef uH rfl rfl rfl | exact ls_makeMap (k := 2) rfl rfl | exact lsq) | refine a_seq ?_ | refine a_region ?_ | refine o_nil ?_ | refine a_block ?_ | refine a_ret ?_ | refine a_exit ?_ | refine a_skip ?_ | refine a_drawA mixed ?_ | refine d_nil (by kernel_rfl) ?_ | refine o_yes rfl rfl rfl ?_ | refine o_no rfl rfl rfl (by decide) ?_ | refine o_no' rfl rfl rfl ?_ | refine a_condT rfl ?_ | refine a_condF rfl ?_ | refine d_no rfl rfl rfl (by decide) ?_ | refine d_no' rfl rfl rfl ?_ | (refine wq2 (fun hb => ?_) (fun hb => ?_) <;> (simp only [hb]; try simp only [hbs, ne_eq] at hb; try (exfalso; first | omega | exact hb trivial))) | fail)
    refine a_loop (X := {x : Nat × List Tm × Cnt // SoA l x.1 x.2.1 x.2.2}) (fun x => ⟨[(0, .sl 2 (l.map Tm.av)), (3, .ref 0 0), (4, .mp 2), (22, .sl 2 (l.map Tm.av)), (23, .v (.int .i64 l.length)), (24, .v (.int .i64 x.1.1))], [(0, .box 50 [.own 1 (x.1.2.1.map Tm.av).length]), (1, .row 27 2 (x.1.2.1.map Tm.av)), (2, .mp (x.1.2.2.map cEnt))]⟩) (fun x => l.length - x.1.1) ⟨(0, [], []), SoA.start l⟩ ?_ ?_
    · refine ⟨by repeat' (first | exact trivial | exact FinA.one (FinB.cell (FinC.same rfl)) | exact FinA.one (FinB.cell FinC.nil) | exact FinA.bound rfl | exact FinA.one (FinB.cell (FinC.own rfl rfl rfl rfl)) | exact FinA.one (FinB.cell (FinC.v (by first | rfl | (simp)))) | exact FinA.one (FinB.cell (FinC.ow rfl (by first | rfl | (simp)))) | exact FinA.one (FinB.agg' rfl rfl) | refine ⟨⟨_, rfl, ?_⟩, ?_⟩), by repeat' (first | exact trivial | refine ⟨⟨_, rfl, by first | rfl | (simp; done) | (simp [renO, *]; done)⟩, by first | rfl | assumption, ?_⟩), rfl⟩
    rintro ⟨⟨q, r, ms⟩, hA⟩
    dsimp only at hA ⊢
    by_cases hlt : q < l.length
    · have hel : (l.map Tm.av)[q]? = some (Tm.av l[q]) := by simp [hlt]
      have hsn := take_snoc l q hlt
      have hxr := hlr _ (List.getElem_mem hlt)
      have hB := fun h => hA.next hl hlt h hxr
      generalize l[q] = x at *
      have hB := hB hsn
      have hrl : r.length ≤ 900 := by rw [hA.hi.len, tSort_len, List.length_take]; omega
      have hP := a_HPush r x hrl
      have hF := CF.of hA.hc hA.hr hxr
      have k7 := cAt_small hA.hc (by rw [List.length_take]; omega) x
      unfold HS at hP
      repeat' (first | ((first | apply o_do | apply d_do | apply d_yes rfl rfl rfl); first | exact ls_indexAddr_sl tab_ok rfl rfl rfl rfl hel rfl | exact ls_callA [0, 1] 10 hP rfl rfl (by (repeat' (first | exact NilL.nil | refine NilL.cons Nil.same ?_ | refine NilL.cons Nil.nil ?_ | refine NilL.cons (Nil.agg ?_) ?_ | exact Nil1s.nil | refine Nil1s.cons Nil1.same ?_ | refine Nil1s.cons Nil1.nil ?_)); first | done | fail) rfl (by repeat' (first | exact trivial | refine ⟨⟨_, rfl, by first | rfl | (simp [renO, *]; done)⟩, ?_⟩)) (by first | rfl | simp [closO, *]) rfl rfl rfl rfl (by first | rfl | simp [closO, *]) rfl | exact lsq) | refine a_seq ?_ | refine a_region ?_ | refine o_nil ?_ | refine a_block ?_ | refine a_ret ?_ | refine a_exit ?_ | refine a_skip ?_ | refine a_drawA mixed ?_ | refine d_nil (by kernel_rfl) ?_ | refine o_yes rfl rfl rfl ?_ | refine o_no rfl rfl rfl (by decide) ?_ | refine o_no' rfl rfl rfl ?_ | refine a_condT rfl ?_ | refine a_condF rfl ?_ | refine d_no rfl rfl rfl (by decide) ?_ | refine d_no' rfl rfl rfl ?_ | (refine wq2 (fun hb => ?_) (fun hb => ?_) <;> (simp only [hb]; try simp only [hbs, ne_eq] at hb; try (exfalso; first | omega | exact hb trivial))) | fail)
      refine ar_step [0, 1] (by kernel_rfl) rfl ?_
      apply arl_cons (i := 0) rfl rfl
      · exact lsq
      · skip
        refine ar_step [1] (by kernel_rfl) rfl ?_
        apply arl_cons (i := 1) rfl rfl
        · exact lsq
        · skip
          refine ar_step [2, 4] (by kernel_rfl) rfl ?_
          apply arl_cons (i := 2) rfl rfl
          · exact ls_cl hF rfl rfl rfl rfl
          · skip
            refine ar_step [3, 4] (by kernel_rfl) rfl ?_
            apply arl_cons (i := 3) rfl rfl
            · exact lsq
            · skip
              refine ar_step [4] (by kernel_rfl) rfl ?_
              apply arl_cons (i := 4) rfl rfl
              · exact ls_cm hF rfl rfl rfl rfl
              · skip
                refine ar_step [5] (by kernel_rfl) rfl ?_
                apply arl_cons (i := 5) rfl rfl
                · exact lsq
                · skip
                  refine ar_step [6] (by kernel_rfl) rfl ?_
                  apply arl_cons (i := 6) rfl rfl
                  · exact ls_ce (ms := ms) (t := x) rfl rfl rfl rfl rfl
                  · skip
                    refine ar_done (by kernel_rfl) ?_
                    repeat' (first | ((first | apply o_do | apply d_do | apply d_yes rfl rfl rfl); exact lsq) | refine a_seq ?_ | refine a_region ?_ | refine o_nil ?_ | refine a_block ?_ | refine a_ret ?_ | refine a_exit ?_ | refine a_skip ?_ | refine a_draw mixed ?_ | refine d_nil (by kernel_rfl) ?_ | refine o_yes rfl rfl rfl ?_ | refine o_no rfl rfl rfl (by decide) ?_ | refine o_no' rfl rfl rfl ?_ | refine a_condT rfl ?_ | refine a_condF rfl ?_ | refine d_no rfl rfl rfl (by decide) ?_ | refine d_no' rfl rfl rfl ?_ | (refine wq2 (fun hb => ?_) (fun hb => ?_) <;> (simp only [hb]; try simp only [hbs, ne_eq] at hb; try (exfalso; first | omega | exact hb trivial))) | fail)
                    refine ⟨⟨(q + 1, _, _), hB⟩, by dsimp only; omega, ?_⟩
                    refine ⟨by repeat' (first | exact trivial | exact FinA.one (FinB.cell (FinC.same rfl)) | exact FinA.one (FinB.cell FinC.nil) | exact FinA.bound rfl | exact FinA.one (FinB.cell (FinC.own rfl rfl rfl rfl)) | exact FinA.one (FinB.cell (FinC.v (by first | rfl | (simp)))) | exact FinA.one (FinB.cell (FinC.ow rfl (by first | rfl | (simp)))) | exact FinA.one (FinB.agg' rfl rfl) | refine ⟨⟨_, rfl, ?_⟩, ?_⟩), by repeat' (first | exact trivial | refine ⟨⟨_, rfl, by first | rfl | (simp; done) | (simp [renO, *]; done)⟩, by first | rfl | assumption, ?_⟩), rfl⟩
                  exact arl_nil
                exact arl_nil
              exact arl_nil
            apply arl_cons (i := 4) rfl rfl
            · exact ls_cm hF rfl rfl rfl rfl
            · skip
              refine ar_step [3, 5] (by kernel_rfl) rfl ?_
              apply arl_cons (i := 3) rfl rfl
              · exact lsq
              · skip
                refine ar_step [5] (by kernel_rfl) rfl ?_
                apply arl_cons (i := 5) rfl rfl
                · exact lsq
                · skip
                  refine ar_step [6] (by kernel_rfl) rfl ?_
                  apply arl_cons (i := 6) rfl rfl
                  · exact ls_ce (ms := ms) (t := x) rfl rfl rfl rfl rfl
                  · skip
                    refine ar_done (by kernel_rfl) ?_
                    repeat' (first | ((first | apply o_do | apply d_do | apply d_yes rfl rfl rfl); exact lsq) | refine a_seq ?_ | refine a_region ?_ | refine o_nil ?_ | refine a_block ?_ | refine a_ret ?_ | refine a_exit ?_ | refine a_skip ?_ | refine a_draw mixed ?_ | refine d_nil (by kernel_rfl) ?_ | refine o_yes rfl rfl rfl ?_ | refine o_no rfl rfl rfl (by decide) ?_ | refine o_no' rfl rfl rfl ?_ | refine a_condT rfl ?_ | refine a_condF rfl ?_ | refine d_no rfl rfl rfl (by decide) ?_ | refine d_no' rfl rfl rfl ?_ | (refine wq2 (fun hb => ?_) (fun hb => ?_) <;> (simp only [hb]; try simp only [hbs, ne_eq] at hb; try (exfalso; first | omega | exact hb trivial))) | fail)
                    refine ⟨⟨(q + 1, _, _), hB⟩, by dsimp only; omega, ?_⟩
                    refine ⟨by repeat' (first | exact trivial | exact FinA.one (FinB.cell (FinC.same rfl)) | exact FinA.one (FinB.cell FinC.nil) | exact FinA.bound rfl | exact FinA.one (FinB.cell (FinC.own rfl rfl rfl rfl)) | exact FinA.one (FinB.cell (FinC.v (by first | rfl | (simp)))) | exact FinA.one (FinB.cell (FinC.ow rfl (by first | rfl | (simp)))) | exact FinA.one (FinB.agg' rfl rfl) | refine ⟨⟨_, rfl, ?_⟩, ?_⟩), by repeat' (first | exact trivial | refine ⟨⟨_, rfl, by first | rfl | (simp; done) | (simp [renO, *]; done)⟩, by first | rfl | assumption, ?_⟩), rfl⟩
                  exact arl_nil
                exact arl_nil
              apply arl_cons (i := 5) rfl rfl
              · exact lsq
              · skip
                refine ar_step [3] (by kernel_rfl) rfl ?_
                apply arl_cons (i := 3) rfl rfl
                · exact lsq
                · skip
                  refine ar_step [6] (by kernel_rfl) rfl ?_
                  apply arl_cons (i := 6) rfl rfl
                  · exact ls_ce (ms := ms) (t := x) rfl rfl rfl rfl rfl
                  · skip
                    refine ar_done (by kernel_rfl) ?_
                    repeat' (first | ((first | apply o_do | apply d_do | apply d_yes rfl rfl rfl); exact lsq) | refine a_seq ?_ | refine a_region ?_ | refine o_nil ?_ | refine a_block ?_ | refine a_ret ?_ | refine a_exit ?_ | refine a_skip ?_ | refine a_draw mixed ?_ | refine d_nil (by kernel_rfl) ?_ | refine o_yes rfl rfl rfl ?_ | refine o_no rfl rfl rfl (by decide) ?_ | refine o_no' rfl rfl rfl ?_ | refine a_condT rfl ?_ | refine a_condF rfl ?_ | refine d_no rfl rfl rfl (by decide) ?_ | refine d_no' rfl rfl rfl ?_ | (refine wq2 (fun hb => ?_) (fun hb => ?_) <;> (simp only [hb]; try simp only [hbs, ne_eq] at hb; try (exfalso; first | omega | exact hb trivial))) | fail)
                    refine ⟨⟨(q + 1, _, _), hB⟩, by dsimp only; omega, ?_⟩
                    refine ⟨by repeat' (first | exact trivial | exact FinA.one (FinB.cell (FinC.same rfl)) | exact FinA.one (FinB.cell FinC.nil) | exact FinA.bound rfl | exact FinA.one (FinB.cell (FinC.own rfl rfl rfl rfl)) | exact FinA.one (FinB.cell (FinC.v (by first | rfl | (simp)))) | exact FinA.one (FinB.cell (FinC.ow rfl (by first | rfl | (simp)))) | exact FinA.one (FinB.agg' rfl rfl) | refine ⟨⟨_, rfl, ?_⟩, ?_⟩), by repeat' (first | exact trivial | refine ⟨⟨_, rfl, by first | rfl | (simp; done) | (simp [renO, *]; done)⟩, by first | rfl | assumption, ?_⟩), rfl⟩
                  exact arl_nil
                exact arl_nil
              exact arl_nil
            exact arl_nil
          apply arl_cons (i := 4) rfl rfl
          · exact ls_cm hF rfl rfl rfl rfl
          · skip
            refine ar_step [2, 5] (by kernel_rfl) rfl ?_
            apply arl_cons (i := 2) rfl rfl
            · exact ls_cl' hF rfl rfl rfl rfl
            · skip
              refine ar_step [3, 5] (by kernel_rfl) rfl ?_
              apply arl_cons (i := 3) rfl rfl
              · exact lsq
              · skip
                refine ar_step [5] (by kernel_rfl) rfl ?_
                apply arl_cons (i := 5) rfl rfl
                · exact lsq
                · skip
                  refine ar_step [6] (by kernel_rfl) rfl ?_
                  apply arl_cons (i := 6) rfl rfl
                  · exact ls_ce (ms := ms) (t := x) rfl rfl rfl rfl rfl
                  · skip
                    refine ar_done (by kernel_rfl) ?_
                    repeat' (first | ((first | apply o_do | apply d_do | apply d_yes rfl rfl rfl); exact lsq) | refine a_seq ?_ | refine a_region ?_ | refine o_nil ?_ | refine a_block ?_ | refine a_ret ?_ | refine a_exit ?_ | refine a_skip ?_ | refine a_draw mixed ?_ | refine d_nil (by kernel_rfl) ?_ | refine o_yes rfl rfl rfl ?_ | refine o_no rfl rfl rfl (by decide) ?_ | refine o_no' rfl rfl rfl ?_ | refine a_condT rfl ?_ | refine a_condF rfl ?_ | refine d_no rfl rfl rfl (by decide) ?_ | refine d_no' rfl rfl rfl ?_ | (refine wq2 (fun hb => ?_) (fun hb => ?_) <;> (simp only [hb]; try simp only [hbs, ne_eq] at hb; try (exfalso; first | omega | exact hb trivial))) | fail)
                    refine ⟨⟨(q + 1, _, _), hB⟩, by dsimp only; omega, ?_⟩
                    refine ⟨by repeat' (first | exact trivial | exact FinA.one (FinB.cell (FinC.same rfl)) | exact FinA.one (FinB.cell FinC.nil) | exact FinA.bound rfl | exact FinA.one (FinB.cell (FinC.own rfl rfl rfl rfl)) | exact FinA.one (FinB.cell (FinC.v (by first | rfl | (simp)))) | exact FinA.one (FinB.cell (FinC.ow rfl (by first | rfl | (simp)))) | exact FinA.one (FinB.agg' rfl rfl) | refine ⟨⟨_, rfl, ?_⟩, ?_⟩), by repeat' (first | exact trivial | refine ⟨⟨_, rfl, by first | rfl | (simp; done) | (simp [renO, *]; done)⟩, by first | rfl | assumption, ?_⟩), rfl⟩
                  exact arl_nil
                exact arl_nil
              apply arl_cons (i := 5) rfl rfl
              · exact lsq
              · skip
                refine ar_step [3] (by kernel_rfl) rfl ?_
                apply arl_cons (i := 3) rfl rfl
                · exact lsq
                · skip
                  refine ar_step [6] (by kernel_rfl) rfl ?_
                  apply arl_cons (i := 6) rfl rfl
                  · exact ls_ce (ms := ms) (t := x) rfl rfl rfl rfl rfl
                  · skip
                    refine ar_done (by kernel_rfl) ?_
                    repeat' (first | ((first | apply o_do | apply d_do | apply d_yes rfl rfl rfl); exact lsq) | refine a_seq ?_ | refine a_region ?_ | refine o_nil ?_ | refine a_block ?_ | refine a_ret ?_ | refine a_exit ?_ | refine a_skip ?_ | refine a_draw mixed ?_ | refine d_nil (by kernel_rfl) ?_ | refine o_yes rfl rfl rfl ?_ | refine o_no rfl rfl rfl (by decide) ?_ | refine o_no' rfl rfl rfl ?_ | refine a_condT rfl ?_ | refine a_condF rfl ?_ | refine d_no rfl rfl rfl (by decide) ?_ | refine d_no' rfl rfl rfl ?_ | (refine wq2 (fun hb => ?_) (fun hb => ?_) <;> (simp only [hb]; try simp only [hbs, ne_eq] at hb; try (exfalso; first | omega | exact hb trivial))) | fail)
                    refine ⟨⟨(q + 1, _, _), hB⟩, by dsimp only; omega, ?_⟩
                    refine ⟨by repeat' (first | exact trivial | exact FinA.one (FinB.cell (FinC.same rfl)) | exact FinA.one (FinB.cell FinC.nil) | exact FinA.bound rfl | exact FinA.one (FinB.cell (FinC.own rfl rfl rfl rfl)) | exact FinA.one (FinB.cell (FinC.v (by first | rfl | (simp)))) | exact FinA.one (FinB.cell (FinC.ow rfl (by first | rfl | (simp)))) | exact FinA.one (FinB.agg' rfl rfl) | refine ⟨⟨_, rfl, ?_⟩, ?_⟩), by repeat' (first | exact trivial | refine ⟨⟨_, rfl, by first | rfl | (simp; done) | (simp [renO, *]; done)⟩, by first | rfl | assumption, ?_⟩), rfl⟩
                  exact arl_nil
                exact arl_nil
              exact arl_nil
            apply arl_cons (i := 5) rfl rfl
            · exact lsq
            · skip
              refine ar_step [2] (by kernel_rfl) rfl ?_
              apply arl_cons (i := 2) rfl rfl
              · exact ls_cl' hF rfl rfl rfl rfl
              · skip
                refine ar_step [3] (by kernel_rfl) rfl ?_
                apply arl_cons (i := 3) rfl rfl
                · exact lsq
                · skip
                  refine ar_step [6] (by kernel_rfl) rfl ?_
                  apply arl_cons (i := 6) rfl rfl
                  · exact ls_ce (ms := ms) (t := x) rfl rfl rfl rfl rfl
                  · skip
                    refine ar_done (by kernel_rfl) ?_
                    repeat' (first | ((first | apply o_do | apply d_do | apply d_yes rfl rfl rfl); exact lsq) | refine a_seq ?_ | refine a_region ?_ | refine o_nil ?_ | refine a_block ?_ | refine a_ret ?_ | refine a_exit ?_ | refine a_skip ?_ | refine a_draw mixed ?_ | refine d_nil (by kernel_rfl) ?_ | refine o_yes rfl rfl rfl ?_ | refine o_no rfl rfl rfl (by decide) ?_ | refine o_no' rfl rfl rfl ?_ | refine a_condT rfl ?_ | refine a_condF rfl ?_ | refine d_no rfl rfl rfl (by decide) ?_ | refine d_no' rfl rfl rfl ?_ | (refine wq2 (fun hb => ?_) (fun hb => ?_) <;> (simp only [hb]; try simp only [hbs, ne_eq] at hb; try (exfalso; first | omega | exact hb trivial))) | fail)
                    refine ⟨⟨(q + 1, _, _), hB⟩, by dsimp only; omega, ?_⟩
                    refine ⟨by repeat' (first | exact trivial | exact FinA.one (FinB.cell (FinC.same rfl)) | exact FinA.one (FinB.cell FinC.nil) | exact FinA.bound rfl | exact FinA.one (FinB.cell (FinC.own rfl rfl rfl rfl)) | exact FinA.one (FinB.cell (FinC.v (by first | rfl | (simp)))) | exact FinA.one (FinB.cell (FinC.ow rfl (by first | rfl | (simp)))) | exact FinA.one (FinB.agg' rfl rfl) | refine ⟨⟨_, rfl, ?_⟩, ?_⟩), by repeat' (first | exact trivial | refine ⟨⟨_, rfl, by first | rfl | (simp; done) | (simp [renO, *]; done)⟩, by first | rfl | assumption, ?_⟩), rfl⟩
                  exact arl_nil
                exact arl_nil
              exact arl_nil
            exact arl_nil
          exact arl_nil
        exact arl_nil
      apply arl_cons (i := 1) rfl rfl
      · exact lsq
      · skip
        refine ar_step [0] (by kernel_rfl) rfl ?_
        apply arl_cons (i := 0) rfl rfl
        · exact lsq
        · skip
          refine ar_step [2, 4] (by kernel_rfl) rfl ?_
          apply arl_cons (i := 2) rfl rfl
          · exact ls_cl hF rfl rfl rfl rfl
          · skip
            refine ar_step [3, 4] (by kernel_rfl) rfl ?_
            apply arl_cons (i := 3) rfl rfl
            · exact lsq
            · skip
              refine ar_step [4] (by kernel_rfl) rfl ?_
              apply arl_cons (i := 4) rfl rfl
              · exact ls_cm hF rfl rfl rfl rfl
              · skip
                refine ar_step [5] (by kernel_rfl) rfl ?_
                apply arl_cons (i := 5) rfl rfl
                · exact lsq
                · skip
                  refine ar_step [6] (by kernel_rfl) rfl ?_
                  apply arl_cons (i := 6) rfl rfl
                  · exact ls_ce (ms := ms) (t := x) rfl rfl rfl rfl rfl
                  · skip
                    refine ar_done (by kernel_rfl) ?_
                    repeat' (first | ((first | apply o_do | apply d_do | apply d_yes rfl rfl rfl); exact lsq) | refine a_seq ?_ | refine a_region ?_ | refine o_nil ?_ | refine a_block ?_ | refine a_ret ?_ | refine a_exit ?_ | refine a_skip ?_ | refine a_draw mixed ?_ | refine d_nil (by kernel_rfl) ?_ | refine o_yes rfl rfl rfl ?_ | refine o_no rfl rfl rfl (by decide) ?_ | refine o_no' rfl rfl rfl ?_ | refine a_condT rfl ?_ | refine a_condF rfl ?_ | refine d_no rfl rfl rfl (by decide) ?_ | refine d_no' rfl rfl rfl ?_ | (refine wq2 (fun hb => ?_) (fun hb => ?_) <;> (simp only [hb]; try simp only [hbs, ne_eq] at hb; try (exfalso; first | omega | exact hb trivial))) | fail)
                    refine ⟨⟨(q + 1, _, _), hB⟩, by dsimp only; omega, ?_⟩
                    refine ⟨by repeat' (first | exact trivial | exact FinA.one (FinB.cell (FinC.same rfl)) | exact FinA.one (FinB.cell FinC.nil) | exact FinA.bound rfl | exact FinA.one (FinB.cell (FinC.own rfl rfl rfl rfl)) | exact FinA.one (FinB.cell (FinC.v (by first | rfl | (simp)))) | exact FinA.one (FinB.cell (FinC.ow rfl (by first | rfl | (simp)))) | exact FinA.one (FinB.agg' rfl rfl) | refine ⟨⟨_, rfl, ?_⟩, ?_⟩), by repeat' (first | exact trivial | refine ⟨⟨_, rfl, by first | rfl | (simp; done) | (simp [renO, *]; done)⟩, by first | rfl | assumption, ?_⟩), rfl⟩
                  exact arl_nil
                exact arl_nil
              exact arl_nil
            apply arl_cons (i := 4) rfl rfl
            · exact ls_cm hF rfl rfl rfl rfl
            · skip
              refine ar_step [3, 5] (by kernel_rfl) rfl ?_
              apply arl_cons (i := 3) rfl rfl
              · exact lsq
              · skip
                refine ar_step [5] (by kernel_rfl) rfl ?_
                apply arl_cons (i := 5) rfl rfl
                · exact lsq
                · skip
                  refine ar_step [6] (by kernel_rfl) rfl ?_
                  apply arl_cons (i := 6) rfl rfl
                  · exact ls_ce (ms := ms) (t := x) rfl rfl rfl rfl rfl
                  · skip
                    refine ar_done (by kernel_rfl) ?_
                    repeat' (first | ((first | apply o_do | apply d_do | apply d_yes rfl rfl rfl); exact lsq) | refine a_seq ?_ | refine a_region ?_ | refine o_nil ?_ | refine a_block ?_ | refine a_ret ?_ | refine a_exit ?_ | refine a_skip ?_ | refine a_draw mixed ?_ | refine d_nil (by kernel_rfl) ?_ | refine o_yes rfl rfl rfl ?_ | refine o_no rfl rfl rfl (by decide) ?_ | refine o_no' rfl rfl rfl ?_ | refine a_condT rfl ?_ | refine a_condF rfl ?_ | refine d_no rfl rfl rfl (by decide) ?_ | refine d_no' rfl rfl rfl ?_ | (refine wq2 (fun hb => ?_) (fun hb => ?_) <;> (simp only [hb]; try simp only [hbs, ne_eq] at hb; try (exfalso; first | omega | exact hb trivial))) | fail)
                    refine ⟨⟨(q + 1, _, _), hB⟩, by dsimp only; omega, ?_⟩
                    refine ⟨by repeat' (first | exact trivial | exact FinA.one (FinB.cell (FinC.same rfl)) | exact FinA.one (FinB.cell FinC.nil) | exact FinA.bound rfl | exact FinA.one (FinB.cell (FinC.own rfl rfl rfl rfl)) | exact FinA.one (FinB.cell (FinC.v (by first | rfl | (simp)))) | exact FinA.one (FinB.cell (FinC.ow rfl (by first | rfl | (simp)))) | exact FinA.one (FinB.agg' rfl rfl) | refine ⟨⟨_, rfl, ?_⟩, ?_⟩), by repeat' (first | exact trivial | refine ⟨⟨_, rfl, by first | rfl | (simp; done) | (simp [renO, *]; done)⟩, by first | rfl | assumption, ?_⟩), rfl⟩
                  exact arl_nil
                exact arl_nil
              apply arl_cons (i := 5) rfl rfl
              · exact lsq
              · skip
                refine ar_step [3] (by kernel_rfl) rfl ?_
                apply arl_cons (i := 3) rfl rfl
                · exact lsq
                · skip
                  refine ar_step [6] (by kernel_rfl) rfl ?_
                  apply arl_cons (i := 6) rfl rfl
                  · exact ls_ce (ms := ms) (t := x) rfl rfl rfl rfl rfl
                  · skip
                    refine ar_done (by kernel_rfl) ?_
                    repeat' (first | ((first | apply o_do | apply d_do | apply d_yes rfl rfl rfl); exact lsq) | refine a_seq ?_ | refine a_region ?_ | refine o_nil ?_ | refine a_block ?_ | refine a_ret ?_ | refine a_exit ?_ | refine a_skip ?_ | refine a_draw mixed ?_ | refine d_nil (by kernel_rfl) ?_ | refine o_yes rfl rfl rfl ?_ | refine o_no rfl rfl rfl (by decide) ?_ | refine o_no' rfl rfl rfl ?_ | refine a_condT rfl ?_ | refine a_condF rfl ?_ | refine d_no rfl rfl rfl (by decide) ?_ | refine d_no' rfl rfl rfl ?_ | (refine wq2 (fun hb => ?_) (fun hb => ?_) <;> (simp only [hb]; try simp only [hbs, ne_eq] at hb; try (exfalso; first | omega | exact hb trivial))) | fail)
                    refine ⟨⟨(q + 1, _, _), hB⟩, by dsimp only; omega, ?_⟩
                    refine ⟨by repeat' (first | exact trivial | exact FinA.one (FinB.cell (FinC.same rfl)) | exact FinA.one (FinB.cell FinC.nil) | exact FinA.bound rfl | exact FinA.one (FinB.cell (FinC.own rfl rfl rfl rfl)) | exact FinA.one (FinB.cell (FinC.v (by first | rfl | (simp)))) | exact FinA.one (FinB.cell (FinC.ow rfl (by first | rfl | (simp)))) | exact FinA.one (FinB.agg' rfl rfl) | refine ⟨⟨_, rfl, ?_⟩, ?_⟩), by repeat' (first | exact trivial | refine ⟨⟨_, rfl, by first | rfl | (simp; done) | (simp [renO, *]; done)⟩, by first | rfl | assumption, ?_⟩), rfl⟩
                  exact arl_nil
                exact arl_nil
              exact arl_nil
            exact arl_nil
          apply arl_cons (i := 4) rfl rfl
          · exact ls_cm hF rfl rfl rfl rfl
          · skip
            refine ar_step [2, 5] (by kernel_rfl) rfl ?_
            apply arl_cons (i := 2) rfl rfl
            · exact ls_cl' hF rfl rfl rfl rfl
            · skip
              refine ar_step [3, 5] (by kernel_rfl) rfl ?_
              apply arl_cons (i := 3) rfl rfl
              · exact lsq
              · skip
                refine ar_step [5] (by kernel_rfl) rfl ?_
                apply arl_cons (i := 5) rfl rfl
                · exact lsq
                · skip
                  refine ar_step [6] (by kernel_rfl) rfl ?_
                  apply arl_cons (i := 6) rfl rfl
                  · exact ls_ce (ms := ms) (t := x) rfl rfl rfl rfl rfl
                  · skip
                    refine ar_done (by kernel_rfl) ?_
                    repeat' (first | ((first | apply o_do | apply d_do | apply d_yes rfl rfl rfl); exact lsq) | refine a_seq ?_ | refine a_region ?_ | refine o_nil ?_ | refine a_block ?_ | refine a_ret ?_ | refine a_exit ?_ | refine a_skip ?_ | refine a_draw mixed ?_ | refine d_nil (by kernel_rfl) ?_ | refine o_yes rfl rfl rfl ?_ | refine o_no rfl rfl rfl (by decide) ?_ | refine o_no' rfl rfl rfl ?_ | refine a_condT rfl ?_ | refine a_condF rfl ?_ | refine d_no rfl rfl rfl (by decide) ?_ | refine d_no' rfl rfl rfl ?_ | (refine wq2 (fun hb => ?_) (fun hb => ?_) <;> (simp only [hb]; try simp only [hbs, ne_eq] at hb; try (exfalso; first | omega | exact hb trivial))) | fail)
                    refine ⟨⟨(q + 1, _, _), hB⟩, by dsimp only; omega, ?_⟩
                    refine ⟨by repeat' (first | exact trivial | exact FinA.one (FinB.cell (FinC.same rfl)) | exact FinA.one (FinB.cell FinC.nil) | exact FinA.bound rfl | exact FinA.one (FinB.cell (FinC.own rfl rfl rfl rfl)) | exact FinA.one (FinB.cell (FinC.v (by first | rfl | (simp)))) | exact FinA.one (FinB.cell (FinC.ow rfl (by first | rfl | (simp)))) | exact FinA.one (FinB.agg' rfl rfl) | refine ⟨⟨_, rfl, ?_⟩, ?_⟩), by repeat' (first | exact trivial | refine ⟨⟨_, rfl, by first | rfl | (simp; done) | (simp [renO, *]; done)⟩, by first | rfl | assumption, ?_⟩), rfl⟩
                  exact arl_nil
                exact arl_nil
              apply arl_cons (i := 5) rfl rfl
              · exact lsq
              · skip
                refine ar_step [3] (by kernel_rfl) rfl ?_
                apply arl_cons (i := 3) rfl rfl
                · exact lsq
                · skip
                  refine ar_step [6] (by kernel_rfl) rfl ?_
                  apply arl_cons (i := 6) rfl rfl
                  · exact ls_ce (ms := ms) (t := x) rfl rfl rfl rfl rfl
                  · skip
                    refine ar_done (by kernel_rfl) ?_
                    repeat' (first | ((first | apply o_do | apply d_do | apply d_yes rfl rfl rfl); exact lsq) | refine a_seq ?_ | refine a_region ?_ | refine o_nil ?_ | refine a_block ?_ | refine a_ret ?_ | refine a_exit ?_ | refine a_skip ?_ | refine a_draw mixed ?_ | refine d_nil (by kernel_rfl) ?_ | refine o_yes rfl rfl rfl ?_ | refine o_no rfl rfl rfl (by decide) ?_ | refine o_no' rfl rfl rfl ?_ | refine a_condT rfl ?_ | refine a_condF rfl ?_ | refine d_no rfl rfl rfl (by decide) ?_ | refine d_no' rfl rfl rfl ?_ | (refine wq2 (fun hb => ?_) (fun hb => ?_) <;> (simp only [hb]; try simp only [hbs, ne_eq] at hb; try (exfalso; first | omega | exact hb trivial))) | fail)
                    refine ⟨⟨(q + 1, _, _), hB⟩, by dsimp only; omega, ?_⟩
                    refine ⟨by repeat' (first | exact trivial | exact FinA.one (FinB.cell (FinC.same rfl)) | exact FinA.one (FinB.cell FinC.nil) | exact FinA.bound rfl | exact FinA.one (FinB.cell (FinC.own rfl rfl rfl rfl)) | exact FinA.one (FinB.cell (FinC.v (by first | rfl | (simp)))) | exact FinA.one (FinB.cell (FinC.ow rfl (by first | rfl | (simp)))) | exact FinA.one (FinB.agg' rfl rfl) | refine ⟨⟨_, rfl, ?_⟩, ?_⟩), by repeat' (first | exact trivial | refine ⟨⟨_, rfl, by first | rfl | (simp; done) | (simp [renO, *]; done)⟩, by first | rfl | assumption, ?_⟩), rfl⟩
                  exact arl_nil
                exact arl_nil
              exact arl_nil
            apply arl_cons (i := 5) rfl rfl
            · exact lsq
            · skip
              refine ar_step [2] (by kernel_rfl) rfl ?_
              apply arl_cons (i := 2) rfl rfl
              · exact ls_cl' hF rfl rfl rfl rfl
              · skip
                refine ar_step [3] (by kernel_rfl) rfl ?_
                apply arl_cons (i := 3) rfl rfl
                · exact lsq
                · skip
                  refine ar_step [6] (by kernel_rfl) rfl ?_
                  apply arl_cons (i := 6) rfl rfl
                  · exact ls_ce (ms := ms) (t := x) rfl rfl rfl rfl rfl
                  · skip
                    refine ar_done (by kernel_rfl) ?_
                    repeat' (first | ((first | apply o_do | apply d_do | apply d_yes rfl rfl rfl); exact lsq) | refine a_seq ?_ | refine a_region ?_ | refine o_nil ?_ | refine a_block ?_ | refine a_ret ?_ | refine a_exit ?_ | refine a_skip ?_ | refine a_draw mixed ?_ | refine d_nil (by kernel_rfl) ?_ | refine o_yes rfl rfl rfl ?_ | refine o_no rfl rfl rfl (by decide) ?_ | refine o_no' rfl rfl rfl ?_ | refine a_condT rfl ?_ | refine a_condF rfl ?_ | refine d_no rfl rfl rfl (by decide) ?_ | refine d_no' rfl rfl rfl ?_ | (refine wq2 (fun hb => ?_) (fun hb => ?_) <;> (simp only [hb]; try simp only [hbs, ne_eq] at hb; try (exfalso; first | omega | exact hb trivial))) | fail)
                    refine ⟨⟨(q + 1, _, _), hB⟩, by dsimp only; omega, ?_⟩
                    refine ⟨by repeat' (first | exact trivial | exact FinA.one (FinB.cell (FinC.same rfl)) | exact FinA.one (FinB.cell FinC.nil) | exact FinA.bound rfl | exact FinA.one (FinB.cell (FinC.own rfl rfl rfl rfl)) | exact FinA.one (FinB.cell (FinC.v (by first | rfl | (simp)))) | exact FinA.one (FinB.cell (FinC.ow rfl (by first | rfl | (simp)))) | exact FinA.one (FinB.agg' rfl rfl) | refine ⟨⟨_, rfl, ?_⟩, ?_⟩), by repeat' (first | exact trivial | refine ⟨⟨_, rfl, by first | rfl | (simp; done) | (simp [renO, *]; done)⟩, by first | rfl | assumption, ?_⟩), rfl⟩
                  exact arl_nil
                exact arl_nil
              exact arl_nil
            exact arl_nil
          exact arl_nil
        exact arl_nil
      exact arl_nil
    · obtain rfl : q = l.length := by have := hA.hq; omega
      have hB := SoB.start hA hlr
      repeat' (first | ((first | apply o_do | apply d_do | apply d_yes rfl rfl rfl); first | fail | exact lsq) | refine a_seq ?_ | refine a_region ?_ | refine o_nil ?_ | refine a_block ?_ | refine a_ret ?_ | refine a_exit ?_ | refine a_skip ?_ | refine a_drawA mixed ?_ | refine d_nil (by kernel_rfl) ?_ | refine o_yes rfl rfl rfl ?_ | refine o_no rfl rfl rfl (by decide) ?_ | refine o_no' rfl rfl rfl ?_ | refine a_condT rfl ?_ | refine a_condF rfl ?_ | refine d_no rfl rfl rfl (by decide) ?_ | refine d_no' rfl rfl rfl ?_ | (refine wq2 (fun hb => ?_) (fun hb => ?_) <;> (simp only [hb]; try simp only [hbs, ne_eq] at hb; try (exfalso; first | omega | exact hb trivial))) | fail)
      refine a_loopM (X := {p : Nat × List Tm × List Tm × Cnt × Tm // SoB l p.1 p.2.1 p.2.2.1 p.2.2.2.1 p.2.2.2.2}) (fun p => ⟨[(0, .sl 2 (l.map Tm.av)), (3, .ref 0 0), (4, .mp 2), (7, .ref 3 0), (40, .v (.int .i64 l.length)), (41, .v (.int .i64 p.1.1))], [(0, .box 50 [.own 40 (p.1.2.1.map Tm.av).length]), (1, .dead), (40, .row 27 2 (p.1.2.1.map Tm.av)), (2, .mp (p.1.2.2.2.1.map cEnt)), (3, .box 27 p.1.2.2.2.2.av)]⟩) (fun p => l.length - p.1.1) ⟨(0, r, tSort l, ms, tmZ), hB⟩ ?_ ?_
      · refine Turn.trans (Turn.move 1 40 rfl rfl rfl rfl rfl) (Turn.weak ?_)
        refine ⟨by repeat' (first | exact trivial | exact FinA.one (FinB.cell (FinC.same rfl)) | exact FinA.one (FinB.cell FinC.nil) | exact FinA.bound rfl | exact FinA.one (FinB.cell (FinC.own rfl rfl rfl rfl)) | exact FinA.one (FinB.cell (FinC.v (by first | rfl | (simp)))) | exact FinA.one (FinB.cell (FinC.ow rfl (by first | rfl | (simp)))) | exact FinA.one (FinB.agg' rfl rfl) | refine ⟨⟨_, rfl, ?_⟩, ?_⟩), by repeat' (first | exact trivial | refine ⟨⟨_, rfl, by first | rfl | (simp; done) | (simp [renO, *]; done)⟩, by first | rfl | assumption, ?_⟩), rfl⟩
      clear hB hA hlt
      rintro ⟨⟨q, r, rem, ms, last⟩, hB⟩
      dsimp only at hB ⊢
      have hrl := hB.hi.len
      have hq := hB.hq
      cases rem with
      | nil =>
        obtain rfl : r = [] := List.eq_nil_of_length_eq_zero hrl
        obtain rfl : q = l.length := by simpa using hq
        have hP := a_HPop0
        have hL := a_HLen []
        unfold HS at hP hL
        repeat' (first | ((first | apply o_do | apply d_do | apply d_yes rfl rfl rfl); first | exact ls_callA [0, 40] 100 hP rfl rfl (by (repeat' (first | exact NilL.nil | refine NilL.cons Nil.same ?_ | refine NilL.cons Nil.nil ?_ | refine NilL.cons (Nil.agg ?_) ?_ | exact Nil1s.nil | refine Nil1s.cons Nil1.same ?_ | refine Nil1s.cons Nil1.nil ?_)); first | done | fail) rfl (by repeat' (first | exact trivial | refine ⟨⟨_, rfl, by first | rfl | (simp [renO, *]; done)⟩, ?_⟩)) (by first | rfl | simp [closO, *]) rfl rfl rfl rfl (by first | rfl | simp [closO, *]) rfl | exact ls_callA [0, 40] 200 hL rfl rfl (by (repeat' (first | exact NilL.nil | refine NilL.cons Nil.same ?_ | refine NilL.cons Nil.nil ?_ | refine NilL.cons (Nil.agg ?_) ?_ | exact Nil1s.nil | refine Nil1s.cons Nil1.same ?_ | refine Nil1s.cons Nil1.nil ?_)); first | done | fail) rfl (by repeat' (first | exact trivial | refine ⟨⟨_, rfl, by first | rfl | (simp [renO, *]; done)⟩, ?_⟩)) (by first | rfl | simp [closO, *]) rfl rfl rfl rfl (by first | rfl | simp [closO, *]) rfl | exact lsq) | refine a_seq ?_ | refine a_region ?_ | refine o_nil ?_ | refine a_block ?_ | refine a_ret ?_ | refine a_exit ?_ | refine a_skip ?_ | refine a_drawA mixed ?_ | refine d_nil (by kernel_rfl) ?_ | refine o_yes rfl rfl rfl ?_ | refine o_no rfl rfl rfl (by decide) ?_ | refine o_no' rfl rfl rfl ?_ | refine a_condT rfl ?_ | refine a_condF rfl ?_ | refine d_no rfl rfl rfl (by decide) ?_ | refine d_no' rfl rfl rfl ?_ | (refine wq2 (fun hb => ?_) (fun hb => ?_) <;> (simp only [hb]; try simp only [hbs, ne_eq] at hb; try (exfalso; first | omega | exact hb trivial))) | fail)
        all_goals refine ⟨by first | exact .inr rfl | exact .inl rfl, _, rfl, ?_, by repeat' (first | exact trivial | refine ⟨⟨_, rfl, by first | rfl | (simp [renO, *]; done)⟩, by first | rfl | assumption, ?_⟩)⟩
        all_goals (first | refine FinA.tup ?_ | refine FinA.one ?_); repeat' (first | exact FinBs.nil | exact FinCs.nil | refine FinBs.cons ?_ ?_ | refine FinCs.cons ?_ ?_ | refine FinB.cell (FinC.v ?_) | refine FinB.cell (FinC.own rfl rfl rfl ?_) | exact FinB.cell FinC.nil | refine FinB.cell (FinC.sl ?_) | exact FinB.agg' rfl rfl | exact FinB.cell (FinC.same rfl) | refine FinB.agg ?_ | refine FinC.v ?_ | refine FinC.own rfl rfl rfl ?_ | exact FinC.nil | refine FinC.sl ?_ | exact FinC.same rfl); all_goals try rfl
      | cons a rem =>
        have hlt : q < l.length := by simp at hq; omega
        obtain ⟨e0, hY⟩ := hB.hi.pop
        have hC := hB.next
        have hP := a_HPop r (by rw [hrl]; simp) (by rw [hrl]; simp at hq ⊢; omega)
        rw [e0] at hP
        generalize hpop tLt tmZ r = R at *
        have hF := CF.of hB.hc hB.hr (hB.hx a (by simp))
        have k7 := cAt_small hB.hc (by simp at hq ⊢; omega) a
        have k8 := hB.hc.there.2
        have hT := p_tAhead a last
        have hT2 := fun h => hB.ha h a (by simp)
        unfold HS at hP
        by_cases hq0 : 0 < q
        · rw [hT2 hq0] at hT
          repeat' (first | ((first | apply o_do | apply d_do | apply d_yes rfl rfl rfl); first | exact ls_callA [0, 40] 100 hP rfl rfl (by (repeat' (first | exact NilL.nil | refine NilL.cons Nil.same ?_ | refine NilL.cons Nil.nil ?_ | refine NilL.cons (Nil.agg ?_) ?_ | exact Nil1s.nil | refine Nil1s.cons Nil1.same ?_ | refine Nil1s.cons Nil1.nil ?_)); first | done | fail) rfl (by repeat' (first | exact trivial | refine ⟨⟨_, rfl, by first | rfl | (simp [renO, *]; done)⟩, ?_⟩)) (by first | rfl | simp [closO, *]) rfl rfl rfl rfl (by first | rfl | simp [closO, *]) rfl | exact ls_cl hF rfl rfl rfl rfl | exact lsc (hT) | exact lsq) | refine a_seq ?_ | refine a_region ?_ | refine o_nil ?_ | refine a_block ?_ | refine a_ret ?_ | refine a_exit ?_ | refine a_skip ?_ | refine a_drawA mixed ?_ | refine d_nil (by kernel_rfl) ?_ | refine o_yes rfl rfl rfl ?_ | refine o_no rfl rfl rfl (by decide) ?_ | refine o_no' rfl rfl rfl ?_ | refine a_condT rfl ?_ | refine a_condF rfl ?_ | refine d_no rfl rfl rfl (by decide) ?_ | refine d_no' rfl rfl rfl ?_ | (refine wq2 (fun hb => ?_) (fun hb => ?_) <;> (simp only [hb]; try simp only [hbs, ne_eq] at hb; try (exfalso; first | omega | exact hb trivial))) | fail)
          refine ar_step [0, 1] (by kernel_rfl) rfl ?_
          apply arl_cons (i := 0) rfl rfl
          · exact lsq
          · skip
            refine ar_step [1] (by kernel_rfl) rfl ?_
            apply arl_cons (i := 1) rfl rfl
            · exact lsq
            · skip
              refine ar_step [2, 4] (by kernel_rfl) rfl ?_
              apply arl_cons (i := 2) rfl rfl
              · exact ls_cl hF rfl rfl rfl rfl
              · skip
                refine ar_step [3, 4] (by kernel_rfl) rfl ?_
                apply arl_cons (i := 3) rfl rfl
                · exact lsq
                · skip
                  refine ar_step [4] (by kernel_rfl) rfl ?_
                  apply arl_cons (i := 4) rfl rfl
                  · exact ls_cm hF rfl rfl rfl rfl
                  · skip
                    refine ar_step [5] (by kernel_rfl) rfl ?_
                    apply arl_cons (i := 5) rfl rfl
                    · exact lsq
                    · skip
                      refine ar_step [6] (by kernel_rfl) rfl ?_
                      apply arl_cons (i := 6) rfl rfl
                      · exact ls_ce (ms := ms) (t := a) rfl rfl rfl rfl rfl
                      · skip
                        refine ar_done (by kernel_rfl) ?_
                        repeat' (first | ((first | apply o_do | apply d_do | apply d_yes rfl rfl rfl); exact lsq) | refine a_seq ?_ | refine a_region ?_ | refine o_nil ?_ | refine a_block ?_ | refine a_ret ?_ | refine a_exit ?_ | refine a_skip ?_ | refine a_draw mixed ?_ | refine d_nil (by kernel_rfl) ?_ | refine o_yes rfl rfl rfl ?_ | refine o_no rfl rfl rfl (by decide) ?_ | refine o_no' rfl rfl rfl ?_ | refine a_condT rfl ?_ | refine a_condF rfl ?_ | refine d_no rfl rfl rfl (by decide) ?_ | refine d_no' rfl rfl rfl ?_ | (refine wq2 (fun hb => ?_) (fun hb => ?_) <;> (simp only [hb]; try simp only [hbs, ne_eq] at hb; try (exfalso; first | omega | exact hb trivial))) | fail)
                        refine ⟨⟨(q + 1, _, _, _, _), hC⟩, by dsimp only; omega, ?_⟩
                        refine Turn.trans (Turn.weak (t := ⟨[(0, .sl 2 (l.map Tm.av)), (3, .ref 0 0), (4, .mp 2), (7, .ref 3 0), (40, .v (.int .i64 l.length)), (41, .v (.int .i64 ((q + 1 : Nat) : Int)))], [(0, .box 50 [.own 123 (R.map Tm.av).length]), (1, .dead), (123, .row 27 2 (R.map Tm.av)), (2, .mp ((cSet ms a (cAt ms a - 1)).map cEnt)), (3, .box 27 a.av)]⟩) ?_) (Turn.trans (Turn.move 123 40 rfl rfl rfl rfl rfl) (Turn.weak ?_))
                        · refine ⟨by repeat' (first | exact trivial | exact FinA.one (FinB.cell (FinC.same rfl)) | exact FinA.one (FinB.cell FinC.nil) | exact FinA.bound rfl | exact FinA.one (FinB.cell (FinC.own rfl rfl rfl rfl)) | exact FinA.one (FinB.cell (FinC.v (by first | rfl | (simp)))) | exact FinA.one (FinB.cell (FinC.ow rfl (by first | rfl | (simp)))) | exact FinA.one (FinB.agg' rfl rfl) | refine ⟨⟨_, rfl, ?_⟩, ?_⟩), by repeat' (first | exact trivial | refine ⟨⟨_, rfl, by first | rfl | (simp; done) | (simp [renO, *]; done)⟩, by first | rfl | assumption, ?_⟩), rfl⟩
                        · refine ⟨by repeat' (first | exact trivial | exact FinA.one (FinB.cell (FinC.same rfl)) | exact FinA.one (FinB.cell FinC.nil) | exact FinA.bound rfl | exact FinA.one (FinB.cell (FinC.own rfl rfl rfl rfl)) | exact FinA.one (FinB.cell (FinC.v (by first | rfl | (simp)))) | exact FinA.one (FinB.cell (FinC.ow rfl (by first | rfl | (simp)))) | exact FinA.one (FinB.agg' rfl rfl) | refine ⟨⟨_, rfl, ?_⟩, ?_⟩), by repeat' (first | exact trivial | refine ⟨⟨_, rfl, by first | rfl | (simp; done) | (simp [renO, *]; done)⟩, by first | rfl | assumption, ?_⟩), rfl⟩
                      exact arl_nil
                    exact arl_nil
                  exact arl_nil
                apply arl_cons (i := 4) rfl rfl
                · exact ls_cm hF rfl rfl rfl rfl
                · skip
                  refine ar_step [3, 5] (by kernel_rfl) rfl ?_
                  apply arl_cons (i := 3) rfl rfl
                  · exact lsq
                  · skip
                    refine ar_step [5] (by kernel_rfl) rfl ?_
                    apply arl_cons (i := 5) rfl rfl
                    · exact lsq
                    · skip
                      refine ar_step [6] (by kernel_rfl) rfl ?_
                      apply arl_cons (i := 6) rfl rfl
                      · exact ls_ce (ms := ms) (t := a) rfl rfl rfl rfl rfl
                      · skip
                        refine ar_done (by kernel_rfl) ?_
                        repeat' (first | ((first | apply o_do | apply d_do | apply d_yes rfl rfl rfl); exact lsq) | refine a_seq ?_ | refine a_region ?_ | refine o_nil ?_ | refine a_block ?_ | refine a_ret ?_ | refine a_exit ?_ | refine a_skip ?_ | refine a_draw mixed ?_ | refine d_nil (by kernel_rfl) ?_ | refine o_yes rfl rfl rfl ?_ | refine o_no rfl rfl rfl (by decide) ?_ | refine o_no' rfl rfl rfl ?_ | refine a_condT rfl ?_ | refine a_condF rfl ?_ | refine d_no rfl rfl rfl (by decide) ?_ | refine d_no' rfl rfl rfl ?_ | (refine wq2 (fun hb => ?_) (fun hb => ?_) <;> (simp only [hb]; try simp only [hbs, ne_eq] at hb; try (exfalso; first | omega | exact hb trivial))) | fail)
                        refine ⟨⟨(q + 1, _, _, _, _), hC⟩, by dsimp only; omega, ?_⟩
                        refine Turn.trans (Turn.weak (t := ⟨[(0, .sl 2 (l.map Tm.av)), (3, .ref 0 0), (4, .mp 2), (7, .ref 3 0), (40, .v (.int .i64 l.length)), (41, .v (.int .i64 ((q + 1 : Nat) : Int)))], [(0, .box 50 [.own 123 (R.map Tm.av).length]), (1, .dead), (123, .row 27 2 (R.map Tm.av)), (2, .mp ((cSet ms a (cAt ms a - 1)).map cEnt)), (3, .box 27 a.av)]⟩) ?_) (Turn.trans (Turn.move 123 40 rfl rfl rfl rfl rfl) (Turn.weak ?_))
                        · refine ⟨by repeat' (first | exact trivial | exact FinA.one (FinB.cell (FinC.same rfl)) | exact FinA.one (FinB.cell FinC.nil) | exact FinA.bound rfl | exact FinA.one (FinB.cell (FinC.own rfl rfl rfl rfl)) | exact FinA.one (FinB.cell (FinC.v (by first | rfl | (simp)))) | exact FinA.one (FinB.cell (FinC.ow rfl (by first | rfl | (simp)))) | exact FinA.one (FinB.agg' rfl rfl) | refine ⟨⟨_, rfl, ?_⟩, ?_⟩), by repeat' (first | exact trivial | refine ⟨⟨_, rfl, by first | rfl | (simp; done) | (simp [renO, *]; done)⟩, by first | rfl | assumption, ?_⟩), rfl⟩
                        · refine ⟨by repeat' (first | exact trivial | exact FinA.one (FinB.cell (FinC.same rfl)) | exact FinA.one (FinB.cell FinC.nil) | exact FinA.bound rfl | exact FinA.one (FinB.cell (FinC.own rfl rfl rfl rfl)) | exact FinA.one (FinB.cell (FinC.v (by first | rfl | (simp)))) | exact FinA.one (FinB.cell (FinC.ow rfl (by first | rfl | (simp)))) | exact FinA.one (FinB.agg' rfl rfl) | refine ⟨⟨_, rfl, ?_⟩, ?_⟩), by repeat' (first | exact trivial | refine ⟨⟨_, rfl, by first | rfl | (simp; done) | (simp [renO, *]; done)⟩, by first | rfl | assumption, ?_⟩), rfl⟩
                      exact arl_nil
                    exact arl_nil
                  apply arl_cons (i := 5) rfl rfl
                  · exact lsq
                  · skip
                    refine ar_step [3] (by kernel_rfl) rfl ?_
                    apply arl_cons (i := 3) rfl rfl
                    · exact lsq
                    · skip
                      refine ar_step [6] (by kernel_rfl) rfl ?_
                      apply arl_cons (i := 6) rfl rfl
                      · exact ls_ce (ms := ms) (t := a) rfl rfl rfl rfl rfl
                      · skip
                        refine ar_done (by kernel_rfl) ?_
                        repeat' (first | ((first | apply o_do | apply d_do | apply d_yes rfl rfl rfl); exact lsq) | refine a_seq ?_ | refine a_region ?_ | refine o_nil ?_ | refine a_block ?_ | refine a_ret ?_ | refine a_exit ?_ | refine a_skip ?_ | refine a_draw mixed ?_ | refine d_nil (by kernel_rfl) ?_ | refine o_yes rfl rfl rfl ?_ | refine o_no rfl rfl rfl (by decide) ?_ | refine o_no' rfl rfl rfl ?_ | refine a_condT rfl ?_ | refine a_condF rfl ?_ | refine d_no rfl rfl rfl (by decide) ?_ | refine d_no' rfl rfl rfl ?_ | (refine wq2 (fun hb => ?_) (fun hb => ?_) <;> (simp only [hb]; try simp only [hbs, ne_eq] at hb; try (exfalso; first | omega | exact hb trivial))) | fail)
                        refine ⟨⟨(q + 1, _, _, _, _), hC⟩, by dsimp only; omega, ?_⟩
                        refine Turn.trans (Turn.weak (t := ⟨[(0, .sl 2 (l.map Tm.av)), (3, .ref 0 0), (4, .mp 2), (7, .ref 3 0), (40, .v (.int .i64 l.length)), (41, .v (.int .i64 ((q + 1 : Nat) : Int)))], [(0, .box 50 [.own 123 (R.map Tm.av).length]), (1, .dead), (123, .row 27 2 (R.map Tm.av)), (2, .mp ((cSet ms a (cAt ms a - 1)).map cEnt)), (3, .box 27 a.av)]⟩) ?_) (Turn.trans (Turn.move 123 40 rfl rfl rfl rfl rfl) (Turn.weak ?_))
                        · refine ⟨by repeat' (first | exact trivial | exact FinA.one (FinB.cell (FinC.same rfl)) | exact FinA.one (FinB.cell FinC.nil) | exact FinA.bound rfl | exact FinA.one (FinB.cell (FinC.own rfl rfl rfl rfl)) | exact FinA.one (FinB.cell (FinC.v (by first | rfl | (simp)))) | exact FinA.one (FinB.cell (FinC.ow rfl (by first | rfl | (simp)))) | exact FinA.one (FinB.agg' rfl rfl) | refine ⟨⟨_, rfl, ?_⟩, ?_⟩), by repeat' (first | exact trivial | refine ⟨⟨_, rfl, by first | rfl | (simp; done) | (simp [renO, *]; done)⟩, by first | rfl | assumption, ?_⟩), rfl⟩
                        · refine ⟨by repeat' (first | exact trivial | exact FinA.one (FinB.cell (FinC.same rfl)) | exact FinA.one (FinB.cell FinC.nil) | exact FinA.bound rfl | exact FinA.one (FinB.cell (FinC.own rfl rfl rfl rfl)) | exact FinA.one (FinB.cell (FinC.v (by first | rfl | (simp)))) | exact FinA.one (FinB.cell (FinC.ow rfl (by first | rfl | (simp)))) | exact FinA.one (FinB.agg' rfl rfl) | refine ⟨⟨_, rfl, ?_⟩, ?_⟩), by repeat' (first | exact trivial | refine ⟨⟨_, rfl, by first | rfl | (simp; done) | (simp [renO, *]; done)⟩, by first | rfl | assumption, ?_⟩), rfl⟩
                      exact arl_nil
                    exact arl_nil
                  exact arl_nil
                exact arl_nil
              apply arl_cons (i := 4) rfl rfl
              · exact ls_cm hF rfl rfl rfl rfl
              · skip
                refine ar_step [2, 5] (by kernel_rfl) rfl ?_
                apply arl_cons (i := 2) rfl rfl
                · exact ls_cl' hF rfl rfl rfl rfl
                · skip
                  refine ar_step [3, 5] (by kernel_rfl) rfl ?_
                  apply arl_cons (i := 3) rfl rfl
                  · exact lsq
                  · skip
                    refine ar_step [5] (by kernel_rfl) rfl ?_
                    apply arl_cons (i := 5) rfl rfl
                    · exact lsq
                    · skip
                      refine ar_step [6] (by kernel_rfl) rfl ?_
                      apply arl_cons (i := 6) rfl rfl
                      · exact ls_ce (ms := ms) (t := a) rfl rfl rfl rfl rfl
                      · skip
                        refine ar_done (by kernel_rfl) ?_
                        repeat' (first | ((first | apply o_do | apply d_do | apply d_yes rfl rfl rfl); exact lsq) | refine a_seq ?_ | refine a_region ?_ | refine o_nil ?_ | refine a_block ?_ | refine a_ret ?_ | refine a_exit ?_ | refine a_skip ?_ | refine a_draw mixed ?_ | refine d_nil (by kernel_rfl) ?_ | refine o_yes rfl rfl rfl ?_ | refine o_no rfl rfl rfl (by decide) ?_ | refine o_no' rfl rfl rfl ?_ | refine a_condT rfl ?_ | refine a_condF rfl ?_ | refine d_no rfl rfl rfl (by decide) ?_ | refine d_no' rfl rfl rfl ?_ | (refine wq2 (fun hb => ?_) (fun hb => ?_) <;> (simp only [hb]; try simp only [hbs, ne_eq] at hb; try (exfalso; first | omega | exact hb trivial))) | fail)
                        refine ⟨⟨(q + 1, _, _, _, _), hC⟩, by dsimp only; omega, ?_⟩
                        refine Turn.trans (Turn.weak (t := ⟨[(0, .sl 2 (l.map Tm.av)), (3, .ref 0 0), (4, .mp 2), (7, .ref 3 0), (40, .v (.int .i64 l.length)), (41, .v (.int .i64 ((q + 1 : Nat) : Int)))], [(0, .box 50 [.own 123 (R.map Tm.av).length]), (1, .dead), (123, .row 27 2 (R.map Tm.av)), (2, .mp ((cSet ms a (cAt ms a - 1)).map cEnt)), (3, .box 27 a.av)]⟩) ?_) (Turn.trans (Turn.move 123 40 rfl rfl rfl rfl rfl) (Turn.weak ?_))
                        · refine ⟨by repeat' (first | exact trivial | exact FinA.one (FinB.cell (FinC.same rfl)) | exact FinA.one (FinB.cell FinC.nil) | exact FinA.bound rfl | exact FinA.one (FinB.cell (FinC.own rfl rfl rfl rfl)) | exact FinA.one (FinB.cell (FinC.v (by first | rfl | (simp)))) | exact FinA.one (FinB.cell (FinC.ow rfl (by first | rfl | (simp)))) | exact FinA.one (FinB.agg' rfl rfl) | refine ⟨⟨_, rfl, ?_⟩, ?_⟩), by repeat' (first | exact trivial | refine ⟨⟨_, rfl, by first | rfl | (simp; done) | (simp [renO, *]; done)⟩, by first | rfl | assumption, ?_⟩), rfl⟩
                        · refine ⟨by repeat' (first | exact trivial | exact FinA.one (FinB.cell (FinC.same rfl)) | exact FinA.one (FinB.cell FinC.nil) | exact FinA.bound rfl | exact FinA.one (FinB.cell (FinC.own rfl rfl rfl rfl)) | exact FinA.one (FinB.cell (FinC.v (by first | rfl | (simp)))) | exact FinA.one (FinB.cell (FinC.ow rfl (by first | rfl | (simp)))) | exact FinA.one (FinB.agg' rfl rfl) | refine ⟨⟨_, rfl, ?_⟩, ?_⟩), by repeat' (first | exact trivial | refine ⟨⟨_, rfl, by first | rfl | (simp; done) | (simp [renO, *]; done)⟩, by first | rfl | assumption, ?_⟩), rfl⟩
                      exact arl_nil
                    exact arl_nil
                  apply arl_cons (i := 5) rfl rfl
                  · exact lsq
                  · skip
                    refine ar_step [3] (by kernel_rfl) rfl ?_
                    apply arl_cons (i := 3) rfl rfl
                    · exact lsq
                    · skip
                      refine ar_step [6] (by kernel_rfl) rfl ?_
                      apply arl_cons (i := 6) rfl rfl
                      · exact ls_ce (ms := ms) (t := a) rfl rfl rfl rfl rfl
                      · skip
                        refine ar_done (by kernel_rfl) ?_
                        repeat' (first | ((first | apply o_do | apply d_do | apply d_yes rfl rfl rfl); exact lsq) | refine a_seq ?_ | refine a_region ?_ | refine o_nil ?_ | refine a_block ?_ | refine a_ret ?_ | refine a_exit ?_ | refine a_skip ?_ | refine a_draw mixed ?_ | refine d_nil (by kernel_rfl) ?_ | refine o_yes rfl rfl rfl ?_ | refine o_no rfl rfl rfl (by decide) ?_ | refine o_no' rfl rfl rfl ?_ | refine a_condT rfl ?_ | refine a_condF rfl ?_ | refine d_no rfl rfl rfl (by decide) ?_ | refine d_no' rfl rfl rfl ?_ | (refine wq2 (fun hb => ?_) (fun hb => ?_) <;> (simp only [hb]; try simp only [hbs, ne_eq] at hb; try (exfalso; first | omega | exact hb trivial))) | fail)
                        refine ⟨⟨(q + 1, _, _, _, _), hC⟩, by dsimp only; omega, ?_⟩
                        refine Turn.trans (Turn.weak (t := ⟨[(0, .sl 2 (l.map Tm.av)), (3, .ref 0 0), (4, .mp 2), (7, .ref 3 0), (40, .v (.int .i64 l.length)), (41, .v (.int .i64 ((q + 1 : Nat) : Int)))], [(0, .box 50 [.own 123 (R.map Tm.av).length]), (1, .dead), (123, .row 27 2 (R.map Tm.av)), (2, .mp ((cSet ms a (cAt ms a - 1)).map cEnt)), (3, .box 27 a.av)]⟩) ?_) (Turn.trans (Turn.move 123 40 rfl rfl rfl rfl rfl) (Turn.weak ?_))
                        · refine ⟨by repeat' (first | exact trivial | exact FinA.one (FinB.cell (FinC.same rfl)) | exact FinA.one (FinB.cell FinC.nil) | exact FinA.bound rfl | exact FinA.one (FinB.cell (FinC.own rfl rfl rfl rfl)) | exact FinA.one (FinB.cell (FinC.v (by first | rfl | (simp)))) | exact FinA.one (FinB.cell (FinC.ow rfl (by first | rfl | (simp)))) | exact FinA.one (FinB.agg' rfl rfl) | refine ⟨⟨_, rfl, ?_⟩, ?_⟩), by repeat' (first | exact trivial | refine ⟨⟨_, rfl, by first | rfl | (simp; done) | (simp [renO, *]; done)⟩, by first | rfl | assumption, ?_⟩), rfl⟩
                        · refine ⟨by repeat' (first | exact trivial | exact FinA.one (FinB.cell (FinC.same rfl)) | exact FinA.one (FinB.cell FinC.nil) | exact FinA.bound rfl | exact FinA.one (FinB.cell (FinC.own rfl rfl rfl rfl)) | exact FinA.one (FinB.cell (FinC.v (by first | rfl | (simp)))) | exact FinA.one (FinB.cell (FinC.ow rfl (by first | rfl | (simp)))) | exact FinA.one (FinB.agg' rfl rfl) | refine ⟨⟨_, rfl, ?_⟩, ?_⟩), by repeat' (first | exact trivial | refine ⟨⟨_, rfl, by first | rfl | (simp; done) | (simp [renO, *]; done)⟩, by first | rfl | assumption, ?_⟩), rfl⟩
                      exact arl_nil
                    exact arl_nil
                  exact arl_nil
                apply arl_cons (i := 5) rfl rfl
                · exact lsq
                · skip
                  refine ar_step [2] (by kernel_rfl) rfl ?_
                  apply arl_cons (i := 2) rfl rfl
                  · exact ls_cl' hF rfl rfl rfl rfl
                  · skip
                    refine ar_step [3] (by kernel_rfl) rfl ?_
                    apply arl_cons (i := 3) rfl rfl
                    · exact lsq
                    · skip
                      refine ar_step [6] (by kernel_rfl) rfl ?_
                      apply arl_cons (i := 6) rfl rfl
                      · exact ls_ce (ms := ms) (t := a) rfl rfl rfl rfl rfl
                      · skip
                        refine ar_done (by kernel_rfl) ?_
                        repeat' (first | ((first | apply o_do | apply d_do | apply d_yes rfl rfl rfl); exact lsq) | refine a_seq ?_ | refine a_region ?_ | refine o_nil ?_ | refine a_block ?_ | refine a_ret ?_ | refine a_exit ?_ | refine a_skip ?_ | refine a_draw mixed ?_ | refine d_nil (by kernel_rfl) ?_ | refine o_yes rfl rfl rfl ?_ | refine o_no rfl rfl rfl (by decide) ?_ | refine o_no' rfl rfl rfl ?_ | refine a_condT rfl ?_ | refine a_condF rfl ?_ | refine d_no rfl rfl rfl (by decide) ?_ | refine d_no' rfl rfl rfl ?_ | (refine wq2 (fun hb => ?_) (fun hb => ?_) <;> (simp only [hb]; try simp only [hbs, ne_eq] at hb; try (exfalso; first | omega | exact hb trivial))) | fail)
                        refine ⟨⟨(q + 1, _, _, _, _), hC⟩, by dsimp only; omega, ?_⟩
                        refine Turn.trans (Turn.weak (t := ⟨[(0, .sl 2 (l.map Tm.av)), (3, .ref 0 0), (4, .mp 2), (7, .ref 3 0), (40, .v (.int .i64 l.length)), (41, .v (.int .i64 ((q + 1 : Nat) : Int)))], [(0, .box 50 [.own 123 (R.map Tm.av).length]), (1, .dead), (123, .row 27 2 (R.map Tm.av)), (2, .mp ((cSet ms a (cAt ms a - 1)).map cEnt)), (3, .box 27 a.av)]⟩) ?_) (Turn.trans (Turn.move 123 40 rfl rfl rfl rfl rfl) (Turn.weak ?_))
                        · refine ⟨by repeat' (first | exact trivial | exact FinA.one (FinB.cell (FinC.same rfl)) | exact FinA.one (FinB.cell FinC.nil) | exact FinA.bound rfl | exact FinA.one (FinB.cell (FinC.own rfl rfl rfl rfl)) | exact FinA.one (FinB.cell (FinC.v (by first | rfl | (simp)))) | exact FinA.one (FinB.cell (FinC.ow rfl (by first | rfl | (simp)))) | exact FinA.one (FinB.agg' rfl rfl) | refine ⟨⟨_, rfl, ?_⟩, ?_⟩), by repeat' (first | exact trivial | refine ⟨⟨_, rfl, by first | rfl | (simp; done) | (simp [renO, *]; done)⟩, by first | rfl | assumption, ?_⟩), rfl⟩
                        · refine ⟨by repeat' (first | exact trivial | exact FinA.one (FinB.cell (FinC.same rfl)) | exact FinA.one (FinB.cell FinC.nil) | exact FinA.bound rfl | exact FinA.one (FinB.cell (FinC.own rfl rfl rfl rfl)) | exact FinA.one (FinB.cell (FinC.v (by first | rfl | (simp)))) | exact FinA.one (FinB.cell (FinC.ow rfl (by first | rfl | (simp)))) | exact FinA.one (FinB.agg' rfl rfl) | refine ⟨⟨_, rfl, ?_⟩, ?_⟩), by repeat' (first | exact trivial | refine ⟨⟨_, rfl, by first | rfl | (simp; done) | (simp [renO, *]; done)⟩, by first | rfl | assumption, ?_⟩), rfl⟩
                      exact arl_nil
                    exact arl_nil
                  exact arl_nil
                exact arl_nil
              exact arl_nil
            exact arl_nil
          apply arl_cons (i := 1) rfl rfl
          · exact lsq
          · skip
            refine ar_step [0] (by kernel_rfl) rfl ?_
            apply arl_cons (i := 0) rfl rfl
            · exact lsq
            · skip
              refine ar_step [2, 4] (by kernel_rfl) rfl ?_
              apply arl_cons (i := 2) rfl rfl
              · exact ls_cl hF rfl rfl rfl rfl
              · skip
                refine ar_step [3, 4] (by kernel_rfl) rfl ?_
                apply arl_cons (i := 3) rfl rfl
                · exact lsq
                · skip
                  refine ar_step [4] (by kernel_rfl) rfl ?_
                  apply arl_cons (i := 4) rfl rfl
                  · exact ls_cm hF rfl rfl rfl rfl
                  · skip
                    refine ar_step [5] (by kernel_rfl) rfl ?_
                    apply arl_cons (i := 5) rfl rfl
                    · exact lsq
                    · skip
                      refine ar_step [6] (by kernel_rfl) rfl ?_
                      apply arl_cons (i := 6) rfl rfl
                      · exact ls_ce (ms := ms) (t := a) rfl rfl rfl rfl rfl
                      · skip
                        refine ar_done (by kernel_rfl) ?_
                        repeat' (first | ((first | apply o_do | apply d_do | apply d_yes rfl rfl rfl); exact lsq) | refine a_seq ?_ | refine a_region ?_ | refine o_nil ?_ | refine a_block ?_ | refine a_ret ?_ | refine a_exit ?_ | refine a_skip ?_ | refine a_draw mixed ?_ | refine d_nil (by kernel_rfl) ?_ | refine o_yes rfl rfl rfl ?_ | refine o_no rfl rfl rfl (by decide) ?_ | refine o_no' rfl rfl rfl ?_ | refine a_condT rfl ?_ | refine a_condF rfl ?_ | refine d_no rfl rfl rfl (by decide) ?_ | refine d_no' rfl rfl rfl ?_ | (refine wq2 (fun hb => ?_) (fun hb => ?_) <;> (simp only [hb]; try simp only [hbs, ne_eq] at hb; try (exfalso; first | omega | exact hb trivial))) | fail)
                        refine ⟨⟨(q + 1, _, _, _, _), hC⟩, by dsimp only; omega, ?_⟩
                        refine Turn.trans (Turn.weak (t := ⟨[(0, .sl 2 (l.map Tm.av)), (3, .ref 0 0), (4, .mp 2), (7, .ref 3 0), (40, .v (.int .i64 l.length)), (41, .v (.int .i64 ((q + 1 : Nat) : Int)))], [(0, .box 50 [.own 123 (R.map Tm.av).length]), (1, .dead), (123, .row 27 2 (R.map Tm.av)), (2, .mp ((cSet ms a (cAt ms a - 1)).map cEnt)), (3, .box 27 a.av)]⟩) ?_) (Turn.trans (Turn.move 123 40 rfl rfl rfl rfl rfl) (Turn.weak ?_))
                        · refine ⟨by repeat' (first | exact trivial | exact FinA.one (FinB.cell (FinC.same rfl)) | exact FinA.one (FinB.cell FinC.nil) | exact FinA.bound rfl | exact FinA.one (FinB.cell (FinC.own rfl rfl rfl rfl)) | exact FinA.one (FinB.cell (FinC.v (by first | rfl | (simp)))) | exact FinA.one (FinB.cell (FinC.ow rfl (by first | rfl | (simp)))) | exact FinA.one (FinB.agg' rfl rfl) | refine ⟨⟨_, rfl, ?_⟩, ?_⟩), by repeat' (first | exact trivial | refine ⟨⟨_, rfl, by first | rfl | (simp; done) | (simp [renO, *]; done)⟩, by first | rfl | assumption, ?_⟩), rfl⟩
                        · refine ⟨by repeat' (first | exact trivial | exact FinA.one (FinB.cell (FinC.same rfl)) | exact FinA.one (FinB.cell FinC.nil) | exact FinA.bound rfl | exact FinA.one (FinB.cell (FinC.own rfl rfl rfl rfl)) | exact FinA.one (FinB.cell (FinC.v (by first | rfl | (simp)))) | exact FinA.one (FinB.cell (FinC.ow rfl (by first | rfl | (simp)))) | exact FinA.one (FinB.agg' rfl rfl) | refine ⟨⟨_, rfl, ?_⟩, ?_⟩), by repeat' (first | exact trivial | refine ⟨⟨_, rfl, by first | rfl | (simp; done) | (simp [renO, *]; done)⟩, by first | rfl | assumption, ?_⟩), rfl⟩
                      exact arl_nil
                    exact arl_nil
                  exact arl_nil
                apply arl_cons (i := 4) rfl rfl
                · exact ls_cm hF rfl rfl rfl rfl
                · skip
                  refine ar_step [3, 5] (by kernel_rfl) rfl ?_
                  apply arl_cons (i := 3) rfl rfl
                  · exact lsq
                  · skip
                    refine ar_step [5] (by kernel_rfl) rfl ?_
                    apply arl_cons (i := 5) rfl rfl
                    · exact lsq
                    · skip
                      refine ar_step [6] (by kernel_rfl) rfl ?_
                      apply arl_cons (i := 6) rfl rfl
                      · exact ls_ce (ms := ms) (t := a) rfl rfl rfl rfl rfl
                      · skip
                        refine ar_done (by kernel_rfl) ?_
                        repeat' (first | ((first | apply o_do | apply d_do | apply d_yes rfl rfl rfl); exact lsq) | refine a_seq ?_ | refine a_region ?_ | refine o_nil ?_ | refine a_block ?_ | refine a_ret ?_ | refine a_exit ?_ | refine a_skip ?_ | refine a_draw mixed ?_ | refine d_nil (by kernel_rfl) ?_ | refine o_yes rfl rfl rfl ?_ | refine o_no rfl rfl rfl (by decide) ?_ | refine o_no' rfl rfl rfl ?_ | refine a_condT rfl ?_ | refine a_condF rfl ?_ | refine d_no rfl rfl rfl (by decide) ?_ | refine d_no' rfl rfl rfl ?_ | (refine wq2 (fun hb => ?_) (fun hb => ?_) <;> (simp only [hb]; try simp only [hbs, ne_eq] at hb; try (exfalso; first | omega | exact hb trivial))) | fail)
                        refine ⟨⟨(q + 1, _, _, _, _), hC⟩, by dsimp only; omega, ?_⟩
                        refine Turn.trans (Turn.weak (t := ⟨[(0, .sl 2 (l.map Tm.av)), (3, .ref 0 0), (4, .mp 2), (7, .ref 3 0), (40, .v (.int .i64 l.length)), (41, .v (.int .i64 ((q + 1 : Nat) : Int)))], [(0, .box 50 [.own 123 (R.map Tm.av).length]), (1, .dead), (123, .row 27 2 (R.map Tm.av)), (2, .mp ((cSet ms a (cAt ms a - 1)).map cEnt)), (3, .box 27 a.av)]⟩) ?_) (Turn.trans (Turn.move 123 40 rfl rfl rfl rfl rfl) (Turn.weak ?_))
                        · refine ⟨by repeat' (first | exact trivial | exact FinA.one (FinB.cell (FinC.same rfl)) | exact FinA.one (FinB.cell FinC.nil) | exact FinA.bound rfl | exact FinA.one (FinB.cell (FinC.own rfl rfl rfl rfl)) | exact FinA.one (FinB.cell (FinC.v (by first | rfl | (simp)))) | exact FinA.one (FinB.cell (FinC.ow rfl (by first | rfl | (simp)))) | exact FinA.one (FinB.agg' rfl rfl) | refine ⟨⟨_, rfl, ?_⟩, ?_⟩), by repeat' (first | exact trivial | refine ⟨⟨_, rfl, by first | rfl | (simp; done) | (simp [renO, *]; done)⟩, by first | rfl | assumption, ?_⟩), rfl⟩
                        · refine ⟨by repeat' (first | exact trivial | exact FinA.one (FinB.cell (FinC.same rfl)) | exact FinA.one (FinB.cell FinC.nil) | exact FinA.bound rfl | exact FinA.one (FinB.cell (FinC.own rfl rfl rfl rfl)) | exact FinA.one (FinB.cell (FinC.v (by first | rfl | (simp)))) | exact FinA.one (FinB.cell (FinC.ow rfl (by first | rfl | (simp)))) | exact FinA.one (FinB.agg' rfl rfl) | refine ⟨⟨_, rfl, ?_⟩, ?_⟩), by repeat' (first | exact trivial | refine ⟨⟨_, rfl, by first | rfl | (simp; done) | (simp [renO, *]; done)⟩, by first | rfl | assumption, ?_⟩), rfl⟩
                      exact arl_nil
                    exact arl_nil
                  apply arl_cons (i := 5) rfl rfl
                  · exact lsq
                  · skip
                    refine ar_step [3] (by kernel_rfl) rfl ?_
                    apply arl_cons (i := 3) rfl rfl
                    · exact lsq
                    · skip
                      refine ar_step [6] (by kernel_rfl) rfl ?_
                      apply arl_cons (i := 6) rfl rfl
                      · exact ls_ce (ms := ms) (t := a) rfl rfl rfl rfl rfl
                      · skip
                        refine ar_done (by kernel_rfl) ?_
                        repeat' (first | ((first | apply o_do | apply d_do | apply d_yes rfl rfl rfl); exact lsq) | refine a_seq ?_ | refine a_region ?_ | refine o_nil ?_ | refine a_block ?_ | refine a_ret ?_ | refine a_exit ?_ | refine a_skip ?_ | refine a_draw mixed ?_ | refine d_nil (by kernel_rfl) ?_ | refine o_yes rfl rfl rfl ?_ | refine o_no rfl rfl rfl (by decide) ?_ | refine o_no' rfl rfl rfl ?_ | refine a_condT rfl ?_ | refine a_condF rfl ?_ | refine d_no rfl rfl rfl (by decide) ?_ | refine d_no' rfl rfl rfl ?_ | (refine wq2 (fun hb => ?_) (fun hb => ?_) <;> (simp only [hb]; try simp only [hbs, ne_eq] at hb; try (exfalso; first | omega | exact hb trivial))) | fail)
                        refine ⟨⟨(q + 1, _, _, _, _), hC⟩, by dsimp only; omega, ?_⟩
                        refine Turn.trans (Turn.weak (t := ⟨[(0, .sl 2 (l.map Tm.av)), (3, .ref 0 0), (4, .mp 2), (7, .ref 3 0), (40, .v (.int .i64 l.length)), (41, .v (.int .i64 ((q + 1 : Nat) : Int)))], [(0, .box 50 [.own 123 (R.map Tm.av).length]), (1, .dead), (123, .row 27 2 (R.map Tm.av)), (2, .mp ((cSet ms a (cAt ms a - 1)).map cEnt)), (3, .box 27 a.av)]⟩) ?_) (Turn.trans (Turn.move 123 40 rfl rfl rfl rfl rfl) (Turn.weak ?_))
                        · refine ⟨by repeat' (first | exact trivial | exact FinA.one (FinB.cell (FinC.same rfl)) | exact FinA.one (FinB.cell FinC.nil) | exact FinA.bound rfl | exact FinA.one (FinB.cell (FinC.own rfl rfl rfl rfl)) | exact FinA.one (FinB.cell (FinC.v (by first | rfl | (simp)))) | exact FinA.one (FinB.cell (FinC.ow rfl (by first | rfl | (simp)))) | exact FinA.one (FinB.agg' rfl rfl) | refine ⟨⟨_, rfl, ?_⟩, ?_⟩), by repeat' (first | exact trivial | refine ⟨⟨_, rfl, by first | rfl | (simp; done) | (simp [renO, *]; done)⟩, by first | rfl | assumption, ?_⟩), rfl⟩
                        · refine ⟨by repeat' (first | exact trivial | exact FinA.one (FinB.cell (FinC.same rfl)) | exact FinA.one (FinB.cell FinC.nil) | exact FinA.bound rfl | exact FinA.one (FinB.cell (FinC.own rfl rfl rfl rfl)) | exact FinA.one (FinB.cell (FinC.v (by first | rfl | (simp)))) | exact FinA.one (FinB.cell (FinC.ow rfl (by first | rfl | (simp)))) | exact FinA.one (FinB.agg' rfl rfl) | refine ⟨⟨_, rfl, ?_⟩, ?_⟩), by repeat' (first | exact trivial | refine ⟨⟨_, rfl, by first | rfl | (simp; done) | (simp [renO, *]; done)⟩, by first | rfl | assumption, ?_⟩), rfl⟩
                      exact arl_nil
                    exact arl_nil
                  exact arl_nil
                exact arl_nil
              apply arl_cons (i := 4) rfl rfl
              · exact ls_cm hF rfl rfl rfl rfl
              · skip
                refine ar_step [2, 5] (by kernel_rfl) rfl ?_
                apply arl_cons (i := 2) rfl rfl
                · exact ls_cl' hF rfl rfl rfl rfl
                · skip
                  refine ar_step [3, 5] (by kernel_rfl) rfl ?_
                  apply arl_cons (i := 3) rfl rfl
                  · exact lsq
                  · skip
                    refine ar_step [5] (by kernel_rfl) rfl ?_
                    apply arl_cons (i := 5) rfl rfl
                    · exact lsq
                    · skip
                      refine ar_step [6] (by kernel_rfl) rfl ?_
                      apply arl_cons (i := 6) rfl rfl
                      · exact ls_ce (ms := ms) (t := a) rfl rfl rfl rfl rfl
                      · skip
                        refine ar_done (by kernel_rfl) ?_
                        repeat' (first | ((first | apply o_do | apply d_do | apply d_yes rfl rfl rfl); exact lsq) | refine a_seq ?_ | refine a_region ?_ | refine o_nil ?_ | refine a_block ?_ | refine a_ret ?_ | refine a_exit ?_ | refine a_skip ?_ | refine a_draw mixed ?_ | refine d_nil (by kernel_rfl) ?_ | refine o_yes rfl rfl rfl ?_ | refine o_no rfl rfl rfl (by decide) ?_ | refine o_no' rfl rfl rfl ?_ | refine a_condT rfl ?_ | refine a_condF rfl ?_ | refine d_no rfl rfl rfl (by decide) ?_ | refine d_no' rfl rfl rfl ?_ | (refine wq2 (fun hb => ?_) (fun hb => ?_) <;> (simp only [hb]; try simp only [hbs, ne_eq] at hb; try (exfalso; first | omega | exact hb trivial))) | fail)
                        refine ⟨⟨(q + 1, _, _, _, _), hC⟩, by dsimp only; omega, ?_⟩
                        refine Turn.trans (Turn.weak (t := ⟨[(0, .sl 2 (l.map Tm.av)), (3, .ref 0 0), (4, .mp 2), (7, .ref 3 0), (40, .v (.int .i64 l.length)), (41, .v (.int .i64 ((q + 1 : Nat) : Int)))], [(0, .box 50 [.own 123 (R.map Tm.av).length]), (1, .dead), (123, .row 27 2 (R.map Tm.av)), (2, .mp ((cSet ms a (cAt ms a - 1)).map cEnt)), (3, .box 27 a.av)]⟩) ?_) (Turn.trans (Turn.move 123 40 rfl rfl rfl rfl rfl) (Turn.weak ?_))
                        · refine ⟨by repeat' (first | exact trivial | exact FinA.one (FinB.cell (FinC.same rfl)) | exact FinA.one (FinB.cell FinC.nil) | exact FinA.bound rfl | exact FinA.one (FinB.cell (FinC.own rfl rfl rfl rfl)) | exact FinA.one (FinB.cell (FinC.v (by first | rfl | (simp)))) | exact FinA.one (FinB.cell (FinC.ow rfl (by first | rfl | (simp)))) | exact FinA.one (FinB.agg' rfl rfl) | refine ⟨⟨_, rfl, ?_⟩, ?_⟩), by repeat' (first | exact trivial | refine ⟨⟨_, rfl, by first | rfl | (simp; done) | (simp [renO, *]; done)⟩, by first | rfl | assumption, ?_⟩), rfl⟩
                        · refine ⟨by repeat' (first | exact trivial | exact FinA.one (FinB.cell (FinC.same rfl)) | exact FinA.one (FinB.cell FinC.nil) | exact FinA.bound rfl | exact FinA.one (FinB.cell (FinC.own rfl rfl rfl rfl)) | exact FinA.one (FinB.cell (FinC.v (by first | rfl | (simp)))) | exact FinA.one (FinB.cell (FinC.ow rfl (by first | rfl | (simp)))) | exact FinA.one (FinB.agg' rfl rfl) | refine ⟨⟨_, rfl, ?_⟩, ?_⟩), by repeat' (first | exact trivial | refine ⟨⟨_, rfl, by first | rfl | (simp; done) | (simp [renO, *]; done)⟩, by first | rfl | assumption, ?_⟩), rfl⟩
                      exact arl_nil
                    exact arl_nil
                  apply arl_cons (i := 5) rfl rfl
                  · exact lsq
                  · skip
                    refine ar_step [3] (by kernel_rfl) rfl ?_
                    apply arl_cons (i := 3) rfl rfl
                    · exact lsq
                    · skip
                      refine ar_step [6] (by kernel_rfl) rfl ?_
                      apply arl_cons (i := 6) rfl rfl
                      · exact ls_ce (ms := ms) (t := a) rfl rfl rfl rfl rfl
                      · skip
                        refine ar_done (by kernel_rfl) ?_
                        repeat' (first | ((first | apply o_do | apply d_do | apply d_yes rfl rfl rfl); exact lsq) | refine a_seq ?_ | refine a_region ?_ | refine o_nil ?_ | refine a_block ?_ | refine a_ret ?_ | refine a_exit ?_ | refine a_skip ?_ | refine a_draw mixed ?_ | refine d_nil (by kernel_rfl) ?_ | refine o_yes rfl rfl rfl ?_ | refine o_no rfl rfl rfl (by decide) ?_ | refine o_no' rfl rfl rfl ?_ | refine a_condT rfl ?_ | refine a_condF rfl ?_ | refine d_no rfl rfl rfl (by decide) ?_ | refine d_no' rfl rfl rfl ?_ | (refine wq2 (fun hb => ?_) (fun hb => ?_) <;> (simp only [hb]; try simp only [hbs, ne_eq] at hb; try (exfalso; first | omega | exact hb trivial))) | fail)
                        refine ⟨⟨(q + 1, _, _, _, _), hC⟩, by dsimp only; omega, ?_⟩
                        refine Turn.trans (Turn.weak (t := ⟨[(0, .sl 2 (l.map Tm.av)), (3, .ref 0 0), (4, .mp 2), (7, .ref 3 0), (40, .v (.int .i64 l.length)), (41, .v (.int .i64 ((q + 1 : Nat) : Int)))], [(0, .box 50 [.own 123 (R.map Tm.av).length]), (1, .dead), (123, .row 27 2 (R.map Tm.av)), (2, .mp ((cSet ms a (cAt ms a - 1)).map cEnt)), (3, .box 27 a.av)]⟩) ?_) (Turn.trans (Turn.move 123 40 rfl rfl rfl rfl rfl) (Turn.weak ?_))
                        · refine ⟨by repeat' (first | exact trivial | exact FinA.one (FinB.cell (FinC.same rfl)) | exact FinA.one (FinB.cell FinC.nil) | exact FinA.bound rfl | exact FinA.one (FinB.cell (FinC.own rfl rfl rfl rfl)) | exact FinA.one (FinB.cell (FinC.v (by first | rfl | (simp)))) | exact FinA.one (FinB.cell (FinC.ow rfl (by first | rfl | (simp)))) | exact FinA.one (FinB.agg' rfl rfl) | refine ⟨⟨_, rfl, ?_⟩, ?_⟩), by repeat' (first | exact trivial | refine ⟨⟨_, rfl, by first | rfl | (simp; done) | (simp [renO, *]; done)⟩, by first | rfl | assumption, ?_⟩), rfl⟩
                        · refine ⟨by repeat' (first | exact trivial | exact FinA.one (FinB.cell (FinC.same rfl)) | exact FinA.one (FinB.cell FinC.nil) | exact FinA.bound rfl | exact FinA.one (FinB.cell (FinC.own rfl rfl rfl rfl)) | exact FinA.one (FinB.cell (FinC.v (by first | rfl | (simp)))) | exact FinA.one (FinB.cell (FinC.ow rfl (by first | rfl | (simp)))) | exact FinA.one (FinB.agg' rfl rfl) | refine ⟨⟨_, rfl, ?_⟩, ?_⟩), by repeat' (first | exact trivial | refine ⟨⟨_, rfl, by first | rfl | (simp; done) | (simp [renO, *]; done)⟩, by first | rfl | assumption, ?_⟩), rfl⟩
                      exact arl_nil
                    exact arl_nil
                  exact arl_nil
                apply arl_cons (i := 5) rfl rfl
                · exact lsq
                · skip
                  refine ar_step [2] (by kernel_rfl) rfl ?_
                  apply arl_cons (i := 2) rfl rfl
                  · exact ls_cl' hF rfl rfl rfl rfl
                  · skip
                    refine ar_step [3] (by kernel_rfl) rfl ?_
                    apply arl_cons (i := 3) rfl rfl
                    · exact lsq
                    · skip
                      refine ar_step [6] (by kernel_rfl) rfl ?_
                      apply arl_cons (i := 6) rfl rfl
                      · exact ls_ce (ms := ms) (t := a) rfl rfl rfl rfl rfl
                      · skip
                        refine ar_done (by kernel_rfl) ?_
                        repeat' (first | ((first | apply o_do | apply d_do | apply d_yes rfl rfl rfl); exact lsq) | refine a_seq ?_ | refine a_region ?_ | refine o_nil ?_ | refine a_block ?_ | refine a_ret ?_ | refine a_exit ?_ | refine a_skip ?_ | refine a_draw mixed ?_ | refine d_nil (by kernel_rfl) ?_ | refine o_yes rfl rfl rfl ?_ | refine o_no rfl rfl rfl (by decide) ?_ | refine o_no' rfl rfl rfl ?_ | refine a_condT rfl ?_ | refine a_condF rfl ?_ | refine d_no rfl rfl rfl (by decide) ?_ | refine d_no' rfl rfl rfl ?_ | (refine wq2 (fun hb => ?_) (fun hb => ?_) <;> (simp only [hb]; try simp only [hbs, ne_eq] at hb; try (exfalso; first | omega | exact hb trivial))) | fail)
                        refine ⟨⟨(q + 1, _, _, _, _), hC⟩, by dsimp only; omega, ?_⟩
                        refine Turn.trans (Turn.weak (t := ⟨[(0, .sl 2 (l.map Tm.av)), (3, .ref 0 0), (4, .mp 2), (7, .ref 3 0), (40, .v (.int .i64 l.length)), (41, .v (.int .i64 ((q + 1 : Nat) : Int)))], [(0, .box 50 [.own 123 (R.map Tm.av).length]), (1, .dead), (123, .row 27 2 (R.map Tm.av)), (2, .mp ((cSet ms a (cAt ms a - 1)).map cEnt)), (3, .box 27 a.av)]⟩) ?_) (Turn.trans (Turn.move 123 40 rfl rfl rfl rfl rfl) (Turn.weak ?_))
                        · refine ⟨by repeat' (first | exact trivial | exact FinA.one (FinB.cell (FinC.same rfl)) | exact FinA.one (FinB.cell FinC.nil) | exact FinA.bound rfl | exact FinA.one (FinB.cell (FinC.own rfl rfl rfl rfl)) | exact FinA.one (FinB.cell (FinC.v (by first | rfl | (simp)))) | exact FinA.one (FinB.cell (FinC.ow rfl (by first | rfl | (simp)))) | exact FinA.one (FinB.agg' rfl rfl) | refine ⟨⟨_, rfl, ?_⟩, ?_⟩), by repeat' (first | exact trivial | refine ⟨⟨_, rfl, by first | rfl | (simp; done) | (simp [renO, *]; done)⟩, by first | rfl | assumption, ?_⟩), rfl⟩
                        · refine ⟨by repeat' (first | exact trivial | exact FinA.one (FinB.cell (FinC.same rfl)) | exact FinA.one (FinB.cell FinC.nil) | exact FinA.bound rfl | exact FinA.one (FinB.cell (FinC.own rfl rfl rfl rfl)) | exact FinA.one (FinB.cell (FinC.v (by first | rfl | (simp)))) | exact FinA.one (FinB.cell (FinC.ow rfl (by first | rfl | (simp)))) | exact FinA.one (FinB.agg' rfl rfl) | refine ⟨⟨_, rfl, ?_⟩, ?_⟩), by repeat' (first | exact trivial | refine ⟨⟨_, rfl, by first | rfl | (simp; done) | (simp [renO, *]; done)⟩, by first | rfl | assumption, ?_⟩), rfl⟩
                      exact arl_nil
                    exact arl_nil
                  exact arl_nil
                exact arl_nil
              exact arl_nil
            exact arl_nil
          exact arl_nil
        · repeat' (first | ((first | apply o_do | apply d_do | apply d_yes rfl rfl rfl); first | exact ls_callA [0, 40] 100 hP rfl rfl (by (repeat' (first | exact NilL.nil | refine NilL.cons Nil.same ?_ | refine NilL.cons Nil.nil ?_ | refine NilL.cons (Nil.agg ?_) ?_ | exact Nil1s.nil | refine Nil1s.cons Nil1.same ?_ | refine Nil1s.cons Nil1.nil ?_)); first | done | fail) rfl (by repeat' (first | exact trivial | refine ⟨⟨_, rfl, by first | rfl | (simp [renO, *]; done)⟩, ?_⟩)) (by first | rfl | simp [closO, *]) rfl rfl rfl rfl (by first | rfl | simp [closO, *]) rfl | exact ls_cl hF rfl rfl rfl rfl | exact lsq) | refine a_seq ?_ | refine a_region ?_ | refine o_nil ?_ | refine a_block ?_ | refine a_ret ?_ | refine a_exit ?_ | refine a_skip ?_ | refine a_drawA mixed ?_ | refine d_nil (by kernel_rfl) ?_ | refine o_yes rfl rfl rfl ?_ | refine o_no rfl rfl rfl (by decide) ?_ | refine o_no' rfl rfl rfl ?_ | refine a_condT rfl ?_ | refine a_condF rfl ?_ | refine d_no rfl rfl rfl (by decide) ?_ | refine d_no' rfl rfl rfl ?_ | (refine wq2 (fun hb => ?_) (fun hb => ?_) <;> (simp only [hb]; try simp only [hbs, ne_eq] at hb; try (exfalso; first | omega | exact hb trivial))) | fail)
          refine ar_step [0, 1] (by kernel_rfl) rfl ?_
          apply arl_cons (i := 0) rfl rfl
          · exact lsq
          · skip
            refine ar_step [1] (by kernel_rfl) rfl ?_
            apply arl_cons (i := 1) rfl rfl
            · exact lsq
            · skip
              refine ar_step [2, 4] (by kernel_rfl) rfl ?_
              apply arl_cons (i := 2) rfl rfl
              · exact ls_cl hF rfl rfl rfl rfl
              · skip
                refine ar_step [3, 4] (by kernel_rfl) rfl ?_
                apply arl_cons (i := 3) rfl rfl
                · exact lsq
                · skip
                  refine ar_step [4] (by kernel_rfl) rfl ?_
                  apply arl_cons (i := 4) rfl rfl
                  · exact ls_cm hF rfl rfl rfl rfl
                  · skip
                    refine ar_step [5] (by kernel_rfl) rfl ?_
                    apply arl_cons (i := 5) rfl rfl
                    · exact lsq
                    · skip
                      refine ar_step [6] (by kernel_rfl) rfl ?_
                      apply arl_cons (i := 6) rfl rfl
                      · exact ls_ce (ms := ms) (t := a) rfl rfl rfl rfl rfl
                      · skip
                        refine ar_done (by kernel_rfl) ?_
                        repeat' (first | ((first | apply o_do | apply d_do | apply d_yes rfl rfl rfl); exact lsq) | refine a_seq ?_ | refine a_region ?_ | refine o_nil ?_ | refine a_block ?_ | refine a_ret ?_ | refine a_exit ?_ | refine a_skip ?_ | refine a_draw mixed ?_ | refine d_nil (by kernel_rfl) ?_ | refine o_yes rfl rfl rfl ?_ | refine o_no rfl rfl rfl (by decide) ?_ | refine o_no' rfl rfl rfl ?_ | refine a_condT rfl ?_ | refine a_condF rfl ?_ | refine d_no rfl rfl rfl (by decide) ?_ | refine d_no' rfl rfl rfl ?_ | (refine wq2 (fun hb => ?_) (fun hb => ?_) <;> (simp only [hb]; try simp only [hbs, ne_eq] at hb; try (exfalso; first | omega | exact hb trivial))) | fail)
                        refine ⟨⟨(q + 1, _, _, _, _), hC⟩, by dsimp only; omega, ?_⟩
                        refine Turn.trans (Turn.weak (t := ⟨[(0, .sl 2 (l.map Tm.av)), (3, .ref 0 0), (4, .mp 2), (7, .ref 3 0), (40, .v (.int .i64 l.length)), (41, .v (.int .i64 ((q + 1 : Nat) : Int)))], [(0, .box 50 [.own 123 (R.map Tm.av).length]), (1, .dead), (123, .row 27 2 (R.map Tm.av)), (2, .mp ((cSet ms a (cAt ms a - 1)).map cEnt)), (3, .box 27 a.av)]⟩) ?_) (Turn.trans (Turn.move 123 40 rfl rfl rfl rfl rfl) (Turn.weak ?_))
                        · refine ⟨by repeat' (first | exact trivial | exact FinA.one (FinB.cell (FinC.same rfl)) | exact FinA.one (FinB.cell FinC.nil) | exact FinA.bound rfl | exact FinA.one (FinB.cell (FinC.own rfl rfl rfl rfl)) | exact FinA.one (FinB.cell (FinC.v (by first | rfl | (simp)))) | exact FinA.one (FinB.cell (FinC.ow rfl (by first | rfl | (simp)))) | exact FinA.one (FinB.agg' rfl rfl) | refine ⟨⟨_, rfl, ?_⟩, ?_⟩), by repeat' (first | exact trivial | refine ⟨⟨_, rfl, by first | rfl | (simp; done) | (simp [renO, *]; done)⟩, by first | rfl | assumption, ?_⟩), rfl⟩
                        · refine ⟨by repeat' (first | exact trivial | exact FinA.one (FinB.cell (FinC.same rfl)) | exact FinA.one (FinB.cell FinC.nil) | exact FinA.bound rfl | exact FinA.one (FinB.cell (FinC.own rfl rfl rfl rfl)) | exact FinA.one (FinB.cell (FinC.v (by first | rfl | (simp)))) | exact FinA.one (FinB.cell (FinC.ow rfl (by first | rfl | (simp)))) | exact FinA.one (FinB.agg' rfl rfl) | refine ⟨⟨_, rfl, ?_⟩, ?_⟩), by repeat' (first | exact trivial | refine ⟨⟨_, rfl, by first | rfl | (simp; done) | (simp [renO, *]; done)⟩, by first | rfl | assumption, ?_⟩), rfl⟩
                      exact arl_nil
                    exact arl_nil
                  exact arl_nil
                apply arl_cons (i := 4) rfl rfl
                · exact ls_cm hF rfl rfl rfl rfl
                · skip
                  refine ar_step [3, 5] (by kernel_rfl) rfl ?_
                  apply arl_cons (i := 3) rfl rfl
                  · exact lsq
                  · skip
                    refine ar_step [5] (by kernel_rfl) rfl ?_
                    apply arl_cons (i := 5) rfl rfl
                    · exact lsq
                    · skip
                      refine ar_step [6] (by kernel_rfl) rfl ?_
                      apply arl_cons (i := 6) rfl rfl
                      · exact ls_ce (ms := ms) (t := a) rfl rfl rfl rfl rfl
                      · skip
                        refine ar_done (by kernel_rfl) ?_
                        repeat' (first | ((first | apply o_do | apply d_do | apply d_yes rfl rfl rfl); exact lsq) | refine a_seq ?_ | refine a_region ?_ | refine o_nil ?_ | refine a_block ?_ | refine a_ret ?_ | refine a_exit ?_ | refine a_skip ?_ | refine a_draw mixed ?_ | refine d_nil (by kernel_rfl) ?_ | refine o_yes rfl rfl rfl ?_ | refine o_no rfl rfl rfl (by decide) ?_ | refine o_no' rfl rfl rfl ?_ | refine a_condT rfl ?_ | refine a_condF rfl ?_ | refine d_no rfl rfl rfl (by decide) ?_ | refine d_no' rfl rfl rfl ?_ | (refine wq2 (fun hb => ?_) (fun hb => ?_) <;> (simp only [hb]; try simp only [hbs, ne_eq] at hb; try (exfalso; first | omega | exact hb trivial))) | fail)
                        refine ⟨⟨(q + 1, _, _, _, _), hC⟩, by dsimp only; omega, ?_⟩
                        refine Turn.trans (Turn.weak (t := ⟨[(0, .sl 2 (l.map Tm.av)), (3, .ref 0 0), (4, .mp 2), (7, .ref 3 0), (40, .v (.int .i64 l.length)), (41, .v (.int .i64 ((q + 1 : Nat) : Int)))], [(0, .box 50 [.own 123 (R.map Tm.av).length]), (1, .dead), (123, .row 27 2 (R.map Tm.av)), (2, .mp ((cSet ms a (cAt ms a - 1)).map cEnt)), (3, .box 27 a.av)]⟩) ?_) (Turn.trans (Turn.move 123 40 rfl rfl rfl rfl rfl) (Turn.weak ?_))
                        · refine ⟨by repeat' (first | exact trivial | exact FinA.one (FinB.cell (FinC.same rfl)) | exact FinA.one (FinB.cell FinC.nil) | exact FinA.bound rfl | exact FinA.one (FinB.cell (FinC.own rfl rfl rfl rfl)) | exact FinA.one (FinB.cell (FinC.v (by first | rfl | (simp)))) | exact FinA.one (FinB.cell (FinC.ow rfl (by first | rfl | (simp)))) | exact FinA.one (FinB.agg' rfl rfl) | refine ⟨⟨_, rfl, ?_⟩, ?_⟩), by repeat' (first | exact trivial | refine ⟨⟨_, rfl, by first | rfl | (simp; done) | (simp [renO, *]; done)⟩, by first | rfl | assumption, ?_⟩), rfl⟩
                        · refine ⟨by repeat' (first | exact trivial | exact FinA.one (FinB.cell (FinC.same rfl)) | exact FinA.one (FinB.cell FinC.nil) | exact FinA.bound rfl | exact FinA.one (FinB.cell (FinC.own rfl rfl rfl rfl)) | exact FinA.one (FinB.cell (FinC.v (by first | rfl | (simp)))) | exact FinA.one (FinB.cell (FinC.ow rfl (by first | rfl | (simp)))) | exact FinA.one (FinB.agg' rfl rfl) | refine ⟨⟨_, rfl, ?_⟩, ?_⟩), by repeat' (first | exact trivial | refine ⟨⟨_, rfl, by first | rfl | (simp; done) | (simp [renO, *]; done)⟩, by first | rfl | assumption, ?_⟩), rfl⟩
                      exact arl_nil
                    exact arl_nil
                  apply arl_cons (i := 5) rfl rfl
                  · exact lsq
                  · skip
                    refine ar_step [3] (by kernel_rfl) rfl ?_
                    apply arl_cons (i := 3) rfl rfl
                    · exact lsq
                    · skip
                      refine ar_step [6] (by kernel_rfl) rfl ?_
                      apply arl_cons (i := 6) rfl rfl
                      · exact ls_ce (ms := ms) (t := a) rfl rfl rfl rfl rfl
                      · skip
                        refine ar_done (by kernel_rfl) ?_
                        repeat' (first | ((first | apply o_do | apply d_do | apply d_yes rfl rfl rfl); exact lsq) | refine a_seq ?_ | refine a_region ?_ | refine o_nil ?_ | refine a_block ?_ | refine a_ret ?_ | refine a_exit ?_ | refine a_skip ?_ | refine a_draw mixed ?_ | refine d_nil (by kernel_rfl) ?_ | refine o_yes rfl rfl rfl ?_ | refine o_no rfl rfl rfl (by decide) ?_ | refine o_no' rfl rfl rfl ?_ | refine a_condT rfl ?_ | refine a_condF rfl ?_ | refine d_no rfl rfl rfl (by decide) ?_ | refine d_no' rfl rfl rfl ?_ | (refine wq2 (fun hb => ?_) (fun hb => ?_) <;> (simp only [hb]; try simp only [hbs, ne_eq] at hb; try (exfalso; first | omega | exact hb trivial))) | fail)
                        refine ⟨⟨(q + 1, _, _, _, _), hC⟩, by dsimp only; omega, ?_⟩
                        refine Turn.trans (Turn.weak (t := ⟨[(0, .sl 2 (l.map Tm.av)), (3, .ref 0 0), (4, .mp 2), (7, .ref 3 0), (40, .v (.int .i64 l.length)), (41, .v (.int .i64 ((q + 1 : Nat) : Int)))], [(0, .box 50 [.own 123 (R.map Tm.av).length]), (1, .dead), (123, .row 27 2 (R.map Tm.av)), (2, .mp ((cSet ms a (cAt ms a - 1)).map cEnt)), (3, .box 27 a.av)]⟩) ?_) (Turn.trans (Turn.move 123 40 rfl rfl rfl rfl rfl) (Turn.weak ?_))
                        · refine ⟨by repeat' (first | exact trivial | exact FinA.one (FinB.cell (FinC.same rfl)) | exact FinA.one (FinB.cell FinC.nil) | exact FinA.bound rfl | exact FinA.one (FinB.cell (FinC.own rfl rfl rfl rfl)) | exact FinA.one (FinB.cell (FinC.v (by first | rfl | (simp)))) | exact FinA.one (FinB.cell (FinC.ow rfl (by first | rfl | (simp)))) | exact FinA.one (FinB.agg' rfl rfl) | refine ⟨⟨_, rfl, ?_⟩, ?_⟩), by repeat' (first | exact trivial | refine ⟨⟨_, rfl, by first | rfl | (simp; done) | (simp [renO, *]; done)⟩, by first | rfl | assumption, ?_⟩), rfl⟩
                        · refine ⟨by repeat' (first | exact trivial | exact FinA.one (FinB.cell (FinC.same rfl)) | exact FinA.one (FinB.cell FinC.nil) | exact FinA.bound rfl | exact FinA.one (FinB.cell (FinC.own rfl rfl rfl rfl)) | exact FinA.one (FinB.cell (FinC.v (by first | rfl | (simp)))) | exact FinA.one (FinB.cell (FinC.ow rfl (by first | rfl | (simp)))) | exact FinA.one (FinB.agg' rfl rfl) | refine ⟨⟨_, rfl, ?_⟩, ?_⟩), by repeat' (first | exact trivial | refine ⟨⟨_, rfl, by first | rfl | (simp; done) | (simp [renO, *]; done)⟩, by first | rfl | assumption, ?_⟩), rfl⟩
                      exact arl_nil
                    exact arl_nil
                  exact arl_nil
                exact arl_nil
              apply arl_cons (i := 4) rfl rfl
              · exact ls_cm hF rfl rfl rfl rfl
              · skip
                refine ar_step [2, 5] (by kernel_rfl) rfl ?_
                apply arl_cons (i := 2) rfl rfl
                · exact ls_cl' hF rfl rfl rfl rfl
                · skip
                  refine ar_step [3, 5] (by kernel_rfl) rfl ?_
                  apply arl_cons (i := 3) rfl rfl
                  · exact lsq
                  · skip
                    refine ar_step [5] (by kernel_rfl) rfl ?_
                    apply arl_cons (i := 5) rfl rfl
                    · exact lsq
                    · skip
                      refine ar_step [6] (by kernel_rfl) rfl ?_
                      apply arl_cons (i := 6) rfl rfl
                      · exact ls_ce (ms := ms) (t := a) rfl rfl rfl rfl rfl
                      · skip
                        refine ar_done (by kernel_rfl) ?_
                        repeat' (first | ((first | apply o_do | apply d_do | apply d_yes rfl rfl rfl); exact lsq) | refine a_seq ?_ | refine a_region ?_ | refine o_nil ?_ | refine a_block ?_ | refine a_ret ?_ | refine a_exit ?_ | refine a_skip ?_ | refine a_draw mixed ?_ | refine d_nil (by kernel_rfl) ?_ | refine o_yes rfl rfl rfl ?_ | refine o_no rfl rfl rfl (by decide) ?_ | refine o_no' rfl rfl rfl ?_ | refine a_condT rfl ?_ | refine a_condF rfl ?_ | refine d_no rfl rfl rfl (by decide) ?_ | refine d_no' rfl rfl rfl ?_ | (refine wq2 (fun hb => ?_) (fun hb => ?_) <;> (simp only [hb]; try simp only [hbs, ne_eq] at hb; try (exfalso; first | omega | exact hb trivial))) | fail)
                        refine ⟨⟨(q + 1, _, _, _, _), hC⟩, by dsimp only; omega, ?_⟩
                        refine Turn.trans (Turn.weak (t := ⟨[(0, .sl 2 (l.map Tm.av)), (3, .ref 0 0), (4, .mp 2), (7, .ref 3 0), (40, .v (.int .i64 l.length)), (41, .v (.int .i64 ((q + 1 : Nat) : Int)))], [(0, .box 50 [.own 123 (R.map Tm.av).length]), (1, .dead), (123, .row 27 2 (R.map Tm.av)), (2, .mp ((cSet ms a (cAt ms a - 1)).map cEnt)), (3, .box 27 a.av)]⟩) ?_) (Turn.trans (Turn.move 123 40 rfl rfl rfl rfl rfl) (Turn.weak ?_))
                        · refine ⟨by repeat' (first | exact trivial | exact FinA.one (FinB.cell (FinC.same rfl)) | exact FinA.one (FinB.cell FinC.nil) | exact FinA.bound rfl | exact FinA.one (FinB.cell (FinC.own rfl rfl rfl rfl)) | exact FinA.one (FinB.cell (FinC.v (by first | rfl | (simp)))) | exact FinA.one (FinB.cell (FinC.ow rfl (by first | rfl | (simp)))) | exact FinA.one (FinB.agg' rfl rfl) | refine ⟨⟨_, rfl, ?_⟩, ?_⟩), by repeat' (first | exact trivial | refine ⟨⟨_, rfl, by first | rfl | (simp; done) | (simp [renO, *]; done)⟩, by first | rfl | assumption, ?_⟩), rfl⟩
                        · refine ⟨by repeat' (first | exact trivial | exact FinA.one (FinB.cell (FinC.same rfl)) | exact FinA.one (FinB.cell FinC.nil) | exact FinA.bound rfl | exact FinA.one (FinB.cell (FinC.own rfl rfl rfl rfl)) | exact FinA.one (FinB.cell (FinC.v (by first | rfl | (simp)))) | exact FinA.one (FinB.cell (FinC.ow rfl (by first | rfl | (simp)))) | exact FinA.one (FinB.agg' rfl rfl) | refine ⟨⟨_, rfl, ?_⟩, ?_⟩), by repeat' (first | exact trivial | refine ⟨⟨_, rfl, by first | rfl | (simp; done) | (simp [renO, *]; done)⟩, by first | rfl | assumption, ?_⟩), rfl⟩
                      exact arl_nil
                    exact arl_nil
                  apply arl_cons (i := 5) rfl rfl
                  · exact lsq
                  · skip
                    refine ar_step [3] (by kernel_rfl) rfl ?_
                    apply arl_cons (i := 3) rfl rfl
                    · exact lsq
                    · skip
                      refine ar_step [6] (by kernel_rfl) rfl ?_
                      apply arl_cons (i := 6) rfl rfl
                      · exact ls_ce (ms := ms) (t := a) rfl rfl rfl rfl rfl
                      · skip
                        refine ar_done (by kernel_rfl) ?_
                        repeat' (first | ((first | apply o_do | apply d_do | apply d_yes rfl rfl rfl); exact lsq) | refine a_seq ?_ | refine a_region ?_ | refine o_nil ?_ | refine a_block ?_ | refine a_ret ?_ | refine a_exit ?_ | refine a_skip ?_ | refine a_draw mixed ?_ | refine d_nil (by kernel_rfl) ?_ | refine o_yes rfl rfl rfl ?_ | refine o_no rfl rfl rfl (by decide) ?_ | refine o_no' rfl rfl rfl ?_ | refine a_condT rfl ?_ | refine a_condF rfl ?_ | refine d_no rfl rfl rfl (by decide) ?_ | refine d_no' rfl rfl rfl ?_ | (refine wq2 (fun hb => ?_) (fun hb => ?_) <;> (simp only [hb]; try simp only [hbs, ne_eq] at hb; try (exfalso; first | omega | exact hb trivial))) | fail)
                        refine ⟨⟨(q + 1, _, _, _, _), hC⟩, by dsimp only; omega, ?_⟩
                        refine Turn.trans (Turn.weak (t := ⟨[(0, .sl 2 (l.map Tm.av)), (3, .ref 0 0), (4, .mp 2), (7, .ref 3 0), (40, .v (.int .i64 l.length)), (41, .v (.int .i64 ((q + 1 : Nat) : Int)))], [(0, .box 50 [.own 123 (R.map Tm.av).length]), (1, .dead), (123, .row 27 2 (R.map Tm.av)), (2, .mp ((cSet ms a (cAt ms a - 1)).map cEnt)), (3, .box 27 a.av)]⟩) ?_) (Turn.trans (Turn.move 123 40 rfl rfl rfl rfl rfl) (Turn.weak ?_))
                        · refine ⟨by repeat' (first | exact trivial | exact FinA.one (FinB.cell (FinC.same rfl)) | exact FinA.one (FinB.cell FinC.nil) | exact FinA.bound rfl | exact FinA.one (FinB.cell (FinC.own rfl rfl rfl rfl)) | exact FinA.one (FinB.cell (FinC.v (by first | rfl | (simp)))) | exact FinA.one (FinB.cell (FinC.ow rfl (by first | rfl | (simp)))) | exact FinA.one (FinB.agg' rfl rfl) | refine ⟨⟨_, rfl, ?_⟩, ?_⟩), by repeat' (first | exact trivial | refine ⟨⟨_, rfl, by first | rfl | (simp; done) | (simp [renO, *]; done)⟩, by first | rfl | assumption, ?_⟩), rfl⟩
                        · refine ⟨by repeat' (first | exact trivial | exact FinA.one (FinB.cell (FinC.same rfl)) | exact FinA.one (FinB.cell FinC.nil) | exact FinA.bound rfl | exact FinA.one (FinB.cell (FinC.own rfl rfl rfl rfl)) | exact FinA.one (FinB.cell (FinC.v (by first | rfl | (simp)))) | exact FinA.one (FinB.cell (FinC.ow rfl (by first | rfl | (simp)))) | exact FinA.one (FinB.agg' rfl rfl) | refine ⟨⟨_, rfl, ?_⟩, ?_⟩), by repeat' (first | exact trivial | refine ⟨⟨_, rfl, by first | rfl | (simp; done) | (simp [renO, *]; done)⟩, by first | rfl | assumption, ?_⟩), rfl⟩
                      exact arl_nil
                    exact arl_nil
                  exact arl_nil
                apply arl_cons (i := 5) rfl rfl
                · exact lsq
                · skip
                  refine ar_step [2] (by kernel_rfl) rfl ?_
                  apply arl_cons (i := 2) rfl rfl
                  · exact ls_cl' hF rfl rfl rfl rfl
                  · skip
                    refine ar_step [3] (by kernel_rfl) rfl ?_
                    apply arl_cons (i := 3) rfl rfl
                    · exact lsq
                    · skip
                      refine ar_step [6] (by kernel_rfl) rfl ?_
                      apply arl_cons (i := 6) rfl rfl
                      · exact ls_ce (ms := ms) (t := a) rfl rfl rfl rfl rfl
                      · skip
                        refine ar_done (by kernel_rfl) ?_
                        repeat' (first | ((first | apply o_do | apply d_do | apply d_yes rfl rfl rfl); exact lsq) | refine a_seq ?_ | refine a_region ?_ | refine o_nil ?_ | refine a_block ?_ | refine a_ret ?_ | refine a_exit ?_ | refine a_skip ?_ | refine a_draw mixed ?_ | refine d_nil (by kernel_rfl) ?_ | refine o_yes rfl rfl rfl ?_ | refine o_no rfl rfl rfl (by decide) ?_ | refine o_no' rfl rfl rfl ?_ | refine a_condT rfl ?_ | refine a_condF rfl ?_ | refine d_no rfl rfl rfl (by decide) ?_ | refine d_no' rfl rfl rfl ?_ | (refine wq2 (fun hb => ?_) (fun hb => ?_) <;> (simp only [hb]; try simp only [hbs, ne_eq] at hb; try (exfalso; first | omega | exact hb trivial))) | fail)
                        refine ⟨⟨(q + 1, _, _, _, _), hC⟩, by dsimp only; omega, ?_⟩
                        refine Turn.trans (Turn.weak (t := ⟨[(0, .sl 2 (l.map Tm.av)), (3, .ref 0 0), (4, .mp 2), (7, .ref 3 0), (40, .v (.int .i64 l.length)), (41, .v (.int .i64 ((q + 1 : Nat) : Int)))], [(0, .box 50 [.own 123 (R.map Tm.av).length]), (1, .dead), (123, .row 27 2 (R.map Tm.av)), (2, .mp ((cSet ms a (cAt ms a - 1)).map cEnt)), (3, .box 27 a.av)]⟩) ?_) (Turn.trans (Turn.move 123 40 rfl rfl rfl rfl rfl) (Turn.weak ?_))
                        · refine ⟨by repeat' (first | exact trivial | exact FinA.one (FinB.cell (FinC.same rfl)) | exact FinA.one (FinB.cell FinC.nil) | exact FinA.bound rfl | exact FinA.one (FinB.cell (FinC.own rfl rfl rfl rfl)) | exact FinA.one (FinB.cell (FinC.v (by first | rfl | (simp)))) | exact FinA.one (FinB.cell (FinC.ow rfl (by first | rfl | (simp)))) | exact FinA.one (FinB.agg' rfl rfl) | refine ⟨⟨_, rfl, ?_⟩, ?_⟩), by repeat' (first | exact trivial | refine ⟨⟨_, rfl, by first | rfl | (simp; done) | (simp [renO, *]; done)⟩, by first | rfl | assumption, ?_⟩), rfl⟩
                        · refine ⟨by repeat' (first | exact trivial | exact FinA.one (FinB.cell (FinC.same rfl)) | exact FinA.one (FinB.cell FinC.nil) | exact FinA.bound rfl | exact FinA.one (FinB.cell (FinC.own rfl rfl rfl rfl)) | exact FinA.one (FinB.cell (FinC.v (by first | rfl | (simp)))) | exact FinA.one (FinB.cell (FinC.ow rfl (by first | rfl | (simp)))) | exact FinA.one (FinB.agg' rfl rfl) | refine ⟨⟨_, rfl, ?_⟩, ?_⟩), by repeat' (first | exact trivial | refine ⟨⟨_, rfl, by first | rfl | (simp; done) | (simp [renO, *]; done)⟩, by first | rfl | assumption, ?_⟩), rfl⟩
                      exact arl_nil
                    exact arl_nil
                  exact arl_nil
                exact arl_nil
              exact arl_nil
            exact arl_nil
          apply arl_cons (i := 1) rfl rfl
          · exact lsq
          · skip
            refine ar_step [0] (by kernel_rfl) rfl ?_
            apply arl_cons (i := 0) rfl rfl
            · exact lsq
            · skip
              refine ar_step [2, 4] (by kernel_rfl) rfl ?_
              apply arl_cons (i := 2) rfl rfl
              · exact ls_cl hF rfl rfl rfl rfl
              · skip
                refine ar_step [3, 4] (by kernel_rfl) rfl ?_
                apply arl_cons (i := 3) rfl rfl
                · exact lsq
                · skip
                  refine ar_step [4] (by kernel_rfl) rfl ?_
                  apply arl_cons (i := 4) rfl rfl
                  · exact ls_cm hF rfl rfl rfl rfl
                  · skip
                    refine ar_step [5] (by kernel_rfl) rfl ?_
                    apply arl_cons (i := 5) rfl rfl
                    · exact lsq
                    · skip
                      refine ar_step [6] (by kernel_rfl) rfl ?_
                      apply arl_cons (i := 6) rfl rfl
                      · exact ls_ce (ms := ms) (t := a) rfl rfl rfl rfl rfl
                      · skip
                        refine ar_done (by kernel_rfl) ?_
                        repeat' (first | ((first | apply o_do | apply d_do | apply d_yes rfl rfl rfl); exact lsq) | refine a_seq ?_ | refine a_region ?_ | refine o_nil ?_ | refine a_block ?_ | refine a_ret ?_ | refine a_exit ?_ | refine a_skip ?_ | refine a_draw mixed ?_ | refine d_nil (by kernel_rfl) ?_ | refine o_yes rfl rfl rfl ?_ | refine o_no rfl rfl rfl (by decide) ?_ | refine o_no' rfl rfl rfl ?_ | refine a_condT rfl ?_ | refine a_condF rfl ?_ | refine d_no rfl rfl rfl (by decide) ?_ | refine d_no' rfl rfl rfl ?_ | (refine wq2 (fun hb => ?_) (fun hb => ?_) <;> (simp only [hb]; try simp only [hbs, ne_eq] at hb; try (exfalso; first | omega | exact hb trivial))) | fail)
                        refine ⟨⟨(q + 1, _, _, _, _), hC⟩, by dsimp only; omega, ?_⟩
                        refine Turn.trans (Turn.weak (t := ⟨[(0, .sl 2 (l.map Tm.av)), (3, .ref 0 0), (4, .mp 2), (7, .ref 3 0), (40, .v (.int .i64 l.length)), (41, .v (.int .i64 ((q + 1 : Nat) : Int)))], [(0, .box 50 [.own 123 (R.map Tm.av).length]), (1, .dead), (123, .row 27 2 (R.map Tm.av)), (2, .mp ((cSet ms a (cAt ms a - 1)).map cEnt)), (3, .box 27 a.av)]⟩) ?_) (Turn.trans (Turn.move 123 40 rfl rfl rfl rfl rfl) (Turn.weak ?_))
                        · refine ⟨by repeat' (first | exact trivial | exact FinA.one (FinB.cell (FinC.same rfl)) | exact FinA.one (FinB.cell FinC.nil) | exact FinA.bound rfl | exact FinA.one (FinB.cell (FinC.own rfl rfl rfl rfl)) | exact FinA.one (FinB.cell (FinC.v (by first | rfl | (simp)))) | exact FinA.one (FinB.cell (FinC.ow rfl (by first | rfl | (simp)))) | exact FinA.one (FinB.agg' rfl rfl) | refine ⟨⟨_, rfl, ?_⟩, ?_⟩), by repeat' (first | exact trivial | refine ⟨⟨_, rfl, by first | rfl | (simp; done) | (simp [renO, *]; done)⟩, by first | rfl | assumption, ?_⟩), rfl⟩
                        · refine ⟨by repeat' (first | exact trivial | exact FinA.one (FinB.cell (FinC.same rfl)) | exact FinA.one (FinB.cell FinC.nil) | exact FinA.bound rfl | exact FinA.one (FinB.cell (FinC.own rfl rfl rfl rfl)) | exact FinA.one (FinB.cell (FinC.v (by first | rfl | (simp)))) | exact FinA.one (FinB.cell (FinC.ow rfl (by first | rfl | (simp)))) | exact FinA.one (FinB.agg' rfl rfl) | refine ⟨⟨_, rfl, ?_⟩, ?_⟩), by repeat' (first | exact trivial | refine ⟨⟨_, rfl, by first | rfl | (simp; done) | (simp [renO, *]; done)⟩, by first | rfl | assumption, ?_⟩), rfl⟩
                      exact arl_nil
                    exact arl_nil
                  exact arl_nil
                apply arl_cons (i := 4) rfl rfl
                · exact ls_cm hF rfl rfl rfl rfl
                · skip
                  refine ar_step [3, 5] (by kernel_rfl) rfl ?_
                  apply arl_cons (i := 3) rfl rfl
                  · exact lsq
                  · skip
                    refine ar_step [5] (by kernel_rfl) rfl ?_
                    apply arl_cons (i := 5) rfl rfl
                    · exact lsq
                    · skip
                      refine ar_step [6] (by kernel_rfl) rfl ?_
                      apply arl_cons (i := 6) rfl rfl
                      · exact ls_ce (ms := ms) (t := a) rfl rfl rfl rfl rfl
                      · skip
                        refine ar_done (by kernel_rfl) ?_
                        repeat' (first | ((first | apply o_do | apply d_do | apply d_yes rfl rfl rfl); exact lsq) | refine a_seq ?_ | refine a_region ?_ | refine o_nil ?_ | refine a_block ?_ | refine a_ret ?_ | refine a_exit ?_ | refine a_skip ?_ | refine a_draw mixed ?_ | refine d_nil (by kernel_rfl) ?_ | refine o_yes rfl rfl rfl ?_ | refine o_no rfl rfl rfl (by decide) ?_ | refine o_no' rfl rfl rfl ?_ | refine a_condT rfl ?_ | refine a_condF rfl ?_ | refine d_no rfl rfl rfl (by decide) ?_ | refine d_no' rfl rfl rfl ?_ | (refine wq2 (fun hb => ?_) (fun hb => ?_) <;> (simp only [hb]; try simp only [hbs, ne_eq] at hb; try (exfalso; first | omega | exact hb trivial))) | fail)
                        refine ⟨⟨(q + 1, _, _, _, _), hC⟩, by dsimp only; omega, ?_⟩
                        refine Turn.trans (Turn.weak (t := ⟨[(0, .sl 2 (l.map Tm.av)), (3, .ref 0 0), (4, .mp 2), (7, .ref 3 0), (40, .v (.int .i64 l.length)), (41, .v (.int .i64 ((q + 1 : Nat) : Int)))], [(0, .box 50 [.own 123 (R.map Tm.av).length]), (1, .dead), (123, .row 27 2 (R.map Tm.av)), (2, .mp ((cSet ms a (cAt ms a - 1)).map cEnt)), (3, .box 27 a.av)]⟩) ?_) (Turn.trans (Turn.move 123 40 rfl rfl rfl rfl rfl) (Turn.weak ?_))
                        · refine ⟨by repeat' (first | exact trivial | exact FinA.one (FinB.cell (FinC.same rfl)) | exact FinA.one (FinB.cell FinC.nil) | exact FinA.bound rfl | exact FinA.one (FinB.cell (FinC.own rfl rfl rfl rfl)) | exact FinA.one (FinB.cell (FinC.v (by first | rfl | (simp)))) | exact FinA.one (FinB.cell (FinC.ow rfl (by first | rfl | (simp)))) | exact FinA.one (FinB.agg' rfl rfl) | refine ⟨⟨_, rfl, ?_⟩, ?_⟩), by repeat' (first | exact trivial | refine ⟨⟨_, rfl, by first | rfl | (simp; done) | (simp [renO, *]; done)⟩, by first | rfl | assumption, ?_⟩), rfl⟩
                        · refine ⟨by repeat' (first | exact trivial | exact FinA.one (FinB.cell (FinC.same rfl)) | exact FinA.one (FinB.cell FinC.nil) | exact FinA.bound rfl | exact FinA.one (FinB.cell (FinC.own rfl rfl rfl rfl)) | exact FinA.one (FinB.cell (FinC.v (by first | rfl | (simp)))) | exact FinA.one (FinB.cell (FinC.ow rfl (by first | rfl | (simp)))) | exact FinA.one (FinB.agg' rfl rfl) | refine ⟨⟨_, rfl, ?_⟩, ?_⟩), by repeat' (first | exact trivial | refine ⟨⟨_, rfl, by first | rfl | (simp; done) | (simp [renO, *]; done)⟩, by first | rfl | assumption, ?_⟩), rfl⟩
                      exact arl_nil
                    exact arl_nil
                  apply arl_cons (i := 5) rfl rfl
                  · exact lsq
                  · skip
                    refine ar_step [3] (by kernel_rfl) rfl ?_
                    apply arl_cons (i := 3) rfl rfl
                    · exact lsq
                    · skip
                      refine ar_step [6] (by kernel_rfl) rfl ?_
                      apply arl_cons (i := 6) rfl rfl
                      · exact ls_ce (ms := ms) (t := a) rfl rfl rfl rfl rfl
                      · skip
                        refine ar_done (by kernel_rfl) ?_
                        repeat' (first | ((first | apply o_do | apply d_do | apply d_yes rfl rfl rfl); exact lsq) | refine a_seq ?_ | refine a_region ?_ | refine o_nil ?_ | refine a_block ?_ | refine a_ret ?_ | refine a_exit ?_ | refine a_skip ?_ | refine a_draw mixed ?_ | refine d_nil (by kernel_rfl) ?_ | refine o_yes rfl rfl rfl ?_ | refine o_no rfl rfl rfl (by decide) ?_ | refine o_no' rfl rfl rfl ?_ | refine a_condT rfl ?_ | refine a_condF rfl ?_ | refine d_no rfl rfl rfl (by decide) ?_ | refine d_no' rfl rfl rfl ?_ | (refine wq2 (fun hb => ?_) (fun hb => ?_) <;> (simp only [hb]; try simp only [hbs, ne_eq] at hb; try (exfalso; first | omega | exact hb trivial))) | fail)
                        refine ⟨⟨(q + 1, _, _, _, _), hC⟩, by dsimp only; omega, ?_⟩
                        refine Turn.trans (Turn.weak (t := ⟨[(0, .sl 2 (l.map Tm.av)), (3, .ref 0 0), (4, .mp 2), (7, .ref 3 0), (40, .v (.int .i64 l.length)), (41, .v (.int .i64 ((q + 1 : Nat) : Int)))], [(0, .box 50 [.own 123 (R.map Tm.av).length]), (1, .dead), (123, .row 27 2 (R.map Tm.av)), (2, .mp ((cSet ms a (cAt ms a - 1)).map cEnt)), (3, .box 27 a.av)]⟩) ?_) (Turn.trans (Turn.move 123 40 rfl rfl rfl rfl rfl) (Turn.weak ?_))
                        · refine ⟨by repeat' (first | exact trivial | exact FinA.one (FinB.cell (FinC.same rfl)) | exact FinA.one (FinB.cell FinC.nil) | exact FinA.bound rfl | exact FinA.one (FinB.cell (FinC.own rfl rfl rfl rfl)) | exact FinA.one (FinB.cell (FinC.v (by first | rfl | (simp)))) | exact FinA.one (FinB.cell (FinC.ow rfl (by first | rfl | (simp)))) | exact FinA.one (FinB.agg' rfl rfl) | refine ⟨⟨_, rfl, ?_⟩, ?_⟩), by repeat' (first | exact trivial | refine ⟨⟨_, rfl, by first | rfl | (simp; done) | (simp [renO, *]; done)⟩, by first | rfl | assumption, ?_⟩), rfl⟩
                        · refine ⟨by repeat' (first | exact trivial | exact FinA.one (FinB.cell (FinC.same rfl)) | exact FinA.one (FinB.cell FinC.nil) | exact FinA.bound rfl | exact FinA.one (FinB.cell (FinC.own rfl rfl rfl rfl)) | exact FinA.one (FinB.cell (FinC.v (by first | rfl | (simp)))) | exact FinA.one (FinB.cell (FinC.ow rfl (by first | rfl | (simp)))) | exact FinA.one (FinB.agg' rfl rfl) | refine ⟨⟨_, rfl, ?_⟩, ?_⟩), by repeat' (first | exact trivial | refine ⟨⟨_, rfl, by first | rfl | (simp; done) | (simp [renO, *]; done)⟩, by first | rfl | assumption, ?_⟩), rfl⟩
                      exact arl_nil
                    exact arl_nil
                  exact arl_nil
                exact arl_nil
              apply arl_cons (i := 4) rfl rfl
              · exact ls_cm hF rfl rfl rfl rfl
              · skip
                refine ar_step [2, 5] (by kernel_rfl) rfl ?_
                apply arl_cons (i := 2) rfl rfl
                · exact ls_cl' hF rfl rfl rfl rfl
                · skip
                  refine ar_step [3, 5] (by kernel_rfl) rfl ?_
                  apply arl_cons (i := 3) rfl rfl
                  · exact lsq
                  · skip
                    refine ar_step [5] (by kernel_rfl) rfl ?_
                    apply arl_cons (i := 5) rfl rfl
                    · exact lsq
                    · skip
                      refine ar_step [6] (by kernel_rfl) rfl ?_
                      apply arl_cons (i := 6) rfl rfl
                      · exact ls_ce (ms := ms) (t := a) rfl rfl rfl rfl rfl
                      · skip
                        refine ar_done (by kernel_rfl) ?_
                        repeat' (first | ((first | apply o_do | apply d_do | apply d_yes rfl rfl rfl); exact lsq) | refine a_seq ?_ | refine a_region ?_ | refine o_nil ?_ | refine a_block ?_ | refine a_ret ?_ | refine a_exit ?_ | refine a_skip ?_ | refine a_draw mixed ?_ | refine d_nil (by kernel_rfl) ?_ | refine o_yes rfl rfl rfl ?_ | refine o_no rfl rfl rfl (by decide) ?_ | refine o_no' rfl rfl rfl ?_ | refine a_condT rfl ?_ | refine a_condF rfl ?_ | refine d_no rfl rfl rfl (by decide) ?_ | refine d_no' rfl rfl rfl ?_ | (refine wq2 (fun hb => ?_) (fun hb => ?_) <;> (simp only [hb]; try simp only [hbs, ne_eq] at hb; try (exfalso; first | omega | exact hb trivial))) | fail)
                        refine ⟨⟨(q + 1, _, _, _, _), hC⟩, by dsimp only; omega, ?_⟩
                        refine Turn.trans (Turn.weak (t := ⟨[(0, .sl 2 (l.map Tm.av)), (3, .ref 0 0), (4, .mp 2), (7, .ref 3 0), (40, .v (.int .i64 l.length)), (41, .v (.int .i64 ((q + 1 : Nat) : Int)))], [(0, .box 50 [.own 123 (R.map Tm.av).length]), (1, .dead), (123, .row 27 2 (R.map Tm.av)), (2, .mp ((cSet ms a (cAt ms a - 1)).map cEnt)), (3, .box 27 a.av)]⟩) ?_) (Turn.trans (Turn.move 123 40 rfl rfl rfl rfl rfl) (Turn.weak ?_))
                        · refine ⟨by repeat' (first | exact trivial | exact FinA.one (FinB.cell (FinC.same rfl)) | exact FinA.one (FinB.cell FinC.nil) | exact FinA.bound rfl | exact FinA.one (FinB.cell (FinC.own rfl rfl rfl rfl)) | exact FinA.one (FinB.cell (FinC.v (by first | rfl | (simp)))) | exact FinA.one (FinB.cell (FinC.ow rfl (by first | rfl | (simp)))) | exact FinA.one (FinB.agg' rfl rfl) | refine ⟨⟨_, rfl, ?_⟩, ?_⟩), by repeat' (first | exact trivial | refine ⟨⟨_, rfl, by first | rfl | (simp; done) | (simp [renO, *]; done)⟩, by first | rfl | assumption, ?_⟩), rfl⟩
                        · refine ⟨by repeat' (first | exact trivial | exact FinA.one (FinB.cell (FinC.same rfl)) | exact FinA.one (FinB.cell FinC.nil) | exact FinA.bound rfl | exact FinA.one (FinB.cell (FinC.own rfl rfl rfl rfl)) | exact FinA.one (FinB.cell (FinC.v (by first | rfl | (simp)))) | exact FinA.one (FinB.cell (FinC.ow rfl (by first | rfl | (simp)))) | exact FinA.one (FinB.agg' rfl rfl) | refine ⟨⟨_, rfl, ?_⟩, ?_⟩), by repeat' (first | exact trivial | refine ⟨⟨_, rfl, by first | rfl | (simp; done) | (simp [renO, *]; done)⟩, by first | rfl | assumption, ?_⟩), rfl⟩
                      exact arl_nil
                    exact arl_nil
                  apply arl_cons (i := 5) rfl rfl
                  · exact lsq
                  · skip
                    refine ar_step [3] (by kernel_rfl) rfl ?_
                    apply arl_cons (i := 3) rfl rfl
                    · exact lsq
                    · skip
                      refine ar_step [6] (by kernel_rfl) rfl ?_
                      apply arl_cons (i := 6) rfl rfl
                      · exact ls_ce (ms := ms) (t := a) rfl rfl rfl rfl rfl
                      · skip
                        refine ar_done (by kernel_rfl) ?_
                        repeat' (first | ((first | apply o_do | apply d_do | apply d_yes rfl rfl rfl); exact lsq) | refine a_seq ?_ | refine a_region ?_ | refine o_nil ?_ | refine a_block ?_ | refine a_ret ?_ | refine a_exit ?_ | refine a_skip ?_ | refine a_draw mixed ?_ | refine d_nil (by kernel_rfl) ?_ | refine o_yes rfl rfl rfl ?_ | refine o_no rfl rfl rfl (by decide) ?_ | refine o_no' rfl rfl rfl ?_ | refine a_condT rfl ?_ | refine a_condF rfl ?_ | refine d_no rfl rfl rfl (by decide) ?_ | refine d_no' rfl rfl rfl ?_ | (refine wq2 (fun hb => ?_) (fun hb => ?_) <;> (simp only [hb]; try simp only [hbs, ne_eq] at hb; try (exfalso; first | omega | exact hb trivial))) | fail)
                        refine ⟨⟨(q + 1, _, _, _, _), hC⟩, by dsimp only; omega, ?_⟩
                        refine Turn.trans (Turn.weak (t := ⟨[(0, .sl 2 (l.map Tm.av)), (3, .ref 0 0), (4, .mp 2), (7, .ref 3 0), (40, .v (.int .i64 l.length)), (41, .v (.int .i64 ((q + 1 : Nat) : Int)))], [(0, .box 50 [.own 123 (R.map Tm.av).length]), (1, .dead), (123, .row 27 2 (R.map Tm.av)), (2, .mp ((cSet ms a (cAt ms a - 1)).map cEnt)), (3, .box 27 a.av)]⟩) ?_) (Turn.trans (Turn.move 123 40 rfl rfl rfl rfl rfl) (Turn.weak ?_))
                        · refine ⟨by repeat' (first | exact trivial | exact FinA.one (FinB.cell (FinC.same rfl)) | exact FinA.one (FinB.cell FinC.nil) | exact FinA.bound rfl | exact FinA.one (FinB.cell (FinC.own rfl rfl rfl rfl)) | exact FinA.one (FinB.cell (FinC.v (by first | rfl | (simp)))) | exact FinA.one (FinB.cell (FinC.ow rfl (by first | rfl | (simp)))) | exact FinA.one (FinB.agg' rfl rfl) | refine ⟨⟨_, rfl, ?_⟩, ?_⟩), by repeat' (first | exact trivial | refine ⟨⟨_, rfl, by first | rfl | (simp; done) | (simp [renO, *]; done)⟩, by first | rfl | assumption, ?_⟩), rfl⟩
                        · refine ⟨by repeat' (first | exact trivial | exact FinA.one (FinB.cell (FinC.same rfl)) | exact FinA.one (FinB.cell FinC.nil) | exact FinA.bound rfl | exact FinA.one (FinB.cell (FinC.own rfl rfl rfl rfl)) | exact FinA.one (FinB.cell (FinC.v (by first | rfl | (simp)))) | exact FinA.one (FinB.cell (FinC.ow rfl (by first | rfl | (simp)))) | exact FinA.one (FinB.agg' rfl rfl) | refine ⟨⟨_, rfl, ?_⟩, ?_⟩), by repeat' (first | exact trivial | refine ⟨⟨_, rfl, by first | rfl | (simp; done) | (simp [renO, *]; done)⟩, by first | rfl | assumption, ?_⟩), rfl⟩
                      exact arl_nil
                    exact arl_nil
                  exact arl_nil
                apply arl_cons (i := 5) rfl rfl
                · exact lsq
                · skip
                  refine ar_step [2] (by kernel_rfl) rfl ?_
                  apply arl_cons (i := 2) rfl rfl
                  · exact ls_cl' hF rfl rfl rfl rfl
                  · skip
                    refine ar_step [3] (by kernel_rfl) rfl ?_
                    apply arl_cons (i := 3) rfl rfl
                    · exact lsq
                    · skip
                      refine ar_step [6] (by kernel_rfl) rfl ?_
                      apply arl_cons (i := 6) rfl rfl
                      · exact ls_ce (ms := ms) (t := a) rfl rfl rfl rfl rfl
                      · skip
                        refine ar_done (by kernel_rfl) ?_
                        repeat' (first | ((first | apply o_do | apply d_do | apply d_yes rfl rfl rfl); exact lsq) | refine a_seq ?_ | refine a_region ?_ | refine o_nil ?_ | refine a_block ?_ | refine a_ret ?_ | refine a_exit ?_ | refine a_skip ?_ | refine a_draw mixed ?_ | refine d_nil (by kernel_rfl) ?_ | refine o_yes rfl rfl rfl ?_ | refine o_no rfl rfl rfl (by decide) ?_ | refine o_no' rfl rfl rfl ?_ | refine a_condT rfl ?_ | refine a_condF rfl ?_ | refine d_no rfl rfl rfl (by decide) ?_ | refine d_no' rfl rfl rfl ?_ | (refine wq2 (fun hb => ?_) (fun hb => ?_) <;> (simp only [hb]; try simp only [hbs, ne_eq] at hb; try (exfalso; first | omega | exact hb trivial))) | fail)
                        refine ⟨⟨(q + 1, _, _, _, _), hC⟩, by dsimp only; omega, ?_⟩
                        refine Turn.trans (Turn.weak (t := ⟨[(0, .sl 2 (l.map Tm.av)), (3, .ref 0 0), (4, .mp 2), (7, .ref 3 0), (40, .v (.int .i64 l.length)), (41, .v (.int .i64 ((q + 1 : Nat) : Int)))], [(0, .box 50 [.own 123 (R.map Tm.av).length]), (1, .dead), (123, .row 27 2 (R.map Tm.av)), (2, .mp ((cSet ms a (cAt ms a - 1)).map cEnt)), (3, .box 27 a.av)]⟩) ?_) (Turn.trans (Turn.move 123 40 rfl rfl rfl rfl rfl) (Turn.weak ?_))
                        · refine ⟨by repeat' (first | exact trivial | exact FinA.one (FinB.cell (FinC.same rfl)) | exact FinA.one (FinB.cell FinC.nil) | exact FinA.bound rfl | exact FinA.one (FinB.cell (FinC.own rfl rfl rfl rfl)) | exact FinA.one (FinB.cell (FinC.v (by first | rfl | (simp)))) | exact FinA.one (FinB.cell (FinC.ow rfl (by first | rfl | (simp)))) | exact FinA.one (FinB.agg' rfl rfl) | refine ⟨⟨_, rfl, ?_⟩, ?_⟩), by repeat' (first | exact trivial | refine ⟨⟨_, rfl, by first | rfl | (simp; done) | (simp [renO, *]; done)⟩, by first | rfl | assumption, ?_⟩), rfl⟩
                        · refine ⟨by repeat' (first | exact trivial | exact FinA.one (FinB.cell (FinC.same rfl)) | exact FinA.one (FinB.cell FinC.nil) | exact FinA.bound rfl | exact FinA.one (FinB.cell (FinC.own rfl rfl rfl rfl)) | exact FinA.one (FinB.cell (FinC.v (by first | rfl | (simp)))) | exact FinA.one (FinB.cell (FinC.ow rfl (by first | rfl | (simp)))) | exact FinA.one (FinB.agg' rfl rfl) | refine ⟨⟨_, rfl, ?_⟩, ?_⟩), by repeat' (first | exact trivial | refine ⟨⟨_, rfl, by first | rfl | (simp; done) | (simp [renO, *]; done)⟩, by first | rfl | assumption, ?_⟩), rfl⟩
                      exact arl_nil
                    exact arl_nil
                  exact arl_nil
                exact arl_nil
              exact arl_nil
            exact arl_nil
          exact arl_nil
end Go.Proofs.Yteooamoagkcgnaa
