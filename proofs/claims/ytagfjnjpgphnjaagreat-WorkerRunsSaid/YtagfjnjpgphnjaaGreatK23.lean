/-
  'clepsydralaw22.WorkerTakes' returns true for every input.
-/
import Derived.Test.YtagfjnjpgphnjaaGreatK4
import Derived.Test.YtagfjnjpgphnjaaGreatK15
import Derived.Test.YtagfjnjpgphnjaaGreatK22
namespace Go.Proofs.YtagfjnjpgphnjaaGreat
open Go.RowKit
set_option linter.unusedSimpArgs false
set_option linter.unusedVariables false
def Lt.vals (x : Lt) : List Value := [.int .i64 x.input, .int .i64 x.it.kind, .string x.it.key, .int .i64 x.it.at', .int .i64 x.it.val, .int .i64 x.it.mark, .int .i64 x.it.n, .int .i64 x.it.lo, .int .i64 x.it.hi, .string x.it.rkey, .int .i64 x.it.rn, .int .i64 x.it.rval]
theorem run_neq_Lt (x y : Operand) (p : Lt) (w : World) : (do eqGuard .neq 117 x y (.agg p.vals.toArray) (.agg p.vals.toArray); binOp .neq 117 (.agg p.vals.toArray) (.agg p.vals.toArray) : Sem Value).run Tryz.prog w = .ok (.bool false) w := by
  unfold Lt.vals
  go_simp
set_option maxRecDepth 10000 in
set_option maxHeartbeats 1000000 in
theorem l_LikeL (xs : List Lt) (hx : xs.length ≤ 9223372036854775807) : PC Tryz.prog 23 [.sl 12 (xs.map Lt.av), .sl 12 (xs.map Lt.av)] (.v (.bool true)) := by
  refine PC.mk (ac_body tab_ok Tryz.func23 rfl (by kernel_rfl) rfl ?_); intro w0 M μ0; simp only [Tryz.ntmps23, List.length_cons, List.length_nil, Nat.reduceAdd, Nat.reduceSub, numb]
  repeat' (first | ((first | apply o_do | apply d_do | apply d_yes rfl rfl rfl); exact lsq) | refine a_seq ?_ | refine a_region ?_ | refine o_nil ?_ | refine a_block ?_ | refine a_ret ?_ | refine a_exit ?_ | refine a_skip ?_ | refine a_draw mixed ?_ | refine d_nil (by kernel_rfl) ?_ | refine o_yes rfl rfl rfl ?_ | refine o_no rfl rfl rfl (by decide) ?_ | refine o_no' rfl rfl rfl ?_ | refine a_condT rfl ?_ | refine a_condF rfl ?_ | refine d_no rfl rfl rfl (by decide) ?_ | refine d_no' rfl rfl rfl ?_ | (refine wq2 (fun hb => ?_) (fun hb => ?_) <;> (simp only [hb]; try simp only [hbs, ne_eq] at hb; try (exfalso; first | omega | exact hb trivial))) | fail)
  refine a_loop (X := {q : Nat // q ≤ xs.length}) (fun x => ⟨[(0, .sl 12 (xs.map Lt.av)), (1, .sl 12 (xs.map Lt.av)), (12, .v (.int .i64 xs.length)), (13, .v (.int .i64 x.1))], []⟩) (fun x => xs.length - x.1) ⟨0, Nat.zero_le _⟩ ?_ ?_
  · exact wkS
  rintro ⟨q, hq⟩
  dsimp only
  by_cases hlt : q < xs.length
  · have hel : (xs.map Lt.av)[q]? = some (Lt.av xs[q]) := by simp [hlt]
    generalize xs[q] = x at *
    repeat' (first | ((first | apply o_do | apply d_do | apply d_yes rfl rfl rfl); first | exact ls_indexAddr_sl tab_ok rfl rfl rfl rfl (by assumption) rfl | exact ls_eqA (Lt.vals x) (Lt.vals x) (run_neq_Lt _ _ x) rfl rfl rfl rfl rfl | exact lsq) | refine a_seq ?_ | refine a_region ?_ | refine o_nil ?_ | refine a_block ?_ | refine a_ret ?_ | refine a_exit ?_ | refine a_skip ?_ | refine a_draw mixed ?_ | refine d_nil (by kernel_rfl) ?_ | refine o_yes rfl rfl rfl ?_ | refine o_no rfl rfl rfl (by decide) ?_ | refine o_no' rfl rfl rfl ?_ | refine a_condT rfl ?_ | refine a_condF rfl ?_ | refine d_no rfl rfl rfl (by decide) ?_ | refine d_no' rfl rfl rfl ?_ | (refine wq2 (fun hb => ?_) (fun hb => ?_) <;> (simp only [hb]; try simp only [hbs, ne_eq] at hb; try (exfalso; first | omega | exact hb trivial))) | fail)
    refine ⟨⟨q + 1, by omega⟩, by dsimp only; omega, ?_⟩
    exact wkS
  · repeat' (first | ((first | apply o_do | apply d_do | apply d_yes rfl rfl rfl); exact lsq) | refine a_seq ?_ | refine a_region ?_ | refine o_nil ?_ | refine a_block ?_ | refine a_ret ?_ | refine a_exit ?_ | refine a_skip ?_ | refine a_draw mixed ?_ | refine d_nil (by kernel_rfl) ?_ | refine o_yes rfl rfl rfl ?_ | refine o_no rfl rfl rfl (by decide) ?_ | refine o_no' rfl rfl rfl ?_ | refine a_condT rfl ?_ | refine a_condF rfl ?_ | refine d_no rfl rfl rfl (by decide) ?_ | refine d_no' rfl rfl rfl ?_ | (refine wq2 (fun hb => ?_) (fun hb => ?_) <;> (simp only [hb]; try simp only [hbs, ne_eq] at hb; try (exfalso; first | omega | exact hb trivial))) | fail)
    refine rq rfl ?_
    exact fnq
theorem ok_rGrp : CallOK Tryz.prog 148 := ⟨_, Tryz.func148, by kernel_rfl, rfl⟩
theorem ok_rrGrp : CallOK Tryz.prog 34 := ⟨_, Tryz.func34, by kernel_rfl, rfl⟩
theorem p_rGrp (s : ByteArray) (g : Int) (hs : s.size ≤ 1000000) (hg : -9223372036854775808 ≤ g ∧ g ≤ 9223372036854775807) : PC Tryz.prog 148 [.v (.string s), .v (.int .i64 g)] (.v (.int .i64 (grpV s.data.toList g))) :=
  pc_of_calls (xs := [.string s, .int .i64 g]) ok_rGrp (fun w => (ring_Group s g w hs hg).mono fun e w' ⟨h1, h2⟩ => ⟨h1, by rw [← h2]; exact Below.refl _ _⟩) rfl
theorem p_rrGrp (s : ByteArray) (g : Int) (hs : s.size ≤ 1000000) (hg : -9223372036854775808 ≤ g ∧ g ≤ 9223372036854775807) : PC Tryz.prog 34 [.v (.string s), .v (.int .i64 g)] (.v (.int .i64 (grpV s.data.toList g))) :=
  pc_of_calls (xs := [.string s, .int .i64 g]) ok_rrGrp (fun w => (ref11_Group s g w hs hg).mono fun e w' ⟨h1, h2⟩ => ⟨h1, by rw [← h2]; exact Below.refl _ _⟩) rfl
theorem itR_key {x : It} (h : itR x = true) (hk : x.kind = 1) : x.key.size ≤ 1000000 := by
  obtain ⟨kind, k, av, v, m, n, lo, hi, rk, rn, rv⟩ := x
  dsimp only at hk ⊢
  subst hk
  simp only [itR, if_true, evR, keyB, Bool.and_eq_true, decide_eq_true_eq] at h
  omega
/-! what is known of the answer -/
theorem al_len {a : Al} {i : Int} {x : It} (h1 : a.got.length ≤ 9223372036854775807) (h2 : a.held.length ≤ 9223372036854775807) (h3 : ∀ l ∈ a.held, l.length ≤ 9223372036854775807) :
    (alOffer a i x).a.got.length ≤ 9223372036854775807 ∧ (alOffer a i x).a.held.length ≤ 9223372036854775807 ∧ (∀ l ∈ (alOffer a i x).a.held, l.length ≤ 9223372036854775807) ∧ (alOffer a i x).late.length ≤ 1000 := by
  have hz : alZ.got.length ≤ 9223372036854775807 ∧ alZ.held.length ≤ 9223372036854775807 ∧ (∀ l ∈ alZ.held, l.length ≤ 9223372036854775807) ∧ ([] : List Lt).length ≤ 1000 := ⟨by simp [alZ], by simp [alZ], by simp [alZ], by simp⟩
  unfold alOffer
  split
  · exact hz
  rename_i hc
  have hR : alR a = true := by
    cases h : alR a
    · exfalso; apply hc; simp [alHas, h]
    · rfl
  obtain ⟨b1, b2, b3, b4, b5, b6, b7, b8⟩ := alR_ok hR
  split
  · split
    · exact hz
    · rename_i hl
      refine ⟨h1, by dsimp only; rw [List.length_set]; exact h2, fun l hm => ?_, by simp⟩
      dsimp only at hm
      rcases List.mem_or_eq_of_mem_set hm with hm | rfl
      · exact h3 l hm
      · rw [List.length_append]; simp only [List.length_cons, List.length_nil]; omega
  · split
    · exact ⟨h1, h2, h3, by simp⟩
    · split
      · exact hz
      · split
        · exact ⟨by dsimp only; rw [List.length_set]; exact h1, h2, h3, by simp⟩
        · have g1 : (newGot a.got.length).length ≤ 8 := by unfold newGot; split <;> simp <;> omega
          have g2 : (newHeld a.got.length).length ≤ 8 := by unfold newHeld; split <;> simp <;> omega
          refine ⟨by dsimp only; omega, by dsimp only; omega, fun l hl => ?_, ?_⟩
          · dsimp only [newHeld] at hl
            split at hl
            · rw [(List.mem_replicate.1 hl).2]; simp
            · simp at hl
          · have := latesN_le (held := a.held) (by omega) b8 a.held.length (Nat.le_refl _)
            dsimp only
            omega
theorem tell_len (m : Mk) : (mkTell m).m.ins.length ≤ m.ins.length ∧ (mkTell m).m.hs.length ≤ m.hs.length := by
  unfold mkTell
  split
  · simp [mkZ]
  · split <;> simp
structure TkOk (r : TkW) : Prop where
  w : WkOk r.w
  told : r.told.length ≤ 9223372036854775807
  late : r.late.length ≤ 9223372036854775807
theorem fail_ok (e : Int) : TkOk (wkFail e) := ⟨wkZ_ok, Nat.zero_le _, Nat.zero_le _⟩
theorem go_ok {j : Jb} {gs : List Gp} {m : Mk} {al : Al} {told : Int} (h1 : gs.length ≤ 1000) (h2 : ∀ g ∈ gs, g.ps.length ≤ 9223372036854775807) (h3 : m.ins.length ≤ 9223372036854775807) (h4 : m.hs.length ≤ 9223372036854775807) (h5 : al.got.length ≤ 9223372036854775807) (h6 : al.held.length ≤ 9223372036854775807) (h7 : ∀ l ∈ al.held, l.length ≤ 9223372036854775807) : TkOk (wkGo j gs m al told) := by
  have ht := tell_len m
  unfold wkGo
  split
  · refine ⟨⟨by simp [advM]; omega, fun g hg => ?_, by dsimp only; omega, by dsimp only; omega, h5, h6, h7⟩, ?_, Nat.zero_le _⟩
    · obtain ⟨y, hy, rfl⟩ := List.mem_map.1 hg
      have := h2 y hy
      show (gpAdv j (mkTell m).t y).ps.length ≤ _
      unfold gpAdv adv
      split
      · simp
      split
      · simp
      split
      · exact this
      · dsimp only
        unfold dueRB
        split
        · exact Nat.le_trans (dueB_le _ _) this
        · simp
    · have := advT_le j (mkTell m).t gs
      dsimp only
      rw [List.length_append]
      simp
      omega
  · exact ⟨⟨by dsimp only; omega, h2, by dsimp only; omega, by dsimp only; omega, h5, h6, h7⟩, Nat.zero_le _, Nat.zero_le _⟩
theorem take_ok (ok : Bool) (j : Jb) (no : Int) (w : Wk) (input : Int) (x : It) (hw : WkOk w) : TkOk (wkTake ok j no w input x) := by
  obtain ⟨a1, a2, a3, a4⟩ := al_len (i := input) (x := x) hw.got hw.held hw.its
  have k1 := mkSet_len w.mks input 0
  have k2 := mkSet_len w.mks input x.mark
  have k3 := mkIdle_len w.mks input
  have g3 := hw.ins
  have g4 := hw.hs
  unfold wkTake
  split
  · exact fail_ok _
  split
  · exact fail_ok _
  rename_i he
  have hgl : w.gs.length ≤ 1000 := by
    have h : wkR w = true := by
      cases h : wkR w
      · exfalso; apply he; left; rw [h]; rfl
      · rfl
    simp only [wkR, Bool.and_eq_true] at h
    have := gsR_le h.1
    omega
  split
  · exact fail_ok _
  split
  · exact ⟨⟨hw.gs, hw.ps, hw.ins, hw.hs, a1, a2, a3⟩, by simp, by dsimp only; omega⟩
  split
  · exact ⟨⟨hw.gs, hw.ps, hw.ins, hw.hs, a1, a2, a3⟩, by simp, by simp⟩
  split
  · split
    · exact fail_ok _
    · exact go_ok (by simp [putM]; exact hgl) (putM_ok hw.ps) (by omega) (by omega) a1 a2 a3
  split
  · exact go_ok hgl hw.ps (by omega) (by omega) a1 a2 a3
  split
  · exact go_ok hgl hw.ps (by omega) (by omega) a1 a2 a3
  · exact go_ok hgl hw.ps hw.ins hw.hs a1 a2 a3
set_option maxRecDepth 10000 in
set_option maxHeartbeats 8000000 in
theorem w_takes (j : Jb) (w : Wk) (input : Int) (x : It) (hw : WkOk w) (hv : -9223372036854775808 ≤ x.val ∧ x.val ≤ 9223372036854775807) (hg : -9223372036854775808 ≤ j.g ∧ j.g ≤ 9223372036854775807) :
    PC Tryz.prog 4 [.agg j.av, .agg w.av, .v (.int .i64 input), .agg x.av] (.v (.bool true)) := by
  have h1 := w_small w hw
  have h2 := w_Take j (grpV x.key.data.toList j.g) w input x hw (fun hk hx => p_rGrp x.key j.g (itR_key hx hk) hg)
  have h3 := r_Take j (grpV x.key.data.toList j.g) w input x hw hv (fun hk hx => p_rrGrp x.key j.g (itR_key hx hk) hg)
  have hR := take_ok (jobOK j.g j.s j.d j.k j.fu j.li j.de j.id) j (grpV x.key.data.toList j.g) w input x hw
  generalize wkTake (jobOK j.g j.s j.d j.k j.fu j.li j.de j.id) j (grpV x.key.data.toList j.g) w input x = R at *
  have h4 := w_Like R.w hR.w
  have h5 := l_LikeI R.told hR.told
  have h6 := l_LikeL R.late hR.late
  have h7 := w_alive
  obtain ⟨rw', rt, rl, re⟩ := R
  simp only [TkW.av, TkW.avR, Wk.av, Jb.av] at h1 h2 h3 h4 h5 h6 ⊢
  cases e1 : smallW w
  all_goals
    rw [e1] at h1
    refine PC.mk (ac_body tab_ok Tryz.func4 rfl (by kernel_rfl) rfl ?_); intro w0 M μ0; simp only [Tryz.ntmps4, List.length_cons, List.length_nil, Nat.reduceAdd, Nat.reduceSub, numb]
    repeat' (first | ((first | apply o_do | apply d_do | apply d_yes rfl rfl rfl); first | exact lsc (h1) | exact lsc (h2) | exact lsc (h3) | exact lsc (h4) | exact lsc (h5) | exact lsc (h6) | exact lsc (h7) | exact lsq) | refine a_seq ?_ | refine a_region ?_ | refine o_nil ?_ | refine a_block ?_ | refine a_ret ?_ | refine a_exit ?_ | refine a_skip ?_ | refine a_draw mixed ?_ | refine d_nil (by kernel_rfl) ?_ | refine o_yes rfl rfl rfl ?_ | refine o_no rfl rfl rfl (by decide) ?_ | refine o_no' rfl rfl rfl ?_ | refine a_condT rfl ?_ | refine a_condF rfl ?_ | refine d_no rfl rfl rfl (by decide) ?_ | refine d_no' rfl rfl rfl ?_ | (refine wq2 (fun hb => ?_) (fun hb => ?_) <;> (simp only [hb]; try simp only [hbs, ne_eq] at hb; try (exfalso; first | omega | exact hb trivial))) | fail)
    all_goals try (exfalso; simp at hb; done)
    all_goals refine rq rfl ?_
    all_goals exact fnq
end Go.Proofs.YtagfjnjpgphnjaaGreat
namespace Go.Proofs.YtagfjnjpgphnjaaGreat
open Go.RowKit Go.WideShapes Go.ChangeShapes Go.ChangeAt
set_option linter.unusedSimpArgs false
set_option linter.unusedVariables false
set_option maxRecDepth 100000
theorem workerTakes_contract (H : Type) (enc : TypeId × Value → H) (W : World) (base : Nat) (args : Array Value) (ds gs : List (DataW H)) (before : List MemPlace)
    (hval0 : ∀ (j : Nat) t v, Tryz.f4.params[j]? = some t → args[j]? = some v → Value.okWide Tryz.prog W .any base t v)
    (hW : DataW.Whole enc Tryz.prog Tryz.f4.params.toList Rows.workerTakesSpec.vars false W args.toList ds gs before) :
    Calls Tryz.prog 4 args W fun e W' => ∃ v, e = .returned v ∧ Rows.workerTakesSpec.post enc Tryz.prog Tryz.f4 false true false false W args v W' := by
  have hval := hval0
  have hW' := hW
  obtain ⟨p, q, hA0, hV, rfl, hfz, hnd⟩ := hW
  have hA : DataW.TrodAll enc Tryz.prog W 0 (fun _ => true) true Tryz.f4.params.toList args.toList ds p := hA0
  rw [Tryz.params4] at hA hval
  obtain ⟨v0, vs0, d0, ds0, p0, q0, hargs, rfl, rfl, h0, r0⟩ := trodAll_cons hA
  obtain ⟨v1, vs1, d1, ds1, p1, q1, rfl, rfl, rfl, h1, r1⟩ := trodAll_cons r0
  obtain ⟨v2, vs2, d2, ds2, p2, q2, rfl, rfl, rfl, h2, r2⟩ := trodAll_cons r1
  obtain ⟨v3, vs3, d3, ds3, p3, q3, rfl, rfl, rfl, h3, r3⟩ := trodAll_cons r2
  obtain ⟨rfl, rfl, rfl⟩ := trodAll_nil r3
  obtain rfl : args = #[v0, v1, v2, v3] := by cases args; simp_all
  obtain ⟨rfl, rfl⟩ := trodVars_none hV
  clear hA0 hval0
  obtain ⟨cs0, rfl, _, _, g0⟩ := open_struct_arg Tryz.underlying23 (hval 0 23 v0 rfl rfl) h0
  obtain ⟨g, s, d, k, fu, li, de, id, rfl, hj⟩ := rd_Job g0
  obtain ⟨w, hw, hwr⟩ := open_wk_arg (hval 1 42 v1 rfl rfl) h1
  obtain ⟨n, rfl, rfl, rfl, _⟩ := open_int Tryz.underlying3 (hval 2 3 v2 rfl rfl) h2
  obtain ⟨cs3, rfl, _, _, g3⟩ := open_struct_arg Tryz.underlying63 (hval 3 63 v3 rfl rfl) h3
  obtain ⟨kind, key, a, v, mark, nn, lo, hi, rk, rn, rv, rfl, hf⟩ := rd_It g3
  have hit : rep [] (fun _ => undef) W (fun _ => False) (.agg (It.av ⟨kind, key, a, v, mark, nn, lo, hi, rk, rn, rv⟩)) (.agg [.int .i64 kind, .string key, .int .i64 a, .int .i64 v, .int .i64 mark, .int .i64 nn, .int .i64 lo, .int .i64 hi, .string rk, .int .i64 rn, .int .i64 rv].toArray) := by
    simp only [rep]
    exact ⟨_, rfl, repC_con (cs := It.vals ⟨kind, key, a, v, mark, nn, lo, hi, rk, rn, rv⟩) rfl⟩
  refine ((w_takes ⟨g, s, d, k, fu, li, de, id⟩ w n ⟨kind, key, a, v, mark, nn, lo, hi, rk, rn, rv⟩ hw hf.2.2.2.1 hj.1).law (vs := [_, _, _, _]) ⟨_, _, rfl, rep_Job, _, _, rfl, hwr, _, _, rfl, rep_int, _, _, rfl, hit, rfl⟩).mono fun e W' ⟨he, hb⟩ => ?_
  subst he
  exact ⟨_, rfl, post_law @A_laidOut (rd_of (by kernel_rfl : (Tryz.f4.params.toList.all fun t => Tryz.prog.readableRec t && decide (t < Tryz.prog.types.size)) = true)) rfl rfl Tryz.underlying4 hW' rfl hb⟩

theorem workerTakes_own : ownKnob Tryz.prog.godebug = none := by kernel_rfl
set_option maxRecDepth 100000 in
theorem workerTakes_lifted (os : Os) (started : os.Started) (H : Type) (enc : TypeId × Value → H) :
    ReturnsInHanded {} Tryz.checked os 4 .any (Rows.workerTakesSpec.pre6 enc Tryz.prog Tryz.f4 Rows.workerTakesRow.domain false) (Rows.workerTakesSpec.post enc Tryz.prog Tryz.f4 false true false false) := by
  refine returnsInHanded_of_change (C := Tryz.checked) workerTakes_own started (by kernel_rfl) Tryz.func4
    (ChangeSpec.witness6 (enc := enc) (C := Tryz.checked) false ⟨#[], #[.agg #[.int .i64 0, .int .i64 0, .int .i64 0, .int .i64 0, .int .i64 0, .int .i64 0, .int .i64 0, .int .i64 0], .agg #[.slice none 0 0, .slice none 0 0, .slice none 0 0, .int .i64 0, .int .i64 0, .slice none 0 0, .slice none 0 0, .int .i64 0], .int .i64 0, .agg #[.int .i64 0, .string ⟨#[]⟩, .int .i64 0, .int .i64 0, .int .i64 0, .int .i64 0, .int .i64 0, .int .i64 0, .string ⟨#[]⟩, .int .i64 0, .int .i64 0]], []⟩ 8 (by kernel_rfl) (by kernel_rfl) (by kernel_rfl) (by kernel_rfl)) ?_
  intro W base args ds gs before hval hW _ _
  exact workerTakes_contract H enc W base args ds gs before hval hW
theorem workerTakes_proved : Rows.WorkerTakesSaid :=
  OpenClaim.holds_of_wide 4 Tryz.f4 rfl rfl rfl rfl rfl rfl rfl ⟨rfl, rfl, rfl, rfl, rfl⟩ rfl rfl rfl rfl rfl (by kernel_rfl) Tryz.func4 (by kernel_rfl)
    (of_decide_eq_true (by kernel_rfl)) (by unfold Func.isWrapper; first | (rw [if_pos (by decide +kernel)]; kernel_rfl) | (rw [if_neg (by decide +kernel)]; exact ⟨rfl, rfl⟩))
    (fun os started H enc _ => workerTakes_lifted os started H enc)
end Go.Proofs.YtagfjnjpgphnjaaGreat
