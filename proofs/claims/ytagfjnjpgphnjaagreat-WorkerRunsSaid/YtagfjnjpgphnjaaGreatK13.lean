/-
  Items, walked over abstract values: which may be, by the reference.
  Aligners, walked over abstract values: which may be by the reference, new ones, likeness.
  Marks, walked over abstract values: new ones, likeness.
  Aligners, walked over abstract values: new ones, likeness.
-/
import Derived.Test.YtagfjnjpgphnjaaGreatK4
import Derived.Test.YtagfjnjpgphnjaaGreatK11
import Derived.Test.YtagfjnjpgphnjaaGreatK12
namespace Go.Proofs.YtagfjnjpgphnjaaGreat
open Go.RowKit
set_option linter.unusedSimpArgs false
set_option linter.unusedVariables false
set_option maxRecDepth 10000 in
set_option maxHeartbeats 4000000 in
theorem i_rRight (x : It) : PC Tryz.prog 62 [.agg x.av] (.v (.bool (itR x))) := by
  obtain ⟨kind, k, a, v, m, n, lo, hi, rk, rn, rv⟩ := x
  have h1 := p_rEvent k a v
  have h2 := p_rResult lo hi rk rn rv
  simp only [itR, It.av]
  have e1 := fun x y w => run_neq_Ev x y k a v w
  have e2 := fun x y w => run_neq_Rz x y lo hi rk rn rv w
  cases hE : noE k a v <;> cases hR : noR lo hi rk rn rv
  all_goals
    rw [hE] at e1
    rw [hR] at e2
    refine PC.mk (ac_body tab_ok Tryz.func62 rfl (by kernel_rfl) rfl ?_); intro w0 M μ0; simp only [Tryz.ntmps62, List.length_cons, List.length_nil, Nat.reduceAdd, Nat.reduceSub, numb]
    by_cases k1 : kind = 1
    · subst k1
      repeat' (first | ((first | apply o_do | apply d_do | apply d_yes rfl rfl rfl); first | exact lsc (h1) | exact lsc (h2) | exact ls_eqA [.string k, .int .i64 a, .int .i64 v] [.string ByteArray.empty, .int .i64 0, .int .i64 0] (e1 _ _) rfl rfl rfl rfl rfl | exact ls_eqA [.int .i64 lo, .int .i64 hi, .string rk, .int .i64 rn, .int .i64 rv] [.int .i64 0, .int .i64 0, .string ByteArray.empty, .int .i64 0, .int .i64 0] (e2 _ _) rfl rfl rfl rfl rfl | exact lsq) | refine a_seq ?_ | refine a_region ?_ | refine o_nil ?_ | refine a_block ?_ | refine a_ret ?_ | refine a_exit ?_ | refine a_skip ?_ | refine a_draw mixed ?_ | refine d_nil (by kernel_rfl) ?_ | refine o_yes rfl rfl rfl ?_ | refine o_no rfl rfl rfl (by decide) ?_ | refine o_no' rfl rfl rfl ?_ | refine a_condT rfl ?_ | refine a_condF rfl ?_ | refine d_no rfl rfl rfl (by decide) ?_ | refine d_no' rfl rfl rfl ?_ | (refine wq2 (fun hb => ?_) (fun hb => ?_) <;> (simp only [hb]; try simp only [hbs, ne_eq] at hb; try (exfalso; first | omega | exact hb trivial))) | fail)
      all_goals refine rq rfl ?_
      all_goals (first | refine FinA.tup ?_ | refine FinA.one ?_); repeat' (first | exact FinBs.nil | exact FinCs.nil | refine FinBs.cons ?_ ?_ | refine FinCs.cons ?_ ?_ | refine FinB.cell (FinC.v ?_) | refine FinB.cell (FinC.own rfl rfl rfl ?_) | exact FinB.cell FinC.nil | refine FinB.cell (FinC.sl ?_) | exact FinB.agg' rfl rfl | exact FinB.cell (FinC.same rfl) | refine FinB.agg ?_ | refine FinC.v ?_ | refine FinC.own rfl rfl rfl ?_ | exact FinC.nil | refine FinC.sl ?_ | exact FinC.same rfl); all_goals try rfl
      all_goals simp [*]
    by_cases k2 : kind = 2
    · subst k2
      repeat' (first | ((first | apply o_do | apply d_do | apply d_yes rfl rfl rfl); first | exact lsc (h1) | exact lsc (h2) | exact ls_eqA [.string k, .int .i64 a, .int .i64 v] [.string ByteArray.empty, .int .i64 0, .int .i64 0] (e1 _ _) rfl rfl rfl rfl rfl | exact ls_eqA [.int .i64 lo, .int .i64 hi, .string rk, .int .i64 rn, .int .i64 rv] [.int .i64 0, .int .i64 0, .string ByteArray.empty, .int .i64 0, .int .i64 0] (e2 _ _) rfl rfl rfl rfl rfl | exact lsq) | refine a_seq ?_ | refine a_region ?_ | refine o_nil ?_ | refine a_block ?_ | refine a_ret ?_ | refine a_exit ?_ | refine a_skip ?_ | refine a_draw mixed ?_ | refine d_nil (by kernel_rfl) ?_ | refine o_yes rfl rfl rfl ?_ | refine o_no rfl rfl rfl (by decide) ?_ | refine o_no' rfl rfl rfl ?_ | refine a_condT rfl ?_ | refine a_condF rfl ?_ | refine d_no rfl rfl rfl (by decide) ?_ | refine d_no' rfl rfl rfl ?_ | (refine wq2 (fun hb => ?_) (fun hb => ?_) <;> (simp only [hb]; try simp only [hbs, ne_eq] at hb; try (exfalso; first | omega | exact hb trivial))) | fail)
      all_goals refine rq rfl ?_
      all_goals (first | refine FinA.tup ?_ | refine FinA.one ?_); repeat' (first | exact FinBs.nil | exact FinCs.nil | refine FinBs.cons ?_ ?_ | refine FinCs.cons ?_ ?_ | refine FinB.cell (FinC.v ?_) | refine FinB.cell (FinC.own rfl rfl rfl ?_) | exact FinB.cell FinC.nil | refine FinB.cell (FinC.sl ?_) | exact FinB.agg' rfl rfl | exact FinB.cell (FinC.same rfl) | refine FinB.agg ?_ | refine FinC.v ?_ | refine FinC.own rfl rfl rfl ?_ | exact FinC.nil | refine FinC.sl ?_ | exact FinC.same rfl); all_goals try rfl
      all_goals simp [*]
    by_cases k3 : kind = 3
    · subst k3
      repeat' (first | ((first | apply o_do | apply d_do | apply d_yes rfl rfl rfl); first | exact lsc (h1) | exact lsc (h2) | exact ls_eqA [.string k, .int .i64 a, .int .i64 v] [.string ByteArray.empty, .int .i64 0, .int .i64 0] (e1 _ _) rfl rfl rfl rfl rfl | exact ls_eqA [.int .i64 lo, .int .i64 hi, .string rk, .int .i64 rn, .int .i64 rv] [.int .i64 0, .int .i64 0, .string ByteArray.empty, .int .i64 0, .int .i64 0] (e2 _ _) rfl rfl rfl rfl rfl | exact lsq) | refine a_seq ?_ | refine a_region ?_ | refine o_nil ?_ | refine a_block ?_ | refine a_ret ?_ | refine a_exit ?_ | refine a_skip ?_ | refine a_draw mixed ?_ | refine d_nil (by kernel_rfl) ?_ | refine o_yes rfl rfl rfl ?_ | refine o_no rfl rfl rfl (by decide) ?_ | refine o_no' rfl rfl rfl ?_ | refine a_condT rfl ?_ | refine a_condF rfl ?_ | refine d_no rfl rfl rfl (by decide) ?_ | refine d_no' rfl rfl rfl ?_ | (refine wq2 (fun hb => ?_) (fun hb => ?_) <;> (simp only [hb]; try simp only [hbs, ne_eq] at hb; try (exfalso; first | omega | exact hb trivial))) | fail)
      all_goals refine rq rfl ?_
      all_goals (first | refine FinA.tup ?_ | refine FinA.one ?_); repeat' (first | exact FinBs.nil | exact FinCs.nil | refine FinBs.cons ?_ ?_ | refine FinCs.cons ?_ ?_ | refine FinB.cell (FinC.v ?_) | refine FinB.cell (FinC.own rfl rfl rfl ?_) | exact FinB.cell FinC.nil | refine FinB.cell (FinC.sl ?_) | exact FinB.agg' rfl rfl | exact FinB.cell (FinC.same rfl) | refine FinB.agg ?_ | refine FinC.v ?_ | refine FinC.own rfl rfl rfl ?_ | exact FinC.nil | refine FinC.sl ?_ | exact FinC.same rfl); all_goals try rfl
      all_goals simp [*]
    by_cases k4 : kind = 4
    · subst k4
      repeat' (first | ((first | apply o_do | apply d_do | apply d_yes rfl rfl rfl); first | exact lsc (h1) | exact lsc (h2) | exact ls_eqA [.string k, .int .i64 a, .int .i64 v] [.string ByteArray.empty, .int .i64 0, .int .i64 0] (e1 _ _) rfl rfl rfl rfl rfl | exact ls_eqA [.int .i64 lo, .int .i64 hi, .string rk, .int .i64 rn, .int .i64 rv] [.int .i64 0, .int .i64 0, .string ByteArray.empty, .int .i64 0, .int .i64 0] (e2 _ _) rfl rfl rfl rfl rfl | exact lsq) | refine a_seq ?_ | refine a_region ?_ | refine o_nil ?_ | refine a_block ?_ | refine a_ret ?_ | refine a_exit ?_ | refine a_skip ?_ | refine a_draw mixed ?_ | refine d_nil (by kernel_rfl) ?_ | refine o_yes rfl rfl rfl ?_ | refine o_no rfl rfl rfl (by decide) ?_ | refine o_no' rfl rfl rfl ?_ | refine a_condT rfl ?_ | refine a_condF rfl ?_ | refine d_no rfl rfl rfl (by decide) ?_ | refine d_no' rfl rfl rfl ?_ | (refine wq2 (fun hb => ?_) (fun hb => ?_) <;> (simp only [hb]; try simp only [hbs, ne_eq] at hb; try (exfalso; first | omega | exact hb trivial))) | fail)
      all_goals refine rq rfl ?_
      all_goals (first | refine FinA.tup ?_ | refine FinA.one ?_); repeat' (first | exact FinBs.nil | exact FinCs.nil | refine FinBs.cons ?_ ?_ | refine FinCs.cons ?_ ?_ | refine FinB.cell (FinC.v ?_) | refine FinB.cell (FinC.own rfl rfl rfl ?_) | exact FinB.cell FinC.nil | refine FinB.cell (FinC.sl ?_) | exact FinB.agg' rfl rfl | exact FinB.cell (FinC.same rfl) | refine FinB.agg ?_ | refine FinC.v ?_ | refine FinC.own rfl rfl rfl ?_ | exact FinC.nil | refine FinC.sl ?_ | exact FinC.same rfl); all_goals try rfl
      all_goals simp [*]
    by_cases k5 : kind = 5
    · subst k5
      repeat' (first | ((first | apply o_do | apply d_do | apply d_yes rfl rfl rfl); first | exact lsc (h1) | exact lsc (h2) | exact ls_eqA [.string k, .int .i64 a, .int .i64 v] [.string ByteArray.empty, .int .i64 0, .int .i64 0] (e1 _ _) rfl rfl rfl rfl rfl | exact ls_eqA [.int .i64 lo, .int .i64 hi, .string rk, .int .i64 rn, .int .i64 rv] [.int .i64 0, .int .i64 0, .string ByteArray.empty, .int .i64 0, .int .i64 0] (e2 _ _) rfl rfl rfl rfl rfl | exact lsq) | refine a_seq ?_ | refine a_region ?_ | refine o_nil ?_ | refine a_block ?_ | refine a_ret ?_ | refine a_exit ?_ | refine a_skip ?_ | refine a_draw mixed ?_ | refine d_nil (by kernel_rfl) ?_ | refine o_yes rfl rfl rfl ?_ | refine o_no rfl rfl rfl (by decide) ?_ | refine o_no' rfl rfl rfl ?_ | refine a_condT rfl ?_ | refine a_condF rfl ?_ | refine d_no rfl rfl rfl (by decide) ?_ | refine d_no' rfl rfl rfl ?_ | (refine wq2 (fun hb => ?_) (fun hb => ?_) <;> (simp only [hb]; try simp only [hbs, ne_eq] at hb; try (exfalso; first | omega | exact hb trivial))) | fail)
      all_goals refine rq rfl ?_
      all_goals (first | refine FinA.tup ?_ | refine FinA.one ?_); repeat' (first | exact FinBs.nil | exact FinCs.nil | refine FinBs.cons ?_ ?_ | refine FinCs.cons ?_ ?_ | refine FinB.cell (FinC.v ?_) | refine FinB.cell (FinC.own rfl rfl rfl ?_) | exact FinB.cell FinC.nil | refine FinB.cell (FinC.sl ?_) | exact FinB.agg' rfl rfl | exact FinB.cell (FinC.same rfl) | refine FinB.agg ?_ | refine FinC.v ?_ | refine FinC.own rfl rfl rfl ?_ | exact FinC.nil | refine FinC.sl ?_ | exact FinC.same rfl); all_goals try rfl
      all_goals simp [*]
    · simp only [k1, k2, k3, k4, k5, if_false]
      by_cases k6 : kind < 1
      · repeat' (first | ((first | apply o_do | apply d_do | apply d_yes rfl rfl rfl); exact lsq) | refine a_seq ?_ | refine a_region ?_ | refine o_nil ?_ | refine a_block ?_ | refine a_ret ?_ | refine a_exit ?_ | refine a_skip ?_ | refine a_draw mixed ?_ | refine d_nil (by kernel_rfl) ?_ | refine o_yes rfl rfl rfl ?_ | refine o_no rfl rfl rfl (by decide) ?_ | refine o_no' rfl rfl rfl ?_ | refine a_condT rfl ?_ | refine a_condF rfl ?_ | refine d_no rfl rfl rfl (by decide) ?_ | refine d_no' rfl rfl rfl ?_ | (refine wq2 (fun hb => ?_) (fun hb => ?_) <;> (simp only [hb]; try simp only [hbs, ne_eq] at hb; try (exfalso; first | omega | exact hb trivial))) | fail)
        all_goals refine rq rfl ?_
        all_goals exact fnq
      · have k7 : 5 < kind := by omega
        repeat' (first | ((first | apply o_do | apply d_do | apply d_yes rfl rfl rfl); exact lsq) | refine a_seq ?_ | refine a_region ?_ | refine o_nil ?_ | refine a_block ?_ | refine a_ret ?_ | refine a_exit ?_ | refine a_skip ?_ | refine a_draw mixed ?_ | refine d_nil (by kernel_rfl) ?_ | refine o_yes rfl rfl rfl ?_ | refine o_no rfl rfl rfl (by decide) ?_ | refine o_no' rfl rfl rfl ?_ | refine a_condT rfl ?_ | refine a_condF rfl ?_ | refine d_no rfl rfl rfl (by decide) ?_ | refine d_no' rfl rfl rfl ?_ | (refine wq2 (fun hb => ?_) (fun hb => ?_) <;> (simp only [hb]; try simp only [hbs, ne_eq] at hb; try (exfalso; first | omega | exact hb trivial))) | fail)
        all_goals refine rq rfl ?_
        all_goals exact fnq
end Go.Proofs.YtagfjnjpgphnjaaGreat
namespace Go.Proofs.YtagfjnjpgphnjaaGreat
open Go.RowKit
set_option linter.unusedSimpArgs false
set_option linter.unusedVariables false
def cntT (l : List Bool) : Nat := (l.filter id).length
theorem cntT_snoc (l : List Bool) (b : Bool) : cntT (l ++ [b]) = cntT l + (if b then 1 else 0) := by
  unfold cntT
  rw [List.filter_append, List.length_append]
  cases b <;> simp
theorem cntT_le (l : List Bool) : cntT l ≤ l.length := List.length_filter_le _ _
theorem cntT_pos (l : List Bool) : (l.any id) = decide (0 < cntT l) := by
  unfold cntT
  rw [Bool.eq_iff_iff, List.any_eq_true, decide_eq_true_eq, List.length_pos_iff_exists_mem]
  constructor
  · rintro ⟨x, h1, h2⟩; exact ⟨x, List.mem_filter.2 ⟨h1, h2⟩⟩
  · rintro ⟨x, h⟩; exact ⟨x, (List.mem_filter.1 h).1, (List.mem_filter.1 h).2⟩
theorem cntT_lt (l : List Bool) : (l.any (!·)) = decide (cntT l < l.length) := by
  induction l with
  | nil => simp [cntT]
  | cons b l ih =>
    have h1 : cntT (b :: l) = (if b then 1 else 0) + cntT l := by
      unfold cntT
      cases b <;> simp [Nat.add_comm]
    have h2 := cntT_le l
    rw [List.any_cons, ih, h1, List.length_cons]
    cases b
    · simp; omega
    · simp; omega
set_option maxHeartbeats 4000000 in
theorem l_rRight (a : Al) (hg : a.got.length ≤ 9223372036854775807) (hh : a.held.length ≤ 9223372036854775807) (hi : ∀ l ∈ a.held, l.length ≤ 9223372036854775807) : PC Tryz.prog 110 [.agg a.av] (.v (.bool (alR a))) := by
  obtain ⟨n, got, held⟩ := a
  dsimp only at hg hh hi
  have hn1 : (got.map boAv).length = got.length := List.length_map _
  have hn2 : (held.map heAv).length = held.length := List.length_map _
  simp only [Al.av]
  by_cases hpre : alP n got held
  · rw [alR_eq hpre]
    have hp := hpre
    obtain ⟨a1, a2, a3, a4, a5⟩ := hp
    refine PC.mk (ac_body tab_ok Tryz.func110 rfl (by kernel_rfl) rfl ?_); intro w0 M μ0; simp only [Tryz.ntmps110, List.length_cons, List.length_nil, Nat.reduceAdd, Nat.reduceSub, numb]
    repeat' (first | ((first | apply o_do | apply d_do | apply d_yes rfl rfl rfl); exact lsq) | refine a_seq ?_ | refine a_region ?_ | refine o_nil ?_ | refine a_block ?_ | refine a_ret ?_ | refine a_exit ?_ | refine a_skip ?_ | refine a_draw mixed ?_ | refine d_nil (by kernel_rfl) ?_ | refine o_yes rfl rfl rfl ?_ | refine o_no rfl rfl rfl (by decide) ?_ | refine o_no' rfl rfl rfl ?_ | refine a_condT rfl ?_ | refine a_condF rfl ?_ | refine d_no rfl rfl rfl (by decide) ?_ | refine d_no' rfl rfl rfl ?_ | (refine wq2 (fun hb => ?_) (fun hb => ?_) <;> (simp only [hb]; try simp only [hbs, ne_eq] at hb; try (exfalso; first | omega | exact hb trivial))) | fail)
    refine a_loop (X := {q : Nat // q ≤ got.length ∧ (List.range q).all (heG got held) = true}) (fun x => ⟨[(1, .ref 0 0), (3, .v (.int .i64 (cntT (got.take x.1)))), (38, .sl 1 (got.map boAv)), (39, .v (.int .i64 got.length)), (40, .v (.int .i64 x.1))], [(0, .box 40 [.v (.int .i64 n), .sl 1 (got.map boAv), .sl 1 (held.map heAv)])]⟩) (fun x => got.length - x.1) ⟨0, Nat.zero_le _, rfl⟩ ?_ ?_
    · exact wkS
    rintro ⟨q, hq, hok⟩
    dsimp only
    by_cases hlt : q < got.length
    · have hlh : q < held.length := by omega
      have hel : (got.map boAv)[q]? = some (boAv got[q]) := by simp [hlt]
      have hel2 : (held.map heAv)[q]? = some (heAv held[q]) := by simp [hlh]
      have hG : heG got held q = (decide (held[q].length ≤ 16) && ((decide (held[q].length = 0) || got[q]) && held[q].all itR)) := by simp only [heG, getD_at hlh, getD_at hlt]
      have hbad : heG got held q = false → (alQ n got && (List.range held.length).all (heG got held)) = false := fun h => by rw [rall_fail hlh h, Bool.and_false]
      have hgo : heG got held q = true → (List.range (q + 1)).all (heG got held) = true := fun h => by rw [rall_snoc, hok, h]; rfl
      have hlen := hi _ (List.getElem_mem hlh)
      have hsn := take_snoc got q hlt
      have hct := cntT_snoc (got.take q) got[q]
      rw [← hsn] at hct
      have hcl := cntT_le (got.take q)
      rw [List.length_take] at hcl
      generalize held[q] = l at *
      generalize got[q] = g at *
      have hn3 : (l.map It.av).length = l.length := List.length_map _
      by_cases h16 : l.length ≤ 16
      · by_cases h0 : g = false ∧ l.length ≠ 0
        · obtain ⟨rfl, h0⟩ := h0
          rw [hbad (by rw [hG]; simp; intro _ h; exact absurd h (by simpa using h0))]
          have h0' : 0 < l.length := by omega
          repeat' (first | ((first | apply o_do | apply d_do | apply d_yes rfl rfl rfl); first | exact ls_indexAddr_sl tab_ok rfl rfl rfl rfl hel rfl | exact ls_indexAddr_sl tab_ok rfl rfl rfl rfl hel2 rfl | exact lsq) | refine a_seq ?_ | refine a_region ?_ | refine o_nil ?_ | refine a_block ?_ | refine a_ret ?_ | refine a_exit ?_ | refine a_skip ?_ | refine a_draw mixed ?_ | refine d_nil (by kernel_rfl) ?_ | refine o_yes rfl rfl rfl ?_ | refine o_no rfl rfl rfl (by decide) ?_ | refine o_no' rfl rfl rfl ?_ | refine a_condT rfl ?_ | refine a_condF rfl ?_ | refine d_no rfl rfl rfl (by decide) ?_ | refine d_no' rfl rfl rfl ?_ | (refine wq2 (fun hb => ?_) (fun hb => ?_) <;> (simp only [hb]; try simp only [hbs, ne_eq] at hb; try (exfalso; first | omega | exact hb trivial))) | fail)
          refine rq rfl ?_
          exact fnq
        · have hlg : (decide (l.length = 0) || g) = true := by
            cases g
            · simp only [true_and, ne_eq, Decidable.not_not] at h0
              simp [h0]
            · simp
          have key : ∀ C : Int, C = (cntT (got.take (q + 1)) : Int) → True := fun _ _ => trivial
          have hc2 : (if g = true then 1 else 0) = (if g then 1 else 0) := rfl
          have inner : ∀ (Q : Exit → ASt → Prop) (Γ : Ctx) (c : Code) (s : ASt), True := fun _ _ _ _ => trivial
          cases g
          · have hl0 : l.length = 0 := by simpa using hlg
            obtain rfl : l = [] := List.length_eq_zero_iff.1 hl0
            have hg1 := hgo (by rw [hG]; rfl)
            have hct' : cntT (got.take (q + 1)) = cntT (got.take q) := by rw [hct]; rfl
            repeat' (first | ((first | apply o_do | apply d_do | apply d_yes rfl rfl rfl); first | exact ls_indexAddr_sl tab_ok rfl rfl rfl rfl hel rfl | exact ls_indexAddr_sl tab_ok rfl rfl rfl rfl hel2 rfl | exact lsq) | refine a_seq ?_ | refine a_region ?_ | refine o_nil ?_ | refine a_block ?_ | refine a_ret ?_ | refine a_exit ?_ | refine a_skip ?_ | refine a_draw mixed ?_ | refine d_nil (by kernel_rfl) ?_ | refine o_yes rfl rfl rfl ?_ | refine o_no rfl rfl rfl (by decide) ?_ | refine o_no' rfl rfl rfl ?_ | refine a_condT rfl ?_ | refine a_condF rfl ?_ | refine d_no rfl rfl rfl (by decide) ?_ | refine d_no' rfl rfl rfl ?_ | (refine wq2 (fun hb => ?_) (fun hb => ?_) <;> (simp only [hb]; try simp only [hbs, ne_eq] at hb; try (exfalso; first | omega | exact hb trivial))) | fail)
            refine a_loop (X := {p : Nat // p ≤ 0}) (fun x => ⟨[(1, .ref 0 0), (3, .v (.int .i64 (cntT (got.take q)))), (38, .sl 1 (got.map boAv)), (39, .v (.int .i64 got.length)), (40, .v (.int .i64 q)), (72, .sl 11 []), (73, .v (.int .i64 0)), (74, .v (.int .i64 x.1))], [(0, .box 40 [.v (.int .i64 n), .sl 1 (got.map boAv), .sl 1 (held.map heAv)])]⟩) (fun x => 0) ⟨0, Nat.le_refl _⟩ ?_ ?_
            · exact wkS
            rintro ⟨p, hp⟩
            obtain rfl : p = 0 := by omega
            dsimp only
            repeat' (first | ((first | apply o_do | apply d_do | apply d_yes rfl rfl rfl); exact lsq) | refine a_seq ?_ | refine a_region ?_ | refine o_nil ?_ | refine a_block ?_ | refine a_ret ?_ | refine a_exit ?_ | refine a_skip ?_ | refine a_draw mixed ?_ | refine d_nil (by kernel_rfl) ?_ | refine o_yes rfl rfl rfl ?_ | refine o_no rfl rfl rfl (by decide) ?_ | refine o_no' rfl rfl rfl ?_ | refine a_condT rfl ?_ | refine a_condF rfl ?_ | refine d_no rfl rfl rfl (by decide) ?_ | refine d_no' rfl rfl rfl ?_ | (refine wq2 (fun hb => ?_) (fun hb => ?_) <;> (simp only [hb]; try simp only [hbs, ne_eq] at hb; try (exfalso; first | omega | exact hb trivial))) | fail)
            refine ⟨⟨q + 1, by omega, hg1⟩, by dsimp only; omega, ?_⟩
            refine ⟨by repeat' (first | exact trivial | exact FinA.one (FinB.cell (FinC.same rfl)) | exact FinA.one (FinB.cell FinC.nil) | exact FinA.bound rfl | exact FinA.one (FinB.cell (FinC.own rfl rfl rfl rfl)) | exact FinA.one (FinB.cell (FinC.v (by first | rfl | ((first | (rw [hct']; done) | simp [hct']))))) | exact FinA.one (FinB.cell (FinC.ow rfl (by first | rfl | ((first | (rw [hct']; done) | simp [hct']))))) | exact FinA.one (FinB.agg' rfl rfl) | refine ⟨⟨_, rfl, ?_⟩, ?_⟩), by repeat' (first | exact trivial | refine ⟨⟨_, rfl, by first | rfl | ((first | (rw [hct']; done) | simp [hct']); done) | (simp [renO, *]; done)⟩, by first | rfl | assumption, ?_⟩), rfl⟩
          · have hct' : (cntT (got.take (q + 1)) : Int) = (cntT (got.take q) : Int) + 1 := by rw [hct]; simp
            repeat' (first | ((first | apply o_do | apply d_do | apply d_yes rfl rfl rfl); first | exact ls_indexAddr_sl tab_ok rfl rfl rfl rfl hel rfl | exact ls_indexAddr_sl tab_ok rfl rfl rfl rfl hel2 rfl | exact lsq) | refine a_seq ?_ | refine a_region ?_ | refine o_nil ?_ | refine a_block ?_ | refine a_ret ?_ | refine a_exit ?_ | refine a_skip ?_ | refine a_draw mixed ?_ | refine d_nil (by kernel_rfl) ?_ | refine o_yes rfl rfl rfl ?_ | refine o_no rfl rfl rfl (by decide) ?_ | refine o_no' rfl rfl rfl ?_ | refine a_condT rfl ?_ | refine a_condF rfl ?_ | refine d_no rfl rfl rfl (by decide) ?_ | refine d_no' rfl rfl rfl ?_ | (refine wq2 (fun hb => ?_) (fun hb => ?_) <;> (simp only [hb]; try simp only [hbs, ne_eq] at hb; try (exfalso; first | omega | exact hb trivial))) | fail)
            refine a_loop (X := {p : Nat // p ≤ l.length ∧ (l.take p).all itR = true}) (fun x => ⟨[(1, .ref 0 0), (3, .v (.int .i64 ((cntT (got.take q) : Int) + 1))), (38, .sl 1 (got.map boAv)), (39, .v (.int .i64 got.length)), (40, .v (.int .i64 q)), (72, .sl 11 (l.map It.av)), (73, .v (.int .i64 l.length)), (74, .v (.int .i64 x.1))], [(0, .box 40 [.v (.int .i64 n), .sl 1 (got.map boAv), .sl 1 (held.map heAv)])]⟩) (fun x => l.length - x.1) ⟨0, Nat.zero_le _, rfl⟩ ?_ ?_
            · exact wkS
            rintro ⟨p, hp, hal⟩
            dsimp only
            by_cases hpl : p < l.length
            · have hel3 : (l.map It.av)[p]? = some (It.av l[p]) := by simp [hpl]
              have hit := i_rRight l[p]
              have hsn2 := take_snoc l p hpl
              cases hc : itR l[p]
              · rw [hc] at hit
                rw [hbad (by
                  have : l.all itR = false := by
                    rw [List.all_eq_false]
                    exact ⟨l[p], List.getElem_mem hpl, by simp [hc]⟩
                  rw [hG, this]; simp)]
                generalize l[p] = x at *
                repeat' (first | ((first | apply o_do | apply d_do | apply d_yes rfl rfl rfl); first | exact ls_indexAddr_sl tab_ok rfl rfl rfl rfl hel3 rfl | exact lsc (hit) | exact lsq) | refine a_seq ?_ | refine a_region ?_ | refine o_nil ?_ | refine a_block ?_ | refine a_ret ?_ | refine a_exit ?_ | refine a_skip ?_ | refine a_draw mixed ?_ | refine d_nil (by kernel_rfl) ?_ | refine o_yes rfl rfl rfl ?_ | refine o_no rfl rfl rfl (by decide) ?_ | refine o_no' rfl rfl rfl ?_ | refine a_condT rfl ?_ | refine a_condF rfl ?_ | refine d_no rfl rfl rfl (by decide) ?_ | refine d_no' rfl rfl rfl ?_ | (refine wq2 (fun hb => ?_) (fun hb => ?_) <;> (simp only [hb]; try simp only [hbs, ne_eq] at hb; try (exfalso; first | omega | exact hb trivial))) | fail)
                refine rq rfl ?_
                exact fnq
              · rw [hc] at hit
                have hal2 : (l.take (p + 1)).all itR = true := by rw [hsn2, List.all_append, hal]; simp [hc]
                generalize l[p] = x at *
                repeat' (first | ((first | apply o_do | apply d_do | apply d_yes rfl rfl rfl); first | exact ls_indexAddr_sl tab_ok rfl rfl rfl rfl hel3 rfl | exact lsc (hit) | exact lsq) | refine a_seq ?_ | refine a_region ?_ | refine o_nil ?_ | refine a_block ?_ | refine a_ret ?_ | refine a_exit ?_ | refine a_skip ?_ | refine a_draw mixed ?_ | refine d_nil (by kernel_rfl) ?_ | refine o_yes rfl rfl rfl ?_ | refine o_no rfl rfl rfl (by decide) ?_ | refine o_no' rfl rfl rfl ?_ | refine a_condT rfl ?_ | refine a_condF rfl ?_ | refine d_no rfl rfl rfl (by decide) ?_ | refine d_no' rfl rfl rfl ?_ | (refine wq2 (fun hb => ?_) (fun hb => ?_) <;> (simp only [hb]; try simp only [hbs, ne_eq] at hb; try (exfalso; first | omega | exact hb trivial))) | fail)
                refine ⟨⟨p + 1, by omega, hal2⟩, by dsimp only; omega, ?_⟩
                exact wkS
            · obtain rfl : p = l.length := by omega
              rw [List.take_length] at hal
              have hg1 := hgo (by rw [hG, hal]; simp [h16])
              repeat' (first | ((first | apply o_do | apply d_do | apply d_yes rfl rfl rfl); exact lsq) | refine a_seq ?_ | refine a_region ?_ | refine o_nil ?_ | refine a_block ?_ | refine a_ret ?_ | refine a_exit ?_ | refine a_skip ?_ | refine a_draw mixed ?_ | refine d_nil (by kernel_rfl) ?_ | refine o_yes rfl rfl rfl ?_ | refine o_no rfl rfl rfl (by decide) ?_ | refine o_no' rfl rfl rfl ?_ | refine a_condT rfl ?_ | refine a_condF rfl ?_ | refine d_no rfl rfl rfl (by decide) ?_ | refine d_no' rfl rfl rfl ?_ | (refine wq2 (fun hb => ?_) (fun hb => ?_) <;> (simp only [hb]; try simp only [hbs, ne_eq] at hb; try (exfalso; first | omega | exact hb trivial))) | fail)
              refine ⟨⟨q + 1, by omega, hg1⟩, by dsimp only; omega, ?_⟩
              refine ⟨by repeat' (first | exact trivial | exact FinA.one (FinB.cell (FinC.same rfl)) | exact FinA.one (FinB.cell FinC.nil) | exact FinA.bound rfl | exact FinA.one (FinB.cell (FinC.own rfl rfl rfl rfl)) | exact FinA.one (FinB.cell (FinC.v (by first | rfl | ((first | (rw [hct']; done) | simp [hct']))))) | exact FinA.one (FinB.cell (FinC.ow rfl (by first | rfl | ((first | (rw [hct']; done) | simp [hct']))))) | exact FinA.one (FinB.agg' rfl rfl) | refine ⟨⟨_, rfl, ?_⟩, ?_⟩), by repeat' (first | exact trivial | refine ⟨⟨_, rfl, by first | rfl | ((first | (rw [hct']; done) | simp [hct']); done) | (simp [renO, *]; done)⟩, by first | rfl | assumption, ?_⟩), rfl⟩
      · rw [hbad (by rw [hG]; simp [h16])]
        have h17 : 16 < l.length := by omega
        cases g
        all_goals
          repeat' (first | ((first | apply o_do | apply d_do | apply d_yes rfl rfl rfl); first | exact ls_indexAddr_sl tab_ok rfl rfl rfl rfl hel rfl | exact ls_indexAddr_sl tab_ok rfl rfl rfl rfl hel2 rfl | exact lsq) | refine a_seq ?_ | refine a_region ?_ | refine o_nil ?_ | refine a_block ?_ | refine a_ret ?_ | refine a_exit ?_ | refine a_skip ?_ | refine a_draw mixed ?_ | refine d_nil (by kernel_rfl) ?_ | refine o_yes rfl rfl rfl ?_ | refine o_no rfl rfl rfl (by decide) ?_ | refine o_no' rfl rfl rfl ?_ | refine a_condT rfl ?_ | refine a_condF rfl ?_ | refine d_no rfl rfl rfl (by decide) ?_ | refine d_no' rfl rfl rfl ?_ | (refine wq2 (fun hb => ?_) (fun hb => ?_) <;> (simp only [hb]; try simp only [hbs, ne_eq] at hb; try (exfalso; first | omega | exact hb trivial))) | fail)
          all_goals refine rq rfl ?_
          all_goals exact fnq
    · obtain rfl : q = got.length := by omega
      rw [List.take_length]
      rw [a3, hok, Bool.and_true]
      have hQ : alQ n got = ((decide (0 < cntT got) == decide (0 < n)) && decide (cntT got < got.length)) := by unfold alQ; rw [cntT_pos, cntT_lt]
      rw [hQ]
      repeat' (first | ((first | apply o_do | apply d_do | apply d_yes rfl rfl rfl); exact lsq) | refine a_seq ?_ | refine a_region ?_ | refine o_nil ?_ | refine a_block ?_ | refine a_ret ?_ | refine a_exit ?_ | refine a_skip ?_ | refine a_draw mixed ?_ | refine d_nil (by kernel_rfl) ?_ | refine o_yes rfl rfl rfl ?_ | refine o_no rfl rfl rfl (by decide) ?_ | refine o_no' rfl rfl rfl ?_ | refine a_condT rfl ?_ | refine a_condF rfl ?_ | refine d_no rfl rfl rfl (by decide) ?_ | refine d_no' rfl rfl rfl ?_ | (refine wq2 (fun hb => ?_) (fun hb => ?_) <;> (simp only [hb]; try simp only [hbs, ne_eq] at hb; try (exfalso; first | omega | exact hb trivial))) | fail)
      all_goals refine rq rfl ?_
      all_goals (first | refine FinA.tup ?_ | refine FinA.one ?_); repeat' (first | exact FinBs.nil | exact FinCs.nil | refine FinBs.cons ?_ ?_ | refine FinCs.cons ?_ ?_ | refine FinB.cell (FinC.v ?_) | refine FinB.cell (FinC.own rfl rfl rfl ?_) | exact FinB.cell FinC.nil | refine FinB.cell (FinC.sl ?_) | exact FinB.agg' rfl rfl | exact FinB.cell (FinC.same rfl) | refine FinB.agg ?_ | refine FinC.v ?_ | refine FinC.own rfl rfl rfl ?_ | exact FinC.nil | refine FinC.sl ?_ | exact FinC.same rfl); all_goals try rfl
      all_goals (simp; try omega)
  · rw [alR_pre hpre]
    unfold alP at hpre
    refine PC.mk (ac_body tab_ok Tryz.func110 rfl (by kernel_rfl) rfl ?_); intro w0 M μ0; simp only [Tryz.ntmps110, List.length_cons, List.length_nil, Nat.reduceAdd, Nat.reduceSub, numb]
    by_cases a1 : got.length < 1
    · repeat' (first | ((first | apply o_do | apply d_do | apply d_yes rfl rfl rfl); exact lsq) | refine a_seq ?_ | refine a_region ?_ | refine o_nil ?_ | refine a_block ?_ | refine a_ret ?_ | refine a_exit ?_ | refine a_skip ?_ | refine a_draw mixed ?_ | refine d_nil (by kernel_rfl) ?_ | refine o_yes rfl rfl rfl ?_ | refine o_no rfl rfl rfl (by decide) ?_ | refine o_no' rfl rfl rfl ?_ | refine a_condT rfl ?_ | refine a_condF rfl ?_ | refine d_no rfl rfl rfl (by decide) ?_ | refine d_no' rfl rfl rfl ?_ | (refine wq2 (fun hb => ?_) (fun hb => ?_) <;> (simp only [hb]; try simp only [hbs, ne_eq] at hb; try (exfalso; first | omega | exact hb trivial))) | fail)
      all_goals refine rq rfl ?_
      all_goals exact fnq
    by_cases a2 : 8 < got.length
    · repeat' (first | ((first | apply o_do | apply d_do | apply d_yes rfl rfl rfl); exact lsq) | refine a_seq ?_ | refine a_region ?_ | refine o_nil ?_ | refine a_block ?_ | refine a_ret ?_ | refine a_exit ?_ | refine a_skip ?_ | refine a_draw mixed ?_ | refine d_nil (by kernel_rfl) ?_ | refine o_yes rfl rfl rfl ?_ | refine o_no rfl rfl rfl (by decide) ?_ | refine o_no' rfl rfl rfl ?_ | refine a_condT rfl ?_ | refine a_condF rfl ?_ | refine d_no rfl rfl rfl (by decide) ?_ | refine d_no' rfl rfl rfl ?_ | (refine wq2 (fun hb => ?_) (fun hb => ?_) <;> (simp only [hb]; try simp only [hbs, ne_eq] at hb; try (exfalso; first | omega | exact hb trivial))) | fail)
      all_goals refine rq rfl ?_
      all_goals exact fnq
    by_cases a3 : held.length = got.length
    · by_cases a4 : n < 0
      · repeat' (first | ((first | apply o_do | apply d_do | apply d_yes rfl rfl rfl); exact lsq) | refine a_seq ?_ | refine a_region ?_ | refine o_nil ?_ | refine a_block ?_ | refine a_ret ?_ | refine a_exit ?_ | refine a_skip ?_ | refine a_draw mixed ?_ | refine d_nil (by kernel_rfl) ?_ | refine o_yes rfl rfl rfl ?_ | refine o_no rfl rfl rfl (by decide) ?_ | refine o_no' rfl rfl rfl ?_ | refine a_condT rfl ?_ | refine a_condF rfl ?_ | refine d_no rfl rfl rfl (by decide) ?_ | refine d_no' rfl rfl rfl ?_ | (refine wq2 (fun hb => ?_) (fun hb => ?_) <;> (simp only [hb]; try simp only [hbs, ne_eq] at hb; try (exfalso; first | omega | exact hb trivial))) | fail)
        all_goals refine rq rfl ?_
        all_goals exact fnq
      · have a5 : 1073741824 < n := by omega
        repeat' (first | ((first | apply o_do | apply d_do | apply d_yes rfl rfl rfl); exact lsq) | refine a_seq ?_ | refine a_region ?_ | refine o_nil ?_ | refine a_block ?_ | refine a_ret ?_ | refine a_exit ?_ | refine a_skip ?_ | refine a_draw mixed ?_ | refine d_nil (by kernel_rfl) ?_ | refine o_yes rfl rfl rfl ?_ | refine o_no rfl rfl rfl (by decide) ?_ | refine o_no' rfl rfl rfl ?_ | refine a_condT rfl ?_ | refine a_condF rfl ?_ | refine d_no rfl rfl rfl (by decide) ?_ | refine d_no' rfl rfl rfl ?_ | (refine wq2 (fun hb => ?_) (fun hb => ?_) <;> (simp only [hb]; try simp only [hbs, ne_eq] at hb; try (exfalso; first | omega | exact hb trivial))) | fail)
        all_goals refine rq rfl ?_
        all_goals exact fnq
    · repeat' (first | ((first | apply o_do | apply d_do | apply d_yes rfl rfl rfl); exact lsq) | refine a_seq ?_ | refine a_region ?_ | refine o_nil ?_ | refine a_block ?_ | refine a_ret ?_ | refine a_exit ?_ | refine a_skip ?_ | refine a_draw mixed ?_ | refine d_nil (by kernel_rfl) ?_ | refine o_yes rfl rfl rfl ?_ | refine o_no rfl rfl rfl (by decide) ?_ | refine o_no' rfl rfl rfl ?_ | refine a_condT rfl ?_ | refine a_condF rfl ?_ | refine d_no rfl rfl rfl (by decide) ?_ | refine d_no' rfl rfl rfl ?_ | (refine wq2 (fun hb => ?_) (fun hb => ?_) <;> (simp only [hb]; try simp only [hbs, ne_eq] at hb; try (exfalso; first | omega | exact hb trivial))) | fail)
      all_goals refine rq rfl ?_
      all_goals exact fnq
end Go.Proofs.YtagfjnjpgphnjaaGreat
namespace Go.Proofs.YtagfjnjpgphnjaaGreat
open Go.RowKit
set_option linter.unusedSimpArgs false
set_option linter.unusedVariables false
def newIns (n : Int) : List (Int × Bool) := if 1 ≤ n ∧ n ≤ 8 then List.replicate n.toNat (0, false) else []
def newE (n : Int) : Int := if 1 ≤ n ∧ n ≤ 8 then 0 else 1
theorem m_New (n : Int) : PC Tryz.prog 44 [.v (.int .i64 n)] (.tup [.agg (Mk.av ⟨newIns n, [], 0⟩), .v (.int .i64 (newE n))]) := by
  unfold newIns newE
  by_cases hn : 1 ≤ n ∧ n ≤ 8
  · rw [if_pos hn, if_pos hn]
    obtain ⟨q, rfl⟩ : ∃ q : Nat, n = (q : Int) := ⟨n.toNat, by omega⟩
    obtain ⟨h1, h2⟩ := hn
    have hl : q ≤ 1000000 := by omega
    have e : (List.replicate (q : Int).toNat (0, false)).map inAvM = List.replicate q ([Value.int .i64 0, Value.bool false].map AV.v) := by rw [List.map_replicate]; rfl
    simp only [Mk.av, e, List.map_nil]
    refine PC.mk (ac_body tab_ok Tryz.func44 rfl (by kernel_rfl) rfl ?_); intro w0 M μ0; simp only [Tryz.ntmps44, List.length_cons, List.length_nil, Nat.reduceAdd, Nat.reduceSub, numb]
    repeat' (first | ((first | apply o_do | apply d_do | apply d_yes rfl rfl rfl); first | exact ls_make (k := 1) tab_ok tab_zero rfl rfl rfl rfl rfl rfl rfl hl rfl rfl rfl | exact lsq) | refine a_seq ?_ | refine a_region ?_ | refine o_nil ?_ | refine a_block ?_ | refine a_ret ?_ | refine a_exit ?_ | refine a_skip ?_ | refine a_draw mixed ?_ | refine d_nil (by kernel_rfl) ?_ | refine o_yes rfl rfl rfl ?_ | refine o_no rfl rfl rfl (by decide) ?_ | refine o_no' rfl rfl rfl ?_ | refine a_condT rfl ?_ | refine a_condF rfl ?_ | refine d_no rfl rfl rfl (by decide) ?_ | refine d_no' rfl rfl rfl ?_ | (refine wq2 (fun hb => ?_) (fun hb => ?_) <;> (simp only [hb]; try simp only [hbs, ne_eq] at hb; try (exfalso; first | omega | exact hb trivial))) | fail)
    all_goals refine rq rfl ?_
    all_goals exact fnq
  · rw [if_neg hn, if_neg hn]
    refine PC.mk (ac_body tab_ok Tryz.func44 rfl (by kernel_rfl) rfl ?_); intro w0 M μ0; simp only [Tryz.ntmps44, List.length_cons, List.length_nil, Nat.reduceAdd, Nat.reduceSub, numb]
    repeat' (first | ((first | apply o_do | apply d_do | apply d_yes rfl rfl rfl); exact lsq) | refine a_seq ?_ | refine a_region ?_ | refine o_nil ?_ | refine a_block ?_ | refine a_ret ?_ | refine a_exit ?_ | refine a_skip ?_ | refine a_draw mixed ?_ | refine d_nil (by kernel_rfl) ?_ | refine o_yes rfl rfl rfl ?_ | refine o_no rfl rfl rfl (by decide) ?_ | refine o_no' rfl rfl rfl ?_ | refine a_condT rfl ?_ | refine a_condF rfl ?_ | refine d_no rfl rfl rfl (by decide) ?_ | refine d_no' rfl rfl rfl ?_ | (refine wq2 (fun hb => ?_) (fun hb => ?_) <;> (simp only [hb]; try simp only [hbs, ne_eq] at hb; try (exfalso; first | omega | exact hb trivial))) | fail)
    all_goals refine rq rfl ?_
    all_goals exact fnq
def Mk.okV : Int × Bool → List Value := fun x => [.int .i64 x.1, .bool x.2]
def hoV : Int × Int → List Value := fun x => [.int .i64 x.1, .int .i64 x.2]
theorem run_neq_In (x y : Operand) (p : Int × Bool) (w : World) : (do eqGuard .neq 189 x y (.agg (Mk.okV p).toArray) (.agg (Mk.okV p).toArray); binOp .neq 189 (.agg (Mk.okV p).toArray) (.agg (Mk.okV p).toArray) : Sem Value).run Tryz.prog w = .ok (.bool false) w := by
  unfold Mk.okV
  go_simp
theorem run_neq_Ho (x y : Operand) (p : Int × Int) (w : World) : (do eqGuard .neq 195 x y (.agg (hoV p).toArray) (.agg (hoV p).toArray); binOp .neq 195 (.agg (hoV p).toArray) (.agg (hoV p).toArray) : Sem Value).run Tryz.prog w = .ok (.bool false) w := by
  unfold hoV
  go_simp
set_option maxRecDepth 10000 in
set_option maxHeartbeats 1000000 in
theorem m_Like (m : Mk) (hi : m.ins.length ≤ 9223372036854775807) (hh : m.hs.length ≤ 9223372036854775807) : PC Tryz.prog 70 [.agg m.av, .agg m.av] (.v (.bool true)) := by
  obtain ⟨ins, hs, out⟩ := m
  dsimp only at hi hh
  simp only [Mk.av]
  refine PC.mk (ac_body tab_ok Tryz.func70 rfl (by kernel_rfl) rfl ?_); intro w0 M μ0; simp only [Tryz.ntmps70, List.length_cons, List.length_nil, Nat.reduceAdd, Nat.reduceSub, numb]
  repeat' (first | ((first | apply o_do | apply d_do | apply d_yes rfl rfl rfl); exact lsq) | refine a_seq ?_ | refine a_region ?_ | refine o_nil ?_ | refine a_block ?_ | refine a_ret ?_ | refine a_exit ?_ | refine a_skip ?_ | refine a_draw mixed ?_ | refine d_nil (by kernel_rfl) ?_ | refine o_yes rfl rfl rfl ?_ | refine o_no rfl rfl rfl (by decide) ?_ | refine o_no' rfl rfl rfl ?_ | refine a_condT rfl ?_ | refine a_condF rfl ?_ | refine d_no rfl rfl rfl (by decide) ?_ | refine d_no' rfl rfl rfl ?_ | (refine wq2 (fun hb => ?_) (fun hb => ?_) <;> (simp only [hb]; try simp only [hbs, ne_eq] at hb; try (exfalso; first | omega | exact hb trivial))) | fail)
  refine a_loop (X := {q : Nat // q ≤ ins.length}) (fun x => ⟨[(2, .ref 0 0), (3, .ref 1 0), (32, .v (.int .i64 ins.length)), (33, .v (.int .i64 x.1))], [(0, .box 36 [.sl 2 (ins.map inAvM), .sl 2 (hs.map hoAv), .v (.int .i64 out)]), (1, .box 36 [.sl 2 (ins.map inAvM), .sl 2 (hs.map hoAv), .v (.int .i64 out)])]⟩) (fun x => ins.length - x.1) ⟨0, Nat.zero_le _⟩ ?_ ?_
  · exact wkS
  rintro ⟨q, hq⟩
  dsimp only
  by_cases hlt : q < ins.length
  · have hel : (ins.map inAvM)[q]? = some (inAvM ins[q]) := by simp [hlt]
    generalize ins[q] = x at *
    repeat' (first | ((first | apply o_do | apply d_do | apply d_yes rfl rfl rfl); first | exact ls_indexAddr_sl tab_ok rfl rfl rfl rfl (by assumption) rfl | exact ls_eqA (Mk.okV x) (Mk.okV x) (run_neq_In _ _ x) rfl rfl rfl rfl rfl | exact lsq) | refine a_seq ?_ | refine a_region ?_ | refine o_nil ?_ | refine a_block ?_ | refine a_ret ?_ | refine a_exit ?_ | refine a_skip ?_ | refine a_draw mixed ?_ | refine d_nil (by kernel_rfl) ?_ | refine o_yes rfl rfl rfl ?_ | refine o_no rfl rfl rfl (by decide) ?_ | refine o_no' rfl rfl rfl ?_ | refine a_condT rfl ?_ | refine a_condF rfl ?_ | refine d_no rfl rfl rfl (by decide) ?_ | refine d_no' rfl rfl rfl ?_ | (refine wq2 (fun hb => ?_) (fun hb => ?_) <;> (simp only [hb]; try simp only [hbs, ne_eq] at hb; try (exfalso; first | omega | exact hb trivial))) | fail)
    refine ⟨⟨q + 1, by omega⟩, by dsimp only; omega, ?_⟩
    exact wkS
  · repeat' (first | ((first | apply o_do | apply d_do | apply d_yes rfl rfl rfl); exact lsq) | refine a_seq ?_ | refine a_region ?_ | refine o_nil ?_ | refine a_block ?_ | refine a_ret ?_ | refine a_exit ?_ | refine a_skip ?_ | refine a_draw mixed ?_ | refine d_nil (by kernel_rfl) ?_ | refine o_yes rfl rfl rfl ?_ | refine o_no rfl rfl rfl (by decide) ?_ | refine o_no' rfl rfl rfl ?_ | refine a_condT rfl ?_ | refine a_condF rfl ?_ | refine d_no rfl rfl rfl (by decide) ?_ | refine d_no' rfl rfl rfl ?_ | (refine wq2 (fun hb => ?_) (fun hb => ?_) <;> (simp only [hb]; try simp only [hbs, ne_eq] at hb; try (exfalso; first | omega | exact hb trivial))) | fail)
    refine a_loop (X := {q : Nat // q ≤ hs.length}) (fun x => ⟨[(2, .ref 0 0), (3, .ref 1 0), (50, .v (.int .i64 hs.length)), (51, .v (.int .i64 x.1))], [(0, .box 36 [.sl 2 (ins.map inAvM), .sl 2 (hs.map hoAv), .v (.int .i64 out)]), (1, .box 36 [.sl 2 (ins.map inAvM), .sl 2 (hs.map hoAv), .v (.int .i64 out)])]⟩) (fun x => hs.length - x.1) ⟨0, Nat.zero_le _⟩ ?_ ?_
    · exact wkS
    rintro ⟨p, hp⟩
    dsimp only
    by_cases hlt2 : p < hs.length
    · have hel : (hs.map hoAv)[p]? = some (hoAv hs[p]) := by simp [hlt2]
      generalize hs[p] = x at *
      repeat' (first | ((first | apply o_do | apply d_do | apply d_yes rfl rfl rfl); first | exact ls_indexAddr_sl tab_ok rfl rfl rfl rfl (by assumption) rfl | exact ls_eqA (hoV x) (hoV x) (run_neq_Ho _ _ x) rfl rfl rfl rfl rfl | exact lsq) | refine a_seq ?_ | refine a_region ?_ | refine o_nil ?_ | refine a_block ?_ | refine a_ret ?_ | refine a_exit ?_ | refine a_skip ?_ | refine a_draw mixed ?_ | refine d_nil (by kernel_rfl) ?_ | refine o_yes rfl rfl rfl ?_ | refine o_no rfl rfl rfl (by decide) ?_ | refine o_no' rfl rfl rfl ?_ | refine a_condT rfl ?_ | refine a_condF rfl ?_ | refine d_no rfl rfl rfl (by decide) ?_ | refine d_no' rfl rfl rfl ?_ | (refine wq2 (fun hb => ?_) (fun hb => ?_) <;> (simp only [hb]; try simp only [hbs, ne_eq] at hb; try (exfalso; first | omega | exact hb trivial))) | fail)
      refine ⟨⟨p + 1, by omega⟩, by dsimp only; omega, ?_⟩
      exact wkS
    · repeat' (first | ((first | apply o_do | apply d_do | apply d_yes rfl rfl rfl); exact lsq) | refine a_seq ?_ | refine a_region ?_ | refine o_nil ?_ | refine a_block ?_ | refine a_ret ?_ | refine a_exit ?_ | refine a_skip ?_ | refine a_draw mixed ?_ | refine d_nil (by kernel_rfl) ?_ | refine o_yes rfl rfl rfl ?_ | refine o_no rfl rfl rfl (by decide) ?_ | refine o_no' rfl rfl rfl ?_ | refine a_condT rfl ?_ | refine a_condF rfl ?_ | refine d_no rfl rfl rfl (by decide) ?_ | refine d_no' rfl rfl rfl ?_ | (refine wq2 (fun hb => ?_) (fun hb => ?_) <;> (simp only [hb]; try simp only [hbs, ne_eq] at hb; try (exfalso; first | omega | exact hb trivial))) | fail)
      refine rq rfl ?_
      exact fnq
end Go.Proofs.YtagfjnjpgphnjaaGreat
namespace Go.Proofs.YtagfjnjpgphnjaaGreat
open Go.RowKit
set_option linter.unusedSimpArgs false
set_option linter.unusedVariables false
def newGot (n : Int) : List Bool := if 1 ≤ n ∧ n ≤ 8 then List.replicate n.toNat false else []
def newHeld (n : Int) : List (List It) := if 1 ≤ n ∧ n ≤ 8 then List.replicate n.toNat [] else []
/-- what is known of an answer, said with less -/
theorem pc_weak {P : Program} {f : FuncId} {args : List AV} {r r' : AV} (h : PC P f args r) (hi : ∀ σ μ w A y, rep σ μ w A r y → rep σ μ w A r' y) : PC P f args r' := by
  refine ⟨⟨h.ac.ok, fun w M μ vs hs hr => (h.ac.out w M μ vs hs hr).mono ?_⟩⟩
  rintro e w' ⟨y, μ', h1, h2, h3, h4⟩
  exact ⟨y, μ', h1, h2, hi _ _ _ _ _ h3, h4⟩
theorem nilLL {σ : Store} {μ : Nat → Value} {w : World} {A : Nat → Prop} {m : Nat} : ∀ {q : Nat} {us : List Value}, repLL σ μ w A 1 (List.replicate q [.v (.slice none 0 0)]) us → repLL σ μ w A 1 (List.replicate q [.sl m []]) us
  | 0, us, h => by simpa [repLL] using h
  | q + 1, us, h => by
    simp only [List.replicate_succ, repLL] at h ⊢
    obtain ⟨u1, u2, rfl, h1, h2, h3⟩ := h
    refine ⟨u1, u2, rfl, h1, ?_, nilLL h3⟩
    simp only [repC, rep] at h2 ⊢
    obtain ⟨u, us', rfl, h4, ⟨rfl, _⟩, rfl⟩ := h2
    exact ⟨_, _, rfl, h4, ⟨none, 0, [], rfl, Nat.le_refl _, Nat.zero_le _, .inl rfl, by simp [repLL]⟩, rfl⟩
theorem newWeak {x : Value} {v : Value} {xs : List (List AV)} {q : Nat} (σ : Store) (μ : Nat → Value) (w : World) (A : Nat → Prop) (y : Value) (h : rep σ μ w A (.tup [.agg [.v x, .sl 1 xs, .sl 1 (List.replicate q [.v (.slice none 0 0)])], .v v]) y) :
    rep σ μ w A (.tup [.agg [.v x, .sl 1 xs, .sl 1 ((List.replicate q ([] : List It)).map heAv)], .v v]) y := by
  have e2 : (List.replicate q ([] : List It)).map heAv = List.replicate q [AV.sl 11 []] := by rw [List.map_replicate]; rfl
  rw [e2]
  simp only [rep, repL, repC] at h ⊢
  obtain ⟨us, rfl, u1, us1, rfl, ⟨cs, rfl, c0, cs0, rfl, h0, h0', c1, cs1, rfl, h1, h1', c2, cs2, rfl, h2, ⟨ad, c, vs, rfl, h3, h4, h5, h6⟩, rfl⟩, h7⟩ := h
  refine ⟨_, rfl, _, _, rfl, ⟨_, rfl, _, _, rfl, h0, h0', _, _, rfl, h1, h1', _, _, rfl, h2, ⟨ad, c, vs, ?_, ?_, h4, h5, nilLL h6⟩, rfl⟩, h7⟩
  · rw [List.length_replicate, List.length_replicate]
  · rw [List.length_replicate] at h3 ⊢; exact h3
theorem l_New (n : Int) : PC Tryz.prog 45 [.v (.int .i64 n)] (.tup [.agg (Al.av ⟨0, newGot n, newHeld n⟩), .v (.int .i64 (newE n))]) := by
  unfold newGot newHeld newE
  by_cases hn : 1 ≤ n ∧ n ≤ 8
  · rw [if_pos hn, if_pos hn, if_pos hn]
    obtain ⟨q, rfl⟩ : ∃ q : Nat, n = (q : Int) := ⟨n.toNat, by omega⟩
    obtain ⟨h1, h2⟩ := hn
    have hl : q ≤ 1000000 := by omega
    have e1 : (List.replicate (q : Int).toNat false).map boAv = List.replicate q ([Value.bool false].map AV.v) := by rw [List.map_replicate]; rfl
    simp only [Al.av, e1, Int.toNat_natCast]
    refine pc_weak ?_ newWeak
    refine PC.mk (ac_body tab_ok Tryz.func45 rfl (by kernel_rfl) rfl ?_); intro w0 M μ0; simp only [Tryz.ntmps45, List.length_cons, List.length_nil, Nat.reduceAdd, Nat.reduceSub, numb]
    repeat' (first | ((first | apply o_do | apply d_do | apply d_yes rfl rfl rfl); first | exact ls_make (k := 1) tab_ok tab_zero rfl rfl rfl rfl rfl rfl rfl hl rfl rfl rfl | exact ls_make (k := 2) tab_ok tab_zero rfl rfl rfl rfl rfl rfl rfl hl rfl rfl rfl | exact lsq) | refine a_seq ?_ | refine a_region ?_ | refine o_nil ?_ | refine a_block ?_ | refine a_ret ?_ | refine a_exit ?_ | refine a_skip ?_ | refine a_draw mixed ?_ | refine d_nil (by kernel_rfl) ?_ | refine o_yes rfl rfl rfl ?_ | refine o_no rfl rfl rfl (by decide) ?_ | refine o_no' rfl rfl rfl ?_ | refine a_condT rfl ?_ | refine a_condF rfl ?_ | refine d_no rfl rfl rfl (by decide) ?_ | refine d_no' rfl rfl rfl ?_ | (refine wq2 (fun hb => ?_) (fun hb => ?_) <;> (simp only [hb]; try simp only [hbs, ne_eq] at hb; try (exfalso; first | omega | exact hb trivial))) | fail)
    all_goals refine rq rfl ?_
    all_goals (first | refine FinA.tup ?_ | refine FinA.one ?_); repeat' (first | exact FinBs.nil | exact FinCs.nil | refine FinBs.cons ?_ ?_ | refine FinCs.cons ?_ ?_ | refine FinB.cell (FinC.v ?_) | refine FinB.cell (FinC.own rfl rfl rfl ?_) | exact FinB.cell FinC.nil | refine FinB.cell (FinC.sl ?_) | exact FinB.agg' rfl rfl | exact FinB.cell (FinC.same rfl) | refine FinB.agg ?_ | refine FinC.v ?_ | refine FinC.own rfl rfl rfl ?_ | exact FinC.nil | refine FinC.sl ?_ | exact FinC.same rfl); all_goals try rfl
    all_goals (rw [List.map_replicate]; rfl)
  · rw [if_neg hn, if_neg hn, if_neg hn]
    refine PC.mk (ac_body tab_ok Tryz.func45 rfl (by kernel_rfl) rfl ?_); intro w0 M μ0; simp only [Tryz.ntmps45, List.length_cons, List.length_nil, Nat.reduceAdd, Nat.reduceSub, numb]
    repeat' (first | ((first | apply o_do | apply d_do | apply d_yes rfl rfl rfl); exact lsq) | refine a_seq ?_ | refine a_region ?_ | refine o_nil ?_ | refine a_block ?_ | refine a_ret ?_ | refine a_exit ?_ | refine a_skip ?_ | refine a_draw mixed ?_ | refine d_nil (by kernel_rfl) ?_ | refine o_yes rfl rfl rfl ?_ | refine o_no rfl rfl rfl (by decide) ?_ | refine o_no' rfl rfl rfl ?_ | refine a_condT rfl ?_ | refine a_condF rfl ?_ | refine d_no rfl rfl rfl (by decide) ?_ | refine d_no' rfl rfl rfl ?_ | (refine wq2 (fun hb => ?_) (fun hb => ?_) <;> (simp only [hb]; try simp only [hbs, ne_eq] at hb; try (exfalso; first | omega | exact hb trivial))) | fail)
    all_goals refine rq rfl ?_
    all_goals exact fnq
set_option maxHeartbeats 1000000 in
theorem l_rNew (n : Int) : PC Tryz.prog 114 [.v (.int .i64 n)] (.tup [.agg (Al.av ⟨0, newGot n, newHeld n⟩), .v (.int .i64 (newE n))]) := by
  unfold newGot newHeld newE
  by_cases hn : 1 ≤ n ∧ n ≤ 8
  · rw [if_pos hn, if_pos hn, if_pos hn]
    obtain ⟨q, rfl⟩ : ∃ q : Nat, n = (q : Int) := ⟨n.toNat, by omega⟩
    obtain ⟨h1, h2⟩ := hn
    simp only [Int.toNat_natCast, Al.av]
    refine pc_weak ?_ newWeak
    refine PC.mk (ac_body tab_ok Tryz.func114 rfl (by kernel_rfl) rfl ?_); intro w0 M μ0; simp only [Tryz.ntmps114, List.length_cons, List.length_nil, Nat.reduceAdd, Nat.reduceSub, numb]
    repeat' (first | ((first | apply o_do | apply d_do | apply d_yes rfl rfl rfl); exact lsq) | refine a_seq ?_ | refine a_region ?_ | refine o_nil ?_ | refine a_block ?_ | refine a_ret ?_ | refine a_exit ?_ | refine a_skip ?_ | refine a_draw mixed ?_ | refine d_nil (by kernel_rfl) ?_ | refine o_yes rfl rfl rfl ?_ | refine o_no rfl rfl rfl (by decide) ?_ | refine o_no' rfl rfl rfl ?_ | refine a_condT rfl ?_ | refine a_condF rfl ?_ | refine d_no rfl rfl rfl (by decide) ?_ | refine d_no' rfl rfl rfl ?_ | (refine wq2 (fun hb => ?_) (fun hb => ?_) <;> (simp only [hb]; try simp only [hbs, ne_eq] at hb; try (exfalso; first | omega | exact hb trivial))) | fail)
    refine a_adoptB 1 1 2 4 1 rfl rfl rfl ?_
    refine a_adoptB 1 2 3 53 1 rfl rfl rfl ?_
    refine a_loop (X := {p : Nat // p ≤ q}) (fun x => ⟨[(0, .v (.int .i64 q)), (2, .ref 0 0), (3, .v (.int .i64 0)), (4, .ref 1 0), (5, .v (.int .i64 x.1))], [(0, .box 40 [.v (.int .i64 0), .v (.slice none 0 0), .v (.slice none 0 0)]), (1, .box 40 [.v (.int .i64 0), .own 2 ((List.replicate x.1 false).map boAv).length, .own 3 (List.replicate x.1 [AV.v (.slice none 0 0)]).length]), (2, .row 4 1 ((List.replicate x.1 false).map boAv)), (3, .row 53 1 (List.replicate x.1 [AV.v (.slice none 0 0)]))]⟩) (fun x => q - x.1) ⟨0, Nat.zero_le _⟩ ?_ ?_
    · exact wkS
    rintro ⟨p, hp⟩
    dsimp only
    have hl : ((List.replicate p false).map boAv).length ≤ 8 := by simp; omega
    have hl2 : (List.replicate p [AV.v (.slice none 0 0)]).length ≤ 8 := by simp; omega
    by_cases hlt : p < q
    · repeat' (first | ((first | apply o_do | apply d_do | apply d_yes rfl rfl rfl); first | exact ls_append tab_ok rfl rfl rfl rfl (by first | exact SrcIs.sl | exact SrcIs.nil | exact SrcIs.own rfl rfl) rfl (by (try simp only [List.length_cons, List.length_nil]); omega) rfl rfl | exact lsq) | refine a_seq ?_ | refine a_region ?_ | refine o_nil ?_ | refine a_block ?_ | refine a_ret ?_ | refine a_exit ?_ | refine a_skip ?_ | refine a_draw mixed ?_ | refine d_nil (by kernel_rfl) ?_ | refine o_yes rfl rfl rfl ?_ | refine o_no rfl rfl rfl (by decide) ?_ | refine o_no' rfl rfl rfl ?_ | refine a_condT rfl ?_ | refine a_condF rfl ?_ | refine d_no rfl rfl rfl (by decide) ?_ | refine d_no' rfl rfl rfl ?_ | (refine wq2 (fun hb => ?_) (fun hb => ?_) <;> (simp only [hb]; try simp only [hbs, ne_eq] at hb; try (exfalso; first | omega | exact hb trivial))) | fail)
      refine ⟨⟨p + 1, by omega⟩, by dsimp only; omega, ?_⟩
      have e1 : (List.replicate (p + 1) false).map boAv = (List.replicate p false).map boAv ++ [boAv false] := by rw [List.replicate_succ', List.map_append]; rfl
      have e2 : List.replicate (p + 1) [AV.v (.slice none 0 0)] = List.replicate p [AV.v (.slice none 0 0)] ++ [[AV.v (.slice none 0 0)]] := List.replicate_succ'
      refine ⟨by repeat' (first | exact trivial | exact FinA.one (FinB.cell (FinC.same rfl)) | exact FinA.one (FinB.cell FinC.nil) | exact FinA.bound rfl | exact FinA.one (FinB.cell (FinC.own rfl rfl rfl rfl)) | exact FinA.one (FinB.cell (FinC.v (by first | rfl | ((first | (simp only [e1]; rfl) | (simp only [e2]; rfl) | simp))))) | exact FinA.one (FinB.cell (FinC.ow rfl (by first | rfl | ((first | (simp only [e1]; rfl) | (simp only [e2]; rfl) | simp))))) | exact FinA.one (FinB.agg' rfl rfl) | refine ⟨⟨_, rfl, ?_⟩, ?_⟩), by repeat' (first | exact trivial | refine ⟨⟨_, rfl, by first | rfl | ((first | (simp only [e1]; rfl) | (simp only [e2]; rfl) | simp); done) | (simp [renO, *]; done)⟩, by first | rfl | assumption, ?_⟩), rfl⟩
    · obtain rfl : p = q := by omega
      repeat' (first | ((first | apply o_do | apply d_do | apply d_yes rfl rfl rfl); exact lsq) | refine a_seq ?_ | refine a_region ?_ | refine o_nil ?_ | refine a_block ?_ | refine a_ret ?_ | refine a_exit ?_ | refine a_skip ?_ | refine a_draw mixed ?_ | refine d_nil (by kernel_rfl) ?_ | refine o_yes rfl rfl rfl ?_ | refine o_no rfl rfl rfl (by decide) ?_ | refine o_no' rfl rfl rfl ?_ | refine a_condT rfl ?_ | refine a_condF rfl ?_ | refine d_no rfl rfl rfl (by decide) ?_ | refine d_no' rfl rfl rfl ?_ | (refine wq2 (fun hb => ?_) (fun hb => ?_) <;> (simp only [hb]; try simp only [hbs, ne_eq] at hb; try (exfalso; first | omega | exact hb trivial))) | fail)
      refine rq rfl ?_
      exact fnq
  · rw [if_neg hn, if_neg hn, if_neg hn]
    refine PC.mk (ac_body tab_ok Tryz.func114 rfl (by kernel_rfl) rfl ?_); intro w0 M μ0; simp only [Tryz.ntmps114, List.length_cons, List.length_nil, Nat.reduceAdd, Nat.reduceSub, numb]
    repeat' (first | ((first | apply o_do | apply d_do | apply d_yes rfl rfl rfl); exact lsq) | refine a_seq ?_ | refine a_region ?_ | refine o_nil ?_ | refine a_block ?_ | refine a_ret ?_ | refine a_exit ?_ | refine a_skip ?_ | refine a_draw mixed ?_ | refine d_nil (by kernel_rfl) ?_ | refine o_yes rfl rfl rfl ?_ | refine o_no rfl rfl rfl (by decide) ?_ | refine o_no' rfl rfl rfl ?_ | refine a_condT rfl ?_ | refine a_condF rfl ?_ | refine d_no rfl rfl rfl (by decide) ?_ | refine d_no' rfl rfl rfl ?_ | (refine wq2 (fun hb => ?_) (fun hb => ?_) <;> (simp only [hb]; try simp only [hbs, ne_eq] at hb; try (exfalso; first | omega | exact hb trivial))) | fail)
    all_goals refine rq rfl ?_
    all_goals exact fnq
theorem run_neq_ItS (x y : Operand) (p : It) (w : World) : (do eqGuard .neq 63 x y (.agg p.vals.toArray) (.agg p.vals.toArray); binOp .neq 63 (.agg p.vals.toArray) (.agg p.vals.toArray) : Sem Value).run Tryz.prog w = .ok (.bool false) w := by
  unfold It.vals
  go_simp
set_option maxRecDepth 10000 in
set_option maxHeartbeats 1000000 in
theorem l_LikeI (xs : List It) (hx : xs.length ≤ 9223372036854775807) : PC Tryz.prog 22 [.sl 11 (xs.map It.av), .sl 11 (xs.map It.av)] (.v (.bool true)) := by
  refine PC.mk (ac_body tab_ok Tryz.func22 rfl (by kernel_rfl) rfl ?_); intro w0 M μ0; simp only [Tryz.ntmps22, List.length_cons, List.length_nil, Nat.reduceAdd, Nat.reduceSub, numb]
  repeat' (first | ((first | apply o_do | apply d_do | apply d_yes rfl rfl rfl); exact lsq) | refine a_seq ?_ | refine a_region ?_ | refine o_nil ?_ | refine a_block ?_ | refine a_ret ?_ | refine a_exit ?_ | refine a_skip ?_ | refine a_draw mixed ?_ | refine d_nil (by kernel_rfl) ?_ | refine o_yes rfl rfl rfl ?_ | refine o_no rfl rfl rfl (by decide) ?_ | refine o_no' rfl rfl rfl ?_ | refine a_condT rfl ?_ | refine a_condF rfl ?_ | refine d_no rfl rfl rfl (by decide) ?_ | refine d_no' rfl rfl rfl ?_ | (refine wq2 (fun hb => ?_) (fun hb => ?_) <;> (simp only [hb]; try simp only [hbs, ne_eq] at hb; try (exfalso; first | omega | exact hb trivial))) | fail)
  refine a_loop (X := {q : Nat // q ≤ xs.length}) (fun x => ⟨[(0, .sl 11 (xs.map It.av)), (1, .sl 11 (xs.map It.av)), (12, .v (.int .i64 xs.length)), (13, .v (.int .i64 x.1))], []⟩) (fun x => xs.length - x.1) ⟨0, Nat.zero_le _⟩ ?_ ?_
  · exact wkS
  rintro ⟨q, hq⟩
  dsimp only
  by_cases hlt : q < xs.length
  · have hel : (xs.map It.av)[q]? = some (It.av xs[q]) := by simp [hlt]
    generalize xs[q] = x at *
    repeat' (first | ((first | apply o_do | apply d_do | apply d_yes rfl rfl rfl); first | exact ls_indexAddr_sl tab_ok rfl rfl rfl rfl (by assumption) rfl | exact ls_eqA (It.vals x) (It.vals x) (run_neq_ItS _ _ x) rfl rfl rfl rfl rfl | exact lsq) | refine a_seq ?_ | refine a_region ?_ | refine o_nil ?_ | refine a_block ?_ | refine a_ret ?_ | refine a_exit ?_ | refine a_skip ?_ | refine a_draw mixed ?_ | refine d_nil (by kernel_rfl) ?_ | refine o_yes rfl rfl rfl ?_ | refine o_no rfl rfl rfl (by decide) ?_ | refine o_no' rfl rfl rfl ?_ | refine a_condT rfl ?_ | refine a_condF rfl ?_ | refine d_no rfl rfl rfl (by decide) ?_ | refine d_no' rfl rfl rfl ?_ | (refine wq2 (fun hb => ?_) (fun hb => ?_) <;> (simp only [hb]; try simp only [hbs, ne_eq] at hb; try (exfalso; first | omega | exact hb trivial))) | fail)
    refine ⟨⟨q + 1, by omega⟩, by dsimp only; omega, ?_⟩
    exact wkS
  · repeat' (first | ((first | apply o_do | apply d_do | apply d_yes rfl rfl rfl); exact lsq) | refine a_seq ?_ | refine a_region ?_ | refine o_nil ?_ | refine a_block ?_ | refine a_ret ?_ | refine a_exit ?_ | refine a_skip ?_ | refine a_draw mixed ?_ | refine d_nil (by kernel_rfl) ?_ | refine o_yes rfl rfl rfl ?_ | refine o_no rfl rfl rfl (by decide) ?_ | refine o_no' rfl rfl rfl ?_ | refine a_condT rfl ?_ | refine a_condF rfl ?_ | refine d_no rfl rfl rfl (by decide) ?_ | refine d_no' rfl rfl rfl ?_ | (refine wq2 (fun hb => ?_) (fun hb => ?_) <;> (simp only [hb]; try simp only [hbs, ne_eq] at hb; try (exfalso; first | omega | exact hb trivial))) | fail)
    refine rq rfl ?_
    exact fnq
set_option maxRecDepth 10000 in
set_option maxHeartbeats 1000000 in
theorem l_Like (m : Al) (hi : m.got.length ≤ 9223372036854775807) (hh : m.held.length ≤ 9223372036854775807) (hl : ∀ l ∈ m.held, l.length ≤ 9223372036854775807) : PC Tryz.prog 71 [.agg m.av, .agg m.av] (.v (.bool true)) := by
  obtain ⟨n, got, held⟩ := m
  dsimp only at hi hh hl
  simp only [Al.av]
  refine PC.mk (ac_body tab_ok Tryz.func71 rfl (by kernel_rfl) rfl ?_); intro w0 M μ0; simp only [Tryz.ntmps71, List.length_cons, List.length_nil, Nat.reduceAdd, Nat.reduceSub, numb]
  repeat' (first | ((first | apply o_do | apply d_do | apply d_yes rfl rfl rfl); exact lsq) | refine a_seq ?_ | refine a_region ?_ | refine o_nil ?_ | refine a_block ?_ | refine a_ret ?_ | refine a_exit ?_ | refine a_skip ?_ | refine a_draw mixed ?_ | refine d_nil (by kernel_rfl) ?_ | refine o_yes rfl rfl rfl ?_ | refine o_no rfl rfl rfl (by decide) ?_ | refine o_no' rfl rfl rfl ?_ | refine a_condT rfl ?_ | refine a_condF rfl ?_ | refine d_no rfl rfl rfl (by decide) ?_ | refine d_no' rfl rfl rfl ?_ | (refine wq2 (fun hb => ?_) (fun hb => ?_) <;> (simp only [hb]; try simp only [hbs, ne_eq] at hb; try (exfalso; first | omega | exact hb trivial))) | fail)
  refine a_loop (X := {q : Nat // q ≤ got.length}) (fun x => ⟨[(2, .ref 0 0), (3, .ref 1 0), (32, .v (.int .i64 got.length)), (33, .v (.int .i64 x.1))], [(0, .box 40 [.v (.int .i64 n), .sl 1 (got.map boAv), .sl 1 (held.map heAv)]), (1, .box 40 [.v (.int .i64 n), .sl 1 (got.map boAv), .sl 1 (held.map heAv)])]⟩) (fun x => got.length - x.1) ⟨0, Nat.zero_le _⟩ ?_ ?_
  · exact wkS
  rintro ⟨q, hq⟩
  dsimp only
  by_cases hlt : q < got.length
  · have hel : (got.map boAv)[q]? = some (boAv got[q]) := by simp [hlt]
    generalize got[q] = x at *
    cases x
    all_goals
      repeat' (first | ((first | apply o_do | apply d_do | apply d_yes rfl rfl rfl); first | exact ls_indexAddr_sl tab_ok rfl rfl rfl rfl (by assumption) rfl | exact lsq) | refine a_seq ?_ | refine a_region ?_ | refine o_nil ?_ | refine a_block ?_ | refine a_ret ?_ | refine a_exit ?_ | refine a_skip ?_ | refine a_draw mixed ?_ | refine d_nil (by kernel_rfl) ?_ | refine o_yes rfl rfl rfl ?_ | refine o_no rfl rfl rfl (by decide) ?_ | refine o_no' rfl rfl rfl ?_ | refine a_condT rfl ?_ | refine a_condF rfl ?_ | refine d_no rfl rfl rfl (by decide) ?_ | refine d_no' rfl rfl rfl ?_ | (refine wq2 (fun hb => ?_) (fun hb => ?_) <;> (simp only [hb]; try simp only [hbs, ne_eq] at hb; try (exfalso; first | omega | exact hb trivial))) | fail)
      refine ⟨⟨q + 1, by omega⟩, by dsimp only; omega, ?_⟩
      exact wkS
  · repeat' (first | ((first | apply o_do | apply d_do | apply d_yes rfl rfl rfl); exact lsq) | refine a_seq ?_ | refine a_region ?_ | refine o_nil ?_ | refine a_block ?_ | refine a_ret ?_ | refine a_exit ?_ | refine a_skip ?_ | refine a_draw mixed ?_ | refine d_nil (by kernel_rfl) ?_ | refine o_yes rfl rfl rfl ?_ | refine o_no rfl rfl rfl (by decide) ?_ | refine o_no' rfl rfl rfl ?_ | refine a_condT rfl ?_ | refine a_condF rfl ?_ | refine d_no rfl rfl rfl (by decide) ?_ | refine d_no' rfl rfl rfl ?_ | (refine wq2 (fun hb => ?_) (fun hb => ?_) <;> (simp only [hb]; try simp only [hbs, ne_eq] at hb; try (exfalso; first | omega | exact hb trivial))) | fail)
    refine a_loop (X := {q : Nat // q ≤ held.length}) (fun x => ⟨[(2, .ref 0 0), (3, .ref 1 0), (50, .v (.int .i64 held.length)), (51, .v (.int .i64 x.1))], [(0, .box 40 [.v (.int .i64 n), .sl 1 (got.map boAv), .sl 1 (held.map heAv)]), (1, .box 40 [.v (.int .i64 n), .sl 1 (got.map boAv), .sl 1 (held.map heAv)])]⟩) (fun x => held.length - x.1) ⟨0, Nat.zero_le _⟩ ?_ ?_
    · exact wkS
    rintro ⟨p, hp⟩
    dsimp only
    by_cases hlt2 : p < held.length
    · have hel : (held.map heAv)[p]? = some (heAv held[p]) := by simp [hlt2]
      have hlk := l_LikeI held[p] (hl _ (List.getElem_mem hlt2))
      generalize held[p] = x at *
      repeat' (first | ((first | apply o_do | apply d_do | apply d_yes rfl rfl rfl); first | exact ls_indexAddr_sl tab_ok rfl rfl rfl rfl (by assumption) rfl | exact lsc (hlk) | exact lsq) | refine a_seq ?_ | refine a_region ?_ | refine o_nil ?_ | refine a_block ?_ | refine a_ret ?_ | refine a_exit ?_ | refine a_skip ?_ | refine a_draw mixed ?_ | refine d_nil (by kernel_rfl) ?_ | refine o_yes rfl rfl rfl ?_ | refine o_no rfl rfl rfl (by decide) ?_ | refine o_no' rfl rfl rfl ?_ | refine a_condT rfl ?_ | refine a_condF rfl ?_ | refine d_no rfl rfl rfl (by decide) ?_ | refine d_no' rfl rfl rfl ?_ | (refine wq2 (fun hb => ?_) (fun hb => ?_) <;> (simp only [hb]; try simp only [hbs, ne_eq] at hb; try (exfalso; first | omega | exact hb trivial))) | fail)
      refine ⟨⟨p + 1, by omega⟩, by dsimp only; omega, ?_⟩
      exact wkS
    · repeat' (first | ((first | apply o_do | apply d_do | apply d_yes rfl rfl rfl); exact lsq) | refine a_seq ?_ | refine a_region ?_ | refine o_nil ?_ | refine a_block ?_ | refine a_ret ?_ | refine a_exit ?_ | refine a_skip ?_ | refine a_draw mixed ?_ | refine d_nil (by kernel_rfl) ?_ | refine o_yes rfl rfl rfl ?_ | refine o_no rfl rfl rfl (by decide) ?_ | refine o_no' rfl rfl rfl ?_ | refine a_condT rfl ?_ | refine a_condF rfl ?_ | refine d_no rfl rfl rfl (by decide) ?_ | refine d_no' rfl rfl rfl ?_ | (refine wq2 (fun hb => ?_) (fun hb => ?_) <;> (simp only [hb]; try simp only [hbs, ne_eq] at hb; try (exfalso; first | omega | exact hb trivial))) | fail)
      refine rq rfl ?_
      exact fnq
end Go.Proofs.YtagfjnjpgphnjaaGreat
