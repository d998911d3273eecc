/-
  Scripts read by the reference: ref24.Parse is the plain function plan.
  Script: a plan that may not be is not written; the reference's text.
-/
import Derived.Lib.ConvBytes
import Derived.Test.YtbhblhcgfenobaaGreatDoorK4
import Derived.Test.YtbhblhcgfenobaaGreatDoorK13
import Derived.Test.YtbhblhcgfenobaaGreatDoorK15
import Derived.Test.YtbhblhcgfenobaaGreatDoorK22
namespace Go.Proofs.YtbhblhcgfenobaaGreatDoor
open Go.RowKit
set_option linter.unusedSimpArgs false
set_option linter.unusedVariables false
theorem less1 (c d : UInt8) : Op.bytesLess [c] [d] = decide (c.toNat < d.toNat) := by
  simp only [Op.bytesLess, Bool.and_false, Bool.or_false]
  congr 1
theorem mk1 (c : UInt8) : (mkB [c]).toList = [c] := by rw [ByteArray.toList_eq, mkB_list]
theorem lst1 (c : UInt8) : (⟨#[c]⟩ : ByteArray).toList = [c] := by rw [ByteArray.toList_eq]
/-- a number from one to eight is one digit -/
theorem one8 {b : ByteArray} : (numB b = true ∧ 1 ≤ numV b ∧ numV b ≤ 8) ↔ ∃ c : UInt8, b = mkB [c] ∧ 49 ≤ c.toNat ∧ c.toNat ≤ 56 := by
  constructor
  · rintro ⟨h1, h2, h3⟩
    obtain ⟨n, hn, rfl, e⟩ := num_in h1
    rw [e] at h2 h3
    obtain ⟨u, rfl⟩ : ∃ u : Nat, n = (u : Int) := ⟨n.toNat, by omega⟩
    have hd : Lib.decDigits u = [UInt8.ofNat (48 + u)] := by rw [Lib.decDigits, dif_pos (by omega)]
    refine ⟨UInt8.ofNat (48 + u), ?_, ?_⟩
    · apply bytes_ext2
      rw [itoB_nat, hd, mkB_list]
    · rw [dig_one u (by omega)]; omega
  · rintro ⟨c, rfl, h1, h2⟩
    have e : mkB [c] = itoB ((c.toNat - 48 : Nat) : Int) := by
      apply bytes_ext2
      rw [itoB_nat, mkB_list, Lib.decDigits, dif_pos (by omega)]
      congr 1
      have e1 : 48 + (c.toNat - 48) = c.toNat := by omega
      rw [e1, UInt8.ofNat_toNat]
    obtain ⟨k1, k2⟩ := num_back (n := ((c.toNat - 48 : Nat) : Int)) (by omega) (by omega)
    rw [← e] at k1 k2
    rw [k1]
    exact ⟨k2, by omega, by omega⟩
theorem one8v {c : UInt8} (h1 : 49 ≤ c.toNat) (h2 : c.toNat ≤ 56) : numV (mkB [c]) = (c.toNat : Int) - 48 := by
  have e : mkB [c] = itoB ((c.toNat - 48 : Nat) : Int) := by
    apply bytes_ext2
    rw [itoB_nat, mkB_list, Lib.decDigits, dif_pos (by omega)]
    congr 1
    have e1 : 48 + (c.toNat - 48) = c.toNat := by omega
    rw [e1, UInt8.ofNat_toNat]
  obtain ⟨k1, _⟩ := num_back (n := ((c.toNat - 48 : Nat) : Int)) (by omega) (by omega)
  rw [← e] at k1
  rw [k1]; omega
theorem wkR_no {ws : List ByteArray} (h : wkO ws = none) : ws.length ≠ 2 ∨ ∃ a b, ws = [a, b] ∧ ((a.toList == wksB.toList) = false ∨ ((a.toList == wksB.toList) = true ∧ (b.size ≠ 1 ∨ ∃ c : UInt8, b = mkB [c] ∧ (c.toNat < 49 ∨ 56 < c.toNat)))) := by
  match ws, h with
  | [], _ => exact .inl (by simp)
  | [a], _ => exact .inl (by simp)
  | [a, b], h =>
    right
    refine ⟨a, b, rfl, ?_⟩
    unfold wkO at h
    dsimp only at h
    cases h1 : (a.toList == wksB.toList)
    · exact .inl rfl
    · refine .inr ⟨rfl, ?_⟩
      by_cases h2 : b.size = 1
      · right
        match hb : b.data.toList with
        | [] => rw [← size_list, hb] at h2; cases h2
        | [c] =>
          have eb : b = mkB [c] := by rw [← hb]; rfl
          refine ⟨c, eb, ?_⟩
          split at h
          · cases h
          · rename_i h3
            rcases Nat.lt_or_ge c.toNat 49 with h4 | h4
            · exact .inl h4
            · rcases Nat.lt_or_ge 56 c.toNat with h5 | h5
              · exact .inr h5
              · exact absurd ⟨h1, one8.2 ⟨c, eb, h4, h5⟩⟩ h3
        | _ :: _ :: _ => rw [← size_list, hb] at h2; simp at h2
      · exact .inl h2
  | _ :: _ :: _ :: _, _ => exact .inl (by simp)
set_option maxHeartbeats 32000000 in
set_option maxRecDepth 20000 in
theorem p_rsParse (s : ByteArray) (hs9 : s.size ≤ 900000000) : PC Tryz.prog 7 [.v (.string s)] (.tup [.agg (plan s).1.av, .v (.int .i64 (plan s).2.1), .v (.int .i64 (plan s).2.2)]) := by
  have hs : Sm s := by unfold Sm; omega
  obtain ⟨R, hR⟩ : ∃ R, R = plan s := ⟨_, rfl⟩
  rw [← hR]
  have hLi := p_rLines s hs9
  obtain ⟨L, t, hLt⟩ : ∃ L t, lnS s.data.toList = (L, t) := ⟨_, _, rfl⟩
  have hj := lnS_join _ s.data.toList (Nat.le_refl _)
  unfold plan hdS at hR
  rw [hLt] at hR hj hLi
  dsimp only at hR hj hLi
  have hT : LT s L t := ⟨hj.1, hj.2.1, hj.2.2⟩
  clear hj hLt
  have hlen := hT.len
  have hul : (unl L).length ≤ 900000000 := by have := hT.size; omega
  have hH := p_rHead L hul (by omega)
  have hm : (L.map stAv).length = L.length := by simp
  have hte : ((mkB t).toList == em.toList) = t.isEmpty := by
    rw [ByteArray.toList_eq, ByteArray.toList_eq, mkB_list]
    cases t <;> rfl
  unfold em at hte
  generalize mkB t = tb at hLi hte
  generalize t.isEmpty = te at hR hte
  obtain ⟨J, e, ln, hJ⟩ : ∃ J e ln, pars 6 1 zJ (mkB (unl (L.take 6))) = (J, e, ln) := ⟨_, _, _, rfl⟩
  rw [hJ] at hH hR
  dsimp only at hH hR
  clear hJ
  obtain ⟨g, sz, sd, kd, fu, li, de, id⟩ := J
  unfold J8.av at hH
  dsimp only at hH
  by_cases he : e = 0
  · subst he
    rw [if_neg (by decide)] at hR
    rcases Nat.lt_or_ge 6 L.length with hk | hk
    · rw [drop_cons hk] at hR
      unfold tailP at hR
      dsimp only at hR
      have hel6 : (L.map stAv)[6]? = some [.v (.string L[6])] := by simp [hk, stAv]
      have hlsz : L[6].size ≤ s.size := by
        have h1 := hT.spot 6
        rw [drop_cons hk, unl_cons, List.length_append, size_list] at h1
        omega
      have hW := p_rWords L[6] (by omega)
      obtain ⟨w, ws, eW⟩ := spl_ne L[6]
      rw [eW] at hR hW
      generalize L[6] = l6 at hel6 hW
      clear eW hlsz
      have hWl : ((w :: ws).map stAv).length = ws.length + 1 := by simp
      have hel0 : ((w :: ws).map stAv)[0]? = some [.v (.string w)] := by simp [stAv]
      have hel1 : ∀ x, ws = [x] → ((w :: ws).map stAv)[1]? = some [.v (.string x)] := fun x hx => by rw [hx]; simp [stAv]
      generalize (w :: ws).map stAv = W at hW hWl hel0 hel1
      cases hwk : wkO (w :: ws) with
      | none =>
        rw [hwk] at hR
        dsimp only at hR
        subst hR
        unfold zPl Pl.av
        simp only [List.map_nil]
        rcases wkR_no hwk with h2 | ⟨a, b, e2, h3⟩
        · rw [List.length_cons] at h2
          refine PC.mk (ac_body tab_ok Tryz.func7 rfl (by kernel_rfl) rfl ?_); intro w0 M μ0; simp only [Tryz.ntmps7, List.length_cons, List.length_nil, Nat.reduceAdd, Nat.reduceSub, numb]
          repeat' (first | ((first | apply o_do | apply d_do | apply d_yes rfl rfl rfl); first | exact lsc (hLi) | exact lsc (hH) | exact lsc (hW) | exact ls_indexAddr_sl (q := 6) tab_ok rfl rfl rfl rfl hel6 rfl | exact lsq) | refine a_seq ?_ | refine a_region ?_ | refine o_nil ?_ | refine a_block ?_ | refine a_ret ?_ | refine a_exit ?_ | refine a_skip ?_ | refine a_draw mixed ?_ | refine d_nil (by kernel_rfl) ?_ | refine o_yes rfl rfl rfl ?_ | refine o_no rfl rfl rfl (by decide) ?_ | refine o_no' rfl rfl rfl ?_ | refine a_condT rfl ?_ | refine a_condF rfl ?_ | refine d_no rfl rfl rfl (by decide) ?_ | refine d_no' rfl rfl rfl ?_ | (refine wq2 (fun hb => ?_) (fun hb => ?_) <;> (simp only [hb]; try simp only [hbs, ne_eq] at hb; try (exfalso; first | omega | exact hb trivial))) | fail)
          all_goals try (exfalso; omega)
          all_goals refine rq rfl ?_
          all_goals exact fnq
        · injection e2 with e2 e3
          subst e2 e3
          have hel := hel1 b rfl
          rw [List.length_cons, List.length_nil] at hWl
          unfold wksB at h3
          rcases h3 with h3 | ⟨h3, h4⟩
          · refine PC.mk (ac_body tab_ok Tryz.func7 rfl (by kernel_rfl) rfl ?_); intro w0 M μ0; simp only [Tryz.ntmps7, List.length_cons, List.length_nil, Nat.reduceAdd, Nat.reduceSub, numb]
            repeat' (first | ((first | apply o_do | apply d_do | apply d_yes rfl rfl rfl); first | exact lsc (hLi) | exact lsc (hH) | exact lsc (hW) | exact ls_indexAddr_sl (q := 6) tab_ok rfl rfl rfl rfl hel6 rfl | exact ls_indexAddr_sl (q := 0) tab_ok rfl rfl rfl rfl hel0 rfl | exact lsq) | refine a_seq ?_ | refine a_region ?_ | refine o_nil ?_ | refine a_block ?_ | refine a_ret ?_ | refine a_exit ?_ | refine a_skip ?_ | refine a_draw mixed ?_ | refine d_nil (by kernel_rfl) ?_ | refine o_yes rfl rfl rfl ?_ | refine o_no rfl rfl rfl (by decide) ?_ | refine o_no' rfl rfl rfl ?_ | refine a_condT rfl ?_ | refine a_condF rfl ?_ | refine d_no rfl rfl rfl (by decide) ?_ | refine d_no' rfl rfl rfl ?_ | (refine wq2 (fun hb => ?_) (fun hb => ?_) <;> (simp only [hb]; try simp only [hbs, ne_eq] at hb; try (exfalso; first | omega | exact hb trivial))) | fail)
            all_goals try (exfalso; omega)
            all_goals try (exfalso; simp_all; done)
            all_goals refine rq rfl ?_
            all_goals exact fnq
          · rcases h4 with h4 | ⟨c, h4, h5⟩
            · refine PC.mk (ac_body tab_ok Tryz.func7 rfl (by kernel_rfl) rfl ?_); intro w0 M μ0; simp only [Tryz.ntmps7, List.length_cons, List.length_nil, Nat.reduceAdd, Nat.reduceSub, numb]
              repeat' (first | ((first | apply o_do | apply d_do | apply d_yes rfl rfl rfl); first | exact lsc (hLi) | exact lsc (hH) | exact lsc (hW) | exact ls_indexAddr_sl (q := 6) tab_ok rfl rfl rfl rfl hel6 rfl | exact ls_indexAddr_sl (q := 0) tab_ok rfl rfl rfl rfl hel0 rfl | exact ls_indexAddr_sl (q := 1) tab_ok rfl rfl rfl rfl hel rfl | exact lsq) | refine a_seq ?_ | refine a_region ?_ | refine o_nil ?_ | refine a_block ?_ | refine a_ret ?_ | refine a_exit ?_ | refine a_skip ?_ | refine a_draw mixed ?_ | refine d_nil (by kernel_rfl) ?_ | refine o_yes rfl rfl rfl ?_ | refine o_no rfl rfl rfl (by decide) ?_ | refine o_no' rfl rfl rfl ?_ | refine a_condT rfl ?_ | refine a_condF rfl ?_ | refine d_no rfl rfl rfl (by decide) ?_ | refine d_no' rfl rfl rfl ?_ | (refine wq2 (fun hb => ?_) (fun hb => ?_) <;> (simp only [hb]; try simp only [hbs, ne_eq] at hb; try (exfalso; first | omega | exact hb trivial))) | fail)
              all_goals try (exfalso; omega)
              all_goals try (exfalso; simp_all; done)
              all_goals refine rq rfl ?_
              all_goals exact fnq
            · have l1 : Op.bytesLess b.toList (⟨#[49]⟩ : ByteArray).toList = decide (c.toNat < 49) := by rw [h4, mk1, lst1, less1]; rfl
              have l2 : Op.bytesLess (⟨#[56]⟩ : ByteArray).toList b.toList = decide (56 < c.toNat) := by rw [h4, mk1, lst1, less1]; rfl
              have l2' : (Op.bytesLess b.toList (⟨#[56]⟩ : ByteArray).toList || b.toList == (⟨#[56]⟩ : ByteArray).toList) = !decide (56 < c.toNat) := by
                rw [h4, mk1, lst1, less1]
                have e56 : (56 : UInt8).toNat = 56 := rfl
                rw [e56]
                by_cases q1 : c.toNat < 56
                · rw [decide_eq_true q1, decide_eq_false (by omega)]; rfl
                · rw [decide_eq_false q1, Bool.false_or]
                  by_cases q2 : c = 56
                  · subst q2; rfl
                  · have q3 : ¬ c.toNat = 56 := fun h => q2 (by
                      have e3 : UInt8.ofNat c.toNat = UInt8.ofNat 56 := by rw [h]
                      rw [UInt8.ofNat_toNat] at e3; exact e3)
                    rw [decide_eq_true (p := 56 < c.toNat) (by omega)]
                    simp [q2]
              have hbz : b.size = 1 := by rw [h4]; rfl
              rcases h5 with h5 | h5
              · rw [decide_eq_true h5] at l1
                refine PC.mk (ac_body tab_ok Tryz.func7 rfl (by kernel_rfl) rfl ?_); intro w0 M μ0; simp only [Tryz.ntmps7, List.length_cons, List.length_nil, Nat.reduceAdd, Nat.reduceSub, numb]
                repeat' (first | ((first | apply o_do | apply d_do | apply d_yes rfl rfl rfl); first | exact lsc (hLi) | exact lsc (hH) | exact lsc (hW) | exact ls_indexAddr_sl (q := 6) tab_ok rfl rfl rfl rfl hel6 rfl | exact ls_indexAddr_sl (q := 0) tab_ok rfl rfl rfl rfl hel0 rfl | exact ls_indexAddr_sl (q := 1) tab_ok rfl rfl rfl rfl hel rfl | exact lsq) | refine a_seq ?_ | refine a_region ?_ | refine o_nil ?_ | refine a_block ?_ | refine a_ret ?_ | refine a_exit ?_ | refine a_skip ?_ | refine a_draw mixed ?_ | refine d_nil (by kernel_rfl) ?_ | refine o_yes rfl rfl rfl ?_ | refine o_no rfl rfl rfl (by decide) ?_ | refine o_no' rfl rfl rfl ?_ | refine a_condT rfl ?_ | refine a_condF rfl ?_ | refine d_no rfl rfl rfl (by decide) ?_ | refine d_no' rfl rfl rfl ?_ | (refine wq2 (fun hb => ?_) (fun hb => ?_) <;> (simp only [hb]; try simp only [hbs, ne_eq] at hb; try (exfalso; first | omega | exact hb trivial))) | fail)
                all_goals try (exfalso; omega)
                all_goals try (exfalso; simp_all; done)
                all_goals refine rq rfl ?_
                all_goals exact fnq
              · rw [decide_eq_true h5] at l2 l2'
                rw [decide_eq_false (by omega)] at l1
                refine PC.mk (ac_body tab_ok Tryz.func7 rfl (by kernel_rfl) rfl ?_); intro w0 M μ0; simp only [Tryz.ntmps7, List.length_cons, List.length_nil, Nat.reduceAdd, Nat.reduceSub, numb]
                repeat' (first | ((first | apply o_do | apply d_do | apply d_yes rfl rfl rfl); first | exact lsc (hLi) | exact lsc (hH) | exact lsc (hW) | exact ls_indexAddr_sl (q := 6) tab_ok rfl rfl rfl rfl hel6 rfl | exact ls_indexAddr_sl (q := 0) tab_ok rfl rfl rfl rfl hel0 rfl | exact ls_indexAddr_sl (q := 1) tab_ok rfl rfl rfl rfl hel rfl | exact lsq) | refine a_seq ?_ | refine a_region ?_ | refine o_nil ?_ | refine a_block ?_ | refine a_ret ?_ | refine a_exit ?_ | refine a_skip ?_ | refine a_draw mixed ?_ | refine d_nil (by kernel_rfl) ?_ | refine o_yes rfl rfl rfl ?_ | refine o_no rfl rfl rfl (by decide) ?_ | refine o_no' rfl rfl rfl ?_ | refine a_condT rfl ?_ | refine a_condF rfl ?_ | refine d_no rfl rfl rfl (by decide) ?_ | refine d_no' rfl rfl rfl ?_ | (refine wq2 (fun hb => ?_) (fun hb => ?_) <;> (simp only [hb]; try simp only [hbs, ne_eq] at hb; try (exfalso; first | omega | exact hb trivial))) | fail)
                all_goals try (exfalso; omega)
                all_goals try (exfalso; simp_all; done)
                all_goals refine rq rfl ?_
                all_goals exact fnq
      | some wn =>
        rw [hwk] at hR
        dsimp only at hR
        obtain ⟨a, b, e2, h3, h4, rfl, h5, h6'⟩ := wkO_yes hwk
        injection e2 with e2 e3
        subst e2 e3
        have hel := hel1 b rfl
        rw [List.length_cons, List.length_nil] at hWl
        unfold wksB at h3
        simp only [Bool.and_eq_true] at h4
        obtain ⟨c, hbc, c1, c2⟩ := one8.1 ⟨h4.1, h5, h6'⟩
        have hvc : numV b = (c.toNat : Int) - 48 := by rw [hbc]; exact one8v c1 c2
        have l1 : Op.bytesLess b.toList (⟨#[49]⟩ : ByteArray).toList = false := by rw [hbc, mk1, lst1, less1]; exact decide_eq_false (by show ¬ c.toNat < 49; omega)
        have l2 : Op.bytesLess (⟨#[56]⟩ : ByteArray).toList b.toList = false := by rw [hbc, mk1, lst1, less1]; exact decide_eq_false (by show ¬ 56 < c.toNat; omega)
        have l2' : (Op.bytesLess b.toList (⟨#[56]⟩ : ByteArray).toList || b.toList == (⟨#[56]⟩ : ByteArray).toList) = true := by
          rw [hbc, mk1, lst1, less1]
          have e56 : (56 : UInt8).toNat = 56 := rfl
          rw [e56]
          by_cases q1 : c.toNat < 56
          · rw [decide_eq_true q1]; rfl
          · have q3 : c = 56 := by
              have e3 : UInt8.ofNat c.toNat = UInt8.ofNat 56 := by rw [show c.toNat = 56 by omega]
              rw [UInt8.ofNat_toNat] at e3; exact e3
            subst q3; rfl
        have hbz : b.size = 1 := by rw [hbc]; rfl
        have hb0 : 0 < b.size := by omega
        obtain ⟨hb0', hbe⟩ := at_mid (s := b) (A := []) (r := []) (c := c) (q := 0) (by rw [hbc]; rfl) rfl
        have hbi : (b[0].toNat : Int) = (c.toNat : Int) := by rw [hbe]
        have hw8 : IntKind.u8.wrap ((b[0].toNat : Int) - 48) = numV b := by rw [hbi, hvc, IntKind.wrap_u8]; omega
        have hw64 : IntKind.i64.wrap (numV b) = numV b := by rw [IntKind.wrap_i64]; omega
        clear hwk hel1 h4 hbc hvc hbe hbi
        generalize numV b = v at *
        refine PC.mk (ac_body tab_ok Tryz.func7 rfl (by kernel_rfl) rfl ?_); intro w0 M μ0; simp only [Tryz.ntmps7, List.length_cons, List.length_nil, Nat.reduceAdd, Nat.reduceSub, numb]
        repeat' (first | (first | refine a_adoptB 2 8 3 48 1 rfl rfl rfl ?_ | refine a_adoptB 2 10 4 52 3 rfl rfl rfl ?_) | ((first | apply o_do | apply d_do | apply d_yes rfl rfl rfl); first | exact lsc (hLi) | exact lsc (hH) | exact lsc (hW) | exact ls_indexAddr_sl (q := 6) tab_ok rfl rfl rfl rfl hel6 rfl | exact ls_indexAddr_sl (q := 0) tab_ok rfl rfl rfl rfl hel0 rfl | exact ls_indexAddr_sl (q := 1) tab_ok rfl rfl rfl rfl hel rfl | exact ls_index_str (q := 0) tab_ok rfl rfl rfl rfl hb0 rfl | exact ls_subR hw8 rfl rfl rfl | exact ls_convR tab_ok hw64 rfl Tryz.underlying5 Tryz.underlying3 rfl | exact lsq) | refine a_seq ?_ | refine a_region ?_ | refine o_nil ?_ | refine a_block ?_ | refine a_ret ?_ | refine a_exit ?_ | refine a_skip ?_ | refine a_draw mixed ?_ | refine d_nil (by kernel_rfl) ?_ | refine o_yes rfl rfl rfl ?_ | refine o_no rfl rfl rfl (by decide) ?_ | refine o_no' rfl rfl rfl ?_ | refine a_condT rfl ?_ | refine a_condF rfl ?_ | refine d_no rfl rfl rfl (by decide) ?_ | refine d_no' rfl rfl rfl ?_ | (refine wq2 (fun hb => ?_) (fun hb => ?_) <;> (simp only [hb]; try simp only [hbs, ne_eq] at hb; try (exfalso; first | omega | exact hb trivial))) | fail)
        all_goals try (exfalso; omega)
        all_goals try (exfalso; simp_all; done)
        clear hLi hH hW hel0 hel hel6 h3 l1 l2 l2' hbz hw8 hw64 c1 c2 hb0'
        refine a_loop (X := {x : Nat × List (List Et) × List Ac // 7 ≤ x.1 ∧ x.1 ≤ L.length ∧ R = endP ⟨g, sz, sd, kd, fu, li, de, id⟩ v (goP te (L.drop x.1) x.1 x.2.1 x.2.2) ∧ x.2.1.length ≤ 4 ∧ x.2.2.length ≤ 400}) (fun x => ⟨[(2, .ref 0 0), (3, .v (.int .i64 0)), (4, .v (.int .i64 0)), (5, .sl 1 (L.map stAv)), (6, .v (.string tb)), (10, .ref 2 0), (12, .v (.int .i64 (x.1.1 : Nat)))], [(0, .box 27 [.v (.int .i64 0), .v (.int .i64 0), .v (.int .i64 0), .v (.int .i64 0), .v (.int .i64 0), .v (.int .i64 0), .v (.int .i64 0), .v (.int .i64 0), .v (.slice none 0 0), .v (.int .i64 0), .v (.slice none 0 0)]), (2, .box 27 [.v (.int .i64 g), .v (.int .i64 sz), .v (.int .i64 sd), .v (.int .i64 kd), .v (.int .i64 fu), .v (.int .i64 li), .v (.int .i64 de), .v (.int .i64 id), .own 3 (x.1.2.1.map inAv).length, .v (.int .i64 v), .own 4 (x.1.2.2.map Ac.av).length]), (3, .row 48 1 (x.1.2.1.map inAv)), (4, .row 52 3 (x.1.2.2.map Ac.av))]⟩) (fun x => L.length - x.1.1) ⟨(7, [], []), by omega, by dsimp only; omega, hR, by simp, by simp⟩ ?_ ?_
        · refine ⟨by repeat' (first | exact trivial | exact FinA.one (FinB.cell (FinC.same rfl)) | exact FinA.one (FinB.cell FinC.nil) | exact FinA.bound rfl | exact FinA.one (FinB.cell (FinC.own rfl rfl rfl rfl)) | exact FinA.one (FinB.cell (FinC.v (by first | rfl | (simp)))) | exact FinA.one (FinB.cell (FinC.ow rfl (by first | rfl | (simp)))) | exact FinA.one (FinB.agg' rfl rfl) | exact FinA.one (FinB.cell (FinC.el rfl rfl rfl rfl)) | refine FinA.clo ?_ ?_ | exact FinBs.nil | exact FinB.cell (FinC.same rfl) | exact FinB.cell (FinC.el rfl rfl rfl rfl) | refine FinBs.cons ?_ ?_ | refine ⟨⟨_, rfl, ?_⟩, ?_⟩), by repeat' (first | exact trivial | refine ⟨⟨_, rfl, by first | rfl | (simp; done) | (simp [renO, *]; done)⟩, by first | rfl | assumption, ?_⟩), rfl⟩
        clear hR
        rintro ⟨⟨k, ins, acs⟩, k7, kL, hR, hi4, ha4⟩
        dsimp only at k7 kL hR hi4 ha4 ⊢
        have hni : (ins.map inAv).length = ins.length := List.length_map _
        have hna : (acs.map Ac.av).length = acs.length := List.length_map _
        have ek : ((k + 1 : Nat) : Int) = (k : Int) + 1 := by omega
        rcases Nat.lt_or_ge k L.length with hk | hk
        · have helk : (L.map stAv)[k]? = some [.v (.string L[k])] := by simp [hk, stAv]
          have hlsz : L[k].size ≤ s.size := by
            have h1 := hT.spot k
            rw [drop_cons hk, unl_cons, List.length_append, size_list] at h1
            omega
          have hW := p_rWords L[k] (by omega)
          rw [drop_cons hk] at hR
          unfold goP at hR
          obtain ⟨w, ws, eW⟩ := spl_ne L[k]
          obtain ⟨m1, m2⟩ := spl_sm (hT.sm hs hk)
          have m3 : (spl L[k] sp1).length ≤ 900000000 := by
            obtain ⟨j1, _, _⟩ := spl_parts _ L[k] (Nat.le_refl _)
            have key : ∀ ws : List ByteArray, ws.length ≤ (joinW ws).length + 1 := by
              intro ws
              cases ws with
              | nil => simp
              | cons w ws =>
                have hs2 : ∀ ws : List ByteArray, ws.length ≤ (spW ws).length := by
                  intro ws
                  induction ws with
                  | nil => simp
                  | cons v vs ih => simp [spW] at ih ⊢; omega
                have := hs2 ws
                simp [joinW]; omega
            have := key (spl L[k] sp1)
            rw [j1, size_list] at this
            have h1 := hT.spot k
            rw [drop_cons hk, unl_cons, List.length_append, List.length_cons, size_list] at h1
            omega
          rw [eW] at hR hW m1 m2 m3
          clear eW
          generalize L[k] = lk at helk hW
          have hf : ∀ x : Pl × Int × Int, x = (zPl, 240, (k : Int) + 1) → x.2.2 = (k : Int) + 1 := fun x h => by rw [h]
          clear hf
          have hd : ((w :: ws).map stAv).drop 1 = ws.map stAv := by simp
          have hn1 : 1 ≤ ((w :: ws).map stAv).length := by simp
          have hel0 : ((w :: ws).map stAv)[0]? = some [.v (.string w)] := by simp [stAv]
          rw [List.length_cons] at m2 m3
          have m1 : ∀ x ∈ ws, Sm x := fun x hx => m1 x (by simp [hx])
          have hz : endP ⟨g, sz, sd, kd, fu, li, de, id⟩ v (k + 1, [], []) = (zPl, 240, (k : Int) + 1) := by
            unfold endP
            rw [if_neg (by dsimp only; omega), ← ek]
          by_cases hc : acs.length = 0 ∧ isSrc (w :: ws) = true ∧ ins.length < 4
          · obtain ⟨g1, g2, g3⟩ := hc
            obtain ⟨es, hes, hS⟩ := p_rsrc ws m1 (by omega)
            have hl : lnO (w :: ws) ins acs = (srcO ws).map fun es => (ins ++ [es], acs) := by unfold lnO; rw [if_pos ⟨g1, g2, g3⟩]; rfl
            rw [hl] at hR
            clear hl
            unfold isSrc srcB at g2
            dsimp only at g2
            rw [← hd] at hS
            generalize (w :: ws).map stAv = W at *
            cases hso : srcO ws with
            | none =>
              rw [hso] at hR hS
              simp only [Option.map_none] at hR
              rw [Option.isSome_none] at hS
              rw [hz] at hR
              clear hz
              subst hR
              unfold zPl Pl.av
              simp only [List.map_nil]
              repeat' (first | ((first | apply o_do | apply d_do | apply d_yes rfl rfl rfl); first | exact lsc (hW) | exact lsc (hS) | exact ls_indexAddr_sl (q := 0) tab_ok rfl rfl rfl rfl hel0 rfl | exact ls_indexAddr_sl (q := k) tab_ok rfl rfl rfl rfl helk rfl | exact ls_slice_from (n := 1) tab_ok rfl rfl rfl rfl hn1 rfl | exact lsq) | refine a_seq ?_ | refine a_region ?_ | refine o_nil ?_ | refine a_block ?_ | refine a_ret ?_ | refine a_exit ?_ | refine a_skip ?_ | refine a_draw mixed ?_ | refine d_nil (by kernel_rfl) ?_ | refine o_yes rfl rfl rfl ?_ | refine o_no rfl rfl rfl (by decide) ?_ | refine o_no' rfl rfl rfl ?_ | refine a_condT rfl ?_ | refine a_condF rfl ?_ | refine d_no rfl rfl rfl (by decide) ?_ | refine d_no' rfl rfl rfl ?_ | (refine wq2 (fun hb => ?_) (fun hb => ?_) <;> (simp only [hb]; try simp only [hbs, ne_eq] at hb; try (exfalso; first | omega | exact hb trivial))) | fail)
              all_goals try (exfalso; omega)
              all_goals try (exfalso; simp_all; done)
              all_goals refine rq rfl ?_
              all_goals exact fnq
            | some es' =>
              rw [hso] at hR hS
              rw [hes es' hso] at hS
              simp only [Option.map_some] at hR
              rw [Option.isSome_some] at hS
              repeat' (first | ((first | apply o_do | apply d_do | apply d_yes rfl rfl rfl); first | exact lsc (hW) | exact lsc (hS) | exact ls_indexAddr_sl (q := 0) tab_ok rfl rfl rfl rfl hel0 rfl | exact ls_indexAddr_sl (q := k) tab_ok rfl rfl rfl rfl helk rfl | exact ls_slice_from (n := 1) tab_ok rfl rfl rfl rfl hn1 rfl | focus (apply ls_append tab_ok rfl rfl ?hn rfl ?hsrc rfl ?hlen rfl rfl; (case hn => rfl); (case hsrc => first | exact SrcIs.sl | exact SrcIs.nil | exact SrcIs.own rfl rfl | fail); (case hlen => (try simp only [List.length_cons, List.length_nil]); omega); first | done | fail) | exact lsq) | refine a_seq ?_ | refine a_region ?_ | refine o_nil ?_ | refine a_block ?_ | refine a_ret ?_ | refine a_exit ?_ | refine a_skip ?_ | refine a_draw mixed ?_ | refine d_nil (by kernel_rfl) ?_ | refine o_yes rfl rfl rfl ?_ | refine o_no rfl rfl rfl (by decide) ?_ | refine o_no' rfl rfl rfl ?_ | refine a_condT rfl ?_ | refine a_condF rfl ?_ | refine d_no rfl rfl rfl (by decide) ?_ | refine d_no' rfl rfl rfl ?_ | (refine wq2 (fun hb => ?_) (fun hb => ?_) <;> (simp only [hb]; try simp only [hbs, ne_eq] at hb; try (exfalso; first | omega | exact hb trivial))) | fail)
              all_goals try (exfalso; omega)
              all_goals try (exfalso; simp_all; done)
              refine ⟨⟨(k + 1, ins ++ [es'], acs), by dsimp only; omega, by dsimp only; omega, hR, by rw [List.length_append]; simp; omega, ha4⟩, by dsimp only; omega, ?_⟩
              refine ⟨by repeat' (first | exact trivial | exact FinA.one (FinB.cell (FinC.same rfl)) | exact FinA.one (FinB.cell FinC.nil) | exact FinA.bound rfl | exact FinA.one (FinB.cell (FinC.own rfl rfl rfl rfl)) | exact FinA.one (FinB.cell (FinC.v (by first | rfl | (simp [inAv, acells])))) | exact FinA.one (FinB.cell (FinC.ow rfl (by first | rfl | (simp [inAv, acells])))) | exact FinA.one (FinB.agg' rfl rfl) | exact FinA.one (FinB.cell (FinC.el rfl rfl rfl rfl)) | refine FinA.clo ?_ ?_ | exact FinBs.nil | exact FinB.cell (FinC.same rfl) | exact FinB.cell (FinC.el rfl rfl rfl rfl) | refine FinBs.cons ?_ ?_ | refine ⟨⟨_, rfl, ?_⟩, ?_⟩), by repeat' (first | exact trivial | refine ⟨⟨_, rfl, by first | rfl | (simp [inAv, acells]; done) | (simp [renO, *]; done)⟩, by first | rfl | assumption, ?_⟩), rfl⟩
          · have hl : lnO (w :: ws) ins acs = match actO (w :: ws) with | none => none | some a => if ins.length = 0 ∨ 400 ≤ acs.length then none else some (ins, acs ++ [a]) := by unfold lnO; rw [if_neg hc]; cases actO (w :: ws) <;> rfl
            rw [hl] at hR
            clear hl
            unfold isSrc srcB at hc
            dsimp only at hc
            cases hix : wdIx w with
            | none =>
              have hS := p_ractN w ws hix
              rw [actO_none hix] at hR
              dsimp only at hR
              rw [hz] at hR
              clear hz
              subst hR
              unfold zPl Pl.av
              unfold Ac.av at hS
              dsimp only at hS
              simp only [List.map_nil]
              generalize (w :: ws).map stAv = W at *
              repeat' (first | ((first | apply o_do | apply d_do | apply d_yes rfl rfl rfl); first | exact lsc (hW) | exact lsc (hS) | exact ls_indexAddr_sl (q := 0) tab_ok rfl rfl rfl rfl hel0 rfl | exact ls_indexAddr_sl (q := k) tab_ok rfl rfl rfl rfl helk rfl | exact lsq) | refine a_seq ?_ | refine a_region ?_ | refine o_nil ?_ | refine a_block ?_ | refine a_ret ?_ | refine a_exit ?_ | refine a_skip ?_ | refine a_draw mixed ?_ | refine d_nil (by kernel_rfl) ?_ | refine o_yes rfl rfl rfl ?_ | refine o_no rfl rfl rfl (by decide) ?_ | refine o_no' rfl rfl rfl ?_ | refine a_condT rfl ?_ | refine a_condF rfl ?_ | refine d_no rfl rfl rfl (by decide) ?_ | refine d_no' rfl rfl rfl ?_ | (refine wq2 (fun hb => ?_) (fun hb => ?_) <;> (simp only [hb]; try simp only [hbs, ne_eq] at hb; try (exfalso; first | omega | exact hb trivial))) | fail)
              all_goals try (exfalso; apply hc; refine ⟨by omega, by assumption, by omega⟩)
              all_goals refine rq rfl ?_
              all_goals exact fnq
            | some K =>
              obtain ⟨a, hea, hS⟩ := p_ractY w ws hix m1 (by omega)
              rw [actO_some hix] at hR
              generalize (w :: ws).map stAv = W at *
              cases hok : okA K ws
              · rw [hok] at hR hS
                clear hea
                obtain ⟨a1, a2, a3⟩ := a
                unfold Ac.av at hS
                dsimp only at hS
                rw [if_neg (by simp)] at hR
                dsimp only at hR
                rw [hz] at hR
                clear hz
                subst hR
                unfold zPl Pl.av
                simp only [List.map_nil]
                repeat' (first | ((first | apply o_do | apply d_do | apply d_yes rfl rfl rfl); first | exact lsc (hW) | exact lsc (hS) | exact ls_indexAddr_sl (q := 0) tab_ok rfl rfl rfl rfl hel0 rfl | exact ls_indexAddr_sl (q := k) tab_ok rfl rfl rfl rfl helk rfl | exact lsq) | refine a_seq ?_ | refine a_region ?_ | refine o_nil ?_ | refine a_block ?_ | refine a_ret ?_ | refine a_exit ?_ | refine a_skip ?_ | refine a_draw mixed ?_ | refine d_nil (by kernel_rfl) ?_ | refine o_yes rfl rfl rfl ?_ | refine o_no rfl rfl rfl (by decide) ?_ | refine o_no' rfl rfl rfl ?_ | refine a_condT rfl ?_ | refine a_condF rfl ?_ | refine d_no rfl rfl rfl (by decide) ?_ | refine d_no' rfl rfl rfl ?_ | (refine wq2 (fun hb => ?_) (fun hb => ?_) <;> (simp only [hb]; try simp only [hbs, ne_eq] at hb; try (exfalso; first | omega | exact hb trivial))) | fail)
                all_goals try (exfalso; apply hc; refine ⟨by omega, by assumption, by omega⟩)
                all_goals refine rq rfl ?_
                all_goals exact fnq
              · rw [← hea hok, hok] at hR
                rw [hok] at hS
                clear hea
                obtain ⟨a1, a2, a3⟩ := a
                unfold Ac.av at hS
                dsimp only at hS
                rw [if_pos rfl] at hR
                dsimp only at hR
                by_cases hfull : ins.length = 0 ∨ 400 ≤ acs.length
                · rw [if_pos hfull] at hR
                  dsimp only at hR
                  rw [hz] at hR
                  clear hz
                  subst hR
                  unfold zPl Pl.av
                  simp only [List.map_nil]
                  repeat' (first | ((first | apply o_do | apply d_do | apply d_yes rfl rfl rfl); first | exact lsc (hW) | exact lsc (hS) | exact ls_indexAddr_sl (q := 0) tab_ok rfl rfl rfl rfl hel0 rfl | exact ls_indexAddr_sl (q := k) tab_ok rfl rfl rfl rfl helk rfl | exact lsq) | refine a_seq ?_ | refine a_region ?_ | refine o_nil ?_ | refine a_block ?_ | refine a_ret ?_ | refine a_exit ?_ | refine a_skip ?_ | refine a_draw mixed ?_ | refine d_nil (by kernel_rfl) ?_ | refine o_yes rfl rfl rfl ?_ | refine o_no rfl rfl rfl (by decide) ?_ | refine o_no' rfl rfl rfl ?_ | refine a_condT rfl ?_ | refine a_condF rfl ?_ | refine d_no rfl rfl rfl (by decide) ?_ | refine d_no' rfl rfl rfl ?_ | (refine wq2 (fun hb => ?_) (fun hb => ?_) <;> (simp only [hb]; try simp only [hbs, ne_eq] at hb; try (exfalso; first | omega | exact hb trivial))) | fail)
                  all_goals try (exfalso; apply hc; refine ⟨by omega, by assumption, by omega⟩)
                  all_goals try (exfalso; omega)
                  all_goals refine rq rfl ?_
                  all_goals exact fnq
                · rw [if_neg hfull] at hR
                  dsimp only at hR
                  repeat' (first | ((first | apply o_do | apply d_do | apply d_yes rfl rfl rfl); first | exact lsc (hW) | exact lsc (hS) | exact ls_indexAddr_sl (q := 0) tab_ok rfl rfl rfl rfl hel0 rfl | exact ls_indexAddr_sl (q := k) tab_ok rfl rfl rfl rfl helk rfl | focus (apply ls_append tab_ok rfl rfl ?hn rfl ?hsrc rfl ?hlen rfl rfl; (case hn => rfl); (case hsrc => first | exact SrcIs.sl | exact SrcIs.nil | exact SrcIs.own rfl rfl | fail); (case hlen => (try simp only [List.length_cons, List.length_nil]); omega); first | done | fail) | exact lsq) | refine a_seq ?_ | refine a_region ?_ | refine o_nil ?_ | refine a_block ?_ | refine a_ret ?_ | refine a_exit ?_ | refine a_skip ?_ | refine a_draw mixed ?_ | refine d_nil (by kernel_rfl) ?_ | refine o_yes rfl rfl rfl ?_ | refine o_no rfl rfl rfl (by decide) ?_ | refine o_no' rfl rfl rfl ?_ | refine a_condT rfl ?_ | refine a_condF rfl ?_ | refine d_no rfl rfl rfl (by decide) ?_ | refine d_no' rfl rfl rfl ?_ | (refine wq2 (fun hb => ?_) (fun hb => ?_) <;> (simp only [hb]; try simp only [hbs, ne_eq] at hb; try (exfalso; first | omega | exact hb trivial))) | fail)
                  all_goals try (exfalso; apply hc; refine ⟨by omega, by assumption, by omega⟩)
                  all_goals try (exfalso; omega)
                  all_goals refine ⟨⟨(k + 1, ins, acs ++ [⟨a1, a2, a3⟩]), by dsimp only; omega, by dsimp only; omega, hR, hi4, by rw [List.length_append]; simp; omega⟩, by dsimp only; omega, ?_⟩
                  all_goals refine ⟨by repeat' (first | exact trivial | exact FinA.one (FinB.cell (FinC.same rfl)) | exact FinA.one (FinB.cell FinC.nil) | exact FinA.bound rfl | exact FinA.one (FinB.cell (FinC.own rfl rfl rfl rfl)) | exact FinA.one (FinB.cell (FinC.v (by first | rfl | (simp [Ac.av, acells])))) | exact FinA.one (FinB.cell (FinC.ow rfl (by first | rfl | (simp [Ac.av, acells])))) | exact FinA.one (FinB.agg' rfl rfl) | exact FinA.one (FinB.cell (FinC.el rfl rfl rfl rfl)) | refine FinA.clo ?_ ?_ | exact FinBs.nil | exact FinB.cell (FinC.same rfl) | exact FinB.cell (FinC.el rfl rfl rfl rfl) | refine FinBs.cons ?_ ?_ | refine ⟨⟨_, rfl, ?_⟩, ?_⟩), by repeat' (first | exact trivial | refine ⟨⟨_, rfl, by first | rfl | (simp [Ac.av, acells]; done) | (simp [renO, *]; done)⟩, by first | rfl | assumption, ?_⟩), rfl⟩
        · obtain rfl : k = L.length := by omega
          rw [List.drop_length] at hR
          unfold goP at hR
          have hz : endP ⟨g, sz, sd, kd, fu, li, de, id⟩ v (L.length + 1, [], []) = (zPl, 240, (L.length : Int) + 1) := by
            unfold endP
            rw [if_neg (by dsimp only; omega), ← ek]
          cases te with
          | true =>
            by_cases hin : ins = []
            · rw [if_neg (by simp [hin])] at hR
              rw [hz] at hR
              subst hR
              unfold zPl Pl.av
              simp only [List.map_nil]
              have hin : ins.length = 0 := by rw [hin]; rfl
              repeat' (first | ((first | apply o_do | apply d_do | apply d_yes rfl rfl rfl); exact lsq) | refine a_seq ?_ | refine a_region ?_ | refine o_nil ?_ | refine a_block ?_ | refine a_ret ?_ | refine a_exit ?_ | refine a_skip ?_ | refine a_draw mixed ?_ | refine d_nil (by kernel_rfl) ?_ | refine o_yes rfl rfl rfl ?_ | refine o_no rfl rfl rfl (by decide) ?_ | refine o_no' rfl rfl rfl ?_ | refine a_condT rfl ?_ | refine a_condF rfl ?_ | refine d_no rfl rfl rfl (by decide) ?_ | refine d_no' rfl rfl rfl ?_ | (refine wq2 (fun hb => ?_) (fun hb => ?_) <;> (simp only [hb]; try simp only [hbs, ne_eq] at hb; try (exfalso; first | omega | exact hb trivial))) | fail)
              all_goals try (exfalso; omega)
              all_goals try (exfalso; simp_all; done)
              all_goals refine rq rfl ?_
              all_goals (first | refine FinA.tup ?_ | refine FinA.one ?_); repeat' (first | exact FinBs.nil | exact FinCs.nil | refine FinBs.cons ?_ ?_ | refine FinCs.cons ?_ ?_ | refine FinB.cell (FinC.v ?_) | refine FinB.cell (FinC.own rfl rfl rfl ?_) | exact FinB.cell FinC.nil | refine FinB.cell (FinC.sl ?_) | exact FinB.agg' rfl rfl | exact FinB.cell (FinC.same rfl) | refine FinB.agg ?_ | refine FinC.v ?_ | refine FinC.own rfl rfl rfl ?_ | exact FinC.nil | refine FinC.sl ?_ | exact FinC.same rfl); all_goals try rfl
              all_goals rw [hm]
            · rw [if_pos ⟨rfl, hin⟩] at hR
              unfold endP jPl at hR
              rw [if_pos rfl] at hR
              dsimp only at hR
              subst hR
              unfold Pl.av
              dsimp only
              have hin : ins.length ≠ 0 := fun h => hin (List.eq_nil_of_length_eq_zero h)
              repeat' (first | ((first | apply o_do | apply d_do | apply d_yes rfl rfl rfl); exact lsq) | refine a_seq ?_ | refine a_region ?_ | refine o_nil ?_ | refine a_block ?_ | refine a_ret ?_ | refine a_exit ?_ | refine a_skip ?_ | refine a_draw mixed ?_ | refine d_nil (by kernel_rfl) ?_ | refine o_yes rfl rfl rfl ?_ | refine o_no rfl rfl rfl (by decide) ?_ | refine o_no' rfl rfl rfl ?_ | refine a_condT rfl ?_ | refine a_condF rfl ?_ | refine d_no rfl rfl rfl (by decide) ?_ | refine d_no' rfl rfl rfl ?_ | (refine wq2 (fun hb => ?_) (fun hb => ?_) <;> (simp only [hb]; try simp only [hbs, ne_eq] at hb; try (exfalso; first | omega | exact hb trivial))) | fail)
              all_goals try (exfalso; omega)
              all_goals try (exfalso; simp_all; done)
              all_goals refine rq rfl ?_
              all_goals exact fnq
          | false =>
            rw [if_neg (by simp)] at hR
            rw [hz] at hR
            subst hR
            unfold zPl Pl.av
            simp only [List.map_nil]
            repeat' (first | ((first | apply o_do | apply d_do | apply d_yes rfl rfl rfl); exact lsq) | refine a_seq ?_ | refine a_region ?_ | refine o_nil ?_ | refine a_block ?_ | refine a_ret ?_ | refine a_exit ?_ | refine a_skip ?_ | refine a_draw mixed ?_ | refine d_nil (by kernel_rfl) ?_ | refine o_yes rfl rfl rfl ?_ | refine o_no rfl rfl rfl (by decide) ?_ | refine o_no' rfl rfl rfl ?_ | refine a_condT rfl ?_ | refine a_condF rfl ?_ | refine d_no rfl rfl rfl (by decide) ?_ | refine d_no' rfl rfl rfl ?_ | (refine wq2 (fun hb => ?_) (fun hb => ?_) <;> (simp only [hb]; try simp only [hbs, ne_eq] at hb; try (exfalso; first | omega | exact hb trivial))) | fail)
            all_goals try (exfalso; omega)
            all_goals try (exfalso; simp_all; done)
            all_goals refine rq rfl ?_
            all_goals (first | refine FinA.tup ?_ | refine FinA.one ?_); repeat' (first | exact FinBs.nil | exact FinCs.nil | refine FinBs.cons ?_ ?_ | refine FinCs.cons ?_ ?_ | refine FinB.cell (FinC.v ?_) | refine FinB.cell (FinC.own rfl rfl rfl ?_) | exact FinB.cell FinC.nil | refine FinB.cell (FinC.sl ?_) | exact FinB.agg' rfl rfl | exact FinB.cell (FinC.same rfl) | refine FinB.agg ?_ | refine FinC.v ?_ | refine FinC.own rfl rfl rfl ?_ | exact FinC.nil | refine FinC.sl ?_ | exact FinC.same rfl); all_goals try rfl
            all_goals rw [hm]
    · rw [List.drop_eq_nil_of_le hk] at hR
      unfold tailP at hR
      dsimp only at hR
      subst hR
      unfold zPl Pl.av
      simp only [List.map_nil]
      refine PC.mk (ac_body tab_ok Tryz.func7 rfl (by kernel_rfl) rfl ?_); intro w0 M μ0; simp only [Tryz.ntmps7, List.length_cons, List.length_nil, Nat.reduceAdd, Nat.reduceSub, numb]
      repeat' (first | ((first | apply o_do | apply d_do | apply d_yes rfl rfl rfl); first | exact lsc (hLi) | exact lsc (hH) | exact lsq) | refine a_seq ?_ | refine a_region ?_ | refine o_nil ?_ | refine a_block ?_ | refine a_ret ?_ | refine a_exit ?_ | refine a_skip ?_ | refine a_draw mixed ?_ | refine d_nil (by kernel_rfl) ?_ | refine o_yes rfl rfl rfl ?_ | refine o_no rfl rfl rfl (by decide) ?_ | refine o_no' rfl rfl rfl ?_ | refine a_condT rfl ?_ | refine a_condF rfl ?_ | refine d_no rfl rfl rfl (by decide) ?_ | refine d_no' rfl rfl rfl ?_ | (refine wq2 (fun hb => ?_) (fun hb => ?_) <;> (simp only [hb]; try simp only [hbs, ne_eq] at hb; try (exfalso; first | omega | exact hb trivial))) | fail)
      all_goals try (exfalso; omega)
      all_goals refine rq rfl ?_
      all_goals exact fnq
  · rw [if_pos he] at hR
    subst hR
    unfold zPl Pl.av
    simp only [List.map_nil]
    refine PC.mk (ac_body tab_ok Tryz.func7 rfl (by kernel_rfl) rfl ?_); intro w0 M μ0; simp only [Tryz.ntmps7, List.length_cons, List.length_nil, Nat.reduceAdd, Nat.reduceSub, numb]
    repeat' (first | ((first | apply o_do | apply d_do | apply d_yes rfl rfl rfl); first | exact lsc (hLi) | exact lsc (hH) | exact lsq) | refine a_seq ?_ | refine a_region ?_ | refine o_nil ?_ | refine a_block ?_ | refine a_ret ?_ | refine a_exit ?_ | refine a_skip ?_ | refine a_draw mixed ?_ | refine d_nil (by kernel_rfl) ?_ | refine o_yes rfl rfl rfl ?_ | refine o_no rfl rfl rfl (by decide) ?_ | refine o_no' rfl rfl rfl ?_ | refine a_condT rfl ?_ | refine a_condF rfl ?_ | refine d_no rfl rfl rfl (by decide) ?_ | refine d_no' rfl rfl rfl ?_ | (refine wq2 (fun hb => ?_) (fun hb => ?_) <;> (simp only [hb]; try simp only [hbs, ne_eq] at hb; try (exfalso; first | omega | exact hb trivial))) | fail)
    all_goals refine rq rfl ?_
    all_goals exact fnq
end Go.Proofs.YtbhblhcgfenobaaGreatDoor
namespace Go.Proofs.YtbhblhcgfenobaaGreatDoor
open Go.RowKit
set_option linter.unusedSimpArgs false
set_option linter.unusedVariables false
set_option maxHeartbeats 2000000 in
theorem s_PrintNo (p : Pl) (hx : Small p.ls) (hxa : p.xs.length ≤ 9223372036854775807) (hok : p.ok = false) : PC Tryz.prog 10 [.agg p.av] (.tup [.v (.string ⟨#[]⟩), .v (.int .i64 240)]) := by
  have hR := s_Right p hx hxa
  rw [hok] at hR
  unfold Pl.av at *
  refine PC.mk (ac_body tab_ok Tryz.func10 rfl (by kernel_rfl) rfl ?_); intro w0 M μ0; simp only [Tryz.ntmps10, List.length_cons, List.length_nil, Nat.reduceAdd, Nat.reduceSub, numb]
  repeat' (first | ((first | apply o_do | apply d_do | apply d_yes rfl rfl rfl); first | exact lsc (hR) | exact lsq) | refine a_seq ?_ | refine a_region ?_ | refine o_nil ?_ | refine a_block ?_ | refine a_ret ?_ | refine a_exit ?_ | refine a_skip ?_ | refine a_draw mixed ?_ | refine d_nil (by kernel_rfl) ?_ | refine o_yes rfl rfl rfl ?_ | refine o_no rfl rfl rfl (by decide) ?_ | refine o_no' rfl rfl rfl ?_ | refine a_condT rfl ?_ | refine a_condF rfl ?_ | refine d_no rfl rfl rfl (by decide) ?_ | refine d_no' rfl rfl rfl ?_ | (refine wq2 (fun hb => ?_) (fun hb => ?_) <;> (simp only [hb]; try simp only [hbs, ne_eq] at hb; try (exfalso; first | omega | exact hb trivial))) | fail)
  all_goals refine rq rfl ?_
  all_goals exact fnq
end Go.Proofs.YtbhblhcgfenobaaGreatDoor
