/-
  Walks over abstract values: a part of a text. Over whatever program. No condition.
  Scripts read by the reference: lines, words, parts, numbers.
-/
import Derived.Test.YtbhblhcgfenobaaGreatDoorK4
import Derived.Test.YtbhblhcgfenobaaGreatDoorK8
import Derived.Test.YtbhblhcgfenobaaGreatDoorK13
import Derived.Test.YtbhblhcgfenobaaGreatDoorK17
namespace Go.Proofs.YtbhblhcgfenobaaGreatDoor
open Go.RowKit
set_option linter.unusedSimpArgs false
set_option linter.unusedVariables false
section
variable {P : Program} {T : List TyI} {Γ : Ctx} {s : ASt} {dst : Option Tmp} {ty : TypeId} {pos : String} {after : Array Edge}
/-- s[m:n] of a text -/
theorem ls_strSub (hT : okTab P T = true) {x y z : Operand} {t m n : Nat} {i j : Int} {k k' : IntKind} {b : ByteArray} (hx : ev s x = some (.v (.string b))) (hy : ev s y = some (.v (.int k i))) (hz : ev s z = some (.v (.int k' j))) (hty : nth T t = some .string) (hi : i = (m : Int)) (hj : j = (n : Int)) (hmn : m ≤ n) (hn : n ≤ b.size) (hd : okDst Γ.n dst = true) :
    LS P Γ ⟨dst, .slice t x (some y) (some z) none, ty, pos, after, none⟩ s (rd x (rd y (rd z []))) (dst1 dst (.v (.string (b.extract m n)))) [] :=
  ls_pure hd fun t' ht μ a w hr => by
    obtain ⟨e1, ht⟩ := ht.ev hx
    obtain ⟨e2, ht⟩ := ht.ev hy
    obtain ⟨e3, ht⟩ := ht.ev hz
    have e1 := hr.ev e1
    have e2 := hr.ev e2
    have e3 := hr.ev e3
    simp only [rep] at e1 e2 e3 ⊢
    have hu := str_ty hT hty
    subst hi hj
    have hnc : (n : Int) ≤ b.size := by omega
    have hmc : (m : Int) ≤ n := by omega
    have hm0 : ¬ (m : Int) < 0 := by omega
    have hn0 : ¬ (n : Int) < 0 := by omega
    refine ⟨.string (b.extract m n), ?_, rfl, rfl⟩
    simp [execOp, e1.1, e2.1, e3.1, Instr.sliceAt, Instr.slice, run_underlying hu, Instr.sliceBounds, Instr.sliceBound, asIntOf, hnc, hmc, hm0, hn0, hmn]
    intro h; omega
end
end Go.Proofs.YtbhblhcgfenobaaGreatDoor
namespace Go.Proofs.YtbhblhcgfenobaaGreatDoor
open Go.RowKit
set_option linter.unusedSimpArgs false
set_option linter.unusedVariables false
theorem at_mid {s : ByteArray} {A r : List UInt8} {c : UInt8} {q : Nat} (h : s.data.toList = A ++ c :: r) (hq : q = A.length) : ∃ hs : q < s.size, s[q] = c := by
  subst hq
  have hs : A.length < s.size := by rw [← size_list, h]; simp
  refine ⟨hs, ?_⟩
  have : s.data.toList[A.length]? = some c := by rw [h]; simp
  rw [Array.getElem?_toList] at this
  have e := (Array.getElem?_eq_some_iff.1 this).2
  exact e
theorem ext_mid {s : ByteArray} {A B C : List UInt8} {m n : Nat} (h : s.data.toList = A ++ (B ++ C)) (hm : m = A.length) (hn : n = A.length + B.length) : s.extract m n = mkB B := by
  subst hm hn
  apply bytes_ext2
  rw [mkB_list]
  simp [ByteArray.data_extract, List.extract_eq_take_drop, h]
theorem c10 {c : UInt8} : ((c.toNat : Int) = 10) ↔ c = 10 := by
  constructor
  · intro h
    have e : c.toNat = 10 := by omega
    have e3 : UInt8.ofNat c.toNat = UInt8.ofNat 10 := by rw [e]
    rw [UInt8.ofNat_toNat] at e3; exact e3
  · rintro rfl; rfl
theorem c32 {c : UInt8} : ((c.toNat : Int) = 32) ↔ c = 32 := by
  constructor
  · intro h
    have e : c.toNat = 32 := by omega
    have e3 : UInt8.ofNat c.toNat = UInt8.ofNat 32 := by rw [e]
    rw [UInt8.ofNat_toNat] at e3; exact e3
  · rintro rfl; rfl
theorem cN {c d : UInt8} : ((c.toNat : Int) = (d.toNat : Int)) ↔ c = d := by
  constructor
  · intro h
    have e : c.toNat = d.toNat := by omega
    have e3 : UInt8.ofNat c.toNat = UInt8.ofNat d.toNat := by rw [e]
    rw [UInt8.ofNat_toNat, UInt8.ofNat_toNat] at e3; exact e3
  · rintro rfl; rfl
set_option maxHeartbeats 4000000 in
theorem p_rLines (s : ByteArray) (hs : s.size ≤ 900000000) : PC Tryz.prog 20 [.v (.string s)] (.tup [.sl 1 ((lnS s.data.toList).1.map stAv), .v (.string (mkB (lnS s.data.toList).2))]) := by
  obtain ⟨R, hR⟩ : ∃ R, R = lnS s.data.toList := ⟨_, rfl⟩
  rw [← hR]
  refine PC.mk (ac_body tab_ok Tryz.func20 rfl (by kernel_rfl) rfl ?_); intro w0 M μ0; simp only [Tryz.ntmps20, List.length_cons, List.length_nil, Nat.reduceAdd, Nat.reduceSub, numb]
  repeat' (first | ((first | apply o_do | apply d_do | apply d_yes rfl rfl rfl); first | exact ls_build0 (k := 0) tab_ok rfl rfl rfl rfl | exact lsq) | refine a_seq ?_ | refine a_region ?_ | refine o_nil ?_ | refine a_block ?_ | refine a_ret ?_ | refine a_exit ?_ | refine a_skip ?_ | refine a_draw mixed ?_ | refine d_nil (by kernel_rfl) ?_ | refine o_yes rfl rfl rfl ?_ | refine o_no rfl rfl rfl (by decide) ?_ | refine o_no' rfl rfl rfl ?_ | refine a_condT rfl ?_ | refine a_condF rfl ?_ | refine d_no rfl rfl rfl (by decide) ?_ | refine d_no' rfl rfl rfl ?_ | (refine wq2 (fun hb => ?_) (fun hb => ?_) <;> (simp only [hb]; try simp only [hbs, ne_eq] at hb; try (exfalso; first | omega | exact hb trivial))) | fail)
  refine a_loop (X := {x : List ByteArray × List UInt8 × List UInt8 // s.data.toList = unl x.1 ++ (x.2.1 ++ x.2.2) ∧ (∀ w ∈ x.1, 10 ∉ w.data.toList) ∧ 10 ∉ x.2.1}) (fun x => ⟨[(0, .v (.string s)), (4, .own 0 (x.1.1.map stAv).length), (5, .v (.int .i64 ((unl x.1.1).length : Nat))), (6, .v (.int .i64 (((unl x.1.1).length + x.1.2.1.length : Nat) : Int)))], [(0, .row 9 1 (x.1.1.map stAv))]⟩) (fun x => x.1.2.2.length) ⟨([], [], s.data.toList), by simp [unl], by simp, by simp⟩ ?_ ?_
  · refine ⟨by repeat' (first | exact trivial | exact FinA.one (FinB.cell (FinC.same rfl)) | exact FinA.one (FinB.cell FinC.nil) | exact FinA.bound rfl | exact FinA.one (FinB.cell (FinC.own rfl rfl rfl rfl)) | exact FinA.one (FinB.cell (FinC.v (by first | rfl | (simp [unl])))) | exact FinA.one (FinB.cell (FinC.ow rfl (by first | rfl | (simp [unl])))) | exact FinA.one (FinB.agg' rfl rfl) | refine ⟨⟨_, rfl, ?_⟩, ?_⟩), by repeat' (first | exact trivial | refine ⟨⟨_, rfl, by first | rfl | (simp [unl]; done) | (simp [renO, *]; done)⟩, by first | rfl | assumption, ?_⟩), rfl⟩
  rintro ⟨⟨L, cur, rest⟩, hE, hL, hc⟩
  dsimp only at hE hL hc ⊢
  have hsz : s.size = (unl L).length + cur.length + rest.length := by rw [← size_list, hE, List.length_append, List.length_append]; omega
  have hLl : (L.map stAv).length = L.length := List.length_map _
  have hLu : L.length ≤ (unl L).length := by
    clear hE hL hsz hLl
    induction L with
    | nil => simp
    | cons w L ih => rw [unl_cons]; simp; omega
  cases rest with
  | nil =>
    have hx := ext_post (l := unl L) (r := cur) (by rw [hE, List.append_nil])
    rw [List.append_nil] at hE
    rw [List.length_nil] at hsz
    have hr : R = (L, cur) := by rw [hR, hE]; exact lnS_unl L cur hL hc
    rw [hr]
    dsimp only
    rw [← hx]
    generalize hN : (unl L).length + cur.length = N at *
    generalize hA : (unl L).length = A at *
    repeat' (first | ((first | apply o_do | apply d_do | apply d_yes rfl rfl rfl); first | exact ls_strFrom (n := A) tab_ok rfl rfl rfl rfl (by omega) rfl | focus (apply ls_append tab_ok rfl rfl ?hn rfl ?hsrc rfl ?hlen rfl rfl; (case hn => rfl); (case hsrc => first | exact SrcIs.sl | exact SrcIs.nil | exact SrcIs.own rfl rfl | fail); (case hlen => (try simp only [List.length_cons, List.length_nil]); omega); first | done | fail) | exact lsq) | refine a_seq ?_ | refine a_region ?_ | refine o_nil ?_ | refine a_block ?_ | refine a_ret ?_ | refine a_exit ?_ | refine a_skip ?_ | refine a_draw mixed ?_ | refine d_nil (by kernel_rfl) ?_ | refine o_yes rfl rfl rfl ?_ | refine o_no rfl rfl rfl (by decide) ?_ | refine o_no' rfl rfl rfl ?_ | refine a_condT rfl ?_ | refine a_condF rfl ?_ | refine d_no rfl rfl rfl (by decide) ?_ | refine d_no' rfl rfl rfl ?_ | (refine wq2 (fun hb => ?_) (fun hb => ?_) <;> (simp only [hb]; try simp only [hbs, ne_eq] at hb; try (exfalso; first | omega | exact hb trivial))) | fail)
    all_goals try (exfalso; omega)
    all_goals refine rq rfl ?_
    all_goals exact fnq
  | cons c r =>
    rw [List.length_cons] at hsz
    obtain ⟨hq, hqe⟩ := at_mid (q := (unl L).length + cur.length) (A := unl L ++ cur) (c := c) (r := r) (by rw [hE, List.append_assoc]) (by rw [List.length_append])
    have hx := ext_mid (m := (unl L).length) (n := (unl L).length + cur.length) hE rfl rfl
    by_cases h10 : c = 10
    · have hi := c10.2 h10
      rw [← hqe] at hi
      subst h10
      have e1 : unl (L ++ [mkB cur]) = unl L ++ (cur ++ [10]) := by simp [unl, mkB_list]
      have e2 : (unl (L ++ [mkB cur])).length = (unl L).length + cur.length + 1 := by rw [e1]; simp; omega
      have e3 : s.data.toList = unl (L ++ [mkB cur]) ++ ([] ++ r) := by rw [hE, e1]; simp
      have e4 : (L ++ [mkB cur]).map stAv = L.map stAv ++ [[.v (.string (s.extract (unl L).length ((unl L).length + cur.length)))]] := by rw [hx]; simp [stAv]
      have e5 : ∀ w ∈ L ++ [mkB cur], 10 ∉ w.data.toList := fun w hw => by
        rcases List.mem_append.1 hw with hw | hw
        · exact hL w hw
        · rw [List.mem_singleton.1 hw]; exact hc
      clear hx e1 hqe hE hL
      generalize hN : (unl L).length + cur.length = N at *
      generalize hA : (unl L).length = A at *
      repeat' (first | ((first | apply o_do | apply d_do | apply d_yes rfl rfl rfl); first | exact ls_index_str (q := N) tab_ok rfl rfl rfl rfl hq rfl | exact ls_strSub (m := A) (n := N) tab_ok rfl rfl rfl rfl rfl rfl (by omega) (by omega) rfl | focus (apply ls_append tab_ok rfl rfl ?hn rfl ?hsrc rfl ?hlen rfl rfl; (case hn => rfl); (case hsrc => first | exact SrcIs.sl | exact SrcIs.nil | exact SrcIs.own rfl rfl | fail); (case hlen => (try simp only [List.length_cons, List.length_nil]); omega); first | done | fail) | exact lsq) | refine a_seq ?_ | refine a_region ?_ | refine o_nil ?_ | refine a_block ?_ | refine a_ret ?_ | refine a_exit ?_ | refine a_skip ?_ | refine a_draw mixed ?_ | refine d_nil (by kernel_rfl) ?_ | refine o_yes rfl rfl rfl ?_ | refine o_no rfl rfl rfl (by decide) ?_ | refine o_no' rfl rfl rfl ?_ | refine a_condT rfl ?_ | refine a_condF rfl ?_ | refine d_no rfl rfl rfl (by decide) ?_ | refine d_no' rfl rfl rfl ?_ | (refine wq2 (fun hb => ?_) (fun hb => ?_) <;> (simp only [hb]; try simp only [hbs, ne_eq] at hb; try (exfalso; first | omega | exact hb trivial))) | fail)
      all_goals try (exfalso; omega)
      refine ⟨⟨(L ++ [mkB cur], [], r), e3, e5, by simp⟩, by dsimp only; simp, ?_⟩
      dsimp only
      rw [e4, e2]
      exact wkS
    · have hi : ¬ ((s[(unl L).length + cur.length].toNat : Int) = 10) := fun h => h10 (c10.1 (by rw [hqe] at h; exact h))
      have e3 : s.data.toList = unl L ++ ((cur ++ [c]) ++ r) := by rw [hE]; simp
      have e5 : 10 ∉ cur ++ [c] := by
        intro hm
        rcases List.mem_append.1 hm with hm | hm
        · exact hc hm
        · exact h10 (List.mem_singleton.1 hm).symm
      have e6 : (unl L).length + (cur ++ [c]).length = (unl L).length + cur.length + 1 := by simp; omega
      clear hx hqe hE
      generalize hN : (unl L).length + cur.length = N at *
      generalize hA : (unl L).length = A at *
      repeat' (first | ((first | apply o_do | apply d_do | apply d_yes rfl rfl rfl); first | exact ls_index_str (q := N) tab_ok rfl rfl rfl rfl hq rfl | exact lsq) | refine a_seq ?_ | refine a_region ?_ | refine o_nil ?_ | refine a_block ?_ | refine a_ret ?_ | refine a_exit ?_ | refine a_skip ?_ | refine a_draw mixed ?_ | refine d_nil (by kernel_rfl) ?_ | refine o_yes rfl rfl rfl ?_ | refine o_no rfl rfl rfl (by decide) ?_ | refine o_no' rfl rfl rfl ?_ | refine a_condT rfl ?_ | refine a_condF rfl ?_ | refine d_no rfl rfl rfl (by decide) ?_ | refine d_no' rfl rfl rfl ?_ | (refine wq2 (fun hb => ?_) (fun hb => ?_) <;> (simp only [hb]; try simp only [hbs, ne_eq] at hb; try (exfalso; first | omega | exact hb trivial))) | fail)
      all_goals try (exfalso; omega)
      refine ⟨⟨(L, cur ++ [c], r), by rw [e3], hL, e5⟩, by dsimp only; simp, ?_⟩
      dsimp only
      rw [hA, e6]
      exact wkS
set_option maxHeartbeats 4000000 in
theorem p_rWords (s : ByteArray) (hs : s.size ≤ 900000000) : PC Tryz.prog 22 [.v (.string s)] (.sl 1 ((spl s sp1).map stAv)) := by
  obtain ⟨R, hR⟩ : ∃ R, R = spl s sp1 := ⟨_, rfl⟩
  rw [← hR]
  refine PC.mk (ac_body tab_ok Tryz.func22 rfl (by kernel_rfl) rfl ?_); intro w0 M μ0; simp only [Tryz.ntmps22, List.length_cons, List.length_nil, Nat.reduceAdd, Nat.reduceSub, numb]
  repeat' (first | ((first | apply o_do | apply d_do | apply d_yes rfl rfl rfl); first | exact ls_build0 (k := 0) tab_ok rfl rfl rfl rfl | exact lsq) | refine a_seq ?_ | refine a_region ?_ | refine o_nil ?_ | refine a_block ?_ | refine a_ret ?_ | refine a_exit ?_ | refine a_skip ?_ | refine a_draw mixed ?_ | refine d_nil (by kernel_rfl) ?_ | refine o_yes rfl rfl rfl ?_ | refine o_no rfl rfl rfl (by decide) ?_ | refine o_no' rfl rfl rfl ?_ | refine a_condT rfl ?_ | refine a_condF rfl ?_ | refine d_no rfl rfl rfl (by decide) ?_ | refine d_no' rfl rfl rfl ?_ | (refine wq2 (fun hb => ?_) (fun hb => ?_) <;> (simp only [hb]; try simp only [hbs, ne_eq] at hb; try (exfalso; first | omega | exact hb trivial))) | fail)
  refine a_loop (X := {x : List ByteArray × List UInt8 × List UInt8 // s.data.toList = unw x.1 ++ (x.2.1 ++ x.2.2) ∧ (∀ w ∈ x.1, 32 ∉ w.data.toList) ∧ 32 ∉ x.2.1}) (fun x => ⟨[(0, .v (.string s)), (3, .own 0 (x.1.1.map stAv).length), (4, .v (.int .i64 ((unw x.1.1).length : Nat))), (5, .v (.int .i64 (((unw x.1.1).length + x.1.2.1.length : Nat) : Int)))], [(0, .row 9 1 (x.1.1.map stAv))]⟩) (fun x => x.1.2.2.length) ⟨([], [], s.data.toList), by simp [unw], by simp, by simp⟩ ?_ ?_
  · refine ⟨by repeat' (first | exact trivial | exact FinA.one (FinB.cell (FinC.same rfl)) | exact FinA.one (FinB.cell FinC.nil) | exact FinA.bound rfl | exact FinA.one (FinB.cell (FinC.own rfl rfl rfl rfl)) | exact FinA.one (FinB.cell (FinC.v (by first | rfl | (simp [unw])))) | exact FinA.one (FinB.cell (FinC.ow rfl (by first | rfl | (simp [unw])))) | exact FinA.one (FinB.agg' rfl rfl) | refine ⟨⟨_, rfl, ?_⟩, ?_⟩), by repeat' (first | exact trivial | refine ⟨⟨_, rfl, by first | rfl | (simp [unw]; done) | (simp [renO, *]; done)⟩, by first | rfl | assumption, ?_⟩), rfl⟩
  rintro ⟨⟨L, cur, rest⟩, hE, hL, hc⟩
  dsimp only at hE hL hc ⊢
  have hsz : s.size = (unw L).length + cur.length + rest.length := by rw [← size_list, hE, List.length_append, List.length_append]; omega
  have hLl : (L.map stAv).length = L.length := List.length_map _
  have hLu : L.length ≤ (unw L).length := by
    clear hE hL hsz hLl
    induction L with
    | nil => simp
    | cons w L ih => rw [unw_cons]; simp; omega
  cases rest with
  | nil =>
    have hx := ext_post (l := unw L) (r := cur) (by rw [hE, List.append_nil])
    rw [List.append_nil] at hE
    rw [List.length_nil] at hsz
    have hr : R.map stAv = L.map stAv ++ [[.v (.string (s.extract (unw L).length s.size))]] := by
      have e := spl_unw L cur hL hc
      rw [← hE, mkB_self] at e
      rw [hR, e, hx]; simp [stAv]
    rw [hr]
    generalize hN : (unw L).length + cur.length = N at *
    generalize hA : (unw L).length = A at *
    repeat' (first | ((first | apply o_do | apply d_do | apply d_yes rfl rfl rfl); first | exact ls_strFrom (n := A) tab_ok rfl rfl rfl rfl (by omega) rfl | focus (apply ls_append tab_ok rfl rfl ?hn rfl ?hsrc rfl ?hlen rfl rfl; (case hn => rfl); (case hsrc => first | exact SrcIs.sl | exact SrcIs.nil | exact SrcIs.own rfl rfl | fail); (case hlen => (try simp only [List.length_cons, List.length_nil]); omega); first | done | fail) | exact lsq) | refine a_seq ?_ | refine a_region ?_ | refine o_nil ?_ | refine a_block ?_ | refine a_ret ?_ | refine a_exit ?_ | refine a_skip ?_ | refine a_draw mixed ?_ | refine d_nil (by kernel_rfl) ?_ | refine o_yes rfl rfl rfl ?_ | refine o_no rfl rfl rfl (by decide) ?_ | refine o_no' rfl rfl rfl ?_ | refine a_condT rfl ?_ | refine a_condF rfl ?_ | refine d_no rfl rfl rfl (by decide) ?_ | refine d_no' rfl rfl rfl ?_ | (refine wq2 (fun hb => ?_) (fun hb => ?_) <;> (simp only [hb]; try simp only [hbs, ne_eq] at hb; try (exfalso; first | omega | exact hb trivial))) | fail)
    all_goals try (exfalso; omega)
    all_goals refine rq rfl ?_
    all_goals exact fnq
  | cons c r =>
    rw [List.length_cons] at hsz
    obtain ⟨hq, hqe⟩ := at_mid (q := (unw L).length + cur.length) (A := unw L ++ cur) (c := c) (r := r) (by rw [hE, List.append_assoc]) (by rw [List.length_append])
    have hx := ext_mid (m := (unw L).length) (n := (unw L).length + cur.length) hE rfl rfl
    by_cases h10 : c = 32
    · have hi := c32.2 h10
      rw [← hqe] at hi
      subst h10
      have e1 : unw (L ++ [mkB cur]) = unw L ++ (cur ++ [32]) := by simp [unw, mkB_list]
      have e2 : (unw (L ++ [mkB cur])).length = (unw L).length + cur.length + 1 := by rw [e1]; simp; omega
      have e3 : s.data.toList = unw (L ++ [mkB cur]) ++ ([] ++ r) := by rw [hE, e1]; simp
      have e4 : (L ++ [mkB cur]).map stAv = L.map stAv ++ [[.v (.string (s.extract (unw L).length ((unw L).length + cur.length)))]] := by rw [hx]; simp [stAv]
      have e5 : ∀ w ∈ L ++ [mkB cur], 32 ∉ w.data.toList := fun w hw => by
        rcases List.mem_append.1 hw with hw | hw
        · exact hL w hw
        · rw [List.mem_singleton.1 hw]; exact hc
      clear hx e1 hqe hE hL
      generalize hN : (unw L).length + cur.length = N at *
      generalize hA : (unw L).length = A at *
      repeat' (first | ((first | apply o_do | apply d_do | apply d_yes rfl rfl rfl); first | exact ls_index_str (q := N) tab_ok rfl rfl rfl rfl hq rfl | exact ls_strSub (m := A) (n := N) tab_ok rfl rfl rfl rfl rfl rfl (by omega) (by omega) rfl | focus (apply ls_append tab_ok rfl rfl ?hn rfl ?hsrc rfl ?hlen rfl rfl; (case hn => rfl); (case hsrc => first | exact SrcIs.sl | exact SrcIs.nil | exact SrcIs.own rfl rfl | fail); (case hlen => (try simp only [List.length_cons, List.length_nil]); omega); first | done | fail) | exact lsq) | refine a_seq ?_ | refine a_region ?_ | refine o_nil ?_ | refine a_block ?_ | refine a_ret ?_ | refine a_exit ?_ | refine a_skip ?_ | refine a_draw mixed ?_ | refine d_nil (by kernel_rfl) ?_ | refine o_yes rfl rfl rfl ?_ | refine o_no rfl rfl rfl (by decide) ?_ | refine o_no' rfl rfl rfl ?_ | refine a_condT rfl ?_ | refine a_condF rfl ?_ | refine d_no rfl rfl rfl (by decide) ?_ | refine d_no' rfl rfl rfl ?_ | (refine wq2 (fun hb => ?_) (fun hb => ?_) <;> (simp only [hb]; try simp only [hbs, ne_eq] at hb; try (exfalso; first | omega | exact hb trivial))) | fail)
      all_goals try (exfalso; omega)
      refine ⟨⟨(L ++ [mkB cur], [], r), e3, e5, by simp⟩, by dsimp only; simp, ?_⟩
      dsimp only
      rw [e4, e2]
      exact wkS
    · have hi : ¬ ((s[(unw L).length + cur.length].toNat : Int) = 32) := fun h => h10 (c32.1 (by rw [hqe] at h; exact h))
      have e3 : s.data.toList = unw L ++ ((cur ++ [c]) ++ r) := by rw [hE]; simp
      have e5 : 32 ∉ cur ++ [c] := by
        intro hm
        rcases List.mem_append.1 hm with hm | hm
        · exact hc hm
        · exact h10 (List.mem_singleton.1 hm).symm
      have e6 : (unw L).length + (cur ++ [c]).length = (unw L).length + cur.length + 1 := by simp; omega
      clear hx hqe hE
      generalize hN : (unw L).length + cur.length = N at *
      generalize hA : (unw L).length = A at *
      repeat' (first | ((first | apply o_do | apply d_do | apply d_yes rfl rfl rfl); first | exact ls_index_str (q := N) tab_ok rfl rfl rfl rfl hq rfl | exact lsq) | refine a_seq ?_ | refine a_region ?_ | refine o_nil ?_ | refine a_block ?_ | refine a_ret ?_ | refine a_exit ?_ | refine a_skip ?_ | refine a_draw mixed ?_ | refine d_nil (by kernel_rfl) ?_ | refine o_yes rfl rfl rfl ?_ | refine o_no rfl rfl rfl (by decide) ?_ | refine o_no' rfl rfl rfl ?_ | refine a_condT rfl ?_ | refine a_condF rfl ?_ | refine d_no rfl rfl rfl (by decide) ?_ | refine d_no' rfl rfl rfl ?_ | (refine wq2 (fun hb => ?_) (fun hb => ?_) <;> (simp only [hb]; try simp only [hbs, ne_eq] at hb; try (exfalso; first | omega | exact hb trivial))) | fail)
      all_goals try (exfalso; omega)
      refine ⟨⟨(L, cur ++ [c], r), by rw [e3], hL, e5⟩, by dsimp only; simp, ?_⟩
      dsimp only
      rw [hA, e6]
      exact wkS
set_option maxHeartbeats 4000000 in
theorem p_rPart (s : ByteArray) (c : UInt8) (hs : Sm s) : PC Tryz.prog 85 [.v (.string s), .v (.int .u8 (c.toNat : Int))] (.tup [.v (.string (cutA s (oneB c))), .v (.string (cutB s (oneB c))), .v (.bool (cutC s (oneB c)))]) := by
  unfold Sm at hs
  by_cases hm : c ∈ s.data.toList
  · obtain ⟨l, r, hE, hl⟩ := mem_split c _ hm
    obtain ⟨k1, k2, k3⟩ := cutc_at hE hl
    have hx := ext_pre (l := l) hE
    have hy := ext_post (l := l ++ [c]) (r := r) (by rw [hE]; simp)
    rw [List.length_append] at hy
    rw [k1, k2, k3, ← hx, ← hy]
    have hsz : s.size = l.length + (r.length + 1) := by rw [← size_list, hE, List.length_append, List.length_cons]
    obtain ⟨hq, hqe⟩ := at_mid (q := l.length) hE rfl
    have hall : ∀ q (h : q < s.size), q < l.length → ¬ ((s[q].toNat : Int) = (c.toNat : Int)) := by
      intro q h hql he
      have e9 : l = l.take q ++ l[q] :: l.drop (q + 1) := by rw [← List.drop_eq_getElem_cons hql, List.take_append_drop]
      have e10 : l ++ c :: r = (l.take q ++ l[q] :: l.drop (q + 1)) ++ c :: r := congrArg (· ++ c :: r) e9
      obtain ⟨_, e⟩ := at_mid (s := s) (q := q) (A := l.take q) (c := l[q]) (r := l.drop (q + 1) ++ c :: r) (by rw [hE, e10, List.append_assoc, List.cons_append]) (by rw [List.length_take]; omega)
      rw [e] at he
      exact hl (by rw [← cN.1 he]; exact List.getElem_mem hql)
    have hi : (s[l.length].toNat : Int) = (c.toNat : Int) := by rw [hqe]
    have e1 : ([c] : List UInt8).length = 1 := rfl
    rw [e1] at *
    clear hx hy hqe k1 k2 k3
    refine PC.mk (ac_body tab_ok Tryz.func85 rfl (by kernel_rfl) rfl ?_); intro w0 M μ0; simp only [Tryz.ntmps85, List.length_cons, List.length_nil, Nat.reduceAdd, Nat.reduceSub, numb]
    repeat' (first | ((first | apply o_do | apply d_do | apply d_yes rfl rfl rfl); exact lsq) | refine a_seq ?_ | refine a_region ?_ | refine o_nil ?_ | refine a_block ?_ | refine a_ret ?_ | refine a_exit ?_ | refine a_skip ?_ | refine a_draw mixed ?_ | refine d_nil (by kernel_rfl) ?_ | refine o_yes rfl rfl rfl ?_ | refine o_no rfl rfl rfl (by decide) ?_ | refine o_no' rfl rfl rfl ?_ | refine a_condT rfl ?_ | refine a_condF rfl ?_ | refine d_no rfl rfl rfl (by decide) ?_ | refine d_no' rfl rfl rfl ?_ | (refine wq2 (fun hb => ?_) (fun hb => ?_) <;> (simp only [hb]; try simp only [hbs, ne_eq] at hb; try (exfalso; first | omega | exact hb trivial))) | fail)
    refine a_loop (X := {q : Nat // q ≤ l.length}) (fun x => ⟨[(0, .v (.string s)), (1, .v (.int .u8 (c.toNat : Int))), (7, .v (.int .i64 x.1))], []⟩) (fun x => l.length - x.1) ⟨0, Nat.zero_le _⟩ ?_ ?_
    · exact wkS
    rintro ⟨q, hql⟩
    dsimp only
    have hqs : q < s.size := by omega
    by_cases hlt : q < l.length
    · have hn := hall q hqs hlt
      repeat' (first | ((first | apply o_do | apply d_do | apply d_yes rfl rfl rfl); first | exact ls_index_str (q := q) tab_ok rfl rfl rfl rfl hqs rfl | exact lsq) | refine a_seq ?_ | refine a_region ?_ | refine o_nil ?_ | refine a_block ?_ | refine a_ret ?_ | refine a_exit ?_ | refine a_skip ?_ | refine a_draw mixed ?_ | refine d_nil (by kernel_rfl) ?_ | refine o_yes rfl rfl rfl ?_ | refine o_no rfl rfl rfl (by decide) ?_ | refine o_no' rfl rfl rfl ?_ | refine a_condT rfl ?_ | refine a_condF rfl ?_ | refine d_no rfl rfl rfl (by decide) ?_ | refine d_no' rfl rfl rfl ?_ | (refine wq2 (fun hb => ?_) (fun hb => ?_) <;> (simp only [hb]; try simp only [hbs, ne_eq] at hb; try (exfalso; first | omega | exact hb trivial))) | fail)
      all_goals try (exfalso; omega)
      refine ⟨⟨q + 1, by omega⟩, by dsimp only; omega, ?_⟩
      exact wkS
    · obtain rfl : q = l.length := by omega
      repeat' (first | ((first | apply o_do | apply d_do | apply d_yes rfl rfl rfl); first | exact ls_index_str (q := l.length) tab_ok rfl rfl rfl rfl hqs rfl | exact ls_strTo (n := l.length) tab_ok rfl rfl rfl rfl (by omega) rfl | exact ls_strFrom (n := l.length + 1) tab_ok rfl rfl rfl (by omega) (by omega) rfl | exact lsq) | refine a_seq ?_ | refine a_region ?_ | refine o_nil ?_ | refine a_block ?_ | refine a_ret ?_ | refine a_exit ?_ | refine a_skip ?_ | refine a_draw mixed ?_ | refine d_nil (by kernel_rfl) ?_ | refine o_yes rfl rfl rfl ?_ | refine o_no rfl rfl rfl (by decide) ?_ | refine o_no' rfl rfl rfl ?_ | refine a_condT rfl ?_ | refine a_condF rfl ?_ | refine d_no rfl rfl rfl (by decide) ?_ | refine d_no' rfl rfl rfl ?_ | (refine wq2 (fun hb => ?_) (fun hb => ?_) <;> (simp only [hb]; try simp only [hbs, ne_eq] at hb; try (exfalso; first | omega | exact hb trivial))) | fail)
      all_goals try (exfalso; omega)
      all_goals refine rq rfl ?_
      all_goals exact fnq
  · obtain ⟨k1, k2, k3⟩ := cutc_no hm
    rw [k1, k2, k3]
    have hall : ∀ q (h : q < s.size), ¬ ((s[q].toNat : Int) = (c.toNat : Int)) := by
      intro q h he
      refine hm ?_
      rw [← cN.1 he]
      have e : s[q] = s.data.toList[q]'(by rw [size_list]; exact h) := by rw [Array.getElem_toList]; rfl
      rw [e]
      exact List.getElem_mem _
    refine PC.mk (ac_body tab_ok Tryz.func85 rfl (by kernel_rfl) rfl ?_); intro w0 M μ0; simp only [Tryz.ntmps85, List.length_cons, List.length_nil, Nat.reduceAdd, Nat.reduceSub, numb]
    repeat' (first | ((first | apply o_do | apply d_do | apply d_yes rfl rfl rfl); exact lsq) | refine a_seq ?_ | refine a_region ?_ | refine o_nil ?_ | refine a_block ?_ | refine a_ret ?_ | refine a_exit ?_ | refine a_skip ?_ | refine a_draw mixed ?_ | refine d_nil (by kernel_rfl) ?_ | refine o_yes rfl rfl rfl ?_ | refine o_no rfl rfl rfl (by decide) ?_ | refine o_no' rfl rfl rfl ?_ | refine a_condT rfl ?_ | refine a_condF rfl ?_ | refine d_no rfl rfl rfl (by decide) ?_ | refine d_no' rfl rfl rfl ?_ | (refine wq2 (fun hb => ?_) (fun hb => ?_) <;> (simp only [hb]; try simp only [hbs, ne_eq] at hb; try (exfalso; first | omega | exact hb trivial))) | fail)
    refine a_loop (X := {q : Nat // q ≤ s.size}) (fun x => ⟨[(0, .v (.string s)), (1, .v (.int .u8 (c.toNat : Int))), (7, .v (.int .i64 x.1))], []⟩) (fun x => s.size - x.1) ⟨0, Nat.zero_le _⟩ ?_ ?_
    · exact wkS
    rintro ⟨q, hql⟩
    dsimp only
    by_cases hlt : q < s.size
    · have hn := hall q hlt
      repeat' (first | ((first | apply o_do | apply d_do | apply d_yes rfl rfl rfl); first | exact ls_index_str (q := q) tab_ok rfl rfl rfl rfl hlt rfl | exact lsq) | refine a_seq ?_ | refine a_region ?_ | refine o_nil ?_ | refine a_block ?_ | refine a_ret ?_ | refine a_exit ?_ | refine a_skip ?_ | refine a_draw mixed ?_ | refine d_nil (by kernel_rfl) ?_ | refine o_yes rfl rfl rfl ?_ | refine o_no rfl rfl rfl (by decide) ?_ | refine o_no' rfl rfl rfl ?_ | refine a_condT rfl ?_ | refine a_condF rfl ?_ | refine d_no rfl rfl rfl (by decide) ?_ | refine d_no' rfl rfl rfl ?_ | (refine wq2 (fun hb => ?_) (fun hb => ?_) <;> (simp only [hb]; try simp only [hbs, ne_eq] at hb; try (exfalso; first | omega | exact hb trivial))) | fail)
      all_goals try (exfalso; omega)
      refine ⟨⟨q + 1, by omega⟩, by dsimp only; omega, ?_⟩
      exact wkS
    · obtain rfl : q = s.size := by omega
      repeat' (first | ((first | apply o_do | apply d_do | apply d_yes rfl rfl rfl); exact lsq) | refine a_seq ?_ | refine a_region ?_ | refine o_nil ?_ | refine a_block ?_ | refine a_ret ?_ | refine a_exit ?_ | refine a_skip ?_ | refine a_draw mixed ?_ | refine d_nil (by kernel_rfl) ?_ | refine o_yes rfl rfl rfl ?_ | refine o_no rfl rfl rfl (by decide) ?_ | refine o_no' rfl rfl rfl ?_ | refine a_condT rfl ?_ | refine a_condF rfl ?_ | refine d_no rfl rfl rfl (by decide) ?_ | refine d_no' rfl rfl rfl ?_ | (refine wq2 (fun hb => ?_) (fun hb => ?_) <;> (simp only [hb]; try simp only [hbs, ne_eq] at hb; try (exfalso; first | omega | exact hb trivial))) | fail)
      all_goals try (exfalso; omega)
      all_goals refine rq rfl ?_
      all_goals exact fnq
theorem p_rNumber (s : ByteArray) (hs : Sm s) : PC Tryz.prog 53 [.v (.string s)] (.tup [.v (.int .i64 (numS s).1), .v (.bool (numB s))]) := by
  have hN := p_Number s hs
  have h1 := (numS_iff s).1
  unfold em at h1
  generalize (numS s).1 = n at *
  generalize (numS s).2.1 = r at *
  rw [← h1]
  cases hb2 : (numS s).2.2
  all_goals
    rw [hb2] at hN
    refine PC.mk (ac_body tab_ok Tryz.func53 rfl (by kernel_rfl) rfl ?_); intro w0 M μ0; simp only [Tryz.ntmps53, List.length_cons, List.length_nil, Nat.reduceAdd, Nat.reduceSub, numb]
    repeat' (first | ((first | apply o_do | apply d_do | apply d_yes rfl rfl rfl); first | exact lsc (hN) | exact lsq) | refine a_seq ?_ | refine a_region ?_ | refine o_nil ?_ | refine a_block ?_ | refine a_ret ?_ | refine a_exit ?_ | refine a_skip ?_ | refine a_draw mixed ?_ | refine d_nil (by kernel_rfl) ?_ | refine o_yes rfl rfl rfl ?_ | refine o_no rfl rfl rfl (by decide) ?_ | refine o_no' rfl rfl rfl ?_ | refine a_condT rfl ?_ | refine a_condF rfl ?_ | refine d_no rfl rfl rfl (by decide) ?_ | refine d_no' rfl rfl rfl ?_ | (refine wq2 (fun hb => ?_) (fun hb => ?_) <;> (simp only [hb]; try simp only [hbs, ne_eq] at hb; try (exfalso; first | omega | exact hb trivial))) | fail)
    all_goals refine rq rfl ?_
    all_goals (first | refine FinA.tup ?_ | refine FinA.one ?_); repeat' (first | exact FinBs.nil | exact FinCs.nil | refine FinBs.cons ?_ ?_ | refine FinCs.cons ?_ ?_ | refine FinB.cell (FinC.v ?_) | refine FinB.cell (FinC.own rfl rfl rfl ?_) | exact FinB.cell FinC.nil | refine FinB.cell (FinC.sl ?_) | exact FinB.agg' rfl rfl | exact FinB.cell (FinC.same rfl) | refine FinB.agg ?_ | refine FinC.v ?_ | refine FinC.own rfl rfl rfl ?_ | exact FinC.nil | refine FinC.sl ?_ | exact FinC.same rfl); all_goals try rfl
    all_goals simp
end Go.Proofs.YtbhblhcgfenobaaGreatDoor
