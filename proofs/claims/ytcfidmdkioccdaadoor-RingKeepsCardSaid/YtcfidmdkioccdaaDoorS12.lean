/-
  'clepsydralaw11.RingKeeps' returns true for every input.
-/
import Derived.ChangeSame
import Derived.ChangeVars
import Derived.JoinedOf
import Derived.Stop.Joined
import Derived.SevenTiedAt
import Derived.Test.YtcfidmdkioccdaaDoorCards
import Derived.Test.YtcfidmdkioccdaaDoorS4
import Derived.Test.YtcfidmdkioccdaaDoorS11
set_option linter.unusedSimpArgs false
set_option linter.unusedVariables false
set_option maxHeartbeats 20000000
namespace Go.Proofs.YtcfidmdkioccdaaDoor
open Go.RowKit
def cst (ws : List Nat) : List Int := ws.map fun w : Nat => (w : Int)
theorem cst_at {ws : List Nat} {k : Nat} (h : k < ws.length) : (cst ws).getD k 0 = ((ws.getD k 0 : Nat) : Int) := by
 unfold cst
 rw [List.getD_eq_getElem?_getD, List.getElem?_map, List.getElem?_eq_getElem h, List.getD_eq_getElem?_getD, List.getElem?_eq_getElem h]; rfl
theorem okTo_all {xs : List Int} : ∀ n, (∀ k, k < n → (1 ≤ xs.getD k 0 ∧ xs.getD k 0 ≤ 99) ∧ (k = 0 ∨ xs.getD (k - 1) 0 < xs.getD k 0)) → okTo xs n = true
 | 0, _ => rfl
 | n + 1, h => by
  have h2 := h n (by omega)
  simp only [okTo]
  rw [okTo_all n fun k hk => h k (by omega), decide_eq_true h2.1.1, decide_eq_true h2.1.2]
  rcases h2.2 with e | e
  ·rw [decide_eq_true e]; rfl
  ·rw [decide_eq_true e, Bool.or_true]; rfl
theorem okTo_step {xs : List Int} : ∀ {n : Nat}, okTo xs n = true → ∀ k, k < n → k ≠ 0 → xs.getD (k - 1) 0 < xs.getD k 0
 | n + 1, h, k, hk, h0 => by
  simp only [okTo, Bool.and_eq_true, decide_eq_true_eq] at h
  by_cases e : k = n
  ·subst e
   have := h.2.2
   simp only [Bool.or_eq_true, decide_eq_true_eq] at this
   rcases this with e | e
   ·exact absurd e h0
   ·exact e
  ·exact okTo_step h.1 k (by omega) h0
theorem right_asc {ws : List Nat} (h : rightW (cst ws) = true) : ws.Pairwise (· < ·) := by
 unfold rightW at h
 simp only [Bool.and_eq_true, decide_eq_true_eq] at h
 have hs := okTo_step h.2
 have hl : (cst ws).length = ws.length := by simp [cst]
 rw [hl] at hs
 have hst : ∀ k, k + 1 < ws.length → ws.getD k 0 < ws.getD (k + 1) 0 := fun k hk => by
  have := hs (k + 1) hk (by omega)
  rw [cst_at hk, Nat.add_sub_cancel, cst_at (by omega)] at this
  omega
 rw [List.pairwise_iff_getElem]
 intro i j hi hj hij
 have key : ∀ d, i + d + 1 < ws.length → ws.getD i 0 < ws.getD (i + d + 1) 0 := by
  intro d
  induction d with
  | zero => intro h; exact hst i h
  | succ d ih => intro h; exact Nat.lt_trans (ih (by omega)) (hst (i + d + 1) h)
 have := key (j - i - 1) (by omega)
 rw [show i + (j - i - 1) + 1 = j by omega] at this
 rwa [List.getD_eq_getElem?_getD, List.getElem?_eq_getElem hi, List.getD_eq_getElem?_getD, List.getElem?_eq_getElem hj] at this
theorem right_of {ws : List Nat} (h1 : 1 ≤ ws.length) (h8 : ws.length ≤ 8) (hw : ∀ w ∈ ws, 1 ≤ w ∧ w < 100) (ha : ws.Pairwise (· < ·)) : rightW (cst ws) = true := by
 have hl : (cst ws).length = ws.length := by simp [cst]
 unfold rightW
 rw [hl, decide_eq_true h1, decide_eq_true h8]
 simp only [Bool.true_and]
 refine okTo_all _ fun k hk => ?_
 rw [cst_at hk]
 have e : ws.getD k 0 = ws[k] := by rw [List.getD_eq_getElem?_getD, List.getElem?_eq_getElem hk]; rfl
 have h2 := hw ws[k] (List.getElem_mem hk)
 rw [← e] at h2
 refine ⟨by omega, ?_⟩
 by_cases h0 : k = 0
 ·exact .inl h0
 ·right
  rw [cst_at (by omega)]
  have := List.pairwise_iff_getElem.1 ha (k - 1) k (by omega) hk (by omega)
  rw [← e] at this
  have e2 : ws.getD (k - 1) 0 = ws[k - 1] := by rw [List.getD_eq_getElem?_getD, List.getElem?_eq_getElem (by omega)]; rfl
  omega
theorem PL_filter (k : Nat) : ∀ ws : List Nat, (PL ws).filter (fun x => !decide (x.2 = (k : Int))) = PL (ws.filter fun w => w != k)
 | [] => rfl
 | w :: ws => by
  have ih := PL_filter k ws
  unfold PL at ih ⊢
  rw [List.flatMap_cons, List.filter_append, ih]
  by_cases e : w = k
  ·subst e
   rw [List.filter_cons, if_neg (by simp)]
   rw [List.filter_eq_nil_iff.2 (fun x hx => by rw [ptL_mem hx]; simp), List.nil_append]
  ·rw [List.filter_cons, if_pos (by simpa using e), List.flatMap_cons]
   congr 1
   exact List.filter_eq_self.2 (fun x hx => by rw [ptL_mem hx]; simp; omega)
theorem asc_nodup {ws : List Nat} (ha : ws.Pairwise (· < ·)) : ws.Nodup := ha.imp fun h => by omega
theorem but_one {ws : List Nat} (ha : ws.Pairwise (· < ·)) {k : Nat} (hk : k < ws.length) : (ws.filter fun w => w != ws.getD k 0) = ws.take k ++ ws.drop (k + 1) := by
 have e : ws.getD k 0 = ws[k] := by rw [List.getD_eq_getElem?_getD, List.getElem?_eq_getElem hk]; rfl
 rw [e]
 have hd : ws = ws.take k ++ ws[k] :: ws.drop (k + 1) := by rw [← List.drop_eq_getElem_cons hk, List.take_append_drop]
 generalize ws[k] = w at *
 generalize ws.take k = l1 at *
 generalize ws.drop (k + 1) = l2 at *
 subst hd
 have hn := asc_nodup ha
 rw [List.filter_append, List.filter_cons, if_neg (by simp)]
 rw [List.nodup_append] at hn
 obtain ⟨_, h2, h3⟩ := hn
 rw [List.nodup_cons] at h2
 rw [List.filter_eq_self.2 fun x hx => by simpa using h3 x hx w (by simp), List.filter_eq_self.2 fun x hx => by
  have : x ≠ w := fun e => h2.1 (e ▸ hx)
  simpa using this]
def wo (ws : List Nat) (k : Nat) : List Nat := ws.take k ++ ws.drop (k + 1)
theorem wo_sub (ws : List Nat) (k : Nat) : (wo ws k).Sublist ws := by
 unfold wo
 rw [← List.eraseIdx_eq_take_drop_succ]
 exact List.eraseIdx_sublist ..
theorem wo_len {ws : List Nat} {k : Nat} (h : k < ws.length) : (wo ws k).length = ws.length - 1 := by
 unfold wo
 rw [List.length_append, List.length_take, List.length_drop]; omega
theorem wo_not {ws : List Nat} (ha : ws.Pairwise (· < ·)) {k : Nat} (hk : k < ws.length) : ∀ w ∈ wo ws k, w ≠ ws.getD k 0 := by
 intro w hw e
 unfold wo at hw
 rw [← but_one ha hk, List.mem_filter] at hw
 simp [e] at hw
theorem keeps_at {ws : List Nat} (hws : ∀ w ∈ ws, 1 ≤ w ∧ w < 100) (ha : ws.Pairwise (· < ·)) (h2 : 2 ≤ ws.length) {k : Nat} (hk : k < ws.length) (a : Nat) :
  (ownL a (PL ws) = ((ws.getD k 0 : Nat) : Int) ∧ ownL a (PL ws) ≠ ownL a (PL (wo ws k))) ∨ (ownL a (PL ws) ≠ ((ws.getD k 0 : Nat) : Int) ∧ ownL a (PL ws) = ownL a (PL (wo ws k))) := by
 have hws2 : ∀ w ∈ wo ws k, 1 ≤ w ∧ w < 100 := fun w hw => hws w ((wo_sub ws k).subset hw)
 have hl2 := wo_len hk
 have h3 := own_of hws (by omega) a
 have h4 := own_of hws2 (by omega) a
 by_cases e : ownL a (PL ws) = ((ws.getD k 0 : Nat) : Int)
 ·left
  refine ⟨e, fun h => ?_⟩
  rw [← h, e] at h4
  obtain ⟨p, hp⟩ := h4.mem
  obtain ⟨w, hw, e2⟩ := PL_mem hp
  exact wo_not ha hk w hw (by simpa using (Int.ofNat.inj e2).symm)
 ·right
  refine ⟨e, ?_⟩
  have h5 := h3.but e
  rw [PL_filter, but_one ha hk] at h5
  exact (h5.eq (PL_pos hws2)).symm
theorem keeps {ws : List Nat} (hws : ∀ w ∈ ws, 1 ≤ w ∧ w < 100) (ha : ws.Pairwise (· < ·)) (h2 : 2 ≤ ws.length) {k : Nat} (hk : k < ws.length) {G q : Nat} (hq : q < G) :
  ((asgL ws G).getD q 0 = ((ws.getD k 0 : Nat) : Int) ∧ (asgL ws G).getD q 0 ≠ (asgL (wo ws k) G).getD q 0) ∨ ((asgL ws G).getD q 0 ≠ ((ws.getD k 0 : Nat) : Int) ∧ (asgL ws G).getD q 0 = (asgL (wo ws k) G).getD q 0) := by
 rw [asgL_at hq, asgL_at hq]
 exact keeps_at hws ha h2 hk _
theorem p_without (xs : List Int) (k : Nat) (h : k < xs.length) (h8 : xs.length ≤ 1000) : PC Tryd.prog 13 [.sl 1 (xs.map iI), .v (.int .i64 k)] (.sl 1 ((xs.take k ++ xs.drop (k + 1)).map iI)) := by
 have h1 : k ≤ (xs.map iI).length := by simp; omega
 have h2 : k + 1 ≤ (xs.map iI).length := by simp; omega
 have h3 : (k : Int) + 1 = ((k + 1 : Nat) : Int) := by omega
 have hl1 : ((xs.map iI).take k).length = k := by rw [List.length_take]; omega
 have hl2 : ((xs.map iI).drop (k + 1)).length = xs.length - (k + 1) := by rw [List.length_drop]; simp
 rw [List.map_append, List.map_take, List.map_drop]
 generalize xs.map iI = X at *
 refine PC.mk (ac_body tab_ok Tryd.func13 rfl (by kernel_rfl) rfl ?_); intro w0 M μ0; simp only [Tryd.ntmps13, List.length_cons, List.length_nil, Nat.reduceAdd, Nat.reduceSub, numb]
 repeat' (first | ((first | apply o_do | apply d_do | apply d_yes rfl rfl rfl); first | exact ls_slice_to (n := k) tab_ok rfl rfl rfl rfl h1 rfl | exact ls_slice_from (n := k + 1) tab_ok rfl rfl rfl h3 h2 rfl | focus (apply ls_append tab_ok rfl rfl ?hn rfl ?hsrc rfl ?hlen rfl rfl; (case hn => rfl); (case hsrc => first | exact SrcIs.sl | exact SrcIs.nil | exact SrcIs.own rfl rfl | fail); (case hlen => (try simp only [List.length_cons, List.length_nil]); ((try simp only [List.length_append, List.nil_append, hl1, hl2]); omega)); first | done | fail) | exact lsq) | refine a_seq ?_ | refine a_region ?_ | refine o_nil ?_ | refine a_block ?_ | refine a_ret ?_ | refine a_exit ?_ | refine a_skip ?_ | refine a_draw mixed ?_ | refine d_nil (by kernel_rfl) ?_ | refine o_yes rfl rfl rfl ?_ | refine o_no rfl rfl rfl (by decide) ?_ | refine o_no' rfl rfl rfl ?_ | refine a_condT rfl ?_ | refine a_condF rfl ?_ | refine d_no rfl rfl rfl (by decide) ?_ | refine d_no' rfl rfl rfl ?_ | (refine wq2 (fun hb => ?_) (fun hb => ?_) <;> (simp only [hb]; try simp only [hbs, ne_eq] at hb; try (exfalso; first | omega | exact hb trivial))) | fail)
 refine rq rfl ?_
 exact fnq
def mvA (m : Int × Int × Int) : List AV := [.v (.int .i64 m.1), .v (.int .i64 m.2.1), .v (.int .i64 m.2.2)]
def mvL (xs ys : List Int) : Nat → List (Int × Int × Int)
 | 0 => []
 | n + 1 => if xs.getD n 0 = ys.getD n 0 then mvL xs ys n else mvL xs ys n ++ [((n : Int), xs.getD n 0, ys.getD n 0)]
theorem mvL_len (xs ys : List Int) : ∀ n, (mvL xs ys n).length ≤ n
 | 0 => Nat.le_refl _
 | n + 1 => by
  have := mvL_len xs ys n
  unfold mvL
  split
  ·omega
  ·simp; omega
theorem mvL_mem {xs ys : List Int} : ∀ {n : Nat} {m}, m ∈ mvL xs ys n → ∃ q, q < n ∧ xs.getD q 0 ≠ ys.getD q 0 ∧ m.2.2 = ys.getD q 0
 | n + 1, m, h => by
  unfold mvL at h
  split at h
  ·obtain ⟨q, h1, h2⟩ := mvL_mem h
   exact ⟨q, by omega, h2⟩
  ·rename_i hne
   rcases List.mem_append.1 h with h | h
   ·obtain ⟨q, h1, h2⟩ := mvL_mem h
    exact ⟨q, by omega, h2⟩
   ·rw [List.mem_singleton] at h
    subst h
    exact ⟨n, by omega, hne, rfl⟩
set_option maxRecDepth 10000 in
theorem p_Moves (xs ys : List Int) (n : Nat) (hx : xs.length = n) (hy : ys.length = n) (hn : n ≤ 1000) : PC Tryd.prog 14 [.sl 1 (xs.map iI), .sl 1 (ys.map iI)] (.sl 3 ((mvL xs ys n).map mvA)) := by
 have hxl : ((xs.map iI).length : Int) = (n : Int) := by simp [hx]
 have hyl : ((ys.map iI).length : Int) = (n : Int) := by simp [hy]
 refine PC.mk (ac_body tab_ok Tryd.func14 rfl (by kernel_rfl) rfl ?_); intro w0 M μ0; simp only [Tryd.ntmps14, List.length_cons, List.length_nil, Nat.reduceAdd, Nat.reduceSub, numb]
 repeat' (first | ((first | apply o_do | apply d_do | apply d_yes rfl rfl rfl); first | exact ls_min rfl rfl rfl | exact lsq) | refine a_seq ?_ | refine a_region ?_ | refine o_nil ?_ | refine a_block ?_ | refine a_ret ?_ | refine a_exit ?_ | refine a_skip ?_ | refine a_draw mixed ?_ | refine d_nil (by kernel_rfl) ?_ | refine o_yes rfl rfl rfl ?_ | refine o_no rfl rfl rfl (by decide) ?_ | refine o_no' rfl rfl rfl ?_ | refine a_condT rfl ?_ | refine a_condF rfl ?_ | refine d_no rfl rfl rfl (by decide) ?_ | refine d_no' rfl rfl rfl ?_ | (refine wq2 (fun hb => ?_) (fun hb => ?_) <;> (simp only [hb]; try simp only [hbs, ne_eq] at hb; try (exfalso; first | omega | exact hb trivial))) | fail)
 refine a_adopt 5 1 36 3 rfl rfl ?_
 refine a_loop (X := {q : Nat // q ≤ n})
  (fun q => ⟨[(0, .sl 1 (xs.map iI)), (1, .sl 1 (ys.map iI)), (5, .own 1 ((mvL xs ys q.1).map mvA).length), (11, .v (.int .i64 n)), (12, .v (.int .i64 q.1))], [(1, .row 36 3 ((mvL xs ys q.1).map mvA))]⟩) (fun q => n - q.1) ⟨0, Nat.zero_le _⟩ ?_ ?_
 ·refine ⟨by repeat' (first | exact trivial | exact FinA.one (FinB.cell (FinC.same rfl)) | exact FinA.one (FinB.cell FinC.nil) | exact FinA.bound rfl | exact FinA.one (FinB.cell (FinC.own rfl rfl rfl rfl)) | exact FinA.one (FinB.cell (FinC.v (by first | rfl | (((try dsimp only); first | rfl | (rw [hxl, hyl, Int.min_self]; done) | (congr 1 <;> omega)))))) | exact FinA.one (FinB.cell (FinC.ow rfl (by first | rfl | (((try dsimp only); first | rfl | (rw [hxl, hyl, Int.min_self]; done) | (congr 1 <;> omega)))))) | exact FinA.one (FinB.agg' rfl rfl) | refine ⟨⟨_, rfl, ?_⟩, ?_⟩), by repeat' (first | exact trivial | refine ⟨⟨_, rfl, by first | rfl | (((try dsimp only); first | rfl | (rw [hxl, hyl, Int.min_self]; done) | (congr 1 <;> omega)); done) | (simp [renO, *]; done)⟩, by first | rfl | assumption, ?_⟩), rfl⟩
 rintro ⟨q, hq⟩
 dsimp only
 by_cases hlt : q < n
 ·have hex := iI_at (xs := xs) (i := q) (by omega)
  have hey := iI_at (xs := ys) (i := q) (by omega)
  have hsn : mvL xs ys (q + 1) = if xs.getD q 0 = ys.getD q 0 then mvL xs ys q else mvL xs ys q ++ [((q : Int), xs.getD q 0, ys.getD q 0)] := rfl
  have hql : ((mvL xs ys q).map mvA).length ≤ q := by rw [List.length_map]; exact mvL_len xs ys q
  have hlt' : (q : Int) < (n : Int) := by omega
  by_cases e : xs.getD q 0 = ys.getD q 0
  ·rw [if_pos e] at hsn
   generalize xs.getD q 0 = x at *
   generalize ys.getD q 0 = y at *
   have hT : (mvL xs ys (q + 1)).map mvA = (mvL xs ys q).map mvA := by rw [hsn]
   clear hsn
   generalize hT2 : (mvL xs ys (q + 1)).map mvA = T2 at *
   generalize (mvL xs ys q).map mvA = T at *
   subst hT
   repeat' (first | ((first | apply o_do | apply d_do | apply d_yes rfl rfl rfl); first | exact ls_indexAddr_sl tab_ok rfl rfl rfl rfl hex rfl | exact ls_indexAddr_sl tab_ok rfl rfl rfl rfl hey rfl | exact lsq) | refine a_seq ?_ | refine a_region ?_ | refine o_nil ?_ | refine a_block ?_ | refine a_ret ?_ | refine a_exit ?_ | refine a_skip ?_ | refine a_draw mixed ?_ | refine d_nil (by kernel_rfl) ?_ | refine o_yes rfl rfl rfl ?_ | refine o_no rfl rfl rfl (by decide) ?_ | refine o_no' rfl rfl rfl ?_ | refine a_condT rfl ?_ | refine a_condF rfl ?_ | refine d_no rfl rfl rfl (by decide) ?_ | refine d_no' rfl rfl rfl ?_ | (refine wq2 (fun hb => ?_) (fun hb => ?_) <;> (simp only [hb]; try simp only [hbs, ne_eq] at hb; try (exfalso; first | omega | exact hb trivial))) | fail)
   refine ⟨⟨q + 1, by omega⟩, by dsimp only; omega, ?_⟩
   refine ⟨by repeat' (first | exact trivial | exact FinA.one (FinB.cell (FinC.same rfl)) | exact FinA.one (FinB.cell FinC.nil) | exact FinA.bound rfl | exact FinA.one (FinB.cell (FinC.own rfl rfl rfl rfl)) | exact FinA.one (FinB.cell (FinC.v (by first | rfl | (((try dsimp only); first | rfl | (rw [hT2]; done) | (congr 1 <;> omega)))))) | exact FinA.one (FinB.cell (FinC.ow rfl (by first | rfl | (((try dsimp only); first | rfl | (rw [hT2]; done) | (congr 1 <;> omega)))))) | exact FinA.one (FinB.agg' rfl rfl) | refine ⟨⟨_, rfl, ?_⟩, ?_⟩), by repeat' (first | exact trivial | refine ⟨⟨_, rfl, by first | rfl | (((try dsimp only); first | rfl | (rw [hT2]; done) | (congr 1 <;> omega)); done) | (simp [renO, *]; done)⟩, by first | rfl | assumption, ?_⟩), rfl⟩
  ·rw [if_neg e] at hsn
   generalize xs.getD q 0 = x at *
   generalize ys.getD q 0 = y at *
   have hT : (mvL xs ys (q + 1)).map mvA = (mvL xs ys q).map mvA ++ [mvA ((q : Int), x, y)] := by rw [hsn, List.map_append]; rfl
   clear hsn
   generalize hT2 : (mvL xs ys (q + 1)).map mvA = T2 at *
   generalize (mvL xs ys q).map mvA = T at *
   repeat' (first | ((first | apply o_do | apply d_do | apply d_yes rfl rfl rfl); first | exact ls_indexAddr_sl tab_ok rfl rfl rfl rfl hex rfl | exact ls_indexAddr_sl tab_ok rfl rfl rfl rfl hey rfl | focus (apply ls_append tab_ok rfl rfl ?hn rfl ?hsrc rfl ?hlen rfl rfl; (case hn => rfl); (case hsrc => first | exact SrcIs.sl | exact SrcIs.nil | exact SrcIs.own rfl rfl | fail); (case hlen => (try simp only [List.length_cons, List.length_nil]); (omega)); first | done | fail) | exact lsq) | refine a_seq ?_ | refine a_region ?_ | refine o_nil ?_ | refine a_block ?_ | refine a_ret ?_ | refine a_exit ?_ | refine a_skip ?_ | refine a_draw mixed ?_ | refine d_nil (by kernel_rfl) ?_ | refine o_yes rfl rfl rfl ?_ | refine o_no rfl rfl rfl (by decide) ?_ | refine o_no' rfl rfl rfl ?_ | refine a_condT rfl ?_ | refine a_condF rfl ?_ | refine d_no rfl rfl rfl (by decide) ?_ | refine d_no' rfl rfl rfl ?_ | (refine wq2 (fun hb => ?_) (fun hb => ?_) <;> (simp only [hb]; try simp only [hbs, ne_eq] at hb; try (exfalso; first | omega | exact hb trivial))) | fail)
   refine ⟨⟨q + 1, by omega⟩, by dsimp only; omega, ?_⟩
   refine ⟨by repeat' (first | exact trivial | exact FinA.one (FinB.cell (FinC.same rfl)) | exact FinA.one (FinB.cell FinC.nil) | exact FinA.bound rfl | exact FinA.one (FinB.cell (FinC.own rfl rfl rfl rfl)) | exact FinA.one (FinB.cell (FinC.v (by first | rfl | (((try dsimp only); first | rfl | (rw [hT2, hT]; rfl) | (rw [hT2, hT]; simp; done) | (congr 1 <;> omega)))))) | exact FinA.one (FinB.cell (FinC.ow rfl (by first | rfl | (((try dsimp only); first | rfl | (rw [hT2, hT]; rfl) | (rw [hT2, hT]; simp; done) | (congr 1 <;> omega)))))) | exact FinA.one (FinB.agg' rfl rfl) | refine ⟨⟨_, rfl, ?_⟩, ?_⟩), by repeat' (first | exact trivial | refine ⟨⟨_, rfl, by first | rfl | (((try dsimp only); first | rfl | (rw [hT2, hT]; rfl) | (rw [hT2, hT]; simp; done) | (congr 1 <;> omega)); done) | (simp [renO, *]; done)⟩, by first | rfl | assumption, ?_⟩), rfl⟩
 ·obtain rfl : q = n := by omega
  generalize (mvL xs ys q).map mvA = T at *
  repeat' (first | ((first | apply o_do | apply d_do | apply d_yes rfl rfl rfl); exact lsq) | refine a_seq ?_ | refine a_region ?_ | refine o_nil ?_ | refine a_block ?_ | refine a_ret ?_ | refine a_exit ?_ | refine a_skip ?_ | refine a_draw mixed ?_ | refine d_nil (by kernel_rfl) ?_ | refine o_yes rfl rfl rfl ?_ | refine o_no rfl rfl rfl (by decide) ?_ | refine o_no' rfl rfl rfl ?_ | refine a_condT rfl ?_ | refine a_condF rfl ?_ | refine d_no rfl rfl rfl (by decide) ?_ | refine d_no' rfl rfl rfl ?_ | (refine wq2 (fun hb => ?_) (fun hb => ?_) <;> (simp only [hb]; try simp only [hbs, ne_eq] at hb; try (exfalso; first | omega | exact hb trivial))) | fail)
  refine rq rfl ?_
  exact fnq
theorem o_weak {P : Program} {Γ : Ctx} {Q : Exit → ASt → Prop} {s t : ASt} {ops : Array Oper} {rest : List Oper} (h : Weak Γ s t) (hk : AOps P Γ ops rest Q t) : AOps P Γ ops rest Q s := ⟨fun hnd μ a w hr => hk.out hnd μ a w (h.rel hr)⟩
theorem tmod_in {a b : Int} (hb : 0 < b) : -b < a.tmod b ∧ a.tmod b < b := by
 have h1 := Int.tmod_lt_of_pos a hb
 have h2 : -b < a.tmod b := by
  have h3 := Int.tmod_lt_of_pos (-a) hb
  rw [Int.neg_tmod] at h3
  omega
 exact ⟨h2, h1⟩
theorem tmod_up {a b : Int} (ha : 0 ≤ a) (hb : 0 < b) : 0 ≤ a.tmod b ∧ a.tmod b < b := ⟨Int.tmod_nonneg b ha, Int.tmod_lt_of_pos a hb⟩
set_option maxRecDepth 10000 in
theorem r_keeps (xs : List Int) (k0 g : Int) (hl : xs.length ≤ 9223372036854775807) : PC Tryd.prog 5 [.sl 1 (xs.map iI), .v (.int .i64 k0), .v (.int .i64 g)] (.v (.bool true)) := by
 have hll : ((xs.map iI).length : Int) = (xs.length : Int) := by simp
 have ha := p_alive11
 have h1 := p_Right xs hl
 by_cases hno : rightW xs = false ∨ xs.length < 2 ∨ g < 1 ∨ 32 < g
 ·rcases Bool.eq_false_or_eq_true (rightW xs) with hR | hR
  ·rw [hR] at h1 hno
   have hno : xs.length < 2 ∨ g < 1 ∨ 32 < g := by simpa using hno
   rcases hno with h | h | h
   all_goals
    refine PC.mk (ac_body tab_ok Tryd.func5 rfl (by kernel_rfl) rfl ?_); intro w0 M μ0; simp only [Tryd.ntmps5, List.length_cons, List.length_nil, Nat.reduceAdd, Nat.reduceSub, numb]
    repeat' (first | ((first | apply o_do | apply d_do | apply d_yes rfl rfl rfl); first | exact lsc (h1) | exact lsc (ha) | exact lsq) | refine a_seq ?_ | refine a_region ?_ | refine o_nil ?_ | refine a_block ?_ | refine a_ret ?_ | refine a_exit ?_ | refine a_skip ?_ | refine a_draw mixed ?_ | refine d_nil (by kernel_rfl) ?_ | refine o_yes rfl rfl rfl ?_ | refine o_no rfl rfl rfl (by decide) ?_ | refine o_no' rfl rfl rfl ?_ | refine a_condT rfl ?_ | refine a_condF rfl ?_ | refine d_no rfl rfl rfl (by decide) ?_ | refine d_no' rfl rfl rfl ?_ | (refine wq2 (fun hb => ?_) (fun hb => ?_) <;> (simp only [hb]; try simp only [hbs, ne_eq] at hb; try (exfalso; first | omega | exact hb trivial))) | fail)
    all_goals refine rq rfl ?_
    all_goals exact fnq
  ·rw [hR] at h1
   clear hno hR
   refine PC.mk (ac_body tab_ok Tryd.func5 rfl (by kernel_rfl) rfl ?_); intro w0 M μ0; simp only [Tryd.ntmps5, List.length_cons, List.length_nil, Nat.reduceAdd, Nat.reduceSub, numb]
   repeat' (first | ((first | apply o_do | apply d_do | apply d_yes rfl rfl rfl); first | exact lsc (h1) | exact lsc (ha) | exact lsq) | refine a_seq ?_ | refine a_region ?_ | refine o_nil ?_ | refine a_block ?_ | refine a_ret ?_ | refine a_exit ?_ | refine a_skip ?_ | refine a_draw mixed ?_ | refine d_nil (by kernel_rfl) ?_ | refine o_yes rfl rfl rfl ?_ | refine o_no rfl rfl rfl (by decide) ?_ | refine o_no' rfl rfl rfl ?_ | refine a_condT rfl ?_ | refine a_condF rfl ?_ | refine d_no rfl rfl rfl (by decide) ?_ | refine d_no' rfl rfl rfl ?_ | (refine wq2 (fun hb => ?_) (fun hb => ?_) <;> (simp only [hb]; try simp only [hbs, ne_eq] at hb; try (exfalso; first | omega | exact hb trivial))) | fail)
   all_goals refine rq rfl ?_
   all_goals exact fnq
 ·have hR : rightW xs = true := by
   cases h : rightW xs
   ·exact absurd (.inl h) hno
   ·rfl
  have hL2 : ¬ xs.length < 2 := fun h => hno (.inr (.inl h))
  have hg1 : ¬ g < 1 := fun h => hno (.inr (.inr (.inl h)))
  have hg2 : ¬ 32 < g := fun h => hno (.inr (.inr (.inr h)))
  obtain ⟨ws, rfl, w1, w2, w3⟩ := right_nat hR
  obtain ⟨G, rfl⟩ : ∃ G : Nat, g = (G : Int) := ⟨g.toNat, by omega⟩
  have hwl : (ws.map fun w : Nat => (w : Int)).length = ws.length := by simp
  rw [hwl] at hL2
  obtain ⟨r1, hr1⟩ : ∃ r, k0.tmod (ws.length : Int) = r := ⟨_, rfl⟩
  obtain ⟨r2, hr2⟩ : ∃ r, (r1 + (ws.length : Int)).tmod (ws.length : Int) = r := ⟨_, rfl⟩
  have b1 := tmod_in (a := k0) (b := (ws.length : Int)) (by omega)
  rw [hr1] at b1
  have b2 := tmod_up (a := r1 + (ws.length : Int)) (b := (ws.length : Int)) (by omega) (by omega)
  rw [hr2] at b2
  obtain ⟨k, hk⟩ : ∃ a : Nat, r2 = (a : Int) := ⟨r2.toNat, by omega⟩
  subst hk
  have hkl : k < ws.length := by omega
  have hasc := right_asc hR
  have hws2 : ∀ w ∈ wo ws k, 1 ≤ w ∧ w < 100 := fun w hw => w1 w ((wo_sub ws k).subset hw)
  have hl2 := wo_len hkl
  have hR2 : rightW (cst (wo ws k)) = true := right_of (by omega) (by omega) hws2 (hasc.sublist (wo_sub ws k))
  have hA := a_Assign ws G hR w1 w2 w3 (by omega) (by omega)
  have hB := a_Assign (wo ws k) G hR2 hws2 (by omega) (by omega) (by omega) (by omega)
  have hW := p_without (ws.map fun w : Nat => (w : Int)) k (by omega) (by omega)
  have hM := p_Moves (asgL (wo ws k) G) (asgL ws G) G (asgL_len _ _) (asgL_len _ _) (by omega)
  have hkp := fun q (h : q < G) => keeps w1 hasc (by omega) hkl (G := G) h
  have hx0 := iI_at (xs := ws.map fun w : Nat => (w : Int)) (i := k) (by omega)
  have hcs : (ws.map fun w : Nat => (w : Int)).getD k 0 = ((ws.getD k 0 : Nat) : Int) := cst_at hkl
  rw [hcs] at hx0
  rw [← List.map_take, ← List.map_drop, ← List.map_append] at hW
  rw [show ws.take k ++ ws.drop (k + 1) = wo ws k from rfl] at hW
  rw [← iV_iI] at hA hB
  have hal := asgL_len ws G
  have hbl := asgL_len (wo ws k) G
  have hmv := mvL_len (asgL (wo ws k) G) (asgL ws G) G
  have hmm : ∀ m ∈ mvL (asgL (wo ws k) G) (asgL ws G) G, m.2.2 = ((ws.getD k 0 : Nat) : Int) := fun m hm => by
   obtain ⟨q, h1, h2, h3⟩ := mvL_mem hm
   rw [h3]
   rcases hkp q h1 with h4 | h4
   ·exact h4.1
   ·exact absurd h4.2.symm h2
  generalize ((ws.getD k 0 : Nat) : Int) = wk at *
  generalize mvL (asgL (wo ws k) G) (asgL ws G) G = mv at *
  generalize asgL ws G = os at *
  generalize asgL (wo ws k) G = fs at *
  have hol : ((os.map iI).length : Int) = (G : Int) := by simp [hal]
  have hfl : ((fs.map iI).length : Int) = (G : Int) := by simp [hbl]
  rw [hwl] at hll
  have hR' := h1
  rw [hR] at h1
  generalize (ws.map fun w : Nat => (w : Int)).map iI = X at *
  generalize ((wo ws k).map fun w : Nat => (w : Int)).map iI = Y at *
  rw [← hll] at hr1 hr2
  clear hno hR hasc hws2 hR2 w1 hR'
  refine PC.mk (ac_body tab_ok Tryd.func5 rfl (by kernel_rfl) rfl ?_); intro w0 M μ0; simp only [Tryd.ntmps5, List.length_cons, List.length_nil, Nat.reduceAdd, Nat.reduceSub, numb]
  repeat' (first | ((first | apply o_do | apply d_do | apply d_yes rfl rfl rfl); first | exact lsc (h1) | exact lsc (ha) | exact ls_rem64 hr1 rfl rfl (by omega) (by omega) rfl | exact ls_rem64 hr2 rfl rfl (by omega) (by omega) rfl | exact ls_indexAddr_sl tab_ok rfl rfl rfl rfl hx0 rfl | exact lca [] 10 hA | exact lsc (hW) | exact lsq) | refine a_seq ?_ | refine a_region ?_ | refine o_nil ?_ | refine a_block ?_ | refine a_ret ?_ | refine a_exit ?_ | refine a_skip ?_ | refine a_draw mixed ?_ | refine d_nil (by kernel_rfl) ?_ | refine o_yes rfl rfl rfl ?_ | refine o_no rfl rfl rfl (by decide) ?_ | refine o_no' rfl rfl rfl ?_ | refine a_condT rfl ?_ | refine a_condF rfl ?_ | refine d_no rfl rfl rfl (by decide) ?_ | refine d_no' rfl rfl rfl ?_ | (refine wq2 (fun hb => ?_) (fun hb => ?_) <;> (simp only [hb]; try simp only [hbs, ne_eq] at hb; try (exfalso; first | omega | exact hb trivial))) | fail)
  repeat' (first | ((first | apply o_do | apply d_do | apply d_yes rfl rfl rfl); first | exact lca [] 20 hB | exact lsq) | refine a_seq ?_ | refine a_region ?_ | refine o_nil ?_ | refine a_block ?_ | refine a_ret ?_ | refine a_exit ?_ | refine a_skip ?_ | refine a_draw mixed ?_ | refine d_nil (by kernel_rfl) ?_ | refine o_yes rfl rfl rfl ?_ | refine o_no rfl rfl rfl (by decide) ?_ | refine o_no' rfl rfl rfl ?_ | refine a_condT rfl ?_ | refine a_condF rfl ?_ | refine d_no rfl rfl rfl (by decide) ?_ | refine d_no' rfl rfl rfl ?_ | (refine wq2 (fun hb => ?_) (fun hb => ?_) <;> (simp only [hb]; try simp only [hbs, ne_eq] at hb; try (exfalso; first | omega | exact hb trivial))) | fail)
  refine o_weak (t := ⟨[(0, .sl 1 X), (7, .v (.int .i64 wk)), (8, .sl 1 (os.map iI)), (10, .sl 1 (fs.map iI)), (82, .sl 1 (fs.map iI)), (83, .sl 1 (os.map iI))], []⟩) ?_ ?_
  ·refine ⟨by repeat' (first | exact trivial | exact FinA.one (FinB.cell (FinC.same rfl)) | exact FinA.one (FinB.cell FinC.nil) | exact FinA.bound rfl | exact FinA.one (FinB.cell (FinC.own rfl rfl rfl rfl)) | exact FinA.one (FinB.cell (FinC.v (by first | rfl | (rfl)))) | exact FinA.one (FinB.cell (FinC.ow rfl (by first | rfl | (rfl)))) | exact FinA.one (FinB.agg' rfl rfl) | refine ⟨⟨_, rfl, ?_⟩, ?_⟩), by repeat' (first | exact trivial | refine ⟨⟨_, rfl, by first | rfl | (rfl; done) | (simp [renO, *]; done)⟩, by first | rfl | assumption, ?_⟩), rfl⟩
  repeat' (first | ((first | apply o_do | apply d_do | apply d_yes rfl rfl rfl); first | exact lsc (hM) | exact lsq) | refine a_seq ?_ | refine a_region ?_ | refine o_nil ?_ | refine a_block ?_ | refine a_ret ?_ | refine a_exit ?_ | refine a_skip ?_ | refine a_draw mixed ?_ | refine d_nil (by kernel_rfl) ?_ | refine o_yes rfl rfl rfl ?_ | refine o_no rfl rfl rfl (by decide) ?_ | refine o_no' rfl rfl rfl ?_ | refine a_condT rfl ?_ | refine a_condF rfl ?_ | refine d_no rfl rfl rfl (by decide) ?_ | refine d_no' rfl rfl rfl ?_ | (refine wq2 (fun hb => ?_) (fun hb => ?_) <;> (simp only [hb]; try simp only [hbs, ne_eq] at hb; try (exfalso; first | omega | exact hb trivial))) | fail)
  refine a_loop (X := {q : Nat // q ≤ mv.length})
   (fun q => ⟨[(7, .v (.int .i64 wk)), (8, .sl 1 (os.map iI)), (10, .sl 1 (fs.map iI)), (84, .sl 3 (mv.map mvA)), (85, .v (.int .i64 mv.length)), (86, .v (.int .i64 q.1))], []⟩) (fun q => mv.length - q.1) ⟨0, Nat.zero_le _⟩ ?_ ?_
  ·refine ⟨by repeat' (first | exact trivial | exact FinA.one (FinB.cell (FinC.same rfl)) | exact FinA.one (FinB.cell FinC.nil) | exact FinA.bound rfl | exact FinA.one (FinB.cell (FinC.own rfl rfl rfl rfl)) | exact FinA.one (FinB.cell (FinC.v (by first | rfl | (((try dsimp only); first | rfl | (rw [List.length_map]; done) | (congr 1 <;> omega)))))) | exact FinA.one (FinB.cell (FinC.ow rfl (by first | rfl | (((try dsimp only); first | rfl | (rw [List.length_map]; done) | (congr 1 <;> omega)))))) | exact FinA.one (FinB.agg' rfl rfl) | refine ⟨⟨_, rfl, ?_⟩, ?_⟩), by repeat' (first | exact trivial | refine ⟨⟨_, rfl, by first | rfl | (((try dsimp only); first | rfl | (rw [List.length_map]; done) | (congr 1 <;> omega)); done) | (simp [renO, *]; done)⟩, by first | rfl | assumption, ?_⟩), rfl⟩
  rintro ⟨q, hq⟩
  dsimp only
  by_cases hlt : q < mv.length
  ·have hel : (mv.map mvA)[q]? = some (mvA (mv.getD q (0, 0, 0))) := by
    rw [List.getElem?_map, List.getElem?_eq_getElem hlt, List.getD_eq_getElem?_getD, List.getElem?_eq_getElem hlt]; rfl
   have hmq : (mv.getD q (0, 0, 0)).2.2 = wk := hmm _ (by
    rw [List.getD_eq_getElem?_getD, List.getElem?_eq_getElem hlt]
    exact List.getElem_mem hlt)
   have hlt' : (q : Int) < (mv.length : Int) := by omega
   generalize mv.getD q (0, 0, 0) = m at *
   obtain ⟨m1, m2, m3⟩ := m
   dsimp only at hmq
   subst hmq
   dsimp only [mvA] at hel
   clear hkp hmm
   repeat' (first | ((first | apply o_do | apply d_do | apply d_yes rfl rfl rfl); first | exact ls_indexAddr_sl tab_ok rfl rfl rfl rfl hel rfl | exact lsq) | refine a_seq ?_ | refine a_region ?_ | refine o_nil ?_ | refine a_block ?_ | refine a_ret ?_ | refine a_exit ?_ | refine a_skip ?_ | refine a_draw mixed ?_ | refine d_nil (by kernel_rfl) ?_ | refine o_yes rfl rfl rfl ?_ | refine o_no rfl rfl rfl (by decide) ?_ | refine o_no' rfl rfl rfl ?_ | refine a_condT rfl ?_ | refine a_condF rfl ?_ | refine d_no rfl rfl rfl (by decide) ?_ | refine d_no' rfl rfl rfl ?_ | (refine wq2 (fun hb => ?_) (fun hb => ?_) <;> (simp only [hb]; try simp only [hbs, ne_eq] at hb; try (exfalso; first | omega | exact hb trivial))) | fail)
   refine ⟨⟨q + 1, by omega⟩, by dsimp only; omega, ?_⟩
   refine ⟨by repeat' (first | exact trivial | exact FinA.one (FinB.cell (FinC.same rfl)) | exact FinA.one (FinB.cell FinC.nil) | exact FinA.bound rfl | exact FinA.one (FinB.cell (FinC.own rfl rfl rfl rfl)) | exact FinA.one (FinB.cell (FinC.v (by first | rfl | (((try dsimp only); first | rfl | (congr 1 <;> omega)))))) | exact FinA.one (FinB.cell (FinC.ow rfl (by first | rfl | (((try dsimp only); first | rfl | (congr 1 <;> omega)))))) | exact FinA.one (FinB.agg' rfl rfl) | refine ⟨⟨_, rfl, ?_⟩, ?_⟩), by repeat' (first | exact trivial | refine ⟨⟨_, rfl, by first | rfl | (((try dsimp only); first | rfl | (congr 1 <;> omega)); done) | (simp [renO, *]; done)⟩, by first | rfl | assumption, ?_⟩), rfl⟩
  ·obtain rfl : q = mv.length := by omega
   clear hmm hmv hq hlt
   repeat' (first | ((first | apply o_do | apply d_do | apply d_yes rfl rfl rfl); exact lsq) | refine a_seq ?_ | refine a_region ?_ | refine o_nil ?_ | refine a_block ?_ | refine a_ret ?_ | refine a_exit ?_ | refine a_skip ?_ | refine a_draw mixed ?_ | refine d_nil (by kernel_rfl) ?_ | refine o_yes rfl rfl rfl ?_ | refine o_no rfl rfl rfl (by decide) ?_ | refine o_no' rfl rfl rfl ?_ | refine a_condT rfl ?_ | refine a_condF rfl ?_ | refine d_no rfl rfl rfl (by decide) ?_ | refine d_no' rfl rfl rfl ?_ | (refine wq2 (fun hb => ?_) (fun hb => ?_) <;> (simp only [hb]; try simp only [hbs, ne_eq] at hb; try (exfalso; first | omega | exact hb trivial))) | fail)
   refine a_loop (X := {q : Nat // q ≤ G})
    (fun q => ⟨[(7, .v (.int .i64 wk)), (8, .sl 1 (os.map iI)), (10, .sl 1 (fs.map iI)), (96, .v (.int .i64 G)), (97, .v (.int .i64 q.1))], []⟩) (fun q => G - q.1) ⟨0, Nat.zero_le _⟩ ?_ ?_
   ·refine ⟨by repeat' (first | exact trivial | exact FinA.one (FinB.cell (FinC.same rfl)) | exact FinA.one (FinB.cell FinC.nil) | exact FinA.bound rfl | exact FinA.one (FinB.cell (FinC.own rfl rfl rfl rfl)) | exact FinA.one (FinB.cell (FinC.v (by first | rfl | (((try dsimp only); first | rfl | (rw [hol]; done) | (congr 1 <;> omega)))))) | exact FinA.one (FinB.cell (FinC.ow rfl (by first | rfl | (((try dsimp only); first | rfl | (rw [hol]; done) | (congr 1 <;> omega)))))) | exact FinA.one (FinB.agg' rfl rfl) | refine ⟨⟨_, rfl, ?_⟩, ?_⟩), by repeat' (first | exact trivial | refine ⟨⟨_, rfl, by first | rfl | (((try dsimp only); first | rfl | (rw [hol]; done) | (congr 1 <;> omega)); done) | (simp [renO, *]; done)⟩, by first | rfl | assumption, ?_⟩), rfl⟩
   rintro ⟨q, hq⟩
   dsimp only
   by_cases hlt : q < G
   ·have hel := iI_at (xs := os) (i := q) (by omega)
    have hef := iI_at (xs := fs) (i := q) (by omega)
    have hk2 := hkp q hlt
    have hlt' : (q : Int) < (G : Int) := by omega
    generalize os.getD q 0 = x at *
    generalize fs.getD q 0 = y at *
    clear hkp
    rcases hk2 with ⟨e1, e2⟩ | ⟨e1, e2⟩
    ·have d1 : decide (x = wk) = true := decide_eq_true e1
     have d2 : decide (x ≠ y) = true := decide_eq_true e2
     repeat' (first | ((first | apply o_do | apply d_do | apply d_yes rfl rfl rfl); first | exact ls_indexAddr_sl tab_ok rfl rfl rfl rfl hel rfl | exact ls_indexAddr_sl tab_ok rfl rfl rfl rfl hef rfl | exact lsq) | refine a_seq ?_ | refine a_region ?_ | refine o_nil ?_ | refine a_block ?_ | refine a_ret ?_ | refine a_exit ?_ | refine a_skip ?_ | refine a_draw mixed ?_ | refine d_nil (by kernel_rfl) ?_ | refine o_yes rfl rfl rfl ?_ | refine o_no rfl rfl rfl (by decide) ?_ | refine o_no' rfl rfl rfl ?_ | refine a_condT rfl ?_ | refine a_condF rfl ?_ | refine d_no rfl rfl rfl (by decide) ?_ | refine d_no' rfl rfl rfl ?_ | (refine wq2 (fun hb => ?_) (fun hb => ?_) <;> (simp only [hb]; try simp only [hbs, ne_eq] at hb; try (exfalso; first | omega | exact hb trivial))) | fail)
     ·exfalso
      have e3 : ¬ wk = y := fun h => e2 (e1.trans h)
      simp [e1, e3] at hb
     ·refine ⟨⟨q + 1, by omega⟩, by dsimp only; omega, ?_⟩
      refine ⟨by repeat' (first | exact trivial | exact FinA.one (FinB.cell (FinC.same rfl)) | exact FinA.one (FinB.cell FinC.nil) | exact FinA.bound rfl | exact FinA.one (FinB.cell (FinC.own rfl rfl rfl rfl)) | exact FinA.one (FinB.cell (FinC.v (by first | rfl | (((try dsimp only); first | rfl | (congr 1 <;> omega)))))) | exact FinA.one (FinB.cell (FinC.ow rfl (by first | rfl | (((try dsimp only); first | rfl | (congr 1 <;> omega)))))) | exact FinA.one (FinB.agg' rfl rfl) | refine ⟨⟨_, rfl, ?_⟩, ?_⟩), by repeat' (first | exact trivial | refine ⟨⟨_, rfl, by first | rfl | (((try dsimp only); first | rfl | (congr 1 <;> omega)); done) | (simp [renO, *]; done)⟩, by first | rfl | assumption, ?_⟩), rfl⟩
    ·have d1 : decide (x = wk) = false := decide_eq_false e1
     have d2 : decide (x ≠ y) = false := decide_eq_false (fun h => h e2)
     repeat' (first | ((first | apply o_do | apply d_do | apply d_yes rfl rfl rfl); first | exact ls_indexAddr_sl tab_ok rfl rfl rfl rfl hel rfl | exact ls_indexAddr_sl tab_ok rfl rfl rfl rfl hef rfl | exact lsq) | refine a_seq ?_ | refine a_region ?_ | refine o_nil ?_ | refine a_block ?_ | refine a_ret ?_ | refine a_exit ?_ | refine a_skip ?_ | refine a_draw mixed ?_ | refine d_nil (by kernel_rfl) ?_ | refine o_yes rfl rfl rfl ?_ | refine o_no rfl rfl rfl (by decide) ?_ | refine o_no' rfl rfl rfl ?_ | refine a_condT rfl ?_ | refine a_condF rfl ?_ | refine d_no rfl rfl rfl (by decide) ?_ | refine d_no' rfl rfl rfl ?_ | (refine wq2 (fun hb => ?_) (fun hb => ?_) <;> (simp only [hb]; try simp only [hbs, ne_eq] at hb; try (exfalso; first | omega | exact hb trivial))) | fail)
     ·exfalso
      have e3 : ¬ y = wk := fun h => e1 (e2.trans h)
      simp [e2, e3] at hb
     ·refine ⟨⟨q + 1, by omega⟩, by dsimp only; omega, ?_⟩
      refine ⟨by repeat' (first | exact trivial | exact FinA.one (FinB.cell (FinC.same rfl)) | exact FinA.one (FinB.cell FinC.nil) | exact FinA.bound rfl | exact FinA.one (FinB.cell (FinC.own rfl rfl rfl rfl)) | exact FinA.one (FinB.cell (FinC.v (by first | rfl | (((try dsimp only); first | rfl | (congr 1 <;> omega)))))) | exact FinA.one (FinB.cell (FinC.ow rfl (by first | rfl | (((try dsimp only); first | rfl | (congr 1 <;> omega)))))) | exact FinA.one (FinB.agg' rfl rfl) | refine ⟨⟨_, rfl, ?_⟩, ?_⟩), by repeat' (first | exact trivial | refine ⟨⟨_, rfl, by first | rfl | (((try dsimp only); first | rfl | (congr 1 <;> omega)); done) | (simp [renO, *]; done)⟩, by first | rfl | assumption, ?_⟩), rfl⟩
   ·obtain rfl : q = G := by omega
    clear hkp
    repeat' (first | ((first | apply o_do | apply d_do | apply d_yes rfl rfl rfl); exact lsq) | refine a_seq ?_ | refine a_region ?_ | refine o_nil ?_ | refine a_block ?_ | refine a_ret ?_ | refine a_exit ?_ | refine a_skip ?_ | refine a_draw mixed ?_ | refine d_nil (by kernel_rfl) ?_ | refine o_yes rfl rfl rfl ?_ | refine o_no rfl rfl rfl (by decide) ?_ | refine o_no' rfl rfl rfl ?_ | refine a_condT rfl ?_ | refine a_condF rfl ?_ | refine d_no rfl rfl rfl (by decide) ?_ | refine d_no' rfl rfl rfl ?_ | (refine wq2 (fun hb => ?_) (fun hb => ?_) <;> (simp only [hb]; try simp only [hbs, ne_eq] at hb; try (exfalso; first | omega | exact hb trivial))) | fail)
    refine rq rfl ?_
    exact fnq
end Go.Proofs.YtcfidmdkioccdaaDoor
namespace Go.Proofs.YtcfidmdkioccdaaDoor
open Go.RowKit Go.WideShapes Go.ChangeShapes Go.ChangeAt
set_option maxRecDepth 100000
theorem ringKeeps_contract (H : Type) (enc : TypeId × Value → H) (W : World) (base : Nat) (args : Array Value) (ds gs : List (DataW H)) (before : List MemPlace)
  (hval0 : ∀ (j : Nat) t v, Tryd.f5.params[j]? = some t → args[j]? = some v → Value.okWide Tryd.prog W .any base t v)
  (hW : DataW.Whole enc Tryd.prog Tryd.f5.params.toList Rows.ringKeepsSpec.vars false W args.toList ds gs before) (hL : laidMetH Tryd.prog Rows.ringKeepsRow.laid W) :
  Calls Tryd.prog 5 args W fun e W' => ∃ v, e = .returned v ∧ Rows.ringKeepsSpec.post enc Tryd.prog Tryd.f5 false true false false W args v W' := by
 have hval := hval0
 have hW' := hW
 obtain ⟨p, q, hA0, hV, rfl, hfz, hnd⟩ := hW
 have hA : DataW.TrodAll enc Tryd.prog W 0 (fun _ => true) true Tryd.f5.params.toList args.toList ds p := hA0
 rw [Tryd.params5] at hA hval
 obtain ⟨v0, vs0, d0, ds0, p0, q0, hargs, rfl, rfl, h0, r0⟩ := trodAll_cons hA
 obtain ⟨v1, vs1, d1, ds1, p1, q1, rfl, rfl, rfl, h1, r1⟩ := trodAll_cons r0
 obtain ⟨v2, vs2, d2, ds2, p2, q2, rfl, rfl, rfl, h2, r2⟩ := trodAll_cons r1
 obtain ⟨rfl, rfl, rfl⟩ := trodAll_nil r2
 obtain rfl : args = #[v0, v1, v2] := by cases args; simp_all
 obtain ⟨rfl, rfl⟩ := trodVars_none hV
 clear hA0 hval0
 obtain ⟨xs, hx, hr⟩ := open_ints1_arg (hval 0 22 v0 rfl rfl) h0
 obtain ⟨k, rfl, rfl, rfl, _⟩ := open_int Tryd.underlying3 (hval 1 3 v1 rfl rfl) h1
 obtain ⟨g, rfl, rfl, rfl, _⟩ := open_int Tryd.underlying3 (hval 2 3 v2 rfl rfl) h2
 refine ((r_keeps xs k g hx).law (vs := [_, _, _]) ⟨_, _, rfl, hr, _, _, rfl, rep_int, _, _, rfl, rep_int, rfl⟩).mono fun e W' ⟨he, hb⟩ => ?_
 subst he
 exact ⟨_, rfl, post_law @A_laidOut (rd_of (by kernel_rfl : (Tryd.f5.params.toList.all fun t => Tryd.prog.readableRec t && decide (t < Tryd.prog.types.size)) = true)) rfl rfl Tryd.underlying4 hW' rfl hb⟩

theorem ringKeeps_own : ownKnob Tryd.prog.godebug = none := by kernel_rfl
set_option maxRecDepth 100000 in
theorem ringKeeps_met (os : Os) (args : Array Value) : laidMetH Tryd.prog Rows.ringKeepsRow.laid ((laidW os).forCall (fun _ _ => 0) ⟨#[], args, []⟩).memory :=
 laidMet_of_run' 8 (by kernel_rfl) (by kernel_rfl)
set_option maxRecDepth 100000 in
theorem ringKeeps_lifted (os : Os) (started : os.Started) (H : Type) (enc : TypeId × Value → H) :
  ReturnsInHanded {} Tryd.checked os 5 .any (fun w args => (Rows.ringKeepsSpec.pre enc Tryd.prog Tryd.f5 Rows.ringKeepsRow.domain false w args ∧ laidMetH Tryd.prog Rows.ringKeepsRow.laid w) ∧ sizedMet enc Tryd.prog Tryd.f5 (OpenSpec.ofChange Rows.ringKeepsSpec) false w args) (Rows.ringKeepsSpec.post enc Tryd.prog Tryd.f5 false true false false) := by
 refine returnsInHanded_of_change_and (C := Tryd.checked) (X := fun w _ => laidMetH Tryd.prog Rows.ringKeepsRow.laid w) (fun _ _ _ hh h => h.of_heap hh) ringKeeps_own started (by kernel_rfl) Tryd.func5
  (ChangeSpec.witness_at (enc := enc) (C := Tryd.checked) (os := os) (X := fun w _ => laidMetH Tryd.prog Rows.ringKeepsRow.laid w) false (laidW os) #[.slice none 0 0, .int .i64 0, .int .i64 0] 8 rfl (by kernel_rfl) (by kernel_rfl) (by kernel_rfl) (by kernel_rfl) (by kernel_rfl) (ringKeeps_met os _)) ?_
 intro W base args ds gs before hval hW _ _ hL _
 exact ringKeeps_contract H enc W base args ds gs before hval hW hL
theorem ringKeeps_row : Rows.RingKeepsSaid :=
 OpenClaim.holds_of_wide 5 Tryd.f5 rfl rfl rfl rfl rfl rfl rfl ⟨rfl, rfl, rfl, rfl, rfl⟩ rfl rfl rfl rfl rfl (by kernel_rfl) Tryd.func5 (by kernel_rfl)
  (of_decide_eq_true (by kernel_rfl)) (by unfold Func.isWrapper; first | (rw [if_pos (by decide +kernel)]; kernel_rfl) | (rw [if_neg (by decide +kernel)]; exact ⟨rfl, rfl⟩))
  (fun os started H enc _ => ringKeeps_lifted os started H enc)
theorem ringKeeps_proved : Rows.RingKeepsCardSaid :=
 Claim7.holds_tied_plain_at .later [] [.data, .data, .data] true (true, "06b976c24f5055ff40c23b7dc894dc3abd5f62fe859da24e95ef98c811a39020") false
  ringKeeps_row (fun _ h => by cases h) (by kernel_rfl) (fun _ h => by cases h) ringKeeps_row_tie rfl ⟨rfl, rfl⟩ (by kernel_rfl) rfl
  (fun f fn hf hfn => by
   obtain rfl : f = 5 := Option.some.inj ((show Tryd.prog.funcNamed Rows.ringKeepsRow.func = some 5 by kernel_rfl).symm.trans hf) |>.symm
   obtain rfl : fn = Tryd.f5 := (Option.some.inj (Tryd.func5.symm.trans hfn)).symm
   exact ⟨by kernel_rfl, fun j t ht => by
    have hall : (Tryd.f5.params.toList.all fun t => !Tryd.prog.wantsStandIn t) = true := by kernel_rfl
    have hm : t ∈ Tryd.f5.params.toList := List.mem_of_getElem? (by simpa using ht)
    have := List.all_eq_true.1 hall t hm
    show Tryd.prog.wantsStandIn t = false
    simpa using this⟩)
  (by kernel_rfl)
end Go.Proofs.YtcfidmdkioccdaaDoor
