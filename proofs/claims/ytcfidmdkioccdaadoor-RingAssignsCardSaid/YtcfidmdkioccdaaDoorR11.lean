/-
  ring's owner of a group, and the document's, walked over abstract values.
  ring: which workers may be, walked over abstract values, the document's too.
  ring.Assign, walked over abstract values.
  The document's Assign, and what both refuse, walked over abstract values.
-/
import Derived.Test.YtcfidmdkioccdaaDoorR4
import Derived.Test.YtcfidmdkioccdaaDoorR10
set_option linter.unusedSimpArgs false
set_option linter.unusedVariables false
set_option maxHeartbeats 20000000
namespace Go.Proofs.YtcfidmdkioccdaaDoor
open Go.RowKit
section
variable {P : Program} {Γ : Ctx} {s : ASt} {dst : Option Tmp} {ty : TypeId} {pos : String} {after : Array Edge}
theorem ls_addB {xt yt : TypeId} {x y : Operand} {k : IntKind} {a b r : Int} (hr : k.wrap (a + b) = r) (hx : ev s x = some (.v (.int k a))) (hy : ev s y = some (.v (.int k b))) (hd : okDst Γ.n dst = true) : LS P Γ ⟨dst, .binOp .add xt x y yt, ty, pos, after, none⟩ s (rd x (rd y [])) (dst1 dst (.v (.int k r))) [] := by subst hr; exact ls_add hx hy hd
end
def bG : ByteArray := ⟨#[103]⟩
def grS (g : Nat) : ByteArray := bG ++ itoB g
def grN (g : Nat) : Nat := hashN (grS g).data.toList
theorem grN_lt (g : Nat) : grN g < 4294967296 := hashN_lt _
theorem grS_size {g : Nat} (h : g < 100) : (grS g).size ≤ 3 := by
 have h1 := itoB_size h
 unfold grS
 have e : ∀ b : ByteArray, b.size = b.data.size := fun _ => rfl
 rw [ByteArray.size_append, e (itoB g)]
 have h3 : bG.size = 1 := rfl
 omega
set_option maxRecDepth 10000 in
theorem a_owner (es : List (Nat × Int)) (MS : List Nat) (hp : MS.Perm (es.map Prod.fst)) (hs : MS.Pairwise (· ≤ ·)) (hl : es.length ≤ 64) (h0 : es ≠ []) (hbr : ∀ p ∈ es, p.1 < 4294967296) (hun : kUniq es) (g : Nat) (hg : g < 100) :
  ∃ (i s : Nat) (w : Int), Cut (grN g) MS i ∧ MS[i % MS.length]? = some s ∧ (s, w) ∈ es ∧
   AC Tryd.prog 16 [.agg [.mp 0, .own 1 (MS.map uv).length], .v (.int .i64 g)] [(0, .mp (.m (es.map mEnt))), (1, .row 46 1 (MS.map uv))] (.v (.int .i64 w)) [(0, .mp (.m (es.map mEnt))), (1, .row 46 1 (MS.map uv))] := by
 have hml : MS.length = es.length := by rw [hp.length_eq, List.length_map]
 have hpos : 0 < MS.length := by
  rw [hml]
  cases es with
  | nil => exact absurd rfl h0
  | cons x es => simp
 obtain ⟨i, f, hcut, hBS⟩ := p_BS MS (grN g) (by omega) hs
 have hmod : i % MS.length < MS.length := Nat.mod_lt _ hpos
 have hsel : MS[i % MS.length]? = some (MS.getD (i % MS.length) 0) := by rw [List.getD_eq_getElem?_getD, List.getElem?_eq_getElem hmod]; rfl
 have hmem : MS.getD (i % MS.length) 0 ∈ es.map Prod.fst := hp.subset (List.mem_of_getElem? hsel)
 obtain ⟨⟨s, w⟩, hx, hsx⟩ := List.mem_map.1 hmem
 dsimp only at hsx
 refine ⟨i, s, w, hcut, by rw [hsel, hsx], hx, ?_⟩
 have hil := hcut.le
 have hI := p_Itoa hg
 have hsz := grS_size hg
 have hH := p_Hash (grS g) (by omega)
 change PC _ _ _ (uV (grN g)) at hH
 unfold grS at hH
 have hrem : (i : Int).tmod (MS.length : Int) = ((i % MS.length : Nat) : Int) := rfl
 have hrem2 : (i : Int).tmod ((MS.map uv).length : Int) = ((i % MS.length : Nat) : Int) := by rw [List.length_map]; rfl
 have hel := uv_at hmod
 rw [← hsx] at hel
 have q1 : i % MS.length < (MS.map uv).length := by simpa using hmod
 have hdm : MS.length = (MS.map uv).length := by simp
 have hks := hbr _ hx
 have g2 : ∀ v, (s, v) ∈ es → w = v := fun v hv => uniq_eq hun hx hv
 have hne : ((MS.map uv).length : Int) ≠ 0 := by rw [List.length_map]; omega
 have hb0 : i % MS.length ≤ 64 := Nat.le_trans (Nat.le_of_lt hmod) (by omega)
 have s1 := itoB_size hg
 generalize grN g = at' at *
 generalize i % MS.length = q at *
 have hb1 : (0 : Int) ≤ (q : Int) ∧ (q : Int) ≤ 64 := by omega
 clear hsel hmem hcut hp hs hun
 refine (ac_body tab_ok Tryd.func16 rfl (by kernel_rfl) rfl ?_); intro w0 M μ0; simp only [Tryd.ntmps16, List.length_cons, List.length_nil, Nat.reduceAdd, Nat.reduceSub, numb]
 repeat' (first | ((first | apply o_do | apply d_do | apply d_yes rfl rfl rfl); first | exact lsc (hI) | exact lsc (hH) | exact ls_cat rfl rfl (by simp only [ByteArray.size, ByteArray.data_append, Array.size_append, List.size_toArray, List.length_cons, List.length_nil]; omega) rfl | exact lcs (hBS) | exact ls_rem64 hrem2 rfl rfl hne (by omega) rfl | exact ls_indexAddr_own tab_ok rfl rfl rfl rfl rfl rfl q1 rfl | exact ls_load_eref tab_ok rfl rfl rfl hel rfl rfl rfl rfl | exact ls_atK hbr hks rfl rfl rfl hx g2 rfl | exact lsq) | refine a_seq ?_ | refine a_region ?_ | refine o_nil ?_ | refine a_block ?_ | refine a_ret ?_ | refine a_exit ?_ | refine a_skip ?_ | refine a_draw mixed ?_ | refine d_nil (by kernel_rfl) ?_ | refine o_yes rfl rfl rfl ?_ | refine o_no rfl rfl rfl (by decide) ?_ | refine o_no' rfl rfl rfl ?_ | refine a_condT rfl ?_ | refine a_condF rfl ?_ | refine d_no rfl rfl rfl (by decide) ?_ | refine d_no' rfl rfl rfl ?_ | (refine wq2 (fun hb => ?_) (fun hb => ?_) <;> (simp only [hb]; try simp only [hbs, ne_eq] at hb; try (exfalso; first | omega | exact hb trivial))) | fail)
 refine rq rfl ?_
 exact fnq
def rS (at' : Nat) (l : List (Nat × Int)) : Nat × Int := l.foldl (rstep at') (0, 0)
theorem rS_snoc (at' : Nat) (l : List (Nat × Int)) (x : Nat × Int) : rS at' (l ++ [x]) = rstep at' (rS at' l) x := by simp [rS]
theorem rS_lt {at' : Nat} (ha : at' < 4294967296) : ∀ (l : List (Nat × Int)) (s : Nat × Int), s.1 < 8589934592 → (∀ x ∈ l, x.1 < 4294967296) → (l.foldl (rstep at') s).1 < 8589934592
 | [], s, h, _ => h
 | x :: l, s, h, hl => by
  rw [List.foldl_cons]
  refine rS_lt ha l _ ?_ fun y hy => hl y (by simp [hy])
  have hx := hl x (by simp)
  have hpt : pt at' x.1 < 8589934592 := by unfold pt; split <;> omega
  unfold rstep
  by_cases hc : s.2 = 0 ∨ pt at' x.1 < s.1
  ·rw [if_pos hc]; exact hpt
  ·rw [if_neg hc]; exact h
set_option maxRecDepth 10000 in
theorem p_rOwner (ws : List Nat) (hws : ∀ w ∈ ws, w < 100) (hl : ws.length ≤ 8) (g : Nat) (hg : g < 100) : PC Tryd.prog 17 [.sl 1 (ws.map iV), .v (.int .i64 g)] (.v (.int .i64 (ownL (grN g) (PL ws)))) := by
 have hll : ((ws.map iV).length : Int) = (ws.length : Int) := by simp
 have hI := p_Itoa hg
 have hsz := grS_size hg
 have hH := p_rHash (grS g) (by omega)
 change PC _ _ _ (uV (grN g)) at hH
 unfold grS at hH
 have s0 := itoB_size hg
 have hat := grN_lt g
 have e1 := conv_u (grN g) (by omega)
 obtain ⟨R, hR⟩ : ∃ R, R = ownL (grN g) (PL ws) := ⟨_, rfl⟩
 rw [← hR]
 have hR2 : R = (rS (grN g) (PL ws)).2 := hR
 clear hR
 generalize grN g = at' at *
 refine PC.mk (ac_body tab_ok Tryd.func17 rfl (by kernel_rfl) rfl ?_); intro w0 M μ0; simp only [Tryd.ntmps17, List.length_cons, List.length_nil, Nat.reduceAdd, Nat.reduceSub, numb]
 repeat' (first | ((first | apply o_do | apply d_do | apply d_yes rfl rfl rfl); first | exact lsc (hI) | exact lsc (hH) | exact ls_cat rfl rfl (by simp only [ByteArray.size, ByteArray.data_append, Array.size_append, List.size_toArray, List.length_cons, List.length_nil]; omega) rfl | exact ls_convB tab_ok e1 rfl Tryd.underlying46 Tryd.underlying45 rfl | exact lsq) | refine a_seq ?_ | refine a_region ?_ | refine o_nil ?_ | refine a_block ?_ | refine a_ret ?_ | refine a_exit ?_ | refine a_skip ?_ | refine a_draw mixed ?_ | refine d_nil (by kernel_rfl) ?_ | refine o_yes rfl rfl rfl ?_ | refine o_no rfl rfl rfl (by decide) ?_ | refine o_no' rfl rfl rfl ?_ | refine a_condT rfl ?_ | refine a_condF rfl ?_ | refine d_no rfl rfl rfl (by decide) ?_ | refine d_no' rfl rfl rfl ?_ | (refine wq2 (fun hb => ?_) (fun hb => ?_) <;> (simp only [hb]; try simp only [hbs, ne_eq] at hb; try (exfalso; first | omega | exact hb trivial))) | fail)
 refine a_loop (X := {q : Nat // q ≤ ws.length})
  (fun q => ⟨[(0, .sl 1 (ws.map iV)), (1, .v (.int .i64 g)), (5, .v (.int .u64 at')), (6, .v (.int .u64 (rS at' (PL (ws.take q.1))).1)), (7, .v (.int .i64 (rS at' (PL (ws.take q.1))).2)), (17, .sl 1 (ws.map iV)), (18, .v (.int .i64 ws.length)), (19, .v (.int .i64 q.1))], []⟩) (fun q => ws.length - q.1) ⟨0, Nat.zero_le _⟩ ?_ ?_
 ·refine ⟨by repeat' (first | exact trivial | exact FinA.one (FinB.cell (FinC.same rfl)) | exact FinA.one (FinB.cell FinC.nil) | exact FinA.bound rfl | exact FinA.one (FinB.cell (FinC.own rfl rfl rfl rfl)) | exact FinA.one (FinB.cell (FinC.v (by first | rfl | (((try dsimp only); first | rfl | (congr 1 <;> omega) | (simp [PL, rS]; done)))))) | exact FinA.one (FinB.cell (FinC.ow rfl (by first | rfl | (((try dsimp only); first | rfl | (congr 1 <;> omega) | (simp [PL, rS]; done)))))) | exact FinA.one (FinB.agg' rfl rfl) | refine ⟨⟨_, rfl, ?_⟩, ?_⟩), by repeat' (first | exact trivial | refine ⟨⟨_, rfl, by first | rfl | (((try dsimp only); first | rfl | (congr 1 <;> omega) | (simp [PL, rS]; done)); done) | (simp [renO, *]; done)⟩, by first | rfl | assumption, ?_⟩), rfl⟩
 rintro ⟨q, hq⟩
 dsimp only
 by_cases hlt : q < ws.length
 ·have hel : (ws.map iV)[q]? = some (iV (ws.getD q 0)) := by rw [List.getElem?_map, List.getElem?_eq_getElem hlt, List.getD_eq_getElem?_getD, List.getElem?_eq_getElem hlt]; rfl
  have hw99 : ws.getD q 0 < 100 := by
   rw [List.getD_eq_getElem?_getD, List.getElem?_eq_getElem hlt]
   exact hws _ (List.getElem_mem hlt)
  have hpt := PL_take hlt
  have hpl := PL_lt (ws.take q)
  generalize ws.getD q 0 = w at *
  generalize PL (ws.take q) = L1 at *
  have hlt' : (q : Int) < (ws.length : Int) := by omega
  unfold iV at hel
  repeat' (first | ((first | apply o_do | apply d_do | apply d_yes rfl rfl rfl); first | exact ls_indexAddr_sl tab_ok rfl rfl rfl rfl hel rfl | exact lsq) | refine a_seq ?_ | refine a_region ?_ | refine o_nil ?_ | refine a_block ?_ | refine a_ret ?_ | refine a_exit ?_ | refine a_skip ?_ | refine a_draw mixed ?_ | refine d_nil (by kernel_rfl) ?_ | refine o_yes rfl rfl rfl ?_ | refine o_no rfl rfl rfl (by decide) ?_ | refine o_no' rfl rfl rfl ?_ | refine a_condT rfl ?_ | refine a_condF rfl ?_ | refine d_no rfl rfl rfl (by decide) ?_ | refine d_no' rfl rfl rfl ?_ | (refine wq2 (fun hb => ?_) (fun hb => ?_) <;> (simp only [hb]; try simp only [hbs, ne_eq] at hb; try (exfalso; first | omega | exact hb trivial))) | fail)
  refine a_loop (X := {i : Nat // i ≤ 8})
   (fun i => ⟨[(0, .sl 1 (ws.map iV)), (1, .v (.int .i64 g)), (5, .v (.int .u64 at')), (6, .v (.int .u64 (rS at' (L1 ++ ptL w i.1)).1)), (7, .v (.int .i64 (rS at' (L1 ++ ptL w i.1)).2)), (17, .sl 1 (ws.map iV)), (18, .v (.int .i64 ws.length)), (19, .v (.int .i64 q)), (9, .v (.int .i64 w)), (10, .v (.int .i64 i.1))], []⟩) (fun i => 8 - i.1) ⟨0, Nat.zero_le _⟩ ?_ ?_
  ·refine ⟨by repeat' (first | exact trivial | exact FinA.one (FinB.cell (FinC.same rfl)) | exact FinA.one (FinB.cell FinC.nil) | exact FinA.bound rfl | exact FinA.one (FinB.cell (FinC.own rfl rfl rfl rfl)) | exact FinA.one (FinB.cell (FinC.v (by first | rfl | (((try dsimp only); first | rfl | (congr 1 <;> omega) | (simp [ptL]; done)))))) | exact FinA.one (FinB.cell (FinC.ow rfl (by first | rfl | (((try dsimp only); first | rfl | (congr 1 <;> omega) | (simp [ptL]; done)))))) | exact FinA.one (FinB.agg' rfl rfl) | refine ⟨⟨_, rfl, ?_⟩, ?_⟩), by repeat' (first | exact trivial | refine ⟨⟨_, rfl, by first | rfl | (((try dsimp only); first | rfl | (congr 1 <;> omega) | (simp [ptL]; done)); done) | (simp [renO, *]; done)⟩, by first | rfl | assumption, ?_⟩), rfl⟩
  rintro ⟨i, hi⟩
  dsimp only
  by_cases hi8 : i < 8
  ·have hi8' : (i : Int) < 8 := by omega
   have hI1 := p_Itoa hw99
   have hI2 := p_Itoa (n := i) (by omega)
   have hsz2 := ptS_size hw99 (i := i) (by omega)
   have s1 := itoB_size hw99
   have s2 := itoB_size (n := i) (by omega)
   have hH2 := p_rHash (ptS w i) (by omega)
   change PC _ _ _ (uV (ptN w i)) at hH2
   have hk := ptN_lt w i
   have hlr : ∀ x ∈ L1 ++ ptL w i, x.1 < 4294967296 := fun x hx => (List.mem_append.1 hx).elim (hpl x) (ptL_lt w i x)
   have hSl := rS_lt hat _ (0, 0) (by decide) hlr
   change (rS at' (L1 ++ ptL w i)).1 < _ at hSl
   have hstep : rS at' (L1 ++ ptL w (i + 1)) = rstep at' (rS at' (L1 ++ ptL w i)) (ptN w i, (w : Int)) := by rw [ptL_succ, ← List.append_assoc, rS_snoc]
   unfold ptS at hH2
   generalize hS3 : rS at' (L1 ++ ptL w (i + 1)) = S3 at *
   generalize rS at' (L1 ++ ptL w i) = S1 at *
   generalize ptN w i = k at *
   obtain ⟨best, who⟩ := S1
   obtain ⟨b3, w3⟩ := S3
   dsimp only at *
   have e2 := conv_u k (by omega)
   have e3 : IntKind.u64.wrap ((k : Int) + 4294967296) = ((k + 4294967296 : Nat) : Int) := by rw [← conv_u (k + 4294967296) (by omega)]; rfl
   unfold rstep pt at hstep
   dsimp only at hstep
   by_cases hka : k < at'
   ·rw [if_pos hka] at hstep
    have hka' : (k : Int) < (at' : Int) := by omega
    by_cases hc : who = 0 ∨ k + 4294967296 < best
    ·rw [if_pos hc] at hstep
     injection hstep with h1 h2; subst h1; subst h2
     repeat' (first | ((first | apply o_do | apply d_do | apply d_yes rfl rfl rfl); first | exact lsc (hI1) | exact lsc (hI2) | exact lsc (hH2) | exact ls_cat rfl rfl (by simp only [ByteArray.size, ByteArray.data_append, Array.size_append, List.size_toArray, List.length_cons, List.length_nil]; omega) rfl | exact ls_convB tab_ok e2 rfl Tryd.underlying46 Tryd.underlying45 rfl | exact ls_addB e3 rfl rfl rfl | exact lsq) | refine a_seq ?_ | refine a_region ?_ | refine o_nil ?_ | refine a_block ?_ | refine a_ret ?_ | refine a_exit ?_ | refine a_skip ?_ | refine a_draw mixed ?_ | refine d_nil (by kernel_rfl) ?_ | refine o_yes rfl rfl rfl ?_ | refine o_no rfl rfl rfl (by decide) ?_ | refine o_no' rfl rfl rfl ?_ | refine a_condT rfl ?_ | refine a_condF rfl ?_ | refine d_no rfl rfl rfl (by decide) ?_ | refine d_no' rfl rfl rfl ?_ | (refine wq2 (fun hb => ?_) (fun hb => ?_) <;> (simp only [hb]; try simp only [hbs, ne_eq] at hb; try (exfalso; first | omega | exact hb trivial))) | fail)
     all_goals refine ⟨⟨i + 1, by omega⟩, by dsimp only; omega, ?_⟩
     all_goals refine ⟨by repeat' (first | exact trivial | exact FinA.one (FinB.cell (FinC.same rfl)) | exact FinA.one (FinB.cell FinC.nil) | exact FinA.bound rfl | exact FinA.one (FinB.cell (FinC.own rfl rfl rfl rfl)) | exact FinA.one (FinB.cell (FinC.v (by first | rfl | (((try dsimp only); first | rfl | (rw [hS3]; done) | (congr 1 <;> omega)))))) | exact FinA.one (FinB.cell (FinC.ow rfl (by first | rfl | (((try dsimp only); first | rfl | (rw [hS3]; done) | (congr 1 <;> omega)))))) | exact FinA.one (FinB.agg' rfl rfl) | refine ⟨⟨_, rfl, ?_⟩, ?_⟩), by repeat' (first | exact trivial | refine ⟨⟨_, rfl, by first | rfl | (((try dsimp only); first | rfl | (rw [hS3]; done) | (congr 1 <;> omega)); done) | (simp [renO, *]; done)⟩, by first | rfl | assumption, ?_⟩), rfl⟩
    ·rw [if_neg hc] at hstep
     have hc1 : ¬ who = 0 := fun h => hc (.inl h)
     have hc2 : ¬ ((k + 4294967296 : Nat) : Int) < (best : Int) := fun h => hc (.inr (by omega))
     injection hstep with h1 h2; subst h1; subst h2
     repeat' (first | ((first | apply o_do | apply d_do | apply d_yes rfl rfl rfl); first | exact lsc (hI1) | exact lsc (hI2) | exact lsc (hH2) | exact ls_cat rfl rfl (by simp only [ByteArray.size, ByteArray.data_append, Array.size_append, List.size_toArray, List.length_cons, List.length_nil]; omega) rfl | exact ls_convB tab_ok e2 rfl Tryd.underlying46 Tryd.underlying45 rfl | exact ls_addB e3 rfl rfl rfl | exact lsq) | refine a_seq ?_ | refine a_region ?_ | refine o_nil ?_ | refine a_block ?_ | refine a_ret ?_ | refine a_exit ?_ | refine a_skip ?_ | refine a_draw mixed ?_ | refine d_nil (by kernel_rfl) ?_ | refine o_yes rfl rfl rfl ?_ | refine o_no rfl rfl rfl (by decide) ?_ | refine o_no' rfl rfl rfl ?_ | refine a_condT rfl ?_ | refine a_condF rfl ?_ | refine d_no rfl rfl rfl (by decide) ?_ | refine d_no' rfl rfl rfl ?_ | (refine wq2 (fun hb => ?_) (fun hb => ?_) <;> (simp only [hb]; try simp only [hbs, ne_eq] at hb; try (exfalso; first | omega | exact hb trivial))) | fail)
     all_goals refine ⟨⟨i + 1, by omega⟩, by dsimp only; omega, ?_⟩
     all_goals refine ⟨by repeat' (first | exact trivial | exact FinA.one (FinB.cell (FinC.same rfl)) | exact FinA.one (FinB.cell FinC.nil) | exact FinA.bound rfl | exact FinA.one (FinB.cell (FinC.own rfl rfl rfl rfl)) | exact FinA.one (FinB.cell (FinC.v (by first | rfl | (((try dsimp only); first | rfl | (rw [hS3]; done) | (congr 1 <;> omega)))))) | exact FinA.one (FinB.cell (FinC.ow rfl (by first | rfl | (((try dsimp only); first | rfl | (rw [hS3]; done) | (congr 1 <;> omega)))))) | exact FinA.one (FinB.agg' rfl rfl) | refine ⟨⟨_, rfl, ?_⟩, ?_⟩), by repeat' (first | exact trivial | refine ⟨⟨_, rfl, by first | rfl | (((try dsimp only); first | rfl | (rw [hS3]; done) | (congr 1 <;> omega)); done) | (simp [renO, *]; done)⟩, by first | rfl | assumption, ?_⟩), rfl⟩
   ·rw [if_neg hka] at hstep
    have hka' : ¬ (k : Int) < (at' : Int) := by omega
    by_cases hc : who = 0 ∨ k < best
    ·rw [if_pos hc] at hstep
     injection hstep with h1 h2; subst h1; subst h2
     repeat' (first | ((first | apply o_do | apply d_do | apply d_yes rfl rfl rfl); first | exact lsc (hI1) | exact lsc (hI2) | exact lsc (hH2) | exact ls_cat rfl rfl (by simp only [ByteArray.size, ByteArray.data_append, Array.size_append, List.size_toArray, List.length_cons, List.length_nil]; omega) rfl | exact ls_convB tab_ok e2 rfl Tryd.underlying46 Tryd.underlying45 rfl | exact ls_addB e3 rfl rfl rfl | exact lsq) | refine a_seq ?_ | refine a_region ?_ | refine o_nil ?_ | refine a_block ?_ | refine a_ret ?_ | refine a_exit ?_ | refine a_skip ?_ | refine a_draw mixed ?_ | refine d_nil (by kernel_rfl) ?_ | refine o_yes rfl rfl rfl ?_ | refine o_no rfl rfl rfl (by decide) ?_ | refine o_no' rfl rfl rfl ?_ | refine a_condT rfl ?_ | refine a_condF rfl ?_ | refine d_no rfl rfl rfl (by decide) ?_ | refine d_no' rfl rfl rfl ?_ | (refine wq2 (fun hb => ?_) (fun hb => ?_) <;> (simp only [hb]; try simp only [hbs, ne_eq] at hb; try (exfalso; first | omega | exact hb trivial))) | fail)
     all_goals refine ⟨⟨i + 1, by omega⟩, by dsimp only; omega, ?_⟩
     all_goals refine ⟨by repeat' (first | exact trivial | exact FinA.one (FinB.cell (FinC.same rfl)) | exact FinA.one (FinB.cell FinC.nil) | exact FinA.bound rfl | exact FinA.one (FinB.cell (FinC.own rfl rfl rfl rfl)) | exact FinA.one (FinB.cell (FinC.v (by first | rfl | (((try dsimp only); first | rfl | (rw [hS3]; done) | (congr 1 <;> omega)))))) | exact FinA.one (FinB.cell (FinC.ow rfl (by first | rfl | (((try dsimp only); first | rfl | (rw [hS3]; done) | (congr 1 <;> omega)))))) | exact FinA.one (FinB.agg' rfl rfl) | refine ⟨⟨_, rfl, ?_⟩, ?_⟩), by repeat' (first | exact trivial | refine ⟨⟨_, rfl, by first | rfl | (((try dsimp only); first | rfl | (rw [hS3]; done) | (congr 1 <;> omega)); done) | (simp [renO, *]; done)⟩, by first | rfl | assumption, ?_⟩), rfl⟩
    ·rw [if_neg hc] at hstep
     have hc1 : ¬ who = 0 := fun h => hc (.inl h)
     have hc2 : ¬ ((k : Nat) : Int) < (best : Int) := fun h => hc (.inr (by omega))
     injection hstep with h1 h2; subst h1; subst h2
     repeat' (first | ((first | apply o_do | apply d_do | apply d_yes rfl rfl rfl); first | exact lsc (hI1) | exact lsc (hI2) | exact lsc (hH2) | exact ls_cat rfl rfl (by simp only [ByteArray.size, ByteArray.data_append, Array.size_append, List.size_toArray, List.length_cons, List.length_nil]; omega) rfl | exact ls_convB tab_ok e2 rfl Tryd.underlying46 Tryd.underlying45 rfl | exact ls_addB e3 rfl rfl rfl | exact lsq) | refine a_seq ?_ | refine a_region ?_ | refine o_nil ?_ | refine a_block ?_ | refine a_ret ?_ | refine a_exit ?_ | refine a_skip ?_ | refine a_draw mixed ?_ | refine d_nil (by kernel_rfl) ?_ | refine o_yes rfl rfl rfl ?_ | refine o_no rfl rfl rfl (by decide) ?_ | refine o_no' rfl rfl rfl ?_ | refine a_condT rfl ?_ | refine a_condF rfl ?_ | refine d_no rfl rfl rfl (by decide) ?_ | refine d_no' rfl rfl rfl ?_ | (refine wq2 (fun hb => ?_) (fun hb => ?_) <;> (simp only [hb]; try simp only [hbs, ne_eq] at hb; try (exfalso; first | omega | exact hb trivial))) | fail)
     all_goals refine ⟨⟨i + 1, by omega⟩, by dsimp only; omega, ?_⟩
     all_goals refine ⟨by repeat' (first | exact trivial | exact FinA.one (FinB.cell (FinC.same rfl)) | exact FinA.one (FinB.cell FinC.nil) | exact FinA.bound rfl | exact FinA.one (FinB.cell (FinC.own rfl rfl rfl rfl)) | exact FinA.one (FinB.cell (FinC.v (by first | rfl | (((try dsimp only); first | rfl | (rw [hS3]; done) | (congr 1 <;> omega)))))) | exact FinA.one (FinB.cell (FinC.ow rfl (by first | rfl | (((try dsimp only); first | rfl | (rw [hS3]; done) | (congr 1 <;> omega)))))) | exact FinA.one (FinB.agg' rfl rfl) | refine ⟨⟨_, rfl, ?_⟩, ?_⟩), by repeat' (first | exact trivial | refine ⟨⟨_, rfl, by first | rfl | (((try dsimp only); first | rfl | (rw [hS3]; done) | (congr 1 <;> omega)); done) | (simp [renO, *]; done)⟩, by first | rfl | assumption, ?_⟩), rfl⟩
  ·obtain rfl : i = 8 := by omega
   repeat' (first | ((first | apply o_do | apply d_do | apply d_yes rfl rfl rfl); exact lsq) | refine a_seq ?_ | refine a_region ?_ | refine o_nil ?_ | refine a_block ?_ | refine a_ret ?_ | refine a_exit ?_ | refine a_skip ?_ | refine a_draw mixed ?_ | refine d_nil (by kernel_rfl) ?_ | refine o_yes rfl rfl rfl ?_ | refine o_no rfl rfl rfl (by decide) ?_ | refine o_no' rfl rfl rfl ?_ | refine a_condT rfl ?_ | refine a_condF rfl ?_ | refine d_no rfl rfl rfl (by decide) ?_ | refine d_no' rfl rfl rfl ?_ | (refine wq2 (fun hb => ?_) (fun hb => ?_) <;> (simp only [hb]; try simp only [hbs, ne_eq] at hb; try (exfalso; first | omega | exact hb trivial))) | fail)
   refine ⟨⟨q + 1, hlt⟩, by dsimp only; omega, ?_⟩
   refine ⟨by repeat' (first | exact trivial | exact FinA.one (FinB.cell (FinC.same rfl)) | exact FinA.one (FinB.cell FinC.nil) | exact FinA.bound rfl | exact FinA.one (FinB.cell (FinC.own rfl rfl rfl rfl)) | exact FinA.one (FinB.cell (FinC.v (by first | rfl | (((try dsimp only); first | rfl | (rw [hpt]; done) | (congr 1 <;> omega)))))) | exact FinA.one (FinB.cell (FinC.ow rfl (by first | rfl | (((try dsimp only); first | rfl | (rw [hpt]; done) | (congr 1 <;> omega)))))) | exact FinA.one (FinB.agg' rfl rfl) | refine ⟨⟨_, rfl, ?_⟩, ?_⟩), by repeat' (first | exact trivial | refine ⟨⟨_, rfl, by first | rfl | (((try dsimp only); first | rfl | (rw [hpt]; done) | (congr 1 <;> omega)); done) | (simp [renO, *]; done)⟩, by first | rfl | assumption, ?_⟩), rfl⟩
 ·obtain rfl : q = ws.length := by omega
  rw [List.take_length]
  rw [hR2]
  generalize rS at' (PL ws) = S at *
  repeat' (first | ((first | apply o_do | apply d_do | apply d_yes rfl rfl rfl); exact lsq) | refine a_seq ?_ | refine a_region ?_ | refine o_nil ?_ | refine a_block ?_ | refine a_ret ?_ | refine a_exit ?_ | refine a_skip ?_ | refine a_draw mixed ?_ | refine d_nil (by kernel_rfl) ?_ | refine o_yes rfl rfl rfl ?_ | refine o_no rfl rfl rfl (by decide) ?_ | refine o_no' rfl rfl rfl ?_ | refine a_condT rfl ?_ | refine a_condF rfl ?_ | refine d_no rfl rfl rfl (by decide) ?_ | refine d_no' rfl rfl rfl ?_ | (refine wq2 (fun hb => ?_) (fun hb => ?_) <;> (simp only [hb]; try simp only [hbs, ne_eq] at hb; try (exfalso; first | omega | exact hb trivial))) | fail)
  refine rq rfl ?_
  exact fnq
def iI (x : Int) : List AV := [.v (.int .i64 x)]
theorem iI_at {xs : List Int} {i : Nat} (h : i < xs.length) : (xs.map iI)[i]? = some (iI (xs.getD i 0)) := by
 rw [List.getElem?_map, List.getElem?_eq_getElem h, List.getD_eq_getElem?_getD, List.getElem?_eq_getElem h]; rfl
theorem p_Right (xs : List Int) (hl : xs.length ≤ 1000) : PC Tryd.prog 9 [.sl 1 (xs.map iI)] (.v (.bool (rightW xs))) := by
 have hll : ((xs.map iI).length : Int) = (xs.length : Int) := by simp
 obtain ⟨R, hR⟩ : ∃ R, R = rightW xs := ⟨_, rfl⟩
 rw [← hR]
 by_cases h0 : xs.length < 1 ∨ 8 < xs.length
 ·have hf : R = false := by
   rw [hR]; unfold rightW
   rcases h0 with h | h
   ·rw [decide_eq_false (show ¬ 1 ≤ xs.length by omega)]; rfl
   ·rw [decide_eq_false (show ¬ xs.length ≤ 8 by omega), Bool.and_false]; rfl
  rw [hf]
  clear hf hR
  rcases h0 with h | h
  all_goals
   refine PC.mk (ac_body tab_ok Tryd.func9 rfl (by kernel_rfl) rfl ?_); intro w0 M μ0; simp only [Tryd.ntmps9, List.length_cons, List.length_nil, Nat.reduceAdd, Nat.reduceSub, numb]
   repeat' (first | ((first | apply o_do | apply d_do | apply d_yes rfl rfl rfl); exact lsq) | refine a_seq ?_ | refine a_region ?_ | refine o_nil ?_ | refine a_block ?_ | refine a_ret ?_ | refine a_exit ?_ | refine a_skip ?_ | refine a_draw mixed ?_ | refine d_nil (by kernel_rfl) ?_ | refine o_yes rfl rfl rfl ?_ | refine o_no rfl rfl rfl (by decide) ?_ | refine o_no' rfl rfl rfl ?_ | refine a_condT rfl ?_ | refine a_condF rfl ?_ | refine d_no rfl rfl rfl (by decide) ?_ | refine d_no' rfl rfl rfl ?_ | (refine wq2 (fun hb => ?_) (fun hb => ?_) <;> (simp only [hb]; try simp only [hbs, ne_eq] at hb; try (exfalso; first | omega | exact hb trivial))) | fail)
   all_goals refine rq rfl ?_
   all_goals exact fnq
 have hR2 : okTo xs xs.length = true → R = true := fun h => by
  rw [hR]; unfold rightW
  rw [h, decide_eq_true (show 1 ≤ xs.length by omega), decide_eq_true (show xs.length ≤ 8 by omega)]; rfl
 refine PC.mk (ac_body tab_ok Tryd.func9 rfl (by kernel_rfl) rfl ?_); intro w0 M μ0; simp only [Tryd.ntmps9, List.length_cons, List.length_nil, Nat.reduceAdd, Nat.reduceSub, numb]
 repeat' (first | ((first | apply o_do | apply d_do | apply d_yes rfl rfl rfl); exact lsq) | refine a_seq ?_ | refine a_region ?_ | refine o_nil ?_ | refine a_block ?_ | refine a_ret ?_ | refine a_exit ?_ | refine a_skip ?_ | refine a_draw mixed ?_ | refine d_nil (by kernel_rfl) ?_ | refine o_yes rfl rfl rfl ?_ | refine o_no rfl rfl rfl (by decide) ?_ | refine o_no' rfl rfl rfl ?_ | refine a_condT rfl ?_ | refine a_condF rfl ?_ | refine d_no rfl rfl rfl (by decide) ?_ | refine d_no' rfl rfl rfl ?_ | (refine wq2 (fun hb => ?_) (fun hb => ?_) <;> (simp only [hb]; try simp only [hbs, ne_eq] at hb; try (exfalso; first | omega | exact hb trivial))) | fail)
 refine a_loop (X := {q : Nat // q ≤ xs.length ∧ okTo xs q = true})
  (fun q => ⟨[(0, .sl 1 (xs.map iI)), (13, .sl 1 (xs.map iI)), (14, .v (.int .i64 xs.length)), (15, .v (.int .i64 q.1))], []⟩) (fun q => xs.length - q.1) ⟨0, Nat.zero_le _, rfl⟩ ?_ ?_
 ·refine ⟨by repeat' (first | exact trivial | exact FinA.one (FinB.cell (FinC.same rfl)) | exact FinA.one (FinB.cell FinC.nil) | exact FinA.bound rfl | exact FinA.one (FinB.cell (FinC.own rfl rfl rfl rfl)) | exact FinA.one (FinB.cell (FinC.v (by first | rfl | (((try dsimp only); first | rfl | (congr 1 <;> omega)))))) | exact FinA.one (FinB.cell (FinC.ow rfl (by first | rfl | (((try dsimp only); first | rfl | (congr 1 <;> omega)))))) | exact FinA.one (FinB.agg' rfl rfl) | refine ⟨⟨_, rfl, ?_⟩, ?_⟩), by repeat' (first | exact trivial | refine ⟨⟨_, rfl, by first | rfl | (((try dsimp only); first | rfl | (congr 1 <;> omega)); done) | (simp [renO, *]; done)⟩, by first | rfl | assumption, ?_⟩), rfl⟩
 rintro ⟨q, hq, hok⟩
 dsimp only
 by_cases hlt : q < xs.length
 ·have hel := iI_at hlt
  have hpr := iI_at (xs := xs) (i := q - 1) (by omega)
  have hsu : okTo xs (q + 1) = (okTo xs q && (decide (1 ≤ xs.getD q 0) && decide (xs.getD q 0 ≤ 99) && (decide (q = 0) || decide (xs.getD (q - 1) 0 < xs.getD q 0)))) := rfl
  have hbad : okTo xs (q + 1) = false → R = false := fun h => by
   rw [hR]; unfold rightW
   rw [okTo_false xs (show q + 1 ≤ xs.length by omega) h, Bool.and_false]
  have hlt' : (q : Int) < (xs.length : Int) := by omega
  have hq0' : ¬ q = 0 → (q : Int) > 0 := fun h => by omega
  have kk : ¬ q = 0 → (q : Int) - 1 = ((q - 1 : Nat) : Int) := fun h => by omega
  rw [hok, Bool.true_and] at hsu
  generalize xs.getD q 0 = x at *
  generalize xs.getD (q - 1) 0 = y at *
  by_cases c1 : x < 1
  ·have hf : R = false := hbad (by rw [hsu, decide_eq_false (show ¬ 1 ≤ x by omega)]; rfl)
   rw [hf]
   clear hf hbad hR hsu hok
   repeat' (first | ((first | apply o_do | apply d_do | apply d_yes rfl rfl rfl); first | exact ls_indexAddr_sl tab_ok rfl rfl rfl rfl hel rfl | exact lsq) | refine a_seq ?_ | refine a_region ?_ | refine o_nil ?_ | refine a_block ?_ | refine a_ret ?_ | refine a_exit ?_ | refine a_skip ?_ | refine a_draw mixed ?_ | refine d_nil (by kernel_rfl) ?_ | refine o_yes rfl rfl rfl ?_ | refine o_no rfl rfl rfl (by decide) ?_ | refine o_no' rfl rfl rfl ?_ | refine a_condT rfl ?_ | refine a_condF rfl ?_ | refine d_no rfl rfl rfl (by decide) ?_ | refine d_no' rfl rfl rfl ?_ | (refine wq2 (fun hb => ?_) (fun hb => ?_) <;> (simp only [hb]; try simp only [hbs, ne_eq] at hb; try (exfalso; first | omega | exact hb trivial))) | fail)
   all_goals refine rq rfl ?_
   all_goals exact fnq
  by_cases c2 : 99 < x
  ·have hf : R = false := hbad (by rw [hsu, decide_eq_false (show ¬ x ≤ 99 by omega), Bool.and_false]; rfl)
   rw [hf]
   clear hf hbad hR hsu hok
   repeat' (first | ((first | apply o_do | apply d_do | apply d_yes rfl rfl rfl); first | exact ls_indexAddr_sl tab_ok rfl rfl rfl rfl hel rfl | exact lsq) | refine a_seq ?_ | refine a_region ?_ | refine o_nil ?_ | refine a_block ?_ | refine a_ret ?_ | refine a_exit ?_ | refine a_skip ?_ | refine a_draw mixed ?_ | refine d_nil (by kernel_rfl) ?_ | refine o_yes rfl rfl rfl ?_ | refine o_no rfl rfl rfl (by decide) ?_ | refine o_no' rfl rfl rfl ?_ | refine a_condT rfl ?_ | refine a_condF rfl ?_ | refine d_no rfl rfl rfl (by decide) ?_ | refine d_no' rfl rfl rfl ?_ | (refine wq2 (fun hb => ?_) (fun hb => ?_) <;> (simp only [hb]; try simp only [hbs, ne_eq] at hb; try (exfalso; first | omega | exact hb trivial))) | fail)
   all_goals refine rq rfl ?_
   all_goals exact fnq
  have hs2 : (decide (1 ≤ x) && decide (x ≤ 99)) = true := by rw [decide_eq_true (show 1 ≤ x by omega), decide_eq_true (show x ≤ 99 by omega)]; rfl
  rw [hs2, Bool.true_and] at hsu
  by_cases c3 : q = 0
  ·have hn : okTo xs (q + 1) = true := by rw [hsu, decide_eq_true c3]; rfl
   have hq0 : ¬ (q : Int) > 0 := by omega
   clear hbad hR hsu hok
   repeat' (first | ((first | apply o_do | apply d_do | apply d_yes rfl rfl rfl); first | exact ls_indexAddr_sl tab_ok rfl rfl rfl rfl hel rfl | exact lsq) | refine a_seq ?_ | refine a_region ?_ | refine o_nil ?_ | refine a_block ?_ | refine a_ret ?_ | refine a_exit ?_ | refine a_skip ?_ | refine a_draw mixed ?_ | refine d_nil (by kernel_rfl) ?_ | refine o_yes rfl rfl rfl ?_ | refine o_no rfl rfl rfl (by decide) ?_ | refine o_no' rfl rfl rfl ?_ | refine a_condT rfl ?_ | refine a_condF rfl ?_ | refine d_no rfl rfl rfl (by decide) ?_ | refine d_no' rfl rfl rfl ?_ | (refine wq2 (fun hb => ?_) (fun hb => ?_) <;> (simp only [hb]; try simp only [hbs, ne_eq] at hb; try (exfalso; first | omega | exact hb trivial))) | fail)
   refine ⟨⟨q + 1, by omega, hn⟩, by dsimp only; omega, ?_⟩
   refine ⟨by repeat' (first | exact trivial | exact FinA.one (FinB.cell (FinC.same rfl)) | exact FinA.one (FinB.cell FinC.nil) | exact FinA.bound rfl | exact FinA.one (FinB.cell (FinC.own rfl rfl rfl rfl)) | exact FinA.one (FinB.cell (FinC.v (by first | rfl | (((try dsimp only); first | rfl | (congr 1 <;> omega)))))) | exact FinA.one (FinB.cell (FinC.ow rfl (by first | rfl | (((try dsimp only); first | rfl | (congr 1 <;> omega)))))) | exact FinA.one (FinB.agg' rfl rfl) | refine ⟨⟨_, rfl, ?_⟩, ?_⟩), by repeat' (first | exact trivial | refine ⟨⟨_, rfl, by first | rfl | (((try dsimp only); first | rfl | (congr 1 <;> omega)); done) | (simp [renO, *]; done)⟩, by first | rfl | assumption, ?_⟩), rfl⟩
  have h3 := hq0' c3
  have h4 := kk c3
  rw [decide_eq_false c3, Bool.false_or] at hsu
  by_cases c4 : y < x
  ·have hn : okTo xs (q + 1) = true := by rw [hsu, decide_eq_true c4]
   clear hbad hR hsu hok
   repeat' (first | ((first | apply o_do | apply d_do | apply d_yes rfl rfl rfl); first | exact ls_indexAddr_sl tab_ok rfl rfl rfl rfl hel rfl | exact ls_indexAddr_sl tab_ok rfl rfl rfl h4 hpr rfl | exact lsq) | refine a_seq ?_ | refine a_region ?_ | refine o_nil ?_ | refine a_block ?_ | refine a_ret ?_ | refine a_exit ?_ | refine a_skip ?_ | refine a_draw mixed ?_ | refine d_nil (by kernel_rfl) ?_ | refine o_yes rfl rfl rfl ?_ | refine o_no rfl rfl rfl (by decide) ?_ | refine o_no' rfl rfl rfl ?_ | refine a_condT rfl ?_ | refine a_condF rfl ?_ | refine d_no rfl rfl rfl (by decide) ?_ | refine d_no' rfl rfl rfl ?_ | (refine wq2 (fun hb => ?_) (fun hb => ?_) <;> (simp only [hb]; try simp only [hbs, ne_eq] at hb; try (exfalso; first | omega | exact hb trivial))) | fail)
   refine ⟨⟨q + 1, by omega, hn⟩, by dsimp only; omega, ?_⟩
   refine ⟨by repeat' (first | exact trivial | exact FinA.one (FinB.cell (FinC.same rfl)) | exact FinA.one (FinB.cell FinC.nil) | exact FinA.bound rfl | exact FinA.one (FinB.cell (FinC.own rfl rfl rfl rfl)) | exact FinA.one (FinB.cell (FinC.v (by first | rfl | (((try dsimp only); first | rfl | (congr 1 <;> omega)))))) | exact FinA.one (FinB.cell (FinC.ow rfl (by first | rfl | (((try dsimp only); first | rfl | (congr 1 <;> omega)))))) | exact FinA.one (FinB.agg' rfl rfl) | refine ⟨⟨_, rfl, ?_⟩, ?_⟩), by repeat' (first | exact trivial | refine ⟨⟨_, rfl, by first | rfl | (((try dsimp only); first | rfl | (congr 1 <;> omega)); done) | (simp [renO, *]; done)⟩, by first | rfl | assumption, ?_⟩), rfl⟩
  ·have hf : R = false := hbad (by rw [hsu, decide_eq_false c4])
   rw [hf]
   clear hf hbad hR hsu hok
   repeat' (first | ((first | apply o_do | apply d_do | apply d_yes rfl rfl rfl); first | exact ls_indexAddr_sl tab_ok rfl rfl rfl rfl hel rfl | exact ls_indexAddr_sl tab_ok rfl rfl rfl h4 hpr rfl | exact lsq) | refine a_seq ?_ | refine a_region ?_ | refine o_nil ?_ | refine a_block ?_ | refine a_ret ?_ | refine a_exit ?_ | refine a_skip ?_ | refine a_draw mixed ?_ | refine d_nil (by kernel_rfl) ?_ | refine o_yes rfl rfl rfl ?_ | refine o_no rfl rfl rfl (by decide) ?_ | refine o_no' rfl rfl rfl ?_ | refine a_condT rfl ?_ | refine a_condF rfl ?_ | refine d_no rfl rfl rfl (by decide) ?_ | refine d_no' rfl rfl rfl ?_ | (refine wq2 (fun hb => ?_) (fun hb => ?_) <;> (simp only [hb]; try simp only [hbs, ne_eq] at hb; try (exfalso; first | omega | exact hb trivial))) | fail)
   all_goals refine rq rfl ?_
   all_goals exact fnq
 ·obtain rfl : q = xs.length := by omega
  rw [hR2 hok]
  clear hR hR2
  repeat' (first | ((first | apply o_do | apply d_do | apply d_yes rfl rfl rfl); exact lsq) | refine a_seq ?_ | refine a_region ?_ | refine o_nil ?_ | refine a_block ?_ | refine a_ret ?_ | refine a_exit ?_ | refine a_skip ?_ | refine a_draw mixed ?_ | refine d_nil (by kernel_rfl) ?_ | refine o_yes rfl rfl rfl ?_ | refine o_no rfl rfl rfl (by decide) ?_ | refine o_no' rfl rfl rfl ?_ | refine a_condT rfl ?_ | refine a_condF rfl ?_ | refine d_no rfl rfl rfl (by decide) ?_ | refine d_no' rfl rfl rfl ?_ | (refine wq2 (fun hb => ?_) (fun hb => ?_) <;> (simp only [hb]; try simp only [hbs, ne_eq] at hb; try (exfalso; first | omega | exact hb trivial))) | fail)
  refine rq rfl ?_
  exact fnq
theorem p_rRight (xs : List Int) (hl : xs.length ≤ 1000) : PC Tryd.prog 10 [.sl 1 (xs.map iI)] (.v (.bool (rightW xs))) := by
 have hll : ((xs.map iI).length : Int) = (xs.length : Int) := by simp
 obtain ⟨R, hR⟩ : ∃ R, R = rightW xs := ⟨_, rfl⟩
 rw [← hR]
 have hR2 : okTo xs xs.length = true → R = (decide (1 ≤ xs.length) && decide (xs.length ≤ 8)) := fun h => by
  rw [hR]; unfold rightW
  rw [h, Bool.and_true]
 refine PC.mk (ac_body tab_ok Tryd.func10 rfl (by kernel_rfl) rfl ?_); intro w0 M μ0; simp only [Tryd.ntmps10, List.length_cons, List.length_nil, Nat.reduceAdd, Nat.reduceSub, numb]
 repeat' (first | ((first | apply o_do | apply d_do | apply d_yes rfl rfl rfl); exact lsq) | refine a_seq ?_ | refine a_region ?_ | refine o_nil ?_ | refine a_block ?_ | refine a_ret ?_ | refine a_exit ?_ | refine a_skip ?_ | refine a_draw mixed ?_ | refine d_nil (by kernel_rfl) ?_ | refine o_yes rfl rfl rfl ?_ | refine o_no rfl rfl rfl (by decide) ?_ | refine o_no' rfl rfl rfl ?_ | refine a_condT rfl ?_ | refine a_condF rfl ?_ | refine d_no rfl rfl rfl (by decide) ?_ | refine d_no' rfl rfl rfl ?_ | (refine wq2 (fun hb => ?_) (fun hb => ?_) <;> (simp only [hb]; try simp only [hbs, ne_eq] at hb; try (exfalso; first | omega | exact hb trivial))) | fail)
 refine a_loop (X := {q : Nat // q ≤ xs.length ∧ okTo xs q = true})
  (fun q => ⟨[(0, .sl 1 (xs.map iI)), (5, .sl 1 (xs.map iI)), (6, .v (.int .i64 xs.length)), (7, .v (.int .i64 q.1))], []⟩) (fun q => xs.length - q.1) ⟨0, Nat.zero_le _, rfl⟩ ?_ ?_
 ·refine ⟨by repeat' (first | exact trivial | exact FinA.one (FinB.cell (FinC.same rfl)) | exact FinA.one (FinB.cell FinC.nil) | exact FinA.bound rfl | exact FinA.one (FinB.cell (FinC.own rfl rfl rfl rfl)) | exact FinA.one (FinB.cell (FinC.v (by first | rfl | (((try dsimp only); first | rfl | (congr 1 <;> omega)))))) | exact FinA.one (FinB.cell (FinC.ow rfl (by first | rfl | (((try dsimp only); first | rfl | (congr 1 <;> omega)))))) | exact FinA.one (FinB.agg' rfl rfl) | refine ⟨⟨_, rfl, ?_⟩, ?_⟩), by repeat' (first | exact trivial | refine ⟨⟨_, rfl, by first | rfl | (((try dsimp only); first | rfl | (congr 1 <;> omega)); done) | (simp [renO, *]; done)⟩, by first | rfl | assumption, ?_⟩), rfl⟩
 rintro ⟨q, hq, hok⟩
 dsimp only
 by_cases hlt : q < xs.length
 ·have hel := iI_at hlt
  have hpr := iI_at (xs := xs) (i := q - 1) (by omega)
  have hsu : okTo xs (q + 1) = (okTo xs q && (decide (1 ≤ xs.getD q 0) && decide (xs.getD q 0 ≤ 99) && (decide (q = 0) || decide (xs.getD (q - 1) 0 < xs.getD q 0)))) := rfl
  have hbad : okTo xs (q + 1) = false → R = false := fun h => by
   rw [hR]; unfold rightW
   rw [okTo_false xs (show q + 1 ≤ xs.length by omega) h, Bool.and_false]
  have hlt' : (q : Int) < (xs.length : Int) := by omega
  have hq0' : ¬ q = 0 → (q : Int) > 0 := fun h => by omega
  have kk : ¬ q = 0 → (q : Int) - 1 = ((q - 1 : Nat) : Int) := fun h => by omega
  rw [hok, Bool.true_and] at hsu
  generalize xs.getD q 0 = x at *
  generalize xs.getD (q - 1) 0 = y at *
  by_cases c1 : x < 1
  ·have hf : R = false := hbad (by rw [hsu, decide_eq_false (show ¬ 1 ≤ x by omega)]; rfl)
   rw [hf]
   clear hf hbad hR hsu hok
   repeat' (first | ((first | apply o_do | apply d_do | apply d_yes rfl rfl rfl); first | exact ls_indexAddr_sl tab_ok rfl rfl rfl rfl hel rfl | exact lsq) | refine a_seq ?_ | refine a_region ?_ | refine o_nil ?_ | refine a_block ?_ | refine a_ret ?_ | refine a_exit ?_ | refine a_skip ?_ | refine a_draw mixed ?_ | refine d_nil (by kernel_rfl) ?_ | refine o_yes rfl rfl rfl ?_ | refine o_no rfl rfl rfl (by decide) ?_ | refine o_no' rfl rfl rfl ?_ | refine a_condT rfl ?_ | refine a_condF rfl ?_ | refine d_no rfl rfl rfl (by decide) ?_ | refine d_no' rfl rfl rfl ?_ | (refine wq2 (fun hb => ?_) (fun hb => ?_) <;> (simp only [hb]; try simp only [hbs, ne_eq] at hb; try (exfalso; first | omega | exact hb trivial))) | fail)
   all_goals refine rq rfl ?_
   all_goals exact fnq
  by_cases c2 : 99 < x
  ·have hf : R = false := hbad (by rw [hsu, decide_eq_false (show ¬ x ≤ 99 by omega), Bool.and_false]; rfl)
   rw [hf]
   clear hf hbad hR hsu hok
   repeat' (first | ((first | apply o_do | apply d_do | apply d_yes rfl rfl rfl); first | exact ls_indexAddr_sl tab_ok rfl rfl rfl rfl hel rfl | exact lsq) | refine a_seq ?_ | refine a_region ?_ | refine o_nil ?_ | refine a_block ?_ | refine a_ret ?_ | refine a_exit ?_ | refine a_skip ?_ | refine a_draw mixed ?_ | refine d_nil (by kernel_rfl) ?_ | refine o_yes rfl rfl rfl ?_ | refine o_no rfl rfl rfl (by decide) ?_ | refine o_no' rfl rfl rfl ?_ | refine a_condT rfl ?_ | refine a_condF rfl ?_ | refine d_no rfl rfl rfl (by decide) ?_ | refine d_no' rfl rfl rfl ?_ | (refine wq2 (fun hb => ?_) (fun hb => ?_) <;> (simp only [hb]; try simp only [hbs, ne_eq] at hb; try (exfalso; first | omega | exact hb trivial))) | fail)
   all_goals refine rq rfl ?_
   all_goals exact fnq
  have hs2 : (decide (1 ≤ x) && decide (x ≤ 99)) = true := by rw [decide_eq_true (show 1 ≤ x by omega), decide_eq_true (show x ≤ 99 by omega)]; rfl
  rw [hs2, Bool.true_and] at hsu
  by_cases c3 : q = 0
  ·have hn : okTo xs (q + 1) = true := by rw [hsu, decide_eq_true c3]; rfl
   have hq0 : ¬ (q : Int) > 0 := by omega
   clear hbad hR hsu hok
   repeat' (first | ((first | apply o_do | apply d_do | apply d_yes rfl rfl rfl); first | exact ls_indexAddr_sl tab_ok rfl rfl rfl rfl hel rfl | exact lsq) | refine a_seq ?_ | refine a_region ?_ | refine o_nil ?_ | refine a_block ?_ | refine a_ret ?_ | refine a_exit ?_ | refine a_skip ?_ | refine a_draw mixed ?_ | refine d_nil (by kernel_rfl) ?_ | refine o_yes rfl rfl rfl ?_ | refine o_no rfl rfl rfl (by decide) ?_ | refine o_no' rfl rfl rfl ?_ | refine a_condT rfl ?_ | refine a_condF rfl ?_ | refine d_no rfl rfl rfl (by decide) ?_ | refine d_no' rfl rfl rfl ?_ | (refine wq2 (fun hb => ?_) (fun hb => ?_) <;> (simp only [hb]; try simp only [hbs, ne_eq] at hb; try (exfalso; first | omega | exact hb trivial))) | fail)
   refine ⟨⟨q + 1, by omega, hn⟩, by dsimp only; omega, ?_⟩
   refine ⟨by repeat' (first | exact trivial | exact FinA.one (FinB.cell (FinC.same rfl)) | exact FinA.one (FinB.cell FinC.nil) | exact FinA.bound rfl | exact FinA.one (FinB.cell (FinC.own rfl rfl rfl rfl)) | exact FinA.one (FinB.cell (FinC.v (by first | rfl | (((try dsimp only); first | rfl | (congr 1 <;> omega)))))) | exact FinA.one (FinB.cell (FinC.ow rfl (by first | rfl | (((try dsimp only); first | rfl | (congr 1 <;> omega)))))) | exact FinA.one (FinB.agg' rfl rfl) | refine ⟨⟨_, rfl, ?_⟩, ?_⟩), by repeat' (first | exact trivial | refine ⟨⟨_, rfl, by first | rfl | (((try dsimp only); first | rfl | (congr 1 <;> omega)); done) | (simp [renO, *]; done)⟩, by first | rfl | assumption, ?_⟩), rfl⟩
  have h3 := hq0' c3
  have h4 := kk c3
  rw [decide_eq_false c3, Bool.false_or] at hsu
  by_cases c4 : y < x
  ·have hn : okTo xs (q + 1) = true := by rw [hsu, decide_eq_true c4]
   clear hbad hR hsu hok
   repeat' (first | ((first | apply o_do | apply d_do | apply d_yes rfl rfl rfl); first | exact ls_indexAddr_sl tab_ok rfl rfl rfl rfl hel rfl | exact ls_indexAddr_sl tab_ok rfl rfl rfl h4 hpr rfl | exact lsq) | refine a_seq ?_ | refine a_region ?_ | refine o_nil ?_ | refine a_block ?_ | refine a_ret ?_ | refine a_exit ?_ | refine a_skip ?_ | refine a_draw mixed ?_ | refine d_nil (by kernel_rfl) ?_ | refine o_yes rfl rfl rfl ?_ | refine o_no rfl rfl rfl (by decide) ?_ | refine o_no' rfl rfl rfl ?_ | refine a_condT rfl ?_ | refine a_condF rfl ?_ | refine d_no rfl rfl rfl (by decide) ?_ | refine d_no' rfl rfl rfl ?_ | (refine wq2 (fun hb => ?_) (fun hb => ?_) <;> (simp only [hb]; try simp only [hbs, ne_eq] at hb; try (exfalso; first | omega | exact hb trivial))) | fail)
   refine ⟨⟨q + 1, by omega, hn⟩, by dsimp only; omega, ?_⟩
   refine ⟨by repeat' (first | exact trivial | exact FinA.one (FinB.cell (FinC.same rfl)) | exact FinA.one (FinB.cell FinC.nil) | exact FinA.bound rfl | exact FinA.one (FinB.cell (FinC.own rfl rfl rfl rfl)) | exact FinA.one (FinB.cell (FinC.v (by first | rfl | (((try dsimp only); first | rfl | (congr 1 <;> omega)))))) | exact FinA.one (FinB.cell (FinC.ow rfl (by first | rfl | (((try dsimp only); first | rfl | (congr 1 <;> omega)))))) | exact FinA.one (FinB.agg' rfl rfl) | refine ⟨⟨_, rfl, ?_⟩, ?_⟩), by repeat' (first | exact trivial | refine ⟨⟨_, rfl, by first | rfl | (((try dsimp only); first | rfl | (congr 1 <;> omega)); done) | (simp [renO, *]; done)⟩, by first | rfl | assumption, ?_⟩), rfl⟩
  ·have hf : R = false := hbad (by rw [hsu, decide_eq_false c4])
   rw [hf]
   clear hf hbad hR hsu hok
   repeat' (first | ((first | apply o_do | apply d_do | apply d_yes rfl rfl rfl); first | exact ls_indexAddr_sl tab_ok rfl rfl rfl rfl hel rfl | exact ls_indexAddr_sl tab_ok rfl rfl rfl h4 hpr rfl | exact lsq) | refine a_seq ?_ | refine a_region ?_ | refine o_nil ?_ | refine a_block ?_ | refine a_ret ?_ | refine a_exit ?_ | refine a_skip ?_ | refine a_draw mixed ?_ | refine d_nil (by kernel_rfl) ?_ | refine o_yes rfl rfl rfl ?_ | refine o_no rfl rfl rfl (by decide) ?_ | refine o_no' rfl rfl rfl ?_ | refine a_condT rfl ?_ | refine a_condF rfl ?_ | refine d_no rfl rfl rfl (by decide) ?_ | refine d_no' rfl rfl rfl ?_ | (refine wq2 (fun hb => ?_) (fun hb => ?_) <;> (simp only [hb]; try simp only [hbs, ne_eq] at hb; try (exfalso; first | omega | exact hb trivial))) | fail)
   all_goals refine rq rfl ?_
   all_goals exact fnq
 ·obtain rfl : q = xs.length := by omega
  rw [hR2 hok]
  clear hR hR2
  by_cases h1 : 1 ≤ xs.length
  ·by_cases h2 : xs.length ≤ 8
   ·rw [decide_eq_true h1, decide_eq_true h2]
    repeat' (first | ((first | apply o_do | apply d_do | apply d_yes rfl rfl rfl); exact lsq) | refine a_seq ?_ | refine a_region ?_ | refine o_nil ?_ | refine a_block ?_ | refine a_ret ?_ | refine a_exit ?_ | refine a_skip ?_ | refine a_draw mixed ?_ | refine d_nil (by kernel_rfl) ?_ | refine o_yes rfl rfl rfl ?_ | refine o_no rfl rfl rfl (by decide) ?_ | refine o_no' rfl rfl rfl ?_ | refine a_condT rfl ?_ | refine a_condF rfl ?_ | refine d_no rfl rfl rfl (by decide) ?_ | refine d_no' rfl rfl rfl ?_ | (refine wq2 (fun hb => ?_) (fun hb => ?_) <;> (simp only [hb]; try simp only [hbs, ne_eq] at hb; try (exfalso; first | omega | exact hb trivial))) | fail)
    refine rq rfl ?_
    (first | refine FinA.tup ?_ | refine FinA.one ?_); repeat' (first | exact FinBs.nil | exact FinCs.nil | refine FinBs.cons ?_ ?_ | refine FinCs.cons ?_ ?_ | refine FinB.cell (FinC.v ?_) | refine FinB.cell (FinC.own rfl rfl rfl ?_) | exact FinB.cell FinC.nil | refine FinB.cell (FinC.sl ?_) | exact FinB.agg' rfl rfl | exact FinB.cell (FinC.same rfl) | refine FinB.agg ?_ | refine FinC.v ?_ | refine FinC.own rfl rfl rfl ?_ | exact FinC.nil | refine FinC.sl ?_ | exact FinC.same rfl); all_goals try rfl
    all_goals (simp; omega)
   ·rw [decide_eq_true h1, decide_eq_false h2]
    repeat' (first | ((first | apply o_do | apply d_do | apply d_yes rfl rfl rfl); exact lsq) | refine a_seq ?_ | refine a_region ?_ | refine o_nil ?_ | refine a_block ?_ | refine a_ret ?_ | refine a_exit ?_ | refine a_skip ?_ | refine a_draw mixed ?_ | refine d_nil (by kernel_rfl) ?_ | refine o_yes rfl rfl rfl ?_ | refine o_no rfl rfl rfl (by decide) ?_ | refine o_no' rfl rfl rfl ?_ | refine a_condT rfl ?_ | refine a_condF rfl ?_ | refine d_no rfl rfl rfl (by decide) ?_ | refine d_no' rfl rfl rfl ?_ | (refine wq2 (fun hb => ?_) (fun hb => ?_) <;> (simp only [hb]; try simp only [hbs, ne_eq] at hb; try (exfalso; first | omega | exact hb trivial))) | fail)
    refine rq rfl ?_
    (first | refine FinA.tup ?_ | refine FinA.one ?_); repeat' (first | exact FinBs.nil | exact FinCs.nil | refine FinBs.cons ?_ ?_ | refine FinCs.cons ?_ ?_ | refine FinB.cell (FinC.v ?_) | refine FinB.cell (FinC.own rfl rfl rfl ?_) | exact FinB.cell FinC.nil | refine FinB.cell (FinC.sl ?_) | exact FinB.agg' rfl rfl | exact FinB.cell (FinC.same rfl) | refine FinB.agg ?_ | refine FinC.v ?_ | refine FinC.own rfl rfl rfl ?_ | exact FinC.nil | refine FinC.sl ?_ | exact FinC.same rfl); all_goals try rfl
    all_goals (simp; omega)
  ·rw [decide_eq_false h1]
   repeat' (first | ((first | apply o_do | apply d_do | apply d_yes rfl rfl rfl); exact lsq) | refine a_seq ?_ | refine a_region ?_ | refine o_nil ?_ | refine a_block ?_ | refine a_ret ?_ | refine a_exit ?_ | refine a_skip ?_ | refine a_draw mixed ?_ | refine d_nil (by kernel_rfl) ?_ | refine o_yes rfl rfl rfl ?_ | refine o_no rfl rfl rfl (by decide) ?_ | refine o_no' rfl rfl rfl ?_ | refine a_condT rfl ?_ | refine a_condF rfl ?_ | refine d_no rfl rfl rfl (by decide) ?_ | refine d_no' rfl rfl rfl ?_ | (refine wq2 (fun hb => ?_) (fun hb => ?_) <;> (simp only [hb]; try simp only [hbs, ne_eq] at hb; try (exfalso; first | omega | exact hb trivial))) | fail)
   refine rq rfl ?_
   exact fnq
theorem okTo_at {xs : List Int} : ∀ {n : Nat}, okTo xs n = true → ∀ k, k < n → 1 ≤ xs.getD k 0 ∧ xs.getD k 0 ≤ 99
 | n + 1, h, k, hk => by
  simp only [okTo, Bool.and_eq_true, decide_eq_true_eq] at h
  by_cases e : k = n
  ·subst e; exact ⟨h.2.1.1, h.2.1.2⟩
  ·exact okTo_at h.1 k (by omega)
theorem right_nat {xs : List Int} (h : rightW xs = true) : ∃ ws : List Nat, xs = ws.map (fun w : Nat => (w : Int)) ∧ (∀ w ∈ ws, 1 ≤ w ∧ w < 100) ∧ 1 ≤ ws.length ∧ ws.length ≤ 8 := by
 unfold rightW at h
 simp only [Bool.and_eq_true, decide_eq_true_eq] at h
 obtain ⟨⟨h1, h2⟩, h3⟩ := h
 have hx : ∀ x ∈ xs, 1 ≤ x ∧ x ≤ 99 := fun x hx => by
  obtain ⟨k, hk, rfl⟩ := List.getElem_of_mem hx
  have := okTo_at h3 k hk
  simpa [List.getD, hk] using this
 refine ⟨xs.map Int.toNat, ?_, ?_, by simpa using h1, by simpa using h2⟩
 ·rw [List.map_map]
  conv => lhs; rw [← List.map_id xs]
  exact List.map_congr_left fun x hx' => by have := hx x hx'; simp; omega
 ·intro w hw
  obtain ⟨x, hx', rfl⟩ := List.mem_map.1 hw
  have := hx x hx'
  omega
theorem iV_iI (ws : List Nat) : (ws.map fun w : Nat => (w : Int)).map iI = ws.map iV := by rw [List.map_map]; rfl
def asgL (ws : List Nat) (n : Nat) : List Int := (List.range n).map fun g => ownL (grN g) (PL ws)
theorem asgL_succ (ws : List Nat) (n : Nat) : asgL ws (n + 1) = asgL ws n ++ [ownL (grN n) (PL ws)] := by
 unfold asgL
 rw [List.range_succ, List.map_append]; rfl
theorem asgL_len (ws : List Nat) (n : Nat) : (asgL ws n).length = n := by simp [asgL]
theorem PL_pos {ws : List Nat} (h : ∀ w ∈ ws, 1 ≤ w ∧ w < 100) : ∀ x ∈ PL ws, x.2 ≠ 0 := by
 intro x hx
 obtain ⟨w, hw, h2⟩ := List.mem_flatMap.1 hx
 obtain ⟨i, _, rfl⟩ := List.mem_map.1 h2
 have := h w hw
 show (w : Int) ≠ 0
 omega
theorem circle_ex (ws : List Nat) (hws : ∀ w ∈ ws, 1 ≤ w ∧ w < 100) (h1 : 1 ≤ ws.length) (h8 : ws.length ≤ 8) : ∃ MS : List Nat,
  AC Tryd.prog 15 [.sl 1 (ws.map iV)] [] (.agg [.mp 1, .own 4 (MS.map uv).length]) [(1, .mp (.m ((byOf (PL ws)).map mEnt))), (4, .row 46 1 (MS.map uv))] ∧
  ∀ g : Nat, g < 100 → AC Tryd.prog 16 [.agg [.mp 0, .own 1 (MS.map uv).length], .v (.int .i64 g)] [(0, .mp (.m ((byOf (PL ws)).map mEnt))), (1, .row 46 1 (MS.map uv))] (.v (.int .i64 (ownL (grN g) (PL ws)))) [(0, .mp (.m ((byOf (PL ws)).map mEnt))), (1, .row 46 1 (MS.map uv))] := by
 have hb := by_ok (PL ws)
 have hs : (((byOf (PL ws)).map Prod.fst).mergeSort (fun a b => decide (a ≤ b))).Pairwise (· ≤ ·) := by
  have := List.pairwise_mergeSort (le := fun a b : Nat => decide (a ≤ b)) (by simp; omega) (by simp; omega) ((byOf (PL ws)).map Prod.fst)
  exact this.imp (by simp)
 have hp := List.mergeSort_perm ((byOf (PL ws)).map Prod.fst) (fun a b => decide (a ≤ b))
 generalize ((byOf (PL ws)).map Prod.fst).mergeSort (fun a b => decide (a ≤ b)) = MS at *
 have hlen : (byOf (PL ws)).length ≤ 64 := by
  have h2 : ∀ l : List (Nat × Int), (byOf l).length ≤ l.length := fun l => by
   have key : ∀ (l2 m : List (Nat × Int)), (l2.foldl bstep m).length ≤ m.length + l2.length := by
    intro l2
    induction l2 with
    | nil => intro m; simp
    | cons x l2 ih =>
     intro m
     have h2 := ih (bstep m x)
     have h3 := bstep_len m x
     simp only [List.foldl_cons, List.length_cons]
     omega
   simpa [byOf] using key l []
  have := h2 (PL ws)
  have := PL_len ws
  omega
 have hne : byOf (PL ws) ≠ [] := by
  intro h
  have h3 : (PL ws) ≠ [] := fun h3 => by
   have := PL_len ws
   rw [h3] at this; simp at this; omega
  obtain ⟨x, hx⟩ := List.exists_mem_of_ne_nil _ h3
  obtain ⟨y, hy, _⟩ := hb.all x hx
  rw [h] at hy; cases hy
 refine ⟨MS, ?_, fun g hg => ?_⟩
 ·rw [List.length_map]
  exact a_around ws MS (fun w hw => (hws w hw).2) h8 hp hs
 ·obtain ⟨i, s, w, k1, k2, k3, k4⟩ := a_owner (byOf (PL ws)) MS hp hs hlen hne (by_lt (PL_lt ws)) hb.uniq g hg
  have h5 := circle_own (grN_lt g) (PL_lt ws) hs hp k1 k2 k3
  rw [h5.eq (PL_pos hws)]
  exact k4
set_option maxRecDepth 10000 in
theorem a_Assign (ws : List Nat) (G : Nat) (hR : rightW (ws.map fun w : Nat => (w : Int)) = true) (hws : ∀ w ∈ ws, 1 ≤ w ∧ w < 100) (h1 : 1 ≤ ws.length) (h8 : ws.length ≤ 8) (g1 : 1 ≤ G) (g2 : G ≤ 32) :
  AC Tryd.prog 6 [.sl 1 (ws.map iV), .v (.int .i64 G)] [] (.tup [.own 1 ((asgL ws G).map iI).length, .v (.int .i64 0)]) [(1, .row 3 1 ((asgL ws G).map iI))] := by
 obtain ⟨MS, hA, hO⟩ := circle_ex ws hws h1 h8
 have hr := p_Right (ws.map fun w : Nat => (w : Int)) (by simp; omega)
 rw [hR, iV_iI] at hr
 have g1' : (1 : Int) ≤ (G : Int) := by omega
 have g2' : (G : Int) ≤ 32 := by omega
 generalize byOf (PL ws) = es at *
 generalize MS.map uv = U at *
 refine (ac_body tab_ok Tryd.func6 rfl (by kernel_rfl) rfl ?_); intro w0 M μ0; simp only [Tryd.ntmps6, List.length_cons, List.length_nil, Nat.reduceAdd, Nat.reduceSub, numb]
 repeat' (first | ((first | apply o_do | apply d_do | apply d_yes rfl rfl rfl); first | exact lsc (hr) | exact lca [] 10 hA | exact lsq) | refine a_seq ?_ | refine a_region ?_ | refine o_nil ?_ | refine a_block ?_ | refine a_ret ?_ | refine a_exit ?_ | refine a_skip ?_ | refine a_draw mixed ?_ | refine d_nil (by kernel_rfl) ?_ | refine o_yes rfl rfl rfl ?_ | refine o_no rfl rfl rfl (by decide) ?_ | refine o_no' rfl rfl rfl ?_ | refine a_condT rfl ?_ | refine a_condF rfl ?_ | refine d_no rfl rfl rfl (by decide) ?_ | refine d_no' rfl rfl rfl ?_ | (refine wq2 (fun hb => ?_) (fun hb => ?_) <;> (simp only [hb]; try simp only [hbs, ne_eq] at hb; try (exfalso; first | omega | exact hb trivial))) | fail)
 refine a_adopt 7 1 3 1 rfl rfl ?_
 refine a_loop (X := {q : Nat // q ≤ G})
  (fun q => ⟨[(6, .ref 0 0), (7, .own 1 ((asgL ws q.1).map iI).length), (22, .v (.int .i64 G)), (23, .v (.int .i64 q.1))], [(0, .box 41 [.mp 11, .own 14 U.length]), (11, .mp (.m (es.map mEnt))), (14, .row 46 1 U), (1, .row 3 1 ((asgL ws q.1).map iI))]⟩) (fun q => G - q.1) ⟨0, Nat.zero_le _⟩ ?_ ?_
 ·refine ⟨by repeat' (first | exact trivial | exact FinA.one (FinB.cell (FinC.same rfl)) | exact FinA.one (FinB.cell FinC.nil) | exact FinA.bound rfl | exact FinA.one (FinB.cell (FinC.own rfl rfl rfl rfl)) | exact FinA.one (FinB.cell (FinC.v (by first | rfl | (((try dsimp only); first | rfl | (congr 1 <;> omega)))))) | exact FinA.one (FinB.cell (FinC.ow rfl (by first | rfl | (((try dsimp only); first | rfl | (congr 1 <;> omega)))))) | exact FinA.one (FinB.agg' rfl rfl) | refine ⟨⟨_, rfl, ?_⟩, ?_⟩), by repeat' (first | exact trivial | refine ⟨⟨_, rfl, by first | rfl | (((try dsimp only); first | rfl | (congr 1 <;> omega)); done) | (simp [renO, *]; done)⟩, by first | rfl | assumption, ?_⟩), rfl⟩
 rintro ⟨q, hq⟩
 dsimp only
 by_cases hlt : q < G
 ·have hOq := hO q (by omega)
  have hsn : (asgL ws (q + 1)).map iI = (asgL ws q).map iI ++ [iI (ownL (grN q) (PL ws))] := by rw [asgL_succ, List.map_append]; rfl
  have hql : ((asgL ws q).map iI).length = q := by rw [List.length_map, asgL_len]
  generalize hT2 : (asgL ws (q + 1)).map iI = T2 at *
  generalize (asgL ws q).map iI = T at *
  generalize ownL (grN q) (PL ws) = w at *
  have hlt' : (q : Int) < (G : Int) := by omega
  repeat' (first | ((first | apply o_do | apply d_do | apply d_yes rfl rfl rfl); first | exact lca [11, 14] 20 hOq | focus (apply ls_append tab_ok rfl rfl ?hn rfl ?hsrc rfl ?hlen rfl rfl; (case hn => rfl); (case hsrc => first | exact SrcIs.sl | exact SrcIs.nil | exact SrcIs.own rfl rfl | fail); (case hlen => (try simp only [List.length_cons, List.length_nil]); (omega)); first | done | fail) | exact lsq) | refine a_seq ?_ | refine a_region ?_ | refine o_nil ?_ | refine a_block ?_ | refine a_ret ?_ | refine a_exit ?_ | refine a_skip ?_ | refine a_draw mixed ?_ | refine d_nil (by kernel_rfl) ?_ | refine o_yes rfl rfl rfl ?_ | refine o_no rfl rfl rfl (by decide) ?_ | refine o_no' rfl rfl rfl ?_ | refine a_condT rfl ?_ | refine a_condF rfl ?_ | refine d_no rfl rfl rfl (by decide) ?_ | refine d_no' rfl rfl rfl ?_ | (refine wq2 (fun hb => ?_) (fun hb => ?_) <;> (simp only [hb]; try simp only [hbs, ne_eq] at hb; try (exfalso; first | omega | exact hb trivial))) | fail)
  refine ⟨⟨q + 1, by omega⟩, by dsimp only; omega, ?_⟩
  refine ⟨by repeat' (first | exact trivial | exact FinA.one (FinB.cell (FinC.same rfl)) | exact FinA.one (FinB.cell FinC.nil) | exact FinA.bound rfl | exact FinA.one (FinB.cell (FinC.own rfl rfl rfl rfl)) | exact FinA.one (FinB.cell (FinC.v (by first | rfl | (((try dsimp only); first | rfl | (rw [hT2, hsn]; rfl) | (rw [hT2, hsn]; simp; done) | (congr 1 <;> omega)))))) | exact FinA.one (FinB.cell (FinC.ow rfl (by first | rfl | (((try dsimp only); first | rfl | (rw [hT2, hsn]; rfl) | (rw [hT2, hsn]; simp; done) | (congr 1 <;> omega)))))) | exact FinA.one (FinB.agg' rfl rfl) | refine ⟨⟨_, rfl, ?_⟩, ?_⟩), by repeat' (first | exact trivial | refine ⟨⟨_, rfl, by first | rfl | (((try dsimp only); first | rfl | (rw [hT2, hsn]; rfl) | (rw [hT2, hsn]; simp; done) | (congr 1 <;> omega)); done) | (simp [renO, *]; done)⟩, by first | rfl | assumption, ?_⟩), rfl⟩
 ·obtain rfl : q = G := by omega
  generalize (asgL ws q).map iI = T at *
  repeat' (first | ((first | apply o_do | apply d_do | apply d_yes rfl rfl rfl); exact lsq) | refine a_seq ?_ | refine a_region ?_ | refine o_nil ?_ | refine a_block ?_ | refine a_ret ?_ | refine a_exit ?_ | refine a_skip ?_ | refine a_draw mixed ?_ | refine d_nil (by kernel_rfl) ?_ | refine o_yes rfl rfl rfl ?_ | refine o_no rfl rfl rfl (by decide) ?_ | refine o_no' rfl rfl rfl ?_ | refine a_condT rfl ?_ | refine a_condF rfl ?_ | refine d_no rfl rfl rfl (by decide) ?_ | refine d_no' rfl rfl rfl ?_ | (refine wq2 (fun hb => ?_) (fun hb => ?_) <;> (simp only [hb]; try simp only [hbs, ne_eq] at hb; try (exfalso; first | omega | exact hb trivial))) | fail)
  refine rq rfl ?_
  exact fnq
set_option maxRecDepth 10000 in
theorem a_rAssign (ws : List Nat) (G : Nat) (hR : rightW (ws.map fun w : Nat => (w : Int)) = true) (hws : ∀ w ∈ ws, 1 ≤ w ∧ w < 100) (h1 : 1 ≤ ws.length) (h8 : ws.length ≤ 8) (g1 : 1 ≤ G) (g2 : G ≤ 32) :
  AC Tryd.prog 7 [.sl 1 (ws.map iV), .v (.int .i64 G)] [] (.tup [.own 0 ((asgL ws G).map iI).length, .v (.int .i64 0)]) [(0, .row 3 1 ((asgL ws G).map iI))] := by
 have hr := p_rRight (ws.map fun w : Nat => (w : Int)) (by simp; omega)
 rw [hR, iV_iI] at hr
 have g1' : (1 : Int) ≤ (G : Int) := by omega
 have g2' : (G : Int) ≤ 32 := by omega
 have hO := fun g hg => p_rOwner ws (fun w hw => (hws w hw).2) h8 g hg
 refine (ac_body tab_ok Tryd.func7 rfl (by kernel_rfl) rfl ?_); intro w0 M μ0; simp only [Tryd.ntmps7, List.length_cons, List.length_nil, Nat.reduceAdd, Nat.reduceSub, numb]
 repeat' (first | ((first | apply o_do | apply d_do | apply d_yes rfl rfl rfl); first | exact lsc (hr) | exact lsq) | refine a_seq ?_ | refine a_region ?_ | refine o_nil ?_ | refine a_block ?_ | refine a_ret ?_ | refine a_exit ?_ | refine a_skip ?_ | refine a_draw mixed ?_ | refine d_nil (by kernel_rfl) ?_ | refine o_yes rfl rfl rfl ?_ | refine o_no rfl rfl rfl (by decide) ?_ | refine o_no' rfl rfl rfl ?_ | refine a_condT rfl ?_ | refine a_condF rfl ?_ | refine d_no rfl rfl rfl (by decide) ?_ | refine d_no' rfl rfl rfl ?_ | (refine wq2 (fun hb => ?_) (fun hb => ?_) <;> (simp only [hb]; try simp only [hbs, ne_eq] at hb; try (exfalso; first | omega | exact hb trivial))) | fail)
 refine a_loop (X := {q : Nat // q ≤ G})
  (fun q => ⟨[(0, .sl 1 (ws.map iV)), (1, .v (.int .i64 G)), (6, .own 0 ((asgL ws q.1).map iI).length), (7, .v (.int .i64 q.1))], [(0, .row 3 1 ((asgL ws q.1).map iI))]⟩) (fun q => G - q.1) ⟨0, Nat.zero_le _⟩ ?_ ?_
 ·refine ⟨by repeat' (first | exact trivial | exact FinA.one (FinB.cell (FinC.same rfl)) | exact FinA.one (FinB.cell FinC.nil) | exact FinA.bound rfl | exact FinA.one (FinB.cell (FinC.own rfl rfl rfl rfl)) | exact FinA.one (FinB.cell (FinC.v (by first | rfl | (((try dsimp only); first | rfl | (congr 1 <;> omega)))))) | exact FinA.one (FinB.cell (FinC.ow rfl (by first | rfl | (((try dsimp only); first | rfl | (congr 1 <;> omega)))))) | exact FinA.one (FinB.agg' rfl rfl) | refine ⟨⟨_, rfl, ?_⟩, ?_⟩), by repeat' (first | exact trivial | refine ⟨⟨_, rfl, by first | rfl | (((try dsimp only); first | rfl | (congr 1 <;> omega)); done) | (simp [renO, *]; done)⟩, by first | rfl | assumption, ?_⟩), rfl⟩
 rintro ⟨q, hq⟩
 dsimp only
 by_cases hlt : q < G
 ·have hOq := hO q (by omega)
  have hsn : (asgL ws (q + 1)).map iI = (asgL ws q).map iI ++ [iI (ownL (grN q) (PL ws))] := by rw [asgL_succ, List.map_append]; rfl
  have hql : ((asgL ws q).map iI).length = q := by rw [List.length_map, asgL_len]
  generalize hT2 : (asgL ws (q + 1)).map iI = T2 at *
  generalize (asgL ws q).map iI = T at *
  generalize ownL (grN q) (PL ws) = w at *
  have hlt' : (q : Int) < (G : Int) := by omega
  repeat' (first | ((first | apply o_do | apply d_do | apply d_yes rfl rfl rfl); first | exact lsc (hOq) | focus (apply ls_append tab_ok rfl rfl ?hn rfl ?hsrc rfl ?hlen rfl rfl; (case hn => rfl); (case hsrc => first | exact SrcIs.sl | exact SrcIs.nil | exact SrcIs.own rfl rfl | fail); (case hlen => (try simp only [List.length_cons, List.length_nil]); (omega)); first | done | fail) | exact lsq) | refine a_seq ?_ | refine a_region ?_ | refine o_nil ?_ | refine a_block ?_ | refine a_ret ?_ | refine a_exit ?_ | refine a_skip ?_ | refine a_draw mixed ?_ | refine d_nil (by kernel_rfl) ?_ | refine o_yes rfl rfl rfl ?_ | refine o_no rfl rfl rfl (by decide) ?_ | refine o_no' rfl rfl rfl ?_ | refine a_condT rfl ?_ | refine a_condF rfl ?_ | refine d_no rfl rfl rfl (by decide) ?_ | refine d_no' rfl rfl rfl ?_ | (refine wq2 (fun hb => ?_) (fun hb => ?_) <;> (simp only [hb]; try simp only [hbs, ne_eq] at hb; try (exfalso; first | omega | exact hb trivial))) | fail)
  refine ⟨⟨q + 1, by omega⟩, by dsimp only; omega, ?_⟩
  refine ⟨by repeat' (first | exact trivial | exact FinA.one (FinB.cell (FinC.same rfl)) | exact FinA.one (FinB.cell FinC.nil) | exact FinA.bound rfl | exact FinA.one (FinB.cell (FinC.own rfl rfl rfl rfl)) | exact FinA.one (FinB.cell (FinC.v (by first | rfl | (((try dsimp only); first | rfl | (rw [hT2, hsn]; rfl) | (rw [hT2, hsn]; simp; done) | (congr 1 <;> omega)))))) | exact FinA.one (FinB.cell (FinC.ow rfl (by first | rfl | (((try dsimp only); first | rfl | (rw [hT2, hsn]; rfl) | (rw [hT2, hsn]; simp; done) | (congr 1 <;> omega)))))) | exact FinA.one (FinB.agg' rfl rfl) | refine ⟨⟨_, rfl, ?_⟩, ?_⟩), by repeat' (first | exact trivial | refine ⟨⟨_, rfl, by first | rfl | (((try dsimp only); first | rfl | (rw [hT2, hsn]; rfl) | (rw [hT2, hsn]; simp; done) | (congr 1 <;> omega)); done) | (simp [renO, *]; done)⟩, by first | rfl | assumption, ?_⟩), rfl⟩
 ·obtain rfl : q = G := by omega
  generalize (asgL ws q).map iI = T at *
  repeat' (first | ((first | apply o_do | apply d_do | apply d_yes rfl rfl rfl); exact lsq) | refine a_seq ?_ | refine a_region ?_ | refine o_nil ?_ | refine a_block ?_ | refine a_ret ?_ | refine a_exit ?_ | refine a_skip ?_ | refine a_draw mixed ?_ | refine d_nil (by kernel_rfl) ?_ | refine o_yes rfl rfl rfl ?_ | refine o_no rfl rfl rfl (by decide) ?_ | refine o_no' rfl rfl rfl ?_ | refine a_condT rfl ?_ | refine a_condF rfl ?_ | refine d_no rfl rfl rfl (by decide) ?_ | refine d_no' rfl rfl rfl ?_ | (refine wq2 (fun hb => ?_) (fun hb => ?_) <;> (simp only [hb]; try simp only [hbs, ne_eq] at hb; try (exfalso; first | omega | exact hb trivial))) | fail)
  refine rq rfl ?_
  exact fnq
def asgE (xs : List Int) (g : Int) : Int := if rightW xs = false then 110 else 1
theorem p_AssignNo (xs : List Int) (g : Int) (hl : xs.length ≤ 1000) (h : rightW xs = false ∨ g < 1 ∨ 32 < g) : PC Tryd.prog 6 [.sl 1 (xs.map iI), .v (.int .i64 g)] (.tup [.v (.slice none 0 0), .v (.int .i64 (asgE xs g))]) := by
 have hr := p_Right xs hl
 unfold asgE
 cases hR : rightW xs with
 | false =>
  rw [hR] at hr
  rw [if_pos rfl]
  refine PC.mk (ac_body tab_ok Tryd.func6 rfl (by kernel_rfl) rfl ?_); intro w0 M μ0; simp only [Tryd.ntmps6, List.length_cons, List.length_nil, Nat.reduceAdd, Nat.reduceSub, numb]
  repeat' (first | ((first | apply o_do | apply d_do | apply d_yes rfl rfl rfl); first | exact lsc (hr) | exact lsq) | refine a_seq ?_ | refine a_region ?_ | refine o_nil ?_ | refine a_block ?_ | refine a_ret ?_ | refine a_exit ?_ | refine a_skip ?_ | refine a_draw mixed ?_ | refine d_nil (by kernel_rfl) ?_ | refine o_yes rfl rfl rfl ?_ | refine o_no rfl rfl rfl (by decide) ?_ | refine o_no' rfl rfl rfl ?_ | refine a_condT rfl ?_ | refine a_condF rfl ?_ | refine d_no rfl rfl rfl (by decide) ?_ | refine d_no' rfl rfl rfl ?_ | (refine wq2 (fun hb => ?_) (fun hb => ?_) <;> (simp only [hb]; try simp only [hbs, ne_eq] at hb; try (exfalso; first | omega | exact hb trivial))) | fail)
  refine rq rfl ?_
  exact fnq
 | true =>
  rw [hR] at hr h
  rw [if_neg (by decide)]
  rcases h with h | h | h
  ·cases h
  all_goals
   refine PC.mk (ac_body tab_ok Tryd.func6 rfl (by kernel_rfl) rfl ?_); intro w0 M μ0; simp only [Tryd.ntmps6, List.length_cons, List.length_nil, Nat.reduceAdd, Nat.reduceSub, numb]
   repeat' (first | ((first | apply o_do | apply d_do | apply d_yes rfl rfl rfl); first | exact lsc (hr) | exact lsq) | refine a_seq ?_ | refine a_region ?_ | refine o_nil ?_ | refine a_block ?_ | refine a_ret ?_ | refine a_exit ?_ | refine a_skip ?_ | refine a_draw mixed ?_ | refine d_nil (by kernel_rfl) ?_ | refine o_yes rfl rfl rfl ?_ | refine o_no rfl rfl rfl (by decide) ?_ | refine o_no' rfl rfl rfl ?_ | refine a_condT rfl ?_ | refine a_condF rfl ?_ | refine d_no rfl rfl rfl (by decide) ?_ | refine d_no' rfl rfl rfl ?_ | (refine wq2 (fun hb => ?_) (fun hb => ?_) <;> (simp only [hb]; try simp only [hbs, ne_eq] at hb; try (exfalso; first | omega | exact hb trivial))) | fail)
   all_goals refine rq rfl ?_
   all_goals exact fnq
theorem p_rAssignNo (xs : List Int) (g : Int) (hl : xs.length ≤ 1000) (h : rightW xs = false ∨ g < 1 ∨ 32 < g) : PC Tryd.prog 7 [.sl 1 (xs.map iI), .v (.int .i64 g)] (.tup [.v (.slice none 0 0), .v (.int .i64 (asgE xs g))]) := by
 have hr := p_rRight xs hl
 unfold asgE
 cases hR : rightW xs with
 | false =>
  rw [hR] at hr
  rw [if_pos rfl]
  refine PC.mk (ac_body tab_ok Tryd.func7 rfl (by kernel_rfl) rfl ?_); intro w0 M μ0; simp only [Tryd.ntmps7, List.length_cons, List.length_nil, Nat.reduceAdd, Nat.reduceSub, numb]
  repeat' (first | ((first | apply o_do | apply d_do | apply d_yes rfl rfl rfl); first | exact lsc (hr) | exact lsq) | refine a_seq ?_ | refine a_region ?_ | refine o_nil ?_ | refine a_block ?_ | refine a_ret ?_ | refine a_exit ?_ | refine a_skip ?_ | refine a_draw mixed ?_ | refine d_nil (by kernel_rfl) ?_ | refine o_yes rfl rfl rfl ?_ | refine o_no rfl rfl rfl (by decide) ?_ | refine o_no' rfl rfl rfl ?_ | refine a_condT rfl ?_ | refine a_condF rfl ?_ | refine d_no rfl rfl rfl (by decide) ?_ | refine d_no' rfl rfl rfl ?_ | (refine wq2 (fun hb => ?_) (fun hb => ?_) <;> (simp only [hb]; try simp only [hbs, ne_eq] at hb; try (exfalso; first | omega | exact hb trivial))) | fail)
  refine rq rfl ?_
  exact fnq
 | true =>
  rw [hR] at hr h
  rw [if_neg (by decide)]
  rcases h with h | h | h
  ·cases h
  all_goals
   refine PC.mk (ac_body tab_ok Tryd.func7 rfl (by kernel_rfl) rfl ?_); intro w0 M μ0; simp only [Tryd.ntmps7, List.length_cons, List.length_nil, Nat.reduceAdd, Nat.reduceSub, numb]
   repeat' (first | ((first | apply o_do | apply d_do | apply d_yes rfl rfl rfl); first | exact lsc (hr) | exact lsq) | refine a_seq ?_ | refine a_region ?_ | refine o_nil ?_ | refine a_block ?_ | refine a_ret ?_ | refine a_exit ?_ | refine a_skip ?_ | refine a_draw mixed ?_ | refine d_nil (by kernel_rfl) ?_ | refine o_yes rfl rfl rfl ?_ | refine o_no rfl rfl rfl (by decide) ?_ | refine o_no' rfl rfl rfl ?_ | refine a_condT rfl ?_ | refine a_condF rfl ?_ | refine d_no rfl rfl rfl (by decide) ?_ | refine d_no' rfl rfl rfl ?_ | (refine wq2 (fun hb => ?_) (fun hb => ?_) <;> (simp only [hb]; try simp only [hbs, ne_eq] at hb; try (exfalso; first | omega | exact hb trivial))) | fail)
   all_goals refine rq rfl ?_
   all_goals exact fnq
end Go.Proofs.YtcfidmdkioccdaaDoor
