/-
  Walks over abstract values: bits of numbers. Over whatever program. No condition.
  Whose a group is, by a bit.
  The groups of a side, and who plays them.
  A worker played by a side, walked over abstract values. Printed by wip/gen_whc.py.
  Two workers, each of which owns some of the groups. Plain.
-/
import Derived.Test.YtilgagmfcdfjaaaGreatM3
import Derived.Test.YtilgagmfcdfjaaaGreatM4
import Derived.Test.YtilgagmfcdfjaaaGreatM18
import Derived.Test.YtilgagmfcdfjaaaGreatM19
import Derived.Test.YtilgagmfcdfjaaaGreatM20
set_option linter.unusedSimpArgs false
set_option linter.unusedVariables false
set_option maxHeartbeats 20000000
namespace Go.Proofs.YtilgagmfcdfjaaaGreat
open Go.RowKit
section
variable {P : Program} {T : List TyI} {Γ : Ctx} {s : ASt} {dst : Option Tmp} {ty : TypeId} {pos : String} {after : Array Edge}
theorem ls_shrB {xt yt : TypeId} {x y : Operand} {k yk : IntKind} {a b r : Int} (hr : a.fdiv (2 ^ min b.toNat k.bits) = r) (hx : ev s x = some (.v (.int k a))) (hy : ev s y = some (.v (.int yk b))) (hb : 0 ≤ b) (hd : okDst Γ.n dst = true) : LS P Γ ⟨dst, .binOp .shr xt x y yt, ty, pos, after, none⟩ s (rd x (rd y [])) (dst1 dst (.v (.int k r))) [] :=
 ls_bin hx hy (fun w => by
  have h : ¬ b < 0 := by omega
  simp [eqGuard, binOp, Op.shift, h, hr]) rfl hd
theorem ls_andB {xt yt : TypeId} {x y : Operand} {k : IntKind} {a b r : Int} (hr : k.wrap (BitVec.ofInt k.bits a &&& BitVec.ofInt k.bits b).toNat = r) (hx : ev s x = some (.v (.int k a))) (hy : ev s y = some (.v (.int k b))) (hd : okDst Γ.n dst = true) : LS P Γ ⟨dst, .binOp .and xt x y yt, ty, pos, after, none⟩ s (rd x (rd y [])) (dst1 dst (.v (.int k r))) [] :=
 ls_bin hx hy (fun w => by
  subst hr
  simp [eqGuard, binOp, Op.intBits]) rfl hd
theorem ls_convC (hT : okTab P T = true) {x : Operand} {a b : Nat} {i : Int} {k q : IntKind} (hx : ev s x = some (.v (.int k i))) (ha : P.underlying a = some (.int k)) (hb : P.underlying b = some (.int q)) (hd : okDst Γ.n dst = true) :
  LS P Γ ⟨dst, .convert a b x, ty, pos, after, none⟩ s (rd x []) (dst1 dst (.v (.int q (q.wrap i)))) [] :=
 ls_pure hd fun t' ht μ ac w hr => by
  obtain ⟨e1, ht⟩ := ht.ev hx
  have e1 := hr.ev e1
  simp only [rep] at e1 ⊢
  refine ⟨.int q (q.wrap i), ?_, rfl, rfl⟩
  simp [execOp, e1.1, Go.convert, run_underlying ha, run_underlying hb, Conv.intToInt]
theorem ls_convB (hT : okTab P T = true) {x : Operand} {a b : Nat} {i r : Int} {k q : IntKind} (hr : q.wrap i = r) (hx : ev s x = some (.v (.int k i))) (ha : P.underlying a = some (.int k)) (hb : P.underlying b = some (.int q)) (hd : okDst Γ.n dst = true) :
  LS P Γ ⟨dst, .convert a b x, ty, pos, after, none⟩ s (rd x []) (dst1 dst (.v (.int q r))) [] := by subst hr; exact ls_convC hT hx ha hb hd
end
def bitI (b no : Int) : Int := IntKind.u32.wrap ((BitVec.ofInt 32 (b.fdiv (2 ^ min no.toNat 32)) &&& BitVec.ofInt 32 1).toNat : Int)
def ownB (b s no : Int) : Bool := decide (bitI b no = s)
theorem bit_01 (b no : Int) : bitI b no = 0 ∨ bitI b no = 1 := by
 unfold bitI
 generalize BitVec.ofInt 32 (b.fdiv (2 ^ min no.toNat 32)) = x
 have h : (x &&& BitVec.ofInt 32 1).toNat = x.toNat % 2 := by
  rw [BitVec.toNat_and]
  show x.toNat &&& 1 = _
  exact Nat.and_one_is_mod _
 rw [h]
 have h2 : x.toNat % 2 < 2 := Nat.mod_lt _ (by omega)
 have h3 : IntKind.u32.wrap 0 = 0 := by decide
 have h4 : IntKind.u32.wrap 1 = 1 := by decide
 rcases Nat.lt_or_ge (x.toNat % 2) 1 with h5 | h5
 ·left; rw [show x.toNat % 2 = 0 by omega]; exact h3
 ·right; rw [show x.toNat % 2 = 1 by omega]; exact h4
theorem own_not (b no : Int) : ownB b 1 no = !ownB b 0 no := by
 unfold ownB
 rcases bit_01 b no with h | h <;> rw [h] <;> decide
def shS (b s : Int) : Store := [(0, .box 75 [.v (.int .u32 b)]), (1, .box 75 [.v (.int .u32 s)])]
theorem c_sh1 (b s no : Int) (h0 : 0 ≤ no) (h1 : no ≤ 1000000) : AC Tryz.prog 23 [.v (.int .i64 no), .ref 0 0, .ref 1 0] (shS b s) (.v (.bool (ownB b s no))) (shS b s) := by
 have hc : IntKind.u64.wrap no = no := by
  show no % 18446744073709551616 = no
  omega
 obtain ⟨r1, hr1⟩ : ∃ r, b.fdiv (2 ^ min no.toNat IntKind.u32.bits) = r := ⟨_, rfl⟩
 obtain ⟨r2, hr2⟩ : ∃ r, IntKind.u32.wrap (BitVec.ofInt IntKind.u32.bits r1 &&& BitVec.ofInt IntKind.u32.bits 1).toNat = r := ⟨_, rfl⟩
 have hb : bitI b no = r2 := by rw [← hr2, ← hr1]; rfl
 unfold ownB shS
 rw [hb]
 refine (ac_body tab_ok Tryz.func23 rfl (by kernel_rfl) rfl ?_); intro w0 M μ0; simp only [Tryz.ntmps23, List.length_cons, List.length_nil, Nat.reduceAdd, Nat.reduceSub, numb]
 repeat' (first | ((first | apply o_do | apply d_do | apply d_yes rfl rfl rfl); first | exact ls_convB tab_ok hc rfl Tryz.underlying3 Tryz.underlying76 rfl | exact ls_shrB hr1 rfl rfl h0 rfl | exact ls_andB hr2 rfl rfl rfl | exact lsq) | refine a_seq ?_ | refine a_region ?_ | refine o_nil ?_ | refine a_block ?_ | refine a_ret ?_ | refine a_exit ?_ | refine a_skip ?_ | refine a_draw mixed ?_ | refine d_nil (by kernel_rfl) ?_ | refine o_yes rfl rfl rfl ?_ | refine o_no rfl rfl rfl (by decide) ?_ | refine o_no' rfl rfl rfl ?_ | refine a_condT rfl ?_ | refine a_condF rfl ?_ | refine d_no rfl rfl rfl (by decide) ?_ | refine d_no' rfl rfl rfl ?_ | (refine wq2 (fun hb => ?_) (fun hb => ?_) <;> (simp only [hb]; try simp only [hbs, ne_eq] at hb; try (exfalso; first | omega | exact hb trivial))) | fail)
 all_goals refine rq rfl ?_
 all_goals exact fnq
def mineB (b s g : Int) (x : It) : Bool := !decide (x.kind = 1) || ownB b s (grpV x.key.data.toList g)
def shP (b s g s0 d k fu li de id : Int) : Store := [(0, .box 75 [.v (.int .u32 b)]), (1, .box 75 [.v (.int .u32 s)]), (2, .box 72 [.clo (.func 23) [] [.ref 0 0, .ref 1 0]]), (3, .box 23 [.v (.int .i64 g), .v (.int .i64 s0), .v (.int .i64 d), .v (.int .i64 k), .v (.int .i64 fu), .v (.int .i64 li), .v (.int .i64 de), .v (.int .i64 id)])]
theorem c_sh2 (b s g s0 d k fu li de id : Int) (x : It) (hx : x.kind = 1 → x.key.size ≤ 1000000) (hg : 1 ≤ g ∧ g ≤ 1000000) : AC Tryz.prog 24 [.agg x.av, .ref 2 0, .ref 3 0] (shP b s g s0 d k fu li de id) (.v (.bool (mineB b s g x))) (shP b s g s0 d k fu li de id) := by
 have h2 := fun h => p_rrGrp x.key g (hx h) (by omega)
 have hgr : 0 ≤ grpV x.key.data.toList g ∧ grpV x.key.data.toList g ≤ 1000000 := by
  rw [grpV_high (by omega)]
  have h2 := Int.emod_nonneg (hashN x.key.data.toList : Int) (show g ≠ 0 by omega)
  have h3 := Int.emod_lt_of_pos (hashN x.key.data.toList : Int) (show 0 < g by omega)
  omega
 have h1 := c_sh1 b s (grpV x.key.data.toList g) hgr.1 hgr.2
 unfold mineB
 generalize grpV x.key.data.toList g = no at *
 unfold shS at h1
 unfold shP
 obtain ⟨x1, x2, x3, x4, x5, x6, x7, x8, x9, x10, x11⟩ := x
 dsimp only at *
 unfold It.av
 by_cases hk : x1 = 1
 ·have h3 := h2 hk
  refine (ac_body tab_ok Tryz.func24 rfl (by kernel_rfl) rfl ?_); intro w0 M μ0; simp only [Tryz.ntmps24, List.length_cons, List.length_nil, Nat.reduceAdd, Nat.reduceSub, numb]
  repeat' (first | ((first | apply o_do | apply d_do | apply d_yes rfl rfl rfl); first | exact lsc (h3) | exact lca [0, 1] 50 h1 | exact lsq) | refine a_seq ?_ | refine a_region ?_ | refine o_nil ?_ | refine a_block ?_ | refine a_ret ?_ | refine a_exit ?_ | refine a_skip ?_ | refine a_draw mixed ?_ | refine d_nil (by kernel_rfl) ?_ | refine o_yes rfl rfl rfl ?_ | refine o_no rfl rfl rfl (by decide) ?_ | refine o_no' rfl rfl rfl ?_ | refine a_condT rfl ?_ | refine a_condF rfl ?_ | refine d_no rfl rfl rfl (by decide) ?_ | refine d_no' rfl rfl rfl ?_ | (refine wq2 (fun hb => ?_) (fun hb => ?_) <;> (simp only [hb]; try simp only [hbs, ne_eq] at hb; try (exfalso; first | omega | exact hb trivial))) | fail)
  all_goals refine rq rfl ?_
  all_goals (first | refine FinA.tup ?_ | refine FinA.one ?_); repeat' (first | exact FinBs.nil | exact FinCs.nil | refine FinBs.cons ?_ ?_ | refine FinCs.cons ?_ ?_ | refine FinB.cell (FinC.v ?_) | refine FinB.cell (FinC.own rfl rfl rfl ?_) | exact FinB.cell FinC.nil | refine FinB.cell (FinC.sl ?_) | exact FinB.agg' rfl rfl | exact FinB.cell (FinC.same rfl) | refine FinB.agg ?_ | refine FinC.v ?_ | refine FinC.own rfl rfl rfl ?_ | exact FinC.nil | refine FinC.sl ?_ | exact FinC.same rfl); all_goals try rfl
  all_goals simp [hk]
 ·refine (ac_body tab_ok Tryz.func24 rfl (by kernel_rfl) rfl ?_); intro w0 M μ0; simp only [Tryz.ntmps24, List.length_cons, List.length_nil, Nat.reduceAdd, Nat.reduceSub, numb]
  repeat' (first | ((first | apply o_do | apply d_do | apply d_yes rfl rfl rfl); first | fail | exact lsq) | refine a_seq ?_ | refine a_region ?_ | refine o_nil ?_ | refine a_block ?_ | refine a_ret ?_ | refine a_exit ?_ | refine a_skip ?_ | refine a_draw mixed ?_ | refine d_nil (by kernel_rfl) ?_ | refine o_yes rfl rfl rfl ?_ | refine o_no rfl rfl rfl (by decide) ?_ | refine o_no' rfl rfl rfl ?_ | refine a_condT rfl ?_ | refine a_condF rfl ?_ | refine d_no rfl rfl rfl (by decide) ?_ | refine d_no' rfl rfl rfl ?_ | (refine wq2 (fun hb => ?_) (fun hb => ?_) <;> (simp only [hb]; try simp only [hbs, ne_eq] at hb; try (exfalso; first | omega | exact hb trivial))) | fail)
  all_goals refine rq rfl ?_
  all_goals (first | refine FinA.tup ?_ | refine FinA.one ?_); repeat' (first | exact FinBs.nil | exact FinCs.nil | refine FinBs.cons ?_ ?_ | refine FinCs.cons ?_ ?_ | refine FinB.cell (FinC.v ?_) | refine FinB.cell (FinC.own rfl rfl rfl ?_) | exact FinB.cell FinC.nil | refine FinB.cell (FinC.sl ?_) | exact FinB.agg' rfl rfl | exact FinB.cell (FinC.same rfl) | refine FinB.agg ?_ | refine FinC.v ?_ | refine FinC.own rfl rfl rfl ?_ | exact FinC.nil | refine FinC.sl ?_ | exact FinC.same rfl); all_goals try rfl
  all_goals simp [hk]
theorem filter_snoc {α : Type} {p : α → Bool} {l : List α} {x : α} : (l ++ [x]).filter p = if p x = true then l.filter p ++ [x] else l.filter p := by
 rw [List.filter_append, List.filter_cons, List.filter_nil]
 split <;> simp
theorem o_zeroC (j : Jb) (n : Nat) (b s : Int) (hg : j.g = (n : Int)) (hn : n ≤ 1000000) : AC Tryz.prog 19 [.agg j.av, .clo (.func 23) [] [.ref 0 0, .ref 1 0]] (shS b s) (.sl 3 (((zeroI n).filter (ownB b s)).map zAv)) (shS b s) := by
 obtain ⟨g, s0, d, k, fu, li, de, id⟩ := j
 dsimp only at hg
 subst hg
 unfold Jb.av
 have hcl := fun no h0 h1 => c_sh1 b s no h0 h1
 unfold shS at *
 dsimp only
 refine (ac_body tab_ok Tryz.func19 rfl (by kernel_rfl) rfl ?_); intro w0 M μ0; simp only [Tryz.ntmps19, List.length_cons, List.length_nil, Nat.reduceAdd, Nat.reduceSub, numb]
 repeat' (first | ((first | apply o_do | apply d_do | apply d_yes rfl rfl rfl); exact lsq) | refine a_seq ?_ | refine a_region ?_ | refine o_nil ?_ | refine a_block ?_ | refine a_ret ?_ | refine a_exit ?_ | refine a_skip ?_ | refine a_draw mixed ?_ | refine d_nil (by kernel_rfl) ?_ | refine o_yes rfl rfl rfl ?_ | refine o_no rfl rfl rfl (by decide) ?_ | refine o_no' rfl rfl rfl ?_ | refine a_condT rfl ?_ | refine a_condF rfl ?_ | refine d_no rfl rfl rfl (by decide) ?_ | refine d_no' rfl rfl rfl ?_ | (refine wq2 (fun hb => ?_) (fun hb => ?_) <;> (simp only [hb]; try simp only [hbs, ne_eq] at hb; try (exfalso; first | omega | exact hb trivial))) | fail)
 refine a_adopt 5 7 98 3 rfl rfl ?_
 refine a_loop (X := {q : Nat // q ≤ n}) (fun x => ⟨[(1, .clo (.func 23) [] [.ref 0 0, .ref 1 0]), (5, .own 7 (((zeroI x.1).filter (ownB b s)).map zAv).length), (8, .v (.int .i64 n)), (9, .v (.int .i64 x.1))], [(0, .box 75 [.v (.int .u32 b)]), (1, .box 75 [.v (.int .u32 s)]), (7, .row 98 3 (((zeroI x.1).filter (ownB b s)).map zAv))]⟩) (fun x => n - x.1) ⟨0, Nat.zero_le _⟩ ?_ ?_
 ·have e0 : ((zeroI 0).filter (ownB b s)).map zAv = [] := rfl
  dsimp only
  rw [e0]
  refine ⟨by repeat' (first | exact trivial | exact FinA.one (FinB.cell (FinC.same rfl)) | exact FinA.one (FinB.cell FinC.nil) | exact FinA.bound rfl | exact FinA.one (FinB.cell (FinC.own rfl rfl rfl rfl)) | exact FinA.one (FinB.cell (FinC.v (by first | rfl | (simp)))) | exact FinA.one (FinB.cell (FinC.ow rfl (by first | rfl | (simp)))) | exact FinA.one (FinB.agg' rfl rfl) | exact FinA.one (FinB.cell (FinC.el rfl rfl rfl rfl)) | refine FinA.clo ?_ ?_ | exact FinBs.nil | exact FinB.cell (FinC.same rfl) | exact FinB.cell (FinC.el rfl rfl rfl rfl) | refine FinBs.cons ?_ ?_ | refine ⟨⟨_, rfl, ?_⟩, ?_⟩), by repeat' (first | exact trivial | refine ⟨⟨_, rfl, by first | rfl | (simp; done) | (simp [renO, *]; done)⟩, by first | rfl | assumption, ?_⟩), rfl⟩
 rintro ⟨q, hq⟩
 dsimp only
 by_cases hlt : q < n
 ·have hcq := hcl q (by omega) (by omega)
  have hsn : ((zeroI (q + 1)).filter (ownB b s)).map zAv = if ownB b s q = true then ((zeroI q).filter (ownB b s)).map zAv ++ [zAv q] else ((zeroI q).filter (ownB b s)).map zAv := by
   rw [zeroI_snoc, filter_snoc]
   split <;> simp
  have hTl : (((zeroI q).filter (ownB b s)).map zAv).length ≤ q := by
   rw [List.length_map]
   refine Nat.le_trans (List.length_filter_le _ _) ?_
   simp [zeroI]
  have hz : zAv q = [.v (.int .i64 q), .v (.int .i64 0), .v (.slice none 0 0)] := rfl
  rw [hz] at hsn
  generalize ((zeroI q).filter (ownB b s)).map zAv = T at *
  cases ho : ownB b s q
  ·rw [ho] at hsn hcq
   rw [if_neg (by simp)] at hsn
   repeat' (first | ((first | apply o_do | apply d_do | apply d_yes rfl rfl rfl); first | exact lca [0, 1] 50 hcq | focus (apply ls_append tab_ok rfl rfl ?hn rfl ?hsrc rfl ?hlen rfl rfl; (case hn => rfl); (case hsrc => first | exact SrcIs.sl | exact SrcIs.nil | exact SrcIs.own rfl rfl | fail); (case hlen => (try simp only [List.length_cons, List.length_nil]); (omega)); first | done | fail) | exact lsq) | refine a_seq ?_ | refine a_region ?_ | refine o_nil ?_ | refine a_block ?_ | refine a_ret ?_ | refine a_exit ?_ | refine a_skip ?_ | refine a_draw mixed ?_ | refine d_nil (by kernel_rfl) ?_ | refine o_yes rfl rfl rfl ?_ | refine o_no rfl rfl rfl (by decide) ?_ | refine o_no' rfl rfl rfl ?_ | refine a_condT rfl ?_ | refine a_condF rfl ?_ | refine d_no rfl rfl rfl (by decide) ?_ | refine d_no' rfl rfl rfl ?_ | (refine wq2 (fun hb => ?_) (fun hb => ?_) <;> (simp only [hb]; try simp only [hbs, ne_eq] at hb; try (exfalso; first | omega | exact hb trivial))) | fail)
   refine ⟨⟨q + 1, by omega⟩, by dsimp only; omega, ?_⟩
   dsimp only
   rw [hsn]
   refine ⟨by repeat' (first | exact trivial | exact FinA.one (FinB.cell (FinC.same rfl)) | exact FinA.one (FinB.cell FinC.nil) | exact FinA.bound rfl | exact FinA.one (FinB.cell (FinC.own rfl rfl rfl rfl)) | exact FinA.one (FinB.cell (FinC.v (by first | rfl | (simp)))) | exact FinA.one (FinB.cell (FinC.ow rfl (by first | rfl | (simp)))) | exact FinA.one (FinB.agg' rfl rfl) | exact FinA.one (FinB.cell (FinC.el rfl rfl rfl rfl)) | refine FinA.clo ?_ ?_ | exact FinBs.nil | exact FinB.cell (FinC.same rfl) | exact FinB.cell (FinC.el rfl rfl rfl rfl) | refine FinBs.cons ?_ ?_ | refine ⟨⟨_, rfl, ?_⟩, ?_⟩), by repeat' (first | exact trivial | refine ⟨⟨_, rfl, by first | rfl | (simp; done) | (simp [renO, *]; done)⟩, by first | rfl | assumption, ?_⟩), rfl⟩
  ·rw [ho] at hsn hcq
   rw [if_pos rfl] at hsn
   repeat' (first | ((first | apply o_do | apply d_do | apply d_yes rfl rfl rfl); first | exact lca [0, 1] 50 hcq | focus (apply ls_append tab_ok rfl rfl ?hn rfl ?hsrc rfl ?hlen rfl rfl; (case hn => rfl); (case hsrc => first | exact SrcIs.sl | exact SrcIs.nil | exact SrcIs.own rfl rfl | fail); (case hlen => (try simp only [List.length_cons, List.length_nil]); (omega)); first | done | fail) | exact lsq) | refine a_seq ?_ | refine a_region ?_ | refine o_nil ?_ | refine a_block ?_ | refine a_ret ?_ | refine a_exit ?_ | refine a_skip ?_ | refine a_draw mixed ?_ | refine d_nil (by kernel_rfl) ?_ | refine o_yes rfl rfl rfl ?_ | refine o_no rfl rfl rfl (by decide) ?_ | refine o_no' rfl rfl rfl ?_ | refine a_condT rfl ?_ | refine a_condF rfl ?_ | refine d_no rfl rfl rfl (by decide) ?_ | refine d_no' rfl rfl rfl ?_ | (refine wq2 (fun hb => ?_) (fun hb => ?_) <;> (simp only [hb]; try simp only [hbs, ne_eq] at hb; try (exfalso; first | omega | exact hb trivial))) | fail)
   refine ⟨⟨q + 1, by omega⟩, by dsimp only; omega, ?_⟩
   dsimp only
   rw [hsn]
   refine ⟨by repeat' (first | exact trivial | exact FinA.one (FinB.cell (FinC.same rfl)) | exact FinA.one (FinB.cell FinC.nil) | exact FinA.bound rfl | exact FinA.one (FinB.cell (FinC.own rfl rfl rfl rfl)) | exact FinA.one (FinB.cell (FinC.v (by first | rfl | (simp)))) | exact FinA.one (FinB.cell (FinC.ow rfl (by first | rfl | (simp)))) | exact FinA.one (FinB.agg' rfl rfl) | exact FinA.one (FinB.cell (FinC.el rfl rfl rfl rfl)) | refine FinA.clo ?_ ?_ | exact FinBs.nil | exact FinB.cell (FinC.same rfl) | exact FinB.cell (FinC.el rfl rfl rfl rfl) | refine FinBs.cons ?_ ?_ | refine ⟨⟨_, rfl, ?_⟩, ?_⟩), by repeat' (first | exact trivial | refine ⟨⟨_, rfl, by first | rfl | (simp; done) | (simp [renO, *]; done)⟩, by first | rfl | assumption, ?_⟩), rfl⟩
 ·obtain rfl : q = n := by omega
  generalize ((zeroI q).filter (ownB b s)).map zAv = T at *
  repeat' (first | ((first | apply o_do | apply d_do | apply d_yes rfl rfl rfl); exact lsq) | refine a_seq ?_ | refine a_region ?_ | refine o_nil ?_ | refine a_block ?_ | refine a_ret ?_ | refine a_exit ?_ | refine a_skip ?_ | refine a_draw mixed ?_ | refine d_nil (by kernel_rfl) ?_ | refine o_yes rfl rfl rfl ?_ | refine o_no rfl rfl rfl (by decide) ?_ | refine o_no' rfl rfl rfl ?_ | refine a_condT rfl ?_ | refine a_condF rfl ?_ | refine d_no rfl rfl rfl (by decide) ?_ | refine d_no' rfl rfl rfl ?_ | (refine wq2 (fun hb => ?_) (fun hb => ?_) <;> (simp only [hb]; try simp only [hbs, ne_eq] at hb; try (exfalso; first | omega | exact hb trivial))) | fail)
  all_goals refine rq rfl ?_
  all_goals exact fnq
set_option maxRecDepth 20000 in
theorem o_playC (bb sd : Int) (j : Jb) (mine : It → Bool) (hmi : mine = mineB bb sd j.g) (hg1 : 1 ≤ j.g ∧ j.g ≤ 1000000) (hg : -9223372036854775808 ≤ j.g ∧ j.g ≤ 9223372036854775807) (f : Nat) (Z : List (List AV)) (ins : List (List It)) (ts : List Int) (w0' : Wk) (L0 : Nat) (I : Ps → Prop)
  (hI : PlayI j f ins ts mine L0 I) (hn1 : 1 ≤ ins.length) (hn8 : ins.length ≤ 8) (hts : ts.length ≤ 200) (hil : ∀ r ∈ ins, r.length ≤ 1000) (hit : ∀ r ∈ ins, ∀ x ∈ r, x.kind = 1 → x.key.size ≤ 1000000) (hL : L0 ≤ 8000)
  (hNew : PC Tryz.prog 10 [.agg j.av, .v (.int .i64 (ins.length : Int)), .sl 3 Z] (.tup [.agg w0'.av, .v (.int .i64 0)])) (hw0 : w0'.told = 0)
  (hs0 : I ⟨List.replicate ins.length 0, L0, 0, w0', []⟩) (R : Ps) (hR : playN j f ins ts mine (ts.length + ins.length + ins.length * L0 + 1) ⟨List.replicate ins.length 0, L0, 0, w0', []⟩ = R) :
  AC Tryz.prog 18 [.agg j.av, .sl 3 Z, .sl 1 (ins.map riAv), .sl 1 (ts.map toAv), .clo (.func 24) [] [.ref 2 0, .ref 3 0]] (shP bb sd j.g j.s j.d j.k j.fu j.li j.de j.id) (.tup [.sl 5 (R.out.map Rs.av), .v (.bool (decide (R.w.told = 1099511627776)))]) (shP bb sd j.g j.s j.d j.k j.fu j.li j.de j.id) := by
 have hIl : (ins.map riAv).length = ins.length := List.length_map _
 have hTl : (ts.map toAv).length = ts.length := List.length_map _
 have hRun := w_Run j hg f
 have hclo := fun x hk => c_sh2 bb sd j.g j.s j.d j.k j.fu j.li j.de j.id x hk hg1
 rw [← hmi] at hclo
 clear hmi
 obtain ⟨g, s0, d, k, fu, li, de, id⟩ := j
 unfold Jb.av at hNew hRun ⊢
 unfold shP at hclo ⊢
 dsimp only at hNew hRun hclo ⊢
 have hL0 : L0 = leftN ins (List.replicate ins.length 0) := (hI.pot _ hs0).lf
 have hNb : ts.length + ins.length + ins.length * L0 + 1 ≤ 90000 := by
  have : ins.length * L0 ≤ 8 * 8000 := Nat.mul_le_mul hn8 hL
  omega
 generalize hN : ts.length + ins.length + ins.length * L0 + 1 = N at *
 unfold Wk.av at hNew
 refine (ac_body tab_ok Tryz.func18 rfl (by kernel_rfl) rfl ?_); intro w0 M μ0; simp only [Tryz.ntmps18, List.length_cons, List.length_nil, Nat.reduceAdd, Nat.reduceSub, numb]
 rw [← hIl] at hNew
 have hFm : (ins.map riAv).length ≤ 1000000 := by omega
 repeat' (first | ((first | apply o_do | apply d_do | apply d_yes rfl rfl rfl); first | exact lsc (hNew) | exact ls_make (k := 6) tab_ok tab_zero rfl rfl rfl rfl rfl rfl rfl hFm rfl rfl rfl | exact lsq) | refine a_seq ?_ | refine a_region ?_ | refine o_nil ?_ | refine a_block ?_ | refine a_ret ?_ | refine a_exit ?_ | refine a_skip ?_ | refine a_draw mixed ?_ | refine d_nil (by kernel_rfl) ?_ | refine o_yes rfl rfl rfl ?_ | refine o_no rfl rfl rfl (by decide) ?_ | refine o_no' rfl rfl rfl ?_ | refine a_condT rfl ?_ | refine a_condF rfl ?_ | refine d_no rfl rfl rfl (by decide) ?_ | refine d_no' rfl rfl rfl ?_ | (refine wq2 (fun hb => ?_) (fun hb => ?_) <;> (simp only [hb]; try simp only [hbs, ne_eq] at hb; try (exfalso; first | omega | exact hb trivial))) | fail)
 refine a_loop (X := {q : Nat // q ≤ ins.length}) (fun x => ⟨[(2, .sl 1 (ins.map riAv)), (3, .sl 1 (ts.map toAv)), (4, .clo (.func 24) [] [.ref 2 0, .ref 3 0]), (5, .ref 4 0), (12, .ref 5 0), (14, .own 6 ((List.replicate ins.length 0).map naAv).length), (15, .v (.int .i64 ((leftN (ins.take x.1) (List.replicate x.1 0) : Nat) : Int))), (43, .sl 1 (ins.map riAv)), (44, .v (.int .i64 ins.length)), (45, .v (.int .i64 x.1))], [(0, .box 75 [.v (.int .u32 bb)]), (1, .box 75 [.v (.int .u32 sd)]), (2, .box 72 [.clo (.func 23) [] [.ref 0 0, .ref 1 0]]), (3, .box 23 [.v (.int .i64 g), .v (.int .i64 s0), .v (.int .i64 d), .v (.int .i64 k), .v (.int .i64 fu), .v (.int .i64 li), .v (.int .i64 de), .v (.int .i64 id)]), (4, .box 23 [.v (.int .i64 g), .v (.int .i64 s0), .v (.int .i64 d), .v (.int .i64 k), .v (.int .i64 fu), .v (.int .i64 li), .v (.int .i64 de), .v (.int .i64 id)]), (5, .box 42 w0'.av), (6, .row 3 1 ((List.replicate ins.length 0).map naAv))]⟩) (fun x => ins.length - x.1) ⟨0, Nat.zero_le _⟩ ?_ ?_
 ·have e1 : (List.replicate ins.length 0).map naAv = List.replicate (ins.map riAv).length [AV.v (.int .i64 0)] := by rw [List.map_replicate, hIl]; rfl
  rw [e1]
  unfold Wk.av
  refine ⟨by repeat' (first | exact trivial | exact FinA.one (FinB.cell (FinC.same rfl)) | exact FinA.one (FinB.cell FinC.nil) | exact FinA.bound rfl | exact FinA.one (FinB.cell (FinC.own rfl rfl rfl rfl)) | exact FinA.one (FinB.cell (FinC.v (by first | rfl | (simp [leftN])))) | exact FinA.one (FinB.cell (FinC.ow rfl (by first | rfl | (simp [leftN])))) | exact FinA.one (FinB.agg' rfl rfl) | exact FinA.one (FinB.cell (FinC.el rfl rfl rfl rfl)) | refine FinA.clo ?_ ?_ | exact FinBs.nil | exact FinB.cell (FinC.same rfl) | exact FinB.cell (FinC.el rfl rfl rfl rfl) | refine FinBs.cons ?_ ?_ | refine ⟨⟨_, rfl, ?_⟩, ?_⟩), by repeat' (first | exact trivial | refine ⟨⟨_, rfl, by first | rfl | (simp [leftN]; done) | (simp [renO, *]; done)⟩, by first | rfl | assumption, ?_⟩), rfl⟩
 ·rintro ⟨q, hq⟩
  dsimp only
  by_cases hlt : q < ins.length
  ·have hel : (ins.map riAv)[q]? = some (riAv ins[q]) := by simp [hlt]
   have hrl := hil _ (List.getElem_mem hlt)
   have hlf : leftN (ins.take (q + 1)) (List.replicate (q + 1) 0) = leftN (ins.take q) (List.replicate q 0) + ins[q].length := by
    rw [take_snoc ins q hlt]
    have hl : (ins.take q).length = q := by rw [List.length_take]; omega
    have h1 := left_snoc (ins.take q) ins[q]
    rw [hl] at h1
    exact h1
   have hlb : leftN (ins.take q) (List.replicate q 0) ≤ 8000 := by
    have h1 := left_le (ins.take q) q fun r hr => hil r (List.mem_of_mem_take hr)
    have h2 := List.length_take (i := q) (l := ins)
    omega
   generalize leftN (ins.take q) (List.replicate q 0) = lq at *
   generalize ins[q] = r at *
   have hrl2 : (r.map It.av).length = r.length := List.length_map _
   repeat' (first | ((first | apply o_do | apply d_do | apply d_yes rfl rfl rfl); first | exact ls_indexAddr_sl tab_ok rfl rfl rfl rfl hel rfl | exact lsq) | refine a_seq ?_ | refine a_region ?_ | refine o_nil ?_ | refine a_block ?_ | refine a_ret ?_ | refine a_exit ?_ | refine a_skip ?_ | refine a_draw mixed ?_ | refine d_nil (by kernel_rfl) ?_ | refine o_yes rfl rfl rfl ?_ | refine o_no rfl rfl rfl (by decide) ?_ | refine o_no' rfl rfl rfl ?_ | refine a_condT rfl ?_ | refine a_condF rfl ?_ | refine d_no rfl rfl rfl (by decide) ?_ | refine d_no' rfl rfl rfl ?_ | (refine wq2 (fun hb => ?_) (fun hb => ?_) <;> (simp only [hb]; try simp only [hbs, ne_eq] at hb; try (exfalso; first | omega | exact hb trivial))) | fail)
   refine ⟨⟨q + 1, by omega⟩, by dsimp only; omega, ?_⟩
   refine ⟨by repeat' (first | exact trivial | exact FinA.one (FinB.cell (FinC.same rfl)) | exact FinA.one (FinB.cell FinC.nil) | exact FinA.bound rfl | exact FinA.one (FinB.cell (FinC.own rfl rfl rfl rfl)) | exact FinA.one (FinB.cell (FinC.v (by first | rfl | ((first | (simp only [hlf]; done) | (simp [hlf]; done) | simp))))) | exact FinA.one (FinB.cell (FinC.ow rfl (by first | rfl | ((first | (simp only [hlf]; done) | (simp [hlf]; done) | simp))))) | exact FinA.one (FinB.agg' rfl rfl) | exact FinA.one (FinB.cell (FinC.el rfl rfl rfl rfl)) | refine FinA.clo ?_ ?_ | exact FinBs.nil | exact FinB.cell (FinC.same rfl) | exact FinB.cell (FinC.el rfl rfl rfl rfl) | refine FinBs.cons ?_ ?_ | refine ⟨⟨_, rfl, ?_⟩, ?_⟩), by repeat' (first | exact trivial | refine ⟨⟨_, rfl, by first | rfl | ((first | (simp only [hlf]; done) | (simp [hlf]; done) | simp); done) | (simp [renO, *]; done)⟩, by first | rfl | assumption, ?_⟩), rfl⟩
  ·obtain rfl : q = ins.length := by omega
   rw [List.take_length, ← hL0]
   repeat' (first | ((first | apply o_do | apply d_do | apply d_yes rfl rfl rfl); exact lsq) | refine a_seq ?_ | refine a_region ?_ | refine o_nil ?_ | refine a_block ?_ | refine a_ret ?_ | refine a_exit ?_ | refine a_skip ?_ | refine a_draw mixed ?_ | refine d_nil (by kernel_rfl) ?_ | refine o_yes rfl rfl rfl ?_ | refine o_no rfl rfl rfl (by decide) ?_ | refine o_no' rfl rfl rfl ?_ | refine a_condT rfl ?_ | refine a_condF rfl ?_ | refine d_no rfl rfl rfl (by decide) ?_ | refine d_no' rfl rfl rfl ?_ | (refine wq2 (fun hb => ?_) (fun hb => ?_) <;> (simp only [hb]; try simp only [hbs, ne_eq] at hb; try (exfalso; first | omega | exact hb trivial))) | fail)
   refine a_adopt 18 7 61 5 rfl rfl ?_
   refine a_loop (X := {s : Ps // I s ∧ playN ⟨g, s0, d, k, fu, li, de, id⟩ f ins ts mine (N - s.i) s = R})
    (fun s => ⟨[(2, .sl 1 (ins.map riAv)), (3, .sl 1 (ts.map toAv)), (4, .clo (.func 24) [] [.ref 2 0, .ref 3 0]), (5, .ref 4 0), (12, .ref 5 0), (14, .own 6 (s.1.at'.map naAv).length), (15, .v (.int .i64 (s.1.lf : Int))), (18, .own 7 (s.1.out.map Rs.av).length), (19, .v (.int .i64 s.1.w.told)), (20, .v (.int .i64 (s.1.i : Int)))], [(0, .box 75 [.v (.int .u32 bb)]), (1, .box 75 [.v (.int .u32 sd)]), (2, .box 72 [.clo (.func 23) [] [.ref 0 0, .ref 1 0]]), (3, .box 23 [.v (.int .i64 g), .v (.int .i64 s0), .v (.int .i64 d), .v (.int .i64 k), .v (.int .i64 fu), .v (.int .i64 li), .v (.int .i64 de), .v (.int .i64 id)]), (4, .box 23 [.v (.int .i64 g), .v (.int .i64 s0), .v (.int .i64 d), .v (.int .i64 k), .v (.int .i64 fu), .v (.int .i64 li), .v (.int .i64 de), .v (.int .i64 id)]), (5, .box 42 s.1.w.av), (6, .row 3 1 (s.1.at'.map naAv)), (7, .row 61 5 (s.1.out.map Rs.av))]⟩) (fun s => N - s.1.i) ⟨⟨List.replicate ins.length 0, L0, 0, w0', []⟩, hs0, hR⟩ ?_ ?_
   ·dsimp only
    rw [hw0]
    refine ⟨by repeat' (first | exact trivial | exact FinA.one (FinB.cell (FinC.same rfl)) | exact FinA.one (FinB.cell FinC.nil) | exact FinA.bound rfl | exact FinA.one (FinB.cell (FinC.own rfl rfl rfl rfl)) | exact FinA.one (FinB.cell (FinC.v (by first | rfl | (simp)))) | exact FinA.one (FinB.cell (FinC.ow rfl (by first | rfl | (simp)))) | exact FinA.one (FinB.agg' rfl rfl) | exact FinA.one (FinB.cell (FinC.el rfl rfl rfl rfl)) | refine FinA.clo ?_ ?_ | exact FinBs.nil | exact FinB.cell (FinC.same rfl) | exact FinB.cell (FinC.el rfl rfl rfl rfl) | refine FinBs.cons ?_ ?_ | refine ⟨⟨_, rfl, ?_⟩, ?_⟩), by repeat' (first | exact trivial | refine ⟨⟨_, rfl, by first | rfl | (simp; done) | (simp [renO, *]; done)⟩, by first | rfl | assumption, ?_⟩), rfl⟩
   clear hs0 hR hL0 hNew
   rintro ⟨s, hIs, hP⟩
   dsimp only
   have hpot := hI.pot s hIs
   have hle := hpot.le_i
   have hout := hI.out s hIs
   have hoL : (s.out.map Rs.av).length = s.out.length := List.length_map _
   have haL : (s.at'.map naAv).length = s.at'.length := List.length_map _
   have hal := hpot.al
   by_cases h0 : s.lf = 0
   ·have hsR : s = R := by
     rw [← hP, show N - s.i = (N - s.i - 1) + 1 by omega]
     unfold playN
     rw [if_pos h0]
    subst hsR
    unfold Wk.av
    repeat' (first | ((first | apply o_do | apply d_do | apply d_yes rfl rfl rfl); exact lsq) | refine a_seq ?_ | refine a_region ?_ | refine o_nil ?_ | refine a_block ?_ | refine a_ret ?_ | refine a_exit ?_ | refine a_skip ?_ | refine a_draw mixed ?_ | refine d_nil (by kernel_rfl) ?_ | refine o_yes rfl rfl rfl ?_ | refine o_no rfl rfl rfl (by decide) ?_ | refine o_no' rfl rfl rfl ?_ | refine a_condT rfl ?_ | refine a_condF rfl ?_ | refine d_no rfl rfl rfl (by decide) ?_ | refine d_no' rfl rfl rfl ?_ | (refine wq2 (fun hb => ?_) (fun hb => ?_) <;> (simp only [hb]; try simp only [hbs, ne_eq] at hb; try (exfalso; first | omega | exact hb trivial))) | fail)
    all_goals refine rq rfl ?_
    all_goals exact fnq
   ·have hst := hpot.step (j := ⟨g, s0, d, k, fu, li, de, id⟩) (f := f) (mine := mine) (by omega) h0
    have hI' := hI.step s hIs h0
    have hP' : playN ⟨g, s0, d, k, fu, li, de, id⟩ f ins ts mine (N - (pstep ⟨g, s0, d, k, fu, li, de, id⟩ f ins ts mine s).i) (pstep ⟨g, s0, d, k, fu, li, de, id⟩ f ins ts mine s) = R := by
     have e : N - s.i = (N - (s.i + 1)) + 1 := by
      have := hst.1.le_i
      rw [hst.2] at this
      omega
     rw [hst.2]
     rw [e] at hP
     unfold playN at hP
     rw [if_neg h0] at hP
     exact hP
    have hout' := hI.out _ hI'
    have hk := turn_lt (ts := ts) (i := s.i) (n := ins.length) (by omega)
    have hkv := turn_val (ts := ts) (i := s.i) (n := ins.length) (by omega)
    obtain ⟨r, hr⟩ : ∃ r, ins[turn ts s.i ins.length]? = some r := ⟨_, List.getElem?_eq_getElem hk⟩
    obtain ⟨p, hp⟩ : ∃ p, s.at'[turn ts s.i ins.length]? = some p := ⟨_, List.getElem?_eq_getElem (by rw [hal]; exact hk)⟩
    have er : ins.getD (turn ts s.i ins.length) [] = r := by simp [List.getD, hr]
    have ep : s.at'.getD (turn ts s.i ins.length) 0 = p := by simp [List.getD, hp]
    have hone := hI.one s (turn ts s.i ins.length) r p
    unfold pstep at hI' hP' hout'
    dsimp only at hI' hP' hout'
    rw [er, ep] at hI' hP' hout'
    generalize turn ts s.i ins.length = kk at *
    have hel2 : (ins.map riAv)[kk]? = some [.sl 11 (r.map It.av)] := by rw [List.getElem?_map, hr]; rfl
    have hela : (s.at'.map naAv)[kk]? = some (naAv p) := by rw [List.getElem?_map, hp]; rfl
    have hkx : kk < (s.at'.map naAv).length := by omega
    have hrl := hil r (List.mem_of_getElem? hr)
    have hrL : (r.map It.av).length = r.length := List.length_map _
    obtain ⟨a, ha⟩ : ∃ a : Int, (if s.i < ts.length then ts.getD s.i 0 else (s.i : Int)) = a ∧ ((s.i < ts.length ∧ (ts.map toAv)[s.i]? = some (toAv a)) ∨ (¬ s.i < ts.length ∧ a = (s.i : Int))) := by
     by_cases c : s.i < ts.length
     ·exact ⟨ts[s.i], by rw [if_pos c]; simp [List.getD, c], .inl ⟨c, by simp [c]⟩⟩
     ·exact ⟨s.i, by rw [if_neg c], .inr ⟨c, rfl⟩⟩
    obtain ⟨ha1, ha⟩ := ha
    rw [ha1, ← hIl] at hkv
    obtain ⟨r1, hr1⟩ : ∃ r, a.tmod ((ins.map riAv).length : Int) = r := ⟨_, rfl⟩
    rw [hr1] at hkv
    have b1 := tmod_in (a := a) (b := ((ins.map riAv).length : Int)) (by omega)
    rw [hr1] at b1
    cases hx : r[p]? with
    | none =>
     rw [hx] at hI' hP'
     dsimp only at hI' hP'
     have hpl := List.getElem?_eq_none_iff.1 hx
     rcases ha with ⟨c, hel⟩ | ⟨c, rfl⟩
     all_goals
      repeat' (first | ((first | apply o_do | apply d_do | apply d_yes rfl rfl rfl); first | exact ls_indexAddr_sl tab_ok rfl rfl rfl rfl hel rfl | exact ls_indexAddr_sl tab_ok rfl rfl rfl rfl hel2 rfl | exact ls_rem64 hr1 rfl rfl (by omega) (by omega) rfl | exact ls_rem64 hkv rfl rfl (by omega) (by omega) rfl | exact ls_indexAddr_own tab_ok rfl rfl rfl rfl rfl rfl hkx rfl | exact ls_load_eref tab_ok rfl rfl rfl hela rfl rfl rfl rfl | exact lsq) | refine a_seq ?_ | refine a_region ?_ | refine o_nil ?_ | refine a_block ?_ | refine a_ret ?_ | refine a_exit ?_ | refine a_skip ?_ | refine a_draw mixed ?_ | refine d_nil (by kernel_rfl) ?_ | refine o_yes rfl rfl rfl ?_ | refine o_no rfl rfl rfl (by decide) ?_ | refine o_no' rfl rfl rfl ?_ | refine a_condT rfl ?_ | refine a_condF rfl ?_ | refine d_no rfl rfl rfl (by decide) ?_ | refine d_no' rfl rfl rfl ?_ | (refine wq2 (fun hb => ?_) (fun hb => ?_) <;> (simp only [hb]; try simp only [hbs, ne_eq] at hb; try (exfalso; first | omega | exact hb trivial))) | fail)
      refine ⟨⟨_, hI', hP'⟩, by dsimp only; omega, ?_⟩
      dsimp only
      refine ⟨by repeat' (first | exact trivial | exact FinA.one (FinB.cell (FinC.same rfl)) | exact FinA.one (FinB.cell FinC.nil) | exact FinA.bound rfl | exact FinA.one (FinB.cell (FinC.own rfl rfl rfl rfl)) | exact FinA.one (FinB.cell (FinC.v (by first | rfl | (simp)))) | exact FinA.one (FinB.cell (FinC.ow rfl (by first | rfl | (simp)))) | exact FinA.one (FinB.agg' rfl rfl) | exact FinA.one (FinB.cell (FinC.el rfl rfl rfl rfl)) | refine FinA.clo ?_ ?_ | exact FinBs.nil | exact FinB.cell (FinC.same rfl) | exact FinB.cell (FinC.el rfl rfl rfl rfl) | refine FinBs.cons ?_ ?_ | refine ⟨⟨_, rfl, ?_⟩, ?_⟩), by repeat' (first | exact trivial | refine ⟨⟨_, rfl, by first | rfl | (simp; done) | (simp [renO, *]; done)⟩, by first | rfl | assumption, ?_⟩), rfl⟩
    | some x =>
     rw [hx] at hI' hP' hout'
     dsimp only at hI' hP' hout'
     have hpl : p < r.length := (List.getElem?_eq_some_iff.1 hx).1
     have helx : (r.map It.av)[p]? = some (It.av x) := by rw [List.getElem?_map, hx]; rfl
     have hset : (s.at'.map naAv).set kk [.v (.int .i64 ((p : Int) + 1))] = (s.at'.set kk (p + 1)).map naAv := by rw [List.map_set]; rfl
     have hsl : ((s.at'.set kk (p + 1)).map naAv).length = (s.at'.map naAv).length := by simp
     have hlf1 : ((s.lf - 1 : Nat) : Int) = (s.lf : Int) - 1 := by omega
     have hlfb : s.lf ≤ 8000 := by have := hpot.le; omega
     have hpu : ∀ y : Int, ∀ (σ : Store) (μ : Nat → Value) (w : World) (A : Nat → Prop) (z : Value), rep σ μ w A (.v (.int .i64 y)) z → rep [] μ w A (.v (.int .i64 y)) z := fun y _ _ _ _ _ h => rep_pureB h rfl
     have hcl := hclo x (hit r (List.mem_of_getElem? hr) x (List.mem_of_getElem? hx))
     cases hm : mine x
     ·rw [if_neg (by rw [hm]; simp)] at hI' hP'
      rw [hm] at hcl
      rcases ha with ⟨c, hel⟩ | ⟨c, rfl⟩
      all_goals
       repeat' (first | ((first | apply o_do | apply d_do | apply d_yes rfl rfl rfl); first | exact ls_indexAddr_sl tab_ok rfl rfl rfl rfl hel rfl | exact ls_indexAddr_sl tab_ok rfl rfl rfl rfl hel2 rfl | exact ls_indexAddr_sl tab_ok rfl rfl rfl rfl helx rfl | exact ls_rem64 hr1 rfl rfl (by omega) (by omega) rfl | exact ls_rem64 hkv rfl rfl (by omega) (by omega) rfl | exact ls_indexAddr_own tab_ok rfl rfl rfl rfl rfl rfl hkx rfl | exact ls_load_eref tab_ok rfl rfl rfl hela rfl rfl rfl rfl | exact ls_store_eref (cs' := [.v (.int .i64 ((p : Int) + 1))]) tab_ok rfl rfl rfl rfl hela rfl rfl (hpu _) rfl rfl rfl rfl | exact lca [0, 1, 2, 3] 50 hcl | exact lsq) | refine a_seq ?_ | refine a_region ?_ | refine o_nil ?_ | refine a_block ?_ | refine a_ret ?_ | refine a_exit ?_ | refine a_skip ?_ | refine a_draw mixed ?_ | refine d_nil (by kernel_rfl) ?_ | refine o_yes rfl rfl rfl ?_ | refine o_no rfl rfl rfl (by decide) ?_ | refine o_no' rfl rfl rfl ?_ | refine a_condT rfl ?_ | refine a_condF rfl ?_ | refine d_no rfl rfl rfl (by decide) ?_ | refine d_no' rfl rfl rfl ?_ | (refine wq2 (fun hb => ?_) (fun hb => ?_) <;> (simp only [hb]; try simp only [hbs, ne_eq] at hb; try (exfalso; first | omega | exact hb trivial))) | fail)
       refine ⟨⟨_, hI', hP'⟩, by dsimp only; omega, ?_⟩
       dsimp only
       rw [hlf1]
       refine ⟨by repeat' (first | exact trivial | exact FinA.one (FinB.cell (FinC.same rfl)) | exact FinA.one (FinB.cell FinC.nil) | exact FinA.bound rfl | exact FinA.one (FinB.cell (FinC.own rfl rfl rfl rfl)) | exact FinA.one (FinB.cell (FinC.v (by first | rfl | ((first | (simp only [hset]; done) | (rw [← hset]; simp) | simp))))) | exact FinA.one (FinB.cell (FinC.ow rfl (by first | rfl | ((first | (simp only [hset]; done) | (rw [← hset]; simp) | simp))))) | exact FinA.one (FinB.agg' rfl rfl) | exact FinA.one (FinB.cell (FinC.el rfl rfl rfl rfl)) | refine FinA.clo ?_ ?_ | exact FinBs.nil | exact FinB.cell (FinC.same rfl) | exact FinB.cell (FinC.el rfl rfl rfl rfl) | refine FinBs.cons ?_ ?_ | refine ⟨⟨_, rfl, ?_⟩, ?_⟩), by repeat' (first | exact trivial | refine ⟨⟨_, rfl, by first | rfl | ((first | (simp only [hset]; done) | (rw [← hset]; simp) | simp); done) | (simp [renO, *]; done)⟩, by first | rfl | assumption, ?_⟩), rfl⟩
     ·rw [if_pos hm] at hI' hP' hout'
      rw [hm] at hcl
      obtain ⟨⟨o1, o2, o3, o4⟩, w', T, hTe, hsc, hgm⟩ := hone x hIs hr hp hx hm
      have hTl := run_len ⟨g, s0, d, k, fu, li, de, id⟩ f s.w (kk : Int) x o1 o2 o4
      have hRC := hRun s.w (kk : Int) x o1 o2 o4 o3
      rw [hTe] at hI' hP' hout' hTl hRC
      unfold RnW.av at hRC
      dsimp only at hI' hP' hout' hTl hRC
      have hgl := hI.gs _ hI'
      dsimp only at hgl
      have hTL : (T.map It.av).length = T.length := List.length_map _
      rcases ha with ⟨c, hel⟩ | ⟨c, rfl⟩
      all_goals
       repeat' (first | ((first | apply o_do | apply d_do | apply d_yes rfl rfl rfl); first | exact ls_indexAddr_sl tab_ok rfl rfl rfl rfl hel rfl | exact ls_indexAddr_sl tab_ok rfl rfl rfl rfl hel2 rfl | exact ls_indexAddr_sl tab_ok rfl rfl rfl rfl helx rfl | exact ls_rem64 hr1 rfl rfl (by omega) (by omega) rfl | exact ls_rem64 hkv rfl rfl (by omega) (by omega) rfl | exact ls_indexAddr_own tab_ok rfl rfl rfl rfl rfl rfl hkx rfl | exact ls_load_eref tab_ok rfl rfl rfl hela rfl rfl rfl rfl | exact ls_store_eref (cs' := [.v (.int .i64 ((p : Int) + 1))]) tab_ok rfl rfl rfl rfl hela rfl rfl (hpu _) rfl rfl rfl rfl | exact lca [0, 1, 2, 3] 50 hcl | exact lsc (hRC) | exact lsq) | refine a_seq ?_ | refine a_region ?_ | refine o_nil ?_ | refine a_block ?_ | refine a_ret ?_ | refine a_exit ?_ | refine a_skip ?_ | refine a_draw mixed ?_ | refine d_nil (by kernel_rfl) ?_ | refine o_yes rfl rfl rfl ?_ | refine o_no rfl rfl rfl (by decide) ?_ | refine o_no' rfl rfl rfl ?_ | refine a_condT rfl ?_ | refine a_condF rfl ?_ | refine d_no rfl rfl rfl (by decide) ?_ | refine d_no' rfl rfl rfl ?_ | (refine wq2 (fun hb => ?_) (fun hb => ?_) <;> (simp only [hb]; try simp only [hbs, ne_eq] at hb; try (exfalso; first | omega | exact hb trivial))) | fail)
       refine a_loop (X := {y : Nat × Int × List Rs // y.1 ≤ T.length ∧ scan y.2.1 (T.drop y.1) = some w'.told ∧ y.2.2 ++ resT (T.drop y.1) = s.out ++ resT T}) (fun y => ⟨[(2, .sl 1 (ins.map riAv)), (3, .sl 1 (ts.map toAv)), (4, .clo (.func 24) [] [.ref 2 0, .ref 3 0]), (5, .ref 4 0), (12, .ref 5 0), (14, .own 6 ((s.at'.set kk (p + 1)).map naAv).length), (15, .v (.int .i64 ((s.lf : Int) - 1))), (18, .own 7 (y.1.2.2.map Rs.av).length), (19, .v (.int .i64 y.1.2.1)), (20, .v (.int .i64 (s.i : Int))), (129, .sl 11 (T.map It.av)), (130, .v (.int .i64 (T.map It.av).length)), (131, .v (.int .i64 y.1.1))], [(0, .box 75 [.v (.int .u32 bb)]), (1, .box 75 [.v (.int .u32 sd)]), (2, .box 72 [.clo (.func 23) [] [.ref 0 0, .ref 1 0]]), (3, .box 23 [.v (.int .i64 g), .v (.int .i64 s0), .v (.int .i64 d), .v (.int .i64 k), .v (.int .i64 fu), .v (.int .i64 li), .v (.int .i64 de), .v (.int .i64 id)]), (4, .box 23 [.v (.int .i64 g), .v (.int .i64 s0), .v (.int .i64 d), .v (.int .i64 k), .v (.int .i64 fu), .v (.int .i64 li), .v (.int .i64 de), .v (.int .i64 id)]), (5, .box 42 w'.av), (6, .row 3 1 ((s.at'.set kk (p + 1)).map naAv)), (7, .row 61 5 (y.1.2.2.map Rs.av))]⟩) (fun y => T.length - y.1.1) ⟨(0, s.w.told, s.out), Nat.zero_le _, hsc, rfl⟩ ?_ ?_
       ·refine ⟨by repeat' (first | exact trivial | exact FinA.one (FinB.cell (FinC.same rfl)) | exact FinA.one (FinB.cell FinC.nil) | exact FinA.bound rfl | exact FinA.one (FinB.cell (FinC.own rfl rfl rfl rfl)) | exact FinA.one (FinB.cell (FinC.v (by first | rfl | ((first | (simp only [hset]; done) | (rw [← hset]; simp) | simp))))) | exact FinA.one (FinB.cell (FinC.ow rfl (by first | rfl | ((first | (simp only [hset]; done) | (rw [← hset]; simp) | simp))))) | exact FinA.one (FinB.agg' rfl rfl) | exact FinA.one (FinB.cell (FinC.el rfl rfl rfl rfl)) | refine FinA.clo ?_ ?_ | exact FinBs.nil | exact FinB.cell (FinC.same rfl) | exact FinB.cell (FinC.el rfl rfl rfl rfl) | refine FinBs.cons ?_ ?_ | refine ⟨⟨_, rfl, ?_⟩, ?_⟩), by repeat' (first | exact trivial | refine ⟨⟨_, rfl, by first | rfl | ((first | (simp only [hset]; done) | (rw [← hset]; simp) | simp); done) | (simp [renO, *]; done)⟩, by first | rfl | assumption, ?_⟩), rfl⟩
       rintro ⟨⟨q, m, O⟩, hq, hsq, hOq⟩
       dsimp only at hq hsq hOq ⊢
       have hOL : (O.map Rs.av).length = O.length := List.length_map _
       have hOl : O.length ≤ 1000000 := by
        have := congrArg List.length hOq
        rw [List.length_append] at this
        omega
       by_cases hql : q < T.length
       ·rw [List.drop_eq_getElem_cons hql] at hsq hOq
        have helT : (T.map It.av)[q]? = some (It.av T[q]) := by simp [hql]
        rw [resT_cons] at hOq
        generalize T[q] = y at *
        obtain ⟨y1, y2, y3, y4, y5, y6, y7, y8, y9, y10, y11⟩ := y
        unfold scan at hsq
        dsimp only at hsq hOq
        by_cases k5 : y1 = 5
        ·rw [if_pos k5] at hsq hOq
         by_cases hh : y8 ≤ m
         ·rw [if_pos hh] at hsq; cases hsq
         ·rw [if_neg hh] at hsq
          have hmap : (O ++ [rsOf ⟨y1, y2, y3, y4, y5, y6, y7, y8, y9, y10, y11⟩]).map Rs.av = O.map Rs.av ++ [[.v (.int .i64 y7), .v (.int .i64 y8), .v (.string y9), .v (.int .i64 y10), .v (.int .i64 y11)]] := by rw [List.map_append]; rfl
          repeat' (first | ((first | apply o_do | apply d_do | apply d_yes rfl rfl rfl); first | exact ls_indexAddr_sl tab_ok rfl rfl rfl rfl helT rfl | focus (apply ls_append tab_ok rfl rfl ?hn rfl ?hsrc rfl ?hlen rfl rfl; (case hn => rfl); (case hsrc => first | exact SrcIs.sl | exact SrcIs.nil | exact SrcIs.own rfl rfl | fail); (case hlen => (try simp only [List.length_cons, List.length_nil]); (omega)); first | done | fail) | exact lsq) | refine a_seq ?_ | refine a_region ?_ | refine o_nil ?_ | refine a_block ?_ | refine a_ret ?_ | refine a_exit ?_ | refine a_skip ?_ | refine a_draw mixed ?_ | refine d_nil (by kernel_rfl) ?_ | refine o_yes rfl rfl rfl ?_ | refine o_no rfl rfl rfl (by decide) ?_ | refine o_no' rfl rfl rfl ?_ | refine a_condT rfl ?_ | refine a_condF rfl ?_ | refine d_no rfl rfl rfl (by decide) ?_ | refine d_no' rfl rfl rfl ?_ | (refine wq2 (fun hb => ?_) (fun hb => ?_) <;> (simp only [hb]; try simp only [hbs, ne_eq] at hb; try (exfalso; first | omega | exact hb trivial))) | fail)
          refine ⟨⟨(q + 1, m, O ++ [rsOf ⟨y1, y2, y3, y4, y5, y6, y7, y8, y9, y10, y11⟩]), hql, hsq, by dsimp only; rw [List.append_assoc]; exact hOq⟩, by dsimp only; omega, ?_⟩
          dsimp only
          rw [hmap]
          refine ⟨by repeat' (first | exact trivial | exact FinA.one (FinB.cell (FinC.same rfl)) | exact FinA.one (FinB.cell FinC.nil) | exact FinA.bound rfl | exact FinA.one (FinB.cell (FinC.own rfl rfl rfl rfl)) | exact FinA.one (FinB.cell (FinC.v (by first | rfl | (simp)))) | exact FinA.one (FinB.cell (FinC.ow rfl (by first | rfl | (simp)))) | exact FinA.one (FinB.agg' rfl rfl) | exact FinA.one (FinB.cell (FinC.el rfl rfl rfl rfl)) | refine FinA.clo ?_ ?_ | exact FinBs.nil | exact FinB.cell (FinC.same rfl) | exact FinB.cell (FinC.el rfl rfl rfl rfl) | refine FinBs.cons ?_ ?_ | refine ⟨⟨_, rfl, ?_⟩, ?_⟩), by repeat' (first | exact trivial | refine ⟨⟨_, rfl, by first | rfl | (simp; done) | (simp [renO, *]; done)⟩, by first | rfl | assumption, ?_⟩), rfl⟩
        ·rw [if_neg k5] at hsq hOq
         by_cases k2 : y1 = 2
         ·rw [if_pos k2] at hsq
          by_cases hh : y5 ≤ m
          ·rw [if_pos hh] at hsq; cases hsq
          ·rw [if_neg hh] at hsq
           repeat' (first | ((first | apply o_do | apply d_do | apply d_yes rfl rfl rfl); first | exact ls_indexAddr_sl tab_ok rfl rfl rfl rfl helT rfl | exact lsq) | refine a_seq ?_ | refine a_region ?_ | refine o_nil ?_ | refine a_block ?_ | refine a_ret ?_ | refine a_exit ?_ | refine a_skip ?_ | refine a_draw mixed ?_ | refine d_nil (by kernel_rfl) ?_ | refine o_yes rfl rfl rfl ?_ | refine o_no rfl rfl rfl (by decide) ?_ | refine o_no' rfl rfl rfl ?_ | refine a_condT rfl ?_ | refine a_condF rfl ?_ | refine d_no rfl rfl rfl (by decide) ?_ | refine d_no' rfl rfl rfl ?_ | (refine wq2 (fun hb => ?_) (fun hb => ?_) <;> (simp only [hb]; try simp only [hbs, ne_eq] at hb; try (exfalso; first | omega | exact hb trivial))) | fail)
           refine ⟨⟨(q + 1, y5, O), hql, hsq, hOq⟩, by dsimp only; omega, ?_⟩
           refine ⟨by repeat' (first | exact trivial | exact FinA.one (FinB.cell (FinC.same rfl)) | exact FinA.one (FinB.cell FinC.nil) | exact FinA.bound rfl | exact FinA.one (FinB.cell (FinC.own rfl rfl rfl rfl)) | exact FinA.one (FinB.cell (FinC.v (by first | rfl | (simp)))) | exact FinA.one (FinB.cell (FinC.ow rfl (by first | rfl | (simp)))) | exact FinA.one (FinB.agg' rfl rfl) | exact FinA.one (FinB.cell (FinC.el rfl rfl rfl rfl)) | refine FinA.clo ?_ ?_ | exact FinBs.nil | exact FinB.cell (FinC.same rfl) | exact FinB.cell (FinC.el rfl rfl rfl rfl) | refine FinBs.cons ?_ ?_ | refine ⟨⟨_, rfl, ?_⟩, ?_⟩), by repeat' (first | exact trivial | refine ⟨⟨_, rfl, by first | rfl | (simp; done) | (simp [renO, *]; done)⟩, by first | rfl | assumption, ?_⟩), rfl⟩
         ·rw [if_neg k2] at hsq
          repeat' (first | ((first | apply o_do | apply d_do | apply d_yes rfl rfl rfl); first | exact ls_indexAddr_sl tab_ok rfl rfl rfl rfl helT rfl | exact lsq) | refine a_seq ?_ | refine a_region ?_ | refine o_nil ?_ | refine a_block ?_ | refine a_ret ?_ | refine a_exit ?_ | refine a_skip ?_ | refine a_draw mixed ?_ | refine d_nil (by kernel_rfl) ?_ | refine o_yes rfl rfl rfl ?_ | refine o_no rfl rfl rfl (by decide) ?_ | refine o_no' rfl rfl rfl ?_ | refine a_condT rfl ?_ | refine a_condF rfl ?_ | refine d_no rfl rfl rfl (by decide) ?_ | refine d_no' rfl rfl rfl ?_ | (refine wq2 (fun hb => ?_) (fun hb => ?_) <;> (simp only [hb]; try simp only [hbs, ne_eq] at hb; try (exfalso; first | omega | exact hb trivial))) | fail)
          refine ⟨⟨(q + 1, m, O), hql, hsq, hOq⟩, by dsimp only; omega, ?_⟩
          refine ⟨by repeat' (first | exact trivial | exact FinA.one (FinB.cell (FinC.same rfl)) | exact FinA.one (FinB.cell FinC.nil) | exact FinA.bound rfl | exact FinA.one (FinB.cell (FinC.own rfl rfl rfl rfl)) | exact FinA.one (FinB.cell (FinC.v (by first | rfl | (simp)))) | exact FinA.one (FinB.cell (FinC.ow rfl (by first | rfl | (simp)))) | exact FinA.one (FinB.agg' rfl rfl) | exact FinA.one (FinB.cell (FinC.el rfl rfl rfl rfl)) | refine FinA.clo ?_ ?_ | exact FinBs.nil | exact FinB.cell (FinC.same rfl) | exact FinB.cell (FinC.el rfl rfl rfl rfl) | refine FinBs.cons ?_ ?_ | refine ⟨⟨_, rfl, ?_⟩, ?_⟩), by repeat' (first | exact trivial | refine ⟨⟨_, rfl, by first | rfl | (simp; done) | (simp [renO, *]; done)⟩, by first | rfl | assumption, ?_⟩), rfl⟩
       ·obtain rfl : q = T.length := by omega
        rw [List.drop_length] at hsq hOq
        simp only [scan, Option.some.injEq] at hsq
        subst hsq
        have hO2 : O = s.out ++ resT T := by rw [← hOq]; simp [resT]
        subst hO2
        unfold Wk.av
        repeat' (first | ((first | apply o_do | apply d_do | apply d_yes rfl rfl rfl); exact lsq) | refine a_seq ?_ | refine a_region ?_ | refine o_nil ?_ | refine a_block ?_ | refine a_ret ?_ | refine a_exit ?_ | refine a_skip ?_ | refine a_draw mixed ?_ | refine d_nil (by kernel_rfl) ?_ | refine o_yes rfl rfl rfl ?_ | refine o_no rfl rfl rfl (by decide) ?_ | refine o_no' rfl rfl rfl ?_ | refine a_condT rfl ?_ | refine a_condF rfl ?_ | refine d_no rfl rfl rfl (by decide) ?_ | refine d_no' rfl rfl rfl ?_ | (refine wq2 (fun hb => ?_) (fun hb => ?_) <;> (simp only [hb]; try simp only [hbs, ne_eq] at hb; try (exfalso; first | omega | exact hb trivial))) | fail)
        have hGl : (w'.gs.map Gp.av).length = w'.gs.length := List.length_map _
        refine a_loop (X := {q : Nat // q ≤ w'.gs.length}) (fun y => ⟨[(2, .sl 1 (ins.map riAv)), (3, .sl 1 (ts.map toAv)), (4, .clo (.func 24) [] [.ref 2 0, .ref 3 0]), (5, .ref 4 0), (12, .ref 5 0), (14, .own 6 ((s.at'.set kk (p + 1)).map naAv).length), (15, .v (.int .i64 ((s.lf : Int) - 1))), (18, .own 7 ((s.out ++ resT T).map Rs.av).length), (19, .v (.int .i64 w'.told)), (20, .v (.int .i64 (s.i : Int))), (160, .sl 3 (w'.gs.map Gp.av)), (161, .v (.int .i64 (w'.gs.map Gp.av).length)), (162, .v (.int .i64 y.1))], [(0, .box 75 [.v (.int .u32 bb)]), (1, .box 75 [.v (.int .u32 sd)]), (2, .box 72 [.clo (.func 23) [] [.ref 0 0, .ref 1 0]]), (3, .box 23 [.v (.int .i64 g), .v (.int .i64 s0), .v (.int .i64 d), .v (.int .i64 k), .v (.int .i64 fu), .v (.int .i64 li), .v (.int .i64 de), .v (.int .i64 id)]), (4, .box 23 [.v (.int .i64 g), .v (.int .i64 s0), .v (.int .i64 d), .v (.int .i64 k), .v (.int .i64 fu), .v (.int .i64 li), .v (.int .i64 de), .v (.int .i64 id)]), (5, .box 42 w'.av), (6, .row 3 1 ((s.at'.set kk (p + 1)).map naAv)), (7, .row 61 5 ((s.out ++ resT T).map Rs.av))]⟩) (fun y => w'.gs.length - y.1) ⟨0, Nat.zero_le _⟩ ?_ ?_
        ·unfold Wk.av
         refine ⟨by repeat' (first | exact trivial | exact FinA.one (FinB.cell (FinC.same rfl)) | exact FinA.one (FinB.cell FinC.nil) | exact FinA.bound rfl | exact FinA.one (FinB.cell (FinC.own rfl rfl rfl rfl)) | exact FinA.one (FinB.cell (FinC.v (by first | rfl | (simp)))) | exact FinA.one (FinB.cell (FinC.ow rfl (by first | rfl | (simp)))) | exact FinA.one (FinB.agg' rfl rfl) | exact FinA.one (FinB.cell (FinC.el rfl rfl rfl rfl)) | refine FinA.clo ?_ ?_ | exact FinBs.nil | exact FinB.cell (FinC.same rfl) | exact FinB.cell (FinC.el rfl rfl rfl rfl) | refine FinBs.cons ?_ ?_ | refine ⟨⟨_, rfl, ?_⟩, ?_⟩), by repeat' (first | exact trivial | refine ⟨⟨_, rfl, by first | rfl | (simp; done) | (simp [renO, *]; done)⟩, by first | rfl | assumption, ?_⟩), rfl⟩
        rintro ⟨q, hq⟩
        dsimp only
        by_cases hql : q < w'.gs.length
        ·have helG : (w'.gs.map Gp.av)[q]? = some (Gp.av w'.gs[q]) := by simp [hql]
         have hgq := hgm _ (List.getElem_mem hql)
         generalize w'.gs[q] = y at *
         obtain ⟨y1, y2, y3⟩ := y
         dsimp only at hgq
         subst hgq
         unfold Gp.av at helG
         dsimp only at helG
         unfold Wk.av
         repeat' (first | ((first | apply o_do | apply d_do | apply d_yes rfl rfl rfl); first | exact ls_indexAddr_sl tab_ok rfl rfl rfl rfl helG rfl | exact lsq) | refine a_seq ?_ | refine a_region ?_ | refine o_nil ?_ | refine a_block ?_ | refine a_ret ?_ | refine a_exit ?_ | refine a_skip ?_ | refine a_draw mixed ?_ | refine d_nil (by kernel_rfl) ?_ | refine o_yes rfl rfl rfl ?_ | refine o_no rfl rfl rfl (by decide) ?_ | refine o_no' rfl rfl rfl ?_ | refine a_condT rfl ?_ | refine a_condF rfl ?_ | refine d_no rfl rfl rfl (by decide) ?_ | refine d_no' rfl rfl rfl ?_ | (refine wq2 (fun hb => ?_) (fun hb => ?_) <;> (simp only [hb]; try simp only [hbs, ne_eq] at hb; try (exfalso; first | omega | exact hb trivial))) | fail)
         refine ⟨⟨q + 1, by omega⟩, by dsimp only; omega, ?_⟩
         refine ⟨by repeat' (first | exact trivial | exact FinA.one (FinB.cell (FinC.same rfl)) | exact FinA.one (FinB.cell FinC.nil) | exact FinA.bound rfl | exact FinA.one (FinB.cell (FinC.own rfl rfl rfl rfl)) | exact FinA.one (FinB.cell (FinC.v (by first | rfl | (simp)))) | exact FinA.one (FinB.cell (FinC.ow rfl (by first | rfl | (simp)))) | exact FinA.one (FinB.agg' rfl rfl) | exact FinA.one (FinB.cell (FinC.el rfl rfl rfl rfl)) | refine FinA.clo ?_ ?_ | exact FinBs.nil | exact FinB.cell (FinC.same rfl) | exact FinB.cell (FinC.el rfl rfl rfl rfl) | refine FinBs.cons ?_ ?_ | refine ⟨⟨_, rfl, ?_⟩, ?_⟩), by repeat' (first | exact trivial | refine ⟨⟨_, rfl, by first | rfl | (simp; done) | (simp [renO, *]; done)⟩, by first | rfl | assumption, ?_⟩), rfl⟩
        ·obtain rfl : q = w'.gs.length := by omega
         repeat' (first | ((first | apply o_do | apply d_do | apply d_yes rfl rfl rfl); exact lsq) | refine a_seq ?_ | refine a_region ?_ | refine o_nil ?_ | refine a_block ?_ | refine a_ret ?_ | refine a_exit ?_ | refine a_skip ?_ | refine a_draw mixed ?_ | refine d_nil (by kernel_rfl) ?_ | refine o_yes rfl rfl rfl ?_ | refine o_no rfl rfl rfl (by decide) ?_ | refine o_no' rfl rfl rfl ?_ | refine a_condT rfl ?_ | refine a_condF rfl ?_ | refine d_no rfl rfl rfl (by decide) ?_ | refine d_no' rfl rfl rfl ?_ | (refine wq2 (fun hb => ?_) (fun hb => ?_) <;> (simp only [hb]; try simp only [hbs, ne_eq] at hb; try (exfalso; first | omega | exact hb trivial))) | fail)
         refine ⟨⟨_, hI', hP'⟩, by dsimp only; omega, ?_⟩
         dsimp only
         rw [hlf1]
         refine ⟨by repeat' (first | exact trivial | exact FinA.one (FinB.cell (FinC.same rfl)) | exact FinA.one (FinB.cell FinC.nil) | exact FinA.bound rfl | exact FinA.one (FinB.cell (FinC.own rfl rfl rfl rfl)) | exact FinA.one (FinB.cell (FinC.v (by first | rfl | (simp)))) | exact FinA.one (FinB.cell (FinC.ow rfl (by first | rfl | (simp)))) | exact FinA.one (FinB.agg' rfl rfl) | exact FinA.one (FinB.cell (FinC.el rfl rfl rfl rfl)) | refine FinA.clo ?_ ?_ | exact FinBs.nil | exact FinB.cell (FinC.same rfl) | exact FinB.cell (FinC.el rfl rfl rfl rfl) | refine FinBs.cons ?_ ?_ | refine ⟨⟨_, rfl, ?_⟩, ?_⟩), by repeat' (first | exact trivial | refine ⟨⟨_, rfl, by first | rfl | (simp; done) | (simp [renO, *]; done)⟩, by first | rfl | assumption, ?_⟩), rfl⟩
def mineI (g : Int) (own : Int → Bool) (x : It) : Bool := !decide (x.kind = 1) || own (grpV x.key.data.toList g)
def mineE (g : Int) (own : Int → Bool) (e : Et) : Bool := own (grpV e.key.data.toList g)
section
variable {j : Jb} {nos : List Int} {own : Int → Bool} {row : List It} {T : List Et} {V : List Vl}
theorem mk_filter {g : Int} : ∀ (row : List It), mkI (row.filter (mineI g own)) = mkI row := by
 intro row
 refine rev_ind (p := fun row => mkI (row.filter (mineI g own)) = mkI row) rfl (fun l x ih => ?_) row
 have h0 : ∀ (l : List It) (x : It), mkI (l ++ [x]) = if x.kind = 2 then x.mark else mkI l := fun l x => by unfold mkI; rw [List.foldl_append]; rfl
 rw [List.filter_append, h0]
 cases hm : mineI g own x
 ·have : x.kind = 1 := by
   unfold mineI at hm
   simp only [Bool.or_eq_false_iff, Bool.not_eq_false', decide_eq_true_eq] at hm
   exact hm.1
  rw [show [x].filter (mineI g own) = [] by rw [List.filter_cons, hm]; rfl, List.append_nil, ih, if_neg (by omega)]
 ·rw [show [x].filter (mineI g own) = [x] by rw [List.filter_cons, hm]; rfl, h0, ih]
theorem row_filter' {g : Int} : ∀ (row : List It), RowOk row → RowOk (row.filter (mineI g own)) := by
 intro row
 refine rev_ind (p := fun row => RowOk row → RowOk (row.filter (mineI g own))) (fun _ a y b h => by simp at h) (fun l x ih h => ?_) row
 have h1 := ih h.pre
 rw [List.filter_append]
 cases hm : mineI g own x
 ·rw [show [x].filter (mineI g own) = [] by rw [List.filter_cons, hm]; rfl, List.append_nil]
  exact h1
 ·rw [show [x].filter (mineI g own) = [x] by rw [List.filter_cons, hm]; rfl]
  refine h1.snoc ?_
  rw [mk_filter]
  exact h l x [] rfl
theorem ev_filter {g : Int} : ∀ (row : List It), RowOk row → evsI (row.filter (mineI g own)) = (evsI row).filter (mineE g own) := by
 intro row
 refine rev_ind (p := fun row => RowOk row → evsI (row.filter (mineI g own)) = (evsI row).filter (mineE g own)) (fun _ => rfl) (fun l x ih h => ?_) row
 rw [List.filter_append, evsI_app, evsI_app, List.filter_append, ih h.pre]
 congr 1
 rcases h l x [] rfl with ⟨e, rfl, _⟩ | ⟨t, rfl, _⟩
 ·have hm : mineI g own (evItem e) = mineE g own e := by
   show (!decide ((1 : Int) = 1) || own (grpV e.key.data.toList g)) = own (grpV e.key.data.toList g)
   simp
  rw [List.filter_cons, hm, show evsI [evItem e] = [e] from rfl, List.filter_cons]
  cases mineE g own e <;> rfl
 ·have hm : mineI g own (markItem t) = true := by
   show (!decide ((2 : Int) = 1) || _) = true
   simp
  rw [List.filter_cons, hm]
  rfl
theorem flat_filter {g : Int} : ∀ {rows : List (List It)}, (∀ r ∈ rows, RowOk r) → (rows.map (List.filter (mineI g own))).flatMap evsI = (rows.flatMap evsI).filter (mineE g own)
 | [], _ => rfl
 | r :: rows, h => by
  have ih := flat_filter (g := g) (rows := rows) fun x hx => h x (by simp [hx])
  rw [List.map_cons, List.flatMap_cons, List.flatMap_cons, List.filter_append, ih, ev_filter r (h r (by simp))]
theorem TG.part (hT : TG j nos T) : TG j (nos.filter own) (T.filter (mineE j.g own)) := by
 have hp : T.Perm (T.filter (mineE j.g own) ++ T.filter fun e => !mineE j.g own e) := filter_parts _ T
 refine ⟨⟨hT.jg.ok, hT.jg.lt.sublist List.filter_sublist, fun no hn => hT.jg.rng no (List.mem_filter.1 hn).1⟩, fun e he => ?_, fun e he => hT.ev e (List.mem_filter.1 he).1, ?_, (hT.vg hp).few⟩
 ·obtain ⟨h1, h2⟩ := List.mem_filter.1 he
  exact List.mem_filter.2 ⟨hT.all e h1, h2⟩
 ·exact Nat.le_trans (List.length_filter_le _ _) hT.len
theorem RW.part {rows : List (List It)} (hR : RW j nos rows) : RW j (nos.filter own) (rows.map (List.filter (mineI j.g own))) := by
 refine ⟨fun r hr => ?_, by rw [List.length_map]; exact hR.n1, by rw [List.length_map]; exact hR.n8, ?_⟩
 ·obtain ⟨x, hx, rfl⟩ := List.mem_map.1 hr
  exact row_filter' x (hR.ok x hx)
 ·rw [flat_filter hR.ok]
  exact hR.tg.part
theorem vals_part {s d g : Int} {no : Int} (h : own no = true) : ∀ (T : List Et), (allVals s d (T.filter (mineE g own))).filter (fun v => decide (grpV v.key.data.toList g = no)) = (allVals s d T).filter (fun v => decide (grpV v.key.data.toList g = no))
 | [] => rfl
 | e :: T => by
  have ih := vals_part (s := s) (d := d) (g := g) h T
  have h2 : allVals s d (e :: T) = valsV s d e ++ allVals s d T := rfl
  rw [h2, List.filter_append, List.filter_cons]
  cases hm : mineE g own e
  ·have h3 : (valsV s d e).filter (fun v => decide (grpV v.key.data.toList g = no)) = [] := by
    rw [List.filter_eq_nil_iff]
    intro v hv
    rw [vals_key v hv]
    unfold mineE at hm
    simp only [decide_eq_true_eq]
    rintro rfl
    rw [h] at hm; cases hm
   rw [if_neg (by simp), h3, List.nil_append]
   exact ih
  ·rw [if_pos rfl]
   have h4 : allVals s d (e :: T.filter (mineE g own)) = valsV s d e ++ allVals s d (T.filter (mineE g own)) := rfl
   rw [h4, List.filter_append, ih]
theorem outD_part (T : List Et) (t : Int) : outD j (nos.filter own) (allVals j.s j.d (T.filter (mineE j.g own))) t = outD j (nos.filter own) (allVals j.s j.d T) t := by
 unfold outD
 rw [List.flatMap_def, List.flatMap_def]
 refine congrArg List.flatten (List.map_congr_left fun no hn => ?_)
 have h := (List.mem_filter.1 hn).2
 unfold allG inG
 rw [vals_part h]
theorem outD_both (T : List Et) (t : Int) {o0 o1 : List Rs} (h0 : o0.Perm (outD j (nos.filter own) (allVals j.s j.d (T.filter (mineE j.g own))) t))
  (h1 : o1.Perm (outD j (nos.filter fun n => !own n) (allVals j.s j.d (T.filter (mineE j.g fun n => !own n))) t)) : (o0 ++ o1).Perm (outD j nos (allVals j.s j.d T) t) := by
 rw [outD_part] at h0
 rw [outD_part (own := fun n => !own n)] at h1
 refine (List.Perm.append h0 h1).trans ?_
 have hp : (nos.filter own ++ nos.filter fun n => !own n).Perm nos := (filter_parts own nos).symm
 unfold outD
 rw [← List.flatMap_append]
 exact hp.flatMap_right _
end
end Go.Proofs.YtilgagmfcdfjaaaGreat
