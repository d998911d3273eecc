/-
  This program's types, for walks over abstract values. No condition.
  Walks over abstract values: what shortens a text. Over whatever program. No condition.
  One step of a walk over abstract values, found by trying. No condition.
  Small contracts that many layers use: which windows, folds, keys and events may be. No condition.
  Panes, in plain Lean: which may be, which stands ahead, which rows may be. No condition.
  Panes, walked over abstract values: what compares, which may be, which rows may be.
  Layer fold in plain Lean: what a fold has of values; no program in sight. No condition.
  Panes, walked over abstract values: a row of one's own, what is due, results, likeness.
  Panes, walked over abstract values: how the program compares; which rows may be.
  Panes, walked over abstract values: what is due.
  Panes, walked over abstract values: what is due by the reference; results.
  Panes, walked over abstract values: likeness.
-/
import Derived.RowKit
import Derived.Laws.Cover1
import Derived.Test.YtlgbadlgfdlheaaRows
import Derived.Test.YtlgbadlgfdlheaaR1
import Derived.Test.YtlgbadlgfdlheaaR3
set_option linter.unusedSimpArgs false
set_option linter.unusedVariables false
set_option maxHeartbeats 20000000
namespace Go.Proofs.Ytlgbadlgfdlheaa
open Go.RowKit
def tab : List TyI := [.none,
 .func,
 .int .i64,
 .int .i64,
 .bool,
 .int .u8,
 .int .u8,
 .struct 4 [(0, 2), (1, 3), (2, 4), (3, 6)],
 .struct 4 [(0, 2), (1, 3), (2, 4), (3, 6)],
 .string,
 .string,
 .string,
 .int .u64,
 .struct 2 [(0, 9), (1, 12)],
 .struct 2 [(0, 9), (1, 12)],
 .pointer,
 .pointer,
 .pointer,
 .struct 1 [(0, 17)],
 .struct 1 [(0, 17)],
 .none,
 .int .i32,
 .struct 8 [(0, 3), (1, 2), (2, 2), (3, 3), (4, 3), (5, 2), (6, 2), (7, 3)],
 .struct 8 [(0, 3), (1, 2), (2, 2), (3, 3), (4, 3), (5, 2), (6, 2), (7, 3)],
 .slice 25 1 24,
 .slice 49 3 32,
 .func,
 .slice 36 5 48,
 .int .i64,
 .none,
 .func,
 .func,
 .map,
 .struct 2 [(0, 2), (1, 2)],
 .struct 2 [(0, 2), (1, 2)],
 .struct 5 [(0, 34), (2, 9), (3, 2), (4, 2)],
 .struct 5 [(0, 34), (2, 9), (3, 2), (4, 2)],
 .map,
 .func,
 .func,
 .pointer,
 .slice 67 6 56,
 .struct 10 [(0, 23), (8, 41), (9, 28)],
 .struct 10 [(0, 23), (8, 41), (9, 28)],
 .func,
 .func,
 .func,
 .func,
 .struct 3 [(0, 9), (1, 2), (2, 2)],
 .struct 3 [(0, 9), (1, 2), (2, 2)],
 .func,
 .func,
 .func,
 .func,
 .pointer,
 .struct 9 [(0, 23), (8, 2)],
 .struct 9 [(0, 23), (8, 2)],
 .none,
 .slice 34 2 16,
 .func,
 .none,
 .func,
 .func,
 .func,
 .struct 3 [(0, 2), (1, 2), (2, 2)],
 .struct 3 [(0, 2), (1, 2), (2, 2)],
 .struct 6 [(0, 34), (2, 9), (3, 65)],
 .struct 6 [(0, 34), (2, 9), (3, 65)],
 .func,
 .func,
 .func,
 .func,
 .func,
 .func,
 .none,
 .func,
 .func,
 .func,
 .func,
 .func,
 .func,
 .func,
 .func,
 .func,
 .func,
 .func,
 .func,
 .func,
 .func,
 .func,
 .func,
 .int .i64,
 .func,
 .struct 2 [(0, 2), (1, 3)],
 .struct 2 [(0, 2), (1, 3)],
 .func,
 .func,
 .func,
 .none,
 .func,
 .func,
 .func,
 .func,
 .func,
 .func,
 .func,
 .func,
 .func,
 .func,
 .none,
 .func,
 .int .i64,
 .slice 3 1 8,
 .func,
 .func,
 .func,
 .func,
 .struct 4 [(0, 17), (1, 17), (2, 17), (3, 9)],
 .struct 4 [(0, 17), (1, 17), (2, 17), (3, 9)],
 .none,
 .none,
 .none,
 .func,
 .int .u32,
 .int .u8,
 .int .u8,
 .func,
 .pointer,
 .int .i32,
 .int .i32,
 .struct 11 [(0, 12), (1, 12), (2, 123), (3, 124), (4, 5), (5, 5), (6, 125), (7, 126), (8, 127), (9, 128), (10, 129)],
 .struct 11 [(0, 12), (1, 12), (2, 123), (3, 124), (4, 5), (5, 5), (6, 125), (7, 126), (8, 127), (9, 128), (10, 129)],
 .none]
theorem tab_ok : okTab Try.prog tab = true := by kernel_rfl
theorem tab_zero : okZero Try.prog tab = true := by kernel_rfl
theorem mixed : (Try.prog).follows .mixedOrders = true := by kernel_rfl
end Go.Proofs.Ytlgbadlgfdlheaa
namespace Go.Proofs.Ytlgbadlgfdlheaa
open Go.RowKit
theorem hbs : (∀ (p : Prop) [Decidable p], decide p = true ↔ p) ∧ (∀ (p : Prop) [Decidable p], decide p = false ↔ ¬ p) ∧ (∀ b : Bool, (!b) = true ↔ b = false) ∧ (∀ b : Bool, (!b) = false ↔ b = true) ∧ (∀ b : Bool, ¬ b = true ↔ b = false) ∧ (∀ b : Bool, ¬ b = false ↔ b = true) ∧ (∀ (p : Prop) [Decidable p], ¬ ¬ p ↔ p) :=
 ⟨fun p _ => decide_eq_true_iff, fun p _ => decide_eq_false_iff_not, fun b => by cases b <;> simp, fun b => by cases b <;> simp, fun b => by cases b <;> simp, fun b => by cases b <;> simp, fun p _ => Decidable.not_not⟩
theorem wkS {Γ : Ctx} {s t : ASt} (h : Weak Γ s t := by first | (refine ⟨by repeat' (first | exact trivial | exact FinA.one (FinB.cell (FinC.same rfl)) | exact FinA.one (FinB.cell FinC.nil) | exact FinA.bound rfl | exact FinA.one (FinB.cell (FinC.own rfl rfl rfl rfl)) | exact FinA.one (FinB.cell (FinC.v (by first | rfl | (simp)))) | exact FinA.one (FinB.cell (FinC.ow rfl (by first | rfl | (simp)))) | exact FinA.one (FinB.agg' rfl rfl) | refine ⟨⟨_, rfl, ?_⟩, ?_⟩), by repeat' (first | exact trivial | refine ⟨⟨_, rfl, by first | rfl | (simp; done) | (simp [renO, *]; done)⟩, by first | rfl | assumption, ?_⟩), rfl⟩; done) | fail) : Weak Γ s t := h
theorem fnq {σ σ' : Store} {v u : AV} (h : FinA σ σ' v u := by first | (((first | refine FinA.tup ?_ | refine FinA.one ?_); repeat' (first | exact FinBs.nil | exact FinCs.nil | refine FinBs.cons ?_ ?_ | refine FinCs.cons ?_ ?_ | refine FinB.cell (FinC.v ?_) | refine FinB.cell (FinC.own rfl rfl rfl ?_) | exact FinB.cell FinC.nil | refine FinB.cell (FinC.sl ?_) | exact FinB.agg' rfl rfl | exact FinB.cell (FinC.same rfl) | refine FinB.agg ?_ | refine FinC.v ?_ | refine FinC.own rfl rfl rfl ?_ | exact FinC.nil | refine FinC.sl ?_ | exact FinC.same rfl); all_goals try rfl); done) | fail) : FinA σ σ' v u := h
theorem rq {T : List TyI} {res : List ResultVar} {r : AV} {σ' : Store} {e : Exit} {s : ASt} {vs : List AV} (h2 : resL T s res = some vs) (h3 : FinA s.σ σ' (single vs) r) (h1 : e = .normal ∨ e = .ret := by first | exact .inr rfl | exact .inl rfl | fail) (h4 : Kept s.σ σ' σ' := by repeat' (first | exact trivial | refine ⟨⟨_, rfl, by first | rfl | (simp [renO, *]; done)⟩, by first | rfl | assumption, ?_⟩ | fail)) : RetQ T res r σ' e s := ⟨h1, vs, h2, h3, h4⟩
def Tag (l : List Nat) (b : Nat) : Prop := l = l ∧ b = b
theorem Tag.mk (l : List Nat) (b : Nat) : Tag l b := ⟨rfl, rfl⟩
section
variable {P : Program} {Γ : Ctx} {s : ASt} {dst : Option Tmp} {ty : TypeId} {pos : String} {after : Array Edge}
theorem ls_callAt {f : FuncId} {args : Array Operand} {argTypes : Array TypeId} {c : Operand} {vs us caps : List AV} {r : AV} {σc σc' : Store} {l : List Nat} {b : Nat} (t : Tag l b) (h : AC P f us σc r σc') (hc : ev s c = some (.clo (.func f) [] caps)) (hargs : evL s args.toList = some vs) (hn : NilL (vs ++ caps) (us.map (renB (rho l b)))) (hcl : us.all (closB σc) = true)
  (hpass : Pass (rho l b) s σc) (hco : σc.all (fun p => closO σc p.2) = true) (hinj : injB (rho l b) (σc.map Prod.fst) = true) (hinj' : injB (rho l b) (σc'.map Prod.fst) = true)
  (hnew : σc'.all (fun p => has σc p.1 || !has s.σ (rho l b p.1)) = true) (hcr : closA σc' r = true) (hco' : σc'.all (fun p => closO σc' p.2) = true) (hd : okDst Γ.n dst = true) :
  LS P Γ ⟨dst, .call { callee := .value c, args := args, argTypes := argTypes }, ty, pos, after, none⟩ s (rd c (rdL args.toList (objs (rho l b) σc ++ (objs (rho l b) σc' ++ [])))) (dst1 dst (renA (rho l b) r)) (σc'.map fun p => (rho l b p.1, renO (rho l b) p.2)) :=
 ls_callA l b h hc hargs hn hcl hpass hco hinj hinj' hnew hcr hco' hd
theorem lca {f : FuncId} {us : List AV} {r : AV} {σc σc' : Store} {i : Oper} {R : List Loc} {D : List (Nat × AV)} {M : List (Nat × SObj)} (l : List Nat) (b : Nat) (h : AC P f us σc r σc') (H : Tag l b → AC P f us σc r σc' → LS P Γ i s R D M := by
 first | (intro t h; exact ls_callAt t h rfl rfl (by (repeat' (first | exact NilL.nil | refine NilL.cons Nil.same ?_ | refine NilL.cons Nil.nil ?_ | refine NilL.cons (Nil.agg ?_) ?_ | exact Nil1s.nil | refine Nil1s.cons Nil1.same ?_ | refine Nil1s.cons Nil1.nil ?_)); first | done | fail) rfl (by (repeat' (first | exact trivial | refine ⟨⟨_, rfl, by first | rfl | (simp [renO, *]; done) | fail⟩, ?_⟩)); first | done | fail) (by first | rfl | (simp [closO, *]; done) | fail) rfl rfl rfl rfl (by first | rfl | (simp [closO, *]; done) | fail) rfl) | fail) : LS P Γ i s R D M := H (Tag.mk l b) h
end
end Go.Proofs.Ytlgbadlgfdlheaa
namespace Go.Proofs.Ytlgbadlgfdlheaa
open Go.RowKit
theorem lsq {Γ : Ctx} {i : Oper} {s : ASt} {R : List Loc} {D : List (Nat × AV)} {M : List (Nat × SObj)} (h : LS Try.prog Γ i s R D M := by
 first
 | exact ls_move rfl rfl
 | exact ls_assign rfl rfl
 | exact ls_load_ref tab_ok rfl rfl rfl rfl rfl rfl
 | exact ls_load_el tab_ok rfl rfl rfl rfl
 | exact ls_fieldAddr_ref tab_ok rfl rfl rfl rfl rfl rfl
 | exact ls_fieldAddr_el tab_ok rfl rfl rfl rfl rfl
 | exact ls_extract rfl rfl rfl
 | exact ls_pickT rfl rfl rfl
 | exact ls_pickF rfl rfl rfl
 | exact ls_add64 rfl rfl (by omega) rfl
 | exact ls_sub64 rfl rfl (by omega) rfl
 | exact ls_lss rfl rfl rfl
 | exact ls_leq rfl rfl rfl
 | exact ls_gtr rfl rfl rfl
 | exact ls_geq rfl rfl rfl
 | exact ls_eql rfl rfl rfl
 | exact ls_neq rfl rfl rfl
 | exact ls_seq rfl rfl rfl
 | exact ls_sne rfl rfl rfl
 | exact ls_slt rfl rfl rfl
 | exact ls_sgt rfl rfl rfl
 | exact ls_sle rfl rfl rfl
 | exact ls_sge rfl rfl rfl
 | exact ls_cat rfl rfl (by omega) rfl
 | exact ls_beq tab_ok rfl rfl rfl rfl
 | exact ls_bne tab_ok rfl rfl rfl rfl
 | exact ls_not rfl rfl
 | exact ls_len_str tab_ok rfl rfl rfl
 | exact ls_len_sl tab_ok rfl rfl rfl
 | exact ls_len_own tab_ok rfl rfl rfl rfl rfl
 | exact ls_len_nil tab_ok rfl rfl rfl
 | exact ls_field tab_ok rfl rfl rfl rfl rfl rfl rfl
 | exact ls_build tab_ok tab_zero rfl rfl rfl rfl rfl rfl
 | exact ls_build0 (k := 0) tab_ok rfl rfl rfl rfl | exact ls_build0 (k := 1) tab_ok rfl rfl rfl rfl | exact ls_build0 (k := 2) tab_ok rfl rfl rfl rfl | exact ls_build0 (k := 3) tab_ok rfl rfl rfl rfl | exact ls_build0 (k := 4) tab_ok rfl rfl rfl rfl | exact ls_build0 (k := 5) tab_ok rfl rfl rfl rfl | exact ls_build0 (k := 6) tab_ok rfl rfl rfl rfl | exact ls_build0 (k := 7) tab_ok rfl rfl rfl rfl | exact ls_build0 (k := 8) tab_ok rfl rfl rfl rfl | exact ls_build0 (k := 9) tab_ok rfl rfl rfl rfl | exact ls_build0 (k := 10) tab_ok rfl rfl rfl rfl | exact ls_build0 (k := 11) tab_ok rfl rfl rfl rfl
 | exact ls_buildS tab_ok rfl rfl rfl rfl rfl rfl
 | exact ls_store_ref tab_ok rfl rfl rfl rfl rfl rfl rfl rfl rfl
 | exact ls_add rfl rfl rfl
 | exact ls_sub rfl rfl rfl
 | exact ls_mul rfl rfl rfl
 | exact ls_neg rfl rfl
 | exact ls_func rfl rfl rfl
 | exact ls_min rfl rfl rfl
 | exact ls_max rfl rfl rfl
 | exact ls_box (k := 0) rfl rfl rfl rfl | exact ls_box (k := 1) rfl rfl rfl rfl | exact ls_box (k := 2) rfl rfl rfl rfl | exact ls_box (k := 3) rfl rfl rfl rfl | exact ls_box (k := 4) rfl rfl rfl rfl | exact ls_box (k := 5) rfl rfl rfl rfl | exact ls_box (k := 6) rfl rfl rfl rfl | exact ls_box (k := 7) rfl rfl rfl rfl | exact ls_box (k := 8) rfl rfl rfl rfl | exact ls_box (k := 9) rfl rfl rfl rfl | exact ls_box (k := 10) rfl rfl rfl rfl | exact ls_box (k := 11) rfl rfl rfl rfl | exact ls_alloc (k := 0) tab_zero rfl rfl rfl rfl | exact ls_alloc (k := 1) tab_zero rfl rfl rfl rfl | exact ls_alloc (k := 2) tab_zero rfl rfl rfl rfl | exact ls_alloc (k := 3) tab_zero rfl rfl rfl rfl | exact ls_alloc (k := 4) tab_zero rfl rfl rfl rfl | exact ls_alloc (k := 5) tab_zero rfl rfl rfl rfl | exact ls_alloc (k := 6) tab_zero rfl rfl rfl rfl | exact ls_alloc (k := 7) tab_zero rfl rfl rfl rfl | exact ls_alloc (k := 8) tab_zero rfl rfl rfl rfl | exact ls_alloc (k := 9) tab_zero rfl rfl rfl rfl | exact ls_alloc (k := 10) tab_zero rfl rfl rfl rfl | exact ls_alloc (k := 11) tab_zero rfl rfl rfl rfl | exact ls_indexAddr_sl tab_ok rfl rfl rfl rfl (by assumption) rfl | focus (apply ls_append tab_ok rfl rfl ?hn rfl ?hsrc rfl ?hlen rfl rfl; (case hn => rfl); (case hsrc => first | exact SrcIs.sl | exact SrcIs.nil | exact SrcIs.own rfl rfl | fail); (case hlen => (try simp only [List.length_cons, List.length_nil]); omega); first | done | fail) | fail) : LS Try.prog Γ i s R D M := h
theorem lsc {f : FuncId} {us : List AV} {r : AV} {Γ : Ctx} {i : Oper} {s : ASt} {R : List Loc} {D : List (Nat × AV)} {M : List (Nat × SObj)} (h : PC Try.prog f us r) (H : PC Try.prog f us r → LS Try.prog Γ i s R D M := by
 first | (intro h; apply ls_call h rfl rfl _ rfl rfl; (repeat' (first | exact NilL.nil | refine NilL.cons Nil.same ?_ | refine NilL.cons Nil.nil ?_ | refine NilL.cons (Nil.agg ?_) ?_ | exact Nil1s.nil | refine Nil1s.cons Nil1.same ?_ | refine Nil1s.cons Nil1.nil ?_)); first | done | fail) | fail) : LS Try.prog Γ i s R D M := H h
theorem lcs {f : FuncId} {us : List AV} {r : AV} {Γ : Ctx} {i : Oper} {s : ASt} {R : List Loc} {D : List (Nat × AV)} {M : List (Nat × SObj)} (h : PC Try.prog f us r) (H : PC Try.prog f us r → LS Try.prog Γ i s R D M := by
 first | (intro h; apply ls_callR h rfl rfl _ rfl rfl rfl; (repeat' (first | exact AsL.nil | refine AsL.own rfl rfl ?_ | refine AsL.vnil ?_ | refine AsL.same ?_)); first | done | fail) | fail) : LS Try.prog Γ i s R D M := H h
section
variable {Γ : Ctx} {Q : Exit → ASt → Prop} {s : ASt} {A B : Prop}
theorem wq2 {b : Bool} {G : Prop} (k : b = true → A) (l : b = false → B) (h : (b = true → A) → (b = false → B) → G := by
 intro k l
 first
 | exact o_split_t rfl rfl rfl k l
 | exact o_split_f rfl rfl rfl k l
 | exact a_cond rfl k l
 | exact d_split rfl rfl k l
 | fail) : G := h k l
end
end Go.Proofs.Ytlgbadlgfdlheaa
namespace Go.Proofs.Ytlgbadlgfdlheaa
open Go.RowKit
attribute [local go_sem ↓] Go.wp_at_zero Go.wp_at_succ

def winB (s d : Int) : Bool := decide (1 ≤ d) && decide (d ≤ s) && decide (s ≤ 1048576) && decide (s ≤ 16 * d)
def keyB (s : ByteArray) : Bool := decide (1 ≤ s.size) && decide (s.size ≤ 16)
structure Ev where
 key : ByteArray
 at_ : Int
 val : Int
def Ev.cells (e : Ev) : List Value := [.string e.key, .int .i64 e.at_, .int .i64 e.val]
theorem window_Right (s d : Int) (w : World) :
  Calls Try.prog 21 #[.int .i64 s, .int .i64 d] w fun e w' => e = .returned (.bool (winB s d)) ∧ w = w' := by
 unfold winB
 by_cases h1 : 1 ≤ d <;> by_cases h2 : d ≤ s <;> by_cases h3 : s ≤ 1048576 <;> by_cases h4 : s ≤ 16 * d
 all_goals
  go_enter Try.func21, Try.ntmps21
  go_wp2
  go_ret
  simp [*]
theorem bytes_nil (s : ByteArray) : s.toList = [] ↔ s.size = 0 := by
 rw [ByteArray.toList_eq, ← List.length_eq_zero_iff]
 rfl

structure Pn where
 lo : Int
 hi : Int
 key : ByteArray
 n : Int
 a : Int
 b : Int
def Pn.cells (p : Pn) : List Value := [.int .i64 p.lo, .int .i64 p.hi, .string p.key, .int .i64 p.n, .int .i64 p.a, .int .i64 p.b]
def mayB (p : Pn) : Bool := keyB p.key && decide (0 ≤ p.lo) && decide (p.lo < p.hi) && decide (p.hi ≤ 1099511627776) && decide (1 ≤ p.n)

def sless (s t : ByteArray) : Bool := Op.bytesLess s.toList t.toList
theorem bless_irrefl : ∀ l, Op.bytesLess l l = false
 | [] => rfl
 | a :: l => by
  have := bless_irrefl l
  simp [Op.bytesLess, this]
theorem bless_trans : ∀ a b c, Op.bytesLess a b = true → Op.bytesLess b c = true → Op.bytesLess a c = true
 | _, _, [] => by intro _ h; simp [Op.bytesLess] at h
 | _, [], _ :: _ => by intro h; simp [Op.bytesLess] at h
 | [], _ :: _, _ :: _ => by intro _ _; rfl
 | x :: a, y :: b, z :: c => by
  have ih := bless_trans a b c
  simp only [Op.bytesLess, Bool.or_eq_true, Bool.and_eq_true, decide_eq_true_eq, beq_iff_eq]
  rintro (h1 | ⟨rfl, h1⟩) (h2 | ⟨rfl, h2⟩)
  ·exact .inl (UInt8.lt_trans h1 h2)
  ·exact .inl h1
  ·exact .inl h2
  ·exact .inr ⟨rfl, ih h1 h2⟩
theorem bless_total : ∀ a b, Op.bytesLess a b = false → Op.bytesLess b a = false → a = b
 | [], [] => fun _ _ => rfl
 | [], _ :: _ => by intro h; simp [Op.bytesLess] at h
 | _ :: _, [] => by intro _ h; simp [Op.bytesLess] at h
 | x :: a, y :: b => by
  have ih := bless_total a b
  simp only [Op.bytesLess, Bool.or_eq_false_iff, Bool.and_eq_false_imp, decide_eq_false_iff_not, beq_iff_eq]
  rintro ⟨h1, h2⟩ ⟨h3, h4⟩
  have hxy : x = y := by
   apply UInt8.toNat_inj.1
   have h5 : ¬ x.toNat < y.toNat := h1
   have h6 : ¬ y.toNat < x.toNat := h3
   omega
  subst hxy
  rw [ih (h2 rfl) (h4 rfl)]
theorem bytes_ext {s t : ByteArray} (h : s.toList = t.toList) : s = t := by
 rw [ByteArray.toList_eq, ByteArray.toList_eq] at h
 cases s; cases t
 simpa using h
theorem sless_irrefl (s : ByteArray) : sless s s = false := bless_irrefl _
theorem sless_trans {a b c : ByteArray} (h : sless a b = true) (h2 : sless b c = true) : sless a c = true := bless_trans _ _ _ h h2
theorem sless_total {a b : ByteArray} (h : sless a b = false) (h2 : sless b a = false) : a = b := bytes_ext (bless_total _ _ h h2)

def ahead (p q : Pn) : Bool := if p.hi ≠ q.hi then decide (p.hi < q.hi) else if p.lo ≠ q.lo then decide (p.lo < q.lo) else sless p.key q.key
def sameP (p q : Pn) : Prop := p.hi = q.hi ∧ p.lo = q.lo ∧ p.key = q.key
instance (p q : Pn) : Decidable (sameP p q) := by unfold sameP; exact inferInstance
theorem ahead_irrefl (p : Pn) : ahead p p = false := by simp [ahead, sless_irrefl]
theorem ahead_iff {p q : Pn} : ahead p q = true ↔ p.hi < q.hi ∨ (p.hi = q.hi ∧ (p.lo < q.lo ∨ (p.lo = q.lo ∧ sless p.key q.key = true))) := by
 unfold ahead
 by_cases h1 : p.hi = q.hi
 ·by_cases h2 : p.lo = q.lo
  ·simp [h1, h2]
  ·simp [h1, h2]
 ·simp [h1]
theorem ahead_trans {p q r : Pn} (h : ahead p q = true) (h2 : ahead q r = true) : ahead p r = true := by
 rw [ahead_iff] at *
 rcases h with h | ⟨e1, h | ⟨e2, h⟩⟩ <;> rcases h2 with h2 | ⟨f1, h2 | ⟨f2, h2⟩⟩
 ·left; omega
 ·left; omega
 ·left; omega
 ·left; omega
 ·right; exact ⟨by omega, .inl (by omega)⟩
 ·right; exact ⟨by omega, .inl (by omega)⟩
 ·left; omega
 ·right; exact ⟨by omega, .inl (by omega)⟩
 ·right; exact ⟨by omega, .inr ⟨by omega, sless_trans h h2⟩⟩
theorem ahead_total {p q : Pn} (h : ahead p q = false) (h2 : ahead q p = false) : sameP p q := by
 have h3 : ¬ ahead p q = true := by simp [h]
 have h4 : ¬ ahead q p = true := by simp [h2]
 rw [ahead_iff] at h3 h4
 have e1 : p.hi = q.hi := by
  by_cases h5 : p.hi < q.hi
  ·exact absurd (.inl h5) h3
  ·by_cases h6 : q.hi < p.hi
   ·exact absurd (.inl h6) h4
   ·omega
 have e2 : p.lo = q.lo := by
  by_cases h5 : p.lo < q.lo
  ·exact absurd (.inr ⟨e1, .inl h5⟩) h3
  ·by_cases h6 : q.lo < p.lo
   ·exact absurd (.inr ⟨e1.symm, .inl h6⟩) h4
   ·omega
 refine ⟨e1, e2, sless_total ?_ ?_⟩
 ·cases h5 : sless p.key q.key
  ·rfl
  ·exact absurd (.inr ⟨e1, .inr ⟨e2, h5⟩⟩) h3
 ·cases h5 : sless q.key p.key
  ·rfl
  ·exact absurd (.inr ⟨e1.symm, .inr ⟨e2.symm, h5⟩⟩) h4
theorem same_ahead {p q : Pn} (h : sameP p q) : ahead p q = false := by
 obtain ⟨h1, h2, h3⟩ := h
 simp [ahead, h1, h2, h3, sless_irrefl]
theorem sameP.symm {p q : Pn} (h : sameP p q) : sameP q p := ⟨h.1.symm, h.2.1.symm, h.2.2.symm⟩
theorem sameP.left {p q r : Pn} (h : sameP p q) : ahead p r = ahead q r := by
 obtain ⟨h1, h2, h3⟩ := h
 simp [ahead, h1, h2, h3]
theorem sameP.right {p q r : Pn} (h : sameP p q) : ahead r p = ahead r q := by
 obtain ⟨h1, h2, h3⟩ := h
 simp [ahead, h1, h2, h3]
theorem ahead_asymm {p q : Pn} (h : ahead p q = true) : ahead q p = false := by
 cases h2 : ahead q p
 ·rfl
 ·have := ahead_trans h h2
  rw [ahead_irrefl] at this; cases this
def cmpP (p q : Pn) : Int := if ahead p q then -1 else if ahead q p then 1 else 0

def okPn (l : List Pn) : Nat → Bool
 | 0 => true
 | k + 1 => okPn l k && match l[k]? with
  | none => true
  | some p => mayB p && (match k with | 0 => true | j + 1 => match l[j]? with | none => true | some q => ahead q p)
def rightL (l : List Pn) : Bool := decide (l.length ≤ 2000) && okPn l l.length
theorem okPn_one (l : List Pn) (h : 0 < l.length) : okPn l 1 = mayB l[0] := by
 simp [okPn, h]
theorem okPn_succ (l : List Pn) (j : Nat) (h : j + 1 < l.length) : okPn l (j + 1 + 1) = (okPn l (j + 1) && (mayB l[j + 1] && ahead l[j] l[j + 1])) := by
 show (okPn l (j + 1) && _) = _
 rw [List.getElem?_eq_getElem h]
 simp only [List.getElem?_eq_getElem (show j < l.length by omega)]
theorem okPn_false (l : List Pn) {k n : Nat} (h : k ≤ n) (hf : okPn l k = false) : okPn l n = false := by
 induction n with
 | zero => obtain rfl : k = 0 := (by omega); exact hf
 | succ n ih =>
  rcases Nat.lt_or_ge k (n + 1) with h1 | h1
  ·show (okPn l n && _) = false
   rw [ih (by omega), Bool.false_and]
  ·obtain rfl : k = n + 1 := (by omega)
   exact hf
theorem okPn_iff (l : List Pn) : okPn l l.length = true ↔ (∀ p ∈ l, mayB p = true) ∧ l.Pairwise (fun p q => ahead p q = true) := by
 have key : ∀ k, k ≤ l.length → (okPn l k = true ↔ (∀ p ∈ l.take k, mayB p = true) ∧ (l.take k).Pairwise (fun p q => ahead p q = true)) := by
  intro k
  induction k with
  | zero => intro _; simp [okPn]
  | succ k ih =>
   intro hk
   have hsn : l.take (k + 1) = l.take k ++ [l[k]] := take_snoc l _ (by omega)
   rw [hsn, List.pairwise_append]
   cases k with
   | zero =>
    rw [okPn_one l (by omega)]
    simp
   | succ j =>
    rw [okPn_succ l j (by omega), Bool.and_eq_true, Bool.and_eq_true, ih (by omega)]
    have hsn2 : l.take (j + 1) = l.take j ++ [l[j]] := take_snoc l _ (by omega)
    constructor
    ·rintro ⟨⟨h1, h2⟩, h3, h4⟩
     refine ⟨?_, h2, by simp, ?_⟩
     ·intro p hp
      simp only [List.mem_append, List.mem_singleton] at hp
      rcases hp with hp | rfl
      ·exact h1 p hp
      ·exact h3
     ·intro p hp q hq
      simp only [List.mem_singleton] at hq
      subst hq
      rw [hsn2] at hp h2
      simp only [List.mem_append, List.mem_singleton] at hp
      rcases hp with hp | rfl
      ·exact ahead_trans ((List.pairwise_append.1 h2).2.2 p hp _ (by simp)) h4
      ·exact h4
    ·rintro ⟨h1, h2, _, h3⟩
     refine ⟨⟨fun p hp => h1 p (List.mem_append_left _ hp), h2⟩, h1 _ (List.mem_append_right _ (List.mem_singleton.2 rfl)), h3 _ (by rw [hsn2]; exact List.mem_append_right _ (List.mem_singleton.2 rfl)) _ (List.mem_singleton.2 rfl)⟩
 have := key l.length (Nat.le_refl _)
 rw [List.take_length] at this
 exact this
def Pn.av (p : Pn) : List AV := [.v (.int .i64 p.lo), .v (.int .i64 p.hi), .v (.string p.key), .v (.int .i64 p.n), .v (.int .i64 p.a), .v (.int .i64 p.b)]
theorem keyB_int (s : ByteArray) : keyB s = (decide ((1 : Int) ≤ s.size) && decide ((s.size : Int) ≤ 16)) := by
 unfold keyB
 congr 1
 ·exact decide_eq_decide.2 (by omega)
 ·exact decide_eq_decide.2 (by omega)

structure Acc where
 n : Int
 a : Int
 b : Int

def I64 (x : Int) : Prop := -9223372036854775808 ≤ x ∧ x ≤ 9223372036854775807
theorem wrap64_id {x : Int} (h : I64 x) : wrap64 x = x := by unfold I64 at h; unfold wrap64; omega

def joinA (k x y : Int) : Int := if k = 2 then wrap64 (x + y) else if k = 3 then min x y else if k = 4 then max x y else if k = 5 then min x y else 0
def joinB (k x y : Int) : Int := if k = 5 then max x y else 0
def fRight (k : Int) : Bool := decide (1 ≤ k) && decide (k ≤ 5)
def fJoin (k : Int) (x y : Acc) : Acc :=
 if fRight k = false then ⟨0, 0, 0⟩ else if x.n = 0 then y else if y.n = 0 then x else ⟨wrap64 (x.n + y.n), joinA k x.a y.a, joinB k x.b y.b⟩
def fOne (k v : Int) : Acc :=
 if k = 1 then ⟨1, 0, 0⟩ else if k = 2 ∨ k = 3 ∨ k = 4 then ⟨1, v, 0⟩ else if k = 5 then ⟨1, v, v⟩ else ⟨0, 0, 0⟩
def fVal (k : Int) (x : Acc) : Int :=
 if x.n = 0 ∨ fRight k = false then 0 else if k = 1 then x.n else if k = 5 then wrap64 (x.b - x.a) else x.a
theorem right_cases {k : Int} (h : fRight k = true) : k = 1 ∨ k = 2 ∨ k = 3 ∨ k = 4 ∨ k = 5 := by
 simp [fRight] at h; omega
theorem right_not {k : Int} (h : fRight k = false) : k < 1 ∨ 5 < k := by
 simp [fRight] at h; omega
theorem fOne_not {k v : Int} (h : fRight k = false) : fOne k v = ⟨0, 0, 0⟩ := by
 have := right_not h; unfold fOne
 rw [if_neg (by omega), if_neg (by omega), if_neg (by omega)]
theorem fOne_n {k v : Int} (h : fRight k = true) : (fOne k v).n = 1 := by
 rcases right_cases h with rfl | rfl | rfl | rfl | rfl <;> rfl
theorem fJoin_not {k : Int} {x y : Acc} (h : fRight k = false) : fJoin k x y = ⟨0, 0, 0⟩ := by simp [fJoin, h]

def Good (x : Acc) : Prop := 0 ≤ x.n ∧ x.n ≤ 1000000000 ∧ (x.n = 0 → x = ⟨0, 0, 0⟩)

theorem wrap_small {x : Int} (h0 : 0 ≤ x) (h1 : x ≤ 10000000000) : wrap64 x = x := wrap64_id ⟨by omega, by omega⟩

theorem join_n {k : Int} {x y : Acc} (h : fRight k = true) (hx : Good x) (hy : Good y) : (fJoin k x y).n = x.n + y.n := by
 obtain ⟨x0, x1, _⟩ := hx
 obtain ⟨y0, y1, _⟩ := hy
 unfold fJoin
 rw [if_neg (by simp [h])]
 split
 ·omega
 ·split
  ·omega
  ·exact wrap_small (by omega) (by omega)
theorem join_zero_left {k : Int} {x : Acc} (h : fRight k = true) : fJoin k ⟨0, 0, 0⟩ x = x := by simp [fJoin, h]
theorem join_good {k : Int} {x y : Acc} (h : fRight k = true) (hx : Good x) (hy : Good y) (hs : x.n + y.n ≤ 1000000000) : Good (fJoin k x y) := by
 have e := join_n h hx hy
 refine ⟨by rw [e]; have := hx.1; have := hy.1; omega, by rw [e]; exact hs, fun h0 => ?_⟩
 rw [e] at h0
 have hx0 : x.n = 0 := by have := hx.1; have := hy.1; omega
 have hy0 : y.n = 0 := by have := hx.1; have := hy.1; omega
 rw [hx.2.2 hx0, hy.2.2 hy0]
 exact join_zero_left h
theorem fOne_good (k v : Int) : Good (fOne k v) := by
 by_cases h : fRight k = true
 ·refine ⟨by rw [fOne_n h]; omega, by rw [fOne_n h]; omega, fun h0 => ?_⟩
  rw [fOne_n h] at h0; omega
 ·have h : fRight k = false := by simpa using h
  rw [fOne_not h]
  exact ⟨by simp, by simp, fun _ => rfl⟩
theorem snoc_ind {α} {p : List α → Prop} (h0 : p []) (h1 : ∀ l x, p l → p (l ++ [x])) (l : List α) : p l := by
 have key : ∀ n (l : List α), l.length = n → p l := by
  intro n
  induction n with
  | zero => intro l hl; rw [List.eq_nil_of_length_eq_zero hl]; exact h0
  | succ n ih =>
   intro l hl
   rcases List.eq_nil_or_concat l with rfl | ⟨m, x, rfl⟩
   ·exact h0
   ·rw [List.concat_eq_append] at hl ⊢
    exact h1 m x (ih m (by simpa using hl))
 exact key _ l rfl

section
attribute [local go_sem ↓] Go.wp_at_zero Go.wp_at_succ
theorem info_Pane : (Try.prog.info? 67).map (fun i => (i.zero, i.size, i.bytes)) = some (some (.agg #[.int .i64 0, .int .i64 0, .string ByteArray.empty, .int .i64 0, .int .i64 0, .int .i64 0]), 6, 56) := by kernel_rfl
set_option maxRecDepth 10000 in
theorem clone_cells (A : Option Addr) (n c : Nat) (us : List Value) (w : World) (hr : Reads w w.heap.size 6 A n us) (h1 : ∀ u ∈ us, u.oneCell' = true) (hn : n ≤ 1000000) :
  Calls Try.prog 34 #[.slice A n c] w fun e w' => ∃ y, e = .returned y ∧ w'.ownsRow w.heap.size 67 6 y n us ∧ Below w.heap.size w w' := by
 cases A with
 | none =>
  have h0 : n = 0 := by
   rcases Nat.eq_zero_or_pos n with h | h
   ·exact h
   ·obtain ⟨b, off, h, _⟩ := hr.2 h; cases h
  subst h0
  have hx : us = [] := List.length_eq_zero_iff.1 (by simpa using hr.1)
  subst hx
  have hq := fun w => Lib.run_eql_slice_nil (P := Try.prog) w 41 67 none 0 c 0 0 Try.underlying41
  simp only [Option.isNone_none] at hq
  go_enter Try.func34, Try.ntmps34
  go_wp2
  go_ret
  exact ⟨_, rfl, own_nil, by repeat (first | assumption | exact Below.refl _ _ | refine Gr.drew ?_ | refine Gr.drewN ?_ _ | refine Gr.alloc ?_ _ | refine Gr.set_ ?_ (by first | (simp; done) | assumption | omega | (simp; omega)) _)⟩
 | some ad =>
  have hq := fun w => Lib.run_eql_slice_nil (P := Try.prog) w 41 67 (some ad) n c 0 0 Try.underlying41
  simp only [Option.isNone_some] at hq
  go_enter Try.func34, Try.ntmps34
  go_wp2_with (at_builtin; refine app_any (.tmp 5) (.tmp 6) rfl rfl Try.underlying41 info_Pane rfl (by omega) (by rfl) (own_new (Blk.new _ _ _) (Nat.le_refl _) : World.ownsRow _ w.heap.size _ _ _ _ _) (by rfl) (hr.alloc (Nat.le_refl _) _) h1 n us (Nat.zero_add _) (List.nil_append _) (by omega) (by omega) (by simp) ?_; intro A1 c1 w1 ho1 hg1 h1 h2; have hb := grow_own (a := w) (by repeat (first | assumption | exact Below.refl _ _ | refine Gr.drew ?_ | refine Gr.drewN ?_ _ | refine Gr.alloc ?_ _ | refine Gr.set_ ?_ (by first | (simp; done) | assumption | omega | (simp; omega)) _)) hg1 (own_new (base := w.heap.size) (size := 6) (Blk.new _ _ _) (Nat.le_refl _)) (Nat.le_refl _))
  go_ret
  exact ⟨_, rfl, ho1, hb⟩
end
theorem own_base {w : World} {b b' : Nat} {e : TypeId} {size n : Nat} {v : Value} {xs : List Value} (h : w.ownsRow b e size v n xs) (hb : b' ≤ b) : w.ownsRow b' e size v n xs := by
 refine ⟨h.1, ?_⟩
 rcases h.2 with h2 | ⟨g, cap, cur, h1, h2, h3⟩
 ·exact .inl h2
 ·exact .inr ⟨g, cap, cur, h1, by omega, h3⟩
theorem ac_own {P : Program} {f : FuncId} {size e : Nat} {xs : List (List AV)} {args : List AV} (ok : CallOK P f)
  (h : ∀ w A vs, repL [] (fun _ => undef) w A args vs → Calls P f vs.toArray w fun r w' => ∃ y us, r = .returned y ∧ w'.ownsRow w.heap.size e size y xs.length us ∧ repLL [] (fun _ => undef) w A size xs us ∧ Below w.heap.size w w') (htag : Nat.blt e 1048576 = true := by rfl) : AC P f args [] (.own 0 xs.length) [(0, .row e size xs)] := by
 refine ⟨ok, fun w M μ vs hs hrep => ?_⟩
 have hnil : ∀ (A A' : Nat → Prop) (μ μ' : Nat → Value), (∀ b, ¬ A b → ¬ A' b) → Step [] μ w A [] μ' w A' := fun A A' μ μ' h => ⟨fun b hb _ => ⟨rfl, h b hb⟩, Nat.le_refl _, fun _ _ _ h => by simp [find] at h, fun _ _ _ _ h => by simp [find] at h, fun _ _ h => by simp [find] at h, fun _ h => by simp [find] at h⟩
 refine (h w M vs (repL_mono (hnil _ _ _ _ fun b hb hc => hb (.inl hc)) hrep)).mono ?_
 rintro r w' ⟨y, us, rfl, ho, hr, hb⟩
 obtain ⟨A', c', hy, _, _⟩ := own_slice ho
 have hblk : ∀ b, blk y = some b → w.heap.size ≤ b ∧ b < w'.heap.size := by
  intro b hyb
  rcases ho.2 with ⟨h1, _⟩ | ⟨g, cap, cur, h1, h2, h3, _⟩
  ·rw [h1] at hyb; simp [blk] at hyb
  ·rw [h1] at hyb
   simp only [blk, Option.some.injEq] at hyb
   subst hyb
   exact ⟨h2, Blk.lt (t := e) (cs := cur) h3⟩
 have hfind : ∀ id o, find [((0 : Nat), SObj.row e size xs)] id = some o → id = 0 ∧ o = .row e size xs := by
  intro id o hf
  rw [find_cons] at hf
  split at hf
  ·rename_i e1; injection hf with hf; exact ⟨e1.symm, hf.symm⟩
  ·simp [find] at hf
 refine ⟨y, fun _ => y, rfl, ⟨fun id o hf => ?_, fun id id' o o' g h1 h2 _ _ => ?_, fun b hb' => Nat.lt_of_lt_of_le (hs.lt b hb') hb.size, fun id o b hf hyb hc => ?_⟩, ?_, ?_⟩
 ·obtain ⟨rfl, rfl⟩ := hfind id o hf
  refine ⟨us, OwnS.of (own_base ho (Nat.zero_le _)) htag, ?_⟩
  refine repLL_mono (σ := []) (μ := fun _ => undef) (w := w) (A := M) ⟨fun b hb1 hl => ⟨hb.block b hl, fun hc => ?_⟩, hb.size, fun _ _ _ h => by simp [find] at h, fun _ _ _ _ h => by simp [find] at h, fun _ _ h => by simp [find] at h, fun _ h => by simp [find] at h⟩ hr
  rcases hc with hc | ⟨id, o, _, h2⟩
  ·exact hb1 hc
  ·have := (hblk b h2).1; omega
 ·rw [(hfind _ _ h1).1, (hfind _ _ h2).1]
 ·have h1 := (hblk b hyb).1
  have h2 := hs.lt b hc
  omega
 ·simp only [rep, find_cons, if_true]
  exact ⟨by rw [hy]; rfl, .inr ⟨e, size, xs, rfl, Nat.le_refl _, fun _ => trivial⟩⟩
 ·exact ⟨hb.os, hb.tape, hb.output, hb.size, fun b hl _ => hb.block b hl, fun id o b hf hyb hl => by have := (hblk b hyb).1; omega, fun _ _ _ h => by simp [find] at h, fun _ _ _ _ h => by simp [find] at h, fun _ _ h => by simp [find] at h, fun _ h => by simp [find] at h⟩
theorem ok_Clone : CallOK Try.prog 34 := ⟨_, Try.func34, by kernel_rfl, rfl⟩
theorem p_Clone (xs : List (List AV)) (hx : xs.length ≤ 1000000) : AC Try.prog 34 [.sl 6 xs] [] (.own 0 xs.length) [(0, .row 67 6 xs)] := by
 refine ac_own ok_Clone fun w A vs h => ?_
 simp only [repL, rep] at h
 obtain ⟨y, us', rfl, ⟨ad, c, us, rfl, h1, h2, h3, h4⟩, rfl⟩ := h
 have hr : Reads w w.heap.size 6 ad xs.length us := by
  refine ⟨repLL_len h4, fun hn => ?_⟩
  rcases h3 with rfl | ⟨b, off, e, _, h6, h7⟩
  ·have := repLL_len h4
   simp only [List.length_nil] at this
   omega
  ·exact ⟨b, off, e, h6, h7⟩
 refine (clone_cells ad xs.length c us w hr (repLL_one h4) hx).mono ?_
 rintro r w' ⟨y, rfl, h5, h6⟩
 exact ⟨y, us, rfl, h5, h4, h6⟩

def cmpI (x y : Int) : Int := if x < y then -1 else if y < x then 1 else 0
def cmpT (x y : ByteArray) : Int := if sless x y then -1 else if sless y x then 1 else 0
def orI : List Int → Int
 | [] => 0
 | x :: l => if x ≠ 0 then x else orI l
theorem orI_drop {xs : List Int} {q : Nat} (h : q < xs.length) (h0 : xs[q] = 0) (e : orI xs = orI (xs.drop q)) : orI xs = orI (xs.drop (q + 1)) := by
 rw [e, List.drop_eq_getElem_cons h]
 simp [orI, h0]
theorem bytes_nil' (s : ByteArray) : (s.toList == ByteArray.toList ⟨#[]⟩) = decide ((s.size : Int) = 0) := by
 have h := bytes_nil s
 have e : ByteArray.toList ⟨#[]⟩ = [] := by rw [ByteArray.toList_eq]
 rw [e]
 by_cases h0 : s.size = 0
 ·rw [h.2 h0]; simp [h0]
 ·have h1 : ¬ s.toList = [] := fun h1 => h0 (h.1 h1)
  simp [h1, h0]
theorem p_may (lo hi : Int) (k : ByteArray) (n a b : Int) : PC Try.prog 32 [.agg [.v (.int .i64 lo), .v (.int .i64 hi), .v (.string k), .v (.int .i64 n), .v (.int .i64 a), .v (.int .i64 b)]] (.v (.bool (mayB ⟨lo, hi, k, n, a, b⟩))) := by
 refine PC.mk (ac_body tab_ok Try.func32 rfl (by kernel_rfl) rfl ?_); intro w0 M μ0; simp only [Try.ntmps32, List.length_cons, List.length_nil, Nat.reduceAdd, Nat.reduceSub, numb]
 repeat' (first | ((first | apply o_do | apply d_do | apply d_yes rfl rfl rfl); exact lsq) | refine a_seq ?_ | refine a_region ?_ | refine o_nil ?_ | refine a_block ?_ | refine a_ret ?_ | refine a_exit ?_ | refine a_skip ?_ | refine a_draw mixed ?_ | refine d_nil (by kernel_rfl) ?_ | refine o_yes rfl rfl rfl ?_ | refine o_no rfl rfl rfl (by decide) ?_ | refine o_no' rfl rfl rfl ?_ | refine a_condT rfl ?_ | refine a_condF rfl ?_ | refine d_no rfl rfl rfl (by decide) ?_ | refine d_no' rfl rfl rfl ?_ | (refine wq2 (fun hb => ?_) (fun hb => ?_) <;> (simp only [hb]; try simp only [hbs, ne_eq] at hb; try (exfalso; first | omega | exact hb trivial))) | fail)
 all_goals refine rq rfl ?_
 all_goals (first | refine FinA.tup ?_ | refine FinA.one ?_); repeat' (first | exact FinBs.nil | exact FinCs.nil | refine FinBs.cons ?_ ?_ | refine FinCs.cons ?_ ?_ | refine FinB.cell (FinC.v ?_) | refine FinB.cell (FinC.own rfl rfl rfl ?_) | exact FinB.cell FinC.nil | refine FinB.cell (FinC.sl ?_) | exact FinB.agg' rfl rfl | exact FinB.cell (FinC.same rfl) | refine FinB.agg ?_ | refine FinC.v ?_ | refine FinC.own rfl rfl rfl ?_ | exact FinC.nil | refine FinC.sl ?_ | exact FinC.same rfl); all_goals try rfl
 all_goals simp only [bytes_nil', decide_eq_true_eq, decide_eq_false_iff_not] at *
 all_goals simp [mayB, keyB_int, *]
 all_goals try omega
theorem p_nanI (x : Int) : PC Try.prog 59 [.v (.int .i64 x)] (.v (.bool false)) := by
 refine PC.mk (ac_body tab_ok Try.func59 rfl (by kernel_rfl) rfl ?_); intro w0 M μ0; simp only [Try.ntmps59, List.length_cons, List.length_nil, Nat.reduceAdd, Nat.reduceSub, numb]
 repeat' (first | ((first | apply o_do | apply d_do | apply d_yes rfl rfl rfl); exact lsq) | refine a_seq ?_ | refine a_region ?_ | refine o_nil ?_ | refine a_block ?_ | refine a_ret ?_ | refine a_exit ?_ | refine a_skip ?_ | refine a_draw mixed ?_ | refine d_nil (by kernel_rfl) ?_ | refine o_yes rfl rfl rfl ?_ | refine o_no rfl rfl rfl (by decide) ?_ | refine o_no' rfl rfl rfl ?_ | refine a_condT rfl ?_ | refine a_condF rfl ?_ | refine d_no rfl rfl rfl (by decide) ?_ | refine d_no' rfl rfl rfl ?_ | (refine wq2 (fun hb => ?_) (fun hb => ?_) <;> (simp only [hb]; try simp only [hbs, ne_eq] at hb; try (exfalso; first | omega | exact hb trivial))) | fail)
 refine rq rfl ?_
 (first | refine FinA.tup ?_ | refine FinA.one ?_); repeat' (first | exact FinBs.nil | exact FinCs.nil | refine FinBs.cons ?_ ?_ | refine FinCs.cons ?_ ?_ | refine FinB.cell (FinC.v ?_) | refine FinB.cell (FinC.own rfl rfl rfl ?_) | exact FinB.cell FinC.nil | refine FinB.cell (FinC.sl ?_) | exact FinB.agg' rfl rfl | exact FinB.cell (FinC.same rfl) | refine FinB.agg ?_ | refine FinC.v ?_ | refine FinC.own rfl rfl rfl ?_ | exact FinC.nil | refine FinC.sl ?_ | exact FinC.same rfl); all_goals try rfl
 simp
theorem p_nanT (x : ByteArray) : PC Try.prog 60 [.v (.string x)] (.v (.bool false)) := by
 refine PC.mk (ac_body tab_ok Try.func60 rfl (by kernel_rfl) rfl ?_); intro w0 M μ0; simp only [Try.ntmps60, List.length_cons, List.length_nil, Nat.reduceAdd, Nat.reduceSub, numb]
 repeat' (first | ((first | apply o_do | apply d_do | apply d_yes rfl rfl rfl); exact lsq) | refine a_seq ?_ | refine a_region ?_ | refine o_nil ?_ | refine a_block ?_ | refine a_ret ?_ | refine a_exit ?_ | refine a_skip ?_ | refine a_draw mixed ?_ | refine d_nil (by kernel_rfl) ?_ | refine o_yes rfl rfl rfl ?_ | refine o_no rfl rfl rfl (by decide) ?_ | refine o_no' rfl rfl rfl ?_ | refine a_condT rfl ?_ | refine a_condF rfl ?_ | refine d_no rfl rfl rfl (by decide) ?_ | refine d_no' rfl rfl rfl ?_ | (refine wq2 (fun hb => ?_) (fun hb => ?_) <;> (simp only [hb]; try simp only [hbs, ne_eq] at hb; try (exfalso; first | omega | exact hb trivial))) | fail)
 refine rq rfl ?_
 (first | refine FinA.tup ?_ | refine FinA.one ?_); repeat' (first | exact FinBs.nil | exact FinCs.nil | refine FinBs.cons ?_ ?_ | refine FinCs.cons ?_ ?_ | refine FinB.cell (FinC.v ?_) | refine FinB.cell (FinC.own rfl rfl rfl ?_) | exact FinB.cell FinC.nil | refine FinB.cell (FinC.sl ?_) | exact FinB.agg' rfl rfl | exact FinB.cell (FinC.same rfl) | refine FinB.agg ?_ | refine FinC.v ?_ | refine FinC.own rfl rfl rfl ?_ | exact FinC.nil | refine FinC.sl ?_ | exact FinC.same rfl); all_goals try rfl
 simp
theorem p_cmpI (x y : Int) : PC Try.prog 51 [.v (.int .i64 x), .v (.int .i64 y)] (.v (.int .i64 (cmpI x y))) := by
 refine PC.mk (ac_body tab_ok Try.func51 rfl (by kernel_rfl) rfl ?_); intro w0 M μ0; simp only [Try.ntmps51, List.length_cons, List.length_nil, Nat.reduceAdd, Nat.reduceSub, numb]
 repeat' (first | ((first | apply o_do | apply d_do | apply d_yes rfl rfl rfl); first | exact lsc ((p_nanI _)) | exact lsq) | refine a_seq ?_ | refine a_region ?_ | refine o_nil ?_ | refine a_block ?_ | refine a_ret ?_ | refine a_exit ?_ | refine a_skip ?_ | refine a_draw mixed ?_ | refine d_nil (by kernel_rfl) ?_ | refine o_yes rfl rfl rfl ?_ | refine o_no rfl rfl rfl (by decide) ?_ | refine o_no' rfl rfl rfl ?_ | refine a_condT rfl ?_ | refine a_condF rfl ?_ | refine d_no rfl rfl rfl (by decide) ?_ | refine d_no' rfl rfl rfl ?_ | (refine wq2 (fun hb => ?_) (fun hb => ?_) <;> (simp only [hb]; try simp only [hbs, ne_eq] at hb; try (exfalso; first | omega | exact hb trivial))) | fail)
 all_goals refine rq rfl ?_
 all_goals (first | refine FinA.tup ?_ | refine FinA.one ?_); repeat' (first | exact FinBs.nil | exact FinCs.nil | refine FinBs.cons ?_ ?_ | refine FinCs.cons ?_ ?_ | refine FinB.cell (FinC.v ?_) | refine FinB.cell (FinC.own rfl rfl rfl ?_) | exact FinB.cell FinC.nil | refine FinB.cell (FinC.sl ?_) | exact FinB.agg' rfl rfl | exact FinB.cell (FinC.same rfl) | refine FinB.agg ?_ | refine FinC.v ?_ | refine FinC.own rfl rfl rfl ?_ | exact FinC.nil | refine FinC.sl ?_ | exact FinC.same rfl); all_goals try rfl
 all_goals simp [cmpI, *]
theorem p_cmpT (x y : ByteArray) : PC Try.prog 52 [.v (.string x), .v (.string y)] (.v (.int .i64 (cmpT x y))) := by
 refine PC.mk (ac_body tab_ok Try.func52 rfl (by kernel_rfl) rfl ?_); intro w0 M μ0; simp only [Try.ntmps52, List.length_cons, List.length_nil, Nat.reduceAdd, Nat.reduceSub, numb]
 repeat' (first | ((first | apply o_do | apply d_do | apply d_yes rfl rfl rfl); first | exact lsc ((p_nanT _)) | exact lsq) | refine a_seq ?_ | refine a_region ?_ | refine o_nil ?_ | refine a_block ?_ | refine a_ret ?_ | refine a_exit ?_ | refine a_skip ?_ | refine a_draw mixed ?_ | refine d_nil (by kernel_rfl) ?_ | refine o_yes rfl rfl rfl ?_ | refine o_no rfl rfl rfl (by decide) ?_ | refine o_no' rfl rfl rfl ?_ | refine a_condT rfl ?_ | refine a_condF rfl ?_ | refine d_no rfl rfl rfl (by decide) ?_ | refine d_no' rfl rfl rfl ?_ | (refine wq2 (fun hb => ?_) (fun hb => ?_) <;> (simp only [hb]; try simp only [hbs, ne_eq] at hb; try (exfalso; first | omega | exact hb trivial))) | fail)
 all_goals refine rq rfl ?_
 all_goals (first | refine FinA.tup ?_ | refine FinA.one ?_); repeat' (first | exact FinBs.nil | exact FinCs.nil | refine FinBs.cons ?_ ?_ | refine FinCs.cons ?_ ?_ | refine FinB.cell (FinC.v ?_) | refine FinB.cell (FinC.own rfl rfl rfl ?_) | exact FinB.cell FinC.nil | refine FinB.cell (FinC.sl ?_) | exact FinB.agg' rfl rfl | exact FinB.cell (FinC.same rfl) | refine FinB.agg ?_ | refine FinC.v ?_ | refine FinC.own rfl rfl rfl ?_ | exact FinC.nil | refine FinC.sl ?_ | exact FinC.same rfl); all_goals try rfl
 ·simp [cmpT, sless, hb]
 ·have h1 : Op.bytesLess x.toList y.toList = false := by assumption
  rw [h1, Bool.false_or] at hb
  have h2 : Op.bytesLess y.toList x.toList = true := by
   cases h : Op.bytesLess y.toList x.toList
   ·rw [bless_total _ _ h1 h] at hb; simp at hb
   ·rfl
  simp [cmpT, sless, h1, h2]
 ·have h1 : Op.bytesLess x.toList y.toList = false := by assumption
  rw [h1, Bool.false_or] at hb
  have e : x.toList = y.toList := by simpa using hb
  simp [cmpT, sless, e, bless_irrefl]
theorem p_Or (xs : List Int) (hx : xs.length ≤ 9223372036854775807) : PC Try.prog 50 [.sl 1 (xs.map fun x => [.v (.int .i64 x)])] (.v (.int .i64 (orI xs))) := by
 refine PC.mk (ac_body tab_ok Try.func50 rfl (by kernel_rfl) rfl ?_); intro w0 M μ0; simp only [Try.ntmps50, List.length_cons, List.length_nil, Nat.reduceAdd, Nat.reduceSub, numb]
 repeat (first | (apply o_do; exact lsq) | first | refine a_seq ?_ | refine a_region ?_ | refine o_nil ?_ | refine a_block ?_ | refine a_ret ?_ | refine a_exit ?_ | refine a_skip ?_ | refine a_draw mixed ?_ | refine d_nil (by kernel_rfl) ?_)
 refine a_loop (X := {q : Nat // q ≤ xs.length ∧ orI xs = orI (xs.drop q)}) (fun x => ⟨[(3, .v (.int .i64 0)), (6, .sl 1 (xs.map fun x => [.v (.int .i64 x)])), (7, .v (.int .i64 xs.length)), (8, .v (.int .i64 x.1))], []⟩) (fun x => xs.length - x.1) ⟨0, Nat.zero_le _, rfl⟩ ?_ ?_
 ·exact wkS
 rintro ⟨q, hq, hor⟩
 dsimp only
 by_cases hlt : q < xs.length
 ·have hel : (xs.map fun x => [AV.v (.int .i64 x)])[q]? = some [AV.v (.int .i64 xs[q])] := by simp [hlt]
  have hnx := fun h => orI_drop hlt h hor
  have hthis := List.drop_eq_getElem_cons hlt
  generalize xs[q] = x at *
  repeat' (first | ((first | apply o_do | apply d_do | apply d_yes rfl rfl rfl); first | exact ls_indexAddr_sl tab_ok rfl rfl rfl rfl (by assumption) rfl | exact lsq) | refine a_seq ?_ | refine a_region ?_ | refine o_nil ?_ | refine a_block ?_ | refine a_ret ?_ | refine a_exit ?_ | refine a_skip ?_ | refine a_draw mixed ?_ | refine d_nil (by kernel_rfl) ?_ | refine o_yes rfl rfl rfl ?_ | refine o_no rfl rfl rfl (by decide) ?_ | refine o_no' rfl rfl rfl ?_ | refine a_condT rfl ?_ | refine a_condF rfl ?_ | refine d_no rfl rfl rfl (by decide) ?_ | refine d_no' rfl rfl rfl ?_ | (refine wq2 (fun hb => ?_) (fun hb => ?_) <;> (simp only [hb]; try simp only [hbs, ne_eq] at hb; try (exfalso; first | omega | exact hb trivial))) | fail)
  ·refine rq rfl ?_
   (first | refine FinA.tup ?_ | refine FinA.one ?_); repeat' (first | exact FinBs.nil | exact FinCs.nil | refine FinBs.cons ?_ ?_ | refine FinCs.cons ?_ ?_ | refine FinB.cell (FinC.v ?_) | refine FinB.cell (FinC.own rfl rfl rfl ?_) | exact FinB.cell FinC.nil | refine FinB.cell (FinC.sl ?_) | exact FinB.agg' rfl rfl | exact FinB.cell (FinC.same rfl) | refine FinB.agg ?_ | refine FinC.v ?_ | refine FinC.own rfl rfl rfl ?_ | exact FinC.nil | refine FinC.sl ?_ | exact FinC.same rfl); all_goals try rfl
   rw [hor, hthis]
   simp [orI, hb]
  ·refine ⟨⟨q + 1, by omega, hnx hb⟩, by dsimp only; omega, ?_⟩
   exact wkS
 ·repeat' (first | ((first | apply o_do | apply d_do | apply d_yes rfl rfl rfl); exact lsq) | refine a_seq ?_ | refine a_region ?_ | refine o_nil ?_ | refine a_block ?_ | refine a_ret ?_ | refine a_exit ?_ | refine a_skip ?_ | refine a_draw mixed ?_ | refine d_nil (by kernel_rfl) ?_ | refine o_yes rfl rfl rfl ?_ | refine o_no rfl rfl rfl (by decide) ?_ | refine o_no' rfl rfl rfl ?_ | refine a_condT rfl ?_ | refine a_condF rfl ?_ | refine d_no rfl rfl rfl (by decide) ?_ | refine d_no' rfl rfl rfl ?_ | (refine wq2 (fun hb => ?_) (fun hb => ?_) <;> (simp only [hb]; try simp only [hbs, ne_eq] at hb; try (exfalso; first | omega | exact hb trivial))) | fail)
  refine rq rfl ?_
  (first | refine FinA.tup ?_ | refine FinA.one ?_); repeat' (first | exact FinBs.nil | exact FinCs.nil | refine FinBs.cons ?_ ?_ | refine FinCs.cons ?_ ?_ | refine FinB.cell (FinC.v ?_) | refine FinB.cell (FinC.own rfl rfl rfl ?_) | exact FinB.cell FinC.nil | refine FinB.cell (FinC.sl ?_) | exact FinB.agg' rfl rfl | exact FinB.cell (FinC.same rfl) | refine FinB.agg ?_ | refine FinC.v ?_ | refine FinC.own rfl rfl rfl ?_ | exact FinC.nil | refine FinC.sl ?_ | exact FinC.same rfl); all_goals try rfl
  obtain rfl : q = xs.length := by omega
  rw [hor]; simp [orI]
theorem or_cmp (p q : Pn) : orI [cmpI p.hi q.hi, cmpI p.lo q.lo, cmpT p.key q.key] = cmpP p q := by
 unfold cmpP
 cases h1 : ahead p q
 ·cases h2 : ahead q p
  ·obtain ⟨e1, e2, e3⟩ := ahead_total h1 h2
   simp [e1, e2, e3, cmpI, cmpT, sless_irrefl, orI]
  ·have h3 := ahead_iff.1 h2
   have h4 : ¬ ahead p q = true := by simp [h1]
   rw [ahead_iff] at h4
   rcases h3 with h | ⟨e1, h | ⟨e2, h⟩⟩
   ·have h5 : ¬ p.hi < q.hi := by omega
    simp [cmpI, orI, h, h5]
   ·have h5 : ¬ p.lo < q.lo := by omega
    simp [cmpI, orI, e1, h, h5]
   ·have h5 : sless p.key q.key = false := by
     cases h6 : sless p.key q.key
     ·rfl
     ·have := sless_trans h h6; rw [sless_irrefl] at this; cases this
    simp [cmpI, cmpT, orI, e1, e2, h, h5]
 ·rcases ahead_iff.1 h1 with h | ⟨e1, h | ⟨e2, h⟩⟩
  ·simp [cmpI, orI, h]
  ·simp [cmpI, orI, e1, h]
  ·simp [cmpI, cmpT, orI, e1, e2, h]
theorem p_Or3 (x y z : Int) : PC Try.prog 50 [.sl 1 [[.v (.int .i64 x)], [.v (.int .i64 y)], [.v (.int .i64 z)]]] (.v (.int .i64 (orI [x, y, z]))) := p_Or [x, y, z] (by simp)
theorem p_compare (lo hi : Int) (k : ByteArray) (n a b lo' hi' : Int) (k' : ByteArray) (n' a' b' : Int) : PC Try.prog 35 [.agg [.v (.int .i64 lo), .v (.int .i64 hi), .v (.string k), .v (.int .i64 n), .v (.int .i64 a), .v (.int .i64 b)], .agg [.v (.int .i64 lo'), .v (.int .i64 hi'), .v (.string k'), .v (.int .i64 n'), .v (.int .i64 a'), .v (.int .i64 b')]] (.v (.int .i64 (cmpP ⟨lo, hi, k, n, a, b⟩ ⟨lo', hi', k', n', a', b'⟩))) := by
 rw [← or_cmp]
 refine PC.mk (ac_body tab_ok Try.func35 rfl (by kernel_rfl) rfl ?_); intro w0 M μ0; simp only [Try.ntmps35, List.length_cons, List.length_nil, Nat.reduceAdd, Nat.reduceSub, numb]
 repeat' (first | ((first | apply o_do | apply d_do | apply d_yes rfl rfl rfl); first | exact lsc ((p_cmpI _ _)) | exact lsc ((p_cmpT _ _)) | exact lsc ((p_Or3 _ _ _)) | exact lsq) | refine a_seq ?_ | refine a_region ?_ | refine o_nil ?_ | refine a_block ?_ | refine a_ret ?_ | refine a_exit ?_ | refine a_skip ?_ | refine a_draw mixed ?_ | refine d_nil (by kernel_rfl) ?_ | refine o_yes rfl rfl rfl ?_ | refine o_no rfl rfl rfl (by decide) ?_ | refine o_no' rfl rfl rfl ?_ | refine a_condT rfl ?_ | refine a_condF rfl ?_ | refine d_no rfl rfl rfl (by decide) ?_ | refine d_no' rfl rfl rfl ?_ | (refine wq2 (fun hb => ?_) (fun hb => ?_) <;> (simp only [hb]; try simp only [hbs, ne_eq] at hb; try (exfalso; first | omega | exact hb trivial))) | fail)
 all_goals refine rq rfl ?_
 all_goals exact fnq
theorem cmpP_ge {p q : Pn} : (0 ≤ cmpP p q) ↔ ahead p q = false := by
 unfold cmpP
 cases h : ahead p q
 ·simp only [Bool.false_eq_true, if_false, iff_true]
  split <;> omega
 ·simp
theorem cmpP_lt {p q : Pn} : (cmpP p q < 0) ↔ ahead p q = true := by
 have h := @cmpP_ge p q
 cases h1 : ahead p q
 ·rw [h1] at h; simp only [iff_true] at h; simp; omega
 ·rw [h1] at h; simp only [Bool.true_eq_false, iff_false] at h; simp; omega
theorem p_Right (xs : List Pn) (hx : xs.length ≤ 9223372036854775807) : PC Try.prog 18 [.sl 6 (xs.map Pn.av)] (.v (.bool (rightL xs))) := by
 refine PC.mk (ac_body tab_ok Try.func18 rfl (by kernel_rfl) rfl ?_); intro w0 M μ0; simp only [Try.ntmps18, List.length_cons, List.length_nil, Nat.reduceAdd, Nat.reduceSub, numb]
 by_cases hbig : 2000 < xs.length
 ·have hb0 : (2000 : Int) < ((xs.map Pn.av).length : Int) := by rw [List.length_map]; omega
  repeat' (first | ((first | apply o_do | apply d_do | apply d_yes rfl rfl rfl); exact lsq) | refine a_seq ?_ | refine a_region ?_ | refine o_nil ?_ | refine a_block ?_ | refine a_ret ?_ | refine a_exit ?_ | refine a_skip ?_ | refine a_draw mixed ?_ | refine d_nil (by kernel_rfl) ?_ | refine o_yes rfl rfl rfl ?_ | refine o_no rfl rfl rfl (by decide) ?_ | refine o_no' rfl rfl rfl ?_ | refine a_condT rfl ?_ | refine a_condF rfl ?_ | refine d_no rfl rfl rfl (by decide) ?_ | refine d_no' rfl rfl rfl ?_ | (refine wq2 (fun hb => ?_) (fun hb => ?_) <;> (simp only [hb]; try simp only [hbs, ne_eq] at hb; try (exfalso; first | omega | exact hb trivial))) | fail)
  refine rq rfl ?_
  (first | refine FinA.tup ?_ | refine FinA.one ?_); repeat' (first | exact FinBs.nil | exact FinCs.nil | refine FinBs.cons ?_ ?_ | refine FinCs.cons ?_ ?_ | refine FinB.cell (FinC.v ?_) | refine FinB.cell (FinC.own rfl rfl rfl ?_) | exact FinB.cell FinC.nil | refine FinB.cell (FinC.sl ?_) | exact FinB.agg' rfl rfl | exact FinB.cell (FinC.same rfl) | refine FinB.agg ?_ | refine FinC.v ?_ | refine FinC.own rfl rfl rfl ?_ | exact FinC.nil | refine FinC.sl ?_ | exact FinC.same rfl); all_goals try rfl
  simp [rightL]; omega
 have hsm : xs.length ≤ 2000 := by omega
 have hb0 : ¬ (2000 : Int) < ((xs.map Pn.av).length : Int) := by rw [List.length_map]; omega
 repeat' (first | ((first | apply o_do | apply d_do | apply d_yes rfl rfl rfl); exact lsq) | refine a_seq ?_ | refine a_region ?_ | refine o_nil ?_ | refine a_block ?_ | refine a_ret ?_ | refine a_exit ?_ | refine a_skip ?_ | refine a_draw mixed ?_ | refine d_nil (by kernel_rfl) ?_ | refine o_yes rfl rfl rfl ?_ | refine o_no rfl rfl rfl (by decide) ?_ | refine o_no' rfl rfl rfl ?_ | refine a_condT rfl ?_ | refine a_condF rfl ?_ | refine d_no rfl rfl rfl (by decide) ?_ | refine d_no' rfl rfl rfl ?_ | (refine wq2 (fun hb => ?_) (fun hb => ?_) <;> (simp only [hb]; try simp only [hbs, ne_eq] at hb; try (exfalso; first | omega | exact hb trivial))) | fail)
 refine a_loop (X := {q : Nat // q ≤ xs.length ∧ okPn xs q = true}) (fun x => ⟨[(0, .sl 6 (xs.map Pn.av)), (8, .sl 6 (xs.map Pn.av)), (9, .v (.int .i64 xs.length)), (10, .v (.int .i64 x.1))], []⟩) (fun x => xs.length - x.1) ⟨0, Nat.zero_le _, rfl⟩ ?_ ?_
 ·exact wkS
 rintro ⟨q, hq, hok⟩
 dsimp only
 by_cases hlt : q < xs.length
 ·have hel : (xs.map Pn.av)[q]? = some (Pn.av xs[q]) := by simp [hlt]
  have hbad : okPn xs (q + 1) = false → rightL xs = false := fun h => by
   have := okPn_false xs (k := q + 1) (n := xs.length) (by omega) h
   simp [rightL, this]
  rcases Nat.eq_zero_or_pos q with rfl | hq0
  ·have hone := okPn_one xs hlt
   generalize xs[0] = p at *
   repeat' (first | ((first | apply o_do | apply d_do | apply d_yes rfl rfl rfl); first | exact ls_indexAddr_sl tab_ok rfl rfl rfl rfl (by assumption) rfl | exact lsc ((p_may _ _ _ _ _ _)) | exact lsc ((p_compare _ _ _ _ _ _ _ _ _ _ _ _)) | exact lsq) | refine a_seq ?_ | refine a_region ?_ | refine o_nil ?_ | refine a_block ?_ | refine a_ret ?_ | refine a_exit ?_ | refine a_skip ?_ | refine a_draw mixed ?_ | refine d_nil (by kernel_rfl) ?_ | refine o_yes rfl rfl rfl ?_ | refine o_no rfl rfl rfl (by decide) ?_ | refine o_no' rfl rfl rfl ?_ | refine a_condT rfl ?_ | refine a_condF rfl ?_ | refine d_no rfl rfl rfl (by decide) ?_ | refine d_no' rfl rfl rfl ?_ | (refine wq2 (fun hb => ?_) (fun hb => ?_) <;> (simp only [hb]; try simp only [hbs, ne_eq] at hb; try (exfalso; first | omega | exact hb trivial))) | fail)
   ·refine rq rfl ?_
    (first | refine FinA.tup ?_ | refine FinA.one ?_); repeat' (first | exact FinBs.nil | exact FinCs.nil | refine FinBs.cons ?_ ?_ | refine FinCs.cons ?_ ?_ | refine FinB.cell (FinC.v ?_) | refine FinB.cell (FinC.own rfl rfl rfl ?_) | exact FinB.cell FinC.nil | refine FinB.cell (FinC.sl ?_) | exact FinB.agg' rfl rfl | exact FinB.cell (FinC.same rfl) | refine FinB.agg ?_ | refine FinC.v ?_ | refine FinC.own rfl rfl rfl ?_ | exact FinC.nil | refine FinC.sl ?_ | exact FinC.same rfl); all_goals try rfl
    rw [hbad (hone.trans hb)]
   ·refine ⟨⟨1, by omega, hone.trans hb⟩, by dsimp only; omega, ?_⟩
    exact wkS
  ·obtain ⟨j, rfl⟩ : ∃ j, q = j + 1 := ⟨q - 1, by omega⟩
   have hj : ((j + 1 : Nat) : Int) - 1 = (j : Int) := by omega
   have hel2 : (xs.map Pn.av)[j]? = some (Pn.av xs[j]) := by simp [show j < xs.length by omega]
   have hsucc := okPn_succ xs j hlt
   generalize xs[j + 1] = p at *
   generalize xs[j] = p' at *
   repeat' (first | ((first | apply o_do | apply d_do | apply d_yes rfl rfl rfl); first | exact ls_indexAddr_sl tab_ok rfl rfl rfl rfl (by assumption) rfl | exact ls_indexAddr_sl tab_ok rfl rfl rfl hj hel2 rfl | exact lsc ((p_may _ _ _ _ _ _)) | exact lsc ((p_compare _ _ _ _ _ _ _ _ _ _ _ _)) | exact lsq) | refine a_seq ?_ | refine a_region ?_ | refine o_nil ?_ | refine a_block ?_ | refine a_ret ?_ | refine a_exit ?_ | refine a_skip ?_ | refine a_draw mixed ?_ | refine d_nil (by kernel_rfl) ?_ | refine o_yes rfl rfl rfl ?_ | refine o_no rfl rfl rfl (by decide) ?_ | refine o_no' rfl rfl rfl ?_ | refine a_condT rfl ?_ | refine a_condF rfl ?_ | refine d_no rfl rfl rfl (by decide) ?_ | refine d_no' rfl rfl rfl ?_ | (refine wq2 (fun hb => ?_) (fun hb => ?_) <;> (simp only [hb]; try simp only [hbs, ne_eq] at hb; try (exfalso; first | omega | exact hb trivial))) | fail)
   ·refine rq rfl ?_
    (first | refine FinA.tup ?_ | refine FinA.one ?_); repeat' (first | exact FinBs.nil | exact FinCs.nil | refine FinBs.cons ?_ ?_ | refine FinCs.cons ?_ ?_ | refine FinB.cell (FinC.v ?_) | refine FinB.cell (FinC.own rfl rfl rfl ?_) | exact FinB.cell FinC.nil | refine FinB.cell (FinC.sl ?_) | exact FinB.agg' rfl rfl | exact FinB.cell (FinC.same rfl) | refine FinB.agg ?_ | refine FinC.v ?_ | refine FinC.own rfl rfl rfl ?_ | exact FinC.nil | refine FinC.sl ?_ | exact FinC.same rfl); all_goals try rfl
    rw [hbad (by rw [hsucc, show mayB p = false from hb]; simp)]
   ·refine rq rfl ?_
    (first | refine FinA.tup ?_ | refine FinA.one ?_); repeat' (first | exact FinBs.nil | exact FinCs.nil | refine FinBs.cons ?_ ?_ | refine FinCs.cons ?_ ?_ | refine FinB.cell (FinC.v ?_) | refine FinB.cell (FinC.own rfl rfl rfl ?_) | exact FinB.cell FinC.nil | refine FinB.cell (FinC.sl ?_) | exact FinB.agg' rfl rfl | exact FinB.cell (FinC.same rfl) | refine FinB.agg ?_ | refine FinC.v ?_ | refine FinC.own rfl rfl rfl ?_ | exact FinC.nil | refine FinC.sl ?_ | exact FinC.same rfl); all_goals try rfl
    rw [hbad (by rw [hsucc, show ahead p' p = false from cmpP_ge.1 hb]; simp)]
   ·refine ⟨⟨j + 1 + 1, by omega, by rw [hsucc, hok, show ahead p' p = true from cmpP_lt.1 (Int.not_le.1 hb)]; simp; assumption⟩, by dsimp only; omega, ?_⟩
    exact wkS
 ·repeat' (first | ((first | apply o_do | apply d_do | apply d_yes rfl rfl rfl); exact lsq) | refine a_seq ?_ | refine a_region ?_ | refine o_nil ?_ | refine a_block ?_ | refine a_ret ?_ | refine a_exit ?_ | refine a_skip ?_ | refine a_draw mixed ?_ | refine d_nil (by kernel_rfl) ?_ | refine o_yes rfl rfl rfl ?_ | refine o_no rfl rfl rfl (by decide) ?_ | refine o_no' rfl rfl rfl ?_ | refine a_condT rfl ?_ | refine a_condF rfl ?_ | refine d_no rfl rfl rfl (by decide) ?_ | refine d_no' rfl rfl rfl ?_ | (refine wq2 (fun hb => ?_) (fun hb => ?_) <;> (simp only [hb]; try simp only [hbs, ne_eq] at hb; try (exfalso; first | omega | exact hb trivial))) | fail)
  refine rq rfl ?_
  (first | refine FinA.tup ?_ | refine FinA.one ?_); repeat' (first | exact FinBs.nil | exact FinCs.nil | refine FinBs.cons ?_ ?_ | refine FinCs.cons ?_ ?_ | refine FinB.cell (FinC.v ?_) | refine FinB.cell (FinC.own rfl rfl rfl ?_) | exact FinB.cell FinC.nil | refine FinB.cell (FinC.sl ?_) | exact FinB.agg' rfl rfl | exact FinB.cell (FinC.same rfl) | refine FinB.agg ?_ | refine FinC.v ?_ | refine FinC.own rfl rfl rfl ?_ | exact FinC.nil | refine FinC.sl ?_ | exact FinC.same rfl); all_goals try rfl
  obtain rfl : q = xs.length := by omega
  simp [rightL, hok]
  omega
theorem rightL_ok {l : List Pn} (h : rightL l = true) : l.length ≤ 2000 ∧ (∀ p ∈ l, mayB p = true) ∧ l.Pairwise (fun p q => ahead p q = true) := by
 simp only [rightL, Bool.and_eq_true, decide_eq_true_eq] at h
 exact ⟨h.1, (okPn_iff l).1 h.2⟩
structure Rs where
 lo : Int
 hi : Int
 key : ByteArray
 n : Int
 val : Int
def Rs.av (r : Rs) : List AV := [.v (.int .i64 r.lo), .v (.int .i64 r.hi), .v (.string r.key), .v (.int .i64 r.n), .v (.int .i64 r.val)]
def resOf (k : Int) (p : Pn) : Rs := ⟨p.lo, p.hi, p.key, p.n, fVal k ⟨p.n, p.a, p.b⟩⟩
def resultsL (k : Int) (l : List Pn) : List Rs := if rightL l && fRight k then l.map (resOf k) else []
theorem p_fRight (k : Int) : PC Try.prog 19 [.v (.int .i64 k)] (.v (.bool (fRight k))) := by
 refine PC.mk (ac_body tab_ok Try.func19 rfl (by kernel_rfl) rfl ?_); intro w0 M μ0; simp only [Try.ntmps19, List.length_cons, List.length_nil, Nat.reduceAdd, Nat.reduceSub, numb]
 repeat' (first | ((first | apply o_do | apply d_do | apply d_yes rfl rfl rfl); exact lsq) | refine a_seq ?_ | refine a_region ?_ | refine o_nil ?_ | refine a_block ?_ | refine a_ret ?_ | refine a_exit ?_ | refine a_skip ?_ | refine a_draw mixed ?_ | refine d_nil (by kernel_rfl) ?_ | refine o_yes rfl rfl rfl ?_ | refine o_no rfl rfl rfl (by decide) ?_ | refine o_no' rfl rfl rfl ?_ | refine a_condT rfl ?_ | refine a_condF rfl ?_ | refine d_no rfl rfl rfl (by decide) ?_ | refine d_no' rfl rfl rfl ?_ | (refine wq2 (fun hb => ?_) (fun hb => ?_) <;> (simp only [hb]; try simp only [hbs, ne_eq] at hb; try (exfalso; first | omega | exact hb trivial))) | fail)
 all_goals refine rq rfl ?_
 all_goals (first | refine FinA.tup ?_ | refine FinA.one ?_); repeat' (first | exact FinBs.nil | exact FinCs.nil | refine FinBs.cons ?_ ?_ | refine FinCs.cons ?_ ?_ | refine FinB.cell (FinC.v ?_) | refine FinB.cell (FinC.own rfl rfl rfl ?_) | exact FinB.cell FinC.nil | refine FinB.cell (FinC.sl ?_) | exact FinB.agg' rfl rfl | exact FinB.cell (FinC.same rfl) | refine FinB.agg ?_ | refine FinC.v ?_ | refine FinC.own rfl rfl rfl ?_ | exact FinC.nil | refine FinC.sl ?_ | exact FinC.same rfl); all_goals try rfl
 all_goals simp [fRight, *]
theorem p_Val (k n a b : Int) : PC Try.prog 20 [.v (.int .i64 k), .agg [.v (.int .i64 n), .v (.int .i64 a), .v (.int .i64 b)]] (.v (.int .i64 (fVal k ⟨n, a, b⟩))) := by
 refine PC.mk (ac_body tab_ok Try.func20 rfl (by kernel_rfl) rfl ?_); intro w0 M μ0; simp only [Try.ntmps20, List.length_cons, List.length_nil, Nat.reduceAdd, Nat.reduceSub, numb]
 repeat' (first | ((first | apply o_do | apply d_do | apply d_yes rfl rfl rfl); first | exact lsc ((p_fRight _)) | exact lsq) | refine a_seq ?_ | refine a_region ?_ | refine o_nil ?_ | refine a_block ?_ | refine a_ret ?_ | refine a_exit ?_ | refine a_skip ?_ | refine a_draw mixed ?_ | refine d_nil (by kernel_rfl) ?_ | refine o_yes rfl rfl rfl ?_ | refine o_no rfl rfl rfl (by decide) ?_ | refine o_no' rfl rfl rfl ?_ | refine a_condT rfl ?_ | refine a_condF rfl ?_ | refine d_no rfl rfl rfl (by decide) ?_ | refine d_no' rfl rfl rfl ?_ | (refine wq2 (fun hb => ?_) (fun hb => ?_) <;> (simp only [hb]; try simp only [hbs, ne_eq] at hb; try (exfalso; first | omega | exact hb trivial))) | fail)
 all_goals refine rq rfl ?_
 all_goals (first | refine FinA.tup ?_ | refine FinA.one ?_); repeat' (first | exact FinBs.nil | exact FinCs.nil | refine FinBs.cons ?_ ?_ | refine FinCs.cons ?_ ?_ | refine FinB.cell (FinC.v ?_) | refine FinB.cell (FinC.own rfl rfl rfl ?_) | exact FinB.cell FinC.nil | refine FinB.cell (FinC.sl ?_) | exact FinB.agg' rfl rfl | exact FinB.cell (FinC.same rfl) | refine FinB.agg ?_ | refine FinC.v ?_ | refine FinC.own rfl rfl rfl ?_ | exact FinC.nil | refine FinC.sl ?_ | exact FinC.same rfl); all_goals try rfl
 all_goals simp [fVal, show fRight 5 = true from rfl, *]
 all_goals first | rfl | (rw [IntKind.wrap_i64]; unfold wrap64; omega)
theorem p_Results (k : Int) (xs : List Pn) (hx : xs.length ≤ 9223372036854775807) : PC Try.prog 11 [.v (.int .i64 k), .sl 6 (xs.map Pn.av)] (.sl 5 ((resultsL k xs).map Rs.av)) := by
 have hp := p_Right xs hx
 cases hR : rightL xs && fRight k
 ·have e1 : (resultsL k xs).map Rs.av = [] := by simp only [resultsL, hR]; rfl
  rw [e1]
  refine PC.mk (ac_body tab_ok Try.func11 rfl (by kernel_rfl) rfl ?_); intro w0 M μ0; simp only [Try.ntmps11, List.length_cons, List.length_nil, Nat.reduceAdd, Nat.reduceSub, numb]
  repeat' (first | ((first | apply o_do | apply d_do | apply d_yes rfl rfl rfl); first | exact lsc (hp) | exact lsc ((p_fRight _)) | exact lsq) | refine a_seq ?_ | refine a_region ?_ | refine o_nil ?_ | refine a_block ?_ | refine a_ret ?_ | refine a_exit ?_ | refine a_skip ?_ | refine a_draw mixed ?_ | refine d_nil (by kernel_rfl) ?_ | refine o_yes rfl rfl rfl ?_ | refine o_no rfl rfl rfl (by decide) ?_ | refine o_no' rfl rfl rfl ?_ | refine a_condT rfl ?_ | refine a_condF rfl ?_ | refine d_no rfl rfl rfl (by decide) ?_ | refine d_no' rfl rfl rfl ?_ | (refine wq2 (fun hb => ?_) (fun hb => ?_) <;> (simp only [hb]; try simp only [hbs, ne_eq] at hb; try (exfalso; first | omega | exact hb trivial))) | fail)
  all_goals first
   | (refine rq rfl ?_; exact fnq; done)
   | (exfalso; simp_all; done)
 ·simp only [Bool.and_eq_true] at hR
  obtain ⟨hR1, hR2⟩ := hR
  rw [hR1] at hp
  have hf := p_fRight k
  rw [hR2] at hf
  have hsm := (rightL_ok hR1).1
  have e1 : resultsL k xs = xs.map (resOf k) := by simp [resultsL, hR1, hR2]
  rw [e1]
  refine PC.mk (ac_body tab_ok Try.func11 rfl (by kernel_rfl) rfl ?_); intro w0 M μ0; simp only [Try.ntmps11, List.length_cons, List.length_nil, Nat.reduceAdd, Nat.reduceSub, numb]
  repeat' (first | ((first | apply o_do | apply d_do | apply d_yes rfl rfl rfl); first | exact lsc (hp) | exact lsc (hf) | exact lsq) | refine a_seq ?_ | refine a_region ?_ | refine o_nil ?_ | refine a_block ?_ | refine a_ret ?_ | refine a_exit ?_ | refine a_skip ?_ | refine a_draw mixed ?_ | refine d_nil (by kernel_rfl) ?_ | refine o_yes rfl rfl rfl ?_ | refine o_no rfl rfl rfl (by decide) ?_ | refine o_no' rfl rfl rfl ?_ | refine a_condT rfl ?_ | refine a_condF rfl ?_ | refine d_no rfl rfl rfl (by decide) ?_ | refine d_no' rfl rfl rfl ?_ | (refine wq2 (fun hb => ?_) (fun hb => ?_) <;> (simp only [hb]; try simp only [hbs, ne_eq] at hb; try (exfalso; first | omega | exact hb trivial))) | fail)
  refine a_adopt 5 0 36 5 rfl rfl ?_
  refine a_loop (X := {q : Nat // q ≤ xs.length}) (fun x => ⟨[(0, .v (.int .i64 k)), (5, .own 0 (((xs.take x.1).map (resOf k)).map Rs.av).length), (16, .sl 6 (xs.map Pn.av)), (17, .v (.int .i64 xs.length)), (18, .v (.int .i64 x.1))], [(0, .row 36 5 (((xs.take x.1).map (resOf k)).map Rs.av))]⟩) (fun x => xs.length - x.1) ⟨0, Nat.zero_le _⟩ ?_ ?_
  ·exact wkS
  rintro ⟨q, hq⟩
  dsimp only
  by_cases hlt : q < xs.length
  ·have hel : (xs.map Pn.av)[q]? = some (Pn.av xs[q]) := by simp [hlt]
   have hsn := take_snoc xs q hlt
   have hl2 : (((xs.take q).map (resOf k)).map Rs.av).length ≤ 2000 := by simp only [List.length_map, List.length_take]; omega
   generalize xs[q] = x at *
   have hA : ((xs.take (q + 1)).map (resOf k)).map Rs.av = ((xs.take q).map (resOf k)).map Rs.av ++ [(resOf k x).av] := by rw [hsn]; simp
   clear hsn
   repeat' (first | ((first | apply o_do | apply d_do | apply d_yes rfl rfl rfl); first | exact ls_indexAddr_sl tab_ok rfl rfl rfl rfl (by assumption) rfl | exact lsc ((p_Val _ _ _ _)) | focus (apply ls_append tab_ok rfl rfl ?hn rfl ?hsrc rfl ?hlen rfl rfl; (case hn => rfl); (case hsrc => first | exact SrcIs.sl | exact SrcIs.nil | exact SrcIs.own rfl rfl | fail); (case hlen => (try simp only [List.length_cons, List.length_nil]); omega); first | done | fail) | exact lsq) | refine a_seq ?_ | refine a_region ?_ | refine o_nil ?_ | refine a_block ?_ | refine a_ret ?_ | refine a_exit ?_ | refine a_skip ?_ | refine a_draw mixed ?_ | refine d_nil (by kernel_rfl) ?_ | refine o_yes rfl rfl rfl ?_ | refine o_no rfl rfl rfl (by decide) ?_ | refine o_no' rfl rfl rfl ?_ | refine a_condT rfl ?_ | refine a_condF rfl ?_ | refine d_no rfl rfl rfl (by decide) ?_ | refine d_no' rfl rfl rfl ?_ | (refine wq2 (fun hb => ?_) (fun hb => ?_) <;> (simp only [hb]; try simp only [hbs, ne_eq] at hb; try (exfalso; first | omega | exact hb trivial))) | fail)
   refine ⟨⟨q + 1, by omega⟩, by dsimp only; omega, ?_⟩
   refine ⟨by repeat' (first | exact trivial | exact FinA.one (FinB.cell (FinC.same rfl)) | exact FinA.one (FinB.cell FinC.nil) | exact FinA.bound rfl | exact FinA.one (FinB.cell (FinC.own rfl rfl rfl rfl)) | exact FinA.one (FinB.cell (FinC.v (by first | rfl | ((simp only [hA]; rfl))))) | exact FinA.one (FinB.cell (FinC.ow rfl (by first | rfl | ((simp only [hA]; rfl))))) | exact FinA.one (FinB.agg' rfl rfl) | refine ⟨⟨_, rfl, ?_⟩, ?_⟩), by repeat' (first | exact trivial | refine ⟨⟨_, rfl, by first | rfl | ((simp only [hA]; rfl); done) | (simp [renO, *]; done)⟩, by first | rfl | assumption, ?_⟩), rfl⟩
  ·obtain rfl : q = xs.length := by omega
   simp only [List.take_length]
   repeat' (first | ((first | apply o_do | apply d_do | apply d_yes rfl rfl rfl); exact lsq) | refine a_seq ?_ | refine a_region ?_ | refine o_nil ?_ | refine a_block ?_ | refine a_ret ?_ | refine a_exit ?_ | refine a_skip ?_ | refine a_draw mixed ?_ | refine d_nil (by kernel_rfl) ?_ | refine o_yes rfl rfl rfl ?_ | refine o_no rfl rfl rfl (by decide) ?_ | refine o_no' rfl rfl rfl ?_ | refine a_condT rfl ?_ | refine a_condF rfl ?_ | refine d_no rfl rfl rfl (by decide) ?_ | refine d_no' rfl rfl rfl ?_ | (refine wq2 (fun hb => ?_) (fun hb => ?_) <;> (simp only [hb]; try simp only [hbs, ne_eq] at hb; try (exfalso; first | omega | exact hb trivial))) | fail)
   refine rq rfl ?_
   exact fnq
section
variable {Γ : Ctx} {s : ASt} {dst : Option Tmp} {ty yt : TypeId} {pos : String} {after : Array Edge} {x y : Operand}
end
theorem rightL_mk {l : List Pn} (h1 : l.length ≤ 2000) (h2 : ∀ p ∈ l, mayB p = true) (h3 : l.Pairwise (fun p q => ahead p q = true)) : rightL l = true := by
 simp only [rightL, Bool.and_eq_true, decide_eq_true_eq]
 exact ⟨h1, (okPn_iff l).2 ⟨h2, h3⟩⟩
end Go.Proofs.Ytlgbadlgfdlheaa
