/-
  This program's types, for walks over abstract values. No condition.
  Walks over abstract values: what shortens a text. Over whatever program. No condition.
  One step of a walk over abstract values, found by trying. No condition.
  Walks over abstract values: a method's value (a function with a bound receiver) called; a nil check; a shift by one. Over whatever program. No condition.
  Walks over abstract values: contracts that lean on a fact on memory which hangs on kept blocks alone (a table of a package). Over whatever program. No condition.
  Numbers written in digits: strconv.FormatInt by the shelf's contract, which leans on a table of the package. Laid at this seat's numbers.
  Small contracts that many layers use: which windows, folds, keys and events may be. No condition.
  Panes, in plain Lean: which may be, which stands ahead, which rows may be. No condition.
  Panes, walked over abstract values: what compares, which may be, which rows may be.
  Layer fold in plain Lean: what a fold has of values; no program in sight. No condition.
  Panes, walked over abstract values: how the program compares; which rows may be.
  Panes, walked over abstract values: what is due by the reference; results.
  Panes, walked over abstract values: likeness.
  Groups, walked over abstract values: which may be; time that goes on.
  Which of a row's elements meets a test: the library's ContainsFunc over rows of events, for whatever test.
-/
import Derived.Shelf.Strconv.Itoa4
import Derived.Lib.ItoaLen
import Derived.RowKit
import Derived.Laws.Cover1
import Derived.Test.YtbhblhcgfenobaaGreatDoorRows
import Derived.Test.YtbhblhcgfenobaaGreatDoorChecked
import Derived.Test.YtbhblhcgfenobaaGreatDoorK1
import Derived.Test.YtbhblhcgfenobaaGreatDoorK3
namespace Go.Proofs.YtbhblhcgfenobaaGreatDoor
open Go.RowKit
def tab : List TyI := [.none,
  .func,
  .int .i64,
  .int .i64,
  .bool,
  .int .u8,
  .int .u8,
  .struct 4 [(0, 2), (1, 3), (2, 4), (3, 6)],
  .struct 4 [(0, 2), (1, 3), (2, 4), (3, 6)],
  .string,
  .string,
  .string,
  .int .u64,
  .struct 2 [(0, 9), (1, 12)],
  .struct 2 [(0, 9), (1, 12)],
  .pointer,
  .pointer,
  .pointer,
  .struct 1 [(0, 17)],
  .struct 1 [(0, 17)],
  .none,
  .int .i32,
  .struct 8 [(0, 3), (1, 2), (2, 2), (3, 3), (4, 3), (5, 2), (6, 2), (7, 3)],
  .struct 8 [(0, 3), (1, 2), (2, 2), (3, 3), (4, 3), (5, 2), (6, 2), (7, 3)],
  .slice 48 1 24,
  .slice 52 3 24,
  .struct 11 [(0, 23), (8, 24), (9, 3), (10, 25)],
  .struct 11 [(0, 23), (8, 24), (9, 3), (10, 25)],
  .int .i64,
  .none,
  .func,
  .func,
  .func,
  .func,
  .none,
  .func,
  .func,
  .slice 9 1 16,
  .none,
  .func,
  .func,
  .func,
  .none,
  .none,
  .func,
  .func,
  .none,
  .func,
  .slice 82 3 32,
  .none,
  .func,
  .struct 3 [(0, 3), (1, 3), (2, 3)],
  .struct 3 [(0, 3), (1, 3), (2, 3)],
  .none,
  .func,
  .none,
  .func,
  .func,
  .func,
  .func,
  .func,
  .func,
  .pointer,
  .pointer,
  .slice 5 1 1,
  .struct 2 [(0, 63), (1, 64)],
  .struct 2 [(0, 63), (1, 64)],
  .struct 2 [(0, 66)],
  .struct 2 [(0, 66)],
  .none,
  .none,
  .none,
  .func,
  .func,
  .func,
  .func,
  .func,
  .func,
  .func,
  .func,
  .func,
  .struct 3 [(0, 9), (1, 2), (2, 2)],
  .struct 3 [(0, 9), (1, 2), (2, 2)],
  .func,
  .func,
  .func,
  .func,
  .pointer,
  .struct 8 [(0, 23)],
  .struct 8 [(0, 23)],
  .func,
  .none,
  .func,
  .none,
  .func,
  .none,
  .func,
  .func,
  .func,
  .func,
  .func,
  .func,
  .pointer,
  .func,
  .func,
  .func,
  .func,
  .func,
  .func,
  .func,
  .func,
  .func,
  .func,
  .none,
  .func,
  .slice 2 1 8,
  .none,
  .func,
  .none,
  .func,
  .func,
  .func,
  .none,
  .func,
  .none,
  .func,
  .func,
  .func,
  .func,
  .int .u64,
  .func,
  .none,
  .func,
  .func,
  .func,
  .none,
  .func,
  .none,
  .int .u64,
  .func,
  .func,
  .none,
  .func,
  .int .u32,
  .none,
  .func,
  .int .i64,
  .none,
  .func,
  .pointer,
  .func,
  .func,
  .func,
  .none,
  .none,
  .func,
  .none,
  .struct 2 [(0, 5), (1, 5)],
  .struct 2 [(0, 5), (1, 5)],
  .none,
  .func,
  .func,
  .struct 3 [(0, 9), (1, 9), (2, 70)],
  .struct 3 [(0, 9), (1, 9), (2, 70)],
  .func,
  .func,
  .pointer,
  .struct 1 [(0, 9)],
  .struct 1 [(0, 9)],
  .none,
  .none,
  .struct 4 [(0, 17), (1, 17), (2, 17), (3, 9)],
  .struct 4 [(0, 17), (1, 17), (2, 17), (3, 9)],
  .none,
  .none,
  .none,
  .func,
  .int .u8,
  .int .u8,
  .func,
  .int .i32,
  .int .i32,
  .struct 11 [(0, 12), (1, 12), (2, 143), (3, 177), (4, 5), (5, 5), (6, 178), (7, 179), (8, 102), (9, 180), (10, 181)],
  .struct 11 [(0, 12), (1, 12), (2, 143), (3, 177), (4, 5), (5, 5), (6, 178), (7, 179), (8, 102), (9, 180), (10, 181)]]
theorem tab_ok : okTab Tryz.prog tab = true := by kernel_rfl
theorem tab_zero : okZero Tryz.prog tab = true := by kernel_rfl
theorem mixed : (Tryz.prog).follows .mixedOrders = true := by kernel_rfl
end Go.Proofs.YtbhblhcgfenobaaGreatDoor
namespace Go.Proofs.YtbhblhcgfenobaaGreatDoor
open Go.RowKit
set_option linter.unusedSimpArgs false
set_option linter.unusedVariables false
theorem hbs : (∀ (p : Prop) [Decidable p], decide p = true ↔ p) ∧ (∀ (p : Prop) [Decidable p], decide p = false ↔ ¬ p) ∧ (∀ b : Bool, (!b) = true ↔ b = false) ∧ (∀ b : Bool, (!b) = false ↔ b = true) ∧ (∀ b : Bool, ¬ b = true ↔ b = false) ∧ (∀ b : Bool, ¬ b = false ↔ b = true) ∧ (∀ (p : Prop) [Decidable p], ¬ ¬ p ↔ p) :=
  ⟨fun p _ => decide_eq_true_iff, fun p _ => decide_eq_false_iff_not, fun b => by cases b <;> simp, fun b => by cases b <;> simp, fun b => by cases b <;> simp, fun b => by cases b <;> simp, fun p _ => Decidable.not_not⟩
theorem wkS {Γ : Ctx} {s t : ASt} (h : Weak Γ s t := by first | (refine ⟨by repeat' (first | exact trivial | exact FinA.one (FinB.cell (FinC.same rfl)) | exact FinA.one (FinB.cell FinC.nil) | exact FinA.bound rfl | exact FinA.one (FinB.cell (FinC.own rfl rfl rfl rfl)) | exact FinA.one (FinB.cell (FinC.v (by first | rfl | (simp)))) | exact FinA.one (FinB.cell (FinC.ow rfl (by first | rfl | (simp)))) | exact FinA.one (FinB.agg' rfl rfl) | refine ⟨⟨_, rfl, ?_⟩, ?_⟩), by repeat' (first | exact trivial | refine ⟨⟨_, rfl, by first | rfl | (simp; done) | (simp [renO, *]; done)⟩, by first | rfl | assumption, ?_⟩), rfl⟩; done) | fail) : Weak Γ s t := h
theorem fnq {σ σ' : Store} {v u : AV} (h : FinA σ σ' v u := by first | (((first | refine FinA.tup ?_ | refine FinA.one ?_); repeat' (first | exact FinBs.nil | exact FinCs.nil | refine FinBs.cons ?_ ?_ | refine FinCs.cons ?_ ?_ | refine FinB.cell (FinC.v ?_) | refine FinB.cell (FinC.own rfl rfl rfl ?_) | exact FinB.cell FinC.nil | refine FinB.cell (FinC.sl ?_) | exact FinB.agg' rfl rfl | exact FinB.cell (FinC.same rfl) | refine FinB.agg ?_ | refine FinC.v ?_ | refine FinC.own rfl rfl rfl ?_ | exact FinC.nil | refine FinC.sl ?_ | exact FinC.same rfl); all_goals try rfl); done) | fail) : FinA σ σ' v u := h
theorem rq {T : List TyI} {res : List ResultVar} {r : AV} {σ' : Store} {e : Exit} {s : ASt} {vs : List AV} (h2 : resL T s res = some vs) (h3 : FinA s.σ σ' (single vs) r) (h1 : e = .normal ∨ e = .ret := by first | exact .inr rfl | exact .inl rfl | fail) (h4 : Kept s.σ σ' σ' := by repeat' (first | exact trivial | refine ⟨⟨_, rfl, by first | rfl | (simp [renO, *]; done)⟩, by first | rfl | assumption, ?_⟩ | fail)) : RetQ T res r σ' e s := ⟨h1, vs, h2, h3, h4⟩
end Go.Proofs.YtbhblhcgfenobaaGreatDoor
namespace Go.Proofs.YtbhblhcgfenobaaGreatDoor
open Go.RowKit
/-- one operation: whichever rule fits -/
theorem lsq {Γ : Ctx} {i : Oper} {s : ASt} {R : List Loc} {D : List (Nat × AV)} {M : List (Nat × SObj)} (h : LS Tryz.prog Γ i s R D M := by
  first
  | exact ls_move rfl rfl
  | exact ls_assign rfl rfl
  | exact ls_load_ref tab_ok rfl rfl rfl rfl rfl rfl
  | exact ls_load_el tab_ok rfl rfl rfl rfl
  | exact ls_fieldAddr_ref tab_ok rfl rfl rfl rfl rfl rfl
  | exact ls_fieldAddr_el tab_ok rfl rfl rfl rfl rfl
  | exact ls_extract rfl rfl rfl
  | exact ls_pickT rfl rfl rfl
  | exact ls_pickF rfl rfl rfl
  | exact ls_add64 rfl rfl (by omega) rfl
  | exact ls_sub64 rfl rfl (by omega) rfl
  | exact ls_lss rfl rfl rfl
  | exact ls_leq rfl rfl rfl
  | exact ls_gtr rfl rfl rfl
  | exact ls_geq rfl rfl rfl
  | exact ls_eql rfl rfl rfl
  | exact ls_neq rfl rfl rfl
  | exact ls_seq rfl rfl rfl
  | exact ls_sne rfl rfl rfl
  | exact ls_slt rfl rfl rfl
  | exact ls_sgt rfl rfl rfl
  | exact ls_sle rfl rfl rfl
  | exact ls_sge rfl rfl rfl
  | exact ls_cat rfl rfl (by omega) rfl
  | exact ls_beq tab_ok rfl rfl rfl rfl
  | exact ls_bne tab_ok rfl rfl rfl rfl
  | exact ls_not rfl rfl
  | exact ls_len_str tab_ok rfl rfl rfl
  | exact ls_len_sl tab_ok rfl rfl rfl
  | exact ls_len_own tab_ok rfl rfl rfl rfl rfl
  | exact ls_len_nil tab_ok rfl rfl rfl
  | exact ls_field tab_ok rfl rfl rfl rfl rfl rfl rfl
  | exact ls_build tab_ok tab_zero rfl rfl rfl rfl rfl rfl
  | exact ls_build0 (k := 0) tab_ok rfl rfl rfl rfl | exact ls_build0 (k := 1) tab_ok rfl rfl rfl rfl | exact ls_build0 (k := 2) tab_ok rfl rfl rfl rfl | exact ls_build0 (k := 3) tab_ok rfl rfl rfl rfl | exact ls_build0 (k := 4) tab_ok rfl rfl rfl rfl | exact ls_build0 (k := 5) tab_ok rfl rfl rfl rfl | exact ls_build0 (k := 6) tab_ok rfl rfl rfl rfl | exact ls_build0 (k := 7) tab_ok rfl rfl rfl rfl | exact ls_build0 (k := 8) tab_ok rfl rfl rfl rfl | exact ls_build0 (k := 9) tab_ok rfl rfl rfl rfl | exact ls_build0 (k := 10) tab_ok rfl rfl rfl rfl | exact ls_build0 (k := 11) tab_ok rfl rfl rfl rfl
  | exact ls_buildS tab_ok rfl rfl rfl rfl rfl rfl
  | exact ls_store_ref tab_ok rfl rfl rfl rfl rfl rfl rfl rfl rfl
  | exact ls_add rfl rfl rfl
  | exact ls_sub rfl rfl rfl
  | exact ls_mul rfl rfl rfl
  | exact ls_neg rfl rfl
  | exact ls_func rfl rfl rfl
  | exact ls_min rfl rfl rfl
  | exact ls_max rfl rfl rfl
  | exact ls_box (k := 0) rfl rfl rfl rfl | exact ls_box (k := 1) rfl rfl rfl rfl | exact ls_box (k := 2) rfl rfl rfl rfl | exact ls_box (k := 3) rfl rfl rfl rfl | exact ls_box (k := 4) rfl rfl rfl rfl | exact ls_box (k := 5) rfl rfl rfl rfl | exact ls_box (k := 6) rfl rfl rfl rfl | exact ls_box (k := 7) rfl rfl rfl rfl | exact ls_box (k := 8) rfl rfl rfl rfl | exact ls_box (k := 9) rfl rfl rfl rfl | exact ls_box (k := 10) rfl rfl rfl rfl | exact ls_box (k := 11) rfl rfl rfl rfl | exact ls_alloc (k := 0) tab_zero rfl rfl rfl rfl | exact ls_alloc (k := 1) tab_zero rfl rfl rfl rfl | exact ls_alloc (k := 2) tab_zero rfl rfl rfl rfl | exact ls_alloc (k := 3) tab_zero rfl rfl rfl rfl | exact ls_alloc (k := 4) tab_zero rfl rfl rfl rfl | exact ls_alloc (k := 5) tab_zero rfl rfl rfl rfl | exact ls_alloc (k := 6) tab_zero rfl rfl rfl rfl | exact ls_alloc (k := 7) tab_zero rfl rfl rfl rfl | exact ls_alloc (k := 8) tab_zero rfl rfl rfl rfl | exact ls_alloc (k := 9) tab_zero rfl rfl rfl rfl | exact ls_alloc (k := 10) tab_zero rfl rfl rfl rfl | exact ls_alloc (k := 11) tab_zero rfl rfl rfl rfl | exact ls_indexAddr_sl tab_ok rfl rfl rfl rfl (by assumption) rfl | focus (apply ls_append tab_ok rfl rfl ?hn rfl ?hsrc rfl ?hlen rfl rfl; (case hn => rfl); (case hsrc => first | exact SrcIs.sl | exact SrcIs.nil | exact SrcIs.own rfl rfl | fail); (case hlen => (try simp only [List.length_cons, List.length_nil]); omega); first | done | fail) | fail) : LS Tryz.prog Γ i s R D M := h
/-- a call of a function whose contract is given -/
theorem lsc {f : FuncId} {us : List AV} {r : AV} {Γ : Ctx} {i : Oper} {s : ASt} {R : List Loc} {D : List (Nat × AV)} {M : List (Nat × SObj)} (h : PC Tryz.prog f us r) (H : PC Tryz.prog f us r → LS Tryz.prog Γ i s R D M := by
  first | (intro h; apply ls_call h rfl rfl _ rfl rfl; (repeat' (first | exact NilL.nil | refine NilL.cons Nil.same ?_ | refine NilL.cons Nil.nil ?_ | refine NilL.cons (Nil.agg ?_) ?_ | exact Nil1s.nil | refine Nil1s.cons Nil1.same ?_ | refine Nil1s.cons Nil1.nil ?_)); first | done | fail) | fail) : LS Tryz.prog Γ i s R D M := H h
section
variable {Γ : Ctx} {Q : Exit → ASt → Prop} {s : ASt} {A B : Prop}
theorem wq2 {b : Bool} {G : Prop} (k : b = true → A) (l : b = false → B) (h : (b = true → A) → (b = false → B) → G := by
  intro k l
  first
  | exact o_split_t rfl rfl rfl k l
  | exact o_split_f rfl rfl rfl k l
  | exact a_cond rfl k l
  | exact d_split rfl rfl k l
  | fail) : G := h k l
end
end Go.Proofs.YtbhblhcgfenobaaGreatDoor
namespace Go.Proofs.YtbhblhcgfenobaaGreatDoor
open Go.RowKit
set_option linter.unusedSimpArgs false
set_option linter.unusedVariables false
section
variable {P : Program} {T : List TyI} {Γ : Ctx} {s : ASt} {μ : Nat → Value} {w : World} {dst : Option Tmp} {ty : TypeId} {pos : String} {after : Array Edge}
theorem run_callB {f : FuncId} (h : CallOK P f) {c : Operand} {args : Array Operand} {argTypes : Array TypeId} {a : Act} {fs ks : List Value} (hc : a.eval c = .func (.func f) fs.toArray ks.toArray) : (execOp a.eval ⟨dst, .call { callee := .value c, args := args, argTypes := argTypes }, ty, pos, after, none⟩).run P w = .ok (.enter f (fs ++ args.toList.map a.eval ++ ks).toArray) w := by
  obtain ⟨fn, h1, h2, h3⟩ := h
  have h4 : args.map a.eval = (args.toList.map a.eval).toArray := by simp [← Array.toList_map]
  have h2' : ¬ fn.name = "runtime.NumGoroutine" := by simpa using h2
  have h3' : fn.body ≠ none := by
    intro h; rw [h] at h3; cases h3
  simp [execOp, resolve, hc, Deferred.ofValue, invoke, callFunc, h1, h2', h3', h4]
theorem Rel.calleeB {t : ASt} {a : Act} (hr : Rel Γ t μ a w) {c : Operand} {f : FuncId} {first caps : List AV} (h : Proofs.YtbhblhcgfenobaaGreatDoor.ev t c = some (.clo (.func f) first caps)) : ∃ fs ks : List Value, a.eval c = .func (.func f) fs.toArray ks.toArray ∧ repL t.σ μ w (av t.σ μ Γ.M) first fs ∧ repL t.σ μ w (av t.σ μ Γ.M) caps ks := by
  have h1 := hr.ev h
  simp only [rep] at h1
  obtain ⟨us, ks, h2, h3, h4⟩ := h1
  exact ⟨us, ks, h2, h3, h4⟩
/-- A pointer into a box is not nil. -/
theorem ls_nilCheck {x : Operand} {id off : Nat} (hx : ev s x = some (.ref id off)) (hd : okDst Γ.n dst = true) :
    LS P Γ ⟨dst, .nilCheck x, ty, pos, after, none⟩ s (rd x []) (dst1 dst (.ref id off)) [] :=
  ls_pure hd fun t' ht μ a w hr => by
    obtain ⟨e1, ht⟩ := ht.ev hx
    have e1 := hr.ev e1
    simp only [rep] at e1 ⊢
    obtain ⟨t, cs, g, h1, h2, h3, h4⟩ := e1
    refine ⟨.pointer (some ⟨g, off, none⟩), ?_, t, cs, g, h1, h2, h3, rfl⟩
    simp [execOp, h4]
end
end Go.Proofs.YtbhblhcgfenobaaGreatDoor
namespace Go.Proofs.YtbhblhcgfenobaaGreatDoor
open Go.RowKit
set_option linter.unusedSimpArgs false
set_option linter.unusedVariables false
/-- a fact that hangs on the kept blocks alone -/
def TB (T : World → Prop) (M : Nat → Prop) (w : World) : Prop := ∀ w' : World, (∀ b, M b → w'.heap[b]? = w.heap[b]?) → T w'
structure TBG (T : World → Prop) (Γ : Ctx) : Prop where
  tb : TB T Γ.M Γ.w0
  lt : ∀ b, Γ.M b → b < Γ.w0.heap.size
  dis : ∀ id o b, find Γ.σ0 id = some o → blk (Γ.μ0 id) = some b → ¬ Γ.M b
section
variable {P : Program} {Γ : Ctx} {T : World → Prop} {s t : ASt} {σ σ' : Store}
theorem TB.here {M : Nat → Prop} {w : World} (h : TB T M w) : T w := h w fun _ _ => rfl
theorem TB.more {M M' : Nat → Prop} {w : World} (h : TB T M w) (hm : ∀ b, M b → M' b) : TB T M' w := fun w' hw => h w' fun b hb => hw b (hm b hb)
theorem TBG.at_ (h : TBG T Γ) {μ : Nat → Value} {a : Act} {w : World} (hr : Rel Γ t μ a w) : TB T Γ.M w := fun w' hw => h.tb w' fun b hb => (hw b hb).trans (hr.gro.same b (h.lt b hb) fun id o hf he => h.dis id o b hf he hb)
/-- A contract that leans on it. -/
structure ACT (P : Program) (T : World → Prop) (f : FuncId) (args : List AV) (σ : Store) (r : AV) (σ' : Store) : Prop where
  ok : CallOK P f
  out : ∀ (w : World) (M : Nat → Prop) (μ : Nat → Value) (vs : List Value), TB T M w → SRel σ μ w M → repL σ μ w (av σ μ M) args vs →
    Calls P f vs.toArray w fun e w' => ∃ y μ', e = .returned y ∧ SRel σ' μ' w' M ∧ rep σ' μ' w' (av σ' μ' M) r y ∧ Gro σ μ w σ' μ' w'
structure PCT (P : Program) (T : World → Prop) (f : FuncId) (args : List AV) (r : AV) : Prop where
  ac : ACT P T f args [] r []
theorem AC.tb {f : FuncId} {args : List AV} {r : AV} (h : AC P f args σ r σ') : ACT P T f args σ r σ' := ⟨h.ok, fun w M μ vs _ => h.out w M μ vs⟩
theorem PC.tb {f : FuncId} {args : List AV} {r : AV} (h : PC P f args r) : PCT P T f args r := ⟨AC.tb h.ac⟩
theorem act_body {TY : List TyI} (hT : okTab P TY = true) {f : FuncId} {fn : Func} {c : Code} {args : List AV} {r : AV} (hf : P.funcs[f]? = some fn) (hb : fn.body = some c) (hname : (fn.name == "runtime.NumGoroutine") = false) (h0 : σ.all (fun p => has σ' p.1) = true)
    (H : ∀ w0 M μ0, TBG T ⟨w0, M, σ, μ0, args.length + (fn.ntmps - args.length), none, w0.heap.size⟩ → AWP P ⟨w0, M, σ, μ0, args.length + (fn.ntmps - args.length), none, w0.heap.size⟩ c (RetQ TY fn.results.toList r σ') ⟨numb 0 args, σ⟩) : ACT P T f args σ r σ' := by
  refine ⟨⟨fn, hf, hname, by rw [hb]; rfl⟩, fun w M μ vs hTB hs hrep => ?_⟩
  refine (callsIn_wide (n := 0)).1 (callsIn_of_wp_marks hf hb trivial ?_ rfl)
  have hlen := repL_len hrep
  have hrel : Rel ⟨w, M, σ, μ, args.length + (fn.ntmps - args.length), none, w.heap.size⟩ ⟨numb 0 args, σ⟩ μ { tmps := vs.toArray ++ Array.replicate (fn.ntmps - vs.toArray.size) undef, defers := [] } w := by
    refine ⟨marks_nil, by simp [hlen], fun t x hx => ?_, hs, Gro.refl⟩
    obtain ⟨j, rfl, hj⟩ := find_numb hx
    obtain ⟨u, h1, h2⟩ := repL_get hrep hj
    have hlt : j < vs.length := (List.getElem?_eq_some_iff.1 h1).1
    have : (vs.toArray ++ Array.replicate (fn.ntmps - vs.toArray.size) undef)[0 + j]? = some u := by
      rw [Array.getElem?_append_left (by simpa using hlt)]
      simpa using h1
    rw [Array.getD_eq_getD_getElem?, this]
    exact h2
  refine wpIn_mono ((H w M μ ⟨hTB, hs.lt, fun id o b h1 h2 => hs.dis id o b h1 h2⟩).out μ _ w hrel) ?_
  rintro e a w' ⟨s', μ', hr', he, vs', hvs, hfin, hk⟩
  have hfin : LeavesInM Fence.wide 0 P fn a.tmps (fun e w' => ∃ y μ', e = .returned y ∧ SRel σ' μ' w' M ∧ rep σ' μ' w' (av σ' μ' M) r y ∧ Gro σ μ w σ' μ' w') a.defers .returning w' := by
    refine leave_ok hT (Nat.le_refl _) a.defers hr' rfl hvs fun a' w2 hr2 y h1 h2 => ?_
    have h3 := finA_rep hr2.store hk hfin h2
    have h4 := hk.srel hr2.store
    have h5 := hk.gro hr2.gro (fun id o hf => by
      have key : ∀ l : Store, l.all (fun p => has σ' p.1) = true → find l id = some o → has σ' id = true := by
        intro l
        induction l with
        | nil => intro _ h; simp [find] at h
        | cons p l ih =>
          intro hl h
          obtain ⟨k, x⟩ := p
          simp only [List.all_cons, Bool.and_eq_true] at hl
          rw [find_cons] at h
          split at h
          · rename_i e; subst e; exact hl.1
          · exact ih hl.2 h
      exact key σ h0 hf)
    exact ⟨y, μ', rfl, h4, h3, h5⟩
  rcases he with rfl | rfl
  · exact hfin
  · exact hfin
variable {dst : Option Tmp} {ty : TypeId} {pos : String} {after : Array Edge}
theorem ls_callT (hG : TBG T Γ) {f : FuncId} {args : Array Operand} {argTypes : Array TypeId} {c : Operand} {vs us caps : List AV} {r : AV} (h : PCT P T f us r) (hc : ev s c = some (.clo (.func f) [] caps)) (hargs : evL s args.toList = some vs) (hn : NilL (vs ++ caps) us) (hp : us.all pureB = true) (hd : okDst Γ.n dst = true) :
    LS P Γ ⟨dst, .call { callee := .value c, args := args, argTypes := argTypes }, ty, pos, after, none⟩ s (rd c (rdL args.toList [])) (dst1 dst r) [] := by
  refine ⟨fun t ht Q μ a w hr K hK => ?_⟩
  have hTB := hG.at_ hr
  obtain ⟨h0, ht⟩ := ht.ev hc
  obtain ⟨ks, hks, h0⟩ := hr.callee h0
  obtain ⟨h1, _⟩ := ht.evL hr hargs
  have h2 := repL_pure (μ' := μ) (repL_nil hn (repL_append h1 h0)) hp
  have hM : ∀ b, av t.σ μ Γ.M b → b < w.heap.size := by
    intro b hb
    rcases hb with hb | ⟨id, o, h3, h4⟩
    · exact hr.store.lt b hb
    · exact ObjRel.lt hr.store h3 h4
  have hs0 : SRel [] μ w (av t.σ μ Γ.M) := ⟨fun _ _ h => by simp [find] at h, fun _ _ _ _ _ h => by simp [find] at h, hM, fun _ _ _ h => by simp [find] at h⟩
  have h3 := h.ac.out w (av t.σ μ Γ.M) μ (args.toList.map a.eval ++ ks) (hTB.more fun b hb => .inl hb) hs0 (by
    refine repL_mono (Step.same_world fun b hb hc => hb ?_) h2
    rcases hc with hc | ⟨_, _, hc, _⟩
    · exact hc
    · simp [find] at hc)
  unfold Oper.wp
  rw [run_call h.ac.ok hks]
  refine Calls.mono h3 ?_
  rintro e w' ⟨y, μ', rfl, h4, h5, h6⟩
  have hb : Below w.heap.size w w' := ⟨h6.os, h6.tape, h6.output, h6.size, fun k hk => h6.same k hk (fun _ _ h => by simp [find] at h)⟩
  have hr2 := hr.world hb
  refine hK μ _ _ (hr2.put hd ?_)
  refine rep_mono (σ := []) (μ := μ') (A := av [] μ' (av t.σ μ Γ.M)) ⟨fun b hb _ => ⟨rfl, fun hc => hb (.inl hc)⟩, Nat.le_refl _, fun _ _ _ h => by simp [find] at h, fun _ _ _ _ h => by simp [find] at h, fun _ _ h => by simp [find] at h, fun _ h => by simp [find] at h⟩ h5
theorem ls_callAT (hG : TBG T Γ) {f : FuncId} {args : Array Operand} {argTypes : Array TypeId} {c : Operand} {first vs us caps : List AV} {r : AV} {σc σc' : Store} (l : List Nat) (b : Nat) (h : ACT P T f us σc r σc') (hc : ev s c = some (.clo (.func f) first caps)) (hargs : evL s args.toList = some vs) (hn : NilL (first ++ vs ++ caps) (us.map (renB (rho l b)))) (hcl : us.all (closB σc) = true)
    (hpass : Pass (rho l b) s σc) (hco : σc.all (fun p => closO σc p.2) = true) (hinj : injB (rho l b) (σc.map Prod.fst) = true) (hinj' : injB (rho l b) (σc'.map Prod.fst) = true)
    (hnew : σc'.all (fun p => has σc p.1 || !has s.σ (rho l b p.1)) = true) (hcr : closA σc' r = true) (hco' : σc'.all (fun p => closO σc' p.2) = true) (hd : okDst Γ.n dst = true) :
    LS P Γ ⟨dst, .call { callee := .value c, args := args, argTypes := argTypes }, ty, pos, after, none⟩ s (rd c (rdL args.toList (objs (rho l b) σc ++ (objs (rho l b) σc' ++ [])))) (dst1 dst (renA (rho l b) r)) (σc'.map fun p => (rho l b p.1, renO (rho l b) p.2)) := by
  refine ⟨fun t ht Q μ a w hr K hK => ?_⟩
  have hTB := hG.at_ hr
  obtain ⟨h0, ht⟩ := ht.ev hc
  obtain ⟨fs, ks, hks, hfs, h0⟩ := hr.calleeB h0
  obtain ⟨h1, ht⟩ := ht.evL hr hargs
  obtain ⟨hp, hfr⟩ := pass_fresh ht hpass hnew
  exact call_core l b (fun M μ vs hM => h.out w M μ vs (hTB.more hM)) hr (repL_append (repL_append hfs h1) h0) hn hcl hp hfr hco hinj hinj' hcr hco' hd (run_callB h.ok hks) hK
/-- What is known of a call at memory, where only scalars come and go. -/
theorem pct_of_calls {f : FuncId} {xs : List Value} {r : Value} (ok : CallOK P f) (h : ∀ w, T w → Calls P f xs.toArray w fun e w' => e = .returned r ∧ Below w.heap.size w w') (hs : scal r = true) : PCT P T f (xs.map .v) (.v r) := by
  refine ⟨ok, fun w M μ vs hTB hsr hrep => ?_⟩
  have key : ∀ (xs vs : List Value), repL [] μ w (av [] μ M) (xs.map .v) vs → vs = xs := by
    intro xs
    induction xs with
    | nil => intro vs h; simpa only [List.map_nil, repL] using h
    | cons x xs ih =>
      intro vs h
      simp only [List.map_cons, repL, rep] at h
      obtain ⟨u, us', rfl, ⟨rfl, _⟩, h2⟩ := h
      rw [ih us' h2]
  rw [key xs vs hrep]
  refine (h w hTB.here).mono ?_
  rintro e w' ⟨rfl, hb⟩
  refine ⟨r, μ, rfl, ⟨fun _ _ h => by simp [find] at h, fun _ _ _ _ _ h => by simp [find] at h, fun b hb' => Nat.lt_of_lt_of_le (hsr.lt b hb') hb.size, fun _ _ _ h => by simp [find] at h⟩, by simp only [rep]; exact ⟨trivial, hs⟩, ⟨hb.os, hb.tape, hb.output, hb.size, fun b hl _ => hb.block b hl, fun _ _ _ h => by simp [find] at h, fun _ _ _ h => by simp [find] at h, fun _ _ _ _ h => by simp [find] at h, fun _ _ h => by simp [find] at h, fun _ h => by simp [find] at h⟩⟩
/-- A contract as a law's row wants it. -/
theorem PCT.law {f : FuncId} {args : List AV} {r : Value} (h : PCT P T f args (.v r)) {w : World} {vs : List Value} (M : Nat → Prop) (hT : TB T M w) (hM : ∀ b, M b → b < w.heap.size) (hrep : repL [] (fun _ => undef) w M args vs) : Calls P f vs.toArray w fun e w' => e = .returned r ∧ Below w.heap.size w w' := by
  have hs0 : SRel [] (fun _ => undef) w M := ⟨fun _ _ h => by simp [find] at h, fun _ _ _ _ _ h => by simp [find] at h, hM, fun _ _ _ h => by simp [find] at h⟩
  refine (h.ac.out w M _ vs hT hs0 (repL_mono (Step.same_world fun b hb hc => ?_) hrep)).mono ?_
  · rcases hc with hc | ⟨_, _, hc, _⟩
    · exact hb hc
    · simp [find] at hc
  · rintro e w' ⟨y, μ', rfl, _, h2, h3⟩
    simp only [rep] at h2
    exact ⟨by rw [h2.1], ⟨h3.os, h3.tape, h3.output, h3.size, fun k hk => h3.same k hk (fun _ _ h => by simp [find] at h)⟩⟩
end
end Go.Proofs.YtbhblhcgfenobaaGreatDoor
namespace Go.Proofs.YtbhblhcgfenobaaGreatDoor
open Go.RowKit
set_option linter.unusedSimpArgs false
set_option linter.unusedVariables false
section
open Go.Shelf Go.Proofs
def layF_ren : Go.Shelf.Ren := ⟨fun | 173 => 55 | 246 => 90 | 283 => 110 | 284 => 111 | 285 => 112 | 286 => 113 | 129 => 125 | 317 => 124 | 318 => 126 | 319 => 127 | 320 => 128 | 337 => 133 | 338 => 134 | n => n, fun | 2 => 2 | 3 => 3 | 9 => 9 | 4 => 4 | 171 => 137 | 0 => 0 | 53 => 138 | 37 => 64 | 5 => 5 | 173 => 141 | 212 => 153 | 51 => 143 | 20 => 20 | 213 => 154 | 46 => 129 | 232 => 169 | 233 => 170 | n => n, fun | 17 => 1 | 18 => 6 | 19 => 7 | n => n⟩
theorem layF : Go.Proofs.LaysM.n173 Tryz.prog layF_ren := {
  mixed := by kernel_rfl
  f129 := Tryz.func125.trans (congrArg some (by kernel_rfl))
  f173 := Tryz.func55.trans (congrArg some (by kernel_rfl))
  f246 := Tryz.func90.trans (congrArg some (by kernel_rfl))
  f283 := Tryz.func110.trans (congrArg some (by kernel_rfl))
  f284 := Tryz.func111.trans (congrArg some (by kernel_rfl))
  f285 := Tryz.func112.trans (congrArg some (by kernel_rfl))
  f286 := Tryz.func113.trans (congrArg some (by kernel_rfl))
  f317 := Tryz.func124.trans (congrArg some (by kernel_rfl))
  f318 := Tryz.func126.trans (congrArg some (by kernel_rfl))
  f319 := Tryz.func127.trans (congrArg some (by kernel_rfl))
  f320 := Tryz.func128.trans (congrArg some (by kernel_rfl))
  f337 := Tryz.func133.trans (congrArg some (by kernel_rfl))
  f338 := Tryz.func134.trans (congrArg some (by kernel_rfl))
  t0 := Tryz.underlying0
  a0 := Tryz.isAgg0
  z0 := Tryz.sizeOf0
  v0 := Tryz.zeroValue0
  t2 := Tryz.underlying2
  a2 := Tryz.isAgg2
  z2 := Tryz.sizeOf2
  v2 := Tryz.zeroValue2
  t3 := Tryz.underlying3
  a3 := Tryz.isAgg3
  z3 := Tryz.sizeOf3
  v3 := Tryz.zeroValue3
  t4 := Tryz.underlying4
  a4 := Tryz.isAgg4
  z4 := Tryz.sizeOf4
  v4 := Tryz.zeroValue4
  t5 := Tryz.underlying5
  a5 := Tryz.isAgg5
  z5 := Tryz.sizeOf5
  v5 := Tryz.zeroValue5
  t9 := Tryz.underlying9
  a9 := Tryz.isAgg9
  z9 := Tryz.sizeOf9
  v9 := Tryz.zeroValue9
  t20 := Tryz.underlying20
  a20 := Tryz.isAgg20
  z20 := Tryz.sizeOf20
  v20 := Tryz.zeroValue20
  t37 := Tryz.underlying64
  a37 := Tryz.isAgg64
  z37 := Tryz.sizeOf64
  v37 := Tryz.zeroValue64
  t46 := Tryz.underlying129
  a46 := Tryz.isAgg129
  z46 := Tryz.sizeOf129
  v46 := Tryz.zeroValue129
  t51 := Tryz.underlying143
  a51 := Tryz.isAgg143
  z51 := Tryz.sizeOf143
  v51 := Tryz.zeroValue143
  t53 := Tryz.underlying138
  a53 := Tryz.isAgg138
  z53 := Tryz.sizeOf138
  v53 := Tryz.zeroValue138
  t171 := Tryz.underlying137
  a171 := Tryz.isAgg137
  z171 := Tryz.sizeOf137
  v171 := Tryz.zeroValue137
  t173 := Tryz.underlying141
  a173 := Tryz.isAgg141
  z173 := Tryz.sizeOf141
  v173 := Tryz.zeroValue141
  t212 := Tryz.underlying153
  a212 := Tryz.isAgg153
  z212 := Tryz.sizeOf153
  v212 := Tryz.zeroValue153
  t213 := Tryz.underlying154
  a213 := Tryz.isAgg154
  z213 := Tryz.sizeOf154
  t232 := Tryz.underlying169
  a232 := Tryz.isAgg169
  z232 := Tryz.sizeOf169
  v232 := Tryz.zeroValue169
  t233 := Tryz.underlying170
  a233 := Tryz.isAgg170
  z233 := Tryz.sizeOf170
  v233 := Tryz.zeroValue170
  g17 := by kernel_rfl
  g18 := by kernel_rfl
  g19 := by kernel_rfl
  i0 := by kernel_rfl
  i2 := by kernel_rfl
  i3 := by kernel_rfl
  i4 := by kernel_rfl
  i5 := by kernel_rfl
  i9 := by kernel_rfl
  i20 := by kernel_rfl
  i37 := by kernel_rfl
  i46 := by kernel_rfl
  i51 := by kernel_rfl
  i53 := by kernel_rfl
  i171 := by kernel_rfl
  i173 := by kernel_rfl
  i212 := by kernel_rfl
  i232 := by kernel_rfl
  i233 := by kernel_rfl
  m17 := by kernel_rfl
  m18 := by kernel_rfl
  m19 := by kernel_rfl }


end
/-- the table as the package lays it -/
def TabT (w : World) : Prop := Lib.TabIs Tryz.prog w "internal/strconv.uint64pow10" .u64 Lib.pow10Tab
theorem g_pow : Tryz.prog.globalNamed "internal/strconv.uint64pow10" = some 1 := by kernel_rfl
theorem below_grow (w : World) (k : Nat) (os : Array Obj) : Below w.heap.size w (Sort.grow (w.drewN k) os) := by
  have h1 : (w.drewN k).heap = w.heap := rfl
  refine ⟨rfl, rfl, rfl, ?_, fun b hb => ?_⟩
  · simp [Sort.grow, h1]
  · simp only [Sort.grow, h1]
    exact Array.getElem?_append_left hb
def itoB (n : Int) : ByteArray := ⟨(Lib.itoa n).toArray⟩
theorem itoB_size (n : Int) (h0 : -9223372036854775808 ≤ n) (h1 : n ≤ 9223372036854775807) : (itoB n).data.size ≤ 21 := by
  simpa [itoB] using Lib.itoa_length_le n h0 h1
theorem ok_Format : CallOK Tryz.prog 55 := ⟨_, Tryz.func55, by kernel_rfl, rfl⟩
theorem p_Format (n : Int) (h0 : -9223372036854775808 ≤ n) (h1 : n ≤ 9223372036854775807) : PCT Tryz.prog TabT 55 [.v (.int .i64 n), .v (.int .i64 10)] (.v (.string (itoB n))) :=
  pct_of_calls (xs := [.int .i64 n, .int .i64 10]) ok_Format (fun w hT => (Any.strconv_FormatInt_10 layF n h0 h1 w hT).mono fun e w' ⟨he, k, os, hw⟩ => ⟨he, by rw [hw]; exact below_grow w k os⟩) rfl
end Go.Proofs.YtbhblhcgfenobaaGreatDoor
namespace Go.Proofs.YtbhblhcgfenobaaGreatDoor
open Go.RowKit
set_option linter.unusedSimpArgs false
set_option linter.unusedVariables false
attribute [local go_sem ↓] Go.wp_at_zero Go.wp_at_succ

/-- which windows may be -/
def winB (s d : Int) : Bool := decide (1 ≤ d) && decide (d ≤ s) && decide (s ≤ 1048576) && decide (s ≤ 16 * d)
def keyB (s : ByteArray) : Bool := decide (1 ≤ s.size) && decide (s.size ≤ 16)
/-- an event's cells -/
structure Ev where
  key : ByteArray
  at_ : Int
  val : Int
def Ev.cells (e : Ev) : List Value := [.string e.key, .int .i64 e.at_, .int .i64 e.val]
theorem window_Right (s d : Int) (w : World) :
    Calls Tryz.prog 60 #[.int .i64 s, .int .i64 d] w fun e w' => e = .returned (.bool (winB s d)) ∧ w = w' := by
  unfold winB
  by_cases h1 : 1 ≤ d <;> by_cases h2 : d ≤ s <;> by_cases h3 : s ≤ 1048576 <;> by_cases h4 : s ≤ 16 * d
  all_goals
    go_enter Tryz.func60, Tryz.ntmps60
    go_wp2
    go_ret
    simp [*]
theorem ref05_Right (s d : Int) (w : World) :
    Calls Tryz.prog 122 #[.int .i64 s, .int .i64 d] w fun e w' => e = .returned (.bool (winB s d)) ∧ w = w' := by
  unfold winB
  by_cases h1 : 1 ≤ d <;> by_cases h2 : d ≤ s <;> by_cases h3 : s ≤ 1048576 <;> by_cases h4 : s ≤ 16 * d
  all_goals
    have h5 : (s + 15).tdiv 16 = (s + 15) / 16 ∨ s + 15 < 0 := by
      by_cases h : s + 15 < 0
      · exact .inr h
      · exact .inl (Int.tdiv_eq_ediv_of_nonneg (by omega))
    go_enter Tryz.func122, Tryz.ntmps122
    go_wp2
    go_ret
    simp [*]
    all_goals (rcases h5 with h5 | h5)
    all_goals (first | omega | (rw [h5]; omega))
theorem bytes_nil (s : ByteArray) : s.toList = [] ↔ s.size = 0 := by
  rw [ByteArray.toList_eq, ← List.length_eq_zero_iff]
  rfl
end Go.Proofs.YtbhblhcgfenobaaGreatDoor
namespace Go.Proofs.YtbhblhcgfenobaaGreatDoor
open Go.RowKit
set_option linter.unusedSimpArgs false
set_option linter.unusedVariables false

/-- a pane's cells, one by one -/
structure Pn where
  lo : Int
  hi : Int
  key : ByteArray
  n : Int
  a : Int
  b : Int
def Pn.cells (p : Pn) : List Value := [.int .i64 p.lo, .int .i64 p.hi, .string p.key, .int .i64 p.n, .int .i64 p.a, .int .i64 p.b]
/-- the order of strings -/
def sless (s t : ByteArray) : Bool := Op.bytesLess s.toList t.toList
theorem bytes_ext {s t : ByteArray} (h : s.toList = t.toList) : s = t := by
  rw [ByteArray.toList_eq, ByteArray.toList_eq] at h
  cases s; cases t
  simpa using h
/-- the places of panes, in order -/
def ahead (p q : Pn) : Bool := if p.hi ≠ q.hi then decide (p.hi < q.hi) else if p.lo ≠ q.lo then decide (p.lo < q.lo) else sless p.key q.key
def sameP (p q : Pn) : Prop := p.hi = q.hi ∧ p.lo = q.lo ∧ p.key = q.key
instance (p q : Pn) : Decidable (sameP p q) := by unfold sameP; exact inferInstance
theorem sameP.symm {p q : Pn} (h : sameP p q) : sameP q p := ⟨h.1.symm, h.2.1.symm, h.2.2.symm⟩
theorem sameP.left {p q r : Pn} (h : sameP p q) : ahead p r = ahead q r := by
  obtain ⟨h1, h2, h3⟩ := h
  simp [ahead, h1, h2, h3]
theorem sameP.right {p q r : Pn} (h : sameP p q) : ahead r p = ahead r q := by
  obtain ⟨h1, h2, h3⟩ := h
  simp [ahead, h1, h2, h3]
end Go.Proofs.YtbhblhcgfenobaaGreatDoor
namespace Go.Proofs.YtbhblhcgfenobaaGreatDoor
open Go.RowKit
set_option linter.unusedSimpArgs false
set_option linter.unusedVariables false
def Pn.av (p : Pn) : List AV := [.v (.int .i64 p.lo), .v (.int .i64 p.hi), .v (.string p.key), .v (.int .i64 p.n), .v (.int .i64 p.a), .v (.int .i64 p.b)]
theorem keyB_int (s : ByteArray) : keyB s = (decide ((1 : Int) ≤ s.size) && decide ((s.size : Int) ≤ 16)) := by
  unfold keyB
  congr 1
  · exact decide_eq_decide.2 (by omega)
  · exact decide_eq_decide.2 (by omega)
theorem p_Key (s : ByteArray) : PC Tryz.prog 109 [.v (.string s)] (.v (.bool (keyB s))) := by
  rw [keyB_int]
  refine PC.mk (ac_body tab_ok Tryz.func109 rfl (by kernel_rfl) rfl ?_); intro w0 M μ0; simp only [Tryz.ntmps109, List.length_cons, List.length_nil, Nat.reduceAdd, Nat.reduceSub, numb]
  repeat' (first | ((first | apply o_do | apply d_do | apply d_yes rfl rfl rfl); exact lsq) | refine a_seq ?_ | refine a_region ?_ | refine o_nil ?_ | refine a_block ?_ | refine a_ret ?_ | refine a_exit ?_ | refine a_skip ?_ | refine a_draw mixed ?_ | refine d_nil (by kernel_rfl) ?_ | refine o_yes rfl rfl rfl ?_ | refine o_no rfl rfl rfl (by decide) ?_ | refine o_no' rfl rfl rfl ?_ | refine a_condT rfl ?_ | refine a_condF rfl ?_ | refine d_no rfl rfl rfl (by decide) ?_ | refine d_no' rfl rfl rfl ?_ | (refine wq2 (fun hb => ?_) (fun hb => ?_) <;> (simp only [hb]; try simp only [hbs, ne_eq] at hb; try (exfalso; first | omega | exact hb trivial))) | fail)
  all_goals refine rq rfl ?_
  all_goals exact fnq
end Go.Proofs.YtbhblhcgfenobaaGreatDoor
namespace Go.Proofs.YtbhblhcgfenobaaGreatDoor
open Go.RowKit
set_option linter.unusedSimpArgs false
set_option linter.unusedVariables false

def fRight (k : Int) : Bool := decide (1 ≤ k) && decide (k ≤ 5)
end Go.Proofs.YtbhblhcgfenobaaGreatDoor
namespace Go.Proofs.YtbhblhcgfenobaaGreatDoor
open Go.RowKit
set_option linter.unusedSimpArgs false
set_option linter.unusedVariables false
theorem bytes_nil' (s : ByteArray) : (s.toList == ByteArray.toList ⟨#[]⟩) = decide ((s.size : Int) = 0) := by
  have h := bytes_nil s
  have e : ByteArray.toList ⟨#[]⟩ = [] := by rw [ByteArray.toList_eq]
  rw [e]
  by_cases h0 : s.size = 0
  · rw [h.2 h0]; simp [h0]
  · have h1 : ¬ s.toList = [] := fun h1 => h0 (h.1 h1)
    simp [h1, h0]
end Go.Proofs.YtbhblhcgfenobaaGreatDoor
namespace Go.Proofs.YtbhblhcgfenobaaGreatDoor
open Go.RowKit
set_option linter.unusedSimpArgs false
set_option linter.unusedVariables false
structure Rs where
  lo : Int
  hi : Int
  key : ByteArray
  n : Int
  val : Int
def Rs.av (r : Rs) : List AV := [.v (.int .i64 r.lo), .v (.int .i64 r.hi), .v (.string r.key), .v (.int .i64 r.n), .v (.int .i64 r.val)]
theorem p_fRight (k : Int) : PC Tryz.prog 61 [.v (.int .i64 k)] (.v (.bool (fRight k))) := by
  refine PC.mk (ac_body tab_ok Tryz.func61 rfl (by kernel_rfl) rfl ?_); intro w0 M μ0; simp only [Tryz.ntmps61, List.length_cons, List.length_nil, Nat.reduceAdd, Nat.reduceSub, numb]
  repeat' (first | ((first | apply o_do | apply d_do | apply d_yes rfl rfl rfl); exact lsq) | refine a_seq ?_ | refine a_region ?_ | refine o_nil ?_ | refine a_block ?_ | refine a_ret ?_ | refine a_exit ?_ | refine a_skip ?_ | refine a_draw mixed ?_ | refine d_nil (by kernel_rfl) ?_ | refine o_yes rfl rfl rfl ?_ | refine o_no rfl rfl rfl (by decide) ?_ | refine o_no' rfl rfl rfl ?_ | refine a_condT rfl ?_ | refine a_condF rfl ?_ | refine d_no rfl rfl rfl (by decide) ?_ | refine d_no' rfl rfl rfl ?_ | (refine wq2 (fun hb => ?_) (fun hb => ?_) <;> (simp only [hb]; try simp only [hbs, ne_eq] at hb; try (exfalso; first | omega | exact hb trivial))) | fail)
  all_goals refine rq rfl ?_
  all_goals (first | refine FinA.tup ?_ | refine FinA.one ?_); repeat' (first | exact FinBs.nil | exact FinCs.nil | refine FinBs.cons ?_ ?_ | refine FinCs.cons ?_ ?_ | refine FinB.cell (FinC.v ?_) | refine FinB.cell (FinC.own rfl rfl rfl ?_) | exact FinB.cell FinC.nil | refine FinB.cell (FinC.sl ?_) | exact FinB.agg' rfl rfl | exact FinB.cell (FinC.same rfl) | refine FinB.agg ?_ | refine FinC.v ?_ | refine FinC.own rfl rfl rfl ?_ | exact FinC.nil | refine FinC.sl ?_ | exact FinC.same rfl); all_goals try rfl
  all_goals simp [fRight, *]
theorem p_rFold (k : Int) : PC Tryz.prog 123 [.v (.int .i64 k)] (.v (.bool (fRight k))) := by
  refine PC.mk (ac_body tab_ok Tryz.func123 rfl (by kernel_rfl) rfl ?_); intro w0 M μ0; simp only [Tryz.ntmps123, List.length_cons, List.length_nil, Nat.reduceAdd, Nat.reduceSub, numb]
  repeat' (first | ((first | apply o_do | apply d_do | apply d_yes rfl rfl rfl); exact lsq) | refine a_seq ?_ | refine a_region ?_ | refine o_nil ?_ | refine a_block ?_ | refine a_ret ?_ | refine a_exit ?_ | refine a_skip ?_ | refine a_draw mixed ?_ | refine d_nil (by kernel_rfl) ?_ | refine o_yes rfl rfl rfl ?_ | refine o_no rfl rfl rfl (by decide) ?_ | refine o_no' rfl rfl rfl ?_ | refine a_condT rfl ?_ | refine a_condF rfl ?_ | refine d_no rfl rfl rfl (by decide) ?_ | refine d_no' rfl rfl rfl ?_ | (refine wq2 (fun hb => ?_) (fun hb => ?_) <;> (simp only [hb]; try simp only [hbs, ne_eq] at hb; try (exfalso; first | omega | exact hb trivial))) | fail)
  all_goals refine rq rfl ?_
  all_goals (first | refine FinA.tup ?_ | refine FinA.one ?_); repeat' (first | exact FinBs.nil | exact FinCs.nil | refine FinBs.cons ?_ ?_ | refine FinCs.cons ?_ ?_ | refine FinB.cell (FinC.v ?_) | refine FinB.cell (FinC.own rfl rfl rfl ?_) | exact FinB.cell FinC.nil | refine FinB.cell (FinC.sl ?_) | exact FinB.agg' rfl rfl | exact FinB.cell (FinC.same rfl) | refine FinB.agg ?_ | refine FinC.v ?_ | refine FinC.own rfl rfl rfl ?_ | exact FinC.nil | refine FinC.sl ?_ | exact FinC.same rfl); all_goals try rfl
  all_goals simp [fRight, *]
end Go.Proofs.YtbhblhcgfenobaaGreatDoor
namespace Go.Proofs.YtbhblhcgfenobaaGreatDoor
open Go.RowKit
set_option linter.unusedSimpArgs false
set_option linter.unusedVariables false
def Pn.vals (p : Pn) : List Value := [.int .i64 p.lo, .int .i64 p.hi, .string p.key, .int .i64 p.n, .int .i64 p.a, .int .i64 p.b]
def Rs.vals (p : Rs) : List Value := [.int .i64 p.lo, .int .i64 p.hi, .string p.key, .int .i64 p.n, .int .i64 p.val]
section
variable {Γ : Ctx} {s : ASt} {dst : Option Tmp} {ty yt : TypeId} {pos : String} {after : Array Edge} {x y : Operand}
end
end Go.Proofs.YtbhblhcgfenobaaGreatDoor
namespace Go.Proofs.YtbhblhcgfenobaaGreatDoor
open Go.RowKit
set_option linter.unusedSimpArgs false
set_option linter.unusedVariables false
theorem ok_wRight : CallOK Tryz.prog 60 := ⟨_, Tryz.func60, by kernel_rfl, rfl⟩
theorem ok_rwRight : CallOK Tryz.prog 122 := ⟨_, Tryz.func122, by kernel_rfl, rfl⟩
theorem p_wRight (s d : Int) : PC Tryz.prog 60 [.v (.int .i64 s), .v (.int .i64 d)] (.v (.bool (winB s d))) :=
  pc_of_calls (xs := [.int .i64 s, .int .i64 d]) ok_wRight (fun w => (window_Right s d w).mono fun e w' ⟨h1, h2⟩ => ⟨h1, by rw [← h2]; exact Below.refl _ _⟩) rfl
theorem p_rwRight (s d : Int) : PC Tryz.prog 122 [.v (.int .i64 s), .v (.int .i64 d)] (.v (.bool (winB s d))) :=
  pc_of_calls (xs := [.int .i64 s, .int .i64 d]) ok_rwRight (fun w => (ref05_Right s d w).mono fun e w' ⟨h1, h2⟩ => ⟨h1, by rw [← h2]; exact Below.refl _ _⟩) rfl
def jobR (s d k : Int) : Bool := winB s d && fRight k
theorem g_rJob (g s d k fu li de id : Int) : PC Tryz.prog 108 [.agg [.v (.int .i64 g), .v (.int .i64 s), .v (.int .i64 d), .v (.int .i64 k), .v (.int .i64 fu), .v (.int .i64 li), .v (.int .i64 de), .v (.int .i64 id)]] (.v (.bool (jobR s d k))) := by
  refine PC.mk (ac_body tab_ok Tryz.func108 rfl (by kernel_rfl) rfl ?_); intro w0 M μ0; simp only [Tryz.ntmps108, List.length_cons, List.length_nil, Nat.reduceAdd, Nat.reduceSub, numb]
  repeat' (first | ((first | apply o_do | apply d_do | apply d_yes rfl rfl rfl); first | exact lsc ((p_rwRight _ _)) | exact lsc ((p_rFold _)) | exact lsq) | refine a_seq ?_ | refine a_region ?_ | refine o_nil ?_ | refine a_block ?_ | refine a_ret ?_ | refine a_exit ?_ | refine a_skip ?_ | refine a_draw mixed ?_ | refine d_nil (by kernel_rfl) ?_ | refine o_yes rfl rfl rfl ?_ | refine o_no rfl rfl rfl (by decide) ?_ | refine o_no' rfl rfl rfl ?_ | refine a_condT rfl ?_ | refine a_condF rfl ?_ | refine d_no rfl rfl rfl (by decide) ?_ | refine d_no' rfl rfl rfl ?_ | (refine wq2 (fun hb => ?_) (fun hb => ?_) <;> (simp only [hb]; try simp only [hbs, ne_eq] at hb; try (exfalso; first | omega | exact hb trivial))) | fail)
  all_goals refine rq rfl ?_
  all_goals (first | refine FinA.tup ?_ | refine FinA.one ?_); repeat' (first | exact FinBs.nil | exact FinCs.nil | refine FinBs.cons ?_ ?_ | refine FinCs.cons ?_ ?_ | refine FinB.cell (FinC.v ?_) | refine FinB.cell (FinC.own rfl rfl rfl ?_) | exact FinB.cell FinC.nil | refine FinB.cell (FinC.sl ?_) | exact FinB.agg' rfl rfl | exact FinB.cell (FinC.same rfl) | refine FinB.agg ?_ | refine FinC.v ?_ | refine FinC.own rfl rfl rfl ?_ | exact FinC.nil | refine FinC.sl ?_ | exact FinC.same rfl); all_goals try rfl
  all_goals simp [jobR, *]
end Go.Proofs.YtbhblhcgfenobaaGreatDoor
namespace Go.Proofs.YtbhblhcgfenobaaGreatDoor
open Go.RowKit
set_option linter.unusedSimpArgs false
set_option linter.unusedVariables false
attribute [local go_sem ↓] Go.wp_at_zero Go.wp_at_succ

/-- a row of events, as a slice's value and what it reads as -/
structure EvRow where
  a : Option Addr
  n : Nat
  c : Nat
  evs : List Ev
def EvRow.cells (r : EvRow) : List Value := [.slice r.a r.n r.c]
def EvRow.Ok (w : World) (r : EvRow) : Prop := Hid (r.n = r.evs.length) ∧ Reads w w.heap.size 3 r.a r.n (r.evs.flatMap Ev.cells) ∧ r.n ≤ r.c ∧ r.c ≤ 9223372036854775807
theorem EvRow.Ok.at_ {w w' : World} {r : EvRow} (h : r.Ok w) (hb : Below w.heap.size w w') : r.Ok w' := ⟨h.1, (h.2.1.below_le hb (Nat.le_refl _)).more hb.size, h.2.2⟩
end Go.Proofs.YtbhblhcgfenobaaGreatDoor
