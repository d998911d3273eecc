/-
  One step of a walk over abstract values, found by trying. No condition.
-/
import Derived.Test.YtbhblhcgfenobaaDoorAvT
import Derived.Test.YtbhblhcgfenobaaDoorAvX
import Derived.Test.YtbhblhcgfenobaaDoorAvH
namespace Go.Proofs.YtbhblhcgfenobaaDoor
open Go.RowKit
/-- one operation: whichever rule fits -/
theorem lsq {Γ : Ctx} {i : Oper} {s : ASt} {R : List Loc} {D : List (Nat × AV)} {M : List (Nat × SObj)} (h : LS Tryd.prog Γ i s R D M := by
  first
  | exact ls_move rfl rfl
  | exact ls_assign rfl rfl
  | exact ls_load_ref tab_ok rfl rfl rfl rfl rfl rfl
  | exact ls_load_el tab_ok rfl rfl rfl rfl
  | exact ls_fieldAddr_ref tab_ok rfl rfl rfl rfl rfl rfl
  | exact ls_fieldAddr_el tab_ok rfl rfl rfl rfl rfl
  | exact ls_extract rfl rfl rfl
  | exact ls_pickT rfl rfl rfl
  | exact ls_pickF rfl rfl rfl
  | exact ls_add64 rfl rfl (by omega) rfl
  | exact ls_sub64 rfl rfl (by omega) rfl
  | exact ls_lss rfl rfl rfl
  | exact ls_leq rfl rfl rfl
  | exact ls_gtr rfl rfl rfl
  | exact ls_geq rfl rfl rfl
  | exact ls_eql rfl rfl rfl
  | exact ls_neq rfl rfl rfl
  | exact ls_seq rfl rfl rfl
  | exact ls_sne rfl rfl rfl
  | exact ls_slt rfl rfl rfl
  | exact ls_sgt rfl rfl rfl
  | exact ls_sle rfl rfl rfl
  | exact ls_sge rfl rfl rfl
  | exact ls_cat rfl rfl (by omega) rfl
  | exact ls_beq tab_ok rfl rfl rfl rfl
  | exact ls_bne tab_ok rfl rfl rfl rfl
  | exact ls_not rfl rfl
  | exact ls_len_str tab_ok rfl rfl rfl
  | exact ls_len_sl tab_ok rfl rfl rfl
  | exact ls_len_own tab_ok rfl rfl rfl rfl rfl
  | exact ls_len_nil tab_ok rfl rfl rfl
  | exact ls_field tab_ok rfl rfl rfl rfl rfl rfl rfl
  | exact ls_build tab_ok tab_zero rfl rfl rfl rfl rfl rfl
  | exact ls_build0 (k := 0) tab_ok rfl rfl rfl rfl | exact ls_build0 (k := 1) tab_ok rfl rfl rfl rfl | exact ls_build0 (k := 2) tab_ok rfl rfl rfl rfl | exact ls_build0 (k := 3) tab_ok rfl rfl rfl rfl | exact ls_build0 (k := 4) tab_ok rfl rfl rfl rfl | exact ls_build0 (k := 5) tab_ok rfl rfl rfl rfl | exact ls_build0 (k := 6) tab_ok rfl rfl rfl rfl | exact ls_build0 (k := 7) tab_ok rfl rfl rfl rfl | exact ls_build0 (k := 8) tab_ok rfl rfl rfl rfl | exact ls_build0 (k := 9) tab_ok rfl rfl rfl rfl | exact ls_build0 (k := 10) tab_ok rfl rfl rfl rfl | exact ls_build0 (k := 11) tab_ok rfl rfl rfl rfl
  | exact ls_buildS tab_ok rfl rfl rfl rfl rfl rfl
  | exact ls_store_ref tab_ok rfl rfl rfl rfl rfl rfl rfl rfl rfl
  | exact ls_add rfl rfl rfl
  | exact ls_sub rfl rfl rfl
  | exact ls_mul rfl rfl rfl
  | exact ls_neg rfl rfl
  | exact ls_func rfl rfl rfl
  | exact ls_min rfl rfl rfl
  | exact ls_max rfl rfl rfl
  | exact ls_box (k := 0) rfl rfl rfl rfl | exact ls_box (k := 1) rfl rfl rfl rfl | exact ls_box (k := 2) rfl rfl rfl rfl | exact ls_box (k := 3) rfl rfl rfl rfl | exact ls_box (k := 4) rfl rfl rfl rfl | exact ls_box (k := 5) rfl rfl rfl rfl | exact ls_box (k := 6) rfl rfl rfl rfl | exact ls_box (k := 7) rfl rfl rfl rfl | exact ls_box (k := 8) rfl rfl rfl rfl | exact ls_box (k := 9) rfl rfl rfl rfl | exact ls_box (k := 10) rfl rfl rfl rfl | exact ls_box (k := 11) rfl rfl rfl rfl | exact ls_alloc (k := 0) tab_zero rfl rfl rfl rfl | exact ls_alloc (k := 1) tab_zero rfl rfl rfl rfl | exact ls_alloc (k := 2) tab_zero rfl rfl rfl rfl | exact ls_alloc (k := 3) tab_zero rfl rfl rfl rfl | exact ls_alloc (k := 4) tab_zero rfl rfl rfl rfl | exact ls_alloc (k := 5) tab_zero rfl rfl rfl rfl | exact ls_alloc (k := 6) tab_zero rfl rfl rfl rfl | exact ls_alloc (k := 7) tab_zero rfl rfl rfl rfl | exact ls_alloc (k := 8) tab_zero rfl rfl rfl rfl | exact ls_alloc (k := 9) tab_zero rfl rfl rfl rfl | exact ls_alloc (k := 10) tab_zero rfl rfl rfl rfl | exact ls_alloc (k := 11) tab_zero rfl rfl rfl rfl | exact ls_indexAddr_sl tab_ok rfl rfl rfl rfl (by assumption) rfl | focus (apply ls_append tab_ok rfl rfl ?hn rfl ?hsrc rfl ?hlen rfl rfl; (case hn => rfl); (case hsrc => first | exact SrcIs.sl | exact SrcIs.nil | exact SrcIs.own rfl rfl | fail); (case hlen => (try simp only [List.length_cons, List.length_nil]); omega); first | done | fail) | fail) : LS Tryd.prog Γ i s R D M := h
/-- a call of a function whose contract is given -/
theorem lsc {f : FuncId} {us : List AV} {r : AV} {Γ : Ctx} {i : Oper} {s : ASt} {R : List Loc} {D : List (Nat × AV)} {M : List (Nat × SObj)} (h : PC Tryd.prog f us r) (H : PC Tryd.prog f us r → LS Tryd.prog Γ i s R D M := by
  first | (intro h; apply ls_call h rfl rfl _ rfl rfl; (repeat' (first | exact NilL.nil | refine NilL.cons Nil.same ?_ | refine NilL.cons Nil.nil ?_ | refine NilL.cons (Nil.agg ?_) ?_ | exact Nil1s.nil | refine Nil1s.cons Nil1.same ?_ | refine Nil1s.cons Nil1.nil ?_)); first | done | fail) | fail) : LS Tryd.prog Γ i s R D M := H h
/-- the like, of one that only looks at a row of the caller's own -/
theorem lcs {f : FuncId} {us : List AV} {r : AV} {Γ : Ctx} {i : Oper} {s : ASt} {R : List Loc} {D : List (Nat × AV)} {M : List (Nat × SObj)} (h : PC Tryd.prog f us r) (H : PC Tryd.prog f us r → LS Tryd.prog Γ i s R D M := by
  first | (intro h; apply ls_callR h rfl rfl _ rfl rfl rfl; (repeat' (first | exact AsL.nil | refine AsL.own rfl rfl ?_ | refine AsL.vnil ?_ | refine AsL.same ?_)); first | done | fail) | fail) : LS Tryd.prog Γ i s R D M := H h
/-! what a walk does by itself: one way on, two ways on -/
section
variable {Γ : Ctx} {Q : Exit → ASt → Prop} {s : ASt} {A B : Prop}
theorem wqA {c : Code} (k : A) (h : A → AWP Tryd.prog Γ c Q s := by
  intro k
  first
  | refine a_seq ?_; exact k
  | refine a_region ?_; exact k
  | refine a_block ?_; exact k
  | refine a_ret ?_; exact k
  | refine a_exit ?_; exact k
  | refine a_skip ?_; exact k
  | refine a_draw mixed ?_; exact k
  | refine a_condT rfl ?_; exact k
  | refine a_condF rfl ?_; exact k
  | fail) : AWP Tryd.prog Γ c Q s := h k
theorem wqN {ops : Array Oper} {rest : List Oper} (k : A) (h : A → AOps Tryd.prog Γ ops rest Q s := by
  intro k
  first
  | exact o_nil k
  | exact o_yes rfl rfl rfl k
  | exact o_no rfl rfl rfl (by decide) k
  | exact o_no' rfl rfl rfl k
  | fail) : AOps Tryd.prog Γ ops rest Q s := h k
theorem wqE {ops : List Oper} {rest : List Oper} {acc : List Eff} (k : A) (h : A → DR Tryd.prog Γ ops rest acc Q s := by
  intro k
  first
  | exact d_nil (by kernel_rfl) k
  | exact d_no rfl rfl rfl (by decide) k
  | exact d_no' rfl rfl rfl k
  | fail) : DR Tryd.prog Γ ops rest acc Q s := h k
theorem wq2 {b : Bool} {G : Prop} (k : b = true → A) (l : b = false → B) (h : (b = true → A) → (b = false → B) → G := by
  intro k l
  first
  | exact o_split_t rfl rfl rfl k l
  | exact o_split_f rfl rfl rfl k l
  | exact a_cond rfl k l
  | exact d_split rfl rfl k l
  | fail) : G := h k l
end
end Go.Proofs.YtbhblhcgfenobaaDoor
