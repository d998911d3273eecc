/-
  Walks over abstract values: a text sliced; an integer turned to another kind. Over whatever program. No condition.
-/
import Derived.Test.YtbhblhcgfenobaaDoorAvX
namespace Go.Proofs.YtbhblhcgfenobaaDoor
open Go.RowKit
set_option linter.unusedSimpArgs false
set_option linter.unusedVariables false
section
variable {P : Program} {T : List TyI} {Γ : Ctx} {s : ASt} {dst : Option Tmp} {ty : TypeId} {pos : String} {after : Array Edge}
theorem str_ty (hT : okTab P T = true) {t : Nat} (hty : nth T t = some .string) : P.underlying t = some .string := by
  have h3 := okTab_at hT hty
  simp only [okTy] at h3
  split at h3
  · rename_i hu _; exact hu
  · cases h3
/-- s[:n] of a text -/
theorem ls_strTo (hT : okTab P T = true) {x y : Operand} {t n : Nat} {i : Int} {k : IntKind} {z : ByteArray} (hx : ev s x = some (.v (.string z))) (hy : ev s y = some (.v (.int k i))) (hty : nth T t = some .string) (hi : i = (n : Int)) (hn : n ≤ z.size) (hd : okDst Γ.n dst = true) :
    LS P Γ ⟨dst, .slice t x none (some y) none, ty, pos, after, none⟩ s (rd x (rd y [])) (dst1 dst (.v (.string (z.extract 0 n)))) [] :=
  ls_pure hd fun t' ht μ a w hr => by
    obtain ⟨e1, ht⟩ := ht.ev hx
    obtain ⟨e2, ht⟩ := ht.ev hy
    have e1 := hr.ev e1
    have e2 := hr.ev e2
    simp only [rep] at e1 e2 ⊢
    have hu := str_ty hT hty
    subst hi
    have hnc : (n : Int) ≤ z.size := by omega
    refine ⟨.string (z.extract 0 n), ?_, rfl, rfl⟩
    simp [execOp, e1.1, e2.1, Instr.sliceAt, Instr.slice, run_underlying hu, Instr.sliceBounds, Instr.sliceBound, asIntOf, hnc]
    intro h; omega
/-- s[n:] of a text -/
theorem ls_strFrom (hT : okTab P T = true) {x y : Operand} {t n : Nat} {i : Int} {k : IntKind} {z : ByteArray} (hx : ev s x = some (.v (.string z))) (hy : ev s y = some (.v (.int k i))) (hty : nth T t = some .string) (hi : i = (n : Int)) (hn : n ≤ z.size) (hd : okDst Γ.n dst = true) :
    LS P Γ ⟨dst, .slice t x (some y) none none, ty, pos, after, none⟩ s (rd x (rd y [])) (dst1 dst (.v (.string (z.extract n z.size)))) [] :=
  ls_pure hd fun t' ht μ a w hr => by
    obtain ⟨e1, ht⟩ := ht.ev hx
    obtain ⟨e2, ht⟩ := ht.ev hy
    have e1 := hr.ev e1
    have e2 := hr.ev e2
    simp only [rep] at e1 e2 ⊢
    have hu := str_ty hT hty
    subst hi
    have hnc : (n : Int) ≤ z.size := by omega
    refine ⟨.string (z.extract n z.size), ?_, rfl, rfl⟩
    simp [execOp, e1.1, e2.1, Instr.sliceAt, Instr.slice, run_underlying hu, Instr.sliceBounds, Instr.sliceBound, asIntOf, hnc]
    intro h; omega
/-- a kind of integers turned to another one -/
theorem ls_conv (hT : okTab P T = true) {x : Operand} {a b : Nat} {i : Int} {k q : IntKind} (hx : ev s x = some (.v (.int k i))) (ha : P.underlying a = some (.int k)) (hb : P.underlying b = some (.int q)) (hd : okDst Γ.n dst = true) :
    LS P Γ ⟨dst, .convert a b x, ty, pos, after, none⟩ s (rd x []) (dst1 dst (.v (.int q (q.wrap i)))) [] :=
  ls_pure hd fun t' ht μ ac w hr => by
    obtain ⟨e1, ht⟩ := ht.ev hx
    have e1 := hr.ev e1
    simp only [rep] at e1 ⊢
    refine ⟨.int q (q.wrap i), ?_, rfl, rfl⟩
    simp [execOp, e1.1, Go.convert, run_underlying ha, run_underlying hb, Conv.intToInt]
end
end Go.Proofs.YtbhblhcgfenobaaDoor
