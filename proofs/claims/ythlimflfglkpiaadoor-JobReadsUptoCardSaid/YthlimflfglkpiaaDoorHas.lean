/-
  Which of a row's elements meets a test: the library's ContainsFunc over rows of events, for whatever test.
-/
import Derived.Test.YthlimflfglkpiaaDoorBasic
import Derived.Test.YthlimflfglkpiaaDoorApp
namespace Go.Proofs.YthlimflfglkpiaaDoor
open Go.RowKit
set_option linter.unusedSimpArgs false
set_option linter.unusedVariables false
attribute [local go_sem ↓] Go.wp_at_zero Go.wp_at_succ

def badEv (e : Ev) : Bool := !evB e
/-- a row of events, as a slice's value and what it reads as -/
structure EvRow where
  a : Option Addr
  n : Nat
  c : Nat
  evs : List Ev
def EvRow.cells (r : EvRow) : List Value := [.slice r.a r.n r.c]
def EvRow.Ok (w : World) (r : EvRow) : Prop := Hid (r.n = r.evs.length) ∧ Reads w w.heap.size 3 r.a r.n (r.evs.flatMap Ev.cells) ∧ r.n ≤ r.c ∧ r.c ≤ 9223372036854775807
def badRow (r : EvRow) : Bool := decide (200 < r.evs.length) || r.evs.any badEv
theorem EvRow.Ok.at_ {w w' : World} {r : EvRow} (h : r.Ok w) (hb : Below w.heap.size w w') : r.Ok w' := ⟨h.1, (h.2.1.below_le hb (Nat.le_refl _)).more hb.size, h.2.2⟩
def insB (l : List EvRow) : Bool := decide (1 ≤ l.length) && decide (l.length ≤ 4) && !l.any badRow
end Go.Proofs.YthlimflfglkpiaaDoor
