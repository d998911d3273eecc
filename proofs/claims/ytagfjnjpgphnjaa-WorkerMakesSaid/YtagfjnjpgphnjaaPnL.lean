/-
  Panes, walked over abstract values: one pane put into a row of one's own.
-/
import Derived.Test.YtagfjnjpgphnjaaPnJ
import Derived.Test.YtagfjnjpgphnjaaPnK
import Derived.Test.YtagfjnjpgphnjaaPnI
import Derived.Test.YtagfjnjpgphnjaaPnF
namespace Go.Proofs.Ytagfjnjpgphnjaa
open Go.RowKit
set_option linter.unusedSimpArgs false
set_option linter.unusedVariables false
/-- a pane with another one's values joined to its own -/
def joinP (k : Int) (p x : Pn) : Pn := ⟨p.lo, p.hi, p.key, (fJoin k ⟨p.n, p.a, p.b⟩ ⟨x.n, x.a, x.b⟩).n, (fJoin k ⟨p.n, p.a, p.b⟩ ⟨x.n, x.a, x.b⟩).a, (fJoin k ⟨p.n, p.a, p.b⟩ ⟨x.n, x.a, x.b⟩).b⟩
/-- a row with one more; none: it can't be -/
def putL (k : Int) (xs : List Pn) (x : Pn) : Option (List Pn) :=
  match isL xs x with
  | true => match xs[atL xs x]? with
    | some p => if (joinP k p x).n < 1 then none else some (xs.set (atL xs x) (joinP k p x))
    | none => none
  | false => if 2000 ≤ xs.length then none else some (xs.take (atL xs x) ++ [x] ++ xs.drop (atL xs x))
section
variable (k lo hi : Int) (key : ByteArray) (n a b : Int) (xs : List Pn)
end
def oneP (k lo hi : Int) (key : ByteArray) (v : Int) : Pn := ⟨lo, hi, key, (fOne k v).n, (fOne k v).a, (fOne k v).b⟩
/-- a row that a pane was put into, and the error -/
def putR (k : Int) (xs : List Pn) (x : Pn) : List Pn × Int := match putL k xs x with
  | some l => (l, 0)
  | none => ([], 3)
def addR (k : Int) (xs : List Pn) (x : Pn) : List Pn × Int := if rightL xs && fRight k && mayB x then putR k xs x else ([], 1)
def PR.av (r : List Pn × Int) : AV := .tup [.sl 6 (r.1.map Pn.av), .v (.int .i64 r.2)]
theorem isL_some {xs : List Pn} {x : Pn} (h : isL xs x = true) : ∃ p, xs[atL xs x]? = some p ∧ sameP p x := by
  unfold isL at h
  split at h
  · rename_i p hp
    exact ⟨p, hp, cmpP_zero.1 (by simpa using h)⟩
  · cases h
end Go.Proofs.Ytagfjnjpgphnjaa
