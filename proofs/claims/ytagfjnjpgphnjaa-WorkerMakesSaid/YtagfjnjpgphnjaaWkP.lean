/-
  Workers: what the parts of one are; which may be. Plain.
-/
import Derived.Test.YtagfjnjpgphnjaaWkA
namespace Go.Proofs.Ytagfjnjpgphnjaa
open Go.RowKit
set_option linter.unusedSimpArgs false
set_option linter.unusedVariables false
/-- marks -/
structure Mk where
  ins : List (Int × Bool)
  hs : List (Int × Int)
  out : Int
def inAvM (x : Int × Bool) : List AV := [.v (.int .i64 x.1), .v (.bool x.2)]
def hoAv (x : Int × Int) : List AV := [.v (.int .i64 x.1), .v (.int .i64 x.2)]
def Mk.av (m : Mk) : List AV := [.sl 2 (m.ins.map inAvM), .sl 2 (m.hs.map hoAv), .v (.int .i64 m.out)]
def tmR (t : Int) : Bool := decide (0 ≤ t) && decide (t ≤ 1099511627776)
def hoG (hs : List (Int × Int)) (i : Nat) : Bool := decide (0 ≤ (hs.getD i (0, 0)).1) && (tmR (hs.getD i (0, 0)).2 && (decide (i = 0) || decide ((hs.getD (i - 1) (0, 0)).1 < (hs.getD i (0, 0)).1)))
def mkR (m : Mk) : Bool := decide (1 ≤ m.ins.length) && (decide (m.ins.length ≤ 8) && (decide (m.hs.length ≤ 32) && (tmR m.out && ((List.range m.hs.length).all (hoG m.hs) && m.ins.all fun x => tmR x.1))))
/-- an aligner -/
structure Al where
  n : Int
  got : List Bool
  held : List (List It)
def boAv (b : Bool) : List AV := [.v (.bool b)]
def heAv (l : List It) : List AV := [.sl 11 (l.map It.av)]
def Al.av (a : Al) : List AV := [.v (.int .i64 a.n), .sl 1 (a.got.map boAv), .sl 1 (a.held.map heAv)]
def heG (got : List Bool) (held : List (List It)) (i : Nat) : Bool := decide ((held.getD i []).length ≤ 16) && ((decide ((held.getD i []).length = 0) || got.getD i false) && (held.getD i []).all itR)
def alR (a : Al) : Bool := decide (1 ≤ a.got.length) && (decide (a.got.length ≤ 8) && (decide (a.held.length = a.got.length) && (decide (0 ≤ a.n) && (decide (a.n ≤ 1073741824) && ((a.got.any id == decide (0 < a.n)) && (a.got.any (!·) && (List.range a.held.length).all (heG a.got a.held)))))))
/-- a worker -/
structure Gp where
  no : Int
  mark : Int
  ps : List Pn
def Gp.av (g : Gp) : List AV := [.v (.int .i64 g.no), .v (.int .i64 g.mark), .sl 6 (g.ps.map Pn.av)]
structure Wk where
  gs : List Gp
  mks : Mk
  al : Al
  told : Int
def Wk.av (k : Wk) : List AV := [.sl 3 (k.gs.map Gp.av), .sl 2 (k.mks.ins.map inAvM), .sl 2 (k.mks.hs.map hoAv), .v (.int .i64 k.mks.out), .v (.int .i64 k.al.n), .sl 1 (k.al.got.map boAv), .sl 1 (k.al.held.map heAv), .v (.int .i64 k.told)]
def gpG (gs : List Gp) (i : Nat) : Bool := grR (gs.getD i ⟨0, 0, []⟩).no (gs.getD i ⟨0, 0, []⟩).mark (gs.getD i ⟨0, 0, []⟩).ps && (decide (i = 0) || decide ((gs.getD (i - 1) ⟨0, 0, []⟩).no < (gs.getD i ⟨0, 0, []⟩).no))
def gsR (gs : List Gp) : Bool := (List.range gs.length).all (gpG gs)
def wkR (k : Wk) : Bool := gsR k.gs && (mkR k.mks && (decide (k.mks.hs.length = 0) && (alR k.al && (decide (k.al.got.length = k.mks.ins.length) && (decide (0 ≤ k.told) && decide (k.told ≤ 1099511627776))))))
/-! all of a range -/
theorem rall_snoc (p : Nat → Bool) (q : Nat) : (List.range (q + 1)).all p = ((List.range q).all p && p q) := by
  rw [List.range_succ, List.all_append]; simp
theorem rall_fail {p : Nat → Bool} {n q : Nat} (h : q < n) (hp : p q = false) : (List.range n).all p = false := by
  rw [List.all_eq_false]
  exact ⟨q, List.mem_range.2 h, by simp [hp]⟩
theorem getD_at {α : Type} {l : List α} {i : Nat} {d : α} (h : i < l.length) : l.getD i d = l[i] := by
  simp [List.getD, h]
/-- groups in order are not too many -/
theorem gsR_le {gs : List Gp} (h : gsR gs = true) : gs.length ≤ 32 := by
  have h1 : ∀ i, i < gs.length → gpG gs i = true := fun i hi => List.all_eq_true.1 h i (List.mem_range.2 hi)
  have h2 : ∀ i, i < gs.length → (i : Int) ≤ (gs.getD i ⟨0, 0, []⟩).no := by
    intro i
    induction i with
    | zero =>
      intro hi
      have := h1 0 hi
      simp only [gpG, grR, Bool.and_eq_true, decide_eq_true_eq] at this
      have := this.1.1
      simpa using this
    | succ i ih =>
      intro hi
      have h3 := ih (by omega)
      have := h1 (i + 1) hi
      simp only [gpG, Bool.and_eq_true, Bool.or_eq_true, decide_eq_true_eq, Nat.add_sub_cancel] at this
      rcases this.2 with h4 | h4
      · omega
      · omega
  rcases Nat.lt_or_ge 32 gs.length with hlt | hge
  · have h3 := h2 32 hlt
    have h4 := h1 32 hlt
    simp only [gpG, grR, Bool.and_eq_true, decide_eq_true_eq] at h4
    have := h4.1.2.1
    omega
  · exact hge
end Go.Proofs.Ytagfjnjpgphnjaa
