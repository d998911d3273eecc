/-
  Jobs' text in plain words: without one of its lines; with more behind it. Plain.
-/
import Derived.Test.YthlimflfglkpiaaDoorJpU
namespace Go.Proofs.YthlimflfglkpiaaDoor
open Go.RowKit
set_option linter.unusedSimpArgs false
set_option linter.unusedVariables false
set_option maxRecDepth 10000
theorem idx_nl (s : ByteArray) : Lib.indexB s nl1 = Lib.indexByte s.data.toList 10 := by
  rw [← Lib.index_one]; rfl
theorem spla_at {l r : List UInt8} (h : 10 ∉ l) : spla (mkB (l ++ 10 :: r)) = mkB (l ++ [10]) :: spla (mkB r) := by
  have hs : (mkB (l ++ 10 :: r)).data.toList = l ++ 10 :: r := rfl
  generalize mkB (l ++ 10 :: r) = s at *
  have hi : Lib.indexB s nl1 = (l.length : Int) := by rw [idx_nl, hs, ib_at 10 l r h]
  have hc := Lib.countB_hit s nl1 l.length (by decide) hi
  have e1 : s.extract 0 (l.length + 1) = mkB (l ++ [10]) := by
    apply bytes_ext2
    rw [ext_take, hs, mkB_list]
    rw [show l ++ 10 :: r = (l ++ [10]) ++ r by simp]
    rw [show l.length + 1 = (l ++ [10]).length by simp]
    exact List.take_left
  have e2 : s.extract (l.length + 1) s.size = mkB r := by
    apply bytes_ext2
    rw [ext_drop, hs, mkB_list]
    simp
  have hsz : nl1.size = 1 := rfl
  unfold spla
  rw [hc, hsz, e2, Nat.add_comm 1, Lib.splitB_hit nl1 1 _ s l.length hi, hsz, e2, e1]
theorem spla_no : spla (mkB []) = [mkB []] := by
  have hi : Lib.indexB (mkB []) nl1 = -1 := by rw [idx_nl]; rfl
  unfold spla
  exact Lib.splitB_miss nl1 1 _ _ hi
/-- the six lines -/
def lns (j : J8) (nm : ByteArray) : List (List UInt8) := [l1 1 (itoB j.g), l2 2 (itoB j.s) (itoB j.d), l1 3 nm, l2 4 (itoB j.li) (itoB j.fu), l1 5 (itoB j.de), l1 6 (itoB j.id)]
/-- lines, and what stands behind them -/
def cat : List (List UInt8) → List UInt8 → List UInt8
  | [], r => r
  | l :: ls, r => l ++ 10 :: cat ls r
theorem tx_cat (j : J8) (nm : ByteArray) : tx j nm = cat (lns j nm) [] := rfl
theorem cat_app (ls : List (List UInt8)) (r : List UInt8) : cat ls r = cat ls [] ++ r := by
  induction ls with
  | nil => rfl
  | cons l ls ih => simp only [cat]; rw [ih]; simp
theorem spla_cat : ∀ (ls : List (List UInt8)), (∀ l ∈ ls, 10 ∉ l) → spla (mkB (cat ls [])) = ls.map (fun l => mkB (l ++ [10])) ++ [mkB []]
  | [], _ => spla_no
  | l :: ls, h => by
    simp only [cat]
    rw [spla_at (h l (by simp)), spla_cat ls fun x hx => h x (by simp [hx])]
    rfl
theorem join_cat (ls : List (List UInt8)) : jnB (ls.map (fun l => mkB (l ++ [10])) ++ [mkB []]) = mkB (cat ls []) := by
  unfold jnB
  congr 1
  rw [List.map_append, List.map_map, List.flatten_append]
  induction ls with
  | nil => rfl
  | cons l ls ih =>
    simp only [List.map_cons, List.flatten_cons, cat, Function.comp, mkB_list] at ih ⊢
    rw [List.append_assoc, ih]; simp
theorem drop_cat (ls : List (List UInt8)) (q : Nat) (hq : q < ls.length) : (ls.map (fun l => mkB (l ++ [10])) ++ [mkB []]).take q ++ (ls.map (fun l => mkB (l ++ [10])) ++ [mkB []]).drop (q + 1) = (ls.eraseIdx q).map (fun l => mkB (l ++ [10])) ++ [mkB []] := by
  rw [List.take_append_of_le_length (by rw [List.length_map]; omega), List.drop_append_of_le_length (by rw [List.length_map]; omega), ← List.append_assoc, ← List.map_take, ← List.map_drop, ← List.map_append, ← List.eraseIdx_eq_take_drop_succ]
/-- parsing stops at a line that is not there, or is another one -/
theorem pars_gone {n k : Nat} {j : J8} : pars (n + 1) k j (mkB []) = (zJ, 131, (k : Int)) := by
  have h : cutC (mkB []) nl1 = false := by
    unfold cutC Lib.cut
    rfl
  unfold pars
  rw [h, if_neg (by simp)]
theorem fld_not {word w : ByteArray} {many : Nat} {r : List UInt8} (hw : 32 ∉ w.data.toList) (hne : (w.toList == word.toList) = false) : fld word many (mkB (w.data.toList ++ 32 :: r)) = none := by
  unfold fld
  rw [spl_at (mkB_list _) hw, mkB_self]
  dsimp only
  rw [hne, if_neg (by simp)]
theorem step_none {k m : Nat} {s : ByteArray} {j : J8} (hk : (k = 1 ∧ m = 1) ∨ (k = 2 ∧ m = 2) ∨ (k = 3 ∧ m = 1) ∨ (k = 4 ∧ m = 2) ∨ (k = 5 ∧ m = 1) ∨ (k = 6 ∧ m = 1)) (h : fld (wordK k) m s = none) : step k s j = (j, false) := by
  rcases hk with ⟨rfl, rfl⟩ | ⟨rfl, rfl⟩ | ⟨rfl, rfl⟩ | ⟨rfl, rfl⟩ | ⟨rfl, rfl⟩ | ⟨rfl, rfl⟩
  all_goals simp only [step, h]
theorem pars_else {n k : Nat} {j : J8} {l r : List UInt8} (hl : 10 ∉ l) (h : step k (mkB l) j = (j, false)) : pars (n + 1) k j (mkB (l ++ 10 :: r)) = (zJ, 131, (k : Int)) := by
  obtain ⟨h1, h2, h3⟩ := cut_at (mkB_list (l ++ 10 :: r)) hl
  unfold pars
  rw [h2, h, if_neg (by simp)]
theorem word_ne (k : Nat) (h1 : 1 ≤ k) (h2 : k ≤ 5) : ((wordK (k + 1)).toList == (wordK k).toList) = false := by
  simp only [ByteArray.toList_eq]
  rcases k with _ | _ | _ | _ | _ | _ | k
  · omega
  all_goals first | decide | omega
/-- the next line stands in a line's place -/
theorem skip1 {n k m : Nat} {j : J8} {a : ByteArray} {r : List UInt8} (hk : (k = 1 ∧ m = 1) ∨ (k = 2 ∧ m = 2) ∨ (k = 3 ∧ m = 1) ∨ (k = 4 ∧ m = 2) ∨ (k = 5 ∧ m = 1)) (ha : 10 ∉ a.data.toList) : pars (n + 1) k j (mkB (l1 (k + 1) a ++ 10 :: r)) = (zJ, 131, (k : Int)) := by
  refine pars_else (l1_no ha) (step_none (m := m) (by omega) ?_)
  exact fld_not (wd _).1 (word_ne k (by omega) (by omega))
theorem skip2 {n k m : Nat} {j : J8} {a b : ByteArray} {r : List UInt8} (hk : (k = 1 ∧ m = 1) ∨ (k = 2 ∧ m = 2) ∨ (k = 3 ∧ m = 1) ∨ (k = 4 ∧ m = 2) ∨ (k = 5 ∧ m = 1)) (ha : 10 ∉ a.data.toList) (hb : 10 ∉ b.data.toList) : pars (n + 1) k j (mkB (l2 (k + 1) a b ++ 10 :: r)) = (zJ, 131, (k : Int)) := by
  refine pars_else (l2_no ha hb) (step_none (m := m) (by omega) ?_)
  exact fld_not (wd _).1 (word_ne k (by omega) (by omega))
/-- a job's text without one of its lines is refused at that line -/
theorem gone (j : J8) (q : Nat) (hq : q < 5) (hk : j.k = (q : Int) + 1) (hi : JI j.g j.s j.d j.k j.fu j.li j.de j.id) (h : j.ok = true) (x : Nat) (hx : x < 6) : pars 6 1 zJ (mkB (cat ((lns j (nmQ q)).eraseIdx x) [])) = (zJ, 131, ((x + 1 : Nat) : Int)) := by
  obtain ⟨hg, hs, hd, _, hfu, hli, hde, hid⟩ := ok_parts h hi
  have ng : nn j.g := ⟨by omega, by omega⟩
  have nf : nn j.fu := ⟨by omega, by omega⟩
  have nid : nn j.id := ⟨by omega, by omega⟩
  obtain ⟨m1, m2, m3⟩ := nm_no q hq
  have b := fun {n : Int} (h : nn n) => num_back h.1 h.2
  obtain ⟨g, s, d, k, fu, li, de, id⟩ := j
  dsimp only at *
  have p1 : ∀ {n r}, pars (n + 1) 1 zJ (mkB (l1 1 (itoB g) ++ 10 :: r)) = pars n 2 { zJ with g := g } (mkB r) := fun {n r} => pars_next (l1_no (no10 ng)) (by simp only [step]; rw [f1 1 (no32 ng)]; dsimp only; rw [(b ng).1, (b ng).2, small_id (by omega)])
  have p2 : ∀ {n r}, pars (n + 1) 2 { zJ with g := g } (mkB (l2 2 (itoB s) (itoB d) ++ 10 :: r)) = pars n 3 { zJ with g := g, s := s, d := d } (mkB r) := fun {n r} => pars_next (l2_no (no10 hs) (no10 hd)) (by simp only [step]; rw [f2 2 (no32 hs) (no32 hd)]; dsimp only; rw [(b hs).1, (b hs).2, (b hd).1, (b hd).2]; try rfl)
  have p3 : ∀ {n r}, pars (n + 1) 3 { zJ with g := g, s := s, d := d } (mkB (l1 3 (nmQ q) ++ 10 :: r)) = pars n 4 { zJ with g := g, s := s, d := d, k := k } (mkB r) := fun {n r} => pars_next (l1_no m2) (by simp only [step]; rw [f1 3 m1]; dsimp only; rw [m3, hk, decide_eq_true (by omega)])
  have p4 : ∀ {n r}, pars (n + 1) 4 { zJ with g := g, s := s, d := d, k := k } (mkB (l2 4 (itoB li) (itoB fu) ++ 10 :: r)) = pars n 5 { zJ with g := g, s := s, d := d, k := k, li := li, fu := fu } (mkB r) := fun {n r} => pars_next (l2_no (no10 hli) (no10 nf)) (by simp only [step]; rw [f2 4 (no32 hli) (no32 nf)]; dsimp only; rw [(b hli).1, (b hli).2, (b nf).1, (b nf).2, small_id (by omega)]; try rfl)
  have p5 : ∀ {n r}, pars (n + 1) 5 { zJ with g := g, s := s, d := d, k := k, li := li, fu := fu } (mkB (l1 5 (itoB de) ++ 10 :: r)) = pars n 6 { zJ with g := g, s := s, d := d, k := k, li := li, fu := fu, de := de } (mkB r) := fun {n r} => pars_next (l1_no (no10 hde)) (by simp only [step]; rw [f1 5 (no32 hde)]; dsimp only; rw [(b hde).1, (b hde).2])
  rcases x with _ | _ | _ | _ | _ | _ | x
  · exact skip2 (m := 1) (by omega) (no10 hs) (no10 hd)
  · exact p1.trans (skip1 (m := 2) (by omega) m2)
  · exact p1.trans (p2.trans (skip2 (m := 1) (by omega) (no10 hli) (no10 nf)))
  · exact p1.trans (p2.trans (p3.trans (skip1 (m := 2) (by omega) (no10 hde))))
  · exact p1.trans (p2.trans (p3.trans (p4.trans (skip1 (m := 1) (by omega) (no10 nid)))))
  · exact p1.trans (p2.trans (p3.trans (p4.trans (p5.trans pars_gone))))
  · omega
/-- with more behind it: at the seventh -/
theorem more (j : J8) (q : Nat) (hq : q < 5) (hk : j.k = (q : Int) + 1) (hi : JI j.g j.s j.d j.k j.fu j.li j.de j.id) (h : j.ok = true) (r : List UInt8) : pars 6 1 zJ (mkB (tx j (nmQ q) ++ r)) = pars 0 7 j (mkB r) := by
  obtain ⟨hg, hs, hd, _, hfu, hli, hde, hid⟩ := ok_parts h hi
  have ng : nn j.g := ⟨by omega, by omega⟩
  have nf : nn j.fu := ⟨by omega, by omega⟩
  have nid : nn j.id := ⟨by omega, by omega⟩
  obtain ⟨m1, m2, m3⟩ := nm_no q hq
  have b := fun {n : Int} (h : nn n) => num_back h.1 h.2
  rw [tx_cat, ← cat_app]
  obtain ⟨g, s, d, k, fu, li, de, id⟩ := j
  dsimp only at *
  unfold lns
  dsimp only [cat]
  rw [pars_next (j' := { zJ with g := g }) (l1_no (no10 ng)) (by simp only [step]; rw [f1 1 (no32 ng)]; dsimp only; rw [(b ng).1, (b ng).2, small_id (by omega)])]
  rw [pars_next (j' := { zJ with g := g, s := s, d := d }) (l2_no (no10 hs) (no10 hd)) (by simp only [step]; rw [f2 2 (no32 hs) (no32 hd)]; dsimp only; rw [(b hs).1, (b hs).2, (b hd).1, (b hd).2]; try rfl)]
  rw [pars_next (j' := { zJ with g := g, s := s, d := d, k := k }) (l1_no m2) (by simp only [step]; rw [f1 3 m1]; dsimp only; rw [m3, hk, decide_eq_true (by omega)])]
  rw [pars_next (j' := { zJ with g := g, s := s, d := d, k := k, li := li, fu := fu }) (l2_no (no10 hli) (no10 nf)) (by simp only [step]; rw [f2 4 (no32 hli) (no32 nf)]; dsimp only; rw [(b hli).1, (b hli).2, (b nf).1, (b nf).2, small_id (by omega)]; try rfl)]
  rw [pars_next (j' := { zJ with g := g, s := s, d := d, k := k, li := li, fu := fu, de := de }) (l1_no (no10 hde)) (by simp only [step]; rw [f1 5 (no32 hde)]; dsimp only; rw [(b hde).1, (b hde).2])]
  rw [pars_next (j' := ⟨g, s, d, k, fu, li, de, id⟩) (l1_no (no10 nid)) (by simp only [step]; rw [f1 6 (no32 nid)]; dsimp only; rw [(b nid).1, (b nid).2, small_id (by omega)]; try rfl)]
end Go.Proofs.YthlimflfglkpiaaDoor
