/-
  Scripts in plain words: the plan of a plan's text; the text of a text's plan. Plain.
  Scripts: the laws ScriptBack and ScriptOnce walked.
  The world in which the listed tables stand, for a witness; from a row's condition to the table that is used.
  How the arguments of the laws of panes, groups and the model read.
    How events read.
-/
import Derived.LaidLaws
import Derived.LaidHandle
import Derived.LaidSub
import Derived.Lib.LaidTab
import Derived.Test.YtbhblhcgfenobaaGreatDoorTie
import Derived.Test.YtbhblhcgfenobaaGreatDoorK4
import Derived.Test.YtbhblhcgfenobaaGreatDoorK5
import Derived.Test.YtbhblhcgfenobaaGreatDoorK24
namespace Go.Proofs.YtbhblhcgfenobaaGreatDoor
open Go.RowKit
set_option linter.unusedSimpArgs false
set_option linter.unusedVariables false
/-- lines as texts -/
def srcT (es : List Et) : ByteArray := mkB (joinW (srcW es))
def acT (a : Ac) : ByteArray := mkB (joinW (acW a))
def six (j : J8) (nm : ByteArray) : List ByteArray := [mkB (l1 1 (itoB j.g)), mkB (l2 2 (itoB j.s) (itoB j.d)), mkB (l1 3 nm), mkB (l2 4 (itoB j.li) (itoB j.fu)), mkB (l1 5 (itoB j.de)), mkB (l1 6 (itoB j.id))]
theorem six_tx (j : J8) (nm : ByteArray) : unl (six j nm) = tx j nm := by
  unfold six tx
  simp only [unl_cons, mkB_list]
  rfl
def allT (j : J8) (nm : ByteArray) (ls : List (List Et)) (wn : Int) (xs : List Ac) : List ByteArray := six j nm ++ (mkB (joinW [wksB, itoB wn]) :: (ls.map srcT ++ xs.map acT))
theorem unl_all (j : J8) (nm : ByteArray) (ls : List (List Et)) (wn : Int) (xs : List Ac) : unl (allT j nm ls wn xs) = tx j nm ++ plL ls wn xs := by
  unfold allT plL
  rw [unl_app, six_tx, unl_cons, unl_app]
  congr 1
  have h1 : unl (ls.map srcT) = ls.flatMap fun es => lineW (srcW es) := by
    unfold unl
    rw [List.flatMap_map]
    rfl
  have h2 : unl (xs.map acT) = xs.flatMap fun a => lineW (acW a) := by
    unfold unl
    rw [List.flatMap_map]
    rfl
  rw [h1, h2]
  simp [lineW, mkB_list]
theorem join_not {ws : List ByteArray} {c : UInt8} (h : ∀ w ∈ ws, c ∉ w.data.toList) (hc : c ≠ 32) : c ∉ joinW ws := by
  have hs : ∀ ws : List ByteArray, (∀ w ∈ ws, c ∉ w.data.toList) → c ∉ spW ws := by
    intro ws
    induction ws with
    | nil => intro _; simp [spW]
    | cons w ws ih =>
      intro h hm
      have e : spW (w :: ws) = 32 :: (w.data.toList ++ spW ws) := by simp [spW]
      rw [e] at hm
      rcases List.mem_cons.1 hm with hm | hm
      · exact hc hm
      · rcases List.mem_append.1 hm with hm | hm
        · exact h w (by simp) hm
        · exact ih (fun v hv => h v (by simp [hv])) hm
  cases ws with
  | nil => simp [joinW]
  | cons w ws =>
    intro hm
    rcases List.mem_append.1 hm with hm | hm
    · exact h w (by simp) hm
    · exact hs ws (fun v hv => h v (by simp [hv])) hm
theorem srcW_not {es : List Et} (h : srcG es) (c : UInt8) (hc : c.toNat = 10 ∨ c.toNat = 32) : ∀ w ∈ srcW es, c ∉ w.data.toList := by
  intro w hw
  unfold srcW at hw
  rcases List.mem_cons.1 hw with rfl | hw
  · intro hm
    have : ∀ d ∈ (⟨#[115, 111, 117, 114, 99, 101]⟩ : ByteArray).data.toList, 97 ≤ d.toNat := by decide
    have := this c hm; omega
  · obtain ⟨e, he, rfl⟩ := List.mem_map.1 hw
    exact evW_not (h.2 e he) c hc
theorem acW_not (a : Ac) (c : UInt8) (hc : c.toNat = 10 ∨ c.toNat = 32) : ∀ w ∈ acW a, c ∉ w.data.toList := by
  intro w hw
  unfold acW at hw
  split at hw
  · rcases List.mem_cons.1 hw with rfl | hw
    · exact wd_not _ c hc
    · rw [List.mem_singleton.1 hw]; exact ito_not _ c (by omega)
  · split at hw
    · rcases List.mem_cons.1 hw with rfl | hw
      · exact wd_not _ c hc
      · rw [List.mem_singleton.1 hw]; exact ito_not _ c (by omega)
    · rw [List.mem_singleton.1 hw]; exact wd_not _ c hc
theorem acW_ne (a : Ac) : acW a ≠ [] := by
  unfold acW
  split
  · simp
  · split <;> simp
theorem wk_not (wn : Int) (c : UInt8) (hc : c.toNat = 10 ∨ c.toNat = 32) : ∀ w ∈ [wksB, itoB wn], c ∉ w.data.toList := by
  intro w hw
  rcases List.mem_cons.1 hw with rfl | hw
  · intro hm
    have : ∀ d ∈ wksB.data.toList, 97 ≤ d.toNat := by decide
    have := this c hm; omega
  · rw [List.mem_singleton.1 hw]; exact ito_not _ c (by omega)
theorem spl_src {es : List Et} (h : srcG es) : spl (srcT es) sp1 = srcW es := spl_joinW _ (by simp [srcW]) (srcW_not h 32 (.inr rfl))
theorem spl_ac (a : Ac) : spl (acT a) sp1 = acW a := spl_joinW _ (acW_ne a) (acW_not a 32 (.inr rfl))
theorem go_src (re : Bool) (rest : List ByteArray) : ∀ (A : List (List Et)) (i : Nat) (ins : List (List Et)), (∀ es ∈ A, srcG es) → ins.length + A.length ≤ 4 → goP re (A.map srcT ++ rest) i ins [] = goP re rest (i + A.length) (ins ++ A) []
  | [], i, ins, _, _ => by simp
  | es :: A, i, ins, h, hl => by
    rw [List.length_cons] at hl
    have hg := h es (by simp)
    have e : lnO (srcW es) ins [] = some (ins ++ [es], []) := by
      unfold lnO
      rw [if_pos ⟨rfl, by unfold isSrc srcW; simp [srcB], by omega⟩]
      have : (srcW es).tail = es.map evW := rfl
      rw [this, src_back hg]; rfl
    rw [List.map_cons, List.cons_append, goP, spl_src hg, e]
    dsimp only
    rw [go_src re rest A (i + 1) (ins ++ [es]) (fun x hx => h x (by simp [hx])) (by rw [List.length_append]; simp; omega)]
    rw [List.length_cons, List.append_assoc, show i + 1 + A.length = i + (A.length + 1) by omega]
    rfl
theorem go_ac : ∀ (B : List Ac) (i : Nat) (ins : List (List Et)) (acs : List Ac), (∀ a ∈ B, acOK a = true) → ins ≠ [] → acs.length + B.length ≤ 400 → goP true (B.map acT) i ins acs = (0, ins, acs ++ B)
  | [], i, ins, acs, _, hi, _ => by
    unfold goP
    rw [List.map_nil]
    dsimp only
    rw [if_pos ⟨rfl, hi⟩]; simp
  | a :: B, i, ins, acs, h, hi, hl => by
    rw [List.length_cons] at hl
    have ha := h a (by simp)
    have e : lnO (acW a) ins acs = some (ins, acs ++ [a]) := by
      obtain ⟨k, hk, ek⟩ := ac_what ha
      have hsrc : isSrc (acW a) = false := by
        have : ∃ r, acW a = wdB k :: r := by
          unfold acW
          rw [ek, Int.toNat_natCast]
          split
          · exact ⟨_, rfl⟩
          · split
            · exact ⟨_, rfl⟩
            · exact ⟨_, rfl⟩
        obtain ⟨r, er⟩ := this
        rw [er]
        exact wdB_src hk
      unfold lnO
      rw [if_neg (by rw [hsrc]; simp), ac_back ha]
      dsimp only
      rw [if_neg (by
        intro hx
        rcases hx with hx | hx
        · exact hi (List.eq_nil_of_length_eq_zero hx)
        · omega)]
    rw [List.map_cons]
    unfold goP
    rw [spl_ac, e]
    dsimp only
    rw [go_ac B (i + 1) ins (acs ++ [a]) (fun x hx => h x (by simp [hx])) hi (by rw [List.length_append]; simp; omega), List.append_assoc]
    rfl
def Pl.j8 (p : Pl) : J8 := ⟨p.g, p.s, p.d, p.k, p.fu, p.li, p.de, p.id⟩
/-- a plan that may be, in parts -/
structure PlG (p : Pl) : Prop where
  j : p.j8.ok = true
  n1 : 1 ≤ p.ls.length
  n4 : p.ls.length ≤ 4
  src : ∀ es ∈ p.ls, srcG es
  w1 : 1 ≤ p.wn
  w8 : p.wn ≤ 8
  x4 : p.xs.length ≤ 400
  ac : ∀ a ∈ p.xs, acOK a = true
theorem plG_of {p : Pl} (h : p.ok = true) (hv : ∀ es ∈ p.ls, I64s es) : PlG p := by
  simp only [Pl.ok, Pl.jok, Bool.and_eq_true, decide_eq_true_eq, okIn, List.all_eq_true] at h
  obtain ⟨a1, ⟨a2, a3, a4⟩, a5, a6, a7, a8, a9⟩ := h
  refine ⟨a1, a2, a3, fun es he => ?_, a5, a6, a7, a9⟩
  have h1 := a4 es he
  have h2 := a8 es he
  simp only [okEs, Bool.and_eq_true, decide_eq_true_eq, List.all_eq_true] at h1
  simp only [letE, List.all_eq_true] at h2
  exact ⟨h1.1, fun e hx => ⟨h2 e hx, h1.2 e hx, hv es he e hx⟩⟩
theorem ok_of {p : Pl} (h : PlG p) : p.ok = true ∧ ∀ es ∈ p.ls, I64s es := by
  refine ⟨?_, fun es he e hx => ((h.src es he).2 e hx).2.2⟩
  simp only [Pl.ok, Pl.jok, Bool.and_eq_true, decide_eq_true_eq, okIn, List.all_eq_true]
  refine ⟨h.j, ⟨h.n1, h.n4, fun es he => ?_⟩, h.w1, h.w8, h.x4, fun es he => ?_, h.ac⟩
  · simp only [okEs, Bool.and_eq_true, decide_eq_true_eq, List.all_eq_true]
    exact ⟨(h.src es he).1, fun e hx => ((h.src es he).2 e hx).2.1⟩
  · simp only [letE, List.all_eq_true]
    exact fun e hx => ((h.src es he).2 e hx).1
theorem six_not {j : J8} {q : Nat} (hq : q < 5) (hi : JI j.g j.s j.d j.k j.fu j.li j.de j.id) (h : j.ok = true) : ∀ w ∈ six j (nmQ q), 10 ∉ w.data.toList := by
  obtain ⟨hg, hs, hd, _, hfu, hli, hde, hid⟩ := ok_parts h hi
  have ng : nn j.g := ⟨by omega, by omega⟩
  have nf : nn j.fu := ⟨by omega, by omega⟩
  have nid : nn j.id := ⟨by omega, by omega⟩
  obtain ⟨m1, m2, m3⟩ := nm_no q hq
  intro w hw
  unfold six at hw
  simp only [List.mem_cons, List.not_mem_nil, or_false] at hw
  rcases hw with rfl | rfl | rfl | rfl | rfl | rfl
  · exact l1_no (no10 ng)
  · exact l2_no (no10 hs) (no10 hd)
  · exact l1_no m2
  · exact l2_no (no10 hli) (no10 nf)
  · exact l1_no (no10 hde)
  · exact l1_no (no10 nid)
/-- the text of a plan -/
def txP (p : Pl) (q : Nat) : ByteArray := mkB (tx p.j8 (nmQ q) ++ plL p.ls p.wn p.xs)
theorem plan_back (p : Pl) (q : Nat) (hq : q < 5) (hk : p.k = (q : Int) + 1) (hi : JI p.g p.s p.d p.k p.fu p.li p.de p.id) (h : PlG p) : plan (txP p q) = (p, 0, 0) := by
  have hl : lnS (txP p q).data.toList = (allT p.j8 (nmQ q) p.ls p.wn p.xs, []) := by
    unfold txP
    rw [mkB_list, ← unl_all]
    have := lnS_unl (allT p.j8 (nmQ q) p.ls p.wn p.xs) [] (fun w hw => ?_) (by simp)
    · rw [List.append_nil] at this; exact this
    · unfold allT at hw
      rcases List.mem_append.1 hw with hw | hw
      · exact six_not hq hi h.j w hw
      · rcases List.mem_cons.1 hw with rfl | hw
        · exact join_not (wk_not p.wn 10 (.inl rfl)) (by decide)
        · rcases List.mem_append.1 hw with hw | hw
          · obtain ⟨es, he, rfl⟩ := List.mem_map.1 hw
            exact join_not (srcW_not (h.src es he) 10 (.inl rfl)) (by decide)
          · obtain ⟨a, ha, rfl⟩ := List.mem_map.1 hw
            exact join_not (acW_not a 10 (.inl rfl)) (by decide)
  have h6 : (six p.j8 (nmQ q)).length = 6 := rfl
  have ht : (allT p.j8 (nmQ q) p.ls p.wn p.xs).take 6 = six p.j8 (nmQ q) := by
    unfold allT
    rw [← h6, List.take_left]
  have hd : (allT p.j8 (nmQ q) p.ls p.wn p.xs).drop 6 = mkB (joinW [wksB, itoB p.wn]) :: (p.ls.map srcT ++ p.xs.map acT) := by
    unfold allT
    rw [← h6, List.drop_left]
  have hb := back p.j8 q hq hk hi h.j
  have hw : spl (mkB (joinW [wksB, itoB p.wn])) sp1 = [wksB, itoB p.wn] := spl_joinW _ (by simp) (wk_not p.wn 32 (.inr rfl))
  obtain ⟨n1, n2⟩ := num_back (n := p.wn) (by have := h.w1; omega) (by have := h.w8; omega)
  have hwk : wkO [wksB, itoB p.wn] = some p.wn := by
    unfold wkO
    dsimp only
    rw [if_pos ⟨by simp, n2, by rw [n1]; exact h.w1, by rw [n1]; exact h.w8⟩, n1]
  unfold plan hdS
  rw [hl]
  dsimp only
  rw [ht, hd, six_tx, hb]
  dsimp only
  rw [if_neg (by decide)]
  unfold tailP
  dsimp only
  rw [hw, hwk]
  dsimp only
  rw [go_src _ _ p.ls 7 [] h.src (by have := h.n4; simp; omega), List.nil_append]
  rw [show ([] : List UInt8).isEmpty = true from rfl]
  rw [go_ac p.xs _ p.ls [] h.ac (by
    intro e
    have := h.n1
    rw [e] at this; simp at this) (by have := h.x4; simp; omega), List.nil_append]
  unfold endP jPl Pl.j8
  rw [if_pos rfl]
/-- what the lines behind the head say, and nothing else -/
theorem go_out (re : Bool) : ∀ (L : List ByteArray) (i : Nat) (ins : List (List Et)) (acs : List Ac), ins.length ≤ 4 → acs.length ≤ 400 → (goP re L i ins acs).1 = 0 →
    re = true ∧ ∃ A B, (goP re L i ins acs).2.1 = ins ++ A ∧ (goP re L i ins acs).2.2 = acs ++ B ∧ L = A.map srcT ++ B.map acT ∧ (∀ es ∈ A, srcG es) ∧ (∀ a ∈ B, acOK a = true) ∧ ins ++ A ≠ [] ∧ (ins ++ A).length ≤ 4 ∧ (acs ++ B).length ≤ 400 ∧ (acs ≠ [] → A = [])
  | [], i, ins, acs, h1, h2, h => by
    unfold goP at h ⊢
    split at h
    · rename_i hc
      rw [if_pos hc]
      exact ⟨hc.1, [], [], by simp, by simp, rfl, by simp, by simp, by simpa using hc.2, by simpa using h1, by simpa using h2, fun _ => rfl⟩
    · cases h
  | l :: ls, i, ins, acs, h1, h2, h => by
    unfold goP at h ⊢
    obtain ⟨hj, _, _⟩ := spl_parts _ l (Nat.le_refl _)
    cases hl : lnO (spl l sp1) ins acs with
    | none => rw [hl] at h; cases h
    | some x =>
      rw [hl] at h
      dsimp only at h ⊢
      unfold lnO at hl
      split at hl
      · rename_i hc
        cases hs : srcO (spl l sp1).tail with
        | none => rw [hs] at hl; cases hl
        | some es =>
          rw [hs] at hl
          injection hl with hl
          subst hl
          dsimp only at h ⊢
          have ha : acs = [] := List.eq_nil_of_length_eq_zero hc.1
          subst ha
          obtain ⟨k1, A, B, k2, k3, k4, k5, k6, k7, k8, k9, k10⟩ := go_out re ls (i + 1) (ins ++ [es]) [] (by rw [List.length_append]; simp; omega) (by simp) h
          obtain ⟨g1, g2⟩ := src_once hs
          have hw : spl l sp1 = srcW es := by
            have := hc.2.1
            unfold isSrc at this
            cases hq : spl l sp1 with
            | nil => rw [hq] at this; cases this
            | cons w ws =>
              rw [hq] at this g2
              dsimp only at this
              rw [List.tail_cons] at g2
              have e1 : w = srcB := bytes_ext (by simpa using this)
              rw [e1, g2]; rfl
          have hll : l = srcT es := by
            apply bytes_ext2
            unfold srcT
            rw [mkB_list, ← hw, hj]
          refine ⟨k1, es :: A, B, by rw [k2]; simp, k3, by rw [k4, hll]; simp, fun x hx => ?_, k6, by simp, by simpa using k8, k9, fun h => absurd rfl h⟩
          rcases List.mem_cons.1 hx with rfl | hx
          · exact g1
          · exact k5 x hx
      · cases ha : actO (spl l sp1) with
        | none => rw [ha] at hl; cases hl
        | some a =>
          rw [ha] at hl
          dsimp only at hl
          split at hl
          · cases hl
          · rename_i hf
            injection hl with hl
            subst hl
            dsimp only at h ⊢
            have hf1 : ins.length ≠ 0 := fun e => hf (.inl e)
            have hf2 : acs.length < 400 := by rcases Nat.lt_or_ge acs.length 400 with h | h; exact h; exact absurd (.inr h) hf
            obtain ⟨k1, A, B, k2, k3, k4, k5, k6, k7, k8, k9, k10⟩ := go_out re ls (i + 1) ins (acs ++ [a]) h1 (by rw [List.length_append]; simp; omega) h
            have hA := k10 (by simp)
            subst hA
            obtain ⟨g1, g2⟩ := ac_once ha
            have hll : l = acT a := by
              apply bytes_ext2
              unfold acT
              rw [mkB_list, ← g2, hj]
            refine ⟨k1, [], a :: B, k2, by rw [k3]; simp, by rw [k4, hll]; simp, k5, fun x hx => ?_, k7, k8, by simpa using k9, fun _ => rfl⟩
            rcases List.mem_cons.1 hx with rfl | hx
            · exact g1
            · exact k6 x hx
theorem wk_once {ws : List ByteArray} {n : Int} (h : wkO ws = some n) : ws = [wksB, itoB n] ∧ 1 ≤ n ∧ n ≤ 8 := by
  obtain ⟨a, b, rfl, h1, h2, rfl, h3, h4⟩ := wkO_yes h
  simp only [Bool.and_eq_true] at h2
  obtain ⟨m, hm, rfl, e⟩ := num_in h2.1
  rw [e] at h3 h4 ⊢
  have : a = wksB := bytes_ext (by simpa using h1)
  exact ⟨by rw [this], h3, h4⟩
theorem plan_once (s : ByteArray) (h : (plan s).2.1 = 0) : ∃ q : Nat, q < 5 ∧ (plan s).1.k = (q : Int) + 1 ∧ JI (plan s).1.g (plan s).1.s (plan s).1.d (plan s).1.k (plan s).1.fu (plan s).1.li (plan s).1.de (plan s).1.id ∧ PlG (plan s).1 ∧ (plan s).2.2 = 0 ∧ s = txP (plan s).1 q := by
  obtain ⟨hs1, hs2, hs3⟩ := lnS_join _ s.data.toList (Nat.le_refl _)
  obtain ⟨L, t, hLt⟩ : ∃ L t, lnS s.data.toList = (L, t) := ⟨_, _, rfl⟩
  unfold plan hdS at h ⊢
  rw [hLt] at h hs1 ⊢
  dsimp only at h hs1 ⊢
  by_cases hj : (pars 6 1 zJ (mkB (unl (L.take 6)))).2.1 ≠ 0
  · rw [if_pos hj] at h; exact absurd h hj
  · rw [if_neg hj] at h ⊢
    obtain ⟨j, q, hq, hk, hp, hok, hi, hH⟩ := once _ (Decidable.not_not.1 hj)
    rw [hp] at h ⊢
    dsimp only at h ⊢
    have hH : unl (L.take 6) = tx j (nmQ q) := congrArg (fun b : ByteArray => b.data.toList) hH
    unfold tailP at h ⊢
    cases hd : L.drop 6 with
    | nil => rw [hd] at h; cases h
    | cons l ls =>
      rw [hd] at h
      dsimp only at h ⊢
      cases hw : wkO (spl l sp1) with
      | none => rw [hw] at h; cases h
      | some wn =>
        rw [hw] at h
        dsimp only at h ⊢
        unfold endP at h ⊢
        by_cases hG : (goP t.isEmpty ls 7 [] []).1 = 0
        · rw [if_pos hG]
          obtain ⟨k1, A, B, k2, k3, k4, k5, k6, k7, k8, k9, _⟩ := go_out _ ls 7 [] [] (by simp) (by simp) hG
          rw [k2, k3]
          rw [List.nil_append] at k7 k8 k9 ⊢
          rw [List.nil_append]
          obtain ⟨w1, w2, w3⟩ := wk_once hw
          have ht : t = [] := by cases t; rfl; cases k1
          obtain ⟨hjj, _, _⟩ := spl_parts _ l (Nat.le_refl _)
          refine ⟨q, hq, hk, hi, ⟨hok, ?_, k8, k5, w2, w3, k9, k6⟩, rfl, ?_⟩
          · unfold jPl; dsimp only
            cases A with
            | nil => exact absurd rfl k7
            | cons a A => simp
          · apply bytes_ext2
            unfold txP jPl Pl.j8
            dsimp only
            rw [mkB_list, hs1, ht, List.append_nil, unl_split L 6, hH, hd, ← unl_all, k4]
            unfold allT
            rw [unl_app, six_tx]
            congr 2
            congr 1
            apply bytes_ext2
            rw [mkB_list, ← w1, hjj]
        · rw [if_neg hG] at h; cases h
end Go.Proofs.YtbhblhcgfenobaaGreatDoor
namespace Go.Proofs.YtbhblhcgfenobaaGreatDoor
open Go.RowKit
set_option linter.unusedSimpArgs false
set_option linter.unusedVariables false
theorem flat_len {α : Type} (f : α → List UInt8) (k : Nat) : ∀ l : List α, (∀ x ∈ l, (f x).length ≤ k) → (l.flatMap f).length ≤ k * l.length
  | [], _ => by simp
  | x :: l, h => by
    have h1 := flat_len f k l fun y hy => h y (by simp [hy])
    have h2 := h x (by simp)
    rw [List.flatMap_cons, List.length_append, List.length_cons, Nat.mul_add, Nat.mul_one]
    omega
theorem txP_size (p : Pl) (q : Nat) (hq : q < 5) (hi : JI p.g p.s p.d p.k p.fu p.li p.de p.id) (h : PlG p) : (txP p q).size ≤ 800000 := by
  have h1 := jobT_size (ito_le hi.g) (ito_le hi.s) (ito_le hi.d) (Nat.le_trans (nm_size q) (by omega)) (ito_le hi.li) (ito_le hi.fu) (ito_le hi.de) (ito_le hi.id)
  have h2 := tx_eq p.j8 (nmQ q)
  unfold Pl.j8 at h2
  rw [h2] at h1
  have h3 : (tx p.j8 (nmQ q)).length ≤ 1000 := by
    have : (mkB (tx p.j8 (nmQ q))).data.size = (tx p.j8 (nmQ q)).length := by rw [← Array.length_toList, mkB_list]
    rw [← this]; exact h1
  have hw : (lineW [wksB, itoB p.wn]).length ≤ 40 := by
    have := itoB_size p.wn (by have := h.w1; omega) (by have := h.w8; omega)
    unfold lineW
    rw [join2]
    simp only [List.length_append, List.length_cons, List.length_nil, Array.length_toList, wksB]
    have : (#[(119 : UInt8), 111, 114, 107, 101, 114, 115]).size = 7 := rfl
    omega
  have hs := flat_len (fun es => lineW (srcW es)) 12210 p.ls fun es he => by
    have hg := h.src es he
    have : okEs es = true := by
      simp only [okEs, Bool.and_eq_true, decide_eq_true_eq, List.all_eq_true]
      exact ⟨hg.1, fun e hx => (hg.2 e hx).2.1⟩
    have := srcW_len this fun e hx => (hg.2 e hx).2.2
    unfold lineW
    rw [List.length_append]
    simp only [List.length_cons, List.length_nil]
    omega
  have ha := flat_len (fun a => lineW (acW a)) 50 p.xs fun a hx => by
    have := acW_len (h.ac a hx)
    omega
  have n4 := h.n4
  have x4 := h.x4
  unfold txP
  rw [← size_list, mkB_list]
  unfold plL
  simp only [List.length_append]
  omega
theorem plan_bad (s : ByteArray) (h : (plan s).2.1 ≠ 0) : (plan s).1 = zPl := by
  unfold plan at h ⊢
  split
  · rfl
  · rename_i h1
    rw [if_neg h1] at h
    unfold tailP at h ⊢
    split
    · rfl
    · split
      · rfl
      · rename_i hd _ wn hw
        rw [hd] at h
        dsimp only at h
        rw [hw] at h
        dsimp only at h
        unfold endP at h ⊢
        split
        · rename_i h2
          rw [if_pos h2] at h
          exact absurd rfl h
        · rfl
theorem s_PrintT (p : Pl) (q : Nat) (hq : q < 5) (hk : p.k = (q : Int) + 1) (hI : PlI p) (hok : p.ok = true) : PCT Tryz.prog TabP 10 [.agg p.av] (.tup [.v (.string (txP p q)), .v (.int .i64 0)]) := by
  obtain ⟨g, s, d, k, fu, li, de, id, ls, wn, xs⟩ := p
  dsimp only at hk
  subst hk
  obtain ⟨hj, hsm, hv, hxs⟩ := hI
  dsimp only at hj hsm hv hxs
  have hsz := jobT_size (ito_le hj.g) (ito_le hj.s) (ito_le hj.d) (Nat.le_trans (nm_size q) (by omega)) (ito_le hj.li) (ito_le hj.fu) (ito_le hj.de) (ito_le hj.id)
  have h2 := tx_eq ⟨g, s, d, (q : Int) + 1, fu, li, de, id⟩ (nmQ q)
  dsimp only at h2
  have hP := s_Print g s d fu li de id q hq ls wn xs hj hok hsm hv _ (by unfold spB; rw [jobP_T]) hsz
  rw [h2] at hP
  exact hP.weak f_tab
set_option maxHeartbeats 4000000 in
theorem s_back (p : Pl) (hI : PlI p) : PCT Tryz.prog TabP 4 [.agg p.av] (.v (.bool true)) := by
  have hA := p_alive24
  have hS := s_Right p hI.sm hI.xs
  cases hok : p.ok
  · have hP := s_PrintNo p hI.sm hI.xs hok
    rw [hok] at hS
    unfold Pl.av at *
    refine PCT.mk (act_body tab_ok Tryz.func4 rfl (by kernel_rfl) rfl ?_); intro w0 M μ0 hG; simp only [Tryz.ntmps4, List.length_cons, List.length_nil, Nat.reduceAdd, Nat.reduceSub, numb] at hG ⊢
    repeat' (first | ((first | apply o_do | apply d_do | apply d_yes rfl rfl rfl); first | exact lsc (hS) | exact lsc (hA) | exact lsc (hP) | exact lsq) | refine a_seq ?_ | refine a_region ?_ | refine o_nil ?_ | refine a_block ?_ | refine a_ret ?_ | refine a_exit ?_ | refine a_skip ?_ | refine a_draw mixed ?_ | refine d_nil (by kernel_rfl) ?_ | refine o_yes rfl rfl rfl ?_ | refine o_no rfl rfl rfl (by decide) ?_ | refine o_no' rfl rfl rfl ?_ | refine a_condT rfl ?_ | refine a_condF rfl ?_ | refine d_no rfl rfl rfl (by decide) ?_ | refine d_no' rfl rfl rfl ?_ | (refine wq2 (fun hb => ?_) (fun hb => ?_) <;> (simp only [hb]; try simp only [hbs, ne_eq] at hb; try (exfalso; first | omega | exact hb trivial))) | fail)
    all_goals refine rq rfl ?_
    all_goals exact fnq
  · obtain ⟨q, hq, hk⟩ := Pl.kind hok
    have hG := plG_of hok hI.v
    have hP := s_PrintT p q hq hk hI hok
    have hsz := txP_size p q hq hI.j hG
    have hR := p_sParse (txP p q) (by unfold Sm; omega)
    rw [plan_back p q hq hk hI.j hG] at hR
    dsimp only at hR
    have hL := p_rLike p hI.sm hI.xs
    generalize txP p q = t at *
    unfold Pl.av at *
    refine PCT.mk (act_body tab_ok Tryz.func4 rfl (by kernel_rfl) rfl ?_); intro w0 M μ0 hG; simp only [Tryz.ntmps4, List.length_cons, List.length_nil, Nat.reduceAdd, Nat.reduceSub, numb] at hG ⊢
    repeat' (first | ((first | apply o_do | apply d_do | apply d_yes rfl rfl rfl); first | focus (apply ls_callT hG hP rfl rfl _ rfl rfl; (repeat' (first | exact NilL.nil | refine NilL.cons Nil.same ?_ | refine NilL.cons Nil.nil ?_ | refine NilL.cons (Nil.agg ?_) ?_ | exact Nil1s.nil | refine Nil1s.cons Nil1.same ?_ | refine Nil1s.cons Nil1.nil ?_)); done) | focus (apply ls_callT hG hR rfl rfl _ rfl rfl; (repeat' (first | exact NilL.nil | refine NilL.cons Nil.same ?_ | refine NilL.cons Nil.nil ?_ | refine NilL.cons (Nil.agg ?_) ?_ | exact Nil1s.nil | refine Nil1s.cons Nil1.same ?_ | refine Nil1s.cons Nil1.nil ?_)); done) | exact lsc (hL) | exact lsq) | refine a_seq ?_ | refine a_region ?_ | refine o_nil ?_ | refine a_block ?_ | refine a_ret ?_ | refine a_exit ?_ | refine a_skip ?_ | refine a_draw mixed ?_ | refine d_nil (by kernel_rfl) ?_ | refine o_yes rfl rfl rfl ?_ | refine o_no rfl rfl rfl (by decide) ?_ | refine o_no' rfl rfl rfl ?_ | refine a_condT rfl ?_ | refine a_condF rfl ?_ | refine d_no rfl rfl rfl (by decide) ?_ | refine d_no' rfl rfl rfl ?_ | (refine wq2 (fun hb => ?_) (fun hb => ?_) <;> (simp only [hb]; try simp only [hbs, ne_eq] at hb; try (exfalso; first | omega | exact hb trivial))) | fail)
    all_goals refine rq rfl ?_
    all_goals exact fnq
set_option maxHeartbeats 4000000 in
theorem s_once (s : ByteArray) (hs : Sm s) : PCT Tryz.prog TabP 5 [.v (.string s)] (.v (.bool true)) := by
  have hA := p_alive24
  have hR := p_sParse s hs
  by_cases he : (plan s).2.1 = 0
  · obtain ⟨q, hq, hk, hJ, hG, hn, ht⟩ := plan_once s he
    have hok := ok_of hG
    obtain ⟨k1, k2⟩ := plan_small s
    have hP := s_PrintT (plan s).1 q hq hk ⟨hJ, k1, hok.2, k2⟩ hok.1
    rw [← ht] at hP
    rw [he] at hR
    clear ht hk hJ hG hn hok k1 k2
    generalize (plan s).1 = p at *
    generalize (plan s).2.2 = n at *
    unfold Pl.av at *
    refine PCT.mk (act_body tab_ok Tryz.func5 rfl (by kernel_rfl) rfl ?_); intro w0 M μ0 hG; simp only [Tryz.ntmps5, List.length_cons, List.length_nil, Nat.reduceAdd, Nat.reduceSub, numb] at hG ⊢
    repeat' (first | ((first | apply o_do | apply d_do | apply d_yes rfl rfl rfl); first | focus (apply ls_callT hG hP rfl rfl _ rfl rfl; (repeat' (first | exact NilL.nil | refine NilL.cons Nil.same ?_ | refine NilL.cons Nil.nil ?_ | refine NilL.cons (Nil.agg ?_) ?_ | exact Nil1s.nil | refine Nil1s.cons Nil1.same ?_ | refine Nil1s.cons Nil1.nil ?_)); done) | focus (apply ls_callT hG hR rfl rfl _ rfl rfl; (repeat' (first | exact NilL.nil | refine NilL.cons Nil.same ?_ | refine NilL.cons Nil.nil ?_ | refine NilL.cons (Nil.agg ?_) ?_ | exact Nil1s.nil | refine Nil1s.cons Nil1.same ?_ | refine Nil1s.cons Nil1.nil ?_)); done) | exact lsc (hA) | exact lsq) | refine a_seq ?_ | refine a_region ?_ | refine o_nil ?_ | refine a_block ?_ | refine a_ret ?_ | refine a_exit ?_ | refine a_skip ?_ | refine a_draw mixed ?_ | refine d_nil (by kernel_rfl) ?_ | refine o_yes rfl rfl rfl ?_ | refine o_no rfl rfl rfl (by decide) ?_ | refine o_no' rfl rfl rfl ?_ | refine a_condT rfl ?_ | refine a_condF rfl ?_ | refine d_no rfl rfl rfl (by decide) ?_ | refine d_no' rfl rfl rfl ?_ | (refine wq2 (fun hb => ?_) (fun hb => ?_) <;> (simp only [hb]; try simp only [hbs, ne_eq] at hb; try (exfalso; first | omega | exact hb trivial))) | fail)
    all_goals refine rq rfl ?_
    all_goals (first | refine FinA.tup ?_ | refine FinA.one ?_); repeat' (first | exact FinBs.nil | exact FinCs.nil | refine FinBs.cons ?_ ?_ | refine FinCs.cons ?_ ?_ | refine FinB.cell (FinC.v ?_) | refine FinB.cell (FinC.own rfl rfl rfl ?_) | exact FinB.cell FinC.nil | refine FinB.cell (FinC.sl ?_) | exact FinB.agg' rfl rfl | exact FinB.cell (FinC.same rfl) | refine FinB.agg ?_ | refine FinC.v ?_ | refine FinC.own rfl rfl rfl ?_ | exact FinC.nil | refine FinC.sl ?_ | exact FinC.same rfl); all_goals try rfl
    all_goals simp
  · rw [plan_bad s he] at hR
    have hL := p_rLike zPl ⟨by decide, by intro es h; cases h⟩ (by decide)
    generalize (plan s).2.1 = e at *
    generalize (plan s).2.2 = n at *
    unfold Pl.av zPl at *
    simp only [List.map_nil] at *
    refine PCT.mk (act_body tab_ok Tryz.func5 rfl (by kernel_rfl) rfl ?_); intro w0 M μ0 hG; simp only [Tryz.ntmps5, List.length_cons, List.length_nil, Nat.reduceAdd, Nat.reduceSub, numb] at hG ⊢
    repeat' (first | ((first | apply o_do | apply d_do | apply d_yes rfl rfl rfl); first | focus (apply ls_callT hG hR rfl rfl _ rfl rfl; (repeat' (first | exact NilL.nil | refine NilL.cons Nil.same ?_ | refine NilL.cons Nil.nil ?_ | refine NilL.cons (Nil.agg ?_) ?_ | exact Nil1s.nil | refine Nil1s.cons Nil1.same ?_ | refine Nil1s.cons Nil1.nil ?_)); done) | exact lsc (hL) | exact lsc (hA) | exact lsq) | refine a_seq ?_ | refine a_region ?_ | refine o_nil ?_ | refine a_block ?_ | refine a_ret ?_ | refine a_exit ?_ | refine a_skip ?_ | refine a_draw mixed ?_ | refine d_nil (by kernel_rfl) ?_ | refine o_yes rfl rfl rfl ?_ | refine o_no rfl rfl rfl (by decide) ?_ | refine o_no' rfl rfl rfl ?_ | refine a_condT rfl ?_ | refine a_condF rfl ?_ | refine d_no rfl rfl rfl (by decide) ?_ | refine d_no' rfl rfl rfl ?_ | (refine wq2 (fun hb => ?_) (fun hb => ?_) <;> (simp only [hb]; try simp only [hbs, ne_eq] at hb; try (exfalso; first | omega | exact hb trivial))) | fail)
    all_goals refine rq rfl ?_
    all_goals exact fnq
end Go.Proofs.YtbhblhcgfenobaaGreatDoor
namespace Go.Proofs.YtbhblhcgfenobaaGreatDoor
open Go.RowKit
set_option linter.unusedVariables false
def putT (cs : List Value) : Obj → Obj
  | .cells _ t fr => .cells cs.toArray t fr
  | o => o
theorem pow_type : (Tryz.prog.globals[1]?).map (·.type) = some 153 := by kernel_rfl
theorem pow_cells : Tryz.prog.cellsOf 153 = 20 := by kernel_rfl
theorem u64_cells : Tryz.prog.cellsOf 138 = 1 := by kernel_rfl
/-- the table off the row's condition -/
theorem tab_of {W : World} {l : List (String × DataW Unit)} (h : laidMetH Tryz.prog l W) (hl : (l.filter fun x => x.1 == "internal/strconv.uint64pow10") = [("internal/strconv.uint64pow10", Rows.laid_internal_strconv_uint64pow10)]) : TabT W := by
  have h1 := h.filter fun x => x.1 == "internal/strconv.uint64pow10"
  rw [hl] at h1
  have h2 : laidMet Tryz.prog [("internal/strconv.uint64pow10", Lib.tabData .u64 Lib.pow10Tab)] W := h1
  exact Lib.tabIs_of_head g_pow pow_type Tryz.underlying153 Tryz.underlying138 u64_cells pow_cells h2
end Go.Proofs.YtbhblhcgfenobaaGreatDoor
namespace Go.Proofs.YtbhblhcgfenobaaGreatDoor
open Go.RowKit Go.WideShapes Go.ChangeShapes Go.ChangeAt
set_option linter.unusedSimpArgs false
set_option linter.unusedVariables false
theorem A_laidOut : laidOutB Tryz.prog = true := by kernel_rfl
theorem rd_Job {H : Type} {enc : TypeId × Value → H} {w : World} {base : Nat} {spare : Nat → Bool} {held : Bool} {fuel : Nat} {cs : List Value} {x : DataW H × List MemPlace} (h : DataW.trod enc Tryz.prog w base spare held fuel 23 cs = some x) :
    ∃ (g : Int) (s : Int) (d : Int) (k : Int) (fu : Int) (li : Int) (de : Int) (id : Int), cs = [.int .i64 g, .int .i64 s, .int .i64 d, .int .i64 k, .int .i64 fu, .int .i64 li, .int .i64 de, .int .i64 id] ∧ (-9223372036854775808 ≤ g ∧ g ≤ 9223372036854775807) ∧ (-9223372036854775808 ≤ s ∧ s ≤ 9223372036854775807) ∧ (-9223372036854775808 ≤ d ∧ d ≤ 9223372036854775807) ∧ (-9223372036854775808 ≤ k ∧ k ≤ 9223372036854775807) ∧ (-9223372036854775808 ≤ fu ∧ fu ≤ 9223372036854775807) ∧ (-9223372036854775808 ≤ li ∧ li ≤ 9223372036854775807) ∧ (-9223372036854775808 ≤ de ∧ de ≤ 9223372036854775807) ∧ (-9223372036854775808 ≤ id ∧ id ≤ 9223372036854775807) := by
  have hl := rd_len Tryz.underlying23 h
  have hl2 : cs.length = 8 := hl.trans (by kernel_rfl)
  obtain ⟨c0, c1, c2, c3, c4, c5, c6, c7, rfl⟩ : ∃ c0 c1 c2 c3 c4 c5 c6 c7, cs = [c0, c1, c2, c3, c4, c5, c6, c7] := by
    match cs, hl2 with
    | [c0, c1, c2, c3, c4, c5, c6, c7], _ => exact ⟨c0, c1, c2, c3, c4, c5, c6, c7, rfl⟩
  clear hl hl2
  have hc0 : Tryz.prog.cellsOf 3 = 1 := by kernel_rfl
  have hc1 : Tryz.prog.cellsOf 2 = 1 := by kernel_rfl
  obtain ⟨n0, y0, g0⟩ := rd_field Tryz.underlying23 h 0 _ rfl
  obtain ⟨x0, e0, _, w0⟩ := DataW.trod_int Tryz.underlying3 g0
  simp [hc0] at e0
  subst e0
  obtain ⟨n1, y1, g1⟩ := rd_field Tryz.underlying23 h 1 _ rfl
  obtain ⟨x1, e1, _, w1⟩ := DataW.trod_int Tryz.underlying2 g1
  simp [hc1] at e1
  subst e1
  obtain ⟨n2, y2, g2⟩ := rd_field Tryz.underlying23 h 2 _ rfl
  obtain ⟨x2, e2, _, w2⟩ := DataW.trod_int Tryz.underlying2 g2
  simp [hc1] at e2
  subst e2
  obtain ⟨n3, y3, g3⟩ := rd_field Tryz.underlying23 h 3 _ rfl
  obtain ⟨x3, e3, _, w3⟩ := DataW.trod_int Tryz.underlying3 g3
  simp [hc0] at e3
  subst e3
  obtain ⟨n4, y4, g4⟩ := rd_field Tryz.underlying23 h 4 _ rfl
  obtain ⟨x4, e4, _, w4⟩ := DataW.trod_int Tryz.underlying3 g4
  simp [hc0] at e4
  subst e4
  obtain ⟨n5, y5, g5⟩ := rd_field Tryz.underlying23 h 5 _ rfl
  obtain ⟨x5, e5, _, w5⟩ := DataW.trod_int Tryz.underlying2 g5
  simp [hc1] at e5
  subst e5
  obtain ⟨n6, y6, g6⟩ := rd_field Tryz.underlying23 h 6 _ rfl
  obtain ⟨x6, e6, _, w6⟩ := DataW.trod_int Tryz.underlying2 g6
  simp [hc1] at e6
  subst e6
  obtain ⟨n7, y7, g7⟩ := rd_field Tryz.underlying23 h 7 _ rfl
  obtain ⟨x7, e7, _, w7⟩ := DataW.trod_int Tryz.underlying3 g7
  simp [hc0] at e7
  subst e7
  exact ⟨x0, x1, x2, x3, x4, x5, x6, x7, rfl, wf_i64 w0, wf_i64 w1, wf_i64 w2, wf_i64 w3, wf_i64 w4, wf_i64 w5, wf_i64 w6, wf_i64 w7⟩
end Go.Proofs.YtbhblhcgfenobaaGreatDoor
namespace Go.Proofs.YtbhblhcgfenobaaGreatDoor
open Go.RowKit Go.WideShapes Go.ChangeShapes Go.ChangeAt
set_option linter.unusedSimpArgs false
set_option linter.unusedVariables false
theorem rd_Ev {H : Type} {enc : TypeId × Value → H} {w : World} {base : Nat} {spare : Nat → Bool} {held : Bool} {fuel : Nat} {cs : List Value} {x : DataW H × List MemPlace} (h : DataW.trod enc Tryz.prog w base spare held fuel 82 cs = some x) :
    ∃ (k : ByteArray) (a : Int) (v : Int), cs = [.string k, .int .i64 a, .int .i64 v] ∧ k.size ≤ maxLen ∧ (-9223372036854775808 ≤ a ∧ a ≤ 9223372036854775807) ∧ (-9223372036854775808 ≤ v ∧ v ≤ 9223372036854775807) := by
  have hl := rd_len Tryz.underlying82 h
  have hl2 : cs.length = 3 := hl.trans (by kernel_rfl)
  obtain ⟨c0, c1, c2, rfl⟩ : ∃ c0 c1 c2, cs = [c0, c1, c2] := by
    match cs, hl2 with
    | [c0, c1, c2], _ => exact ⟨c0, c1, c2, rfl⟩
  clear hl hl2
  have hc0 : Tryz.prog.cellsOf 9 = 1 := by kernel_rfl
  have hc1 : Tryz.prog.cellsOf 2 = 1 := by kernel_rfl
  obtain ⟨n0, y0, g0⟩ := rd_field Tryz.underlying82 h 0 _ rfl
  obtain ⟨x0, e0, _, w0⟩ := DataW.trod_string Tryz.underlying9 g0
  simp [hc0] at e0
  subst e0
  obtain ⟨n1, y1, g1⟩ := rd_field Tryz.underlying82 h 1 _ rfl
  obtain ⟨x1, e1, _, w1⟩ := DataW.trod_int Tryz.underlying2 g1
  simp [hc1] at e1
  subst e1
  obtain ⟨n2, y2, g2⟩ := rd_field Tryz.underlying82 h 2 _ rfl
  obtain ⟨x2, e2, _, w2⟩ := DataW.trod_int Tryz.underlying2 g2
  simp [hc1] at e2
  subst e2
  exact ⟨x0, x1, x2, rfl, w0, wf_i64 w1, wf_i64 w2⟩
end Go.Proofs.YtbhblhcgfenobaaGreatDoor
