/-
  Walks over abstract values: regions that draw their order. Over whatever program. No condition.
-/
import Derived.Test.YtimlkhbedhjehaaAvR
import Derived.Orders
namespace Go.Proofs.Ytimlkhbedhjehaa
open Go.RowKit
set_option linter.unusedSimpArgs false
set_option linter.unusedVariables false

structure Eff where
  R : List Loc
  er : List (Nat × AV)
  eσ : List (Nat × SObj)
def ASt.do_ (s : ASt) (e : Eff) : ASt := s.eff e.er e.eσ
def Eff.W (e : Eff) : List Loc := e.er.map (fun p => .reg p.1) ++ e.eσ.map (fun p => .obj p.1)
def same (s t : ASt) : Loc → Prop
  | .reg r => find s.regs r = find t.regs r
  | .obj i => find s.σ i = find t.σ i
theorem same.refl (s : ASt) (l : Loc) : same s s l := by cases l <;> rfl
theorem same.symm {s t : ASt} {l : Loc} (h : same s t l) : same t s l := by cases l <;> exact Eq.symm h
theorem same.trans {s t u : ASt} {l : Loc} (h : same s t l) (k : same t u l) : same s u l := by cases l <;> exact Eq.trans h k
theorem agree_of {s t : ASt} : ∀ {R : List Loc}, (∀ l ∈ R, same t s l) → Agree s t R
  | [], _ => trivial
  | .reg r :: R, h => ⟨h (.reg r) (by simp), agree_of fun l hl => h l (by simp [hl])⟩
  | .obj r :: R, h => ⟨h (.obj r) (by simp), agree_of fun l hl => h l (by simp [hl])⟩
theorem find_app {α : Type} (l m : List (Nat × α)) (i : Nat) : find (l ++ m) i = match find l i with | some x => some x | none => find m i := by
  induction l with
  | nil => simp [find]
  | cons p l ih =>
    obtain ⟨k, x⟩ := p
    rw [List.cons_append, find_cons, find_cons, ih]
    split <;> rfl
theorem find_some_iff {α : Type} {l : List (Nat × α)} {i : Nat} : i ∈ l.map Prod.fst ↔ ∃ x, find l i = some x := by
  induction l with
  | nil => simp [find]
  | cons p l ih =>
    obtain ⟨k, x⟩ := p
    rw [List.map_cons, List.mem_cons, find_cons]
    by_cases h : k = i
    · subst h; simp
    · rw [if_neg h, ← ih]
      constructor
      · rintro (h1 | h1)
        · exact absurd h1.symm h
        · exact h1
      · exact .inr
theorem memW_reg {e : Eff} {r : Nat} : Loc.reg r ∈ e.W ↔ ∃ x, find e.er r = some x := by
  rw [← find_some_iff]
  simp [Eff.W]
theorem memW_obj {e : Eff} {r : Nat} : Loc.obj r ∈ e.W ↔ ∃ x, find e.eσ r = some x := by
  rw [← find_some_iff]
  simp [Eff.W]
theorem do_out {s : ASt} {e : Eff} {l : Loc} (h : l ∉ e.W) : same (s.do_ e) s l := by
  cases l with
  | reg r =>
    rw [memW_reg] at h
    simp only [same, ASt.do_, ASt.eff, find_app]
    cases hf : find e.er r with
    | none => rfl
    | some x => exact absurd ⟨x, hf⟩ h
  | obj r =>
    rw [memW_obj] at h
    simp only [same, ASt.do_, ASt.eff, find_app]
    cases hf : find e.eσ r with
    | none => rfl
    | some x => exact absurd ⟨x, hf⟩ h
theorem do_in {s t : ASt} {e : Eff} {l : Loc} (h : l ∈ e.W) : same (s.do_ e) (t.do_ e) l := by
  cases l with
  | reg r =>
    obtain ⟨x, hx⟩ := memW_reg.1 h
    simp only [same, ASt.do_, ASt.eff, find_app, hx]
  | obj r =>
    obtain ⟨x, hx⟩ := memW_obj.1 h
    simp only [same, ASt.do_, ASt.eff, find_app, hx]
theorem do_cong {s t : ASt} {e : Eff} {l : Loc} (h : same s t l) : same (s.do_ e) (t.do_ e) l := by
  by_cases hw : l ∈ e.W
  · exact do_in hw
  · exact (do_out hw).trans (h.trans (do_out hw).symm)
/-- the effects of those that are listed, in the order of the text -/
def appl (f : Nat → Bool) : Nat → List Eff → ASt → ASt
  | _, [], s => s
  | i, e :: es, s => appl f (i + 1) es (match f i with | true => s.do_ e | false => s)
theorem appl_same {f g : Nat → Bool} {l : Loc} : ∀ {es : List Eff} {i : Nat} {s t : ASt}, same s t l → (∀ j e, es[j]? = some e → l ∈ e.W → f (i + j) = g (i + j)) → same (appl f i es s) (appl g i es t) l
  | [], i, s, t, h, _ => h
  | e :: es, i, s, t, h, hfg => by
    simp only [appl]
    refine appl_same ?_ (fun j e' hj hl => by
      have := hfg (j + 1) e' (by simpa using hj) hl
      rwa [show i + (j + 1) = i + 1 + j by omega] at this)
    by_cases hw : l ∈ e.W
    · have := hfg 0 e rfl hw
      rw [Nat.add_zero] at this
      rw [this]
      cases g i
      · exact h
      · exact do_in hw
    · have h1 : ∀ (b : Bool) (u : ASt), same (match b with | true => u.do_ e | false => u) u l := by
        intro b u; cases b
        · exact same.refl u l
        · exact do_out hw
      exact (h1 _ s).trans (h.trans (h1 _ t).symm)
theorem appl_last {f : Nat → Bool} {l : Loc} {e : Eff} (hl : l ∈ e.W) : ∀ {es : List Eff} {i k : Nat} {s u : ASt}, es[k]? = some e → f (i + k) = true → (∀ j e', k < j → es[j]? = some e' → f (i + j) = true → l ∉ e'.W) → same (appl f i es s) (u.do_ e) l
  | [], i, k, s, u, h, _, _ => by simp at h
  | e0 :: es, i, 0, s, u, h, hf, hn => by
    simp only [List.getElem?_cons_zero, Option.some.injEq] at h
    subst h
    simp only [appl]
    rw [Nat.add_zero] at hf
    rw [hf]
    have h2 : same (appl f (i + 1) es (s.do_ e0)) (appl (fun _ => false) (i + 1) es (s.do_ e0)) l := appl_same (same.refl _ _) (fun j e' hj hl' => by
      cases h3 : f (i + 1 + j)
      · rfl
      · exact absurd hl' (hn (j + 1) e' (by omega) (by simpa using hj) (by rw [show i + (j + 1) = i + 1 + j by omega]; exact h3)))
    have h3 : ∀ (es : List Eff) (i : Nat) (s : ASt), appl (fun _ => false) i es s = s := by
      intro es
      induction es with
      | nil => intro i s; rfl
      | cons e es ih => intro i s; simp only [appl]; exact ih _ _
    rw [h3] at h2
    exact h2.trans (do_in hl)
  | e0 :: es, i, k + 1, s, u, h, hf, hn => by
    simp only [appl]
    refine appl_last hl (i := i + 1) (k := k) (by simpa using h) (by rw [← hf]; congr 1; omega) (fun j e' hj he hfj => hn (j + 1) e' (by omega) (by simpa using he) (by rw [← hfj]; congr 1; omega))
theorem appl_upto : ∀ {es : List Eff} {i k : Nat} {s : ASt}, k ≤ es.length → appl (fun j => decide (j < i + k)) i es s = (es.take k).foldl ASt.do_ s
  | [], i, k, s, h => by simp [appl]
  | e :: es, i, 0, s, h => by
    have : ∀ (es : List Eff) (i' : Nat) (s : ASt), i ≤ i' → appl (fun j => decide (j < i + 0)) i' es s = s := by
      intro es
      induction es with
      | nil => intro i' s _; rfl
      | cons e es ih =>
        intro i' s hi
        simp only [appl]
        rw [show decide (i' < i + 0) = false by simp; omega]
        exact ih _ _ (by omega)
    simpa using this (e :: es) i s (Nat.le_refl _)
  | e :: es, i, k + 1, s, h => by
    simp only [appl]
    rw [show decide (i < i + (k + 1)) = true by simp]
    have := appl_upto (es := es) (i := i + 1) (k := k) (s := s.do_ e) (by simpa using h)
    rw [show (fun j => decide (j < i + (k + 1))) = (fun j => decide (j < i + 1 + k)) from funext fun j => by congr 1; apply propext; omega]
    rw [this]
    rfl

/-- what an operation waits for -/
def aft (o : Oper) : List Nat := (o.after.toList.filter fun e => Region.binds .any e).map (·.on)
def clos : List (List Nat) → List (List Nat) → List (List Nat)
  | acc, [] => acc
  | acc, a :: l => clos (acc ++ [(a ++ a.flatMap fun e => acc.getD e []).eraseDups]) l
def Loc.beq : Loc → Loc → Bool
  | .reg a, .reg b => Nat.beq a b
  | .obj a, .obj b => Nat.beq a b
  | _, _ => false
def disj (l m : List Loc) : Bool := l.all fun x => m.all fun y => !x.beq y
def okDraw (ops : List Oper) (es : List Eff) : Bool :=
  let cl := clos [] (ops.map aft)
  Nat.beq ops.length es.length && (List.range ops.length).all fun i =>
    ((ops.map aft).getD i []).all (fun e => Nat.blt e i) && (List.range i).all fun k =>
      (cl.getD i []).contains k || (match es[k]?, es[i]? with
        | some a, some b => disj a.W (b.R ++ b.W) && disj b.W (a.R ++ a.W)
        | _, _ => false)
theorem Loc.beq_refl (x : Loc) : x.beq x = true := by cases x <;> simp [Loc.beq]
theorem disj_not {l m : List Loc} (h : disj l m = true) {x : Loc} (hx : x ∈ l) (hy : x ∈ m) : False := by
  have h1 := List.all_eq_true.1 h x hx
  have h2 := List.all_eq_true.1 h1 x hy
  rw [Loc.beq_refl] at h2
  cases h2
theorem clos_len : ∀ (l acc : List (List Nat)), (clos acc l).length = acc.length + l.length
  | [], acc => by simp [clos]
  | a :: l, acc => by simp only [clos, clos_len l, List.length_append, List.length_cons, List.length_nil]; omega
theorem clos_keep : ∀ (l acc : List (List Nat)) (i : Nat), i < acc.length → (clos acc l).getD i [] = acc.getD i []
  | [], acc, i, h => rfl
  | a :: l, acc, i, h => by
    simp only [clos]
    rw [clos_keep l _ i (by simp; omega)]
    simp only [List.getD_eq_getElem?_getD]
    rw [List.getElem?_append_left h]
theorem clos_sound (all : List (List Nat)) (L : Nat → Bool) (hL : ∀ i, L i = true → ∀ e ∈ all.getD i [], L e = true) (hback : ∀ i, ∀ e ∈ all.getD i [], e < i) :
    ∀ (l acc : List (List Nat)), all = all.take acc.length ++ l → acc.length ≤ all.length → (∀ i < acc.length, (∀ e ∈ all.getD i [], L e = true) → ∀ k ∈ acc.getD i [], L k = true) →
      ∀ i < (clos acc l).length, (∀ e ∈ all.getD i [], L e = true) → ∀ k ∈ (clos acc l).getD i [], L k = true
  | [], acc, _, _, h => h
  | a :: l, acc, hal, hle, h => by
    simp only [clos]
    have ha : all.getD acc.length [] = a := by
      rw [List.getD_eq_getElem?_getD, hal, List.getElem?_append_right (by simp; omega)]
      simp [Nat.min_eq_left hle]
    have hlen : acc.length < all.length := by
      have := congrArg List.length hal
      simp only [List.length_append, List.length_take, List.length_cons] at this
      omega
    refine clos_sound all L hL hback l _ ?_ (by simp; omega) ?_
    · have h1 : all.take (acc.length + 1) = all.take acc.length ++ [a] := by
        rw [List.take_succ_eq_append_getElem hlen]
        congr 2
        rw [List.getD_eq_getElem?_getD, List.getElem?_eq_getElem hlen] at ha
        simpa using ha
      simp only [List.length_append, List.length_cons, List.length_nil]
      rw [h1, List.append_assoc]
      exact hal
    · intro i hi hpre k hk
      simp only [List.length_append, List.length_cons, List.length_nil] at hi
      rcases Nat.lt_or_ge i acc.length with h1 | h1
      · rw [List.getD_eq_getElem?_getD, List.getElem?_append_left h1, ← List.getD_eq_getElem?_getD] at hk
        exact h i h1 hpre k hk
      · obtain rfl : i = acc.length := by omega
        rw [List.getD_eq_getElem?_getD, List.getElem?_append_right (Nat.le_refl _)] at hk
        simp only [Nat.sub_self, List.getElem?_cons_zero, Option.getD_some, List.mem_eraseDups, List.mem_append, List.mem_flatMap] at hk
        rw [ha] at hpre
        rcases hk with hk | ⟨e, he, hk⟩
        · exact hpre k hk
        · have he2 : e < acc.length := hback acc.length e (by rw [ha]; exact he)
          exact h e he2 (hL e (hpre e he)) k hk

section
variable {P : Program} {Γ : Ctx} {Q : Exit → ASt → Prop} {s t : ASt} {μ : Nat → Value} {w : World} {a : Act}
theorem SRel.ext {σ σ' : Store} {M : Nat → Prop} (he : ∀ i, find σ i = find σ' i) (h : SRel σ μ w M) : SRel σ' μ w M := by
  have hav : ∀ b, ¬ av σ μ M b → ¬ av σ' μ M b := by
    intro b hb hc
    rcases hc with hc | ⟨id, o, h1, h2⟩
    · exact hb (.inl hc)
    · exact hb (.inr ⟨id, o, by rw [he]; exact h1, h2⟩)
  have hst : Step σ μ w (av σ μ M) σ' μ w (av σ' μ M) := ⟨fun b hb _ => ⟨rfl, hav b hb⟩, Nat.le_refl _, fun id t cs hf => ⟨cs, by rw [← he]; exact hf, rfl, rfl⟩, fun id e size xs hf => ⟨xs, by rw [← he]; exact hf, Nat.le_refl _, fun _ => rfl⟩⟩
  refine ⟨fun id o hf => ?_, fun id id' o o' g h1 h2 h3 h4 => h.inj id id' o o' g (by rw [he]; exact h1) (by rw [he]; exact h2) h3 h4, h.lt, fun id o b h1 h2 => h.dis id o b (by rw [he]; exact h1) h2⟩
  have h1 := h.obj id o (by rw [he]; exact hf)
  cases o with
  | box t cs => obtain ⟨g, us, h2, h3, h4⟩ := h1; exact ⟨g, us, h2, h3, repC_mono hst h4⟩
  | row e size xs => obtain ⟨us, h2, h3⟩ := h1; exact ⟨us, h2, repLL_mono hst.pure h3⟩
theorem Rel.ext (hl : ∀ l, same s t l) (h : Rel Γ s μ a w) : Rel Γ t μ a w := by
  have he : ∀ i, find s.σ i = find t.σ i := fun i => hl (.obj i)
  have hr : ∀ i, find s.regs i = find t.regs i := fun i => hl (.reg i)
  have hav : ∀ b, ¬ av s.σ μ Γ.M b → ¬ av t.σ μ Γ.M b := by
    intro b hb hc
    rcases hc with hc | ⟨id, o, h1, h2⟩
    · exact hb (.inl hc)
    · exact hb (.inr ⟨id, o, by rw [he]; exact h1, h2⟩)
  have hst : Step s.σ μ w (av s.σ μ Γ.M) t.σ μ w (av t.σ μ Γ.M) := ⟨fun b hb _ => ⟨rfl, hav b hb⟩, Nat.le_refl _, fun id t cs hf => ⟨cs, by rw [← he]; exact hf, rfl, rfl⟩, fun id e size xs hf => ⟨xs, by rw [← he]; exact hf, Nat.le_refl _, fun _ => rfl⟩⟩
  have hg := h.gro
  refine ⟨h.defers, h.tmps, fun i x hx => rep_mono hst (h.regs i x (by rw [hr]; exact hx)), h.store.ext he, ⟨hg.os, hg.tape, hg.output, hg.size, hg.same, fun id o b h1 h2 h3 => hg.fresh id o b (by rw [he]; exact h1) h2 h3, fun id t cs hf => ?_, fun id e size xs hf => ?_⟩⟩
  · obtain ⟨cs', h1, h2, h3⟩ := hg.box id t cs hf
    exact ⟨cs', by rw [← he]; exact h1, h2, h3⟩
  · obtain ⟨xs', h1, h2, h3⟩ := hg.row id e size xs hf
    exact ⟨xs', by rw [← he]; exact h1, h2, h3⟩
/-- One operation of a region, its guard looked at: whatever else the frame holds. -/
def LG (P : Program) (Γ : Ctx) (ops : Array Oper) (o : Oper) (s : ASt) (e : Eff) : Prop :=
  ∀ t, Agree s t e.R → ∀ (Q : Exit → Act → World → Prop) μ a w, Rel Γ t μ a w → ∀ K : Act → World → Prop, (∀ μ' a' w', Rel Γ (t.do_ e) μ' a' w' → K a' w') →
    if Region.wanted o (yielded ops a.tmps) then o.wp P a w K Q else K (a.put o.dst undef) w
inductive Chain (P : Program) (Γ : Ctx) (ops : Array Oper) : List Oper → ASt → List Eff → ASt → Prop
  | nil {s : ASt} : Chain P Γ ops [] s [] s
  | cons {o : Oper} {rest : List Oper} {s s' : ASt} {e : Eff} {es : List Eff} (h : LG P Γ ops o s e) (hk : Chain P Γ ops rest (s.do_ e) es s') : Chain P Γ ops (o :: rest) s (e :: es) s'
theorem Chain.at_ {ops : Array Oper} : ∀ {l : List Oper} {s s' : ASt} {es : List Eff}, Chain P Γ ops l s es s' → ∀ {i : Nat} {o : Oper}, l[i]? = some o → ∃ e, es[i]? = some e ∧ LG P Γ ops o ((es.take i).foldl ASt.do_ s) e
  | [], _, _, _, .nil, i, o, h => by simp at h
  | o' :: l, s, s', e :: es, .cons h hk, 0, o, hi => by
    simp only [List.getElem?_cons_zero, Option.some.injEq] at hi; subst hi
    exact ⟨e, rfl, h⟩
  | o' :: l, s, s', e :: es, .cons h hk, i + 1, o, hi => by
    obtain ⟨e', h1, h2⟩ := hk.at_ (i := i) (by simpa using hi)
    exact ⟨e', by simpa using h1, by simpa using h2⟩
theorem Chain.final {ops : Array Oper} : ∀ {l : List Oper} {s s' : ASt} {es : List Eff}, Chain P Γ ops l s es s' → s' = es.foldl ASt.do_ s ∧ es.length = l.length
  | [], _, _, _, .nil => ⟨rfl, rfl⟩
  | o' :: l, s, s', e :: es, .cons h hk => by
    obtain ⟨h1, h2⟩ := hk.final
    exact ⟨h1, by simp [h2]⟩
theorem countP_lt (p : Nat → Bool) (i : Nat) : ∀ l : List Nat, i ∈ l → p i = true → l.countP (fun j => p j && decide (j ≠ i)) < l.countP p := by
  intro l
  induction l with
  | nil => intro h; cases h
  | cons x l ih =>
    intro hx hp
    have hle : l.countP (fun j => p j && decide (j ≠ i)) ≤ l.countP p := List.countP_mono_left fun j _ hj => by
      simp only [Bool.and_eq_true] at hj; exact hj.1
    by_cases h10 : x = i
    · subst h10
      rw [List.countP_cons_of_neg (by simp), List.countP_cons_of_pos hp]
      omega
    · rcases List.mem_cons.1 hx with h11 | h11
      · exact absurd h11.symm h10
      · have := ih h11 hp
        cases hb : p x
        · rw [List.countP_cons_of_neg (by simp [hb]), List.countP_cons_of_neg (by simp [hb])]; exact this
        · rw [List.countP_cons_of_pos (by simp [hb, h10]), List.countP_cons_of_pos hb]; omega
theorem draw_ok {ops : List Oper} {es : List Eff} {s0 s' : ASt} (hc : Chain P Γ ops.toArray ops s0 es s') (hnd : nodef ops = true) (hok : okDraw ops es = true) (hQ : Q .normal s') :
    ∀ (fuel : Nat) (listed : Array Bool) (t : ASt) (μ : Nat → Value) (a : Act) (w : World), listed.size = ops.length → (List.range ops.length).countP (fun i => !listed.getD i true) ≤ fuel →
      (∀ i, i < ops.length → listed.getD i true = true → ∀ e ∈ (ops.map aft).getD i [], listed.getD e true = true) →
      (∀ l, same t (appl (fun i => listed.getD i true) 0 es s0) l) → Rel Γ t μ a w → wpAnyIn Γ.F 0 P .any ops.toArray (AK Γ Q) fuel listed a w := by
  obtain ⟨hfin, hlen⟩ := hc.final
  simp only [okDraw, Bool.and_eq_true, Nat.beq_eq] at hok
  obtain ⟨_, hok⟩ := hok
  have hback : ∀ i, ∀ e ∈ (ops.map aft).getD i [], e < i := by
    intro i e he
    rcases Nat.lt_or_ge i ops.length with h | h
    · have h1 := List.all_eq_true.1 hok i (by simpa using h)
      simp only [Bool.and_eq_true] at h1
      have := List.all_eq_true.1 h1.1 e he
      simpa [Nat.blt_eq] using this
    · rw [List.getD_eq_getElem?_getD, List.getElem?_eq_none (by simpa using h)] at he
      simp at he
  have hconf : ∀ k i ek ei, k < i → es[k]? = some ek → es[i]? = some ei → ((clos [] (ops.map aft)).getD i []).contains k = true ∨ (disj ek.W (ei.R ++ ei.W) = true ∧ disj ei.W (ek.R ++ ek.W) = true) := by
    intro k i ek ei hki hk hi
    have hil : i < ops.length := by rw [← hlen]; exact (List.getElem?_eq_some_iff.1 hi).1
    have h1 := List.all_eq_true.1 hok i (by simpa using hil)
    simp only [Bool.and_eq_true] at h1
    have h2 := List.all_eq_true.1 h1.2 k (by simpa using hki)
    simp only [Bool.or_eq_true, hk, hi, Bool.and_eq_true] at h2
    exact h2
  have hready : ∀ (listed : Array Bool) (i : Nat), i ∈ Region.ready .any ops.toArray listed ↔ i < ops.length ∧ listed.getD i true = false ∧ ∀ e ∈ (ops.map aft).getD i [], listed.getD e false = true := by
    intro listed i
    unfold Region.ready
    simp only [List.size_toArray, List.mem_filter, List.mem_range, Bool.and_eq_true, Bool.not_eq_true', List.getElem?_toArray]
    constructor
    · rintro ⟨h1, h2, h3⟩
      refine ⟨h1, h2, fun e he => ?_⟩
      rw [List.getElem?_eq_getElem h1] at h3
      simp only [Option.map_some, Option.getD_some, Array.all_eq_true_iff_forall_mem, Bool.or_eq_true, Bool.not_eq_true'] at h3
      simp only [List.getD_eq_getElem?_getD, List.getElem?_map, List.getElem?_eq_getElem h1, Option.map_some, Option.getD_some, aft, List.mem_map, List.mem_filter, Array.mem_toList_iff] at he
      obtain ⟨x, ⟨hx1, hx2⟩, rfl⟩ := he
      rcases h3 x hx1 with h4 | h4
      · rw [hx2] at h4; cases h4
      · exact h4
    · rintro ⟨h1, h2, h3⟩
      refine ⟨h1, h2, ?_⟩
      rw [List.getElem?_eq_getElem h1]
      simp only [Option.map_some, Option.getD_some, Array.all_eq_true_iff_forall_mem, Bool.or_eq_true, Bool.not_eq_true']
      intro x hx
      cases hb : Region.binds .any x
      · exact .inl rfl
      · refine .inr (h3 x.on ?_)
        simp only [List.getD_eq_getElem?_getD, List.getElem?_map, List.getElem?_eq_getElem h1, Option.map_some, Option.getD_some, aft, List.mem_map, List.mem_filter, Array.mem_toList_iff]
        exact ⟨x, ⟨hx, hb⟩, rfl⟩
  have hdone : ∀ (listed : Array Bool), listed.size = ops.length → Region.ready .any ops.toArray listed = [] → ∀ i, i < ops.length → listed.getD i true = true := by
    intro listed hsz hr i
    induction i using Nat.strongRecOn with
    | _ i ih =>
      intro hi
      cases hv : listed.getD i true
      · exfalso
        have : i ∈ Region.ready .any ops.toArray listed := (hready listed i).2 ⟨hi, hv, fun e he => by
          have h1 := hback i e he
          have h2 := ih e h1 (by omega)
          rw [Array.getD_eq_getD_getElem?, Array.getElem?_eq_getElem (by omega)] at h2 ⊢
          simpa using h2⟩
        rw [hr] at this; cases this
      · rfl
  have hend : ∀ (listed : Array Bool) (t : ASt) μ a w, listed.size = ops.length → Region.ready .any ops.toArray listed = [] → (∀ l, same t (appl (fun i => listed.getD i true) 0 es s0) l) → Rel Γ t μ a w → AK Γ Q .normal a w := by
    intro listed t μ a w hsz hr hs hrel
    refine ⟨s', μ, hrel.ext fun l => (hs l).trans ?_, hQ⟩
    have h1 : same (appl (fun i => listed.getD i true) 0 es s0) (appl (fun j => decide (j < 0 + es.length)) 0 es s0) l := appl_same (same.refl _ _) (fun j e hj _ => by
      have hjl := (List.getElem?_eq_some_iff.1 hj).1
      rw [hdone listed hsz hr (0 + j) (by omega)]
      simp; exact hjl)
    rw [appl_upto (Nat.le_refl _), List.take_length, ← hfin] at h1
    exact h1
  intro fuel
  induction fuel with
  | zero =>
    intro listed t μ a w hsz hcnt hcl hs hrel
    have hr : Region.ready .any ops.toArray listed = [] := by
      rw [List.eq_nil_iff_forall_not_mem]
      intro i hi
      obtain ⟨h1, h2, _⟩ := (hready listed i).1 hi
      have : 0 < (List.range ops.length).countP (fun i => !listed.getD i true) := List.countP_pos_iff.2 ⟨i, by simpa using h1, by simp [h2]⟩
      omega
    exact ⟨hr, hend listed t μ a w hsz hr hs hrel⟩
  | succ fuel ih =>
    intro listed t μ a w hsz hcnt hcl hs hrel
    refine ⟨fun hr => hend listed t μ a w hsz hr hs hrel, fun i hi => ?_⟩
    obtain ⟨h1, h2, h3⟩ := (hready listed i).1 hi
    have hget : ops[i]? = some ops[i] := List.getElem?_eq_getElem h1
    obtain ⟨e, h4, h5⟩ := hc.at_ hget
    have hclos : ∀ j, j < ops.length → (∀ e ∈ (ops.map aft).getD j [], listed.getD e true = true) → ∀ k ∈ (clos [] (ops.map aft)).getD j [], listed.getD k true = true := by
      intro j hj hpre
      refine clos_sound (ops.map aft) (fun i => listed.getD i true) (fun i hi e he => ?_) hback (ops.map aft) [] (by simp) (by simp) (fun i hi => absurd hi (by simp)) j (by rw [clos_len]; simpa using hj) hpre
      rcases Nat.lt_or_ge i ops.length with h | h
      · exact hcl i h hi e he
      · rw [List.getD_eq_getElem?_getD, List.getElem?_eq_none (by simpa using h)] at he
        simp at he
    have hpre : ∀ e ∈ (ops.map aft).getD i [], listed.getD e true = true := by
      intro e he
      have h6 := h3 e he
      have := hback i e he
      rw [Array.getD_eq_getD_getElem?, Array.getElem?_eq_getElem (by omega)] at h6 ⊢
      simpa using h6
    have hag : Agree ((es.take i).foldl ASt.do_ s0) t e.R := by
      refine agree_of fun l hl => (hs l).trans ?_
      rw [← appl_upto (es := es) (i := 0) (by omega)]
      refine appl_same (same.refl _ _) (fun j e' hj hw => ?_)
      simp only [Nat.zero_add]
      rcases Nat.lt_trichotomy j i with h6 | h6 | h6
      · rw [show decide (j < i) = true by simpa using h6]
        rcases hconf j i e' e h6 hj h4 with h7 | ⟨h7, _⟩
        · exact hclos i h1 hpre j (by simpa using h7)
        · exact (disj_not h7 hw (List.mem_append_left _ hl)).elim
      · subst h6; rw [h2]; simp
      · rw [show decide (j < i) = false by simp; omega]
        cases hv : listed.getD j true
        · rfl
        · exfalso
          have hjl : j < ops.length := by rw [← hlen]; exact (List.getElem?_eq_some_iff.1 hj).1
          rcases hconf i j e e' h6 h4 hj with h7 | ⟨_, h7⟩
          · have := hclos j hjl (hcl j hjl hv) i (by simpa using h7)
            rw [h2] at this; cases this
          · exact disj_not h7 hw (List.mem_append_left _ hl)
    have hset : ∀ j, (listed.setIfInBounds i true).getD j true = (if j = i then true else listed.getD j true) := by
      intro j
      rw [Array.getD_eq_getD_getElem?, Array.getD_eq_getD_getElem?]
      by_cases h6 : j = i
      · subst h6; rw [if_pos rfl]; simp [h1, hsz]
      · rw [if_neg h6, Array.getElem?_setIfInBounds_ne (Ne.symm h6)]
    have hnext : ∀ μ' a' w', Rel Γ (t.do_ e) μ' a' w' → wpAnyIn Γ.F 0 P .any ops.toArray (AK Γ Q) fuel (listed.setIfInBounds i true) a' w' := by
      intro μ' a' w' hrel'
      refine ih _ (t.do_ e) μ' a' w' (by simpa using hsz) ?_ ?_ ?_ hrel'
      · have h6 : (List.range ops.length).countP (fun j => !(listed.setIfInBounds i true).getD j true) < (List.range ops.length).countP (fun j => !listed.getD j true) := by
          have h7 : (List.range ops.length).countP (fun j => !(listed.setIfInBounds i true).getD j true) = (List.range ops.length).countP (fun j => !listed.getD j true && decide (j ≠ i)) := by
            refine List.countP_congr fun j _ => ?_
            rw [hset j]
            by_cases h8 : j = i <;> simp [h8]
          rw [h7]
          exact countP_lt (fun j => !listed.getD j true) i _ (by simpa using h1) (by simp [h2])
        omega
      · intro j hj hv e' he'
        rw [hset] at hv ⊢
        by_cases h6 : e' = i
        · rw [if_pos h6]
        · rw [if_neg h6]
          by_cases h7 : j = i
          · subst h7; exact hpre e' he'
          · rw [if_neg h7] at hv; exact hcl j hj hv e' he'
      · intro l
        by_cases hw : l ∈ e.W
        · refine same.symm (appl_last (k := i) hw h4 (by rw [Nat.zero_add, hset, if_pos rfl]) (fun j e' hj hje hv hw' => ?_))
          rw [Nat.zero_add, hset, if_neg (by omega)] at hv
          have hjl : j < ops.length := by rw [← hlen]; exact (List.getElem?_eq_some_iff.1 hje).1
          rcases hconf i j e e' hj h4 hje with h7 | ⟨h7, _⟩
          · have := hclos j hjl (hcl j hjl hv) i (by simpa using h7)
            rw [h2] at this; cases this
          · exact disj_not h7 hw (List.mem_append_right _ hw')
        · refine (do_out hw).trans ((hs l).trans (appl_same (same.refl _ _) (fun j e' hj hw' => ?_)))
          rw [hset]
          by_cases h6 : 0 + j = i
          · rw [show j = i by omega, h4] at hj
            injection hj with hj; subst hj
            exact absurd hw' hw
          · rw [if_neg h6]
    unfold wpOpIn
    simp only [List.getElem?_toArray, hget]
    have := h5 t hag (AK Γ Q) μ a w hrel (wpAnyIn Γ.F 0 P .any ops.toArray (AK Γ Q) fuel (listed.setIfInBounds i true)) hnext
    split
    · rename_i hw; rw [if_pos hw] at this; exact up_in (nodef_at hnd hget) this
    · rename_i hw; rw [if_neg hw] at this; exact ⟨fun _ _ => trivial, this⟩
/-- A region that draws, on its way: what its operations have laid down so far. -/
structure DR (P : Program) (Γ : Ctx) (ops : List Oper) (rest : List Oper) (acc : List Eff) (Q : Exit → ASt → Prop) (s : ASt) : Prop where
  out : ∃ es s', Chain P Γ ops.toArray rest s es s' ∧ okDraw ops (acc ++ es) = true ∧ Q .normal s'
variable {ops : List Oper} {rest : List Oper} {acc : List Eff}
theorem a_draw {id : Nat} (hm : P.follows .mixedOrders = true) (h : DR P Γ ops ops [] Q s) (hnd : nodef ops = true := by rfl) : AWP P Γ (.region id ops.toArray true) Q s := by
  obtain ⟨es, s', hc, hok, hQ⟩ := h.out
  refine ⟨fun μ a w hr => wpIn_region_any hm ?_⟩
  have hr' : Rel Γ s μ a w.drew := hr.world ((Below.refl _ w).drew)
  refine draw_ok hc hnd (by simpa using hok) hQ _ _ s μ a w.drew (by simp) (Nat.le_trans List.countP_le_length (by simp)) (fun i hi hl => ?_) (fun l => ?_) hr'
  · exfalso
    simp [hi] at hl
  · have h1 : same (appl (fun i => (Array.replicate ops.toArray.size false).getD i true) 0 es s) (appl (fun j => decide (j < 0 + 0)) 0 es s) l := appl_same (same.refl _ _) (fun j e hj _ => by
      have hjl : j < ops.length := by rw [← hc.final.2]; exact (List.getElem?_eq_some_iff.1 hj).1
      simp [hjl])
    rw [appl_upto (Nat.zero_le _)] at h1
    exact h1.symm
theorem d_nil (hok : okDraw ops acc = true) (h : Q .normal s) : DR P Γ ops [] acc Q s := ⟨⟨[], s, .nil, by simpa using hok, h⟩⟩
theorem d_step {o : Oper} {e : Eff} (h : LG P Γ ops.toArray o s e) (hk : DR P Γ ops rest (acc ++ [e]) Q (s.do_ e)) : DR P Γ ops (o :: rest) acc Q s := by
  obtain ⟨es, s', h1, h2, h3⟩ := hk.out
  exact ⟨⟨e :: es, s', .cons h h1, by rw [List.append_assoc] at h2; exact h2, h3⟩⟩
theorem d_do {dst : Option Tmp} {op : Op} {ty : TypeId} {pos : String} {after : Array Edge} {R : List Loc} {er : List (Nat × AV)} {eσ : List (Nat × SObj)} (h : LS P Γ ⟨dst, op, ty, pos, after, none⟩ s R er eσ)
    (hk : DR P Γ ops rest (acc ++ [⟨R, er, eσ⟩]) Q (s.eff er eσ)) : DR P Γ ops (⟨dst, op, ty, pos, after, none⟩ :: rest) acc Q s := by
  refine d_step (e := ⟨R, er, eσ⟩) (fun t ht Q' μ a w hr K hK => ?_) hk
  rw [if_pos (by simp [Region.wanted])]
  exact (h.out t ht Q' μ a w hr K hK)
/-- a guard that says yes -/
theorem d_yes {dst : Option Tmp} {op : Op} {ty : TypeId} {pos : String} {after : Array Edge} {R : List Loc} {er : List (Nat × AV)} {eσ : List (Nat × SObj)} {j : Nat} {want b : Bool} {t : Tmp} (hj : (ops.toArray[j]?).bind (·.dst) = some t)
    (hb : find s.regs t = some (.v (.bool b))) (he : b = want) (h : LS P Γ ⟨dst, op, ty, pos, after, none⟩ s R er eσ)
    (hk : DR P Γ ops rest (acc ++ [⟨.reg t :: R, er, eσ⟩]) Q (s.eff er eσ)) : DR P Γ ops (⟨dst, op, ty, pos, after, some (j, want)⟩ :: rest) acc Q s := by
  refine d_step (e := ⟨.reg t :: R, er, eσ⟩) (fun u hu Q' μ a w hr K hK => ?_) hk
  have hb' : find u.regs t = some (.v (.bool b)) := hu.1.trans hb
  have h2 : Region.wanted ⟨dst, op, ty, pos, after, some (j, want)⟩ (yielded ops.toArray a.tmps) = true := by
    simp only [Region.wanted, yielded_reg hr hj hb' (by simp [undef]), he]
    simp
  rw [if_pos h2]
  exact (h.out u hu.2 Q' μ a w hr K hK)
theorem d_no {dst : Option Tmp} {op : Op} {ty : TypeId} {pos : String} {after : Array Edge} {j : Nat} {want b : Bool} {t : Tmp} (hd : okDst Γ.n dst = true) (hj : (ops.toArray[j]?).bind (·.dst) = some t)
    (hb : find s.regs t = some (.v (.bool b))) (he : b ≠ want)
    (hk : DR P Γ ops rest (acc ++ [⟨[.reg t], dst1 dst (.v undef), []⟩]) Q (s.eff (dst1 dst (.v undef)) [])) : DR P Γ ops (⟨dst, op, ty, pos, after, some (j, want)⟩ :: rest) acc Q s := by
  refine d_step (e := ⟨[.reg t], dst1 dst (.v undef), []⟩) (fun u hu Q' μ a w hr K hK => ?_) hk
  have hb' : find u.regs t = some (.v (.bool b)) := hu.1.trans hb
  have h2 : Region.wanted ⟨dst, op, ty, pos, after, some (j, want)⟩ (yielded ops.toArray a.tmps) = false := by
    simp only [Region.wanted, yielded_reg hr hj hb' (by simp [undef])]
    simpa using he
  rw [if_neg (by rw [h2]; simp)]
  exact hK μ _ _ (hr.put hd (by simp only [rep]; exact ⟨trivial, rfl⟩))
theorem d_no' {dst : Option Tmp} {op : Op} {ty : TypeId} {pos : String} {after : Array Edge} {j : Nat} {want : Bool} {t : Tmp} (hd : okDst Γ.n dst = true) (hj : (ops.toArray[j]?).bind (·.dst) = some t)
    (hb : find s.regs t = some (.v undef))
    (hk : DR P Γ ops rest (acc ++ [⟨[.reg t], dst1 dst (.v undef), []⟩]) Q (s.eff (dst1 dst (.v undef)) [])) : DR P Γ ops (⟨dst, op, ty, pos, after, some (j, want)⟩ :: rest) acc Q s := by
  refine d_step (e := ⟨[.reg t], dst1 dst (.v undef), []⟩) (fun u hu Q' μ a w hr K hK => ?_) hk
  have hb' : find u.regs t = some (.v undef) := hu.1.trans hb
  have h1 := hr.regs t _ hb'
  simp only [rep] at h1
  have h3 : yielded ops.toArray a.tmps j = none := by
    unfold yielded
    rw [hj]
    simp only [Option.bind_some]
    cases h : a.tmps[t]? with
    | none => rfl
    | some x =>
      have := h1.1
      rw [Array.getD_eq_getD_getElem?, h] at this
      simp only [Option.getD_some] at this
      subst this
      rfl
  have h2 : Region.wanted ⟨dst, op, ty, pos, after, some (j, want)⟩ (yielded ops.toArray a.tmps) = false := by
    simp only [Region.wanted, h3]
    rfl
  rw [if_neg (by rw [h2]; simp)]
  exact hK μ _ _ (hr.put hd (by simp only [rep]; exact ⟨trivial, rfl⟩))
theorem d_split {dst : Option Tmp} {op : Op} {ty : TypeId} {pos : String} {after : Array Edge} {j : Nat} {want b : Bool} {t : Tmp}
    (hb : find s.regs t = some (.v (.bool b))) (hj : (ops.toArray[j]?).bind (·.dst) = some t) (h1 : b = true → DR P Γ ops (⟨dst, op, ty, pos, after, some (j, want)⟩ :: rest) acc Q s) (h2 : b = false → DR P Γ ops (⟨dst, op, ty, pos, after, some (j, want)⟩ :: rest) acc Q s) : DR P Γ ops (⟨dst, op, ty, pos, after, some (j, want)⟩ :: rest) acc Q s := by
  cases hv : b
  · exact h2 hv
  · exact h1 hv
end
end Go.Proofs.Ytimlkhbedhjehaa
