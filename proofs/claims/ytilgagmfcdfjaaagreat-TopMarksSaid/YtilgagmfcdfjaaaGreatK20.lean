/-
  A worker that is told events and marks by inputs: what it holds and tells. Plain.
  A worker that is told an event, or a mark, by an input. Plain.
  Sources that go on one by one, and what a worker of them has taken. Plain.
  A turn of a source, told to a worker item by item. Plain.
  A turn of a source, with what the program's source.Next tells.
  Workers, walked over abstract values: a barrier that is whole, what is told being one's own.
  Workers, walked over abstract values: an item, and all that waited for it.
-/
import Derived.Test.YtilgagmfcdfjaaaGreatK4
import Derived.Test.YtilgagmfcdfjaaaGreatK14
import Derived.Test.YtilgagmfcdfjaaaGreatK15
import Derived.Test.YtilgagmfcdfjaaaGreatK18
import Derived.Test.YtilgagmfcdfjaaaGreatK19
namespace Go.Proofs.YtilgagmfcdfjaaaGreat
open Go.RowKit
set_option linter.unusedSimpArgs false
set_option linter.unusedVariables false
def inG (j : Jb) (no : Int) (v : Vl) : Bool := decide (grpV v.key.data.toList j.g = no)
/-- the panes of all values of a group -/
def allG (j : Jb) (V : List Vl) (no : Int) : List Pn := rowV j.k (V.filter (inG j no))
def gpOf (j : Jb) (V : List Vl) (told no : Int) : Gp := ⟨no, told, dueB (allG j V no) told⟩
/-- what stands fast -/
structure JG (j : Jb) (nos : List Int) : Prop where
  ok : jobOK j.g j.s j.d j.k j.fu j.li j.de j.id = true
  lt : nos.Pairwise (· < ·)
  rng : ∀ no ∈ nos, 0 ≤ no ∧ no < 32
structure MG (mk : List Int) : Prop where
  n1 : 1 ≤ mk.length
  n8 : mk.length ≤ 8
  rng : ∀ t ∈ mk, 0 ≤ t ∧ t ≤ 1099511627776
structure VG (k : Int) (V : List Vl) : Prop where
  ok : ∀ x ∈ V, okV k x = true
  len : V.length ≤ 900000
  few : (rowV k V).length ≤ 2000
structure WI (j : Jb) (nos : List Int) (V : List Vl) (mk : List Int) (w : Wk) : Prop where
  gs : w.gs = nos.map (gpOf j V w.told)
  mks : w.mks = ⟨mk.map fun t => (t, false), [], w.told⟩
  al : w.al = ⟨0, List.replicate mk.length false, List.replicate mk.length []⟩
  told : w.told = firstT mk
section
variable {j : Jb} {nos : List Int} {V : List Vl} {mk : List Int} {w : Wk} {no : Int}
theorem JG.job (h : JG j nos) : jobR j.s j.d j.k = true ∧ fRight j.k = true ∧ winB j.s j.d = true := by
  have := h.ok
  simp only [jobOK, Bool.and_eq_true] at this
  exact ⟨by unfold jobR; simp [this.2.2.1, this.2.2.2.1], this.2.2.2.1, this.2.2.1⟩
theorem VG.sub {k : Int} (h : VG k V) (p : Vl → Bool) : VG k (V.filter p) :=
  ⟨fun x hx => h.ok x (List.mem_filter.1 hx).1, Nat.le_trans (List.length_filter_le _ _) h.len, Nat.le_trans (row_sub p (by have := h.len; omega) h.ok) h.few⟩
theorem VG.right {k : Int} (h : VG k V) : rightL (rowV k V) = true := rowM_right h.ok (by have := h.len; omega) h.few
theorem allG_right (h : VG j.k V) (no : Int) : rightL (allG j V no) = true := (h.sub _).right
theorem firstT_range : ∀ (l : List Int), 0 ≤ firstT l ∧ firstT l ≤ 1099511627776 := by
  intro l
  refine rev_ind (p := fun l => 0 ≤ firstT l ∧ firstT l ≤ 1099511627776) (by decide) (fun l t ih => ?_) l
  rw [firstT_snoc]
  have := clampT_in t
  omega
theorem firstT_le : ∀ {l : List Int} {t : Int}, t ∈ l → firstT l ≤ clampT t := by
  intro l
  refine rev_ind (p := fun l => ∀ {t : Int}, t ∈ l → firstT l ≤ clampT t) (by intro t h; cases h) (fun l x ih => ?_) l
  intro t h
  rw [firstT_snoc]
  rcases List.mem_append.1 h with h | h
  · have := ih h; omega
  · rw [List.mem_singleton.1 h]; omega
theorem le_firstT {a : Int} (ha : a ≤ 1099511627776) : ∀ {l : List Int}, (∀ t ∈ l, a ≤ clampT t) → a ≤ firstT l := by
  intro l
  refine rev_ind (p := fun l => (∀ t ∈ l, a ≤ clampT t) → a ≤ firstT l) (fun _ => ha) (fun l x ih => ?_) l
  intro h
  rw [firstT_snoc]
  have h1 := ih fun t ht => h t (by simp [ht])
  have h2 := h x (by simp)
  omega
theorem dueB_hi {l : List Pn} {m : Int} : ∀ p ∈ dueB l m, m < p.hi := by
  intro p hp
  have := (List.mem_filter.1 hp).2
  simp at this
  exact this
theorem gp_right (hJ : JG j nos) (hV : VG j.k V) {told : Int} (ht : 0 ≤ told ∧ told ≤ 1099511627776) (hn : no ∈ nos) : grR no told (dueB (allG j V no) told) = true :=
  grR_iff.2 ⟨(hJ.rng no hn).1, (hJ.rng no hn).2, ht.1, ht.2, rightL_sub (dueB_sub _ _) (allG_right hV no), dueB_hi⟩
theorem WI.right (hJ : JG j nos) (hM : MG mk) (hV : VG j.k V) (h : WI j nos V mk w) : wkR w = true := by
  have ht := firstT_range mk
  rw [← h.told] at ht
  have h1 : gsR w.gs = true := by
    unfold gsR
    rw [List.all_eq_true]
    intro i hi
    have hi := List.mem_range.1 hi
    rw [h.gs, List.length_map] at hi
    unfold gpG
    have e : ∀ q, q < nos.length → w.gs.getD q ⟨0, 0, []⟩ = gpOf j V w.told (nos.getD q 0) := by
      intro q hq
      rw [h.gs]
      simp [List.getD, hq]
    rw [e i hi]
    have hm : nos.getD i 0 ∈ nos := by simp [List.getD, hi]
    have hg := gp_right hJ hV ht hm
    unfold gpOf
    dsimp only
    rw [hg, Bool.true_and]
    rcases Nat.eq_zero_or_pos i with h0 | h0
    · simp [h0]
    · rw [e (i - 1) (by omega)]
      have : nos.getD (i - 1) 0 < nos.getD i 0 := by
        have e1 : nos.getD (i - 1) 0 = nos[i - 1] := by simp [List.getD, show i - 1 < nos.length by omega]
        have e2 : nos.getD i 0 = nos[i] := by simp [List.getD, hi]
        rw [e1, e2]
        exact List.pairwise_iff_getElem.1 hJ.lt (i - 1) i (by omega) hi (by omega)
      unfold gpOf
      dsimp only
      rw [decide_eq_true this]; simp
  have h2 : mkR w.mks = true := by
    rw [h.mks]
    unfold mkR
    simp only [List.length_map, List.length_nil, List.range_zero, List.all_nil, Bool.true_and, Bool.and_eq_true, decide_eq_true_eq, List.all_map, List.all_eq_true, tmR, Function.comp]
    exact ⟨hM.n1, hM.n8, by omega, ⟨ht.1, ht.2⟩, fun t htm => hM.rng t htm⟩
  have h3 : alR w.al = true := by
    rw [h.al]
    unfold alR
    have hm8 := hM.n8
    have := hM.n1
    simp only [List.length_replicate, Bool.and_eq_true, decide_eq_true_eq]
    refine ⟨hM.n1, hM.n8, trivial, by omega, by omega, by simp, ?_, ?_⟩
    · simp [List.any_replicate]
      intro e
      rw [e] at this
      simp_all
    · rw [List.all_eq_true]
      intro q hq
      have hq := List.mem_range.1 hq
      unfold heG
      simp [List.getD, hq]
  have e1 : w.mks.hs.length = 0 := by rw [h.mks]; rfl
  have e2 : w.al.got.length = w.mks.ins.length := by rw [h.mks, h.al]; simp
  unfold wkR
  rw [h1, h2, h3, decide_eq_true e1, decide_eq_true e2, decide_eq_true ht.1, decide_eq_true ht.2]
  rfl
/-- an item that goes through at once -/
theorem al_pass (hM : MG mk) (h : WI j nos V mk w) (hR : wkR w = true) {q : Nat} (hq : q < mk.length) {x : It} (hx : itR x = true) (h4 : x.kind ≠ 4) : alOffer w.al (q : Int) x = ⟨w.al, true, 0, [], 0⟩ := by
  have hal : alR w.al = true := by
    unfold wkR at hR
    simp only [Bool.and_eq_true] at hR
    exact hR.2.2.2.1
  have hhas : alHas w.al (q : Int) = true := by
    unfold alHas
    rw [hal, h.al]
    simp only [List.length_replicate, Bool.true_and, Bool.and_eq_true, decide_eq_true_eq]
    omega
  have hg : w.al.got.getD (q : Int).toNat false = false := by
    rw [h.al]
    simp [List.getD, hq]
  unfold alOffer
  rw [hhas, hx, hg, if_neg (by simp), if_neg (by simp), if_pos h4]
theorem set_id {l : List Int} {q : Nat} (hq : q < l.length) {t : Int} (ht : t = l[q]) : l.set q t = l := by
  rw [ht, List.set_getElem_self]
theorem mk_set (hM : MG mk) (h : WI j nos V mk w) (hR : wkR w = true) {q : Nat} (hq : q < mk.length) (t : Int) : mkSet w.mks (q : Int) t = ⟨⟨(mk.set q (max mk[q] (clampT t))).map fun t => (t, false), [], w.told⟩, 0⟩ := by
  have hm : mkR w.mks = true := by
    unfold wkR at hR
    simp only [Bool.and_eq_true] at hR
    exact hR.2.1
  have hin : mkIn w.mks (q : Int) = true := by
    unfold mkIn
    rw [hm, h.mks]
    simp only [List.length_map, Bool.true_and, Bool.and_eq_true, decide_eq_true_eq]
    omega
  unfold mkSet
  rw [hin, if_neg (by simp), h.mks]
  unfold mkPut
  simp [List.getD, hq, List.map_set]
theorem mk_tell {mk' : List Int} {told : Int} (hM : MG mk') (ht : 0 ≤ told ∧ told ≤ 1099511627776) : mkTell ⟨mk'.map fun t => (t, false), [], told⟩ = if firstT mk' ≤ told then ⟨⟨mk'.map fun t => (t, false), [], told⟩, told, false⟩ else ⟨⟨mk'.map fun t => (t, false), [], firstT mk'⟩, firstT mk', true⟩ := by
  have hm : mkR ⟨mk'.map fun t => (t, false), [], told⟩ = true := by
    unfold mkR
    simp only [List.length_map, List.length_nil, List.range_zero, List.all_nil, Bool.true_and, Bool.and_eq_true, decide_eq_true_eq, List.all_map, List.all_eq_true, tmR, Function.comp]
    exact ⟨hM.n1, hM.n8, by omega, ⟨ht.1, ht.2⟩, fun t htm => hM.rng t htm⟩
  have hb : backI (mk'.map fun t => (t, false)) = mk' := by
    unfold backI
    rw [List.filter_eq_self.2 (by intro a ha; obtain ⟨t, _, rfl⟩ := List.mem_map.1 ha; rfl), List.map_map]
    exact List.map_id' mk'
  have hne : mk' ≠ [] := by
    intro e
    have := hM.n1
    rw [e] at this; simp at this
  unfold mkTell
  rw [hm, if_neg (by simp), hb]
  show (if mk' ++ backH [] = [] ∨ firstT (mk' ++ backH []) ≤ told then _ else _) = _
  have e0 : backH ([] : List (Int × Int)) = [] := rfl
  rw [e0, List.append_nil]
  by_cases hf : firstT mk' ≤ told
  · rw [if_pos (.inr hf), if_pos hf]
  · rw [if_neg (by intro h; rcases h with h | h; exact hne h; exact hf h), if_neg hf]
theorem MG.set (hM : MG mk) {q : Nat} (hq : q < mk.length) (t : Int) : MG (mk.set q (max mk[q] (clampT t))) := by
  refine ⟨by rw [List.length_set]; exact hM.n1, by rw [List.length_set]; exact hM.n8, fun x hx => ?_⟩
  rcases List.mem_or_eq_of_mem_set hx with h | h
  · exact hM.rng x h
  · have := hM.rng _ (List.getElem_mem hq)
    have h2 := clampT_in t
    rw [h]
    unfold clampT at *
    omega
theorem set_mono (hM : MG mk) {q : Nat} (hq : q < mk.length) (t : Int) : firstT mk ≤ firstT (mk.set q (max mk[q] (clampT t))) := by
  refine le_firstT (firstT_range mk).2 fun x hx => ?_
  have hx2 := (hM.set hq t).rng x hx
  have hc : clampT x = x := by unfold clampT; omega
  rw [hc]
  rcases List.mem_or_eq_of_mem_set hx with h | h
  · have := firstT_le h; rw [hc] at this; exact this
  · have h1 := firstT_le (List.getElem_mem hq)
    have h3 := hM.rng _ (List.getElem_mem hq)
    have hc2 : clampT mk[q] = mk[q] := by unfold clampT; omega
    rw [hc2] at h1
    omega
end
end Go.Proofs.YtilgagmfcdfjaaaGreat
namespace Go.Proofs.YtilgagmfcdfjaaaGreat
open Go.RowKit
set_option linter.unusedSimpArgs false
set_option linter.unusedVariables false
section
variable {j : Jb} {nos : List Int} {V : List Vl} {mk : List Int} {w : Wk} {no : Int} {e : Et} {s d k : Int}
theorem VG.pre {W : List Vl} (h : VG k (V ++ W)) : VG k V :=
  ⟨fun x hx => h.ok x (by simp [hx]), by have := h.len; rw [List.length_append] at this; omega, Nat.le_trans rowM_mono h.few⟩
theorem vals_key : ∀ v ∈ valsV s d e, v.key = e.key := by
  intro v hv
  obtain ⟨w, _, rfl⟩ := List.mem_map.1 hv
  rfl
theorem vals_hi (h : okT s d e.at' = true) : ∀ v ∈ valsV s d e, e.at' < v.hi := by
  intro v hv
  obtain ⟨w, hw, rfl⟩ := List.mem_map.1 hv
  exact ((win_holds h h hw).1 hw).2
theorem open_all (h : okT s d e.at' = true) {told : Int} (ht : told ≤ e.at') : openL s d e.at' told = winL s d e.at' := by
  unfold openL openW
  refine List.filter_eq_self.2 fun w hw => ?_
  have := ((win_holds h h hw).1 hw).2
  simp [closedW]
  omega
theorem inG_vals (hno : grpV e.key.data.toList j.g = no) : ∀ v ∈ valsV s d e, inG j no v = true := by
  intro v hv
  unfold inG
  rw [vals_key v hv, hno]; simp
theorem inG_other {no' : Int} (hno : grpV e.key.data.toList j.g = no) (hne : no' ≠ no) : ∀ v ∈ valsV s d e, inG j no' v = false := by
  intro v hv
  unfold inG
  rw [vals_key v hv, hno]
  simp [Ne.symm hne]
theorem filter_none' {α : Type} {p : α → Bool} {l : List α} (h : ∀ x ∈ l, p x = false) : l.filter p = [] := by
  rw [List.filter_eq_nil_iff]
  intro x hx; rw [h x hx]; simp
theorem filter_all' {α : Type} {p : α → Bool} {l : List α} (h : ∀ x ∈ l, p x = true) : l.filter p = l := List.filter_eq_self.2 h
/-- an event put into its group -/
theorem take_gp (hJ : JG j nos) (hV : VG j.k (V ++ valsV j.s j.d e)) (he : evR e.key e.at' = true) (hno : grpV e.key.data.toList j.g = no) (hn : no ∈ nos) {told : Int} (ht : 0 ≤ told ∧ told ≤ 1099511627776) (hat : told ≤ e.at') :
    (gpTake j (evItem e) (gpOf j V told no)).gp = gpOf j (V ++ valsV j.s j.d e) told no ∧ (gpTake j (evItem e) (gpOf j V told no)).e = 0 := by
  obtain ⟨hj, hk, hw⟩ := hJ.job
  have hT := okT_of hw he
  have hV0 := hV.pre
  have hg := gp_right hJ hV0 ht hn
  have hX : dueB (allG j V no) told = rowV j.k ((V.filter (inG j no)).filter fun v => !decide (v.hi ≤ told)) := dueB_row _ _
  have hY : dueB (allG j (V ++ valsV j.s j.d e) no) told = rowV j.k ((V.filter (inG j no)).filter (fun v => !decide (v.hi ≤ told)) ++ valsV j.s j.d e) := by
    unfold allG
    rw [dueB_row, List.filter_append, List.filter_append, filter_all' (inG_vals (j := j) hno), filter_all' (l := valsV j.s j.d e)]
    intro v hv
    have := vals_hi hT v hv
    simp; omega
  have hsub : VG j.k ((V.filter (inG j no)).filter (fun v => !decide (v.hi ≤ told)) ++ valsV j.s j.d e) := by
    have h1 := (hV.sub (inG j no)).sub (fun v => !decide (v.hi ≤ told))
    rw [List.filter_append, List.filter_append, filter_all' (inG_vals (j := j) hno), filter_all' (l := valsV j.s j.d e)] at h1
    · exact h1
    · intro v hv
      have := vals_hi hT v hv
      simp; omega
  have hT2 := take_row (s := j.s) (d := j.d) (e := e) (vs := (V.filter (inG j no)).filter fun v => !decide (v.hi ≤ told)) hk hw he hsub.pre.ok hsub.pre.len hsub.pre.few
  rw [if_pos hsub.few] at hT2
  have hres : gpTake j (evItem e) (gpOf j V told no) = ⟨no, told, dueB (allG j (V ++ valsV j.s j.d e) no) told, (winL j.s j.d e.at').length, 0⟩ := by
    unfold gpTake evItem gpOf takeR
    dsimp only
    rw [hj, if_neg (by simp), hg, he, if_neg (by simp), open_all hT hat, hX, hT2, if_pos rfl, hY]
  rw [hres]
  exact ⟨rfl, rfl⟩
theorem groups_put (hJ : JG j nos) (hV : VG j.k (V ++ valsV j.s j.d e)) (he : evR e.key e.at' = true) (hno : grpV e.key.data.toList j.g = no) (hn : no ∈ nos) {told : Int} (ht : 0 ≤ told ∧ told ≤ 1099511627776) (hat : told ≤ e.at') (hR : gsR (nos.map (gpOf j V told)) = true) :
    putM j no (evItem e) (nos.map (gpOf j V told)) = nos.map (gpOf j (V ++ valsV j.s j.d e) told) ∧ putB j no (evItem e) (nos.map (gpOf j V told)) = 0 := by
  obtain ⟨t1, t2⟩ := take_gp hJ hV he hno hn ht hat
  constructor
  · unfold putM
    rw [List.map_map]
    refine List.map_congr_left fun n' hn' => ?_
    show (if (gpOf j V told n').no = no then (gpTake j (evItem e) (gpOf j V told n')).gp else gpOf j V told n') = _
    by_cases h : n' = no
    · subst h
      rw [show (gpOf j V told n').no = n' from rfl, if_pos rfl, t1]
    · rw [show (gpOf j V told n').no = n' from rfl, if_neg h]
      unfold gpOf allG
      rw [List.filter_append, filter_none' (inG_other (j := j) hno h), List.append_nil]
  · obtain ⟨p, hp, hpe⟩ := List.getElem_of_mem hn
    have hq : p < (nos.map (gpOf j V told)).length := by rw [List.length_map]; exact hp
    have h1 := (put_at (j := j) (no := no) (x := evItem e) hR hq (by rw [List.getElem_map]; exact hpe)).2
    rw [h1, List.getElem_map, hpe, t2]
theorem itR_ev (he : evR e.key e.at' = true) : itR (evItem e) = true := by
  unfold itR evItem
  simp [he, noR]
theorem ev_step (hJ : JG j nos) (hM : MG mk) (hV : VG j.k (V ++ valsV j.s j.d e)) (h : WI j nos V mk w) (he : evR e.key e.at' = true) (hn : grpV e.key.data.toList j.g ∈ nos) {q : Nat} (hq : q < mk.length) (hat : w.told ≤ e.at') (n : Nat) :
    ∃ w', wkRun j (n + 1) w (q : Int) (evItem e) = ⟨w', [], 0⟩ ∧ WI j nos (V ++ valsV j.s j.d e) mk w' ∧ w'.told = w.told := by
  have hR := h.right hJ hM hV.pre
  have ht := firstT_range mk
  rw [← h.told] at ht
  have hgs : gsR (nos.map (gpOf j V w.told)) = true := by
    have := hR
    unfold wkR at this
    simp only [Bool.and_eq_true] at this
    rw [← h.gs]; exact this.1
  obtain ⟨p1, p2⟩ := groups_put hJ hV he rfl hn ht hat hgs
  have hal := al_pass hM h hR hq (itR_ev he) (show (1 : Int) ≠ 4 by decide)
  have hms := mk_set hM h hR hq 0
  have hm0 : max mk[q] (clampT 0) = mk[q] := by
    have := hM.rng _ (List.getElem_mem hq)
    unfold clampT; omega
  rw [hm0, List.set_getElem_self] at hms
  have htl := mk_tell (told := w.told) hM ht
  rw [if_pos (by rw [h.told]; exact Int.le_refl _)] at htl
  refine ⟨⟨nos.map (gpOf j (V ++ valsV j.s j.d e) w.told), ⟨mk.map fun t => (t, false), [], w.told⟩, w.al, w.told⟩, ?_, ⟨rfl, rfl, h.al, h.told⟩, rfl⟩
  have hk1 : (evItem e).kind = 1 := rfl
  have hTk : tkJ j w (q : Int) (evItem e) = ⟨⟨nos.map (gpOf j (V ++ valsV j.s j.d e) w.told), ⟨mk.map fun t => (t, false), [], w.told⟩, w.al, w.told⟩, [], [], 0⟩ := by
    unfold tkJ wkTake
    rw [hJ.ok, if_neg (by simp), hR, itR_ev he, if_neg (by rw [hk1]; simp), hal]
    dsimp only
    rw [if_neg (by simp), if_neg (by simp), if_neg (by simp), if_pos hk1]
    rw [show (evItem e).key = e.key from rfl, h.gs, p1, p2, if_neg (by simp), hms]
    unfold wkGo
    dsimp only
    rw [htl]
    rfl
  rw [wkRun, hTk]
  rfl
/-- what groups tell at a time -/
def toldG (j : Jb) (nos : List Int) (V : List Vl) (told t : Int) : List It := nos.flatMap fun no => (resultsL j.k (dueA (dueB (allG j V no) told) t)).map resItem
theorem mk_step (hJ : JG j nos) (hM : MG mk) (hV : VG j.k V) (h : WI j nos V mk w) {q : Nat} (hq : q < mk.length) {t : Int} (ht : 0 ≤ t ∧ t ≤ 1099511627776) (n : Nat) :
    ∃ w', wkRun j (n + 1) w (q : Int) (markItem t) = ⟨w', if w.told < w'.told then toldG j nos V w.told w'.told ++ [markItem w'.told] else [], 0⟩ ∧ WI j nos V (mk.set q (max mk[q] t)) w' ∧ w.told ≤ w'.told := by
  have hR := h.right hJ hM hV
  have hr := firstT_range mk
  rw [← h.told] at hr
  have hct : clampT t = t := by unfold clampT; omega
  have hms := mk_set hM h hR hq t
  have hM' := hM.set hq t
  have hmo := set_mono hM hq t
  rw [hct] at hms hM' hmo
  have hit : itR (markItem t) = true := by
    unfold itR markItem
    simp [noR, noE, ht.1, ht.2]
  have hal := al_pass hM h hR hq hit (show (2 : Int) ≠ 4 by decide)
  have htl := mk_tell (told := w.told) hM' hr
  rw [← h.told] at hmo
  have hk2 : (markItem t).kind = 2 := rfl
  have hlen : (mk.set q (max mk[q] t)).length = mk.length := List.length_set
  generalize hmk : mk.set q (max mk[q] t) = mk' at *
  by_cases hf : firstT mk' ≤ w.told
  · rw [if_pos hf] at htl
    have he : w.told = firstT mk' := by omega
    refine ⟨⟨w.gs, ⟨mk'.map fun t => (t, false), [], w.told⟩, w.al, w.told⟩, ?_, ⟨h.gs, rfl, by rw [hlen]; exact h.al, he⟩, Int.le_refl _⟩
    dsimp only
    rw [if_neg (Int.lt_irrefl _)]
    have hTk : tkJ j w (q : Int) (markItem t) = ⟨⟨w.gs, ⟨mk'.map fun t => (t, false), [], w.told⟩, w.al, w.told⟩, [], [], 0⟩ := by
      unfold tkJ wkTake
      rw [hJ.ok, if_neg (by simp), hR, hit, if_neg (by rw [hk2]; simp), hal]
      dsimp only
      rw [if_neg (by simp), if_neg (by simp), if_neg (by simp), if_neg (by rw [hk2]; decide), if_pos hk2]
      rw [show (markItem t).mark = t from rfl, hms]
      unfold wkGo
      dsimp only
      rw [htl]
      rfl
    rw [wkRun, hTk]
    rfl
  · rw [if_neg hf] at htl
    obtain ⟨hj, hk, _⟩ := hJ.job
    have hfr := firstT_range mk'
    generalize hT : firstT mk' = T at *
    have hadv : ∀ no ∈ nos, gpAdv j T (gpOf j V w.told no) = ⟨no, T, dueB (allG j V no) T, resultsL j.k (dueA (dueB (allG j V no) w.told) T), 0⟩ := by
      intro no hn
      have hg := gp_right hJ hV hr hn
      have hrt := (grR_iff.1 hg).2.2.2.2.1
      have hmin : min T 1099511627776 = T := by omega
      unfold gpAdv gpOf adv
      dsimp only
      rw [hj, if_neg (by simp), hg, if_neg (by simp), if_neg (by omega), hmin]
      unfold dueRB dueRA
      rw [if_pos hrt, if_pos hrt, dueB_dueB _ (by omega)]
    refine ⟨⟨nos.map (gpOf j V T), ⟨mk'.map fun t => (t, false), [], T⟩, w.al, T⟩, ?_, ⟨rfl, rfl, by rw [hlen]; exact h.al, hT.symm⟩, by dsimp only; omega⟩
    dsimp only
    rw [if_pos (by omega)]
    have e1 : advM j T w.gs = nos.map (gpOf j V T) := by
      unfold advM
      rw [h.gs, List.map_map]
      refine List.map_congr_left fun no hn => ?_
      show (gpAdv j T (gpOf j V w.told no)).gp = _
      rw [hadv no hn]; rfl
    have e2 : advT j T w.gs = toldG j nos V w.told T := by
      unfold advT toldG
      rw [h.gs, List.flatMap_map]
      rw [List.flatMap_def, List.flatMap_def]
      refine congrArg List.flatten (List.map_congr_left fun no hn => ?_)
      rw [hadv no hn]
    have hTk : tkJ j w (q : Int) (markItem t) = ⟨⟨nos.map (gpOf j V T), ⟨mk'.map fun t => (t, false), [], T⟩, w.al, T⟩, toldG j nos V w.told T ++ [markItem T], [], 0⟩ := by
      unfold tkJ wkTake
      rw [hJ.ok, if_neg (by simp), hR, hit, if_neg (by rw [hk2]; simp), hal]
      dsimp only
      rw [if_neg (by simp), if_neg (by simp), if_neg (by simp), if_neg (by rw [hk2]; decide), if_pos hk2]
      rw [show (markItem t).mark = t from rfl, hms]
      unfold wkGo
      dsimp only
      rw [htl]
      dsimp only
      rw [if_pos rfl, e1, e2]
    rw [wkRun, hTk]
    rfl
end
end Go.Proofs.YtilgagmfcdfjaaaGreat
namespace Go.Proofs.YtilgagmfcdfjaaaGreat
open Go.RowKit
set_option linter.unusedSimpArgs false
set_option linter.unusedVariables false
/-- a source behind so many events -/
structure Src where
  es : List Et
  n : Nat
  en : Bool
def Src.sr (de : Int) (s : Src) : Sr := ⟨s.es, s.n, markE de 0 (s.es.take s.n), 0, s.en⟩
def Src.mk' (de : Int) (s : Src) : Int := if s.en = true then 1099511627776 else markE de 0 (s.es.take s.n)
def keptS (li fu de : Int) (ss : List Src) : List Et := ss.flatMap fun s => keptE li fu de 0 (s.es.take s.n)
structure SrcOk (s : Src) : Prop where
  n : s.n ≤ s.es.length
  en : s.en = true → s.n = s.es.length
  ev : ∀ e ∈ s.es, evR e.key e.at' = true
  len : s.es.length ≤ 200
section
variable {li fu de : Int} {s : Src} {ss : List Src}
theorem ev_at {k : ByteArray} {t : Int} (h : evR k t = true) : 0 ≤ t ∧ t < 1099511627776 := by
  unfold evR at h
  simp only [Bool.and_eq_true, decide_eq_true_eq] at h
  exact h.2
theorem subT_lt {t : Int} (h : 0 ≤ t ∧ t < 1099511627776) (hd : 0 ≤ de) : 0 ≤ subT t de ∧ subT t de < 1099511627776 := by
  unfold subT clampT
  omega
theorem markE_lt (hd : 0 ≤ de) : ∀ {es : List Et} {m : Int}, 0 ≤ m ∧ m < 1099511627776 → (∀ e ∈ es, evR e.key e.at' = true) → 0 ≤ markE de m es ∧ markE de m es < 1099511627776
  | [], m, hm, _ => hm
  | e :: es, m, hm, h => by
    have h1 := subT_lt (ev_at (h e (by simp))) hd
    exact markE_lt hd (es := es) (m := max m (subT e.at' de)) (by omega) fun x hx => h x (by simp [hx])
theorem SrcOk.mark (h : SrcOk s) (hd : 0 ≤ de) : 0 ≤ markE de 0 (s.es.take s.n) ∧ markE de 0 (s.es.take s.n) < 1099511627776 :=
  markE_lt hd ⟨by omega, by omega⟩ fun e he => h.ev e (List.mem_of_mem_take he)
theorem SrcOk.mk_in (h : SrcOk s) (hd : 0 ≤ de) : 0 ≤ s.mk' de ∧ s.mk' de ≤ 1099511627776 := by
  have := h.mark hd
  unfold Src.mk'
  split <;> omega
theorem SrcOk.mk_end (h : SrcOk s) (hd : 0 ≤ de) : s.mk' de = 1099511627776 ↔ s.en = true := by
  have := h.mark hd
  unfold Src.mk'
  cases s.en <;> simp <;> omega
theorem SrcOk.right (h : SrcOk s) (hd : 0 ≤ de) : srR (s.sr de) = true := by
  have h1 := h.mark hd
  have h2 := h.n
  have h3 := h.len
  have ho : okIn [s.es] = true := by
    unfold okIn okEs
    simp [h3, h.ev]
    exact fun e he => h.ev e he
  unfold srR Src.sr
  dsimp only
  rw [ho]
  simp only [Bool.true_and, Bool.and_eq_true, decide_eq_true_eq, Bool.or_eq_true, Bool.not_eq_true']
  refine ⟨by omega, by omega, h1.1, by omega, by omega, by omega, ?_⟩
  cases he : s.en
  · exact .inl rfl
  · exact .inr (by rw [h.en he])
/-! a step of one of them -/
theorem set_flat {α β : Type} (f : α → List β) : ∀ {l : List α} {q : Nat} {x y : α} {z : List β}, l[q]? = some x → f y = f x ++ z → ((l.set q y).flatMap f).Perm (l.flatMap f ++ z)
  | [], _, _, _, _, h, _ => by simp at h
  | a :: l, 0, x, y, z, h, he => by
    simp only [List.getElem?_cons_zero, Option.some.injEq] at h
    subst h
    rw [List.set_cons_zero, List.flatMap_cons, List.flatMap_cons, he, List.append_assoc, List.append_assoc]
    exact List.Perm.append_left _ List.perm_append_comm
  | a :: l, q + 1, x, y, z, h, he => by
    rw [List.set_cons_succ, List.flatMap_cons, List.flatMap_cons, List.append_assoc]
    exact List.Perm.append_left _ (set_flat f (by simpa using h) he)
theorem keptS_on {q : Nat} {e : Et} (hs : ss[q]? = some s) (he : s.es[s.n]? = some e) :
    (keptS li fu de (ss.set q ⟨s.es, s.n + 1, false⟩)).Perm (keptS li fu de ss ++ (if e.at' < markE de 0 (s.es.take s.n) then [] else [e.ran li fu])) := by
  unfold keptS
  refine set_flat (fun s => keptE li fu de 0 (s.es.take s.n)) hs ?_
  obtain ⟨hn, rfl⟩ := List.getElem?_eq_some_iff.1 he
  exact keptE_step hn
theorem keptS_end {q : Nat} (hs : ss[q]? = some s) : keptS li fu de (ss.set q ⟨s.es, s.n, true⟩) = keptS li fu de ss := by
  unfold keptS
  induction ss generalizing q with
  | nil => simp at hs
  | cons a l ih =>
    cases q with
    | zero =>
      simp only [List.getElem?_cons_zero, Option.some.injEq] at hs
      subst hs; rfl
    | succ q => rw [List.set_cons_succ, List.flatMap_cons, List.flatMap_cons, ih (by simpa using hs)]
theorem keptS_rest : ∀ (ss : List Src), ∃ R, (allK li fu de (ss.map Src.es)).Perm (keptS li fu de ss ++ R)
  | [] => ⟨[], List.Perm.refl _⟩
  | s :: ss => by
    obtain ⟨R, hR⟩ := keptS_rest ss
    have hK : keptE li fu de 0 s.es = keptE li fu de 0 (s.es.take s.n) ++ keptE li fu de (markE de 0 (s.es.take s.n)) (s.es.drop s.n) := by
      conv => lhs; rw [← List.take_append_drop s.n s.es, keptE_app]
    refine ⟨keptE li fu de (markE de 0 (s.es.take s.n)) (s.es.drop s.n) ++ R, ?_⟩
    unfold allK keptS at *
    rw [List.map_cons, List.flatMap_cons, List.flatMap_cons, hK, List.append_assoc, List.append_assoc]
    refine List.Perm.append_left _ ?_
    refine (List.Perm.append_left _ hR).trans ?_
    rw [← List.append_assoc, ← List.append_assoc]
    exact List.Perm.append_right R List.perm_append_comm
end
end Go.Proofs.YtilgagmfcdfjaaaGreat
namespace Go.Proofs.YtilgagmfcdfjaaaGreat
open Go.RowKit
set_option linter.unusedSimpArgs false
set_option linter.unusedVariables false
theorem goV_rng (lim : Int) : ∀ (f : Nat) (v : Int) (n : Nat), (-9223372036854775808 ≤ v ∧ v ≤ 9223372036854775807) → (-9223372036854775808 ≤ (goV lim f v n).1 ∧ (goV lim f v n).1 ≤ 9223372036854775807)
  | 0, v, n, h => h
  | f + 1, v, n, h => by
    unfold goV
    split
    · exact h
    · exact goV_rng lim f _ _ (halfI_range h)
theorem WI.okk {j : Jb} {nos : List Int} {V : List Vl} {mk : List Int} {w : Wk} (hJ : JG j nos) (hM : MG mk) (hV : VG j.k V) (h : WI j nos V mk w) : WkOk w ∧ HV w ∧ heldN w.al < 1 := by
  have hn : nos.length ≤ 9223372036854775807 := by
    refine Classical.byContradiction fun hc => ?_
    have h0 : ∀ i, (hi : i < nos.length) → (i : Int) ≤ nos[i] := by
      intro i
      induction i with
      | zero => intro hi; exact (hJ.rng _ (List.getElem_mem hi)).1
      | succ i ih =>
        intro hi
        have h1 := ih (by omega)
        have h2 := List.pairwise_iff_getElem.1 hJ.lt i (i + 1) (by omega) hi (by omega)
        omega
    have := h0 32 (by omega)
    have := (hJ.rng _ (List.getElem_mem (show 32 < nos.length by omega))).2
    omega
  have hm8 := hM.n8
  refine ⟨⟨?_, ?_, ?_, ?_, ?_, ?_, ?_⟩, ?_, ?_⟩
  · rw [h.gs, List.length_map]; exact hn
  · intro g hg
    rw [h.gs] at hg
    obtain ⟨no, _, rfl⟩ := List.mem_map.1 hg
    have h1 : (dueB (allG j V no) w.told).length ≤ (allG j V no).length := List.length_filter_le _ _
    have h2 := (hV.sub (inG j no)).few
    show (dueB (allG j V no) w.told).length ≤ _
    unfold allG at *
    omega
  · rw [h.mks]; simp; omega
  · rw [h.mks]; simp
  · rw [h.al]; simp; omega
  · rw [h.al]; simp; omega
  · intro l hl
    rw [h.al] at hl
    have := List.eq_of_mem_replicate hl
    subst this; simp
  · intro l hl x hx
    rw [h.al] at hl
    have := List.eq_of_mem_replicate hl
    subst this; simp at hx
  · rw [h.al]
    unfold heldN
    simp
/-- what all sources keep in the end -/
structure TG (j : Jb) (nos : List Int) (T : List Et) : Prop where
  jg : JG j nos
  all : ∀ e ∈ T, grpV e.key.data.toList j.g ∈ nos
  ev : ∀ e ∈ T, evR e.key e.at' = true
  len : T.length ≤ 1000
  few : (rowV j.k (allVals j.s j.d T)).length ≤ 2000
/-- items told one behind the other, and what holds behind each -/
inductive Told (j : Jb) (q : Nat) (en : Bool) : Wk → List Int → List It → Wk → List Int → Prop
  | nil {w : Wk} {mk : List Int} : Told j q en w mk [] w mk
  | cons {w w1 w2 : Wk} {mk mk1 mk2 : List Int} {x : It} {told its : List It} (ho : WkOk w ∧ HV w ∧ heldN w.al < 1 ∧ ItV x ∧ mk.length = w.mks.ins.length ∧ q < mk.length) (hr : wkRun j 1 w (q : Int) x = ⟨w1, told, 0⟩) (hm : mk1 = if x.kind = 2 then mk.set q x.mark else mk) (hc : ∀ t ∈ mk1, w1.told ≤ t) (hf : w1.told = 1099511627776 ↔ en = true)
      (ht : Told j q en w1 mk1 its w2 mk2) : Told j q en w mk (x :: its) w2 mk2
section
variable {j : Jb} {nos : List Int} {T K R : List Et} {mk : List Int} {w : Wk} {ss : List Src} {s : Src} {q : Nat}
theorem TG.vg (h : TG j nos T) (hp : T.Perm (K ++ R)) : VG j.k (allVals j.s j.d K) := by
  obtain ⟨_, hk, hw⟩ := h.jg.job
  have hmem : ∀ e ∈ K, e ∈ T := fun e he => hp.mem_iff.2 (by simp [he])
  have hlen : K.length + R.length = T.length := by rw [hp.length_eq, List.length_append]
  have hl := h.len
  have h1 := allVals_len (s := j.s) (d := j.d) (es := K)
  have h2 := allVals_len (s := j.s) (d := j.d) (es := T)
  refine ⟨allVals_ok hk hw fun e he => h.ev e (hmem e he), by omega, ?_⟩
  have hp2 : (allVals j.s j.d T).Perm (allVals j.s j.d K ++ allVals j.s j.d R) := by
    unfold allVals
    rw [← List.flatMap_append]
    exact hp.flatMap_right _
  have := h.few
  rw [rowM_perm hp2 (by omega) (allVals_ok hk hw h.ev)] at this
  exact Nat.le_trans rowM_mono this
theorem firstT_end {l : List Int} (h : ∀ t ∈ l, 0 ≤ t ∧ t ≤ 1099511627776) : firstT l = 1099511627776 ↔ ∀ t ∈ l, t = 1099511627776 := by
  constructor
  · intro he t ht
    have h1 := firstT_le ht
    have h2 := h t ht
    unfold clampT at h1
    omega
  · intro he
    have h1 := le_firstT (a := 1099511627776) (by omega) (l := l) fun t ht => by rw [he t ht]; decide
    have := firstT_range l
    omega
theorem firstT_under {l : List Int} (h : ∀ t ∈ l, 0 ≤ t ∧ t ≤ 1099511627776) : ∀ t ∈ l, firstT l ≤ t := by
  intro t ht
  have h1 := firstT_le ht
  have h2 := h t ht
  unfold clampT at h1
  omega
/-- between turns -/
structure Rn (j : Jb) (ss : List Src) (T : List Et) : Prop where
  ok : ∀ s ∈ ss, SrcOk s
  n1 : 1 ≤ ss.length
  n8 : ss.length ≤ 8
  de : 0 ≤ j.de
  all : T = allK j.li j.fu j.de (ss.map Src.es)
theorem Rn.mg (h : Rn j ss T) : MG (ss.map (Src.mk' j.de)) := by
  refine ⟨by rw [List.length_map]; exact h.n1, by rw [List.length_map]; exact h.n8, fun t ht => ?_⟩
  obtain ⟨s, hs, rfl⟩ := List.mem_map.1 ht
  exact (h.ok s hs).mk_in h.de
theorem Rn.chk (h : Rn j ss T) : firstT (ss.map (Src.mk' j.de)) = 1099511627776 ↔ ss.all Src.en = true := by
  rw [firstT_end h.mg.rng, List.all_eq_true]
  constructor
  · intro he s hs
    exact ((h.ok s hs).mk_end h.de).1 (he _ (List.mem_map.2 ⟨s, hs, rfl⟩))
  · intro he t ht
    obtain ⟨s, hs, rfl⟩ := List.mem_map.1 ht
    exact ((h.ok s hs).mk_end h.de).2 (he s hs)
theorem Rn.set (h : Rn j ss T) (hs : ss[q]? = some s) {s' : Src} (he : s'.es = s.es) (hk : SrcOk s') : Rn j (ss.set q s') T := by
  refine ⟨fun x hx => ?_, by rw [List.length_set]; exact h.n1, by rw [List.length_set]; exact h.n8, h.de, ?_⟩
  · rcases List.mem_or_eq_of_mem_set hx with hx | rfl
    · exact h.ok x hx
    · exact hk
  · have e : (ss.set q s').map Src.es = ss.map Src.es := by
      rw [List.map_set, he]
      obtain ⟨hq, rfl⟩ := List.getElem?_eq_some_iff.1 hs
      have : (ss[q]).es = (ss.map Src.es)[q]'(by rw [List.length_map]; exact hq) := by simp
      rw [this, List.set_getElem_self]
    rw [e]; exact h.all
theorem not_all (hs : ss[q]? = some s) (hen : s.en = false) : ss.all Src.en = false := by
  obtain ⟨hq, rfl⟩ := List.getElem?_eq_some_iff.1 hs
  rw [List.all_eq_false]
  exact ⟨_, List.getElem_mem hq, by rw [hen]; simp⟩
theorem mk_get (hs : ss[q]? = some s) : ∃ hq : q < (ss.map (Src.mk' j.de)).length, (ss.map (Src.mk' j.de))[q] = s.mk' j.de := by
  obtain ⟨hq, rfl⟩ := List.getElem?_eq_some_iff.1 hs
  exact ⟨by rw [List.length_map]; exact hq, by simp⟩
theorem turn_end (hT : TG j nos T) (hR : Rn j ss T) (hK : K.Perm (keptS j.li j.fu j.de ss)) (hW : WI j nos (allVals j.s j.d K) (ss.map (Src.mk' j.de)) w) (hs : ss[q]? = some s) (hen : s.en = false) (hn : s.n = s.es.length) :
    ∃ w', Told j q ((ss.set q ⟨s.es, s.n, true⟩).all Src.en) w (ss.map (Src.mk' j.de)) [markItem 1099511627776] w' ((ss.set q ⟨s.es, s.n, true⟩).map (Src.mk' j.de)) ∧ WI j nos (allVals j.s j.d K) ((ss.set q ⟨s.es, s.n, true⟩).map (Src.mk' j.de)) w' ∧ Rn j (ss.set q ⟨s.es, s.n, true⟩) T := by
  have hsm : s ∈ ss := List.mem_of_getElem? hs
  have hso := hR.ok s hsm
  have hR' := hR.set hs (s' := ⟨s.es, s.n, true⟩) rfl ⟨hso.n, fun _ => hn, hso.ev, hso.len⟩
  obtain ⟨R, hrest⟩ := keptS_rest (li := j.li) (fu := j.fu) (de := j.de) ss
  have hV : VG j.k (allVals j.s j.d K) := hT.vg (R := R) (by rw [hR.all]; exact hrest.trans (List.Perm.append_right R hK.symm))
  obtain ⟨hq, hg⟩ := mk_get (j := j) hs
  obtain ⟨w', h1, h2, h3⟩ := mk_step hT.jg hR.mg hV hW hq (t := 1099511627776) (by omega) 0
  have hin := hso.mk_in hR.de
  have e : (ss.map (Src.mk' j.de)).set q (max (ss.map (Src.mk' j.de))[q] 1099511627776) = (ss.set q ⟨s.es, s.n, true⟩).map (Src.mk' j.de) := by
    rw [List.map_set, hg]
    congr 1
    show _ = (1099511627776 : Int)
    omega
  rw [e] at h2
  obtain ⟨o1, o2, o3⟩ := hW.okk hT.jg hR.mg hV
  refine ⟨w', Told.cons ⟨o1, o2, o3, ⟨by decide, by decide⟩, by rw [hW.mks]; simp, hq⟩ h1 ?_ ?_ ?_ Told.nil, h2, hR'⟩
  · rw [if_pos (show (markItem 1099511627776).kind = 2 from rfl), List.map_set]
    rfl
  · rw [h2.told]
    exact firstT_under hR'.mg.rng
  · rw [h2.told]
    exact hR'.chk
theorem turn_on (hT : TG j nos T) (hR : Rn j ss T) (hK : K.Perm (keptS j.li j.fu j.de ss)) (hW : WI j nos (allVals j.s j.d K) (ss.map (Src.mk' j.de)) w) (hs : ss[q]? = some s) (hen : s.en = false) (hev2 : ∀ e ∈ s.es, -9223372036854775808 ≤ e.v ∧ e.v ≤ 9223372036854775807) {e : Et} (he : s.es[s.n]? = some e) :
    ∃ w' K', Told j q ((ss.set q ⟨s.es, s.n + 1, false⟩).all Src.en) w (ss.map (Src.mk' j.de)) (tellX j (markE j.de 0 (s.es.take s.n)) e) w' ((ss.set q ⟨s.es, s.n + 1, false⟩).map (Src.mk' j.de)) ∧ K'.Perm (keptS j.li j.fu j.de (ss.set q ⟨s.es, s.n + 1, false⟩)) ∧ WI j nos (allVals j.s j.d K') ((ss.set q ⟨s.es, s.n + 1, false⟩).map (Src.mk' j.de)) w' ∧ Rn j (ss.set q ⟨s.es, s.n + 1, false⟩) T := by
  have hsm : s ∈ ss := List.mem_of_getElem? hs
  have hso := hR.ok s hsm
  obtain ⟨hn, hge⟩ := List.getElem?_eq_some_iff.1 he
  have hR' := hR.set hs (s' := ⟨s.es, s.n + 1, false⟩) rfl ⟨hn, fun h => by simp at h, hso.ev, hso.len⟩
  obtain ⟨R, hrest⟩ := keptS_rest (li := j.li) (fu := j.fu) (de := j.de) (ss.set q ⟨s.es, s.n + 1, false⟩)
  have hon := keptS_on (li := j.li) (fu := j.fu) (de := j.de) hs he
  obtain ⟨hq, hg⟩ := mk_get (j := j) hs
  have hm0 := hso.mark hR.de
  have hgm : (ss.map (Src.mk' j.de))[q] = markE j.de 0 (s.es.take s.n) := by rw [hg]; unfold Src.mk'; rw [hen]; rfl
  have hev := hso.ev e (List.mem_of_getElem? he)
  have hat := ev_at hev
  have ht := subT_lt hat hR.de
  have hmk' : Src.mk' j.de ⟨s.es, s.n + 1, false⟩ = max (markE j.de 0 (s.es.take s.n)) (subT e.at' j.de) := by
    unfold Src.mk'
    dsimp only
    rw [if_neg (by simp), markE_step hn, hge]
  have hna := not_all hs hen
  have hna' : (ss.set q ⟨s.es, s.n + 1, false⟩).all Src.en = false := by
    refine not_all (q := q) (s := ⟨s.es, s.n + 1, false⟩) ?_ rfl
    rw [List.getElem?_set_self (by simpa using hq)]
  have hmap : (ss.set q ⟨s.es, s.n + 1, false⟩).map (Src.mk' j.de) = (ss.map (Src.mk' j.de)).set q (max (markE j.de 0 (s.es.take s.n)) (subT e.at' j.de)) := by rw [List.map_set, hmk']
  rw [hR'.all] at hT
  have hrng := hR.mg.rng
  have hmg := hR.mg
  have hmg' := hR'.mg
  have hchk := hR.chk
  have hchk' := hR'.chk
  rw [hna] at hchk
  rw [hna'] at hchk' ⊢
  unfold tellX
  generalize hm : markE j.de 0 (s.es.take s.n) = m at *
  generalize htt : subT e.at' j.de = t at *
  generalize hss : ss.set q ⟨s.es, s.n + 1, false⟩ = ss' at *
  -- the event
  have step1 : ∃ w1 K1, K1.Perm (keptS j.li j.fu j.de ss') ∧ WI j nos (allVals j.s j.d K1) (ss.map (Src.mk' j.de)) w1 ∧ ∀ its w2 mk2, Told j q false w1 (ss.map (Src.mk' j.de)) its w2 mk2 → Told j q false w (ss.map (Src.mk' j.de)) ((if m ≤ e.at' then [evItem (e.ran j.li j.fu)] else []) ++ its) w2 mk2 := by
    by_cases c : m ≤ e.at'
    · rw [if_neg (by omega)] at hon
      have hK1 : (K ++ [e.ran j.li j.fu]).Perm (keptS j.li j.fu j.de ss') := (List.Perm.append_right _ hK).trans hon.symm
      have hp := hrest.trans (List.Perm.append_right R hK1.symm)
      have hV := hT.vg (K := K ++ [e.ran j.li j.fu]) (R := R) hp
      have hmem : e.ran j.li j.fu ∈ allK j.li j.fu j.de (ss'.map Src.es) := hp.mem_iff.2 (by simp)
      rw [allVals_snoc] at hV
      have htold : w.told ≤ (e.ran j.li j.fu).at' := by
        rw [hW.told]
        have := firstT_under hrng _ (List.getElem_mem hq)
        rw [hgm] at this
        exact Int.le_trans this c
      obtain ⟨o1, o2, o3⟩ := hW.okk hT.jg hmg (V := allVals j.s j.d K) (VG.pre hV)
      obtain ⟨w1, h1, h2, h3⟩ := ev_step hT.jg hmg hV hW (e := e.ran j.li j.fu) hev (hT.all _ hmem) hq htold 0
      refine ⟨w1, K ++ [e.ran j.li j.fu], hK1, by rw [allVals_snoc]; exact h2, fun its w2 mk2 h => ?_⟩
      rw [if_pos c]
      refine Told.cons ⟨o1, o2, o3, goV_rng _ _ _ _ (hev2 e (List.mem_of_getElem? he)), by rw [hW.mks]; simp, hq⟩ h1 ?_ ?_ ?_ h
      · rw [if_neg (show ¬ (evItem (e.ran j.li j.fu)).kind = 2 from by show ¬ (1 : Int) = 2; decide)]
      · rw [h2.told]; exact firstT_under hrng
      · rw [h2.told]; exact hchk
    · rw [if_pos (by omega), List.append_nil] at hon
      refine ⟨w, K, hK.trans hon.symm, hW, fun its w2 mk2 h => ?_⟩
      rw [if_neg c]
      exact h
  obtain ⟨w1, K1, hK1, hW1, hgo⟩ := step1
  by_cases c : m < t
  · have hp := hrest.trans (List.Perm.append_right R hK1.symm)
    have hV := hT.vg (K := K1) (R := R) hp
    obtain ⟨w', h1, h2, h3⟩ := mk_step hT.jg hmg hV hW1 hq (t := t) (by omega) 0
    rw [hgm, ← hmap] at h2
    refine ⟨w', K1, ?_, hK1, h2, hR'⟩
    rw [if_pos c]
    obtain ⟨o1, o2, o3⟩ := hW1.okk hT.jg hmg hV
    refine hgo _ _ _ (Told.cons ⟨o1, o2, o3, ⟨(show (-9223372036854775808 : Int) ≤ 0 by decide), (show (0 : Int) ≤ 9223372036854775807 by decide)⟩, by rw [hW1.mks]; simp, hq⟩ h1 ?_ ?_ ?_ Told.nil)
    · rw [if_pos (show (markItem t).kind = 2 from rfl), hmap]
      show _ = (ss.map (Src.mk' j.de)).set q t
      congr 1
      omega
    · rw [h2.told]; exact firstT_under hmg'.rng
    · rw [h2.told]; exact hchk'
  · have e1 : ss'.map (Src.mk' j.de) = ss.map (Src.mk' j.de) := by
      rw [hmap, show max m t = m by omega]
      exact set_id hq hgm.symm
    refine ⟨w1, K1, ?_, hK1, by rw [e1]; exact hW1, hR'⟩
    rw [if_neg c, e1]
    exact hgo _ _ _ Told.nil
theorem start (hJ : JG j nos) {n : Nat} (h1 : 1 ≤ n) (h8 : n ≤ 8) : WI j nos [] (List.replicate n 0) ⟨nos.map (gpOf j [] 0), ⟨newIns n, [], 0⟩, ⟨0, newGot n, newHeld n⟩, 0⟩ ∧ newW true n (nos.map (gpOf j [] 0)) = ⟨⟨nos.map (gpOf j [] 0), ⟨newIns n, [], 0⟩, ⟨0, newGot n, newHeld n⟩, 0⟩, 0⟩ := by
  have hM : MG (List.replicate n 0) := ⟨by simp; omega, by simp; omega, fun t ht => by rw [List.eq_of_mem_replicate ht]; omega⟩
  have hf : firstT (List.replicate n 0) = 0 := by
    have h2 := firstT_le (l := List.replicate n 0) (t := 0) (by rw [List.mem_replicate]; omega)
    have h3 := firstT_range (List.replicate n 0)
    unfold clampT at h2
    omega
  have hW : WI j nos [] (List.replicate n 0) ⟨nos.map (gpOf j [] 0), ⟨newIns n, [], 0⟩, ⟨0, newGot n, newHeld n⟩, 0⟩ := by
    refine ⟨rfl, ?_, ?_, hf.symm⟩
    · unfold newIns
      rw [if_pos (by omega)]
      simp
    · unfold newGot newHeld
      rw [if_pos (by omega), if_pos (by omega)]
      simp
  refine ⟨hW, ?_⟩
  have hV : VG j.k [] := ⟨by simp, by simp, by simp [rowV, insAll]⟩
  have hr := hW.right hJ hM hV
  unfold wkR at hr
  simp only [Bool.and_eq_true] at hr
  unfold newW
  rw [if_neg (by simp), if_pos ⟨by omega, by omega, hr.1⟩]
end
end Go.Proofs.YtilgagmfcdfjaaaGreat
namespace Go.Proofs.YtilgagmfcdfjaaaGreat
open Go.RowKit
set_option linter.unusedSimpArgs false
set_option linter.unusedVariables false
theorem tellX_len {j : Jb} {m : Int} {e : Et} : (tellX j m e).length ≤ 2 := by
  unfold tellX
  rw [List.length_append]
  split <;> split <;> simp
theorem turn_any {j : Jb} {nos : List Int} {T K : List Et} {w : Wk} {ss : List Src} {s : Src} {q : Nat} (hT : TG j nos T) (hR : Rn j ss T) (hK : K.Perm (keptS j.li j.fu j.de ss)) (hW : WI j nos (allVals j.s j.d K) (ss.map (Src.mk' j.de)) w) (hs : ss[q]? = some s) (hen : s.en = false) (hev2 : ∀ e ∈ s.es, -9223372036854775808 ≤ e.v ∧ e.v ≤ 9223372036854775807) (hli : j.li ≤ 9223372036854775807) :
    ∃ (s' : Src) (its : List It) (w' : Wk) (K' : List Et), PC Tryz.prog 13 [.agg j.av, .agg (s.sr j.de).av] (.tup [.agg (s'.sr j.de).av, .sl 11 (its.map It.av), .v (.int .i64 0)]) ∧ its.length ≤ 2 ∧ s'.es = s.es ∧ Told j q ((ss.set q s').all Src.en) w (ss.map (Src.mk' j.de)) its w' ((ss.set q s').map (Src.mk' j.de)) ∧ K'.Perm (keptS j.li j.fu j.de (ss.set q s')) ∧ WI j nos (allVals j.s j.d K') ((ss.set q s').map (Src.mk' j.de)) w' ∧ Rn j (ss.set q s') T := by
  have hso := hR.ok s (List.mem_of_getElem? hs)
  have hj := hT.jg.ok
  have hl := hso.len
  have hSm : Small [s.es] := ⟨by simp, fun es he => by rw [List.mem_singleton.1 he]; omega⟩
  have hR0 := hso.right hR.de
  have hn := hso.n
  obtain ⟨es, n, en⟩ := s
  dsimp only at hen hl hSm hn hev2
  subst hen
  unfold Src.sr at hR0 ⊢
  dsimp only at hR0 ⊢
  by_cases he : n = es.length
  · obtain ⟨w', t1, t2, t3⟩ := turn_end hT hR hK hW hs rfl he
    dsimp only at t1 t2 t3
    refine ⟨⟨es, n, true⟩, [markItem 1099511627776], w', K, ?_, by simp, rfl, t1, ?_, t2, t3⟩
    · subst he
      exact s_Next j (s_step1 j es _ 0 hj hSm (by omega) hR0)
    · have := keptS_end (li := j.li) (fu := j.fu) (de := j.de) hs
      dsimp only at this
      rw [this]; exact hK
  · have hlt : n < es.length := by omega
    have hget : es[n]? = some es[n] := List.getElem?_eq_getElem hlt
    obtain ⟨w', K', t1, t2, t3, t4⟩ := turn_on hT hR hK hW hs rfl hev2 hget
    dsimp only at t1 t2 t3 t4
    refine ⟨⟨es, n + 1, false⟩, tellX j (markE j.de 0 (es.take n)) es[n], w', K', ?_, tellX_len, rfl, t1, t2, t3, t4⟩
    have h := s_Next j (s_step2 j es n _ 0 es[n] hj hSm hlt hget (hev2 _ (List.getElem_mem hlt)) hli (by omega) hR0)
    rw [markE_step hlt]
    exact h
theorem turn_not {j : Jb} {T : List Et} {ss : List Src} {s : Src} {q : Nat} (hj : jobOK j.g j.s j.d j.k j.fu j.li j.de j.id = true) (hR : Rn j ss T) (hs : ss[q]? = some s) (hen : s.en = true) :
    PC Tryz.prog 13 [.agg j.av, .agg (s.sr j.de).av] (.tup [.agg zSr.av, .sl 11 [], .v (.int .i64 210)]) := by
  have hso := hR.ok s (List.mem_of_getElem? hs)
  have hl := hso.len
  have hSm : Small [s.es] := ⟨by simp, fun es he => by rw [List.mem_singleton.1 he]; omega⟩
  have hR0 := hso.right hR.de
  obtain ⟨es, n, en⟩ := s
  dsimp only at hen hl hSm
  subst hen
  unfold Src.sr at hR0 ⊢
  exact s_Next j (s_step0 j es n _ 0 hj hSm hR0)
theorem Told.uncons {j : Jb} {q : Nat} {en : Bool} {w w2 : Wk} {mk mk2 : List Int} {x : It} {its : List It} (h : Told j q en w mk (x :: its) w2 mk2) :
    ∃ (w1 : Wk) (mk1 : List Int) (told : List It), (WkOk w ∧ HV w ∧ heldN w.al < 1 ∧ ItV x ∧ mk.length = w.mks.ins.length ∧ q < mk.length) ∧ wkRun j 1 w (q : Int) x = ⟨w1, told, 0⟩ ∧ (mk1 = if x.kind = 2 then mk.set q x.mark else mk) ∧ (∀ t ∈ mk1, w1.told ≤ t) ∧ (w1.told = 1099511627776 ↔ en = true) ∧ Told j q en w1 mk1 its w2 mk2 := by
  cases h with
  | cons ho hr hm hc hf ht => exact ⟨_, _, _, ho, hr, hm, hc, hf, ht⟩
theorem Told.unnil {j : Jb} {q : Nat} {en : Bool} {w w2 : Wk} {mk mk2 : List Int} (h : Told j q en w mk [] w2 mk2) : w = w2 ∧ mk = mk2 := by
  cases h; exact ⟨rfl, rfl⟩
end Go.Proofs.YtilgagmfcdfjaaaGreat
namespace Go.Proofs.YtilgagmfcdfjaaaGreat
open Go.RowKit
set_option linter.unusedSimpArgs false
set_option linter.unusedVariables false
set_option maxRecDepth 10000 in
/-- what waited was told of a barrier that is whole -/
theorem tk_late {ok : Bool} {j : Jb} {no : Int} {w : Wk} {i : Int} {x : It} (h : (wkTake ok j no w i x).late ≠ []) :
    ok = true ∧ ¬ ((wkR w && itR x) = false ∨ x.kind = 5) ∧ (alOffer w.al i x).e = 0 ∧ 0 < (alOffer w.al i x).done ∧ wkTake ok j no w i x = ⟨{ w with al := (alOffer w.al i x).a }, [barItem (alOffer w.al i x).done], (alOffer w.al i x).late, 0⟩ := by
  have hg : ∀ gs m al told, (wkGo j gs m al told).late = [] := fun gs m al told => by unfold wkGo; split <;> rfl
  unfold wkTake at h ⊢
  split at h
  · simp [wkFail] at h
  rename_i h1
  split at h
  · simp [wkFail] at h
  rename_i h2
  split at h
  · simp [wkFail] at h
  rename_i h3
  split at h
  · rename_i h4
    have e1 : ok = true := by cases ok <;> simp at h1 ⊢
    have e3 : (alOffer w.al i x).e = 0 := by omega
    refine ⟨e1, h2, e3, h4, ?_⟩
    rw [if_neg h1, if_neg h2, if_neg h3, if_pos h4]
  · exfalso
    split at h
    · exact h rfl
    split at h
    · split at h
      · exact h rfl
      · exact h (hg _ _ _ _)
    split at h
    · exact h (hg _ _ _ _)
    split at h
    · exact h (hg _ _ _ _)
    · exact h (hg _ _ _ _)
set_option maxRecDepth 10000 in
set_option maxHeartbeats 16000000 in
theorem w_Bar (j : Jb) (w : Wk) (input : Int) (x : It) (hw : WkOk w) (e1 : jobOK j.g j.s j.d j.k j.fu j.li j.de j.id = true) (e2 : ¬ ((wkR w && itR x) = false ∨ x.kind = 5)) (c1 : (alOffer w.al input x).e = 0) (c2 : 0 < (alOffer w.al input x).done) :
    AC Tryz.prog 44 [.agg j.av, .agg w.av, .v (.int .i64 input), .agg x.av] [] (.tup [.agg (Wk.av { w with al := (alOffer w.al input x).a }), .own 7 1, .sl 12 ((alOffer w.al input x).late.map Lt.av), .v (.int .i64 0)]) [(7, .row 63 11 [It.av (barItem (alOffer w.al input x).done)])] := by
  have h1 := j_Right j.g j.s j.d j.k j.fu j.li j.de j.id
  have h2 := w_Right w hw
  have h3 := i_Right x
  have h4 := l_Offer w.al input x hw.got hw.held hw.its
  rw [e1] at h1
  have e3 : wkR w = true ∧ itR x = true ∧ ¬ x.kind = 5 := by
    cases w1 : wkR w <;> cases x1 : itR x <;> simp [w1, x1] at e2 ⊢
    exact e2
  obtain ⟨w1, x1, x5⟩ := e3
  have hgl : w.gs.length ≤ 1000 := by
    have h := w1
    simp only [wkR, Bool.and_eq_true] at h
    have := gsR_le h.1
    omega
  rw [w1] at h2
  rw [x1] at h3
  have hcl := cl_Grp (w.gs.map Gp.av) (by rw [List.length_map]; omega)
  have hty := fun y => y_tell (w.gs.map Gp.av).length (w.gs.map Gp.av) w.mks (alOffer w.al input x).a w.told j input x [] y (by simp)
  have hpass := (offer_ok (a := w.al) (i := input) (x := x) x1 c1).2.1
  generalize alOffer w.al input x = O at *
  obtain ⟨oa, op, od, ol, oe⟩ := O
  dsimp only at *
  subst c1
  have hop : op = false := by
    cases op
    · rfl
    · exact absurd (hpass rfl).1 (by omega)
  subst hop
  have hty := hty (barItem od)
  unfold wayC at hty
  simp only [List.map_nil, List.map_cons, Jb.av, Wk.av, Al.av, AlO.av] at h2 h4 hty ⊢
  refine (ac_body tab_ok Tryz.func44 rfl (by kernel_rfl) rfl ?_); intro w0 M μ0; simp only [Tryz.ntmps44, List.length_cons, List.length_nil, Nat.reduceAdd, Nat.reduceSub, numb]
  repeat' (first | ((first | apply o_do | apply d_do | apply d_yes rfl rfl rfl); first | exact lsc (h1) | exact lsc (h2) | exact lsc (h3) | exact lsc (h4) | exact ls_callA [] 6 hcl rfl rfl (by (repeat' (first | exact NilL.nil | refine NilL.cons Nil.same ?_ | refine NilL.cons Nil.nil ?_ | refine NilL.cons (Nil.agg ?_) ?_ | exact Nil1s.nil | refine Nil1s.cons Nil1.same ?_ | refine Nil1s.cons Nil1.nil ?_)); first | done | fail) rfl (by repeat' (first | exact trivial | refine ⟨⟨_, rfl, by first | rfl | (simp [renO, *]; done)⟩, ?_⟩)) (by first | rfl | simp [closO, *]) rfl rfl rfl rfl (by first | rfl | simp [closO, *]) rfl | exact ls_nilCheck rfl rfl | exact lsq) | refine a_seq ?_ | refine a_region ?_ | refine o_nil ?_ | refine a_block ?_ | refine a_ret ?_ | refine a_exit ?_ | refine a_skip ?_ | refine a_draw mixed ?_ | refine d_nil (by kernel_rfl) ?_ | refine o_yes rfl rfl rfl ?_ | refine o_no rfl rfl rfl (by decide) ?_ | refine o_no' rfl rfl rfl ?_ | refine a_condT rfl ?_ | refine a_condF rfl ?_ | refine d_no rfl rfl rfl (by decide) ?_ | refine d_no' rfl rfl rfl ?_ | (refine wq2 (fun hb => ?_) (fun hb => ?_) <;> (simp only [hb]; try simp only [hbs, ne_eq] at hb; try (exfalso; first | omega | exact hb trivial))) | fail)
  refine o_adoptB 5 28 7 63 11 rfl rfl rfl ?_
  repeat' (first | ((first | apply o_do | apply d_do | apply d_yes rfl rfl rfl); first | exact ls_callA [5, 6, 7] 8 hty rfl rfl (by (repeat' (first | exact NilL.nil | refine NilL.cons Nil.same ?_ | refine NilL.cons Nil.nil ?_ | refine NilL.cons (Nil.agg ?_) ?_ | exact Nil1s.nil | refine Nil1s.cons Nil1.same ?_ | refine Nil1s.cons Nil1.nil ?_)); first | done | fail) rfl (by repeat' (first | exact trivial | refine ⟨⟨_, rfl, by first | rfl | (simp [renO, *]; done)⟩, ?_⟩)) (by first | rfl | simp [closO, *]) rfl rfl rfl rfl (by first | rfl | simp [closO, *]) rfl | exact ls_nilCheck rfl rfl | exact lsq) | refine a_seq ?_ | refine a_region ?_ | refine o_nil ?_ | refine a_block ?_ | refine a_ret ?_ | refine a_exit ?_ | refine a_skip ?_ | refine a_draw mixed ?_ | refine d_nil (by kernel_rfl) ?_ | refine o_yes rfl rfl rfl ?_ | refine o_no rfl rfl rfl (by decide) ?_ | refine o_no' rfl rfl rfl ?_ | refine a_condT rfl ?_ | refine a_condF rfl ?_ | refine d_no rfl rfl rfl (by decide) ?_ | refine d_no' rfl rfl rfl ?_ | (refine wq2 (fun hb => ?_) (fun hb => ?_) <;> (simp only [hb]; try simp only [hbs, ne_eq] at hb; try (exfalso; first | omega | exact hb trivial))) | fail)
  refine rq rfl ?_
  exact fnq
end Go.Proofs.YtilgagmfcdfjaaaGreat
namespace Go.Proofs.YtilgagmfcdfjaaaGreat
open Go.RowKit
set_option linter.unusedSimpArgs false
set_option linter.unusedVariables false
theorem lp_len {w : Wk} {o : List It} {q : Nat} (h : LpOk w o q) (hq : q ≤ 128) : o.length ≤ 900000000 := by
  have := h.told
  have := tri_le (n := q) hq
  omega
set_option maxRecDepth 10000 in
set_option maxHeartbeats 32000000 in
theorem w_Run (j : Jb) (hg : -9223372036854775808 ≤ j.g ∧ j.g ≤ 9223372036854775807) : ∀ (n : Nat) (w : Wk) (input : Int) (x : It), WkOk w → HV w → ItV x → heldN w.al < n →
    PC Tryz.prog 14 [.agg j.av, .agg w.av, .v (.int .i64 input), .agg x.av] (wkRun j n w input x).av
  | 0, _, _, _, _, _, _, h => absurd h (Nat.not_lt_zero _)
  | n + 1, w, input, x, hw, hv, hx, hn => by
    have h2 : PC Tryz.prog 44 [.agg j.av, .agg w.av, .v (.int .i64 input), .agg x.av] (tkJ j w input x).av := w_Take j (grpV x.key.data.toList j.g) w input x hw (fun hk hx => p_rGrp x.key j.g (itR_key hx hk) hg)
    have hd : TkHd w (tkJ j w input x) := take_hd (jobOK j.g j.s j.d j.k j.fu j.li j.de j.id) j (grpV x.key.data.toList j.g) w input x hv hx
    have hs := start_ok (j := j) (i := input) hw hv hx
    have hlate : (tkJ j w input x).late.length ≤ 128 := late_le _ _ _ _ _ _
    simp only [wkRun, rnT]
    by_cases hl : (tkJ j w input x).late = []
    · generalize tkJ j w input x = T at *
      obtain ⟨tw, tt, tl, te⟩ := T
      dsimp only at hl
      subst hl
      dsimp only
      by_cases he : te ≠ 0
      · rw [if_pos he]
        simp only [RnW.av, rnFail, TkW.av, wkZ, List.map_nil, Jb.av, Wk.av] at h2 ⊢
        refine PC.mk (ac_body tab_ok Tryz.func14 rfl (by kernel_rfl) rfl ?_); intro w0 M μ0; simp only [Tryz.ntmps14, List.length_cons, List.length_nil, Nat.reduceAdd, Nat.reduceSub, numb]
        repeat' (first | ((first | apply o_do | apply d_do | apply d_yes rfl rfl rfl); first | exact lsc (h2) | exact lsq) | refine a_seq ?_ | refine a_region ?_ | refine o_nil ?_ | refine a_block ?_ | refine a_ret ?_ | refine a_exit ?_ | refine a_skip ?_ | refine a_draw mixed ?_ | refine d_nil (by kernel_rfl) ?_ | refine o_yes rfl rfl rfl ?_ | refine o_no rfl rfl rfl (by decide) ?_ | refine o_no' rfl rfl rfl ?_ | refine a_condT rfl ?_ | refine a_condF rfl ?_ | refine d_no rfl rfl rfl (by decide) ?_ | refine d_no' rfl rfl rfl ?_ | (refine wq2 (fun hb => ?_) (fun hb => ?_) <;> (simp only [hb]; try simp only [hbs, ne_eq] at hb; try (exfalso; first | omega | exact hb trivial))) | fail)
        refine rq rfl ?_
        exact fnq
      · rw [if_neg he]
        have he : te = 0 := by omega
        subst he
        simp only [RnW.av, rnLoop, TkW.av, List.map_nil, Jb.av, Wk.av] at h2 ⊢
        refine PC.mk (ac_body tab_ok Tryz.func14 rfl (by kernel_rfl) rfl ?_); intro w0 M μ0; simp only [Tryz.ntmps14, List.length_cons, List.length_nil, Nat.reduceAdd, Nat.reduceSub, numb]
        repeat' (first | ((first | apply o_do | apply d_do | apply d_yes rfl rfl rfl); first | exact lsc (h2) | exact lsq) | refine a_seq ?_ | refine a_region ?_ | refine o_nil ?_ | refine a_block ?_ | refine a_ret ?_ | refine a_exit ?_ | refine a_skip ?_ | refine a_draw mixed ?_ | refine d_nil (by kernel_rfl) ?_ | refine o_yes rfl rfl rfl ?_ | refine o_no rfl rfl rfl (by decide) ?_ | refine o_no' rfl rfl rfl ?_ | refine a_condT rfl ?_ | refine a_condF rfl ?_ | refine d_no rfl rfl rfl (by decide) ?_ | refine d_no' rfl rfl rfl ?_ | (refine wq2 (fun hb => ?_) (fun hb => ?_) <;> (simp only [hb]; try simp only [hbs, ne_eq] at hb; try (exfalso; first | omega | exact hb trivial))) | fail)
        refine a_loop (X := Unit) (fun _ => ⟨[(5, .ref 1 0), (8, .ref 3 0), (11, .sl 11 (tt.map It.av)), (33, .sl 12 []), (34, .v (.int .i64 0)), (35, .v (.int .i64 0))], [(1, .box 42 (Wk.av tw)), (3, .box 42 [.v (.slice none 0 0), .v (.slice none 0 0), .v (.slice none 0 0), .v (.int .i64 0), .v (.int .i64 0), .v (.slice none 0 0), .v (.slice none 0 0), .v (.int .i64 0)])]⟩) (fun _ => 0) () ?_ ?_
        · unfold Wk.av
          exact wkS
        rintro ⟨⟩
        unfold Wk.av
        repeat' (first | ((first | apply o_do | apply d_do | apply d_yes rfl rfl rfl); exact lsq) | refine a_seq ?_ | refine a_region ?_ | refine o_nil ?_ | refine a_block ?_ | refine a_ret ?_ | refine a_exit ?_ | refine a_skip ?_ | refine a_draw mixed ?_ | refine d_nil (by kernel_rfl) ?_ | refine o_yes rfl rfl rfl ?_ | refine o_no rfl rfl rfl (by decide) ?_ | refine o_no' rfl rfl rfl ?_ | refine a_condT rfl ?_ | refine a_condF rfl ?_ | refine d_no rfl rfl rfl (by decide) ?_ | refine d_no' rfl rfl rfl ?_ | (refine wq2 (fun hb => ?_) (fun hb => ?_) <;> (simp only [hb]; try simp only [hbs, ne_eq] at hb; try (exfalso; first | omega | exact hb trivial))) | fail)
        refine rq rfl ?_
        exact fnq
    · have hs := hs hl
      have hV := hd.late
      have hall := (hd.all hl).2.1
      obtain ⟨e1, e2, e3, e4, e5⟩ := tk_late hl
      have hbar := w_Bar j w input x hw e1 e2 e3 e4
      have e5 : tkJ j w input x = _ := e5
      rw [e5] at hs hV hall hlate ⊢
      dsimp only at hs hV hall hlate ⊢
      clear h2 hd hl e5
      generalize barItem (alOffer w.al input x).done = bar at *
      generalize (alOffer w.al input x).late = L at *
      obtain ⟨W0, hW0⟩ : ∃ k : Wk, k = { w with al := (alOffer w.al input x).a } := ⟨_, rfl⟩
      rw [← hW0] at hs hbar ⊢
      rw [if_neg (by simp)]
      obtain ⟨Res, hRes⟩ : ∃ R, R = rnLoop (wkRun j n) L W0 [bar] := ⟨_, rfl⟩
      rw [← hRes]
      have hIH := w_Run j hg n
      have hRK := run_ok j n
      clear hW0 e1 e2 e3 e4
      have hN : L.length ≤ n := by omega
      simp only [RnW.av]
      simp only [Jb.av, Wk.av] at hbar hIH ⊢
      refine PC.mk (ac_body tab_ok Tryz.func14 rfl (by kernel_rfl) rfl ?_); intro w0 M μ0; simp only [Tryz.ntmps14, List.length_cons, List.length_nil, Nat.reduceAdd, Nat.reduceSub, numb]
      repeat' (first | ((first | apply o_do | apply d_do | apply d_yes rfl rfl rfl); first | exact ls_callA [] 10 hbar rfl rfl (by (repeat' (first | exact NilL.nil | refine NilL.cons Nil.same ?_ | refine NilL.cons Nil.nil ?_ | refine NilL.cons (Nil.agg ?_) ?_ | exact Nil1s.nil | refine Nil1s.cons Nil1.same ?_ | refine Nil1s.cons Nil1.nil ?_)); first | done | fail) rfl (by repeat' (first | exact trivial | refine ⟨⟨_, rfl, by first | rfl | (simp [renO, *]; done)⟩, ?_⟩)) (by first | rfl | simp [closO, *]) rfl rfl rfl rfl (by first | rfl | simp [closO, *]) rfl | exact lsq) | refine a_seq ?_ | refine a_region ?_ | refine o_nil ?_ | refine a_block ?_ | refine a_ret ?_ | refine a_exit ?_ | refine a_skip ?_ | refine a_draw mixed ?_ | refine d_nil (by kernel_rfl) ?_ | refine o_yes rfl rfl rfl ?_ | refine o_no rfl rfl rfl (by decide) ?_ | refine o_no' rfl rfl rfl ?_ | refine a_condT rfl ?_ | refine a_condF rfl ?_ | refine d_no rfl rfl rfl (by decide) ?_ | refine d_no' rfl rfl rfl ?_ | (refine wq2 (fun hb => ?_) (fun hb => ?_) <;> (simp only [hb]; try simp only [hbs, ne_eq] at hb; try (exfalso; first | omega | exact hb trivial))) | fail)
      refine a_loop (X := {p : Nat × Wk × List It // p.1 ≤ L.length ∧ Res = rnLoop (wkRun j n) (L.drop p.1) p.2.1 p.2.2 ∧ LpOk p.2.1 p.2.2 p.1})
        (fun p => ⟨[(4, .ref 0 0), (5, .ref 1 0), (8, .ref 3 0), (11, .own 17 (p.1.2.2.map It.av).length), (33, .sl 12 (L.map Lt.av)), (34, .v (.int .i64 L.length)), (35, .v (.int .i64 p.1.1))], [(0, .box 23 (Jb.av j)), (1, .box 42 (Wk.av p.1.2.1)), (3, .box 42 [.v (.slice none 0 0), .v (.slice none 0 0), .v (.slice none 0 0), .v (.int .i64 0), .v (.int .i64 0), .v (.slice none 0 0), .v (.slice none 0 0), .v (.int .i64 0)]), (17, .row 63 11 (p.1.2.2.map It.av))]⟩) (fun p => L.length - p.1.1) ⟨(0, W0, [bar]), Nat.zero_le _, hRes, hs⟩ ?_ ?_
      · unfold Wk.av Jb.av
        exact wkS
      rintro ⟨⟨q, wq, oq⟩, hq, hrun, hlp⟩
      dsimp only at hq hrun hlp ⊢
      unfold Wk.av Jb.av
      by_cases hlt : q < L.length
      · have hel : (L.map Lt.av)[q]? = some (Lt.av L[q]) := by simp [hlt]
        rw [List.drop_eq_getElem_cons hlt] at hrun
        simp only [rnLoop] at hrun
        have hVq := hV L[q] (List.getElem_mem hlt)
        have hheld := hlp.n
        have hr := hIH wq L[q].input L[q].it hlp.ok hlp.hv hVq (by omega)
        have hrk := hRK wq L[q].input L[q].it hlp.ok hlp.hv hVq
        have hst := hlp.step hrk
        have hb1 := lp_len hst (by omega)
        generalize wkRun j n wq L[q].input L[q].it = R at *
        obtain ⟨rw', rt, re⟩ := R
        generalize L[q] = y at *
        simp only [RnW.av] at hr
        dsimp only at hrun hst hb1
        rw [List.length_append] at hb1
        have hb3 : (oq.map It.av).length = oq.length := List.length_map _
        have hb4 : (rt.map It.av).length = rt.length := List.length_map _
        by_cases he : re ≠ 0
        · rw [if_pos he] at hrun
          subst hrun
          unfold rnFail wkZ
          simp only [It.av, Wk.av, List.map_nil] at hr ⊢
          repeat' (first | ((first | apply o_do | apply d_do | apply d_yes rfl rfl rfl); first | exact ls_indexAddr_sl tab_ok rfl rfl rfl rfl hel rfl | exact lsc (hr) | exact lsq) | refine a_seq ?_ | refine a_region ?_ | refine o_nil ?_ | refine a_block ?_ | refine a_ret ?_ | refine a_exit ?_ | refine a_skip ?_ | refine a_draw mixed ?_ | refine d_nil (by kernel_rfl) ?_ | refine o_yes rfl rfl rfl ?_ | refine o_no rfl rfl rfl (by decide) ?_ | refine o_no' rfl rfl rfl ?_ | refine a_condT rfl ?_ | refine a_condF rfl ?_ | refine d_no rfl rfl rfl (by decide) ?_ | refine d_no' rfl rfl rfl ?_ | (refine wq2 (fun hb => ?_) (fun hb => ?_) <;> (simp only [hb]; try simp only [hbs, ne_eq] at hb; try (exfalso; first | omega | exact hb trivial))) | fail)
          refine rq rfl ?_
          exact fnq
        · rw [if_neg he] at hrun
          have he : re = 0 := by omega
          subst he
          simp only [It.av, Wk.av] at hr
          repeat' (first | ((first | apply o_do | apply d_do | apply d_yes rfl rfl rfl); first | exact ls_indexAddr_sl tab_ok rfl rfl rfl rfl hel rfl | exact lsc (hr) | focus (apply ls_append tab_ok rfl rfl ?hn rfl ?hsrc rfl ?hlen rfl rfl; (case hn => rfl); (case hsrc => first | exact SrcIs.sl | exact SrcIs.nil | exact SrcIs.own rfl rfl | fail); (case hlen => (try simp only [List.length_cons, List.length_nil]); omega); first | done | fail) | exact lsq) | refine a_seq ?_ | refine a_region ?_ | refine o_nil ?_ | refine a_block ?_ | refine a_ret ?_ | refine a_exit ?_ | refine a_skip ?_ | refine a_draw mixed ?_ | refine d_nil (by kernel_rfl) ?_ | refine o_yes rfl rfl rfl ?_ | refine o_no rfl rfl rfl (by decide) ?_ | refine o_no' rfl rfl rfl ?_ | refine a_condT rfl ?_ | refine a_condF rfl ?_ | refine d_no rfl rfl rfl (by decide) ?_ | refine d_no' rfl rfl rfl ?_ | (refine wq2 (fun hb => ?_) (fun hb => ?_) <;> (simp only [hb]; try simp only [hbs, ne_eq] at hb; try (exfalso; first | omega | exact hb trivial))) | fail)
          refine ⟨⟨(q + 1, rw', oq ++ rt), by dsimp only; omega, hrun, hst⟩, by dsimp only; omega, ?_⟩
          dsimp only [Wk.av, Jb.av]
          refine ⟨by repeat' (first | exact trivial | exact FinA.one (FinB.cell (FinC.same rfl)) | exact FinA.one (FinB.cell FinC.nil) | exact FinA.bound rfl | exact FinA.one (FinB.cell (FinC.own rfl rfl rfl rfl)) | exact FinA.one (FinB.cell (FinC.v (by first | rfl | ((first | (rw [List.map_append]; done) | (simp only [List.map_append]; done) | simp))))) | exact FinA.one (FinB.cell (FinC.ow rfl (by first | rfl | ((first | (rw [List.map_append]; done) | (simp only [List.map_append]; done) | simp))))) | exact FinA.one (FinB.agg' rfl rfl) | refine ⟨⟨_, rfl, ?_⟩, ?_⟩), by repeat' (first | exact trivial | refine ⟨⟨_, rfl, by first | rfl | ((first | (rw [List.map_append]; done) | (simp only [List.map_append]; done) | simp); done) | (simp [renO, *]; done)⟩, by first | rfl | assumption, ?_⟩), rfl⟩
      · obtain rfl : q = L.length := by omega
        rw [List.drop_length] at hrun
        simp only [rnLoop] at hrun
        subst hrun
        repeat' (first | ((first | apply o_do | apply d_do | apply d_yes rfl rfl rfl); exact lsq) | refine a_seq ?_ | refine a_region ?_ | refine o_nil ?_ | refine a_block ?_ | refine a_ret ?_ | refine a_exit ?_ | refine a_skip ?_ | refine a_draw mixed ?_ | refine d_nil (by kernel_rfl) ?_ | refine o_yes rfl rfl rfl ?_ | refine o_no rfl rfl rfl (by decide) ?_ | refine o_no' rfl rfl rfl ?_ | refine a_condT rfl ?_ | refine a_condF rfl ?_ | refine d_no rfl rfl rfl (by decide) ?_ | refine d_no' rfl rfl rfl ?_ | (refine wq2 (fun hb => ?_) (fun hb => ?_) <;> (simp only [hb]; try simp only [hbs, ne_eq] at hb; try (exfalso; first | omega | exact hb trivial))) | fail)
        refine rq rfl ?_
        exact fnq
end Go.Proofs.YtilgagmfcdfjaaaGreat
