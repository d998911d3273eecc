/-
  A worker that is told events and marks by inputs: what it holds and tells. Plain.
  A worker that is told an event, or a mark, by an input. Plain.
  Sources that go on one by one, and what a worker of them has taken. Plain.
  A turn of a source, told to a worker item by item. Plain.
  Items told to a worker one behind the other: values, marks, results. Plain.
  A worker that is told the next item of a row, whichever row. Plain.
  The items that a source tells from its beginning to its end. Plain.
  The helpers of the laws of workers that are played, walked over abstract values.
  A turn of a source, with what the program's source.Next tells.
-/
import Derived.Test.YtilgagmfcdfjaaaGreatL4
import Derived.Test.YtilgagmfcdfjaaaGreatL13
import Derived.Test.YtilgagmfcdfjaaaGreatL14
import Derived.Test.YtilgagmfcdfjaaaGreatL16
import Derived.Test.YtilgagmfcdfjaaaGreatL17
namespace Go.Proofs.YtilgagmfcdfjaaaGreat
open Go.RowKit
set_option linter.unusedSimpArgs false
set_option linter.unusedVariables false
def inG (j : Jb) (no : Int) (v : Vl) : Bool := decide (grpV v.key.data.toList j.g = no)
/-- the panes of all values of a group -/
def allG (j : Jb) (V : List Vl) (no : Int) : List Pn := rowV j.k (V.filter (inG j no))
def gpOf (j : Jb) (V : List Vl) (told no : Int) : Gp := ⟨no, told, dueB (allG j V no) told⟩
/-- what stands fast -/
structure JG (j : Jb) (nos : List Int) : Prop where
  ok : jobOK j.g j.s j.d j.k j.fu j.li j.de j.id = true
  lt : nos.Pairwise (· < ·)
  rng : ∀ no ∈ nos, 0 ≤ no ∧ no < 32
structure MG (mk : List Int) : Prop where
  n1 : 1 ≤ mk.length
  n8 : mk.length ≤ 8
  rng : ∀ t ∈ mk, 0 ≤ t ∧ t ≤ 1099511627776
structure VG (k : Int) (V : List Vl) : Prop where
  ok : ∀ x ∈ V, okV k x = true
  len : V.length ≤ 900000
  few : (rowV k V).length ≤ 2000
structure WI (j : Jb) (nos : List Int) (V : List Vl) (mk : List Int) (w : Wk) : Prop where
  gs : w.gs = nos.map (gpOf j V w.told)
  mks : w.mks = ⟨mk.map fun t => (t, false), [], w.told⟩
  al : w.al = ⟨0, List.replicate mk.length false, List.replicate mk.length []⟩
  told : w.told = firstT mk
section
variable {j : Jb} {nos : List Int} {V : List Vl} {mk : List Int} {w : Wk} {no : Int}
theorem JG.job (h : JG j nos) : jobR j.s j.d j.k = true ∧ fRight j.k = true ∧ winB j.s j.d = true := by
  have := h.ok
  simp only [jobOK, Bool.and_eq_true] at this
  exact ⟨by unfold jobR; simp [this.2.2.1, this.2.2.2.1], this.2.2.2.1, this.2.2.1⟩
theorem VG.sub {k : Int} (h : VG k V) (p : Vl → Bool) : VG k (V.filter p) :=
  ⟨fun x hx => h.ok x (List.mem_filter.1 hx).1, Nat.le_trans (List.length_filter_le _ _) h.len, Nat.le_trans (row_sub p (by have := h.len; omega) h.ok) h.few⟩
theorem VG.right {k : Int} (h : VG k V) : rightL (rowV k V) = true := rowM_right h.ok (by have := h.len; omega) h.few
theorem allG_right (h : VG j.k V) (no : Int) : rightL (allG j V no) = true := (h.sub _).right
theorem sorted_row (k : Int) (vs : List Vl) : (rowV k vs).Pairwise (fun p q => ahead p q = true) := insAll_sorted List.Pairwise.nil
theorem firstT_range : ∀ (l : List Int), 0 ≤ firstT l ∧ firstT l ≤ 1099511627776 := by
  intro l
  refine rev_ind (p := fun l => 0 ≤ firstT l ∧ firstT l ≤ 1099511627776) (by decide) (fun l t ih => ?_) l
  rw [firstT_snoc]
  have := clampT_in t
  omega
theorem firstT_le : ∀ {l : List Int} {t : Int}, t ∈ l → firstT l ≤ clampT t := by
  intro l
  refine rev_ind (p := fun l => ∀ {t : Int}, t ∈ l → firstT l ≤ clampT t) (by intro t h; cases h) (fun l x ih => ?_) l
  intro t h
  rw [firstT_snoc]
  rcases List.mem_append.1 h with h | h
  · have := ih h; omega
  · rw [List.mem_singleton.1 h]; omega
theorem le_firstT {a : Int} (ha : a ≤ 1099511627776) : ∀ {l : List Int}, (∀ t ∈ l, a ≤ clampT t) → a ≤ firstT l := by
  intro l
  refine rev_ind (p := fun l => (∀ t ∈ l, a ≤ clampT t) → a ≤ firstT l) (fun _ => ha) (fun l x ih => ?_) l
  intro h
  rw [firstT_snoc]
  have h1 := ih fun t ht => h t (by simp [ht])
  have h2 := h x (by simp)
  omega
theorem dueB_hi {l : List Pn} {m : Int} : ∀ p ∈ dueB l m, m < p.hi := by
  intro p hp
  have := (List.mem_filter.1 hp).2
  simp at this
  exact this
theorem gp_right (hJ : JG j nos) (hV : VG j.k V) {told : Int} (ht : 0 ≤ told ∧ told ≤ 1099511627776) (hn : no ∈ nos) : grR no told (dueB (allG j V no) told) = true :=
  grR_iff.2 ⟨(hJ.rng no hn).1, (hJ.rng no hn).2, ht.1, ht.2, rightL_sub (dueB_sub _ _) (allG_right hV no), dueB_hi⟩
theorem WI.right (hJ : JG j nos) (hM : MG mk) (hV : VG j.k V) (h : WI j nos V mk w) : wkR w = true := by
  have ht := firstT_range mk
  rw [← h.told] at ht
  have h1 : gsR w.gs = true := by
    unfold gsR
    rw [List.all_eq_true]
    intro i hi
    have hi := List.mem_range.1 hi
    rw [h.gs, List.length_map] at hi
    unfold gpG
    have e : ∀ q, q < nos.length → w.gs.getD q ⟨0, 0, []⟩ = gpOf j V w.told (nos.getD q 0) := by
      intro q hq
      rw [h.gs]
      simp [List.getD, hq]
    rw [e i hi]
    have hm : nos.getD i 0 ∈ nos := by simp [List.getD, hi]
    have hg := gp_right hJ hV ht hm
    unfold gpOf
    dsimp only
    rw [hg, Bool.true_and]
    rcases Nat.eq_zero_or_pos i with h0 | h0
    · simp [h0]
    · rw [e (i - 1) (by omega)]
      have : nos.getD (i - 1) 0 < nos.getD i 0 := by
        have e1 : nos.getD (i - 1) 0 = nos[i - 1] := by simp [List.getD, show i - 1 < nos.length by omega]
        have e2 : nos.getD i 0 = nos[i] := by simp [List.getD, hi]
        rw [e1, e2]
        exact List.pairwise_iff_getElem.1 hJ.lt (i - 1) i (by omega) hi (by omega)
      unfold gpOf
      dsimp only
      rw [decide_eq_true this]; simp
  have h2 : mkR w.mks = true := by
    rw [h.mks]
    unfold mkR
    simp only [List.length_map, List.length_nil, List.range_zero, List.all_nil, Bool.true_and, Bool.and_eq_true, decide_eq_true_eq, List.all_map, List.all_eq_true, tmR, Function.comp]
    exact ⟨hM.n1, hM.n8, by omega, ⟨ht.1, ht.2⟩, fun t htm => hM.rng t htm⟩
  have h3 : alR w.al = true := by
    rw [h.al]
    unfold alR
    have hm8 := hM.n8
    have := hM.n1
    simp only [List.length_replicate, Bool.and_eq_true, decide_eq_true_eq]
    refine ⟨hM.n1, hM.n8, trivial, by omega, by omega, by simp, ?_, ?_⟩
    · simp [List.any_replicate]
      intro e
      rw [e] at this
      simp_all
    · rw [List.all_eq_true]
      intro q hq
      have hq := List.mem_range.1 hq
      unfold heG
      simp [List.getD, hq]
  have e1 : w.mks.hs.length = 0 := by rw [h.mks]; rfl
  have e2 : w.al.got.length = w.mks.ins.length := by rw [h.mks, h.al]; simp
  unfold wkR
  rw [h1, h2, h3, decide_eq_true e1, decide_eq_true e2, decide_eq_true ht.1, decide_eq_true ht.2]
  rfl
/-- an item that goes through at once -/
theorem al_pass (hM : MG mk) (h : WI j nos V mk w) (hR : wkR w = true) {q : Nat} (hq : q < mk.length) {x : It} (hx : itR x = true) (h4 : x.kind ≠ 4) : alOffer w.al (q : Int) x = ⟨w.al, true, 0, [], 0⟩ := by
  have hal : alR w.al = true := by
    unfold wkR at hR
    simp only [Bool.and_eq_true] at hR
    exact hR.2.2.2.1
  have hhas : alHas w.al (q : Int) = true := by
    unfold alHas
    rw [hal, h.al]
    simp only [List.length_replicate, Bool.true_and, Bool.and_eq_true, decide_eq_true_eq]
    omega
  have hg : w.al.got.getD (q : Int).toNat false = false := by
    rw [h.al]
    simp [List.getD, hq]
  unfold alOffer
  rw [hhas, hx, hg, if_neg (by simp), if_neg (by simp), if_pos h4]
theorem mk_set (hM : MG mk) (h : WI j nos V mk w) (hR : wkR w = true) {q : Nat} (hq : q < mk.length) (t : Int) : mkSet w.mks (q : Int) t = ⟨⟨(mk.set q (max mk[q] (clampT t))).map fun t => (t, false), [], w.told⟩, 0⟩ := by
  have hm : mkR w.mks = true := by
    unfold wkR at hR
    simp only [Bool.and_eq_true] at hR
    exact hR.2.1
  have hin : mkIn w.mks (q : Int) = true := by
    unfold mkIn
    rw [hm, h.mks]
    simp only [List.length_map, Bool.true_and, Bool.and_eq_true, decide_eq_true_eq]
    omega
  unfold mkSet
  rw [hin, if_neg (by simp), h.mks]
  unfold mkPut
  simp [List.getD, hq, List.map_set]
theorem mk_tell {mk' : List Int} {told : Int} (hM : MG mk') (ht : 0 ≤ told ∧ told ≤ 1099511627776) : mkTell ⟨mk'.map fun t => (t, false), [], told⟩ = if firstT mk' ≤ told then ⟨⟨mk'.map fun t => (t, false), [], told⟩, told, false⟩ else ⟨⟨mk'.map fun t => (t, false), [], firstT mk'⟩, firstT mk', true⟩ := by
  have hm : mkR ⟨mk'.map fun t => (t, false), [], told⟩ = true := by
    unfold mkR
    simp only [List.length_map, List.length_nil, List.range_zero, List.all_nil, Bool.true_and, Bool.and_eq_true, decide_eq_true_eq, List.all_map, List.all_eq_true, tmR, Function.comp]
    exact ⟨hM.n1, hM.n8, by omega, ⟨ht.1, ht.2⟩, fun t htm => hM.rng t htm⟩
  have hb : backI (mk'.map fun t => (t, false)) = mk' := by
    unfold backI
    rw [List.filter_eq_self.2 (by intro a ha; obtain ⟨t, _, rfl⟩ := List.mem_map.1 ha; rfl), List.map_map]
    exact List.map_id' mk'
  have hne : mk' ≠ [] := by
    intro e
    have := hM.n1
    rw [e] at this; simp at this
  unfold mkTell
  rw [hm, if_neg (by simp), hb]
  show (if mk' ++ backH [] = [] ∨ firstT (mk' ++ backH []) ≤ told then _ else _) = _
  have e0 : backH ([] : List (Int × Int)) = [] := rfl
  rw [e0, List.append_nil]
  by_cases hf : firstT mk' ≤ told
  · rw [if_pos (.inr hf), if_pos hf]
  · rw [if_neg (by intro h; rcases h with h | h; exact hne h; exact hf h), if_neg hf]
theorem MG.set (hM : MG mk) {q : Nat} (hq : q < mk.length) (t : Int) : MG (mk.set q (max mk[q] (clampT t))) := by
  refine ⟨by rw [List.length_set]; exact hM.n1, by rw [List.length_set]; exact hM.n8, fun x hx => ?_⟩
  rcases List.mem_or_eq_of_mem_set hx with h | h
  · exact hM.rng x h
  · have := hM.rng _ (List.getElem_mem hq)
    have h2 := clampT_in t
    rw [h]
    unfold clampT at *
    omega
theorem set_mono (hM : MG mk) {q : Nat} (hq : q < mk.length) (t : Int) : firstT mk ≤ firstT (mk.set q (max mk[q] (clampT t))) := by
  refine le_firstT (firstT_range mk).2 fun x hx => ?_
  have hx2 := (hM.set hq t).rng x hx
  have hc : clampT x = x := by unfold clampT; omega
  rw [hc]
  rcases List.mem_or_eq_of_mem_set hx with h | h
  · have := firstT_le h; rw [hc] at this; exact this
  · have h1 := firstT_le (List.getElem_mem hq)
    have h3 := hM.rng _ (List.getElem_mem hq)
    have hc2 : clampT mk[q] = mk[q] := by unfold clampT; omega
    rw [hc2] at h1
    omega
end
section
variable {j : Jb} {nos : List Int} {V : List Vl} {mk : List Int} {w : Wk} {no : Int} {e : Et} {s d k : Int}
theorem VG.pre {W : List Vl} (h : VG k (V ++ W)) : VG k V :=
  ⟨fun x hx => h.ok x (by simp [hx]), by have := h.len; rw [List.length_append] at this; omega, Nat.le_trans rowM_mono h.few⟩
theorem vals_key : ∀ v ∈ valsV s d e, v.key = e.key := by
  intro v hv
  obtain ⟨w, _, rfl⟩ := List.mem_map.1 hv
  rfl
theorem vals_hi (h : okT s d e.at' = true) : ∀ v ∈ valsV s d e, e.at' < v.hi := by
  intro v hv
  obtain ⟨w, hw, rfl⟩ := List.mem_map.1 hv
  exact ((win_holds h h hw).1 hw).2
theorem open_all (h : okT s d e.at' = true) {told : Int} (ht : told ≤ e.at') : openL s d e.at' told = winL s d e.at' := by
  unfold openL openW
  refine List.filter_eq_self.2 fun w hw => ?_
  have := ((win_holds h h hw).1 hw).2
  simp [closedW]
  omega
theorem inG_vals (hno : grpV e.key.data.toList j.g = no) : ∀ v ∈ valsV s d e, inG j no v = true := by
  intro v hv
  unfold inG
  rw [vals_key v hv, hno]; simp
theorem inG_other {no' : Int} (hno : grpV e.key.data.toList j.g = no) (hne : no' ≠ no) : ∀ v ∈ valsV s d e, inG j no' v = false := by
  intro v hv
  unfold inG
  rw [vals_key v hv, hno]
  simp [Ne.symm hne]
theorem filter_none' {α : Type} {p : α → Bool} {l : List α} (h : ∀ x ∈ l, p x = false) : l.filter p = [] := by
  rw [List.filter_eq_nil_iff]
  intro x hx; rw [h x hx]; simp
theorem filter_all' {α : Type} {p : α → Bool} {l : List α} (h : ∀ x ∈ l, p x = true) : l.filter p = l := List.filter_eq_self.2 h
/-- an event put into its group -/
theorem take_gp (hJ : JG j nos) (hV : VG j.k (V ++ valsV j.s j.d e)) (he : evR e.key e.at' = true) (hno : grpV e.key.data.toList j.g = no) (hn : no ∈ nos) {told : Int} (ht : 0 ≤ told ∧ told ≤ 1099511627776) (hat : told ≤ e.at') :
    (gpTake j (evItem e) (gpOf j V told no)).gp = gpOf j (V ++ valsV j.s j.d e) told no ∧ (gpTake j (evItem e) (gpOf j V told no)).e = 0 := by
  obtain ⟨hj, hk, hw⟩ := hJ.job
  have hT := okT_of hw he
  have hV0 := hV.pre
  have hg := gp_right hJ hV0 ht hn
  have hX : dueB (allG j V no) told = rowV j.k ((V.filter (inG j no)).filter fun v => !decide (v.hi ≤ told)) := dueB_row _ _
  have hY : dueB (allG j (V ++ valsV j.s j.d e) no) told = rowV j.k ((V.filter (inG j no)).filter (fun v => !decide (v.hi ≤ told)) ++ valsV j.s j.d e) := by
    unfold allG
    rw [dueB_row, List.filter_append, List.filter_append, filter_all' (inG_vals (j := j) hno), filter_all' (l := valsV j.s j.d e)]
    intro v hv
    have := vals_hi hT v hv
    simp; omega
  have hsub : VG j.k ((V.filter (inG j no)).filter (fun v => !decide (v.hi ≤ told)) ++ valsV j.s j.d e) := by
    have h1 := (hV.sub (inG j no)).sub (fun v => !decide (v.hi ≤ told))
    rw [List.filter_append, List.filter_append, filter_all' (inG_vals (j := j) hno), filter_all' (l := valsV j.s j.d e)] at h1
    · exact h1
    · intro v hv
      have := vals_hi hT v hv
      simp; omega
  have hT2 := take_row (s := j.s) (d := j.d) (e := e) (vs := (V.filter (inG j no)).filter fun v => !decide (v.hi ≤ told)) hk hw he hsub.pre.ok hsub.pre.len hsub.pre.few
  rw [if_pos hsub.few] at hT2
  have hres : gpTake j (evItem e) (gpOf j V told no) = ⟨no, told, dueB (allG j (V ++ valsV j.s j.d e) no) told, (winL j.s j.d e.at').length, 0⟩ := by
    unfold gpTake evItem gpOf takeR
    dsimp only
    rw [hj, if_neg (by simp), hg, he, if_neg (by simp), open_all hT hat, hX, hT2, if_pos rfl, hY]
  rw [hres]
  exact ⟨rfl, rfl⟩
theorem groups_put (hJ : JG j nos) (hV : VG j.k (V ++ valsV j.s j.d e)) (he : evR e.key e.at' = true) (hno : grpV e.key.data.toList j.g = no) (hn : no ∈ nos) {told : Int} (ht : 0 ≤ told ∧ told ≤ 1099511627776) (hat : told ≤ e.at') (hR : gsR (nos.map (gpOf j V told)) = true) :
    putM j no (evItem e) (nos.map (gpOf j V told)) = nos.map (gpOf j (V ++ valsV j.s j.d e) told) ∧ putB j no (evItem e) (nos.map (gpOf j V told)) = 0 := by
  obtain ⟨t1, t2⟩ := take_gp hJ hV he hno hn ht hat
  constructor
  · unfold putM
    rw [List.map_map]
    refine List.map_congr_left fun n' hn' => ?_
    show (if (gpOf j V told n').no = no then (gpTake j (evItem e) (gpOf j V told n')).gp else gpOf j V told n') = _
    by_cases h : n' = no
    · subst h
      rw [show (gpOf j V told n').no = n' from rfl, if_pos rfl, t1]
    · rw [show (gpOf j V told n').no = n' from rfl, if_neg h]
      unfold gpOf allG
      rw [List.filter_append, filter_none' (inG_other (j := j) hno h), List.append_nil]
  · obtain ⟨p, hp, hpe⟩ := List.getElem_of_mem hn
    have hq : p < (nos.map (gpOf j V told)).length := by rw [List.length_map]; exact hp
    have h1 := (put_at (j := j) (no := no) (x := evItem e) hR hq (by rw [List.getElem_map]; exact hpe)).2
    rw [h1, List.getElem_map, hpe, t2]
theorem itR_ev (he : evR e.key e.at' = true) : itR (evItem e) = true := by
  unfold itR evItem
  simp [he, noR]
theorem ev_step (hJ : JG j nos) (hM : MG mk) (hV : VG j.k (V ++ valsV j.s j.d e)) (h : WI j nos V mk w) (he : evR e.key e.at' = true) (hn : grpV e.key.data.toList j.g ∈ nos) {q : Nat} (hq : q < mk.length) (hat : w.told ≤ e.at') (n : Nat) :
    ∃ w', wkRun j (n + 1) w (q : Int) (evItem e) = ⟨w', [], 0⟩ ∧ WI j nos (V ++ valsV j.s j.d e) mk w' ∧ w'.told = w.told := by
  have hR := h.right hJ hM hV.pre
  have ht := firstT_range mk
  rw [← h.told] at ht
  have hgs : gsR (nos.map (gpOf j V w.told)) = true := by
    have := hR
    unfold wkR at this
    simp only [Bool.and_eq_true] at this
    rw [← h.gs]; exact this.1
  obtain ⟨p1, p2⟩ := groups_put hJ hV he rfl hn ht hat hgs
  have hal := al_pass hM h hR hq (itR_ev he) (show (1 : Int) ≠ 4 by decide)
  have hms := mk_set hM h hR hq 0
  have hm0 : max mk[q] (clampT 0) = mk[q] := by
    have := hM.rng _ (List.getElem_mem hq)
    unfold clampT; omega
  rw [hm0, List.set_getElem_self] at hms
  have htl := mk_tell (told := w.told) hM ht
  rw [if_pos (by rw [h.told]; exact Int.le_refl _)] at htl
  refine ⟨⟨nos.map (gpOf j (V ++ valsV j.s j.d e) w.told), ⟨mk.map fun t => (t, false), [], w.told⟩, w.al, w.told⟩, ?_, ⟨rfl, rfl, h.al, h.told⟩, rfl⟩
  have hk1 : (evItem e).kind = 1 := rfl
  have hTk : tkJ j w (q : Int) (evItem e) = ⟨⟨nos.map (gpOf j (V ++ valsV j.s j.d e) w.told), ⟨mk.map fun t => (t, false), [], w.told⟩, w.al, w.told⟩, [], [], 0⟩ := by
    unfold tkJ wkTake
    rw [hJ.ok, if_neg (by simp), hR, itR_ev he, if_neg (by rw [hk1]; simp), hal]
    dsimp only
    rw [if_neg (by simp), if_neg (by simp), if_neg (by simp), if_pos hk1]
    rw [show (evItem e).key = e.key from rfl, h.gs, p1, p2, if_neg (by simp), hms]
    unfold wkGo
    dsimp only
    rw [htl]
    rfl
  rw [wkRun, hTk]
  rfl
/-- what groups tell at a time -/
def toldG (j : Jb) (nos : List Int) (V : List Vl) (told t : Int) : List It := nos.flatMap fun no => (resultsL j.k (dueA (dueB (allG j V no) told) t)).map resItem
theorem mk_step (hJ : JG j nos) (hM : MG mk) (hV : VG j.k V) (h : WI j nos V mk w) {q : Nat} (hq : q < mk.length) {t : Int} (ht : 0 ≤ t ∧ t ≤ 1099511627776) (n : Nat) :
    ∃ w', wkRun j (n + 1) w (q : Int) (markItem t) = ⟨w', if w.told < w'.told then toldG j nos V w.told w'.told ++ [markItem w'.told] else [], 0⟩ ∧ WI j nos V (mk.set q (max mk[q] t)) w' ∧ w.told ≤ w'.told := by
  have hR := h.right hJ hM hV
  have hr := firstT_range mk
  rw [← h.told] at hr
  have hct : clampT t = t := by unfold clampT; omega
  have hms := mk_set hM h hR hq t
  have hM' := hM.set hq t
  have hmo := set_mono hM hq t
  rw [hct] at hms hM' hmo
  have hit : itR (markItem t) = true := by
    unfold itR markItem
    simp [noR, noE, ht.1, ht.2]
  have hal := al_pass hM h hR hq hit (show (2 : Int) ≠ 4 by decide)
  have htl := mk_tell (told := w.told) hM' hr
  rw [← h.told] at hmo
  have hk2 : (markItem t).kind = 2 := rfl
  have hlen : (mk.set q (max mk[q] t)).length = mk.length := List.length_set
  generalize hmk : mk.set q (max mk[q] t) = mk' at *
  by_cases hf : firstT mk' ≤ w.told
  · rw [if_pos hf] at htl
    have he : w.told = firstT mk' := by omega
    refine ⟨⟨w.gs, ⟨mk'.map fun t => (t, false), [], w.told⟩, w.al, w.told⟩, ?_, ⟨h.gs, rfl, by rw [hlen]; exact h.al, he⟩, Int.le_refl _⟩
    dsimp only
    rw [if_neg (Int.lt_irrefl _)]
    have hTk : tkJ j w (q : Int) (markItem t) = ⟨⟨w.gs, ⟨mk'.map fun t => (t, false), [], w.told⟩, w.al, w.told⟩, [], [], 0⟩ := by
      unfold tkJ wkTake
      rw [hJ.ok, if_neg (by simp), hR, hit, if_neg (by rw [hk2]; simp), hal]
      dsimp only
      rw [if_neg (by simp), if_neg (by simp), if_neg (by simp), if_neg (by rw [hk2]; decide), if_pos hk2]
      rw [show (markItem t).mark = t from rfl, hms]
      unfold wkGo
      dsimp only
      rw [htl]
      rfl
    rw [wkRun, hTk]
    rfl
  · rw [if_neg hf] at htl
    obtain ⟨hj, hk, _⟩ := hJ.job
    have hfr := firstT_range mk'
    generalize hT : firstT mk' = T at *
    have hadv : ∀ no ∈ nos, gpAdv j T (gpOf j V w.told no) = ⟨no, T, dueB (allG j V no) T, resultsL j.k (dueA (dueB (allG j V no) w.told) T), 0⟩ := by
      intro no hn
      have hg := gp_right hJ hV hr hn
      have hrt := (grR_iff.1 hg).2.2.2.2.1
      have hmin : min T 1099511627776 = T := by omega
      unfold gpAdv gpOf adv
      dsimp only
      rw [hj, if_neg (by simp), hg, if_neg (by simp), if_neg (by omega), hmin]
      unfold dueRB dueRA
      rw [if_pos hrt, if_pos hrt, dueB_dueB _ (by omega)]
    refine ⟨⟨nos.map (gpOf j V T), ⟨mk'.map fun t => (t, false), [], T⟩, w.al, T⟩, ?_, ⟨rfl, rfl, by rw [hlen]; exact h.al, hT.symm⟩, by dsimp only; omega⟩
    dsimp only
    rw [if_pos (by omega)]
    have e1 : advM j T w.gs = nos.map (gpOf j V T) := by
      unfold advM
      rw [h.gs, List.map_map]
      refine List.map_congr_left fun no hn => ?_
      show (gpAdv j T (gpOf j V w.told no)).gp = _
      rw [hadv no hn]; rfl
    have e2 : advT j T w.gs = toldG j nos V w.told T := by
      unfold advT toldG
      rw [h.gs, List.flatMap_map]
      rw [List.flatMap_def, List.flatMap_def]
      refine congrArg List.flatten (List.map_congr_left fun no hn => ?_)
      rw [hadv no hn]
    have hTk : tkJ j w (q : Int) (markItem t) = ⟨⟨nos.map (gpOf j V T), ⟨mk'.map fun t => (t, false), [], T⟩, w.al, T⟩, toldG j nos V w.told T ++ [markItem T], [], 0⟩ := by
      unfold tkJ wkTake
      rw [hJ.ok, if_neg (by simp), hR, hit, if_neg (by rw [hk2]; simp), hal]
      dsimp only
      rw [if_neg (by simp), if_neg (by simp), if_neg (by simp), if_neg (by rw [hk2]; decide), if_pos hk2]
      rw [show (markItem t).mark = t from rfl, hms]
      unfold wkGo
      dsimp only
      rw [htl]
      dsimp only
      rw [if_pos rfl, e1, e2]
    rw [wkRun, hTk]
    rfl
end
/-- a source behind so many events -/
structure Src where
  es : List Et
  n : Nat
  en : Bool
def Src.sr (de : Int) (s : Src) : Sr := ⟨s.es, s.n, markE de 0 (s.es.take s.n), 0, s.en⟩
def Src.mk' (de : Int) (s : Src) : Int := if s.en = true then 1099511627776 else markE de 0 (s.es.take s.n)
structure SrcOk (s : Src) : Prop where
  n : s.n ≤ s.es.length
  en : s.en = true → s.n = s.es.length
  ev : ∀ e ∈ s.es, evR e.key e.at' = true
  len : s.es.length ≤ 200
section
variable {li fu de : Int} {s : Src} {ss : List Src}
theorem ev_at {k : ByteArray} {t : Int} (h : evR k t = true) : 0 ≤ t ∧ t < 1099511627776 := by
  unfold evR at h
  simp only [Bool.and_eq_true, decide_eq_true_eq] at h
  exact h.2
theorem subT_lt {t : Int} (h : 0 ≤ t ∧ t < 1099511627776) (hd : 0 ≤ de) : 0 ≤ subT t de ∧ subT t de < 1099511627776 := by
  unfold subT clampT
  omega
theorem markE_lt (hd : 0 ≤ de) : ∀ {es : List Et} {m : Int}, 0 ≤ m ∧ m < 1099511627776 → (∀ e ∈ es, evR e.key e.at' = true) → 0 ≤ markE de m es ∧ markE de m es < 1099511627776
  | [], m, hm, _ => hm
  | e :: es, m, hm, h => by
    have h1 := subT_lt (ev_at (h e (by simp))) hd
    exact markE_lt hd (es := es) (m := max m (subT e.at' de)) (by omega) fun x hx => h x (by simp [hx])
theorem SrcOk.mark (h : SrcOk s) (hd : 0 ≤ de) : 0 ≤ markE de 0 (s.es.take s.n) ∧ markE de 0 (s.es.take s.n) < 1099511627776 :=
  markE_lt hd ⟨by omega, by omega⟩ fun e he => h.ev e (List.mem_of_mem_take he)
theorem SrcOk.mk_in (h : SrcOk s) (hd : 0 ≤ de) : 0 ≤ s.mk' de ∧ s.mk' de ≤ 1099511627776 := by
  have := h.mark hd
  unfold Src.mk'
  split <;> omega
theorem SrcOk.right (h : SrcOk s) (hd : 0 ≤ de) : srR (s.sr de) = true := by
  have h1 := h.mark hd
  have h2 := h.n
  have h3 := h.len
  have ho : okIn [s.es] = true := by
    unfold okIn okEs
    simp [h3, h.ev]
    exact fun e he => h.ev e he
  unfold srR Src.sr
  dsimp only
  rw [ho]
  simp only [Bool.true_and, Bool.and_eq_true, decide_eq_true_eq, Bool.or_eq_true, Bool.not_eq_true']
  refine ⟨by omega, by omega, h1.1, by omega, by omega, by omega, ?_⟩
  cases he : s.en
  · exact .inl rfl
  · exact .inr (by rw [h.en he])
/-! a step of one of them -/
theorem set_flat {α β : Type} (f : α → List β) : ∀ {l : List α} {q : Nat} {x y : α} {z : List β}, l[q]? = some x → f y = f x ++ z → ((l.set q y).flatMap f).Perm (l.flatMap f ++ z)
  | [], _, _, _, _, h, _ => by simp at h
  | a :: l, 0, x, y, z, h, he => by
    simp only [List.getElem?_cons_zero, Option.some.injEq] at h
    subst h
    rw [List.set_cons_zero, List.flatMap_cons, List.flatMap_cons, he, List.append_assoc, List.append_assoc]
    exact List.Perm.append_left _ List.perm_append_comm
  | a :: l, q + 1, x, y, z, h, he => by
    rw [List.set_cons_succ, List.flatMap_cons, List.flatMap_cons, List.append_assoc]
    exact List.Perm.append_left _ (set_flat f (by simpa using h) he)
end
theorem goV_rng (lim : Int) : ∀ (f : Nat) (v : Int) (n : Nat), (-9223372036854775808 ≤ v ∧ v ≤ 9223372036854775807) → (-9223372036854775808 ≤ (goV lim f v n).1 ∧ (goV lim f v n).1 ≤ 9223372036854775807)
  | 0, v, n, h => h
  | f + 1, v, n, h => by
    unfold goV
    split
    · exact h
    · exact goV_rng lim f _ _ (halfI_range h)
theorem WI.okk {j : Jb} {nos : List Int} {V : List Vl} {mk : List Int} {w : Wk} (hJ : JG j nos) (hM : MG mk) (hV : VG j.k V) (h : WI j nos V mk w) : WkOk w ∧ HV w ∧ heldN w.al < 1 := by
  have hn : nos.length ≤ 9223372036854775807 := by
    refine Classical.byContradiction fun hc => ?_
    have h0 : ∀ i, (hi : i < nos.length) → (i : Int) ≤ nos[i] := by
      intro i
      induction i with
      | zero => intro hi; exact (hJ.rng _ (List.getElem_mem hi)).1
      | succ i ih =>
        intro hi
        have h1 := ih (by omega)
        have h2 := List.pairwise_iff_getElem.1 hJ.lt i (i + 1) (by omega) hi (by omega)
        omega
    have := h0 32 (by omega)
    have := (hJ.rng _ (List.getElem_mem (show 32 < nos.length by omega))).2
    omega
  have hm8 := hM.n8
  refine ⟨⟨?_, ?_, ?_, ?_, ?_, ?_, ?_⟩, ?_, ?_⟩
  · rw [h.gs, List.length_map]; exact hn
  · intro g hg
    rw [h.gs] at hg
    obtain ⟨no, _, rfl⟩ := List.mem_map.1 hg
    have h1 : (dueB (allG j V no) w.told).length ≤ (allG j V no).length := List.length_filter_le _ _
    have h2 := (hV.sub (inG j no)).few
    show (dueB (allG j V no) w.told).length ≤ _
    unfold allG at *
    omega
  · rw [h.mks]; simp; omega
  · rw [h.mks]; simp
  · rw [h.al]; simp; omega
  · rw [h.al]; simp; omega
  · intro l hl
    rw [h.al] at hl
    have := List.eq_of_mem_replicate hl
    subst this; simp
  · intro l hl x hx
    rw [h.al] at hl
    have := List.eq_of_mem_replicate hl
    subst this; simp at hx
  · rw [h.al]
    unfold heldN
    simp
/-- what all sources keep in the end -/
structure TG (j : Jb) (nos : List Int) (T : List Et) : Prop where
  jg : JG j nos
  all : ∀ e ∈ T, grpV e.key.data.toList j.g ∈ nos
  ev : ∀ e ∈ T, evR e.key e.at' = true
  len : T.length ≤ 1000
  few : (rowV j.k (allVals j.s j.d T)).length ≤ 2000
section
variable {j : Jb} {nos : List Int} {T K R : List Et} {mk : List Int} {w : Wk} {ss : List Src} {s : Src} {q : Nat}
theorem TG.vg (h : TG j nos T) (hp : T.Perm (K ++ R)) : VG j.k (allVals j.s j.d K) := by
  obtain ⟨_, hk, hw⟩ := h.jg.job
  have hmem : ∀ e ∈ K, e ∈ T := fun e he => hp.mem_iff.2 (by simp [he])
  have hlen : K.length + R.length = T.length := by rw [hp.length_eq, List.length_append]
  have hl := h.len
  have h1 := allVals_len (s := j.s) (d := j.d) (es := K)
  have h2 := allVals_len (s := j.s) (d := j.d) (es := T)
  refine ⟨allVals_ok hk hw fun e he => h.ev e (hmem e he), by omega, ?_⟩
  have hp2 : (allVals j.s j.d T).Perm (allVals j.s j.d K ++ allVals j.s j.d R) := by
    unfold allVals
    rw [← List.flatMap_append]
    exact hp.flatMap_right _
  have := h.few
  rw [rowM_perm hp2 (by omega) (allVals_ok hk hw h.ev)] at this
  exact Nat.le_trans rowM_mono this
theorem firstT_end {l : List Int} (h : ∀ t ∈ l, 0 ≤ t ∧ t ≤ 1099511627776) : firstT l = 1099511627776 ↔ ∀ t ∈ l, t = 1099511627776 := by
  constructor
  · intro he t ht
    have h1 := firstT_le ht
    have h2 := h t ht
    unfold clampT at h1
    omega
  · intro he
    have h1 := le_firstT (a := 1099511627776) (by omega) (l := l) fun t ht => by rw [he t ht]; decide
    have := firstT_range l
    omega
theorem firstT_under {l : List Int} (h : ∀ t ∈ l, 0 ≤ t ∧ t ≤ 1099511627776) : ∀ t ∈ l, firstT l ≤ t := by
  intro t ht
  have h1 := firstT_le ht
  have h2 := h t ht
  unfold clampT at h1
  omega
/-- between turns -/
structure Rn (j : Jb) (ss : List Src) (T : List Et) : Prop where
  ok : ∀ s ∈ ss, SrcOk s
  n1 : 1 ≤ ss.length
  n8 : ss.length ≤ 8
  de : 0 ≤ j.de
  all : T = allK j.li j.fu j.de (ss.map Src.es)
theorem Rn.mg (h : Rn j ss T) : MG (ss.map (Src.mk' j.de)) := by
  refine ⟨by rw [List.length_map]; exact h.n1, by rw [List.length_map]; exact h.n8, fun t ht => ?_⟩
  obtain ⟨s, hs, rfl⟩ := List.mem_map.1 ht
  exact (h.ok s hs).mk_in h.de
theorem Rn.set (h : Rn j ss T) (hs : ss[q]? = some s) {s' : Src} (he : s'.es = s.es) (hk : SrcOk s') : Rn j (ss.set q s') T := by
  refine ⟨fun x hx => ?_, by rw [List.length_set]; exact h.n1, by rw [List.length_set]; exact h.n8, h.de, ?_⟩
  · rcases List.mem_or_eq_of_mem_set hx with hx | rfl
    · exact h.ok x hx
    · exact hk
  · have e : (ss.set q s').map Src.es = ss.map Src.es := by
      rw [List.map_set, he]
      obtain ⟨hq, rfl⟩ := List.getElem?_eq_some_iff.1 hs
      have : (ss[q]).es = (ss.map Src.es)[q]'(by rw [List.length_map]; exact hq) := by simp
      rw [this, List.set_getElem_self]
    rw [e]; exact h.all
theorem start (hJ : JG j nos) {n : Nat} (h1 : 1 ≤ n) (h8 : n ≤ 8) : WI j nos [] (List.replicate n 0) ⟨nos.map (gpOf j [] 0), ⟨newIns n, [], 0⟩, ⟨0, newGot n, newHeld n⟩, 0⟩ ∧ newW true n (nos.map (gpOf j [] 0)) = ⟨⟨nos.map (gpOf j [] 0), ⟨newIns n, [], 0⟩, ⟨0, newGot n, newHeld n⟩, 0⟩, 0⟩ := by
  have hM : MG (List.replicate n 0) := ⟨by simp; omega, by simp; omega, fun t ht => by rw [List.eq_of_mem_replicate ht]; omega⟩
  have hf : firstT (List.replicate n 0) = 0 := by
    have h2 := firstT_le (l := List.replicate n 0) (t := 0) (by rw [List.mem_replicate]; omega)
    have h3 := firstT_range (List.replicate n 0)
    unfold clampT at h2
    omega
  have hW : WI j nos [] (List.replicate n 0) ⟨nos.map (gpOf j [] 0), ⟨newIns n, [], 0⟩, ⟨0, newGot n, newHeld n⟩, 0⟩ := by
    refine ⟨rfl, ?_, ?_, hf.symm⟩
    · unfold newIns
      rw [if_pos (by omega)]
      simp
    · unfold newGot newHeld
      rw [if_pos (by omega), if_pos (by omega)]
      simp
  refine ⟨hW, ?_⟩
  have hV : VG j.k [] := ⟨by simp, by simp, by simp [rowV, insAll]⟩
  have hr := hW.right hJ hM hV
  unfold wkR at hr
  simp only [Bool.and_eq_true] at hr
  unfold newW
  rw [if_neg (by simp), if_pos ⟨by omega, by omega, hr.1⟩]
end
/-- the events among items, and the mark behind them -/
def evsI (l : List It) : List Et := l.filterMap fun x => if x.kind = 1 then some ⟨x.key, x.at', x.val⟩ else none
def mkI (l : List It) : Int := l.foldl (fun m x => if x.kind = 2 then x.mark else m) 0
def ev64 (e : Et) : Prop := -9223372036854775808 ≤ e.v ∧ e.v ≤ 9223372036854775807
/-- a row of items as a source tells them -/
def RowOk (row : List It) : Prop := ∀ d x r, row = d ++ x :: r → (∃ e : Et, x = evItem e ∧ evR e.key e.at' = true ∧ mkI d ≤ e.at' ∧ ev64 e) ∨ (∃ t : Int, x = markItem t ∧ mkI d ≤ t ∧ t ≤ 1099511627776)
section
variable {j : Jb} {nos : List Int} {V : List Vl} {mk : List Int} {w : Wk} {d r : List It} {x : It} {e : Et} {t : Int}
theorem evsI_app : evsI (d ++ r) = evsI d ++ evsI r := List.filterMap_append
theorem evsI_ev : evsI (d ++ [evItem e]) = evsI d ++ [e] := by rw [evsI_app]; rfl
theorem evsI_mk : evsI (d ++ [markItem t]) = evsI d := by rw [evsI_app]; show evsI d ++ [] = _; rw [List.append_nil]
theorem mkI_ev : mkI (d ++ [evItem e]) = mkI d := by unfold mkI; rw [List.foldl_append]; rfl
theorem mkI_mk : mkI (d ++ [markItem t]) = t := by unfold mkI; rw [List.foldl_append]; rfl
theorem RowOk.pre (h : RowOk (d ++ r)) : RowOk d := fun a y b hy => h a y (b ++ r) (by rw [hy]; simp)
theorem mkI_rng (h : RowOk d) : 0 ≤ mkI d ∧ mkI d ≤ 1099511627776 := by
  refine rev_ind (p := fun d => RowOk d → 0 ≤ mkI d ∧ mkI d ≤ 1099511627776) (fun _ => by decide) (fun l x ih hl => ?_) d h
  have h1 := ih hl.pre
  rcases hl l x [] rfl with ⟨e, rfl, _, _, _⟩ | ⟨t, rfl, h2, h3⟩
  · rw [mkI_ev]; exact h1
  · rw [mkI_mk]; omega
/-! results told so far -/
def outD (j : Jb) (nos : List Int) (V : List Vl) (t : Int) : List Rs := nos.flatMap fun no => resultsL j.k (dueA (allG j V no) t)
theorem VG.perm {k : Int} {V W : List Vl} (h : VG k V) (hp : V.Perm W) : VG k W :=
  ⟨fun x hx => h.ok x (hp.mem_iff.2 hx), by rw [← hp.length_eq]; exact h.len, by rw [← rowM_perm hp (by have := h.len; omega) h.ok]; exact h.few⟩
theorem allG_perm {W : List Vl} (h : VG j.k V) (hp : V.Perm W) (no : Int) : allG j V no = allG j W no :=
  rowM_perm (hp.filter _) (by have := h.len; have := List.length_filter_le (inG j no) V; omega) fun x hx => h.ok x (List.mem_filter.1 hx).1
theorem outD_perm {W : List Vl} (h : VG j.k V) (hp : V.Perm W) (t : Int) : outD j nos V t = outD j nos W t := by
  unfold outD
  simp only [allG_perm h hp]
theorem WI.perm {W : List Vl} (h : WI j nos V mk w) (hV : VG j.k V) (hp : V.Perm W) : WI j nos W mk w := by
  refine ⟨?_, h.mks, h.al, h.told⟩
  rw [h.gs]
  refine List.map_congr_left fun no _ => ?_
  unfold gpOf
  rw [allG_perm hV hp]
theorem outD_ev (hT : okT j.s j.d e.at' = true) {told : Int} (h : told ≤ e.at') : outD j nos (V ++ valsV j.s j.d e) told = outD j nos V told := by
  unfold outD allG
  congr 1
  funext no
  rw [dueA_row, dueA_row, List.filter_append, List.filter_append]
  have : (List.filter (inG j no) (valsV j.s j.d e)).filter (fun v => decide (v.hi ≤ told)) = [] := by
    rw [List.filter_eq_nil_iff]
    intro v hv
    have := vals_hi hT v (List.mem_filter.1 hv).1
    simp; omega
  rw [this, List.append_nil]
theorem outD_step (hV : VG j.k V) {t u : Int} (h : t ≤ u) : (outD j nos V t ++ nos.flatMap fun no => resultsL j.k (dueA (dueB (allG j V no) t) u)).Perm (outD j nos V u) := by
  have key : ∀ no : Int, resultsL j.k (dueA (allG j V no) u) = resultsL j.k (dueA (allG j V no) t) ++ resultsL j.k (dueA (dueB (allG j V no) t) u) := fun no => by
    have hr := allG_right hV no
    exact (resultsL_app (rightL_sub (dueA_sub _ _) hr) (rightL_sub ((dueA_sub _ _).trans (dueB_sub _ _)) hr) (rightL_sub (dueA_sub _ _) hr) (dueA_steps h _ (sorted_row _ _))).symm
  unfold outD
  simp only [key]
  induction nos with
  | nil => exact List.Perm.refl _
  | cons no nos ih =>
    simp only [List.flatMap_cons]
    refine List.Perm.trans ?_ (List.Perm.append_left _ ih)
    simp only [List.append_assoc]
    refine List.Perm.append_left _ ?_
    rw [← List.append_assoc, ← List.append_assoc]
    exact List.Perm.append_right _ List.perm_append_comm
theorem res_hi {k : Int} {l : List Pn} {m : Int} (h : ∀ p ∈ l, m < p.hi) : ∀ r ∈ resultsL k l, m < r.hi := by
  intro r hr
  unfold resultsL at hr
  split at hr
  · obtain ⟨p, hp, rfl⟩ := List.mem_map.1 hr
    exact h p hp
  · cases hr
theorem by_group {α : Type} (f : α → Int) : ∀ {nos : List Int} {L : List α}, nos.Pairwise (· < ·) → (∀ a ∈ L, f a ∈ nos) → (nos.flatMap fun n => L.filter fun a => decide (f a = n)).Perm L
  | [], L, _, h => by
    cases L with
    | nil => exact List.Perm.refl _
    | cons a L => exact absurd (h a (by simp)) (by simp)
  | n :: nos, L, hn, h => by
    obtain ⟨h1, h2⟩ := List.pairwise_cons.1 hn
    have ih := by_group f (L := L.filter fun a => !decide (f a = n)) h2 (fun a ha => by
      obtain ⟨h3, h4⟩ := List.mem_filter.1 ha
      rcases List.mem_cons.1 (h a h3) with h5 | h5
      · rw [h5] at h4; simp at h4
      · exact h5)
    rw [List.flatMap_cons]
    refine List.Perm.trans (List.Perm.append_left _ ?_) (filter_parts (fun a => decide (f a = n)) L).symm
    refine List.Perm.trans (List.Perm.of_eq ?_) ih
    rw [List.flatMap_def, List.flatMap_def]
    refine congrArg List.flatten (List.map_congr_left fun m hm => ?_)
    rw [List.filter_filter]
    refine List.filter_congr fun a _ => ?_
    have := h1 m hm
    by_cases c : f a = m
    · simp [c, show ¬ m = n by omega]
    · simp [c]
/-- the results of all groups are those of all values -/
theorem outD_all (hV : VG j.k V) (hk : fRight j.k = true) (hn : nos.Pairwise (· < ·)) (hg : ∀ v ∈ V, grpV v.key.data.toList j.g ∈ nos) : (outD j nos V 1099511627776).Perm (resultsL j.k (rowV j.k V)) := by
  have hr := hV.right
  have hG : ∀ no, allG j V no = (rowV j.k V).filter fun p => decide (grpV p.key.data.toList j.g = no) := fun no =>
    (row_filter (P := fun p => decide (grpV p.key.data.toList j.g = no)) (fun p q h => by show decide _ = decide _; rw [h.2.2]) V).symm
  have hhi : ∀ p ∈ rowV j.k V, p.hi ≤ 1099511627776 := fun p hp => by
    have := (rightL_ok hr).2.1 p hp
    unfold mayB at this
    simp only [Bool.and_eq_true, decide_eq_true_eq] at this
    exact this.1.2
  have hmem : ∀ p ∈ rowV j.k V, grpV p.key.data.toList j.g ∈ nos := by
    intro p hp
    have h0 := row_filter (k := j.k) (P := fun p => !decide (grpV p.key.data.toList j.g ∈ nos)) (fun p q h => by show (!decide _) = !decide _; rw [h.2.2]) V
    rw [show (V.filter fun v => !decide (grpV (vP j.k v).key.data.toList j.g ∈ nos)) = [] from List.filter_eq_nil_iff.2 fun v hv => by
      have := hg v hv
      simp [vP, oneP, this]] at h0
    have h1 := List.filter_eq_nil_iff.1 h0 p hp
    simpa using h1
  have hO : outD j nos V 1099511627776 = nos.flatMap fun no => ((rowV j.k V).filter fun p => decide (grpV p.key.data.toList j.g = no)).map (resOf j.k) := by
    unfold outD
    rw [List.flatMap_def, List.flatMap_def]
    refine congrArg List.flatten (List.map_congr_left fun no _ => ?_)
    rw [hG]
    have e : dueA ((rowV j.k V).filter fun p => decide (grpV p.key.data.toList j.g = no)) 1099511627776 = (rowV j.k V).filter fun p => decide (grpV p.key.data.toList j.g = no) :=
      List.filter_eq_self.2 fun p hp => by have := hhi p (List.mem_filter.1 hp).1; simp [this]
    rw [e]
    unfold resultsL
    rw [if_pos (by rw [rightL_sub List.filter_sublist hr, hk]; rfl)]
  rw [hO, show resultsL j.k (rowV j.k V) = (rowV j.k V).map (resOf j.k) by unfold resultsL; rw [if_pos (by rw [hr, hk]; rfl)]]
  rw [← List.map_flatMap]
  exact (by_group (fun p : Pn => grpV p.key.data.toList j.g) hn hmem).map _
end
/-- what was told of each row -/
def Pre (D rows : List (List It)) : Prop := D.length = rows.length ∧ ∀ (q : Nat) (d : List It), D[q]? = some d → ∃ r : List It, rows[q]? = some (d ++ r)
/-- rows that go to a worker of some groups -/
structure RW (j : Jb) (nos : List Int) (rows : List (List It)) : Prop where
  ok : ∀ r ∈ rows, RowOk r
  n1 : 1 ≤ rows.length
  n8 : rows.length ≤ 8
  tg : TG j nos (rows.flatMap evsI)
structure PI (j : Jb) (nos : List Int) (D : List (List It)) (w : Wk) (out : List Rs) : Prop where
  wi : WI j nos (allVals j.s j.d (D.flatMap evsI)) (D.map mkI) w
  out : out.Perm (outD j nos (allVals j.s j.d (D.flatMap evsI)) w.told)
def mkTail (a b : Int) : List It := if a < b then [markItem b] else []
section
variable {j : Jb} {nos : List Int} {rows D : List (List It)} {w : Wk} {out : List Rs} {d : List It} {x : It} {q : Nat}
theorem flat_pre : ∀ {D rows : List (List It)}, Pre D rows → ∃ R, (rows.flatMap evsI).Perm (D.flatMap evsI ++ R)
  | [], rows, h => ⟨rows.flatMap evsI, by simp⟩
  | d :: D, [], h => by have := h.1; simp at this
  | d :: D, r :: rows, h => by
    obtain ⟨R, hR⟩ := flat_pre (D := D) (rows := rows) ⟨by have := h.1; simpa using this, fun q d' hd => h.2 (q + 1) d' (by simpa using hd)⟩
    obtain ⟨r', hr⟩ := h.2 0 d rfl
    simp only [List.getElem?_cons_zero, Option.some.injEq] at hr
    subst hr
    refine ⟨evsI r' ++ R, ?_⟩
    rw [List.flatMap_cons, List.flatMap_cons, evsI_app, List.append_assoc, List.append_assoc]
    refine List.Perm.append_left _ ?_
    refine (List.Perm.append_left _ hR).trans ?_
    rw [← List.append_assoc, ← List.append_assoc]
    exact List.Perm.append_right R List.perm_append_comm
theorem Pre.mg (hR : RW j nos rows) (h : Pre D rows) : MG (D.map mkI) := by
  refine ⟨by rw [List.length_map, h.1]; exact hR.n1, by rw [List.length_map, h.1]; exact hR.n8, fun t ht => ?_⟩
  obtain ⟨d, hd, rfl⟩ := List.mem_map.1 ht
  obtain ⟨q, hq, rfl⟩ := List.getElem_of_mem hd
  obtain ⟨r, hr⟩ := h.2 q _ (List.getElem?_eq_getElem hq)
  exact mkI_rng (hR.ok _ (List.mem_of_getElem? hr)).pre
theorem Pre.vg (hR : RW j nos rows) (h : Pre D rows) : VG j.k (allVals j.s j.d (D.flatMap evsI)) := by
  obtain ⟨R, hp⟩ := flat_pre h
  exact hR.tg.vg hp
theorem Pre.okk (hR : RW j nos rows) (h : Pre D rows) (hW : PI j nos D w out) : WkOk w ∧ HV w ∧ heldN w.al < 1 := hW.wi.okk hR.tg.jg (h.mg hR) (h.vg hR)
theorem Pre.set (h : Pre D rows) (hd : D[q]? = some d) {r : List It} (hr : rows[q]? = some (d ++ x :: r)) : Pre (D.set q (d ++ [x])) rows := by
  refine ⟨by rw [List.length_set]; exact h.1, fun p d' hp => ?_⟩
  obtain ⟨hq, rfl⟩ := List.getElem?_eq_some_iff.1 hd
  by_cases c : q = p
  · subst c
    rw [List.getElem?_set_self (by simpa using hq)] at hp
    cases hp
    exact ⟨r, by rw [hr]; simp⟩
  · rw [List.getElem?_set_ne c] at hp
    exact h.2 p d' hp
theorem tell_item (hR : RW j nos rows) (hD : Pre D rows) (h : PI j nos D w out) (hd : D[q]? = some d) {r : List It} (hr : rows[q]? = some (d ++ x :: r)) (n : Nat) :
    ∃ w' rs, wkRun j (n + 1) w (q : Int) x = ⟨w', rs.map resItem ++ mkTail w.told w'.told, 0⟩ ∧ (∀ s ∈ rs, w.told < s.hi) ∧ w.told ≤ w'.told ∧ (¬ w.told < w'.told → rs = []) ∧ PI j nos (D.set q (d ++ [x])) w' (out ++ rs) ∧ ItV x := by
  have hD' := hD.set hd hr
  have hV := hD.vg hR
  have hV' := hD'.vg hR
  have hM := hD.mg hR
  obtain ⟨hq, hdq⟩ := List.getElem?_eq_some_iff.1 hd
  have hq2 : q < (D.map mkI).length := by rw [List.length_map]; exact hq
  have hmq : (D.map mkI)[q] = mkI d := by simp [hdq]
  have ht := firstT_range (D.map mkI)
  have htold := h.wi.told
  rcases hR.ok _ (List.mem_of_getElem? hr) d x r rfl with ⟨e, rfl, he, hm, hv⟩ | ⟨t, rfl, hm, ht2⟩
  · have hp : (D.flatMap evsI ++ [e]).Perm ((D.set q (d ++ [evItem e])).flatMap evsI) := (set_flat evsI hd evsI_ev).symm
    have hvp := (show (allVals j.s j.d (D.flatMap evsI ++ [e])).Perm (allVals j.s j.d ((D.set q (d ++ [evItem e])).flatMap evsI)) from hp.flatMap_right _)
    have hVe : VG j.k (allVals j.s j.d (D.flatMap evsI ++ [e])) := hV'.perm hvp.symm
    have hgr : grpV e.key.data.toList j.g ∈ nos := hR.tg.all e (by
      obtain ⟨R, h1⟩ := flat_pre hD'
      exact h1.mem_iff.2 (by simp [← hp.mem_iff]))
    have hle : w.told ≤ e.at' := by
      have h1 := firstT_under hM.rng _ (List.getElem_mem hq2)
      rw [hmq, ← htold] at h1
      omega
    have hVe2 := hVe
    rw [allVals_snoc] at hVe2
    obtain ⟨w', h1, h2, h3⟩ := ev_step hR.tg.jg hM hVe2 h.wi he hgr hq2 hle n
    have hmk : (D.set q (d ++ [evItem e])).map mkI = D.map mkI := by
      rw [List.map_set, mkI_ev, ← hmq, List.set_getElem_self]
    refine ⟨w', [], ?_, by simp, by omega, fun _ => rfl, ⟨?_, ?_⟩, hv⟩
    · rw [h1, h3, mkTail, if_neg (Int.lt_irrefl _)]; rfl
    · rw [hmk]
      exact h2.perm hVe2 (by rw [← allVals_snoc]; exact hvp)
    · rw [List.append_nil, h3, ← outD_perm hVe hvp, allVals_snoc, outD_ev (okT_of hR.tg.jg.job.2.2 he) hle]
      exact h.out
  · have hfm : (D.set q (d ++ [markItem t])).flatMap evsI = D.flatMap evsI := by
      have e1 : (D.set q (d ++ [markItem t])).map evsI = D.map evsI := by
        rw [List.map_set, evsI_mk]
        have : evsI d = (D.map evsI)[q]'(by rw [List.length_map]; exact hq) := by simp [hdq]
        rw [this, List.set_getElem_self]
      rw [List.flatMap_def, List.flatMap_def, e1]
    have hm0 := mkI_rng (hR.ok _ (List.mem_of_getElem? hr)).pre
    obtain ⟨w', h1, h2, h3⟩ := mk_step hR.tg.jg hM hV h.wi hq2 (t := t) (by omega) n
    have hmk : (D.set q (d ++ [markItem t])).map mkI = (D.map mkI).set q (max (D.map mkI)[q] t) := by
      rw [List.map_set, mkI_mk, hmq, show max (mkI d) t = t by omega]
    have htr := firstT_range ((D.map mkI).set q (max (D.map mkI)[q] t))
    rw [← h2.told] at htr
    refine ⟨w', if w.told < w'.told then nos.flatMap (fun no => resultsL j.k (dueA (dueB (allG j (allVals j.s j.d (D.flatMap evsI)) no) w.told) w'.told)) else [], ?_, ?_, h3, ?_, ⟨?_, ?_⟩, (show (-9223372036854775808 : Int) ≤ 0 by decide), (show (0 : Int) ≤ 9223372036854775807 by decide)⟩
    · rw [h1]
      unfold mkTail toldG
      split
      · congr 1
        rw [List.map_flatMap]
      · rfl
    · intro s hs
      split at hs
      · obtain ⟨no, _, hs⟩ := List.mem_flatMap.1 hs
        exact res_hi (fun p hp => dueB_hi p (List.mem_filter.1 hp).1) s hs
      · cases hs
    · intro hn; rw [if_neg hn]
    · rw [hfm, hmk]; exact h2
    · rw [hfm]
      by_cases c : w.told < w'.told
      · rw [if_pos c]
        exact (List.Perm.append_right _ h.out).trans (outD_step hV (by omega))
      · rw [if_neg c, List.append_nil, show w'.told = w.told by omega]
        exact h.out
/-- all is told -/
theorem told_all (hR : RW j nos rows) (h : PI j nos rows w out) (hend : ∀ r ∈ rows, mkI r = 1099511627776) : w.told = 1099511627776 ∧ out.Perm (outD j nos (allVals j.s j.d (rows.flatMap evsI)) 1099511627776) := by
  have hP : Pre rows rows := ⟨rfl, fun q d hd => ⟨[], by rw [hd]; simp⟩⟩
  have e : w.told = 1099511627776 := by
    rw [h.wi.told]
    exact (firstT_end (hP.mg hR).rng).2 fun t ht => by
      obtain ⟨r, hr, rfl⟩ := List.mem_map.1 ht
      exact hend r hr
  have := h.out
  rw [e] at this
  exact ⟨e, this⟩
end
def tellL (j : Jb) : Int → List Et → List It
  | _, [] => []
  | m, e :: es => tellX j m e ++ tellL j (max m (subT e.at' j.de)) es
def rowI (j : Jb) (es : List Et) : List It := tellL j 0 es ++ [markItem 1099511627776]
section
variable {j : Jb} {es fs : List Et} {m : Int} {d : List It} {e : Et} {x : It}
theorem tellL_app : ∀ {es : List Et} {m : Int}, tellL j m (es ++ fs) = tellL j m es ++ tellL j (markE j.de m es) fs
  | [], m => by simp [tellL, markE]
  | e :: es, m => by
    simp only [List.cons_append, tellL, tellL_app (es := es), List.append_assoc]
    rfl
theorem tellL_step {q : Nat} (hq : q < es.length) : tellL j m (es.take (q + 1)) = tellL j m (es.take q) ++ tellX j (markE j.de m (es.take q)) es[q] := by
  rw [take_snoc es q hq, tellL_app]
  simp [tellL]
theorem tellL_len : ∀ {es : List Et} {m : Int}, (tellL j m es).length ≤ 2 * es.length
  | [], m => by simp [tellL]
  | e :: es, m => by
    have h := tellL_len (es := es) (m := max m (subT e.at' j.de))
    have h2 : (tellX j m e).length ≤ 2 := by
      unfold tellX
      rw [List.length_append]
      split <;> split <;> simp
    simp only [tellL, List.length_append, List.length_cons]
    omega
theorem tellL_evs : ∀ {es : List Et} {m : Int}, evsI (tellL j m es) = keptE j.li j.fu j.de m es
  | [], m => by simp [tellL, keptE, evsI]
  | e :: es, m => by
    have h := tellL_evs (es := es) (m := max m (subT e.at' j.de))
    rw [tellL, evsI_app, h, keptE]
    have h2 : evsI (tellX j m e) = if e.at' < m then [] else [e.ran j.li j.fu] := by
      unfold tellX
      have h3 : ∀ c : Prop, [Decidable c] → evsI (if c then [markItem (subT e.at' j.de)] else []) = [] := fun c _ => by split <;> rfl
      rw [evsI_app, h3, List.append_nil]
      by_cases c : m ≤ e.at'
      · rw [if_pos c, if_neg (by omega)]; rfl
      · rw [if_neg c, if_pos (by omega)]; rfl
    rw [h2]
theorem RowOk.snoc (h : RowOk d) (hx : (∃ e : Et, x = evItem e ∧ evR e.key e.at' = true ∧ mkI d ≤ e.at' ∧ ev64 e) ∨ (∃ t : Int, x = markItem t ∧ mkI d ≤ t ∧ t ≤ 1099511627776)) : RowOk (d ++ [x]) := by
  intro a y b he
  rcases List.append_eq_append_iff.1 he with ⟨c, h1, h2⟩ | ⟨c, h1, h2⟩
  · cases c with
    | nil =>
      simp only [List.append_nil, List.nil_append] at h1 h2
      injection h2 with h2 h3
      subst h1; subst h2; exact hx
    | cons z c => simp at h2
  · cases c with
    | nil =>
      simp only [List.append_nil, List.nil_append] at h1 h2
      injection h2 with h2 h3
      subst h1; subst h2; exact hx
    | cons z c =>
      simp only [List.cons_append] at h2
      injection h2 with h2 h3
      subst h2
      exact h a y c h1
theorem tellX_ok (h : RowOk d) (hm : mkI d = m) (hd : 0 ≤ j.de) (he : evR e.key e.at' = true) (hv : ev64 e) : RowOk (d ++ tellX j m e) ∧ mkI (d ++ tellX j m e) = max m (subT e.at' j.de) := by
  have hat := ev_at he
  have ht := subT_lt hat hd
  have hv2 : ev64 (e.ran j.li j.fu) := goV_rng _ _ _ _ hv
  have h1 : RowOk (d ++ (if m ≤ e.at' then [evItem (e.ran j.li j.fu)] else [])) ∧ mkI (d ++ (if m ≤ e.at' then [evItem (e.ran j.li j.fu)] else [])) = m := by
    by_cases c : m ≤ e.at'
    · rw [if_pos c]
      exact ⟨h.snoc (.inl ⟨_, rfl, he, by rw [hm]; exact c, hv2⟩), by rw [mkI_ev]; exact hm⟩
    · rw [if_neg c, List.append_nil]; exact ⟨h, hm⟩
  unfold tellX
  rw [← List.append_assoc]
  generalize d ++ (if m ≤ e.at' then [evItem (e.ran j.li j.fu)] else []) = d1 at *
  by_cases c : m < subT e.at' j.de
  · rw [if_pos c]
    exact ⟨h1.1.snoc (.inr ⟨_, rfl, by rw [h1.2]; omega, by omega⟩), by rw [mkI_mk]; omega⟩
  · rw [if_neg c, List.append_nil]
    exact ⟨h1.1, by rw [h1.2]; omega⟩
theorem tellL_ok (hd : 0 ≤ j.de) : ∀ {es : List Et} {m : Int} {d : List It}, RowOk d → mkI d = m → (∀ e ∈ es, evR e.key e.at' = true ∧ ev64 e) → RowOk (d ++ tellL j m es) ∧ mkI (d ++ tellL j m es) = markE j.de m es
  | [], m, d, h, hm, _ => by simp [tellL, markE, h, hm]
  | e :: es, m, d, h, hm, hes => by
    obtain ⟨h1, h2⟩ := tellX_ok (j := j) h hm hd (hes e (by simp)).1 (hes e (by simp)).2
    have := tellL_ok hd (es := es) h1 h2 fun x hx => hes x (List.mem_cons_of_mem _ hx)
    rw [tellL, ← List.append_assoc]
    exact this
theorem rowI_ok (hd : 0 ≤ j.de) (hes : ∀ e ∈ es, evR e.key e.at' = true ∧ ev64 e) : RowOk (rowI j es) ∧ mkI (rowI j es) = 1099511627776 ∧ evsI (rowI j es) = keptE j.li j.fu j.de 0 es := by
  obtain ⟨h1, h2⟩ := tellL_ok (j := j) hd (es := es) (m := 0) (d := []) (fun a y b h => by simp at h) rfl hes
  rw [List.nil_append] at h1 h2
  have h3 := markE_lt hd (es := es) (m := 0) ⟨by omega, by omega⟩ fun e he => (hes e he).1
  unfold rowI
  refine ⟨h1.snoc (.inr ⟨_, rfl, by rw [h2]; omega, Int.le_refl _⟩), mkI_mk, ?_⟩
  rw [evsI_mk, tellL_evs]
theorem rowI_len : (rowI j es).length ≤ 2 * es.length + 1 := by
  have := tellL_len (j := j) (es := es) (m := 0)
  unfold rowI
  simp only [List.length_append, List.length_cons, List.length_nil]
  omega
theorem rows_evs (hd : 0 ≤ j.de) : ∀ {F : List (List Et)}, (∀ es ∈ F, ∀ e ∈ es, evR e.key e.at' = true ∧ ev64 e) → (F.map (rowI j)).flatMap evsI = allK j.li j.fu j.de F
  | [], _ => rfl
  | es :: F, h => by
    have ih := rows_evs hd (F := F) fun x hx => h x (by simp [hx])
    rw [List.map_cons, List.flatMap_cons, ih, (rowI_ok hd (h es (by simp))).2.2]
    rfl
end
def few4 (ls : List (List Et)) : List (List Et) := (ls.take 4).map fun es => es.take 12
set_option maxHeartbeats 8000000 in
theorem o_few (ls : List (List Et)) (hx : Small ls) : PC Tryz.prog 15 [.sl 1 (ls.map inAv)] (.sl 1 ((few4 ls).map inAv)) := by
  have hlx := hx.1
  refine PC.mk (ac_body tab_ok Tryz.func15 rfl (by kernel_rfl) rfl ?_); intro w0 M μ0; simp only [Tryz.ntmps15, List.length_cons, List.length_nil, Nat.reduceAdd, Nat.reduceSub, numb]
  repeat' (first | ((first | apply o_do | apply d_do | apply d_yes rfl rfl rfl); exact lsq) | refine a_seq ?_ | refine a_region ?_ | refine o_nil ?_ | refine a_block ?_ | refine a_ret ?_ | refine a_exit ?_ | refine a_skip ?_ | refine a_draw mixed ?_ | refine d_nil (by kernel_rfl) ?_ | refine o_yes rfl rfl rfl ?_ | refine o_no rfl rfl rfl (by decide) ?_ | refine o_no' rfl rfl rfl ?_ | refine a_condT rfl ?_ | refine a_condF rfl ?_ | refine d_no rfl rfl rfl (by decide) ?_ | refine d_no' rfl rfl rfl ?_ | (refine wq2 (fun hb => ?_) (fun hb => ?_) <;> (simp only [hb]; try simp only [hbs, ne_eq] at hb; try (exfalso; first | omega | exact hb trivial))) | fail)
  refine a_adopt 3 0 48 1 rfl rfl ?_
  refine a_loop (X := {q : Nat // q ≤ ls.length}) (fun x => ⟨[(0, .sl 1 (ls.map inAv)), (3, .own 0 ((few4 (ls.take x.1)).map inAv).length), (6, .sl 1 (ls.map inAv)), (7, .v (.int .i64 ls.length)), (8, .v (.int .i64 x.1))], [(0, .row 48 1 ((few4 (ls.take x.1)).map inAv))]⟩) (fun x => ls.length - x.1) ⟨0, Nat.zero_le _⟩ ?_ ?_
  · exact wkS
  rintro ⟨q, hq⟩
  dsimp only
  by_cases hlt : q < ls.length
  · have hel : (ls.map inAv)[q]? = some (inAv ls[q]) := by simp [hlt]
    have hen := hx.2 _ (List.getElem_mem hlt)
    by_cases h3 : q < 4
    · have hsn : (few4 (ls.take (q + 1))).map inAv = (few4 (ls.take q)).map inAv ++ [inAv (ls[q].take 12)] := by
        unfold few4
        rw [List.take_take, List.take_take, show min 4 (q + 1) = q + 1 by omega, show min 4 q = q by omega, take_snoc ls q hlt, List.map_append, List.map_append]; rfl
      have hTl : ((few4 (ls.take q)).map inAv).length = q := by simp [few4]; omega
      generalize (few4 (ls.take q)).map inAv = T at *
      generalize ls[q] = es at *
      have hml : (es.map Et.av).length = es.length := List.length_map _
      have hf : inAv (es.take 12) = [.sl 3 ((es.map Et.av).take 12)] := by simp [inAv, List.map_take]
      rw [hf] at hsn
      by_cases h10 : es.length ≤ 12
      · have ht : (es.map Et.av).take 12 = (es.map Et.av).take es.length := by
          rw [List.take_of_length_le (by omega), List.take_of_length_le (by omega)]
        rw [ht] at hsn
        have hmin : min (es.length : Int) 12 = es.length := by omega
        repeat' (first | ((first | apply o_do | apply d_do | apply d_yes rfl rfl rfl); first | exact ls_indexAddr_sl tab_ok rfl rfl rfl rfl hel rfl | exact ls_slice_to (n := es.length) tab_ok rfl rfl rfl (by simp; omega) (by rw [hml]; omega) rfl | focus (apply ls_append tab_ok rfl rfl ?hn rfl ?hsrc rfl ?hlen rfl rfl; (case hn => rfl); (case hsrc => first | exact SrcIs.sl | exact SrcIs.nil | exact SrcIs.own rfl rfl | fail); (case hlen => (try simp only [List.length_cons, List.length_nil]); (omega)); first | done | fail) | exact lsq) | refine a_seq ?_ | refine a_region ?_ | refine o_nil ?_ | refine a_block ?_ | refine a_ret ?_ | refine a_exit ?_ | refine a_skip ?_ | refine a_draw mixed ?_ | refine d_nil (by kernel_rfl) ?_ | refine o_yes rfl rfl rfl ?_ | refine o_no rfl rfl rfl (by decide) ?_ | refine o_no' rfl rfl rfl ?_ | refine a_condT rfl ?_ | refine a_condF rfl ?_ | refine d_no rfl rfl rfl (by decide) ?_ | refine d_no' rfl rfl rfl ?_ | (refine wq2 (fun hb => ?_) (fun hb => ?_) <;> (simp only [hb]; try simp only [hbs, ne_eq] at hb; try (exfalso; first | omega | exact hb trivial))) | fail)
        refine ⟨⟨q + 1, by omega⟩, by dsimp only; omega, ?_⟩
        refine ⟨by repeat' (first | exact trivial | exact FinA.one (FinB.cell (FinC.same rfl)) | exact FinA.one (FinB.cell FinC.nil) | exact FinA.bound rfl | exact FinA.one (FinB.cell (FinC.own rfl rfl rfl rfl)) | exact FinA.one (FinB.cell (FinC.v (by first | rfl | ((first | (simp; done) | (simp only [hsn]; rfl)))))) | exact FinA.one (FinB.cell (FinC.ow rfl (by first | rfl | ((first | (simp; done) | (simp only [hsn]; rfl)))))) | exact FinA.one (FinB.agg' rfl rfl) | refine ⟨⟨_, rfl, ?_⟩, ?_⟩), by repeat' (first | exact trivial | refine ⟨⟨_, rfl, by first | rfl | ((first | (simp; done) | (simp only [hsn]; rfl)); done) | (simp [renO, *]; done)⟩, by first | rfl | assumption, ?_⟩), rfl⟩
      · repeat' (first | ((first | apply o_do | apply d_do | apply d_yes rfl rfl rfl); first | exact ls_indexAddr_sl tab_ok rfl rfl rfl rfl hel rfl | exact ls_slice_to (n := 12) tab_ok rfl rfl rfl (by simp; omega) (by rw [hml]; omega) rfl | focus (apply ls_append tab_ok rfl rfl ?hn rfl ?hsrc rfl ?hlen rfl rfl; (case hn => rfl); (case hsrc => first | exact SrcIs.sl | exact SrcIs.nil | exact SrcIs.own rfl rfl | fail); (case hlen => (try simp only [List.length_cons, List.length_nil]); (omega)); first | done | fail) | exact lsq) | refine a_seq ?_ | refine a_region ?_ | refine o_nil ?_ | refine a_block ?_ | refine a_ret ?_ | refine a_exit ?_ | refine a_skip ?_ | refine a_draw mixed ?_ | refine d_nil (by kernel_rfl) ?_ | refine o_yes rfl rfl rfl ?_ | refine o_no rfl rfl rfl (by decide) ?_ | refine o_no' rfl rfl rfl ?_ | refine a_condT rfl ?_ | refine a_condF rfl ?_ | refine d_no rfl rfl rfl (by decide) ?_ | refine d_no' rfl rfl rfl ?_ | (refine wq2 (fun hb => ?_) (fun hb => ?_) <;> (simp only [hb]; try simp only [hbs, ne_eq] at hb; try (exfalso; first | omega | exact hb trivial))) | fail)
        refine ⟨⟨q + 1, by omega⟩, by dsimp only; omega, ?_⟩
        refine ⟨by repeat' (first | exact trivial | exact FinA.one (FinB.cell (FinC.same rfl)) | exact FinA.one (FinB.cell FinC.nil) | exact FinA.bound rfl | exact FinA.one (FinB.cell (FinC.own rfl rfl rfl rfl)) | exact FinA.one (FinB.cell (FinC.v (by first | rfl | ((first | (simp; done) | (simp only [hsn]; rfl)))))) | exact FinA.one (FinB.cell (FinC.ow rfl (by first | rfl | ((first | (simp; done) | (simp only [hsn]; rfl)))))) | exact FinA.one (FinB.agg' rfl rfl) | refine ⟨⟨_, rfl, ?_⟩, ?_⟩), by repeat' (first | exact trivial | refine ⟨⟨_, rfl, by first | rfl | ((first | (simp; done) | (simp only [hsn]; rfl)); done) | (simp [renO, *]; done)⟩, by first | rfl | assumption, ?_⟩), rfl⟩
    · have hsn : (few4 (ls.take (q + 1))).map inAv = (few4 (ls.take q)).map inAv := by
        unfold few4
        rw [List.take_take, List.take_take, show min 4 (q + 1) = 4 by omega, show min 4 q = 4 by omega]
      generalize (few4 (ls.take q)).map inAv = T at *
      generalize ls[q] = es at *
      repeat' (first | ((first | apply o_do | apply d_do | apply d_yes rfl rfl rfl); first | exact ls_indexAddr_sl tab_ok rfl rfl rfl rfl hel rfl | exact lsq) | refine a_seq ?_ | refine a_region ?_ | refine o_nil ?_ | refine a_block ?_ | refine a_ret ?_ | refine a_exit ?_ | refine a_skip ?_ | refine a_draw mixed ?_ | refine d_nil (by kernel_rfl) ?_ | refine o_yes rfl rfl rfl ?_ | refine o_no rfl rfl rfl (by decide) ?_ | refine o_no' rfl rfl rfl ?_ | refine a_condT rfl ?_ | refine a_condF rfl ?_ | refine d_no rfl rfl rfl (by decide) ?_ | refine d_no' rfl rfl rfl ?_ | (refine wq2 (fun hb => ?_) (fun hb => ?_) <;> (simp only [hb]; try simp only [hbs, ne_eq] at hb; try (exfalso; first | omega | exact hb trivial))) | fail)
      refine ⟨⟨q + 1, by omega⟩, by dsimp only; omega, ?_⟩
      dsimp only
      rw [hsn]
      exact wkS
  · obtain rfl : q = ls.length := by omega
    rw [List.take_length]
    generalize (few4 ls).map inAv = T at *
    repeat' (first | ((first | apply o_do | apply d_do | apply d_yes rfl rfl rfl); exact lsq) | refine a_seq ?_ | refine a_region ?_ | refine o_nil ?_ | refine a_block ?_ | refine a_ret ?_ | refine a_exit ?_ | refine a_skip ?_ | refine a_draw mixed ?_ | refine d_nil (by kernel_rfl) ?_ | refine o_yes rfl rfl rfl ?_ | refine o_no rfl rfl rfl (by decide) ?_ | refine o_no' rfl rfl rfl ?_ | refine a_condT rfl ?_ | refine a_condF rfl ?_ | refine d_no rfl rfl rfl (by decide) ?_ | refine d_no' rfl rfl rfl ?_ | (refine wq2 (fun hb => ?_) (fun hb => ?_) <;> (simp only [hb]; try simp only [hbs, ne_eq] at hb; try (exfalso; first | omega | exact hb trivial))) | fail)
    all_goals refine rq rfl ?_
    all_goals exact fnq
set_option maxHeartbeats 8000000 in
theorem o_zero (j : Jb) (n : Nat) (fc : FuncId) (hclo : ∀ no : Int, PC Tryz.prog fc [.v (.int .i64 no)] (.v (.bool true))) (hg : j.g = (n : Int)) (hn : n ≤ 1000000) : PC Tryz.prog 19 [.agg j.av, .clo (.func fc) [] []] (.sl 3 (((zeroI n).map zGp).map Gp.av)) := by
  suffices h : PC Tryz.prog 19 [.agg j.av, .clo (.func fc) [] []] (.sl 3 ((zeroI n).map zAv)) from h.res fun μ w A y hy => zAv_sl _ y hy
  obtain ⟨g, s, d, k, fu, li, de, id⟩ := j
  dsimp only at hg
  subst hg
  unfold Jb.av
  dsimp only
  refine PC.mk (ac_body tab_ok Tryz.func19 rfl (by kernel_rfl) rfl ?_); intro w0 M μ0; simp only [Tryz.ntmps19, List.length_cons, List.length_nil, Nat.reduceAdd, Nat.reduceSub, numb]
  repeat' (first | ((first | apply o_do | apply d_do | apply d_yes rfl rfl rfl); exact lsq) | refine a_seq ?_ | refine a_region ?_ | refine o_nil ?_ | refine a_block ?_ | refine a_ret ?_ | refine a_exit ?_ | refine a_skip ?_ | refine a_draw mixed ?_ | refine d_nil (by kernel_rfl) ?_ | refine o_yes rfl rfl rfl ?_ | refine o_no rfl rfl rfl (by decide) ?_ | refine o_no' rfl rfl rfl ?_ | refine a_condT rfl ?_ | refine a_condF rfl ?_ | refine d_no rfl rfl rfl (by decide) ?_ | refine d_no' rfl rfl rfl ?_ | (refine wq2 (fun hb => ?_) (fun hb => ?_) <;> (simp only [hb]; try simp only [hbs, ne_eq] at hb; try (exfalso; first | omega | exact hb trivial))) | fail)
  refine a_adopt 5 1 98 3 rfl rfl ?_
  refine a_loop (X := {q : Nat // q ≤ n}) (fun x => ⟨[(1, .clo (.func fc) [] []), (5, .own 1 ((zeroI x.1).map zAv).length), (8, .v (.int .i64 n)), (9, .v (.int .i64 x.1))], [(1, .row 98 3 ((zeroI x.1).map zAv))]⟩) (fun x => n - x.1) ⟨0, Nat.zero_le _⟩ ?_ ?_
  · have e0 : (zeroI 0).map zAv = [] := rfl
    dsimp only
    rw [e0]
    exact wkS
  rintro ⟨q, hq⟩
  dsimp only
  by_cases hlt : q < n
  · have hsn : (zeroI (q + 1)).map zAv = (zeroI q).map zAv ++ [zAv q] := by
      rw [zeroI_snoc, List.map_append]; rfl
    have hTl : ((zeroI q).map zAv).length = q := by simp [zeroI]
    have hz : zAv q = [.v (.int .i64 q), .v (.int .i64 0), .v (.slice none 0 0)] := rfl
    rw [hz] at hsn
    generalize (zeroI q).map zAv = T at *
    have hcl := hclo q
    repeat' (first | ((first | apply o_do | apply d_do | apply d_yes rfl rfl rfl); first | exact lsc (hcl) | focus (apply ls_append tab_ok rfl rfl ?hn rfl ?hsrc rfl ?hlen rfl rfl; (case hn => rfl); (case hsrc => first | exact SrcIs.sl | exact SrcIs.nil | exact SrcIs.own rfl rfl | fail); (case hlen => (try simp only [List.length_cons, List.length_nil]); (omega)); first | done | fail) | exact lsq) | refine a_seq ?_ | refine a_region ?_ | refine o_nil ?_ | refine a_block ?_ | refine a_ret ?_ | refine a_exit ?_ | refine a_skip ?_ | refine a_draw mixed ?_ | refine d_nil (by kernel_rfl) ?_ | refine o_yes rfl rfl rfl ?_ | refine o_no rfl rfl rfl (by decide) ?_ | refine o_no' rfl rfl rfl ?_ | refine a_condT rfl ?_ | refine a_condF rfl ?_ | refine d_no rfl rfl rfl (by decide) ?_ | refine d_no' rfl rfl rfl ?_ | (refine wq2 (fun hb => ?_) (fun hb => ?_) <;> (simp only [hb]; try simp only [hbs, ne_eq] at hb; try (exfalso; first | omega | exact hb trivial))) | fail)
    refine ⟨⟨q + 1, by omega⟩, by dsimp only; omega, ?_⟩
    dsimp only
    rw [hsn]
    exact wkS
  · obtain rfl : q = n := by omega
    generalize (zeroI q).map zAv = T at *
    repeat' (first | ((first | apply o_do | apply d_do | apply d_yes rfl rfl rfl); exact lsq) | refine a_seq ?_ | refine a_region ?_ | refine o_nil ?_ | refine a_block ?_ | refine a_ret ?_ | refine a_exit ?_ | refine a_skip ?_ | refine a_draw mixed ?_ | refine d_nil (by kernel_rfl) ?_ | refine o_yes rfl rfl rfl ?_ | refine o_no rfl rfl rfl (by decide) ?_ | refine o_no' rfl rfl rfl ?_ | refine a_condT rfl ?_ | refine a_condF rfl ?_ | refine d_no rfl rfl rfl (by decide) ?_ | refine d_no' rfl rfl rfl ?_ | (refine wq2 (fun hb => ?_) (fun hb => ?_) <;> (simp only [hb]; try simp only [hbs, ne_eq] at hb; try (exfalso; first | omega | exact hb trivial))) | fail)
    all_goals refine rq rfl ?_
    all_goals exact fnq
/-- source.New, refused -/
theorem s_NewF (j : Jb) (es : List Et) (hx : Small [es]) (hli : j.li ≤ 9223372036854775807) (h : ¬ (jobOK j.g j.s j.d j.k j.fu j.li j.de j.id = true ∧ okIn [es] = true)) :
    ∃ e : Int, e ≠ 0 ∧ PC Tryz.prog 12 [.agg j.av, .sl 3 (es.map Et.av), .v (.int .i64 0)] (.tup [.agg zSr.av, .v (.int .i64 e)]) := by
  have h1 := j_Right j.g j.s j.d j.k j.fu j.li j.de j.id
  have h2 : PC Tryz.prog 39 [.sl 1 [[.sl 3 (es.map Et.av)]]] (.v (.bool (okIn [es]))) := j_Inputs [es] hx
  cases hj : jobOK j.g j.s j.d j.k j.fu j.li j.de j.id
  · rw [hj] at h1
    refine ⟨130, by decide, ?_⟩
    unfold zSr Sr.av Jb.av at *
    dsimp only
    generalize es.map Et.av = E at *
    refine PC.mk (ac_body tab_ok Tryz.func12 rfl (by kernel_rfl) rfl ?_); intro w0 M μ0; simp only [Tryz.ntmps12, List.length_cons, List.length_nil, Nat.reduceAdd, Nat.reduceSub, numb]
    repeat' (first | ((first | apply o_do | apply d_do | apply d_yes rfl rfl rfl); first | exact lcs (h1) | exact lsq) | refine a_seq ?_ | refine a_region ?_ | refine o_nil ?_ | refine a_block ?_ | refine a_ret ?_ | refine a_exit ?_ | refine a_skip ?_ | refine a_draw mixed ?_ | refine d_nil (by kernel_rfl) ?_ | refine o_yes rfl rfl rfl ?_ | refine o_no rfl rfl rfl (by decide) ?_ | refine o_no' rfl rfl rfl ?_ | refine a_condT rfl ?_ | refine a_condF rfl ?_ | refine d_no rfl rfl rfl (by decide) ?_ | refine d_no' rfl rfl rfl ?_ | (refine wq2 (fun hb => ?_) (fun hb => ?_) <;> (simp only [hb]; try simp only [hbs, ne_eq] at hb; try (exfalso; first | omega | exact hb trivial))) | fail)
    all_goals refine rq rfl ?_
    all_goals exact fnq
  · rw [hj] at h1
    have ho : okIn [es] = false := by
      cases ho : okIn [es]
      · rfl
      · exact absurd ⟨hj, ho⟩ h
    rw [ho] at h2
    refine ⟨1, by decide, ?_⟩
    unfold zSr Sr.av Jb.av at *
    dsimp only
    generalize es.map Et.av = E at *
    refine PC.mk (ac_body tab_ok Tryz.func12 rfl (by kernel_rfl) rfl ?_); intro w0 M μ0; simp only [Tryz.ntmps12, List.length_cons, List.length_nil, Nat.reduceAdd, Nat.reduceSub, numb]
    repeat' (first | ((first | apply o_do | apply d_do | apply d_yes rfl rfl rfl); first | exact lcs (h1) | exact lcs (h2) | exact lsq) | refine a_seq ?_ | refine a_region ?_ | refine o_nil ?_ | refine a_block ?_ | refine a_ret ?_ | refine a_exit ?_ | refine a_skip ?_ | refine a_draw mixed ?_ | refine d_nil (by kernel_rfl) ?_ | refine o_yes rfl rfl rfl ?_ | refine o_no rfl rfl rfl (by decide) ?_ | refine o_no' rfl rfl rfl ?_ | refine a_condT rfl ?_ | refine a_condF rfl ?_ | refine d_no rfl rfl rfl (by decide) ?_ | refine d_no' rfl rfl rfl ?_ | (refine wq2 (fun hb => ?_) (fun hb => ?_) <;> (simp only [hb]; try simp only [hbs, ne_eq] at hb; try (exfalso; first | omega | exact hb trivial))) | fail)
    all_goals refine rq rfl ?_
    all_goals exact fnq
theorem tellX_len {j : Jb} {m : Int} {e : Et} : (tellX j m e).length ≤ 2 := by
  unfold tellX
  rw [List.length_append]
  split <;> split <;> simp
end Go.Proofs.YtilgagmfcdfjaaaGreat
