/- Texts of the walk, one after the other; what each proves stands ahead of it. -/
import Derived.Test.YtjfccilmlmimaaaTurnA
set_option linter.unusedSimpArgs false
set_option linter.unusedVariables false
/- PLAIN: which lines turn between two values: none outside the part that is looked at. No condition. -/
namespace Go
open Go.RowKit
theorem cmpI_gt {a b c d : Int} : 0 < cmpI a b c d ↔ c * b < a * d := by unfold cmpI; split <;> (try split) <;> omega
/-- only the sign of what compares counts -/
theorem truthN_sign {op : Int} {ok : Bool} {n m : Int} (h1 : n < 0 ↔ m < 0) (h2 : n = 0 ↔ m = 0) : truthN op ok n = truthN op ok m := by
  have h3 : n ≤ 0 ↔ m ≤ 0 := by omega
  have h4 : 0 ≤ n ↔ 0 ≤ m := by omega
  have h5 : 0 < n ↔ 0 < m := by omega
  unfold truthN
  simp only [h1, h2, h3, h4, h5]
theorem both_yes {a b c d : Int} : both a b c d = true ↔ sureB a b = true ∧ sureB c d = true := by unfold both; simp
/-- a line that stands ahead of the lower value does not turn -/
theorem no_flip_low {a b c d : Int} {x : Ln} (h : both a b c d = true) (hx : sureB x.p x.q = true) (hq : 1 ≤ x.q) (hb : 1 ≤ b) (hd : 1 ≤ d) (hac : cmpI a b c d < 0) (hA : aheadA a b x = true) : flipAt a b c d x = false := by
  obtain ⟨s1, s2⟩ := both_yes.1 h
  have b1 : both x.p x.q a b = true := both_yes.2 ⟨hx, s1⟩
  unfold aheadA befI at hA
  rw [if_pos b1] at hA
  have h1 : cmpI x.p x.q a b < 0 := by simpa using hA
  rw [cmpI_lt] at h1 hac
  have h2 := (frac_lt_trans hq hb hd (Int.le_of_lt h1) (Int.le_of_lt hac)).2 (.inl h1)
  unfold flipAt truth
  have e1 : both a b x.p x.q = true := both_yes.2 ⟨s1, hx⟩
  have e2 : both c d x.p x.q = true := both_yes.2 ⟨s2, hx⟩
  rw [e1, e2, truthN_sign (n := cmpI a b x.p x.q) (m := cmpI c d x.p x.q)]
  · simp
  · rw [cmpI_lt, cmpI_lt]; omega
  · rw [cmpI_eq, cmpI_eq]; omega
/-- nor one that stands behind the higher value -/
theorem no_flip_high {a b c d : Int} {x : Ln} (h : both a b c d = true) (hx : sureB x.p x.q = true) (hq : 1 ≤ x.q) (hb : 1 ≤ b) (hd : 1 ≤ d) (hac : cmpI a b c d < 0) (hA : aheadB c d x = false) : flipAt a b c d x = false := by
  obtain ⟨s1, s2⟩ := both_yes.1 h
  have b1 : both x.p x.q c d = true := both_yes.2 ⟨hx, s2⟩
  unfold aheadB befI at hA
  rw [if_pos b1] at hA
  have h1 : 0 < cmpI x.p x.q c d := by simpa using hA
  rw [cmpI_gt] at h1
  rw [cmpI_lt] at hac
  have h2 := (frac_lt_trans hb hd hq (Int.le_of_lt hac) (Int.le_of_lt h1)).2 (.inl hac)
  unfold flipAt truth
  have e1 : both a b x.p x.q = true := both_yes.2 ⟨s1, hx⟩
  have e2 : both c d x.p x.q = true := both_yes.2 ⟨s2, hx⟩
  rw [e1, e2, truthN_sign (n := cmpI a b x.p x.q) (m := cmpI c d x.p x.q)]
  · simp
  · rw [cmpI_lt, cmpI_lt]; omega
  · rw [cmpI_eq, cmpI_eq]; omega
theorem flip_swap (a b c d : Int) (x : Ln) : flipAt a b c d x = flipAt c d a b x := by unfold flipAt; exact decide_eq_decide.2 ne_comm
/-- nor any between one place and itself -/
theorem no_flip_spot {a b c d : Int} {x : Ln} (h : both a b c d = true) (hq : 1 ≤ x.q) (hx : sureB x.p x.q = true) (hb : 1 ≤ b) (hd : 1 ≤ d) (hac : cmpI a b c d = 0) : flipAt a b c d x = false := by
  obtain ⟨s1, s2⟩ := both_yes.1 h
  have e1 : both a b x.p x.q = true := both_yes.2 ⟨s1, hx⟩
  have e2 : both c d x.p x.q = true := both_yes.2 ⟨s2, hx⟩
  rw [cmpI_eq] at hac
  have t1 := fun k => frac_lt_trans (a := a) (b := b) (c := c) (d := d) (e := x.p) (f := x.q) hb hd hq (Int.le_of_eq hac) k
  have t2 := fun k => frac_lt_trans (a := c) (b := d) (c := a) (d := b) (e := x.p) (f := x.q) hd hb hq (Int.le_of_eq hac.symm) k
  have t3 := fun k => frac_lt_trans (a := x.p) (b := x.q) (c := a) (d := b) (e := c) (f := d) hq hb hd k (Int.le_of_eq hac)
  have t4 := fun k => frac_lt_trans (a := x.p) (b := x.q) (c := c) (d := d) (e := a) (f := b) hq hd hb k (Int.le_of_eq hac.symm)
  have lt_iff : cmpI a b x.p x.q < 0 ↔ cmpI c d x.p x.q < 0 := by
    rw [cmpI_lt, cmpI_lt]
    constructor
    · intro k; exact (t2 (Int.le_of_lt k)).2 (.inr k)
    · intro k; exact (t1 (Int.le_of_lt k)).2 (.inr k)
  have gt_iff : 0 < cmpI a b x.p x.q ↔ 0 < cmpI c d x.p x.q := by
    rw [cmpI_gt, cmpI_gt]
    constructor
    · intro k; exact (t3 (Int.le_of_lt k)).2 (.inl k)
    · intro k; exact (t4 (Int.le_of_lt k)).2 (.inl k)
  unfold flipAt truth
  rw [e1, e2, truthN_sign (n := cmpI a b x.p x.q) (m := cmpI c d x.p x.q) lt_iff (by omega)]
  simp
/-- lines in order stand in order -/
theorem Srt.le {m p : List Ln} (h : Srt m p) {i j : Nat} {x y : Ln} (hij : i < j) (hx : p[i]? = some x) (hy : p[j]? = some y) : cmpI x.p x.q y.p y.q ≤ 0 := by
  obtain ⟨f, ⟨h1, _, _⟩, rfl⟩ := h
  have hj := (List.getElem?_eq_some_iff.1 hy).1
  simp only [List.length_map, List.length_range] at hj
  simp only [List.getElem?_map, List.getElem?_range (show i < m.length by omega), List.getElem?_range hj, Option.map_some, Option.some.injEq] at hx hy
  have := h1 i j (Nat.zero_le _) hij hj
  unfold ltP at this
  rw [hx, hy] at this
  omega
theorem aheadA_down {a b : Int} {x y : Ln} (sx : sureB x.p x.q = true) (sy : sureB y.p y.q = true) (hx : 1 ≤ x.q) (hy : 1 ≤ y.q) (hb : 1 ≤ b) (s : sureB a b = true) (hxy : cmpI x.p x.q y.p y.q ≤ 0) (h : aheadA a b y = true) : aheadA a b x = true := by
  unfold aheadA befI at *
  rw [if_pos (both_yes.2 ⟨sy, s⟩)] at h
  rw [if_pos (both_yes.2 ⟨sx, s⟩)]
  have h1 : cmpI y.p y.q a b < 0 := by simpa using h
  have h2 : x.p * y.q ≤ y.p * x.q := by
    have := @cmpI_gt x.p x.q y.p y.q
    omega
  rw [cmpI_lt] at h1
  have := (frac_lt_trans hx hy hb h2 (Int.le_of_lt h1)).2 (.inr h1)
  simpa [cmpI_lt] using this
theorem aheadB_up {c d : Int} {x y : Ln} (sx : sureB x.p x.q = true) (sy : sureB y.p y.q = true) (hx : 1 ≤ x.q) (hy : 1 ≤ y.q) (hd : 1 ≤ d) (s : sureB c d = true) (hxy : cmpI x.p x.q y.p y.q ≤ 0) (h : aheadB c d x = false) : aheadB c d y = false := by
  unfold aheadB befI at *
  rw [if_pos (both_yes.2 ⟨sx, s⟩)] at h
  rw [if_pos (both_yes.2 ⟨sy, s⟩)]
  have h1 : 0 < cmpI x.p x.q c d := by simpa using h
  have h2 : x.p * y.q ≤ y.p * x.q := by
    have := @cmpI_gt x.p x.q y.p y.q
    omega
  rw [cmpI_gt] at h1
  have := (frac_lt_trans hd hx hy (Int.le_of_lt h1) h2).2 (.inl h1)
  have h3 : 0 < cmpI y.p y.q c d := cmpI_gt.2 this
  simpa using h3
end Go

/- PLAIN: which lines are looked at, and that no other one turns; what turns and what is true, told of all lines. No condition. -/
namespace Go
open Go.RowKit
theorem cut_mem {a b c d : Int} {m p sub : List Ln} (hS : Srt m p) (hs : ∀ x ∈ p, sureB x.p x.q = true) (h : both a b c d = true) (hac : cmpI a b c d < 0) (hc : CutL a b c d p sub) (x : Ln) (hx : x ∈ p) (hf : flipAt a b c d x = true) : x ∈ sub := by
  obtain ⟨k1, k2, rfl, ⟨b1, b2⟩, h1, h2, h3, h4⟩ := hc
  obtain ⟨s1, s2⟩ := both_yes.1 h
  have hb := (sureB_yes s1).1
  have hd := (sureB_yes s2).1
  have hq := (sureB_yes (hs x hx)).1
  obtain ⟨i, hi, e⟩ := List.mem_iff_getElem.1 hx
  have hxi : p[i]? = some x := by rw [List.getElem?_eq_getElem hi, e]
  by_cases hik : i < k1
  · exfalso
    have hA : aheadA a b x = true := by
      have hl : k1 - 1 < p.length := by omega
      have hy := List.getElem?_eq_getElem hl
      have hA := h1 _ (by omega) hy
      by_cases e1 : i = k1 - 1
      · subst e1
        rw [hy] at hxi
        injection hxi with hxi
        rw [← hxi]; exact hA
      · have sy := hs _ (List.getElem_mem hl)
        exact aheadA_down (hs x hx) sy hq (sureB_yes sy).1 hb s1 (hS.le (show i < k1 - 1 by omega) hxi hy) hA
    rw [no_flip_low h (hs x hx) hq hb hd hac hA] at hf
    cases hf
  · obtain ⟨j, rfl⟩ : ∃ j, i = k1 + j := ⟨i - k1, by omega⟩
    have hxj : (p.drop k1)[j]? = some x := by rw [List.getElem?_drop]; exact hxi
    by_cases hjk : j < k2
    · exact List.mem_of_getElem? (i := j) (by rw [List.getElem?_take, if_pos hjk]; exact hxj)
    · exfalso
      have hB : aheadB c d x = false := by
        have hl : k2 < (p.drop k1).length := by simp; omega
        have hy := List.getElem?_eq_getElem hl
        have hA := h4 _ hy
        by_cases e1 : j = k2
        · subst e1
          rw [hy] at hxj
          injection hxj with hxj
          rw [← hxj]; exact hA
        · have hm : (p.drop k1)[k2] ∈ p := List.mem_of_mem_drop (List.getElem_mem hl)
          have sy := hs _ hm
          have hy' : p[k1 + k2]? = some (p.drop k1)[k2] := by rw [← List.getElem?_drop]; exact hy
          exact aheadB_up sy (hs x hx) (sureB_yes sy).1 hq hd s2 (hS.le (show k1 + k2 < k1 + j by omega) hy' hxi) hA
      rw [no_flip_high h (hs x hx) hq hb hd hac hB] at hf
      cases hf
theorem both_swap (a b c d : Int) : both a b c d = both c d a b := by unfold both; exact Bool.and_comm _ _
theorem cmpI_swap {a b c d : Int} (h1 : ¬ cmpI a b c d = 0) (h2 : ¬ cmpI a b c d < 0) : cmpI c d a b < 0 := by
  rw [cmpI_eq] at h1; rw [cmpI_lt] at *; omega
theorem sub_mem {a b c d : Int} {m p sub : List Ln} (hS : Srt m p) (hs : ∀ x ∈ p, sureB x.p x.q = true) (h : SubOf a b c d p sub) (x : Ln) (hx : x ∈ p) (hf : flipAt a b c d x = true) : x ∈ sub := by
  unfold SubOf at h
  cases hb : both a b c d with
  | false => rw [if_pos hb] at h; rw [h]; exact hx
  | true =>
    obtain ⟨s1, s2⟩ := both_yes.1 hb
    rw [hb, if_neg (by simp)] at h
    by_cases h0 : cmpI a b c d = 0
    · have hsx := hs x hx
      rw [no_flip_spot hb (sureB_yes hsx).1 hsx (sureB_yes s1).1 (sureB_yes s2).1 h0] at hf
      cases hf
    · rw [if_neg h0] at h
      by_cases h1 : cmpI a b c d < 0
      · rw [if_pos h1] at h
        exact cut_mem hS hs hb h1 h x hx hf
      · rw [if_neg h1] at h
        rw [flip_swap] at hf
        exact cut_mem hS hs (by rw [both_swap]; exact hb) (cmpI_swap h0 h1) h x hx hf
theorem cut_sub {a b c d : Int} {p sub : List Ln} (h : CutL a b c d p sub) (x : Ln) (hx : x ∈ sub) : x ∈ p := by
  obtain ⟨k1, k2, rfl, _⟩ := h
  exact List.mem_of_mem_drop (List.mem_of_mem_take hx)
theorem sub_sub {a b c d : Int} {p sub : List Ln} (h : SubOf a b c d p sub) (x : Ln) (hx : x ∈ sub) : x ∈ p := by
  unfold SubOf at h
  split at h
  · rw [← h]; exact hx
  · split at h
    · rw [h] at hx; cases hx
    · split at h
      · exact cut_sub h x hx
      · exact cut_sub h x hx
theorem ofN_sure {l p : List Ln} {s : List UInt8} (hS : Srt (ofN l l.length s) p) (x : Ln) (hx : x ∈ p) : sureB x.p x.q = true := by
  have h := (ofN_mem.1 ((Srt.mem hS x).1 hx)).2
  unfold okN at h
  rw [Bool.and_eq_true] at h
  exact h.1
theorem not_sure_flip {a b c d : Int} {x : Ln} (h : sureB x.p x.q = false) : flipAt a b c d x = false := by
  unfold flipAt truth both
  rw [h, Bool.and_false, Bool.and_false]
  simp [truthN]
theorem not_sure_true {a b : Int} {x : Ln} (h : sureB x.p x.q = false) : trueAt a b x = false := by
  unfold trueAt truth both
  rw [h, Bool.and_false]
  simp [truthN]
theorem idsOf_of {f : Ln → Bool} {nm : ByteArray} {l p : List Ln} (hS : Srt (ofN l l.length nm.data.toList) p) (hf : ∀ x : Ln, sureB x.p x.q = false → f x = false) (z : Int) : z ∈ idsOf f p ↔ z ∈ idsOf (fun x => decide (x.n = nm) && f x) l := by
  rw [idsOf_mem, idsOf_mem]
  constructor
  · rintro ⟨x, h1, h2, h3⟩
    obtain ⟨h4, h5⟩ := ofN_mem.1 ((Srt.mem hS x).1 h1)
    unfold okN at h5
    rw [Bool.and_eq_true] at h5
    have hn : x.n = nm := (nameEq _ _).1 (by simpa using h5.2)
    exact ⟨x, h4, by simp [hn, h2], h3⟩
  · rintro ⟨x, h1, h2, h3⟩
    rw [Bool.and_eq_true] at h2
    have hn : x.n = nm := by simpa using h2.1
    refine ⟨x, (Srt.mem hS x).2 (ofN_mem.2 ⟨h1, ?_⟩), h2.2, h3⟩
    unfold okN
    rw [Bool.and_eq_true]
    refine ⟨?_, by rw [hn]; simp⟩
    cases hs : sureB x.p x.q
    · rw [hf x hs] at h2; cases h2.2
    · rfl
/-- what turns, told of all lines -/
theorem flips_rise {a b c d : Int} {nm : ByteArray} {l p sub : List Ln} {r : List Int} (hS : Srt (ofN l l.length nm.data.toList) p) (h : SubOf a b c d p sub) (hr : Rise r (idsOf (flipAt a b c d) sub)) : Rise r (idsOf (flipR nm a b c d) l) := by
  refine ⟨hr.1, fun z => (hr.2 z).trans (Iff.trans ?_ (idsOf_of hS (fun x => not_sure_flip) z))⟩
  rw [idsOf_mem, idsOf_mem]
  constructor
  · rintro ⟨x, h1, h2, h3⟩
    exact ⟨x, sub_sub h x h1, h2, h3⟩
  · rintro ⟨x, h1, h2, h3⟩
    exact ⟨x, sub_mem hS (ofN_sure hS) h x h1 h2, h2, h3⟩
/-- what is true, told of all lines -/
theorem trues_rise {a b : Int} {nm : ByteArray} {l p : List Ln} {r : List Int} (hS : Srt (ofN l l.length nm.data.toList) p) (hr : Rise r (idsOf (trueAt a b) p)) : Rise r (idsOf (trueR nm a b) l) :=
  ⟨hr.1, fun z => (hr.2 z).trans (idsOf_of hS (fun _ => not_sure_true) z)⟩
/-- whether any turns -/
theorem any_flip {a b c d : Int} {nm : ByteArray} {l p sub : List Ln} (hS : Srt (ofN l l.length nm.data.toList) p) (h : SubOf a b c d p sub) : (idsOf (flipAt a b c d) sub = []) ↔ (idsOf (flipR nm a b c d) l = []) := by
  have key : ∀ z, z ∈ idsOf (flipAt a b c d) sub ↔ z ∈ idsOf (flipR nm a b c d) l := fun z => by
    refine Iff.trans ?_ (idsOf_of hS (fun x => not_sure_flip) z)
    rw [idsOf_mem, idsOf_mem]
    constructor
    · rintro ⟨x, h1, h2, h3⟩
      exact ⟨x, sub_sub h x h1, h2, h3⟩
    · rintro ⟨x, h1, h2, h3⟩
      exact ⟨x, sub_mem hS (ofN_sure hS) h x h1 h2, h2, h3⟩
  simp only [List.eq_nil_iff_forall_not_mem, key]
theorem ltP_self {m : List Ln} {x : Int} (h : ltP m x x) : False := by
  unfold ltP at h
  rw [cmpI_lt, cmpI_eq] at h
  omega
theorem Srt.perm {m p : List Ln} (h : Srt m p) : p.Perm m := by
  obtain ⟨f, ⟨h1, h2, h3⟩, rfl⟩ := h
  have hm : (List.range m.length).map (fun k : Nat => atL m (k : Int)) = m := by
    apply List.ext_getElem (by simp)
    intro i h1 h2
    simp only [List.getElem_map, List.getElem_range]
    exact atL_get (List.getElem?_eq_getElem h2)
  have hp : ((List.range m.length).map f).Perm ((List.range m.length).map fun k : Nat => (k : Int)) := by
    refine (List.perm_ext_iff_of_nodup ?_ ?_).2 ?_
    · refine List.pairwise_iff_getElem.2 fun i j hi hj hij => ?_
      simp only [List.length_map, List.length_range] at hi hj
      simp only [List.getElem_map, List.getElem_range]
      intro e
      have := h1 i j (Nat.zero_le _) hij hj
      rw [e] at this
      exact ltP_self this
    · refine List.pairwise_iff_getElem.2 fun i j hi hj hij => ?_
      simp only [List.getElem_map, List.getElem_range]
      omega
    · intro z
      simp only [List.mem_map, List.mem_range]
      constructor
      · rintro ⟨k, hk, rfl⟩
        obtain ⟨j, _, hj, e⟩ := h2 k (Nat.zero_le _) hk
        exact ⟨j, hj, e.symm⟩
      · rintro ⟨j, hj, rfl⟩
        obtain ⟨k, _, hk, e⟩ := h3 j (Nat.zero_le _) hj
        exact ⟨k, hk, e⟩
  have h4 := hp.map (atL m)
  rw [List.map_map, List.map_map] at h4
  have h5 : List.map (atL m ∘ fun k : Nat => (k : Int)) (List.range m.length) = m := hm
  rw [h5] at h4
  exact h4
/-- lies a line of this name between two values? -/
def betw (nm : ByteArray) (a b c d : Int) (x : Ln) : Bool := decide (x.n = nm) && (both a b x.p x.q && (decide (cmpI a b x.p x.q ≤ 0) && decide ((if both x.p x.q c d = true then cmpI x.p x.q c d else 0) ≤ 0)))
theorem cut_in {a b c d : Int} {m p sub : List Ln} (hS : Srt m p) (hs : ∀ x ∈ p, sureB x.p x.q = true) (h : both a b c d = true) (hc : CutL a b c d p sub) (x : Ln) (hx : x ∈ sub) : aheadA a b x = false ∧ aheadB c d x = true := by
  obtain ⟨s1, s2⟩ := both_yes.1 h
  have hb := (sureB_yes s1).1
  have hd := (sureB_yes s2).1
  have hxp := cut_sub hc x hx
  have hq := (sureB_yes (hs x hxp)).1
  obtain ⟨k1, k2, rfl, ⟨b1, b2⟩, h1, h2, h3, h4⟩ := hc
  obtain ⟨j, hj, e⟩ := List.mem_iff_getElem.1 hx
  simp only [List.length_take] at hj
  have hjk : j < k2 := by omega
  have hxj : (p.drop k1)[j]? = some x := by
    have : ((p.drop k1).take k2)[j]? = some x := by rw [List.getElem?_eq_getElem (by simp only [List.length_take]; omega), e]
    rwa [List.getElem?_take, if_pos hjk] at this
  have hxi : p[k1 + j]? = some x := by rw [← List.getElem?_drop]; exact hxj
  have hlen := (List.getElem?_eq_some_iff.1 hxi).1
  constructor
  · have hl : k1 < p.length := by omega
    have hy := List.getElem?_eq_getElem hl
    have hA := h2 _ hy
    by_cases e0 : j = 0
    · subst e0
      rw [Nat.add_zero, hy] at hxi
      injection hxi with hxi
      rw [← hxi]; exact hA
    · have sy := hs _ (List.getElem_mem hl)
      cases hax : aheadA a b x with
      | false => rfl
      | true => rw [aheadA_down sy (hs x hxp) (sureB_yes sy).1 hq hb s1 (hS.le (show k1 < k1 + j by omega) hy hxi) hax] at hA; cases hA
  · have hl : k2 - 1 < (p.drop k1).length := by omega
    have hy := List.getElem?_eq_getElem hl
    have hA := h3 _ (by omega) hy
    by_cases e0 : j = k2 - 1
    · subst e0
      rw [hy] at hxj
      injection hxj with hxj
      rw [← hxj]; exact hA
    · have hm : (p.drop k1)[k2 - 1] ∈ p := List.mem_of_mem_drop (List.getElem_mem hl)
      have sy := hs _ hm
      have hy' : p[k1 + (k2 - 1)]? = some (p.drop k1)[k2 - 1] := by rw [← List.getElem?_drop]; exact hy
      cases hax : aheadB c d x with
      | true => rfl
      | false => rw [aheadB_up (hs x hxp) sy hq (sureB_yes sy).1 hd s2 (hS.le (show k1 + j < k1 + (k2 - 1) by omega) hxi hy') hax] at hA; cases hA
theorem cut_few {a b c d : Int} {nm : ByteArray} {l p sub : List Ln} (hS : Srt (ofN l l.length nm.data.toList) p) (h : both a b c d = true) (hc : CutL a b c d p sub) : sub.length ≤ (l.filter (betw nm a b c d)).length := by
  have hs := ofN_sure hS
  obtain ⟨s1, s2⟩ := both_yes.1 h
  have hin := cut_in hS hs h hc
  have hsub : sub.Sublist p := by
    obtain ⟨k1, k2, rfl, _⟩ := hc
    exact (List.take_sublist _ _).trans (List.drop_sublist _ _)
  have hall : ∀ x ∈ sub, betw nm a b c d x = true := fun x hx => by
    have hxp := hsub.subset hx
    have hsx := hs x hxp
    have h5 := (ofN_mem.1 ((Srt.mem hS x).1 hxp)).2
    unfold okN at h5
    rw [Bool.and_eq_true] at h5
    have hn : x.n = nm := (nameEq _ _).1 (by simpa using h5.2)
    obtain ⟨i1, i2⟩ := hin x hx
    unfold aheadA befI at i1
    unfold aheadB befI at i2
    rw [if_pos (both_yes.2 ⟨hsx, s1⟩)] at i1
    rw [if_pos (both_yes.2 ⟨hsx, s2⟩)] at i2
    have i1 : ¬ cmpI x.p x.q a b < 0 := by simpa using i1
    have i3 : cmpI a b x.p x.q ≤ 0 := by
      have := @cmpI_gt a b x.p x.q
      have := @cmpI_lt x.p x.q a b
      omega
    unfold betw
    rw [if_pos (both_yes.2 ⟨hsx, s2⟩), both_yes.2 ⟨s1, hsx⟩]
    simp [hn, i3, i2]
  have h1 : sub.Sublist (p.filter (betw nm a b c d)) := by
    have := hsub.filter (betw nm a b c d)
    rwa [List.filter_eq_self.2 hall] at this
  have h2 : (p.filter (betw nm a b c d)).length = ((ofN l l.length nm.data.toList).filter (betw nm a b c d)).length := (hS.perm.filter _).length_eq
  have h3 : ((ofN l l.length nm.data.toList).filter (betw nm a b c d)).Sublist (l.filter (betw nm a b c d)) := by
    unfold ofN
    rw [List.take_length]
    exact List.filter_sublist.filter _
  have := h1.length_le
  have := h3.length_le
  omega
/-- how many lines may be looked at -/
def Looks (a b c d : Int) (nm : ByteArray) (l : List Ln) (m : Nat) : Prop := ∃ p sub, Srt (ofN l l.length nm.data.toList) p ∧ SubOf a b c d p sub ∧ m ≤ sub.length
theorem Looks.few {a b c d : Int} {nm : ByteArray} {l : List Ln} {m : Nat} (h : Looks a b c d nm l m) (hb : both a b c d = true) : (cmpI a b c d = 0 → m = 0) ∧ (cmpI a b c d < 0 → m ≤ (l.filter (betw nm a b c d)).length) ∧ (0 < cmpI a b c d → m ≤ (l.filter (betw nm c d a b)).length) := by
  obtain ⟨p, sub, hS, h1, h2⟩ := h
  unfold SubOf at h1
  rw [hb, if_neg (by simp)] at h1
  refine ⟨fun h0 => ?_, fun h0 => ?_, fun h0 => ?_⟩
  · rw [if_pos h0] at h1; rw [h1] at h2; simpa using h2
  · rw [if_neg (by omega), if_pos h0] at h1
    exact Nat.le_trans h2 (cut_few hS hb h1)
  · rw [if_neg (by omega), if_neg (by omega)] at h1
    exact Nat.le_trans h2 (cut_few hS (by rw [both_swap]; exact hb) h1)
theorem Looks.swap {a b c d : Int} {nm : ByteArray} {l : List Ln} {m : Nat} (h : Looks a b c d nm l m) : Looks c d a b nm l m := by
  obtain ⟨p, sub, hS, h1, h2⟩ := h
  refine ⟨p, sub, hS, ?_, h2⟩
  unfold SubOf at *
  rw [both_swap c d a b]
  split at h1
  · next h => rw [if_pos h]; exact h1
  · next h =>
    rw [if_neg h]
    have e1 := @cmpI_eq a b c d
    have e2 := @cmpI_eq c d a b
    have e3 := @cmpI_lt a b c d
    have e4 := @cmpI_lt c d a b
    split at h1
    · rw [if_pos (by omega)]; exact h1
    · split at h1
      · rw [if_neg (by omega), if_neg (by omega)]; exact h1
      · rw [if_neg (by omega), if_pos (by omega)]; exact h1
end Go
