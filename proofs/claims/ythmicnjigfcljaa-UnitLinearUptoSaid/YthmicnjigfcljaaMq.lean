/- Texts of the walk, one after the other; what each proves stands ahead of it. -/
import Derived.Test.YthmicnjigfcljaaMa
import Derived.Test.YthmicnjigfcljaaMg
import Derived.Test.YthmicnjigfcljaaMj
import Derived.Test.YthmicnjigfcljaaOpsE
set_option linter.unusedSimpArgs false
set_option linter.unusedVariables false
/- FORMS: lengths in normal form, as trees; as they stand in memory. No condition; no program. -/
namespace Go
open Go.RowKit

/-- so much of each unit, and parts: the greatest (true) or the least of forms -/
inductive Fm where
  | mk (us : List (Int × Int)) (ps : List (Bool × List Fm))
def Fm.us : Fm → List (Int × Int) | .mk us _ => us
def Fm.ps : Fm → List (Bool × List Fm) | .mk _ ps => ps
abbrev PartR (R : Fm → List Value → Prop) (w : World) (S : Nat → Prop) (p : Bool × List Fm) (cs : List Value) : Prop := ∃ v, cs = [.bool p.1, v] ∧ SlAt w S 15 R v p.2
/-- the form (no deeper than the number) stands in memory, its head in these cells -/
def FormAt (w : World) (S : Nat → Prop) : Nat → Fm → List Value → Prop
  | 0, _, _ => False
  | m + 1, .mk us ps, cs => us.length = 7 ∧ (∀ p ∈ us, I64p p) ∧ ∃ v, cs = us.flatMap ratL ++ [v] ∧ SlAt w S 2 (PartR (FormAt w S m) w S) v ps
def FormOk (w : World) (S : Nat → Prop) (f : Fm) (cs : List Value) : Prop := ∃ m, FormAt w S m f cs
theorem FormAt.keep {w W : World} {S S' : Nat → Prop} (hw : ∀ g, S g → g < w.heap.size → W.row g = w.row g ∧ S' g) : ∀ (m : Nat) (f : Fm) (cs : List Value), FormAt w S m f cs → FormAt W S' m f cs
  | 0, _, _, h => h
  | m + 1, .mk us ps, cs, h => by
    obtain ⟨h1, h2, v, h3, h4⟩ := h
    exact ⟨h1, h2, v, h3, h4.keep hw fun p _ cs ⟨v', e, h⟩ => ⟨v', e, h.keep hw fun f _ cs hf => FormAt.keep hw m f cs hf⟩⟩
theorem FormAt.succ {w : World} {S : Nat → Prop} : ∀ (m : Nat) (f : Fm) (cs : List Value), FormAt w S m f cs → FormAt w S (m + 1) f cs
  | 0, _, _, h => h.elim
  | m + 1, .mk us ps, cs, h => by
    obtain ⟨h1, h2, v, h3, h4⟩ := h
    exact ⟨h1, h2, v, h3, h4.keep (fun _ hS _ => ⟨rfl, hS⟩) fun p _ cs ⟨v', e, h⟩ => ⟨v', e, h.keep (fun _ hS _ => ⟨rfl, hS⟩) fun f _ cs hf => FormAt.succ m f cs hf⟩⟩
theorem FormAt.le {w : World} {S : Nat → Prop} {m m' : Nat} {f : Fm} {cs : List Value} (h : FormAt w S m f cs) (hm : m ≤ m') : FormAt w S m' f cs := by
  induction hm with
  | refl => exact h
  | step _ ih => exact FormAt.succ _ _ _ ih
theorem FormOk.keep {w W : World} {S S' : Nat → Prop} (hw : ∀ g, S g → g < w.heap.size → W.row g = w.row g ∧ S' g) {f : Fm} {cs : List Value} (h : FormOk w S f cs) : FormOk W S' f cs := by
  obtain ⟨m, h⟩ := h; exact ⟨m, h.keep hw⟩
theorem FormOk.grows {w W : World} {S : Nat → Prop} {f : Fm} {cs : List Value} (h : FormOk w S f cs) (hg : w.grows W) : FormOk W S f cs :=
  h.keep fun _ hS hl => ⟨hg.row_eq hl, hS⟩
theorem FormAt.grows {w W : World} {S : Nat → Prop} {m : Nat} {f : Fm} {cs : List Value} (h : FormAt w S m f cs) (hg : w.grows W) : FormAt W S m f cs :=
  FormAt.keep (fun _ hS hl => ⟨hg.row_eq hl, hS⟩) m f cs h
theorem FormAt.len {w : World} {S : Nat → Prop} {m : Nat} {f : Fm} {cs : List Value} (h : FormAt w S m f cs) : cs.length = 15 := by
  cases m with
  | zero => exact h.elim
  | succ m =>
    obtain ⟨us, ps⟩ := f
    obtain ⟨h1, _, v, rfl, _⟩ := h
    have e : (us.map fun _ => 2).sum = 14 := by rw [List.map_const', List.sum_replicate_nat, h1]
    rw [List.length_append, List.length_flatMap]
    show (us.map fun _ => 2).sum + 1 = 15
    omega
theorem FormOk.len {w : World} {S : Nat → Prop} {f : Fm} {cs : List Value} (h : FormOk w S f cs) : cs.length = 15 := by
  obtain ⟨m, h⟩ := h; exact h.len
/-- a common depth for a list -/
theorem common_depth {α : Type} {P : Nat → α → Prop} (hP : ∀ m m' x, P m x → m ≤ m' → P m' x) : ∀ (l : List α), (∀ x ∈ l, ∃ m, P m x) → ∃ m, ∀ x ∈ l, P m x
  | [], _ => ⟨0, fun x hx => by cases hx⟩
  | y :: l, h => by
    obtain ⟨m1, h1⟩ := h y (by simp)
    obtain ⟨m2, h2⟩ := common_depth hP l fun x hx => h x (by simp [hx])
    refine ⟨max m1 m2, fun x hx => ?_⟩
    rcases List.mem_cons.1 hx with rfl | hx
    · exact hP _ _ _ h1 (by omega)
    · exact hP _ _ _ (h2 x hx) (by omega)
theorem SlAt.common {α : Type} {w : World} {S : Nat → Prop} {n : Nat} {R : Nat → α → List Value → Prop} (hR : ∀ m m' x cs, R m x cs → m ≤ m' → R m' x cs) {v : Value} {l : List α} (h : SlAt w S n (fun x cs => ∃ m, R m x cs) v l) :
    ∃ m, SlAt w S n (R m) v l := by
  obtain ⟨a, cap, h1, h2, h3, h4⟩ := h
  rcases h4 with h4 | ⟨g, off, h5, h6, h7⟩
  · exact ⟨0, a, cap, h1, h2, h3, .inl h4⟩
  · obtain ⟨m, hm⟩ := common_depth (P := fun m (i : Nat) => ∀ x, l[i]? = some x → ∃ cs, cs.length = n ∧ eltAt w g (off + i * n) cs ∧ R m x cs)
      (fun m m' i h hle x hx => by obtain ⟨cs, a, b, c⟩ := h x hx; exact ⟨cs, a, b, hR _ _ _ _ c hle⟩) (List.range l.length) (fun i hi => by
        have hil := List.mem_range.1 hi
        obtain ⟨cs, a, b, m, c⟩ := h7 i l[i] (by simp [hil])
        exact ⟨m, fun x hx => by rw [List.getElem?_eq_getElem hil] at hx; cases hx; exact ⟨cs, a, b, c⟩⟩)
    exact ⟨m, a, cap, h1, h2, h3, .inr ⟨g, off, h5, h6, fun i x hx => hm i (List.mem_range.2 (List.getElem?_eq_some_iff.1 hx).1) x hx⟩⟩
/-- a form in memory is made of its units and parts in memory -/
theorem FormOk_mk {w : World} {S : Nat → Prop} {us : List (Int × Int)} {ps : List (Bool × List Fm)} {v : Value} (h1 : us.length = 7) (h2 : ∀ p ∈ us, I64p p) (h3 : SlAt w S 2 (PartR (FormOk w S) w S) v ps) :
    FormOk w S (.mk us ps) (us.flatMap ratL ++ [v]) := by
  have hkeep : ∀ (m m' : Nat) (p : Bool × List Fm) (cs : List Value), PartR (FormAt w S m) w S p cs → m ≤ m' → PartR (FormAt w S m') w S p cs :=
    fun m m' p cs ⟨v', e, h⟩ hle => ⟨v', e, h.keep (fun _ hS _ => ⟨rfl, hS⟩) fun f _ cs hf => hf.le hle⟩
  have h4 : SlAt w S 2 (fun p cs => ∃ m, PartR (FormAt w S m) w S p cs) v ps := h3.keep (fun _ hS _ => ⟨rfl, hS⟩) fun p _ cs ⟨v', e, h⟩ => by
    obtain ⟨m, hm⟩ := SlAt.common (R := FormAt w S) (fun _ _ _ _ h hle => h.le hle) h
    exact ⟨m, v', e, hm⟩
  obtain ⟨m, hm⟩ := SlAt.common hkeep h4
  exact ⟨m + 1, h1, h2, v, rfl, hm⟩
theorem FormOk_open {w : World} {S : Nat → Prop} {us : List (Int × Int)} {ps : List (Bool × List Fm)} {cs : List Value} (h : FormOk w S (.mk us ps) cs) :
    us.length = 7 ∧ (∀ p ∈ us, I64p p) ∧ ∃ v, cs = us.flatMap ratL ++ [v] ∧ SlAt w S 2 (PartR (FormOk w S) w S) v ps := by
  obtain ⟨m, h⟩ := h
  cases m with
  | zero => exact h.elim
  | succ m =>
    obtain ⟨h1, h2, v, h3, h4⟩ := h
    exact ⟨h1, h2, v, h3, h4.keep (fun _ hS _ => ⟨rfl, hS⟩) fun p _ cs ⟨v', e, h⟩ => ⟨v', e, h.keep (fun _ hS _ => ⟨rfl, hS⟩) fun f _ cs hf => ⟨m, hf⟩⟩⟩
end Go

/- LAWS over any program: a struct stored in the middle of a block. No condition. -/
namespace Go
open Go.RowKit

/-- n cells from off on stand in the block and may be written -/
def segOkW (off n : Nat) : Option Obj → Bool
  | some (.cells cs _ (0, 0)) => decide (off + n ≤ cs.size)
  | _ => false
def setL (cs : Array Value) : Nat → List Value → Array Value
  | _, [] => cs
  | o, v :: r => setL (cs.setIfInBounds o v) (o + 1) r
/-- the block's cells, these put in from off on -/
def putSeg (off : Nat) (l : List Value) : Option Obj → Array Value
  | some (.cells cs _ _) => setL cs off l
  | _ => #[]
@[go_sem] theorem putSeg_some (off : Nat) (l : List Value) (cs : Array Value) (t : TypeId) (fr : Nat × Nat) : putSeg off l (some (.cells cs t fr)) = setL cs off l := rfl
@[go_sem] theorem segOkW_some (off n : Nat) (cs : Array Value) (t : TypeId) : segOkW off n (some (.cells cs t)) = decide (off + n ≤ cs.size) := rfl
@[go_sem] theorem segOk_some (off n : Nat) (cs : Array Value) (t : TypeId) (fr : Nat × Nat) : segOk off n (some (.cells cs t fr)) = decide (off + n ≤ cs.size) := rfl
theorem setCells_setRow {g : Nat} {t : TypeId} {fr : Nat × Nat} : ∀ (vs : List Value) (o : Nat) (w : World) (cs : Array Value), w.row g = some (.cells cs t fr) → w.setCells g o vs = w.setRow g (setL cs o vs)
  | [], o, w, cs, h => by
    show w = w.setRow g cs
    have e : (w.setRow g cs).heap = w.heap := by
      apply Array.ext_getElem?
      intro i
      have h1 : ∀ (a : World), a.heap[i]? = a.row i := fun a => rfl
      rw [h1, h1, World.row_setRow]
      by_cases hi : i = g
      · subst hi; rw [if_pos rfl, h, allR_some]
      · rw [if_neg hi]
    have e2 : w.setRow g cs = { w with heap := (w.setRow g cs).heap } := rfl
    rw [e2, e]
  | v :: r, o, w, cs, h => by
    have hc : (w.setCell ⟨g, o, none⟩ v).row g = some (.cells (cs.setIfInBounds o v) t fr) := by
      rw [World.row_setCell, if_pos rfl, h, setR_some]
    show (w.setCell ⟨g, o, none⟩ v).setCells g (o + 1) r = w.setRow g (setL (cs.setIfInBounds o v) (o + 1) r)
    rw [setCells_setRow r (o + 1) _ _ hc]
    generalize setL (cs.setIfInBounds o v) (o + 1) r = X
    have e : ((w.setCell ⟨g, o, none⟩ v).setRow g X).heap = (w.setRow g X).heap := by
      apply Array.ext_getElem?
      intro i
      have h1 : ∀ (a : World), a.heap[i]? = a.row i := fun a => rfl
      rw [h1, h1, World.row_setRow, World.row_setRow, hc, h]
      by_cases hi : i = g
      · subst hi; simp [allR_some]
      · rw [if_neg hi, if_neg hi, World.row_setCell, if_neg hi]
    have e2 : (w.setCell ⟨g, o, none⟩ v).setRow g X = { w with heap := ((w.setCell ⟨g, o, none⟩ v).setRow g X).heap } := rfl
    rw [e2, e]
    rfl
theorem run_storeR_seg {P : Program} {w : World} {t : TypeId} {n : Nat} {g off : Nat} {l : List Value} (hi : (P.info? t).map (·.size) = some n) (h1 : (l.length == n && l.all (·.oneCell')) = true) (h : segOkW off n (w.row g) = true) :
    (storeR t (.pointer (some ⟨g, off, none⟩)) (.agg l.toArray)).run P w = .ok () (w.setRow g (putSeg off l (w.row g))) := by
  simp only [Bool.and_eq_true, beq_iff_eq] at h1
  unfold segOkW at h
  split at h
  · rename_i cs t' hg
    have hle : off + n ≤ cs.size := of_decide_eq_true h
    rw [hg, putSeg_some, ← setCells_setRow l off w cs hg]
    have := run_storeAt_mid (P := P) w g off t l.toArray (fun j hj => by
      have hj' : j < n := by rw [← h1.1]; simpa using hj
      rw [World.cell?_row, World.frozen?_row, hg, cellR_some, frozenR_some]
      have : off + j < cs.size := by omega
      simp [this]) (by rw [hi]; simp [h1.1]) (by simpa using h1.2)
    rw [run_storeR]; simpa using this
  · cases h
theorem setL_list : ∀ (vs : List Value) (a b c : List Value), vs.length = b.length → setL (a ++ (b ++ c)).toArray a.length vs = (a ++ (vs ++ c)).toArray
  | [], a, b, c, h => by
    have : b = [] := List.length_eq_zero_iff.1 (by simpa using h.symm)
    subst this; rfl
  | v :: vs, a, [], c, h => by simp at h
  | v :: vs, a, x :: b, c, h => by
    show setL ((a ++ (x :: b ++ c)).toArray.setIfInBounds a.length v) (a.length + 1) vs = _
    have e : (a ++ (x :: b ++ c)).toArray.setIfInBounds a.length v = ((a ++ [v]) ++ (b ++ c)).toArray := by
      rw [List.setIfInBounds_toArray]
      congr 1
      rw [List.set_append_right _ _ (Nat.le_refl _), Nat.sub_self]
      simp
    have := setL_list vs (a ++ [v]) b c (by simpa using h)
    rw [List.length_append, List.length_singleton] at this
    rw [e, this]
    simp
/-- a value of one cell stored -/
theorem run_storeR_one {P : Program} {w : World} {t : TypeId} {g off : Nat} {v : Value} (hi : (P.info? t).map (·.size) = some 1) (hv : v.oneCell' = true) (h : segOkW off 1 (w.row g) = true) :
    (storeR t (.pointer (some ⟨g, off, none⟩)) v).run P w = .ok () (w.setCell ⟨g, off, none⟩ v) := by
  unfold segOkW at h
  split at h
  · rename_i cs t' hg
    have hle : off + 1 ≤ cs.size := of_decide_eq_true h
    have hc : v.cells = #[v] := by cases v <;> first | rfl | (simp [Value.oneCell'] at hv)
    have hcell : w.cell? ⟨g, off, none⟩ = some (cs[off]'(by omega)) := by rw [World.cell?_row, hg, cellR_some, Array.getElem?_eq_getElem (by omega)]
    have hfr : w.frozen? ⟨g, off, none⟩ = false := by rw [World.frozen?_row, hg, frozenR_some]; simp
    have hst := run_store P w ⟨g, off, none⟩ v .plain hv
    rw [hcell, hfr] at hst
    rw [run_storeR]
    cases hq : P.info? t with
    | none => simp [hq] at hi
    | some i =>
      have hs : i.size = 1 := by simpa [hq] using hi
      have h1 := run_storeCells_cells (P := P) g off [v] 0 w (fun j hj => by
        obtain rfl : j = 0 := by simpa using hj
        simp only [Nat.add_zero]; rw [hcell]; rfl) (fun j hj => by
        obtain rfl : j = 0 := by simpa using hj
        simp only [Nat.add_zero]; exact hfr) (fun u hu => by rw [List.mem_singleton.1 hu]; exact hv)
      simp only [Instr.storeAt, Instr.sureAddr, Sem.run_bind, Sem.run_pure, Result.andThen_ok]
      simp only [Nat.add_zero] at h1
      simp [storeVar, sizeOf, typeInfo, hq, hc, hs, h1]
      rfl
  · cases h
end Go

/- LAWS of this program's forms: their memory, with units and parts as lists. No condition. -/
namespace Go
open Go.RowKit
/-- the cells of a form -/
def formC (us : List (Int × Int)) (v : Value) : List Value := us.flatMap ratL ++ [v]
/-- the cells of seven fractions -/
def unitC (us : List (Int × Int)) : List Value := us.flatMap ratL
theorem unitC_len (us : List (Int × Int)) : (unitC us).length = us.length * 2 := by
  unfold unitC
  induction us with
  | nil => rfl
  | cons p us ih => rw [List.flatMap_cons, List.length_append, ih, List.length_cons]; simp [ratL]; omega
theorem formC_len' (us : List (Int × Int)) (v : Value) : (formC us v).length = us.length * 2 + 1 := by
  have := unitC_len us; unfold unitC at this; unfold formC; rw [List.length_append, this]; rfl
theorem formC_len {us : List (Int × Int)} (v : Value) (h : us.length = 7) : (formC us v).length = 15 := by
  have := unitC_len us; unfold unitC at this; unfold formC; rw [List.length_append, this, h]; rfl
theorem formC_one {us : List (Int × Int)} {v : Value} (hv : v.oneCell' = true) : (formC us v).all (·.oneCell') = true := by
  unfold formC
  rw [List.all_append, List.all_flatMap, List.all_cons, hv]
  simp [ratL, Value.oneCell']
theorem formC_unit {us : List (Int × Int)} {v : Value} (h : us.length = 7) {t : TypeId} {fr : Nat × Nat} : segV 0 14 (some (.cells (formC us v).toArray t fr)) = .agg (unitC us).toArray := by
  have hl := unitC_len us
  show Value.agg ((formC us v).toArray.extract 0 (0 + 14)) = _
  unfold formC unitC at *
  congr 1
  apply Array.ext'
  rw [Array.toList_extract]
  simp only [List.extract_eq_take_drop, List.drop_zero]
  rw [List.take_append_of_le_length (by omega), List.take_of_length_le (by omega)]
theorem unitC_get {us : List (Int × Int)} {i : Nat} (hi : i < us.length) : (unitC us).toArray.extract (i * 2) (i * 2 + 2) = #[.int .i64 us[i].1, .int .i64 us[i].2] := by
  have hl := unitC_len us
  apply Array.ext_getElem?
  intro j
  rw [Array.getElem?_extract]
  by_cases hj : j < 2
  · have h1 := flat_get us i us[i] j (List.getElem?_eq_getElem hi) hj
    rw [if_pos (by simp; omega)]
    simp only [List.getElem?_toArray]
    rw [show unitC us = us.flatMap ratL from rfl, h1]
  · rw [if_neg (by omega)]
    match j, hj with
    | j + 2, _ => rfl
    | 0, h => exact absurd (by omega) h
    | 1, h => exact absurd (by omega) h
theorem formC_get {us : List (Int × Int)} {v : Value} {i : Nat} (hi : i < us.length) {t : TypeId} {fr : Nat × Nat} : segV (i * 2) 2 (some (.cells (formC us v).toArray t fr)) = ratV us[i] := by
  have hl := unitC_len us
  show Value.agg ((formC us v).toArray.extract (i * 2) (i * 2 + 2)) = _
  congr 1
  apply Array.ext_getElem?
  intro j
  rw [Array.getElem?_extract]
  by_cases hj : j < 2
  · have h1 := flat_get us i us[i] j (List.getElem?_eq_getElem hi) hj
    rw [if_pos (by simp [formC_len', hl]; omega)]
    simp only [List.getElem?_toArray]
    unfold formC
    rw [List.getElem?_append_left (by unfold unitC at hl; omega), h1]
  · rw [if_neg (by omega)]
    match j, hj with
    | j + 2, _ => rfl
    | 0, h => exact absurd (by omega) h
    | 1, h => exact absurd (by omega) h
theorem formC_set {us : List (Int × Int)} {v : Value} {i : Nat} (hi : i < us.length) (p : Int × Int) : setL (formC us v).toArray (i * 2) [.int .i64 p.1, .int .i64 p.2] = (formC (us.set i p) v).toArray := by
  have e : formC us v = (us.take i).flatMap ratL ++ (ratL us[i] ++ ((us.drop (i + 1)).flatMap ratL ++ [v])) := by
    have e0 : us = us.take i ++ us[i] :: us.drop (i + 1) := by rw [← List.drop_eq_getElem_cons hi, List.take_append_drop]
    have h := congrArg (List.flatMap ratL) e0
    rw [List.flatMap_append, List.flatMap_cons] at h
    unfold formC
    rw [h]; simp only [List.append_assoc]
  have e2 : formC (us.set i p) v = (us.take i).flatMap ratL ++ (ratL p ++ ((us.drop (i + 1)).flatMap ratL ++ [v])) := by
    unfold formC
    rw [List.set_eq_take_append_cons_drop, if_pos hi]
    simp
  have hl : ((us.take i).flatMap ratL).length = i * 2 := by
    have := unitC_len (us.take i)
    unfold unitC at this
    rw [this, List.length_take, Nat.min_eq_left (Nat.le_of_lt hi)]
  have := setL_list (ratL p) ((us.take i).flatMap ratL) (ratL us[i]) ((us.drop (i + 1)).flatMap ratL ++ [v]) rfl
  rw [hl] at this
  rw [e, e2]; exact this
theorem formC_14 {us : List (Int × Int)} {v : Value} (h : us.length = 7) : (formC us v)[14]? = some v := by
  have hl := unitC_len us
  unfold formC
  rw [List.getElem?_append_right (by unfold unitC at hl; omega)]
  unfold unitC at hl; rw [hl, h]; rfl
theorem formC_set14 {us : List (Int × Int)} {v v' : Value} (h : us.length = 7) : (formC us v).set 14 v' = formC us v' := by
  have hl := unitC_len us
  unfold formC
  rw [List.set_append_right _ _ (by unfold unitC at hl; omega)]
  unfold unitC at hl; rw [hl, h]; rfl
@[go_sem] theorem formC_get14 {us : List (Int × Int)} {v : Value} (h : us.length = 7) (hlt : 14 < (formC us v).length) : (formC us v)[14]'hlt = v := by
  have := formC_14 (v := v) h
  rw [List.getElem?_eq_getElem hlt] at this
  exact Option.some.inj this
attribute [go_sem] formC_14 formC_set14 formC_unit
@[go_sem] theorem formC_length {us : List (Int × Int)} {v : Value} (h : us.length = 7) : (formC us v).length = 15 := formC_len v h
theorem FormOk_form {w : World} {S : Nat → Prop} {us : List (Int × Int)} {ps : List (Bool × List Fm)} {v : Value} (h1 : us.length = 7) (h2 : ∀ p ∈ us, I64p p) (h3 : SlAt w S 2 (PartR (FormOk w S) w S) v ps) :
    FormOk w S (.mk us ps) (formC us v) := FormOk_mk h1 h2 h3
theorem FormOk_us {w : World} {S : Nat → Prop} {us : List (Int × Int)} {ps : List (Bool × List Fm)} {cs : List Value} (h : FormOk w S (.mk us ps) cs) :
    us.length = 7 ∧ (∀ p ∈ us, I64p p) ∧ ∃ v, cs = formC us v ∧ SlAt w S 2 (PartR (FormOk w S) w S) v ps := FormOk_open h
/-- a unit of seven -/
def uGet (us : List (Int × Int)) (i : Nat) : Int × Int := us.getD i (0, 1)
theorem uGet_eq {us : List (Int × Int)} {i : Nat} (h : i < us.length) : uGet us i = us[i] := by
  unfold uGet; rw [List.getD_eq_getElem?_getD, List.getElem?_eq_getElem h]; rfl
theorem extract_units {us : List (Int × Int)} {i : Nat} (h : i < us.length) : (unitC us).toArray.extract (i * 2) (i * 2 + 2) = #[.int .i64 (uGet us i).1, .int .i64 (uGet us i).2] := by
  rw [unitC_get h, uGet_eq h]
end Go
namespace Go.Proofs.Ythmicnjigfcljaa
open Go.RowKit
@[go_sem] theorem storee_rat (w : World) (g off : Nat) (x y : Int) (h : segOkW off 2 (w.row g) = true) : (storeR 23 (.pointer (some ⟨g, off, none⟩)) (.agg #[.int .i64 x, .int .i64 y])).run Try.prog w = .ok () (w.setRow g (putSeg off [.int .i64 x, .int .i64 y] (w.row g))) :=
  run_storeR_seg (l := [.int .i64 x, .int .i64 y]) (by kernel_rfl) rfl h
@[go_sem high] theorem store_form (w : World) (g : Nat) (us : List (Int × Int)) (a : Option Addr) (n c : Nat) (hu : us.length = 7) (h : rowOkW 15 (w.row g) = true) : (storeR 30 (.pointer (some ⟨g, 0, none⟩)) (.agg (formC us (.slice a n c)).toArray)).run Try.prog w = .ok () (w.setRow g (formC us (.slice a n c)).toArray) :=
  run_storeR_row w (by kernel_rfl) (by rw [Bool.and_eq_true]; exact ⟨by rw [formC_len _ hu]; rfl, formC_one rfl⟩) h
@[go_sem] theorem stores_parts (w : World) (g off : Nat) (a : Option Addr) (n c : Nat) (h : segOkW off 1 (w.row g) = true) : (storeR 28 (.pointer (some ⟨g, off, none⟩)) (.slice a n c)).run Try.prog w = .ok () (w.setCell ⟨g, off, none⟩ (.slice a n c)) :=
  run_storeR_one (by kernel_rfl) rfl h
@[go_sem high] theorem index_units (w : World) (us : List (Int × Int)) (i : Nat) (hu : us.length = 7) (hi : i < 7) : (Instr.index 27 (.agg (unitC us).toArray) (.int .i64 (i : Int))).run Try.prog w = .ok (.agg #[.int .i64 (uGet us i).1, .int .i64 (uGet us i).2]) w := by
  have h := extract_units (us := us) (i := i) (by omega)
  have hp : (part 23 (unitC us).toArray (i * 2)).run Try.prog w = .ok (.agg ((unitC us).toArray.extract (i * 2) (i * 2 + 2))) w := by
    generalize (unitC us).toArray = cs
    simp [part, go_sem]
  have hc : (0 : Int) ≤ (i : Int) ∧ (i : Int) < ((7 : Nat) : Int) := by omega
  rw [h] at hp
  simp only [Instr.index, asIntOf, Sem.run_bind, Sem.run_pure, Result.andThen_ok, run_underlying Try.underlying27, if_pos hc]
  simp [go_sem, hp]
  simpa using congrArg Array.toList h
end Go.Proofs.Ythmicnjigfcljaa

/- PLAIN: sums, multiples, the least and the greatest of forms; the form of an expression. No condition; no program. -/
namespace Go
open Go.RowKit

def zeroU : List (Int × Int) := List.replicate 7 (0, 1)
def zeroF : Fm := .mk zeroU []
def oneU (u : Int) (r : Int × Int) : List (Int × Int) := if 1 ≤ u ∧ u ≤ 7 then zeroU.set (u - 1).toNat (cleanQ r) else zeroU
def oneF (u : Int) (r : Int × Int) : Fm := .mk (oneU u r) []
/-- so much of the unit -/
def Fm.u (f : Fm) (i : Nat) : Int × Int := f.us.getD i (0, 1)
def addF (l : List Fm) : Fm := .mk ((List.range 7).map fun i => foldQ (0, 1) addQ (l.map (·.u i))) (l.flatMap Fm.ps)
/-- one of them has something of the unit -/
def usedI (l : List Fm) (i : Nat) : Bool := l.any fun f => f.u i != (0, 1)
def plainB (l : List Fm) : Bool := l.all fun f => f.ps.length == 0
def pickF (most : Bool) (l : List Fm) : Fm :=
  if l.length = 1 then l.getD 0 zeroF
  else if plainB l = false ∨ 2 ≤ (List.range 7).countP (usedI l) then .mk zeroU [(most, l)]
  else match (List.range 7).find? (usedI l) with
    | some i => oneF (i + 1) (bestQ (if most then 1 else -1) (l.map (·.u i)))
    | none => zeroF
def plainS (k : Int × Int) (us : List (Int × Int)) : Fm := .mk (us.map fun r => foldQ (1, 1) mulQ [r, k]) []
mutual
def scaleF (k : Int × Int) : Fm → Fm
  | .mk us ps => addF (plainS k us :: scaleP k ps)
def scaleP (k : Int × Int) : List (Bool × List Fm) → List Fm
  | [] => []
  | p :: ps => scaleQ k p :: scaleP k ps
def scaleQ (k : Int × Int) : Bool × List Fm → Fm
  | (b, l) => pickF (b == decide (0 ≤ k.1)) (scaleL k l)
def scaleL (k : Int × Int) : List Fm → List Fm
  | [] => []
  | f :: l => scaleF k f :: scaleL k l
end
theorem scaleL_map (k : Int × Int) : ∀ l, scaleL k l = l.map (scaleF k)
  | [] => by rw [scaleL]; rfl
  | f :: l => by rw [scaleL, scaleL_map k l]; rfl
theorem scaleP_map (k : Int × Int) : ∀ ps, scaleP k ps = ps.map (fun p => pickF (p.1 == decide (0 ≤ k.1)) (p.2.map (scaleF k)))
  | [] => by rw [scaleP]; rfl
  | p :: ps => by
    obtain ⟨b, l⟩ := p
    rw [scaleP, scaleP_map k ps, scaleQ, scaleL_map]; rfl
theorem scaleF_eq (k : Int × Int) (us : List (Int × Int)) (ps : List (Bool × List Fm)) : scaleF k (.mk us ps) = addF (plainS k us :: ps.map (fun p => pickF (p.1 == decide (0 ≤ k.1)) (p.2.map (scaleF k)))) := by
  rw [scaleF, scaleP_map]
/-- the normal form of an expression that is a length -/
def formE : Nat → Ex → Fm
  | 0, _ => zeroF
  | m + 1, .mk k n d u kids =>
    if k = 4 then scaleF (foldQ (1, 1) mulQ ((kids.filter fun t => kindE m t != 2).map (numE m))) (((kids.filter fun t => kindE m t == 2).map (formE m)).getD 0 (.mk (List.replicate 7 (0, 0)) []))
    else
      let l := kids.map (formE m)
      if k = 2 then addF l else if k = 3 then scaleF (-1, 1) (l.getD 0 zeroF) else if k = 6 then pickF false l else if k = 7 then pickF true l
      else if k = 8 then pickF true [l.getD 0 zeroF, pickF false (l.drop 1)] else oneF u (n, d)
mutual
def szF : Fm → Nat
  | .mk _ ps => 1 + szP ps
def szP : List (Bool × List Fm) → Nat
  | [] => 0
  | p :: ps => szQ p + szP ps
def szQ : Bool × List Fm → Nat
  | (_, l) => 1 + szM l
def szM : List Fm → Nat
  | [] => 0
  | f :: l => szF f + szM l
end

/-- what a call that makes a form is to give: the form stands in memory, in blocks of S -/
def FormP (w : World) (S : Nat → Prop) (f : Fm) (e : Ending) (w' : World) : Prop :=
  ∃ (a : Option Addr) (cap : Nat), e = .returned (.agg (formC f.us (.slice a f.ps.length cap)).toArray) ∧ w.grows w' ∧ f.us.length = 7 ∧ (∀ p ∈ f.us, I64p p) ∧ SlAt w' S 2 (PartR (FormOk w' S) w' S) (.slice a f.ps.length cap) f.ps

def zs (i : Nat) : List (Int × Int) := (List.range 7).map fun j => if j < i then (0, 1) else (0, 0)
@[go_sem] theorem zs_len (i : Nat) : (zs i).length = 7 := by simp [zs]
@[go_sem] theorem zeroU_len : zeroU.length = 7 := by simp [zeroU]
@[go_sem] theorem oneU_len (u : Int) (r : Int × Int) : (oneU u r).length = 7 := by unfold oneU; split <;> simp [zeroU]
theorem zs_set {i : Nat} (h : i < 7) : (zs i).set i (0, 1) = zs (i + 1) := by
  rcases (by omega : i = 0 ∨ i = 1 ∨ i = 2 ∨ i = 3 ∨ i = 4 ∨ i = 5 ∨ i = 6) with rfl | rfl | rfl | rfl | rfl | rfl | rfl <;> rfl
/-- the first i units summed -/
def addU (l : List Fm) (i : Nat) : List (Int × Int) := (List.range 7).map fun j => if j < i then foldQ (0, 1) addQ (l.map (·.u j)) else (0, 1)
@[go_sem] theorem addU_len (l : List Fm) (i : Nat) : (addU l i).length = 7 := by simp [addU]
theorem addU_zero (l : List Fm) : addU l 0 = zeroU := rfl
theorem addU_all (l : List Fm) : addU l 7 = (addF l).us := by
  unfold addU addF Fm.us
  exact List.map_congr_left fun j hj => by rw [if_pos (List.mem_range.1 hj)]
theorem addU_set (l : List Fm) {i : Nat} (h : i < 7) : (addU l i).set i (foldQ (0, 1) addQ (l.map (·.u i))) = addU l (i + 1) := by
  apply List.ext_getElem?
  intro j
  rw [List.getElem?_set]
  unfold addU
  by_cases hij : i = j
  · subst hij
    simp [h]
  · rw [if_neg hij]
    by_cases hj : j < 7
    · have : (j < i + 1) = (j < i) := by apply propext; omega
      simp [hj, this]
    · simp [hj]
theorem Fm.u_bd {f : Fm} (h : ∀ p ∈ f.us, I64p p) (i : Nat) : I64p (f.u i) := by
  unfold Fm.u
  rw [List.getD_eq_getElem?_getD]
  cases hx : f.us[i]? with
  | none => simp [I64p, I64]
  | some p => exact h p (List.mem_of_getElem? hx)
theorem foldAdd_bd {l : List Fm} (h : ∀ f ∈ l, ∀ p ∈ f.us, I64p p) (i : Nat) : I64p (foldQ (0, 1) addQ (l.map (·.u i))) :=
  foldQ_bd addQ_bd (by simp [I64p, I64]) fun p hp => by
    obtain ⟨f, hf, rfl⟩ := List.mem_map.1 hp
    exact Fm.u_bd (h f hf) i
theorem addF_bd {l : List Fm} (h : ∀ f ∈ l, ∀ p ∈ f.us, I64p p) : ∀ p ∈ (addF l).us, I64p p := fun p hp => by
  obtain ⟨i, _, rfl⟩ := List.mem_map.1 hp
  exact foldAdd_bd h i
theorem parts_one {w : World} {S : Nat → Prop} {R : Fm → List Value → Prop} {ps : List (Bool × List Fm)} {css : List (List Value)} (hl : css.length = ps.length)
    (h : ∀ (i : Nat) (x : Bool × List Fm) (cs : List Value), ps[i]? = some x → css[i]? = some cs → cs.length = 2 ∧ PartR R w S x cs) : ∀ u ∈ css.flatten, u.oneCell' = true := fun u hu => by
  obtain ⟨cs, hcs, hu⟩ := List.mem_flatten.1 hu
  obtain ⟨i, hi, rfl⟩ := List.mem_iff_getElem.1 hcs
  obtain ⟨_, v, e, hs⟩ := h i ps[i] _ (List.getElem?_eq_getElem (by omega)) (List.getElem?_eq_getElem hi)
  obtain ⟨a, c, rfl, _⟩ := hs.len
  rw [e] at hu
  rcases List.mem_cons.1 hu with rfl | hu
  · rfl
  · rw [List.mem_singleton.1 hu]; rfl
theorem take_flat_le {α β : Type} (l : List α) (f : α → List β) (k : Nat) : ((l.take k).flatMap f).length ≤ (l.flatMap f).length := by
  have h : (l.take k).flatMap f ++ (l.drop k).flatMap f = l.flatMap f := by rw [← List.flatMap_append, List.take_append_drop]
  rw [← h, List.length_append]; omega
end Go

/- PLAIN: which forms may be; a form in px; whether two forms are the same. No condition; no program. -/
namespace Go
open Go.RowKit

def mayU (p : Int × Int) : Bool := mayB p.1 p.2
/-- may the form be, no deeper than so? -/
def mayF : Nat → Fm → Bool
  | 0, _ => false
  | n + 1, .mk us ps => us.all mayU && ps.all fun p => (p.2.length != 0) && p.2.all (mayF n)
def mayPart (n : Nat) (p : Bool × List Fm) : Bool := (p.2.length != 0) && p.2.all (mayF n)
theorem mayF_succ (n : Nat) (us : List (Int × Int)) (ps : List (Bool × List Fm)) : mayF (n + 1) (.mk us ps) = (us.all mayU && ps.all (mayPart n)) := by rw [mayF]; rfl

/-- the units that a form has something of, in px -/
def usPx (sz : Int → Int × Int) (us : List (Int × Int)) : List (Int × Int) :=
  ((List.range 7).filter fun i => uGet us i != (0, 1)).map fun i => foldQ (1, 1) mulQ [uGet us i, sz ((i : Int) + 1)]
mutual
/-- a form in px -/
def pxF (sz : Int → Int × Int) : Fm → Int × Int
  | .mk us ps => foldQ (0, 1) addQ (usPx sz us ++ pxP sz ps)
def pxP (sz : Int → Int × Int) : List (Bool × List Fm) → List (Int × Int)
  | [] => []
  | p :: ps => pxQ sz p :: pxP sz ps
def pxQ (sz : Int → Int × Int) : Bool × List Fm → Int × Int
  | (b, l) => bestQ (if b then 1 else -1) (pxL sz l)
def pxL (sz : Int → Int × Int) : List Fm → List (Int × Int)
  | [] => []
  | f :: l => pxF sz f :: pxL sz l
end
theorem pxL_map (sz : Int → Int × Int) : ∀ l, pxL sz l = l.map (pxF sz)
  | [] => by rw [pxL]; rfl
  | f :: l => by rw [pxL, pxL_map sz l]; rfl
def pxPart (sz : Int → Int × Int) (p : Bool × List Fm) : Int × Int := bestQ (if p.1 then 1 else -1) (p.2.map (pxF sz))
theorem pxP_map (sz : Int → Int × Int) : ∀ ps, pxP sz ps = ps.map (pxPart sz)
  | [] => by rw [pxP]; rfl
  | p :: ps => by
    obtain ⟨b, l⟩ := p
    rw [pxP, pxP_map sz ps, pxQ, pxL_map]; rfl
theorem pxF_eq (sz : Int → Int × Int) (us : List (Int × Int)) (ps : List (Bool × List Fm)) : pxF sz (.mk us ps) = foldQ (0, 1) addQ (usPx sz us ++ ps.map (pxPart sz)) := by
  rw [pxF, pxP_map]
end Go
