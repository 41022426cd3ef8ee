/- PLAIN: the document's way of adding forms, one after the other, is the sum of all. No condition; no program. -/
import Derived.Test.YthmicnjigfcljaaMq
import Derived.Test.YthmicnjigfcljaaMo
set_option linter.unusedSimpArgs false
set_option linter.unusedVariables false
namespace Go
open Go.RowKit

/-- the first u units are of the one, the others of the other -/
def mixU (A' A : List (Int × Int)) (u : Nat) : List (Int × Int) := (List.range 7).map fun j => if j < u then uGet A' j else uGet A j
@[go_sem] theorem mixU_len (A' A : List (Int × Int)) (u : Nat) : (mixU A' A u).length = 7 := by simp [mixU]
theorem uGet_self {A : List (Int × Int)} (h : A.length = 7) : (List.range 7).map (uGet A) = A := by
  apply List.ext_getElem?
  intro j
  by_cases hj : j < 7
  · have : (List.range 7)[j]? = some j := by simp [hj]
    rw [List.getElem?_map, this, List.getElem?_eq_getElem (by omega), Option.map_some, uGet_eq (by omega)]
  · rw [List.getElem?_eq_none (by simp; omega), List.getElem?_eq_none (by omega)]
theorem mixU_zero {A' A : List (Int × Int)} (h : A.length = 7) : mixU A' A 0 = A := by
  have : mixU A' A 0 = (List.range 7).map (uGet A) := List.map_congr_left fun j _ => by simp
  rw [this, uGet_self h]
theorem mixU_all {A' A : List (Int × Int)} (h : A'.length = 7) : mixU A' A 7 = A' := by
  have : mixU A' A 7 = (List.range 7).map (uGet A') := List.map_congr_left fun j hj => by simp [List.mem_range.1 hj]
  rw [this, uGet_self h]
theorem mixU_get {A' A : List (Int × Int)} {u : Nat} (h : u < 7) : uGet (mixU A' A u) u = uGet A u := by
  rw [uGet_eq (by rw [mixU_len]; exact h)]
  simp [mixU]
theorem mixU_set {A' A : List (Int × Int)} {u : Nat} (h : u < 7) {q : Int × Int} (hq : uGet A' u = q) : (mixU A' A u).set u q = mixU A' A (u + 1) := by
  subst hq
  apply List.ext_getElem?
  intro j
  rw [List.getElem?_set]
  unfold mixU
  by_cases hij : u = j
  · subst hij; simp [h]
  · rw [if_neg hij]
    by_cases hj : j < 7
    · have : (j < u + 1) = (j < u) := by apply propext; omega
      simp [hj, this]
    · simp [hj]
/-- every unit of the form may be -/
def mayUF (f : Fm) : Prop := ∀ i, mayB (f.u i).1 (f.u i).2 = true
theorem cleanQ_may {p : Int × Int} (h : mayB p.1 p.2 = true) : cleanQ p = p := by unfold cleanQ; rw [if_pos h]
theorem foldQ_may {none : Int × Int} {op : Int × Int → Int × Int → Int × Int} (hop : ∀ p q, sureP p = false ∨ sureP q = false → op p q = (0, 0)) {p : Int × Int} (h : mayB p.1 p.2 = true) (l : List (Int × Int)) : foldQ none op (p :: l) = l.foldl op p := by
  rw [foldQ_ref none op hop]
  show l.foldl op (cleanQ p) = _
  rw [cleanQ_may h]
theorem foldl_may {op : Int × Int → Int × Int → Int × Int} (hm : ∀ p q, mayB (op p q).1 (op p q).2 = true) : ∀ (l : List (Int × Int)) (p : Int × Int), mayB p.1 p.2 = true → mayB (l.foldl op p).1 (l.foldl op p).2 = true
  | [], p, h => h
  | q :: l, p, _ => foldl_may hm l (op p q) (hm p q)
theorem foldAdd_snoc {l : List (Int × Int)} {q : Int × Int} (hl : l ≠ []) (h : ∀ p ∈ l, mayB p.1 p.2 = true) : foldQ (0, 1) addQ [foldQ (0, 1) addQ l, q] = foldQ (0, 1) addQ (l ++ [q]) := by
  cases l with
  | nil => exact absurd rfl hl
  | cons p l =>
    have hp := h p (by simp)
    rw [foldQ_may (fun _ _ => addQ_over) hp, List.cons_append, foldQ_may (fun _ _ => addQ_over) hp, List.foldl_append, foldQ_may (fun _ _ => addQ_over) (foldl_may addQ_may l p hp)]
theorem addF_u (l : List Fm) {i : Nat} (h : i < 7) : uGet (addF l).us i = foldQ (0, 1) addQ (l.map (·.u i)) := by
  rw [uGet_eq (by simp [addF, Fm.us]; exact h)]
  simp [addF, Fm.us]
theorem addF_len (l : List Fm) : (addF l).us.length = 7 := by simp [addF, Fm.us]
/-- the first form's unit -/
theorem addF_first {l : List Fm} (hlt : 0 < l.length) (h : mayUF l[0]) {i : Nat} (hi : i < 7) : uGet (addF (l.take (0 + 1))).us i = l[0].u i := by
  have : l.take (0 + 1) = [l[0]] := by
    cases l with
    | nil => simp at hlt
    | cons a l => simp
  rw [this, addF_u _ hi]
  show foldQ (0, 1) addQ [l[0].u i] = _
  rw [foldQ_may (fun _ _ => addQ_over) (h i)]; rfl
/-- a later form's unit -/
theorem addF_next {l : List Fm} {k : Nat} (hk : k ≠ 0) (hlt : k < l.length) (h : ∀ f ∈ l, mayUF f) {i : Nat} (hi : i < 7) :
    foldQ (0, 1) addQ [uGet (addF (l.take k)).us i, l[k].u i] = uGet (addF (l.take (k + 1))).us i := by
  rw [addF_u _ hi, addF_u _ hi, List.take_succ_eq_append_getElem hlt, List.map_append]
  refine foldAdd_snoc ?_ fun p hp => ?_
  · intro e
    have : ((l.take k).map (·.u i)).length = 0 := by rw [e]; rfl
    rw [List.length_map, List.length_take] at this; omega
  · obtain ⟨f, hf, rfl⟩ := List.mem_map.1 hp
    exact h f (List.mem_of_mem_take hf) i
theorem foldQ_isMay {none : Int × Int} {op : Int × Int → Int × Int → Int × Int} (hop : ∀ p q, sureP p = false ∨ sureP q = false → op p q = (0, 0)) (hm : ∀ p q, mayB (op p q).1 (op p q).2 = true) (h0 : mayB none.1 none.2 = true) (l : List (Int × Int)) :
    mayB (foldQ none op l).1 (foldQ none op l).2 = true := by
  rw [foldQ_ref none op hop]
  cases l with
  | nil => exact h0
  | cons p l =>
    refine foldl_may hm l _ ?_
    unfold cleanQ
    split
    · assumption
    · rfl
theorem addF_may (l : List Fm) : mayUF (addF l) := fun i => by
  show mayB (uGet (addF l).us i).1 (uGet (addF l).us i).2 = true
  by_cases hi : i < 7
  · rw [addF_u l hi]; exact foldQ_isMay (fun _ _ => addQ_over) addQ_may (by decide) _
  · have : uGet (addF l).us i = (0, 1) := by
      unfold uGet; rw [List.getD_eq_getElem?_getD, List.getElem?_eq_none (by rw [addF_len]; omega)]; rfl
    rw [this]; decide
theorem units_may {us : List (Int × Int)} {ps : List (Bool × List Fm)} (h : ∀ p ∈ us, mayB p.1 p.2 = true) : mayUF (.mk us ps) := fun i => by
  show mayB (us.getD i (0, 1)).1 (us.getD i (0, 1)).2 = true
  rw [List.getD_eq_getElem?_getD]
  cases hx : us[i]? with
  | none => decide
  | some p => exact h p (List.mem_of_getElem? hx)
theorem cleanQ_isMay (p : Int × Int) : mayB (cleanQ p).1 (cleanQ p).2 = true := by
  unfold cleanQ
  split
  · assumption
  · rfl
theorem zeroU_may : ∀ p ∈ zeroU, mayB p.1 p.2 = true := by
  intro p hp
  rw [List.eq_of_mem_replicate hp]; decide
theorem oneU_may (u : Int) (r : Int × Int) : ∀ p ∈ oneU u r, mayB p.1 p.2 = true := by
  intro p hp
  unfold oneU at hp
  split at hp
  · rcases List.mem_or_eq_of_mem_set hp with h | rfl
    · exact zeroU_may p h
    · exact cleanQ_isMay r
  · exact zeroU_may p hp
theorem oneF_may (u : Int) (r : Int × Int) : mayUF (oneF u r) := units_may (oneU_may u r)
theorem pickF_may (most : Bool) {l : List Fm} (h : ∀ f ∈ l, mayUF f) : mayUF (pickF most l) := by
  unfold pickF
  split
  · rename_i h1
    obtain ⟨f, rfl⟩ := List.length_eq_one_iff.1 h1
    exact h f (by simp)
  · split
    · exact units_may zeroU_may
    · split
      · exact oneF_may _ _
      · exact units_may zeroU_may
theorem scaleF_may (k : Int × Int) (f : Fm) : mayUF (scaleF k f) := by
  obtain ⟨us, ps⟩ := f
  rw [scaleF]; exact addF_may _
end Go
namespace Go
open Go.RowKit
/-- every unit of an expression's form may be -/
theorem formE_may : ∀ (m left : Nat) (t : Ex), mayE m left t = true → mayUF (formE m t)
  | 0, _, _, h => by simp [mayE] at h
  | m + 1, left, .mk k n d u kids, h => by
    unfold mayE at h
    split at h
    · cases h
    rename_i hl
    split at h
    · rename_i h1
      subst h1
      have e : formE (m + 1) (.mk 1 n d u kids) = oneF u (n, d) := by simp [formE]
      rw [e]; exact oneF_may _ _
    · rename_i h1
      simp only [Bool.and_eq_true] at h
      have hk := h.2.2.2
      have hf : ∀ f ∈ kids.map (formE m), mayUF f := fun f hf => by
        obtain ⟨t, ht, rfl⟩ := List.mem_map.1 hf
        exact formE_may m (left - 1) t (List.all_eq_true.1 hk t ht)
      have h0 : mayUF zeroF := units_may zeroU_may
      have hg : mayUF ((kids.map (formE m)).getD 0 zeroF) := by
        rw [List.getD_eq_getElem?_getD]
        cases hx : (kids.map (formE m))[0]? with
        | none => exact h0
        | some f => exact hf f (List.mem_of_getElem? hx)
      unfold formE
      split
      · exact scaleF_may _ _
      · dsimp only
        split
        · exact addF_may _
        · split
          · exact scaleF_may _ _
          · split
            · exact pickF_may _ hf
            · split
              · exact pickF_may _ hf
              · split
                · refine pickF_may _ fun f hf' => ?_
                  simp only [List.mem_cons, List.not_mem_nil, or_false] at hf'
                  rcases hf' with rfl | rfl
                  · exact hg
                  · exact pickF_may _ fun g hg' => hf g (List.mem_of_mem_drop hg')
                · exact oneF_may _ _
/-- the product, reckoned one after the other -/
def kR : List (Int × Int) → Int × Int
  | [] => (1, 1)
  | p :: l => l.foldl (fun a b => foldQ (1, 1) mulQ [a, b]) p
theorem foldMul_two (a b : Int × Int) : foldQ (1, 1) mulQ [a, b] = mulQ (cleanQ a) b := by rw [foldQ_ref _ _ (fun _ _ => mulQ_over)]; rfl
theorem cleanQ_fold : ∀ (l : List (Int × Int)) (p : Int × Int), cleanQ (l.foldl (fun a b => foldQ (1, 1) mulQ [a, b]) p) = l.foldl mulQ (cleanQ p)
  | [], _ => rfl
  | b :: l, p => by
    rw [List.foldl_cons, cleanQ_fold l, foldMul_two, cleanQ_may (mulQ_may _ _), List.foldl_cons]
theorem cleanQ_kR (l : List (Int × Int)) : cleanQ (kR l) = foldQ (1, 1) mulQ l := by
  rw [foldQ_ref _ _ (fun _ _ => mulQ_over)]
  cases l with
  | nil => rfl
  | cons p l => exact cleanQ_fold l p
theorem kR_next {l : List (Int × Int)} (h : l ≠ []) (q : Int × Int) : kR (l ++ [q]) = foldQ (1, 1) mulQ [kR l, q] := by
  cases l with
  | nil => exact absurd rfl h
  | cons p l => show (l ++ [q]).foldl _ p = _; rw [List.foldl_append]; rfl
theorem kR_bd {l : List (Int × Int)} (h : ∀ p ∈ l, I64p p) : I64p (kR l) := by
  cases l with
  | nil => simp [kR, I64p, I64]
  | cons p l =>
    have : ∀ (l : List (Int × Int)) (p : Int × Int), I64p p → (∀ q ∈ l, I64p q) → I64p (l.foldl (fun a b => foldQ (1, 1) mulQ [a, b]) p) := fun l => by
      induction l with
      | nil => exact fun p hp _ => hp
      | cons b l ih => exact fun p hp hl => ih _ (foldMul2_bd hp (hl b (by simp))) fun q hq => hl q (by simp [hq])
    exact this l p (h p (by simp)) fun q hq => h q (by simp [hq])
end Go
