/- PLAIN: the document's way of finding the one unit of plain forms: which unit was met last, and whether all was plain and of one unit. No condition; no program. -/
import Derived.Test.YthmicnjigfcljaaFmR
import Derived.Test.YthmicnjigfcljaaMo
set_option linter.unusedSimpArgs false
set_option linter.unusedVariables false
namespace Go
open Go.RowKit

/-- the unit met last (-1: none), and whether so far all is plain and of one unit -/
def PInv (un : Int) (pl : Bool) (U : Nat → Bool) (pb : Bool) : Prop :=
  (un = -1 ∧ (∀ j, j < 7 → U j = false) ∧ pl = pb) ∨ ∃ i : Nat, i < 7 ∧ un = (i : Int) ∧ U i = true ∧ (pl = true ↔ (pb = true ∧ ∀ j, j < 7 → U j = true → j = i))
theorem PInv.congr {un : Int} {pl pb : Bool} {U V : Nat → Bool} (h : PInv un pl U pb) (e : ∀ j, j < 7 → V j = U j) : PInv un pl V pb := by
  rcases h with ⟨h1, h2, h3⟩ | ⟨i, h1, h2, h3, h4⟩
  · exact .inl ⟨h1, fun j hj => (e j hj).trans (h2 j hj), h3⟩
  · refine .inr ⟨i, h1, h2, (e i h1).trans h3, h4.trans ⟨fun ⟨a, b⟩ => ⟨a, fun j hj hv => b j hj (by rw [← e j hj]; exact hv)⟩, fun ⟨a, b⟩ => ⟨a, fun j hj hv => b j hj (by rw [e j hj]; exact hv)⟩⟩⟩
theorem PInv.parts {un : Int} {pl pb : Bool} {U : Nat → Bool} (h : PInv un pl U pb) (b : Bool) : PInv un (pl && b) U (pb && b) := by
  rcases h with ⟨h1, h2, h3⟩ | ⟨i, h1, h2, h3, h4⟩
  · exact .inl ⟨h1, h2, by rw [h3]⟩
  · refine .inr ⟨i, h1, h2, h3, ?_⟩
    cases b
    · simp
    · simpa using h4
theorem PInv.first {pl pb : Bool} {U V : Nat → Bool} {u : Nat} (hu : u < 7) (h : PInv (-1) pl U pb) (e : ∀ j, j < 7 → V j = (U j || (j == u))) : PInv (u : Int) pl V pb := by
  rcases h with ⟨_, h2, h3⟩ | ⟨i, _, h2, _⟩
  · refine .inr ⟨u, hu, rfl, by rw [e u hu]; simp, ?_⟩
    rw [h3]
    exact ⟨fun a => ⟨a, fun j hj hv => by rw [e j hj, h2 j hj] at hv; simpa using hv⟩, fun a => a.1⟩
  · omega
theorem PInv.same {pl pb : Bool} {U V : Nat → Bool} {u : Nat} (h : PInv (u : Int) pl U pb) (e : ∀ j, j < 7 → V j = (U j || (j == u))) : PInv (u : Int) pl V pb := by
  rcases h with ⟨h1, _⟩ | ⟨i, h1, h2, h3, h4⟩
  · omega
  · obtain rfl : u = i := by omega
    refine .inr ⟨u, h1, rfl, by rw [e u h1, h3]; rfl, h4.trans ⟨fun ⟨a, b⟩ => ⟨a, fun j hj hv => ?_⟩, fun ⟨a, b⟩ => ⟨a, fun j hj hv => b j hj (by rw [e j hj, hv]; rfl)⟩⟩⟩
    rw [e j hj] at hv
    cases hU : U j
    · rw [hU] at hv; simpa using hv
    · exact b j hj hU
theorem PInv.other {pl pb : Bool} {U V : Nat → Bool} {u q : Nat} (hu : u < 7) (hq : q ≠ u) (h : PInv (q : Int) pl U pb) (e : ∀ j, j < 7 → V j = (U j || (j == u))) : PInv (u : Int) false V pb := by
  rcases h with ⟨h1, _⟩ | ⟨i, h1, h2, h3, h4⟩
  · omega
  · obtain rfl : q = i := by omega
    refine .inr ⟨u, hu, rfl, by rw [e u hu]; simp, ⟨fun h => (by cases h), fun ⟨_, b⟩ => ?_⟩⟩
    exact absurd (b q h1 (by rw [e q h1, h3]; rfl)) hq
theorem cnt7 (U : Nat → Bool) : (List.range 7).countP U = (U 0).toNat + (U 1).toNat + (U 2).toNat + (U 3).toNat + (U 4).toNat + (U 5).toNat + (U 6).toNat := by
  show List.countP U [0, 1, 2, 3, 4, 5, 6] = _
  simp only [List.countP_cons, List.countP_nil]
  cases U 0 <;> cases U 1 <;> cases U 2 <;> cases U 3 <;> cases U 4 <;> cases U 5 <;> cases U 6 <;> rfl
theorem cnt7_two {U : Nat → Bool} {i j : Nat} (hi : i < 7) (hj : j < 7) (h : i ≠ j) (h1 : U i = true) (h2 : U j = true) : 2 ≤ (List.range 7).countP U := by
  rw [cnt7]
  rcases (by omega : i = 0 ∨ i = 1 ∨ i = 2 ∨ i = 3 ∨ i = 4 ∨ i = 5 ∨ i = 6) with rfl | rfl | rfl | rfl | rfl | rfl | rfl <;>
    rcases (by omega : j = 0 ∨ j = 1 ∨ j = 2 ∨ j = 3 ∨ j = 4 ∨ j = 5 ∨ j = 6) with rfl | rfl | rfl | rfl | rfl | rfl | rfl <;>
    first | exact absurd rfl h | (rw [h1, h2]; simp only [Bool.toNat_true]; omega)
theorem cnt7_one {U : Nat → Bool} {i : Nat} (hi : i < 7) (h : ∀ j, j < 7 → U j = true → j = i) : (List.range 7).countP U ≤ 1 := by
  have hf : ∀ j, j < 7 → j ≠ i → U j = false := fun j hj hne => by
    cases hU : U j
    · rfl
    · exact absurd (h j hj hU) hne
  have hb : ∀ b : Bool, b.toNat ≤ 1 := fun b => by cases b <;> decide
  rw [cnt7]
  have h0 := hb (U 0); have h1 := hb (U 1); have h2 := hb (U 2); have h3 := hb (U 3); have h4 := hb (U 4); have h5 := hb (U 5); have h6 := hb (U 6)
  have f0 : 0 ≠ i → (U 0).toNat = 0 := fun hn => by rw [hf 0 (by omega) hn]; rfl
  have f1 : 1 ≠ i → (U 1).toNat = 0 := fun hn => by rw [hf 1 (by omega) hn]; rfl
  have f2 : 2 ≠ i → (U 2).toNat = 0 := fun hn => by rw [hf 2 (by omega) hn]; rfl
  have f3 : 3 ≠ i → (U 3).toNat = 0 := fun hn => by rw [hf 3 (by omega) hn]; rfl
  have f4 : 4 ≠ i → (U 4).toNat = 0 := fun hn => by rw [hf 4 (by omega) hn]; rfl
  have f5 : 5 ≠ i → (U 5).toNat = 0 := fun hn => by rw [hf 5 (by omega) hn]; rfl
  have f6 : 6 ≠ i → (U 6).toNat = 0 := fun hn => by rw [hf 6 (by omega) hn]; rfl
  omega
theorem cnt7_zero {U : Nat → Bool} (h : ∀ j, j < 7 → U j = false) : (List.range 7).countP U = 0 := by
  rw [cnt7, h 0 (by omega), h 1 (by omega), h 2 (by omega), h 3 (by omega), h 4 (by omega), h 5 (by omega), h 6 (by omega)]; rfl
/-- not plain, or of two units: they stand as they are -/
theorem PInv.part {un : Int} {l : List Fm} (most : Bool) (h1 : l.length ≠ 1) (h : PInv un false (usedI l) (plainB l)) : pickF most l = .mk zeroU [(most, l)] := by
  refine pickF_part h1 ?_
  rcases h with ⟨_, _, h3⟩ | ⟨i, hi, _, h3, h4⟩
  · exact .inl h3.symm
  · by_cases hp : plainB l = true
    · right
      have : ¬ ∀ j, j < 7 → usedI l j = true → j = i := fun hall => by have := h4.2 ⟨hp, hall⟩; cases this
      by_cases hall : ∃ j, j < 7 ∧ usedI l j = true ∧ j ≠ i
      · obtain ⟨j, hj, hu, hne⟩ := hall
        exact cnt7_two hi hj (fun e => hne e.symm) h3 hu
      · exact absurd (fun j hj hu => Classical.byContradiction fun hne => hall ⟨j, hj, hu, hne⟩) this
    · left; simpa using hp
theorem PInv.none {l : List Fm} (most : Bool) (h1 : l.length ≠ 1) (h : PInv (-1) true (usedI l) (plainB l)) : pickF most l = zeroF := by
  rcases h with ⟨_, h2, h3⟩ | ⟨i, _, h2, _⟩
  · refine pickF_none h1 ?_ ?_
    · rw [cnt7_zero h2, ← h3]; simp
    · rw [List.find?_range_eq_none]
      exact fun j hj => by rw [h2 j (by omega)]; rfl
  · omega
theorem PInv.some {l : List Fm} {i : Nat} (most : Bool) (h1 : l.length ≠ 1) (h : PInv (i : Int) true (usedI l) (plainB l)) : i < 7 ∧ pickF most l = oneF ((i : Int) + 1) (bestQ (if most then 1 else -1) (l.map (·.u i))) := by
  rcases h with ⟨h1, _⟩ | ⟨q, hi, h2, h3, h4⟩
  · omega
  · obtain rfl : i = q := by omega
    have hb := h4.1 rfl
    refine ⟨hi, pickF_some h1 ?_ ?_⟩
    · intro h
      rcases h with h | h
      · rw [h] at hb; cases hb.1
      · have := cnt7_one hi hb.2; omega
    · rw [List.find?_range_eq_some]
      refine ⟨h3, List.mem_range.2 hi, fun j hj => ?_⟩
      cases hU : usedI l j
      · rfl
      · have := hb.2 j (by omega) hU; omega
theorem bestQ_may {way : Int} (l : List (Int × Int)) : cleanQ (bestQ way l) = bestQ way l := by
  rcases bestQ_mem way l with h | ⟨_, h⟩
  · rw [h]; rfl
  · refine cleanQ_may ?_
    unfold mayB; unfold sureP at h; rw [h]; simp
end Go
