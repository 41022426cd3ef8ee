/- PLAIN: claims of the cascade in order: weaker goes on; equal ones by their places. No condition; no program. -/
import Derived.Test.YtajkfmnnokkcaaaOrd
import Derived.Test.YtajkfmnnokkcaaaSymP
set_option linter.unusedSimpArgs false
set_option linter.unusedVariables false
namespace Go

/-- weaker, field by field -/
def Cl.lo (x y : Cl) : Prop := x.level < y.level ∨ x.level = y.level ∧ (x.a < y.a ∨ x.a = y.a ∧ (x.b < y.b ∨ x.b = y.b ∧ (x.c < y.c ∨ x.c = y.c ∧ (x.r < y.r ∨ x.r = y.r ∧ x.d < y.d))))
/-- of one strength -/
def Cl.eqk (x y : Cl) : Prop := x.level = y.level ∧ x.a = y.a ∧ x.b = y.b ∧ x.c = y.c ∧ x.r = y.r ∧ x.d = y.d
theorem cmp3_neg (a b c a' b' c' : Int) : cmpL [a, b, c] [a', b', c'] < 0 ↔ a < a' ∨ a = a' ∧ (b < b' ∨ b = b' ∧ c < c') := by
  simp only [cmpL, orI_neg, cmpC_neg, cmpC_zero, Int.lt_irrefl, and_false, or_false]
  all_goals (constructor <;> intro h <;> omega)
theorem cmp3_zero (a b c a' b' c' : Int) : cmpL [a, b, c] [a', b', c'] = 0 ↔ a = a' ∧ b = b' ∧ c = c' := by
  simp only [cmpL, orI_zero, cmpC_zero, and_true]
  all_goals (constructor <;> intro h <;> omega)
theorem against_neg (x y : Cl) : x.against y < 0 ↔ x.lo y := by
  unfold Cl.against Cl.lo
  by_cases h : x.level = y.level
  · rw [if_neg (by omega)]
    by_cases h2 : x.a = y.a ∧ x.b = y.b ∧ x.c = y.c
    · rw [if_neg (by simpa using h2), orI_neg, cmpC_neg, cmpC_zero, cmpC_neg]
      obtain ⟨h3, h4, h5⟩ := h2
      constructor <;> intro h <;> omega
    · rw [if_pos h2, cmp3_neg]
      constructor <;> intro h <;> omega
  · rw [if_pos (by omega)]
    constructor <;> intro h <;> omega
theorem against_zero (x y : Cl) : x.against y = 0 ↔ x.eqk y := by
  unfold Cl.against Cl.eqk
  by_cases h : x.level = y.level
  · rw [if_neg (by omega)]
    by_cases h2 : x.a = y.a ∧ x.b = y.b ∧ x.c = y.c
    · rw [if_neg (by simpa using h2), orI_zero, cmpC_zero, cmpC_zero]
      obtain ⟨h3, h4, h5⟩ := h2
      constructor <;> intro h <;> omega
    · rw [if_pos h2, cmp3_zero]
      constructor <;> intro h <;> omega
  · rw [if_pos (by omega)]
    constructor <;> intro h <;> omega
theorem Cl.lo_trans {x y z : Cl} (h1 : x.lo y) (h2 : y.lo z) : x.lo z := by unfold Cl.lo at *; omega
theorem Cl.lo_irr (x : Cl) : ¬ x.lo x := by unfold Cl.lo; omega
theorem Cl.lo_or (x y : Cl) : x.lo y ∨ y.lo x ∨ x.eqk y := by unfold Cl.lo Cl.eqk; omega
theorem Cl.lo_eqk {x y z : Cl} (h : x.eqk y) : (z.lo x ↔ z.lo y) ∧ (x.lo z ↔ y.lo z) := by unfold Cl.lo Cl.eqk at *; exact ⟨by constructor <;> intro h <;> omega, by constructor <;> intro h <;> omega⟩
theorem Cl.eqk_refl (x : Cl) : x.eqk x := ⟨rfl, rfl, rfl, rfl, rfl, rfl⟩
theorem Cl.eqk_symm {x y : Cl} (h : x.eqk y) : y.eqk x := by unfold Cl.eqk at *; omega
theorem Cl.eqk_trans {x y z : Cl} (h : x.eqk y) (h2 : y.eqk z) : x.eqk z := by unfold Cl.eqk at *; omega
/-- the order of places: the weaker one ahead; of one strength the earlier one -/
def ltC (f : Int → Cl) (i k : Int) : Prop := (f i).lo (f k) ∨ (f i).eqk (f k) ∧ i < k
theorem ltC_trans (f : Int → Cl) : ∀ x y z, ltC f x y → ltC f y z → ltC f x z := by
  intro x y z h1 h2
  rcases h1 with h1 | ⟨h1, l1⟩
  · rcases h2 with h2 | ⟨h2, l2⟩
    · exact .inl (Cl.lo_trans h1 h2)
    · exact .inl ((Cl.lo_eqk h2).1.1 h1)
  · rcases h2 with h2 | ⟨h2, l2⟩
    · exact .inl ((Cl.lo_eqk h1).2.2 h2)
    · exact .inr ⟨Cl.eqk_trans h1 h2, by omega⟩
theorem ltC_irr (f : Int → Cl) (x : Int) : ¬ ltC f x x := by
  rintro (h | ⟨_, h⟩)
  · exact Cl.lo_irr _ h
  · omega
theorem ltC_or (f : Int → Cl) {x y : Int} (h : x ≠ y) : ltC f x y ∨ ltC f y x := by
  rcases Cl.lo_or (f x) (f y) with h1 | h1 | h1
  · exact .inl (.inl h1)
  · exact .inr (.inl h1)
  · rcases Int.lt_or_lt_of_ne h with h2 | h2
    · exact .inl (.inr ⟨h1, h2⟩)
    · exact .inr (.inr ⟨Cl.eqk_symm h1, h2⟩)
/-- what the program asks, where the first is behind the second as a place -/
theorem ltC_against (f : Int → Cl) {x y : Int} (h : y < x) : (f x).against (f y) < 0 ↔ ltC f x y := by
  rw [against_neg]
  unfold ltC
  constructor
  · exact .inl
  · rintro (h1 | ⟨_, h1⟩)
    · exact h1
    · omega
end Go
