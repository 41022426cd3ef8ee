/- PLAIN: which texts are names. No condition; no program. -/
import Derived.IntWalk
set_option linter.unusedSimpArgs false
set_option linter.unusedVariables false
namespace Go

/-- a letter or '_' -/
def letterB (c : UInt8) : Bool := (97 ≤ c && c ≤ 122) || ((65 ≤ c && c ≤ 90) || c == 95)
/-- may this byte stand at this place of a name? -/
def nameAt (i : Nat) (c : UInt8) : Bool := letterB c || (decide (i ≠ 0) && (c == 45 || (48 ≤ c && c ≤ 57)))
def nameFrom : Nat → List UInt8 → Bool
  | _, [] => true
  | i, c :: l => nameAt i c && nameFrom (i + 1) l
/-- is it a name? -/
def nameB (l : List UInt8) : Bool := decide (1 ≤ l.length) && (decide (l.length ≤ 64) && nameFrom 0 l)
theorem nameB_no {l : List UInt8} (h : l.length < 1 ∨ 64 < l.length) : nameB l = false := by
  unfold nameB
  rcases h with h | h
  · have : ¬ 1 ≤ l.length := by omega
    simp only [this, decide_false, Bool.false_and]
  · have : ¬ l.length ≤ 64 := by omega
    simp only [this, decide_false, Bool.false_and, Bool.and_false]

theorem letterB_iff (c : UInt8) : letterB c = true ↔
    ((97 ≤ (c.toNat : Int) ∧ (c.toNat : Int) ≤ 122) ∨ (65 ≤ (c.toNat : Int) ∧ (c.toNat : Int) ≤ 90) ∨ (c.toNat : Int) = 95) := by
  simp only [letterB, Bool.or_eq_true, Bool.and_eq_true, decide_eq_true_eq, UInt8.le_iff_toNat_le, beq_iff_eq, ← UInt8.toNat_inj]
  simp only [UInt8.reduceToNat]
  omega
theorem nameAt_iff (i : Nat) (c : UInt8) : nameAt i c = true ↔
    ((97 ≤ (c.toNat : Int) ∧ (c.toNat : Int) ≤ 122) ∨ (65 ≤ (c.toNat : Int) ∧ (c.toNat : Int) ≤ 90) ∨ (c.toNat : Int) = 95) ∨
      ((i : Int) ≠ 0 ∧ ((c.toNat : Int) = 45 ∨ 48 ≤ (c.toNat : Int) ∧ (c.toNat : Int) ≤ 57)) := by
  simp only [nameAt, letterB, Bool.or_eq_true, Bool.and_eq_true, decide_eq_true_eq, UInt8.le_iff_toNat_le, beq_iff_eq, ← UInt8.toNat_inj]
  simp only [UInt8.reduceToNat]
  omega
theorem nameFrom_step {l : List UInt8} {k : Nat} (h : k < l.length) : nameFrom k (l.drop k) = (nameAt k (l.getD k 0) && nameFrom (k + 1) (l.drop (k + 1))) := by
  rw [List.drop_eq_getElem_cons h, nameFrom, List.getD_eq_getElem?_getD, List.getElem?_eq_getElem h]; rfl
theorem nameFrom_end {l : List UInt8} {k : Nat} (h : l.length ≤ k) : nameFrom k (l.drop k) = true := by
  rw [List.drop_eq_nil_of_le h]; rfl

theorem nameB_yes {l : List UInt8} (h : 1 ≤ l.length) (h2 : l.length ≤ 64) : nameB l = nameFrom 0 l := by
  unfold nameB; simp only [h, h2, decide_true, Bool.true_and]

end Go
