/- PLAIN ARITHMETIC: which of two fractions is less. No condition; no program. -/
import Derived.Test.YtdbddnkjiehaiaaGreatMa
set_option linter.unusedSimpArgs false
set_option linter.unusedVariables false
namespace Go
open Go.RowKit

def cmpI (a b c d : Int) : Int := if a * d < c * b then -1 else if c * b < a * d then 1 else 0
def cmpN (x y : Nat) : Int := if x < y then -1 else if y < x then 1 else 0
/-- by two halves -/
def cmpH (p q r s : Int) : Int := if p < r ∨ p = r ∧ q < s then -1 else if p ≠ r ∨ q ≠ s then 1 else 0
theorem cmpH_eq (x y : Nat) : cmpH ((x / 18446744073709551616 : Nat) : Int) ((x % 18446744073709551616 : Nat) : Int) ((y / 18446744073709551616 : Nat) : Int) ((y % 18446744073709551616 : Nat) : Int) = cmpN x y := by
  have A : (((x / 18446744073709551616 : Nat) : Int) < ((y / 18446744073709551616 : Nat) : Int) ∨ ((x / 18446744073709551616 : Nat) : Int) = ((y / 18446744073709551616 : Nat) : Int) ∧ ((x % 18446744073709551616 : Nat) : Int) < ((y % 18446744073709551616 : Nat) : Int)) ↔ x < y := by omega
  have B : (((x / 18446744073709551616 : Nat) : Int) ≠ ((y / 18446744073709551616 : Nat) : Int) ∨ ((x % 18446744073709551616 : Nat) : Int) ≠ ((y % 18446744073709551616 : Nat) : Int)) ↔ x ≠ y := by omega
  unfold cmpH cmpN
  simp only [A, B]
  by_cases h1 : x < y
  · rw [if_pos h1, if_pos h1]
  · rw [if_neg h1, if_neg h1]
    by_cases h2 : y < x
    · rw [if_pos h2, if_pos (by omega)]
    · rw [if_neg h2, if_neg (by omega)]
theorem nonneg_abs {a : Int} (h : 0 ≤ a) : (a.natAbs : Int) = a := by omega
theorem neg_abs {a : Int} (h : a < 0) : (a.natAbs : Int) = -a := by omega
theorem cmpI_pos {a b c d : Int} (ha : 0 ≤ a) (hc : 0 ≤ c) (hb : 1 ≤ b) (hd : 1 ≤ d) : cmpI a b c d = cmpN (a.natAbs * d.natAbs) (c.natAbs * b.natAbs) := by
  have e1 : ((a.natAbs * d.natAbs : Nat) : Int) = a * d := by rw [Int.natCast_mul, nonneg_abs ha, nonneg_abs (by omega)]
  have e2 : ((c.natAbs * b.natAbs : Nat) : Int) = c * b := by rw [Int.natCast_mul, nonneg_abs hc, nonneg_abs (by omega)]
  unfold cmpI cmpN
  rw [← e1, ← e2]
  simp only [Int.ofNat_lt]
theorem cmpI_neg {a b c d : Int} (ha : a < 0) (hc : c < 0) (hb : 1 ≤ b) (hd : 1 ≤ d) : cmpI a b c d = - cmpN (a.natAbs * d.natAbs) (c.natAbs * b.natAbs) := by
  have e1 : ((a.natAbs * d.natAbs : Nat) : Int) = -(a * d) := by rw [Int.natCast_mul, neg_abs ha, nonneg_abs (by omega), Int.neg_mul]
  have e2 : ((c.natAbs * b.natAbs : Nat) : Int) = -(c * b) := by rw [Int.natCast_mul, neg_abs hc, nonneg_abs (by omega), Int.neg_mul]
  unfold cmpI cmpN
  have h1 : (a * d < c * b) ↔ (c.natAbs * b.natAbs < a.natAbs * d.natAbs) := by omega
  have h2 : (c * b < a * d) ↔ (a.natAbs * d.natAbs < c.natAbs * b.natAbs) := by omega
  simp only [h1, h2]
  split <;> split <;> first | rfl | omega
theorem cmpI_lo {a b c d : Int} (ha : a < 0) (hc : 0 ≤ c) (hb : 1 ≤ b) (hd : 1 ≤ d) : cmpI a b c d = -1 := by
  have h1 : a * d < 0 := Int.mul_neg_of_neg_of_pos ha (by omega)
  have h2 : 0 ≤ c * b := Int.mul_nonneg hc (by omega)
  unfold cmpI; rw [if_pos (by omega)]
theorem cmpI_hi {a b c d : Int} (ha : 0 ≤ a) (hc : c < 0) (hb : 1 ≤ b) (hd : 1 ≤ d) : cmpI a b c d = 1 := by
  have h1 : c * b < 0 := Int.mul_neg_of_neg_of_pos hc (by omega)
  have h2 : 0 ≤ a * d := Int.mul_nonneg ha (by omega)
  unfold cmpI; rw [if_neg (by omega), if_pos (by omega)]
theorem sureB_yes {n d : Int} (h : sureB n d = true) : 1 ≤ d ∧ n ≠ -9223372036854775808 := by
  simp only [sureB, Bool.and_eq_true, decide_eq_true_eq] at h; exact ⟨h.1, h.2.1⟩
/-- what comparing two fractions tells -/
abbrev cmpV (a b c d : Int) : Value := .tuple #[.int .i64 (if sureB a b && sureB c d then cmpI a b c d else 0), .bool (sureB a b && sureB c d)]
end Go
