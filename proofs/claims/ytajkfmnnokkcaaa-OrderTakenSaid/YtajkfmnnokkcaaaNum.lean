/- PLAIN ARITHMETIC: greatest common divisors. No condition; no program. -/
import Derived.IntWalk
set_option linter.unusedSimpArgs false
set_option linter.unusedVariables false
namespace Go

theorem gcd_emod_l (x y : Int) (hx : 0 < x) (hy : 0 ≤ y) : Int.gcd (y % x) x = Int.gcd y x := by
  obtain ⟨n, rfl⟩ := Int.eq_ofNat_of_zero_le hy
  obtain ⟨m, rfl⟩ := Int.eq_ofNat_of_zero_le (Int.le_of_lt hx)
  rw [← Int.natCast_emod]
  simp only [Int.gcd, Int.natAbs_natCast]
  rw [← Nat.gcd_rec m n, Nat.gcd_comm]

/-- a fraction that may be, and is not over -/
def sureB (n d : Int) : Bool := decide (1 ≤ d) && (decide (n ≠ -9223372036854775808) && ((Int.gcd n d : Nat) : Int) == 1)
/-- a fraction that may be -/
def mayB (n d : Int) : Bool := (decide (n = 0) && decide (d = 0)) || sureB n d
theorem sureB_of {n d : Int} (h1 : 1 ≤ d) (h2 : n ≠ -9223372036854775808) (h3 : Int.gcd n d = 1) : sureB n d = true := by simp [sureB, h1, h2, h3]
theorem sureB_no {n d : Int} (h : d < 1 ∨ n = -9223372036854775808 ∨ Int.gcd n d ≠ 1) : sureB n d = false := by
  simp only [sureB]; rcases h with h | h | h
  · have : ¬ 1 ≤ d := by omega
    simp [this]
  · simp [h]
  · have : ¬ ((Int.gcd n d : Nat) : Int) = 1 := by omega
    simp [this]

theorem gcd_natAbs_l (n d : Int) : Int.gcd (n.natAbs : Int) d = Int.gcd n d := by simp [Int.gcd]

theorem mayB_sure {n d : Int} (h : n ≠ 0 ∨ d ≠ 0) : mayB n d = sureB n d := by
  simp only [mayB]; rw [Bool.or_eq_right_iff_imp]; simp; intro a b; omega

/-- a fraction that is a size -/
def sizeB (n d : Int) : Bool := mayB n d && (decide (0 < d) && decide (0 ≤ n))
theorem sureB_may {n d : Int} : sureB n d = (mayB n d && decide (0 < d)) := by
  unfold mayB
  by_cases h : 1 ≤ d
  · have h0 : ¬ d = 0 := by omega
    have h1 : 0 < d := by omega
    simp [h0, h1]
  · have h1 : ¬ 0 < d := by omega
    rw [sureB_no (.inl (by omega))]; simp [h1]

end Go
