/- PLAIN: single bits of a whole number of 64 bits, by mask and by shift. No condition; no program. -/
import Derived.Test.YthmicnjigfcljaaMo
set_option linter.unusedSimpArgs false
set_option linter.unusedVariables false
namespace Go
open Go.RowKit

/-- the bit k of a mask -/
def tB (x : Int) (k : Nat) : Bool := (x % 18446744073709551616).toNat.testBit k
theorem ofInt_nat (x : Int) : (BitVec.ofInt 64 x).toNat = (x % 18446744073709551616).toNat := by
  rw [BitVec.toNat_ofInt]; rfl
theorem wrap_small8 {c : Nat} (h : c < 256) : IntKind.wrap .i64 (c : Int) = c := by
  simp [IntKind.wrap, IntKind.signed, IntKind.bits]
  omega
theorem and_pow (n k : Nat) : n &&& 2 ^ k = (n.testBit k).toNat * 2 ^ k := by
  apply Nat.eq_of_testBit_eq
  intro i
  rw [Nat.testBit_and, Nat.testBit_two_pow]
  by_cases h : k = i
  · subst h
    cases n.testBit k <;> simp [Nat.testBit_two_pow_self]
  · cases n.testBit k <;> simp [h, Nat.testBit_two_pow]
theorem bits_and_pow (x : Int) {k : Nat} (hk : k < 8) : bits .and .i64 x ((2 ^ k : Nat) : Int) = if tB x k then ((2 ^ k : Nat) : Int) else 0 := by
  have h2 : 2 ^ k < 256 := Nat.pow_lt_pow_right (by omega : 1 < 2) (by omega : k < 8)
  have e2 : (BitVec.ofInt 64 ((2 ^ k : Nat) : Int)).toNat = 2 ^ k := by rw [BitVec.ofInt_natCast, BitVec.toNat_ofNat, Nat.mod_eq_of_lt (by omega)]
  show IntKind.wrap .i64 (((BitVec.ofInt 64 x &&& BitVec.ofInt 64 ((2 ^ k : Nat) : Int)).toNat : Nat) : Int) = _
  rw [BitVec.toNat_and, ofInt_nat, e2, and_pow]
  unfold tB
  cases (x % 18446744073709551616).toNat.testBit k
  · simp [IntKind.wrap, IntKind.signed, IntKind.bits]
  · simp only [Bool.toNat_true, Nat.one_mul, if_true]
    exact wrap_small8 h2
theorem tB_shift (x : Int) {k : Nat} (hk : k < 8) : tB (x / ((2 ^ k : Nat) : Int)) 0 = tB x k := by
  unfold tB
  rw [Nat.testBit_zero, Nat.testBit_eq_decide_div_mod_eq]
  apply decide_eq_decide.2
  rcases (by omega : k = 0 ∨ k = 1 ∨ k = 2 ∨ k = 3 ∨ k = 4 ∨ k = 5 ∨ k = 6 ∨ k = 7) with rfl | rfl | rfl | rfl | rfl | rfl | rfl | rfl <;> simp <;> omega
theorem bits_shift (x : Int) {k : Nat} (hk : k < 8) : bits .and .i64 (x / ((2 ^ k : Nat) : Int)) 1 = if tB x k then 1 else 0 := by
  have := bits_and_pow (x / ((2 ^ k : Nat) : Int)) (k := 0) (by omega)
  rw [tB_shift x hk] at this
  exact this
end Go
