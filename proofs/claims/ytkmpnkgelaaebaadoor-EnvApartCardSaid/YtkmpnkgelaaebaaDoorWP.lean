/- PLAIN ARITHMETIC: numbers of 128 bits in two halves; greatest common divisors by halving; division bit by bit. No condition; no program. -/
import Derived.Test.YtkmpnkgelaaebaaDoorCmpP
import Derived.Laws.Bits64b
set_option linter.unusedSimpArgs false
set_option linter.unusedVariables false
namespace Go
open Go.RowKit

/-- the upper half, the lower half -/
def hiW (x : Nat) : Int := ((x / 18446744073709551616 : Nat) : Int)
def loW (x : Nat) : Int := ((x % 18446744073709551616 : Nat) : Int)
abbrev valW (x : Nat) : Value := .agg #[.int .u64 (hiW x), .int .u64 (loW x)]
/-- 2 to the 128th -/
def endW : Nat := 340282366920938463463374607431768211456
theorem hiW_bd {x : Nat} (h : x < endW) : 0 ≤ hiW x ∧ hiW x ≤ 18446744073709551615 := by unfold hiW; unfold endW at h; omega
theorem loW_bd (x : Nat) : 0 ≤ loW x ∧ loW x ≤ 18446744073709551615 := by unfold loW; omega
theorem w_inj {x y : Nat} (h1 : hiW x = hiW y) (h2 : loW x = loW y) : x = y := by unfold hiW loW at *; omega

theorem or_add_hi {a b : Nat} (ha : a < 9223372036854775808) (hb : b < 2) : a ||| (b * 9223372036854775808) = a + b * 9223372036854775808 := by
  have := Nat.shiftLeft_add_eq_or_of_lt (i := 63) (b := a) (by simpa using ha) b
  rw [Nat.shiftLeft_eq] at this
  rw [Nat.or_comm, show b * 9223372036854775808 = b * 2 ^ 63 from rfl, ← this]; omega
theorem or_add_lo {a b : Nat} (hb : b < 2) : (2 * a) ||| b = 2 * a + b := by
  have := Nat.shiftLeft_add_eq_or_of_lt (i := 1) (b := b) (by simpa using hb) a
  rw [Nat.shiftLeft_eq] at this
  rw [show 2 * a = a * 2 ^ 1 by omega, ← this]

theorem hi_half (x : Nat) : hiW x / 2 = hiW (x / 2) := by unfold hiW; omega
theorem lo_half {x : Nat} (h : x < endW) : bits .or .u64 (loW x / 2) (IntKind.u64.wrap (hiW x * 9223372036854775808)) = loW (x / 2) := by
  unfold endW at h
  have e1 : IntKind.u64.wrap (hiW x * 9223372036854775808) = ((x / 18446744073709551616 % 2 * 9223372036854775808 : Nat) : Int) := by
    rw [IntKind.wrap_u64]; unfold hiW; omega
  have e2 : loW x / 2 = ((x % 18446744073709551616 / 2 : Nat) : Int) := by unfold loW; omega
  rw [e1, e2, bits_or_u64_nat _ _ (by omega) (by omega), or_add_hi (by omega) (by omega)]
  unfold loW; omega
theorem hi_twice {x : Nat} (h : x < endW) : bits .or .u64 (IntKind.u64.wrap (hiW x * 2)) (loW x / 9223372036854775808) = hiW (2 * x % endW) := by
  unfold endW at *
  have e1 : IntKind.u64.wrap (hiW x * 2) = ((2 * (x / 18446744073709551616 % 9223372036854775808) : Nat) : Int) := by
    rw [IntKind.wrap_u64]; unfold hiW; omega
  have e2 : loW x / 9223372036854775808 = ((x % 18446744073709551616 / 9223372036854775808 : Nat) : Int) := by unfold loW; omega
  rw [e1, e2, bits_or_u64_nat _ _ (by omega) (by omega), or_add_lo (by omega)]
  unfold hiW; omega
theorem lo_twice (x : Nat) : IntKind.u64.wrap (loW x * 2) = loW (2 * x % endW) := by
  unfold endW; rw [IntKind.wrap_u64]; unfold loW; omega
theorem none_iff {x : Nat} : (hiW x = 0 ∧ loW x = 0) ↔ x = 0 := by unfold hiW loW; omega
/-- less, by halves -/
theorem less_iff (x y : Nat) : (hiW x < hiW y ∨ hiW x = hiW y ∧ loW x < loW y) ↔ x < y := by unfold hiW loW; omega

/-- the difference, by halves -/
theorem subLo (x y : Nat) : ((((x % 18446744073709551616 + 18446744073709551616 - y % 18446744073709551616 - 0) % 18446744073709551616 : Nat)) : Int) = loW ((x + endW - y % endW) % endW) := by
  unfold loW endW; omega
theorem subHi (x y : Nat) (hx : x < endW) (hy : y < endW) : ((((x / 18446744073709551616 + 18446744073709551616 - y / 18446744073709551616 - (if x % 18446744073709551616 < y % 18446744073709551616 + 0 then 1 else 0)) % 18446744073709551616 : Nat)) : Int) = hiW ((x + endW - y % endW) % endW) := by
  unfold hiW endW at *; split <;> omega
theorem sub_le {x y : Nat} (hx : x < endW) (h : y ≤ x) : (x + endW - y % endW) % endW = x - y := by unfold endW at *; omega
/-! greatest common divisors by halving -/
theorem and1_loW (x : Nat) : bits .and .u64 (loW x) 1 = ((x % 2 : Nat) : Int) := by
  have h := bits_and_u64_nat (x % 18446744073709551616) 1 (by omega) (by omega)
  rw [show (x % 18446744073709551616) &&& 1 = x % 18446744073709551616 % 2 from Nat.and_one_is_mod _] at h
  unfold loW; refine h.trans ?_; omega
theorem even_loW {x : Nat} (h : x % 2 = 0) : bits .and .u64 (loW x) 1 = 0 := by rw [and1_loW, h]; rfl
theorem odd_loW {x : Nat} (h : x % 2 = 1) : bits .and .u64 (loW x) 1 = 1 := by rw [and1_loW, h]; rfl
theorem gcd_half_left {a b : Nat} (ha : a % 2 = 0) (hb : b % 2 = 1) : Nat.gcd (a / 2) b = Nat.gcd a b := by
  have h2 : Nat.Coprime 2 b := by
    rw [Nat.coprime_iff_gcd_eq_one, Nat.gcd_rec, hb]; decide
  have := Nat.Coprime.gcd_mul_left_cancel (a / 2) h2
  rw [← this]; congr 1; omega
theorem gcd_half_right {a b : Nat} (ha : a % 2 = 1) (hb : b % 2 = 0) : Nat.gcd a (b / 2) = Nat.gcd a b := by
  rw [Nat.gcd_comm a, Nat.gcd_comm a]; exact gcd_half_left hb ha
theorem gcd_half_both {a b : Nat} (ha : a % 2 = 0) (hb : b % 2 = 0) : Nat.gcd (a / 2) (b / 2) * 2 = Nat.gcd a b := by
  have := Nat.gcd_mul_left 2 (a / 2) (b / 2)
  rw [Nat.mul_div_cancel' (by omega), Nat.mul_div_cancel' (by omega)] at this
  omega
theorem gcd_sub_r {a b : Nat} (h : a ≤ b) : Nat.gcd a (b - a) = Nat.gcd a b := Nat.gcd_sub_self_right h
theorem two_pow_bd {x n : Nat} (h0 : 0 < x) (h : x * 2 ^ n < endW) : n < 128 := by
  have : 2 ^ n ≤ x * 2 ^ n := Nat.le_mul_of_pos_left _ h0
  have h1 : 2 ^ n < 2 ^ 128 := by unfold endW at h; omega
  exact (Nat.pow_lt_pow_iff_right (by omega)).1 h1
/-! division bit by bit -/
theorem div_step {X b bit : Nat} (hb : 0 < b) :
    (2 * (X % b) + bit < b → (2 * X + bit) / b = 2 * (X / b) ∧ (2 * X + bit) % b = 2 * (X % b) + bit) ∧
    (bit < 2 → ¬ 2 * (X % b) + bit < b → (2 * X + bit) / b = 2 * (X / b) + 1 ∧ (2 * X + bit) % b = 2 * (X % b) + bit - b) := by
  have h1 := Nat.mod_add_div X b
  have h2 := Nat.mod_lt X hb
  constructor
  · intro h
    refine (Nat.div_mod_unique hb).2 ⟨?_, h⟩
    rw [Nat.mul_left_comm]; omega
  · intro hbit h
    refine (Nat.div_mod_unique hb).2 ⟨?_, by omega⟩
    rw [Nat.mul_add, Nat.mul_left_comm]; omega
theorem bit_step (a : Nat) {k : Nat} (h : k ≠ 0) : a / 2 ^ (k - 1) = 2 * (a / 2 ^ k) + a / 2 ^ (k - 1) % 2 := by
  obtain ⟨n, rfl⟩ : ∃ n, k = n + 1 := ⟨k - 1, by omega⟩
  rw [Nat.add_sub_cancel, Nat.pow_succ, ← Nat.div_div_eq_div_mul]; omega
theorem and1_nat {x : Nat} (h : x < 18446744073709551616) : bits .and .u64 (x : Int) 1 = ((x % 2 : Nat) : Int) := by
  have h := bits_and_u64_nat x 1 h (by omega)
  rw [Nat.and_one_is_mod] at h; exact h
theorem bit_hi {a n : Nat} (h : a < endW) : bits .and .u64 (hiW a / 2 ^ n) 1 = ((a / 2 ^ (64 + n) % 2 : Nat) : Int) := by
  have e : hiW a / 2 ^ n = ((a / 2 ^ (64 + n) : Nat) : Int) := by
    rw [Nat.pow_add, ← Nat.div_div_eq_div_mul]; unfold hiW; rw [Int.natCast_ediv (a / 18446744073709551616)]; simp
  rw [e, and1_nat]
  have h1 : a / 2 ^ (64 + n) ≤ a / 2 ^ 64 := Nat.div_le_div_left (Nat.pow_le_pow_right (by omega) (by omega)) (by omega)
  unfold endW at h; omega
theorem bit_lo {a n : Nat} (h : n < 64) : bits .and .u64 (loW a / 2 ^ n) 1 = ((a / 2 ^ n % 2 : Nat) : Int) := by
  have e : loW a / 2 ^ n = ((a % 2 ^ 64 / 2 ^ n : Nat) : Int) := by
    rw [Int.natCast_ediv]; unfold loW; simp
  have h1 : a % 2 ^ 64 / 2 ^ n ≤ a % 2 ^ 64 := Nat.div_le_self _ _
  rw [e, and1_nat (by omega)]
  have h2 := Nat.testBit_mod_two_pow a 64 n
  rw [Nat.testBit_eq_decide_div_mod_eq, Nat.testBit_eq_decide_div_mod_eq, decide_eq_true h, Bool.true_and, decide_eq_decide] at h2
  have h3 : a % 2 ^ 64 / 2 ^ n % 2 = a / 2 ^ n % 2 := by omega
  rw [h3]
theorem or_bit {R bit : Nat} (hb : bit < 2) (h : 2 * R + bit < endW) : bits .or .u64 (loW (2 * R % endW)) (bit : Int) = loW (2 * R + bit) := by
  have e : loW (2 * R % endW) = ((2 * (R % 9223372036854775808) : Nat) : Int) := by unfold loW endW at *; omega
  rw [e, bits_or_u64_nat _ _ (by omega) (by omega), or_add_lo hb]
  unfold loW endW at *; omega
theorem or_bit_hi {R bit : Nat} (hb : bit < 2) (h : 2 * R + bit < endW) : hiW (2 * R % endW) = hiW (2 * R + bit) := by unfold hiW endW at *; omega
end Go
