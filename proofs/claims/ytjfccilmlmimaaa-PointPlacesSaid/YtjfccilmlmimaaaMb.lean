/- Texts of the walk, one after the other; what each proves stands ahead of it. -/
import Derived.Laws.Bits64b
import Derived.Test.YtjfccilmlmimaaaMa
set_option linter.unusedSimpArgs false
set_option linter.unusedVariables false
/- PLAIN ARITHMETIC: which of two fractions is less. No condition; no program. -/
namespace Go
open Go.RowKit

def cmpI (a b c d : Int) : Int := if a * d < c * b then -1 else if c * b < a * d then 1 else 0
def cmpN (x y : Nat) : Int := if x < y then -1 else if y < x then 1 else 0
/-- by two halves -/
def cmpH (p q r s : Int) : Int := if p < r ∨ p = r ∧ q < s then -1 else if p ≠ r ∨ q ≠ s then 1 else 0
theorem cmpH_eq (x y : Nat) : cmpH ((x / 18446744073709551616 : Nat) : Int) ((x % 18446744073709551616 : Nat) : Int) ((y / 18446744073709551616 : Nat) : Int) ((y % 18446744073709551616 : Nat) : Int) = cmpN x y := by
  have A : (((x / 18446744073709551616 : Nat) : Int) < ((y / 18446744073709551616 : Nat) : Int) ∨ ((x / 18446744073709551616 : Nat) : Int) = ((y / 18446744073709551616 : Nat) : Int) ∧ ((x % 18446744073709551616 : Nat) : Int) < ((y % 18446744073709551616 : Nat) : Int)) ↔ x < y := by omega
  have B : (((x / 18446744073709551616 : Nat) : Int) ≠ ((y / 18446744073709551616 : Nat) : Int) ∨ ((x % 18446744073709551616 : Nat) : Int) ≠ ((y % 18446744073709551616 : Nat) : Int)) ↔ x ≠ y := by omega
  unfold cmpH cmpN
  simp only [A, B]
  by_cases h1 : x < y
  · rw [if_pos h1, if_pos h1]
  · rw [if_neg h1, if_neg h1]
    by_cases h2 : y < x
    · rw [if_pos h2, if_pos (by omega)]
    · rw [if_neg h2, if_neg (by omega)]
theorem nonneg_abs {a : Int} (h : 0 ≤ a) : (a.natAbs : Int) = a := by omega
theorem neg_abs {a : Int} (h : a < 0) : (a.natAbs : Int) = -a := by omega
theorem cmpI_pos {a b c d : Int} (ha : 0 ≤ a) (hc : 0 ≤ c) (hb : 1 ≤ b) (hd : 1 ≤ d) : cmpI a b c d = cmpN (a.natAbs * d.natAbs) (c.natAbs * b.natAbs) := by
  have e1 : ((a.natAbs * d.natAbs : Nat) : Int) = a * d := by rw [Int.natCast_mul, nonneg_abs ha, nonneg_abs (by omega)]
  have e2 : ((c.natAbs * b.natAbs : Nat) : Int) = c * b := by rw [Int.natCast_mul, nonneg_abs hc, nonneg_abs (by omega)]
  unfold cmpI cmpN
  rw [← e1, ← e2]
  simp only [Int.ofNat_lt]
theorem cmpI_neg {a b c d : Int} (ha : a < 0) (hc : c < 0) (hb : 1 ≤ b) (hd : 1 ≤ d) : cmpI a b c d = - cmpN (a.natAbs * d.natAbs) (c.natAbs * b.natAbs) := by
  have e1 : ((a.natAbs * d.natAbs : Nat) : Int) = -(a * d) := by rw [Int.natCast_mul, neg_abs ha, nonneg_abs (by omega), Int.neg_mul]
  have e2 : ((c.natAbs * b.natAbs : Nat) : Int) = -(c * b) := by rw [Int.natCast_mul, neg_abs hc, nonneg_abs (by omega), Int.neg_mul]
  unfold cmpI cmpN
  have h1 : (a * d < c * b) ↔ (c.natAbs * b.natAbs < a.natAbs * d.natAbs) := by omega
  have h2 : (c * b < a * d) ↔ (a.natAbs * d.natAbs < c.natAbs * b.natAbs) := by omega
  simp only [h1, h2]
  split <;> split <;> first | rfl | omega
theorem cmpI_lo {a b c d : Int} (ha : a < 0) (hc : 0 ≤ c) (hb : 1 ≤ b) (hd : 1 ≤ d) : cmpI a b c d = -1 := by
  have h1 : a * d < 0 := Int.mul_neg_of_neg_of_pos ha (by omega)
  have h2 : 0 ≤ c * b := Int.mul_nonneg hc (by omega)
  unfold cmpI; rw [if_pos (by omega)]
theorem cmpI_hi {a b c d : Int} (ha : 0 ≤ a) (hc : c < 0) (hb : 1 ≤ b) (hd : 1 ≤ d) : cmpI a b c d = 1 := by
  have h1 : c * b < 0 := Int.mul_neg_of_neg_of_pos hc (by omega)
  have h2 : 0 ≤ a * d := Int.mul_nonneg ha (by omega)
  unfold cmpI; rw [if_neg (by omega), if_pos (by omega)]
theorem sureB_yes {n d : Int} (h : sureB n d = true) : 1 ≤ d ∧ n ≠ -9223372036854775808 := by
  simp only [sureB, Bool.and_eq_true, decide_eq_true_eq] at h; exact ⟨h.1, h.2.1⟩
/-- what comparing two fractions tells -/
abbrev cmpV (a b c d : Int) : Value := .tuple #[.int .i64 (if sureB a b && sureB c d then cmpI a b c d else 0), .bool (sureB a b && sureB c d)]
end Go

/- PLAIN ARITHMETIC: numbers of 128 bits in two halves; greatest common divisors by halving; division bit by bit. No condition; no program. -/
namespace Go
open Go.RowKit

/-- the upper half, the lower half -/
def hiW (x : Nat) : Int := ((x / 18446744073709551616 : Nat) : Int)
def loW (x : Nat) : Int := ((x % 18446744073709551616 : Nat) : Int)
abbrev valW (x : Nat) : Value := .agg #[.int .u64 (hiW x), .int .u64 (loW x)]
/-- 2 to the 128th -/
def endW : Nat := 340282366920938463463374607431768211456
theorem hiW_bd {x : Nat} (h : x < endW) : 0 ≤ hiW x ∧ hiW x ≤ 18446744073709551615 := by unfold hiW; unfold endW at h; omega
theorem loW_bd (x : Nat) : 0 ≤ loW x ∧ loW x ≤ 18446744073709551615 := by unfold loW; omega
theorem w_inj {x y : Nat} (h1 : hiW x = hiW y) (h2 : loW x = loW y) : x = y := by unfold hiW loW at *; omega

theorem or_add_hi {a b : Nat} (ha : a < 9223372036854775808) (hb : b < 2) : a ||| (b * 9223372036854775808) = a + b * 9223372036854775808 := by
  have := Nat.shiftLeft_add_eq_or_of_lt (i := 63) (b := a) (by simpa using ha) b
  rw [Nat.shiftLeft_eq] at this
  rw [Nat.or_comm, show b * 9223372036854775808 = b * 2 ^ 63 from rfl, ← this]; omega
theorem or_add_lo {a b : Nat} (hb : b < 2) : (2 * a) ||| b = 2 * a + b := by
  have := Nat.shiftLeft_add_eq_or_of_lt (i := 1) (b := b) (by simpa using hb) a
  rw [Nat.shiftLeft_eq] at this
  rw [show 2 * a = a * 2 ^ 1 by omega, ← this]

theorem hi_half (x : Nat) : hiW x / 2 = hiW (x / 2) := by unfold hiW; omega
theorem lo_half {x : Nat} (h : x < endW) : bits .or .u64 (loW x / 2) (IntKind.u64.wrap (hiW x * 9223372036854775808)) = loW (x / 2) := by
  unfold endW at h
  have e1 : IntKind.u64.wrap (hiW x * 9223372036854775808) = ((x / 18446744073709551616 % 2 * 9223372036854775808 : Nat) : Int) := by
    rw [IntKind.wrap_u64]; unfold hiW; omega
  have e2 : loW x / 2 = ((x % 18446744073709551616 / 2 : Nat) : Int) := by unfold loW; omega
  rw [e1, e2, bits_or_u64_nat _ _ (by omega) (by omega), or_add_hi (by omega) (by omega)]
  unfold loW; omega
theorem hi_twice {x : Nat} (h : x < endW) : bits .or .u64 (IntKind.u64.wrap (hiW x * 2)) (loW x / 9223372036854775808) = hiW (2 * x % endW) := by
  unfold endW at *
  have e1 : IntKind.u64.wrap (hiW x * 2) = ((2 * (x / 18446744073709551616 % 9223372036854775808) : Nat) : Int) := by
    rw [IntKind.wrap_u64]; unfold hiW; omega
  have e2 : loW x / 9223372036854775808 = ((x % 18446744073709551616 / 9223372036854775808 : Nat) : Int) := by unfold loW; omega
  rw [e1, e2, bits_or_u64_nat _ _ (by omega) (by omega), or_add_lo (by omega)]
  unfold hiW; omega
theorem lo_twice (x : Nat) : IntKind.u64.wrap (loW x * 2) = loW (2 * x % endW) := by
  unfold endW; rw [IntKind.wrap_u64]; unfold loW; omega
theorem none_iff {x : Nat} : (hiW x = 0 ∧ loW x = 0) ↔ x = 0 := by unfold hiW loW; omega
/-- less, by halves -/
theorem less_iff (x y : Nat) : (hiW x < hiW y ∨ hiW x = hiW y ∧ loW x < loW y) ↔ x < y := by unfold hiW loW; omega

/-- the difference, by halves -/
theorem subLo (x y : Nat) : ((((x % 18446744073709551616 + 18446744073709551616 - y % 18446744073709551616 - 0) % 18446744073709551616 : Nat)) : Int) = loW ((x + endW - y % endW) % endW) := by
  unfold loW endW; omega
theorem subHi (x y : Nat) (hx : x < endW) (hy : y < endW) : ((((x / 18446744073709551616 + 18446744073709551616 - y / 18446744073709551616 - (if x % 18446744073709551616 < y % 18446744073709551616 + 0 then 1 else 0)) % 18446744073709551616 : Nat)) : Int) = hiW ((x + endW - y % endW) % endW) := by
  unfold hiW endW at *; split <;> omega
theorem sub_le {x y : Nat} (hx : x < endW) (h : y ≤ x) : (x + endW - y % endW) % endW = x - y := by unfold endW at *; omega
/-! greatest common divisors by halving -/
theorem and1_loW (x : Nat) : bits .and .u64 (loW x) 1 = ((x % 2 : Nat) : Int) := by
  have h := bits_and_u64_nat (x % 18446744073709551616) 1 (by omega) (by omega)
  rw [show (x % 18446744073709551616) &&& 1 = x % 18446744073709551616 % 2 from Nat.and_one_is_mod _] at h
  unfold loW; refine h.trans ?_; omega
theorem even_loW {x : Nat} (h : x % 2 = 0) : bits .and .u64 (loW x) 1 = 0 := by rw [and1_loW, h]; rfl
theorem odd_loW {x : Nat} (h : x % 2 = 1) : bits .and .u64 (loW x) 1 = 1 := by rw [and1_loW, h]; rfl
theorem gcd_half_left {a b : Nat} (ha : a % 2 = 0) (hb : b % 2 = 1) : Nat.gcd (a / 2) b = Nat.gcd a b := by
  have h2 : Nat.Coprime 2 b := by
    rw [Nat.coprime_iff_gcd_eq_one, Nat.gcd_rec, hb]; decide
  have := Nat.Coprime.gcd_mul_left_cancel (a / 2) h2
  rw [← this]; congr 1; omega
theorem gcd_half_right {a b : Nat} (ha : a % 2 = 1) (hb : b % 2 = 0) : Nat.gcd a (b / 2) = Nat.gcd a b := by
  rw [Nat.gcd_comm a, Nat.gcd_comm a]; exact gcd_half_left hb ha
theorem gcd_half_both {a b : Nat} (ha : a % 2 = 0) (hb : b % 2 = 0) : Nat.gcd (a / 2) (b / 2) * 2 = Nat.gcd a b := by
  have := Nat.gcd_mul_left 2 (a / 2) (b / 2)
  rw [Nat.mul_div_cancel' (by omega), Nat.mul_div_cancel' (by omega)] at this
  omega
theorem gcd_sub_r {a b : Nat} (h : a ≤ b) : Nat.gcd a (b - a) = Nat.gcd a b := Nat.gcd_sub_self_right h
theorem two_pow_bd {x n : Nat} (h0 : 0 < x) (h : x * 2 ^ n < endW) : n < 128 := by
  have : 2 ^ n ≤ x * 2 ^ n := Nat.le_mul_of_pos_left _ h0
  have h1 : 2 ^ n < 2 ^ 128 := by unfold endW at h; omega
  exact (Nat.pow_lt_pow_iff_right (by omega)).1 h1
/-! division bit by bit -/
theorem div_step {X b bit : Nat} (hb : 0 < b) :
    (2 * (X % b) + bit < b → (2 * X + bit) / b = 2 * (X / b) ∧ (2 * X + bit) % b = 2 * (X % b) + bit) ∧
    (bit < 2 → ¬ 2 * (X % b) + bit < b → (2 * X + bit) / b = 2 * (X / b) + 1 ∧ (2 * X + bit) % b = 2 * (X % b) + bit - b) := by
  have h1 := Nat.mod_add_div X b
  have h2 := Nat.mod_lt X hb
  constructor
  · intro h
    refine (Nat.div_mod_unique hb).2 ⟨?_, h⟩
    rw [Nat.mul_left_comm]; omega
  · intro hbit h
    refine (Nat.div_mod_unique hb).2 ⟨?_, by omega⟩
    rw [Nat.mul_add, Nat.mul_left_comm]; omega
theorem bit_step (a : Nat) {k : Nat} (h : k ≠ 0) : a / 2 ^ (k - 1) = 2 * (a / 2 ^ k) + a / 2 ^ (k - 1) % 2 := by
  obtain ⟨n, rfl⟩ : ∃ n, k = n + 1 := ⟨k - 1, by omega⟩
  rw [Nat.add_sub_cancel, Nat.pow_succ, ← Nat.div_div_eq_div_mul]; omega
theorem and1_nat {x : Nat} (h : x < 18446744073709551616) : bits .and .u64 (x : Int) 1 = ((x % 2 : Nat) : Int) := by
  have h := bits_and_u64_nat x 1 h (by omega)
  rw [Nat.and_one_is_mod] at h; exact h
theorem bit_hi {a n : Nat} (h : a < endW) : bits .and .u64 (hiW a / 2 ^ n) 1 = ((a / 2 ^ (64 + n) % 2 : Nat) : Int) := by
  have e : hiW a / 2 ^ n = ((a / 2 ^ (64 + n) : Nat) : Int) := by
    rw [Nat.pow_add, ← Nat.div_div_eq_div_mul]; unfold hiW; rw [Int.natCast_ediv (a / 18446744073709551616)]; simp
  rw [e, and1_nat]
  have h1 : a / 2 ^ (64 + n) ≤ a / 2 ^ 64 := Nat.div_le_div_left (Nat.pow_le_pow_right (by omega) (by omega)) (by omega)
  unfold endW at h; omega
theorem bit_lo {a n : Nat} (h : n < 64) : bits .and .u64 (loW a / 2 ^ n) 1 = ((a / 2 ^ n % 2 : Nat) : Int) := by
  have e : loW a / 2 ^ n = ((a % 2 ^ 64 / 2 ^ n : Nat) : Int) := by
    rw [Int.natCast_ediv]; unfold loW; simp
  have h1 : a % 2 ^ 64 / 2 ^ n ≤ a % 2 ^ 64 := Nat.div_le_self _ _
  rw [e, and1_nat (by omega)]
  have h2 := Nat.testBit_mod_two_pow a 64 n
  rw [Nat.testBit_eq_decide_div_mod_eq, Nat.testBit_eq_decide_div_mod_eq, decide_eq_true h, Bool.true_and, decide_eq_decide] at h2
  have h3 : a % 2 ^ 64 / 2 ^ n % 2 = a / 2 ^ n % 2 := by omega
  rw [h3]
theorem or_bit {R bit : Nat} (hb : bit < 2) (h : 2 * R + bit < endW) : bits .or .u64 (loW (2 * R % endW)) (bit : Int) = loW (2 * R + bit) := by
  have e : loW (2 * R % endW) = ((2 * (R % 9223372036854775808) : Nat) : Int) := by unfold loW endW at *; omega
  rw [e, bits_or_u64_nat _ _ (by omega) (by omega), or_add_lo hb]
  unfold loW endW at *; omega
theorem or_bit_hi {R bit : Nat} (hb : bit < 2) (h : 2 * R + bit < endW) : hiW (2 * R % endW) = hiW (2 * R + bit) := by unfold hiW endW at *; omega
end Go

/- PLAIN ARITHMETIC: fractions in lowest terms; products and quotients of two. No condition; no program. -/
namespace Go
open Go.RowKit

/-- a fraction by its sign and sizes; over, if they are too great -/
def madeQ (neg : Bool) (n d : Nat) : Int × Int :=
  if 9223372036854775807 < n ∨ 9223372036854775807 < d ∨ d = 0 then (0, 0) else (if neg then -(n : Int) else n, d)
/-- n over d in lowest terms -/
def mkQ (neg : Bool) (n d : Nat) : Int × Int := madeQ neg (n / Nat.gcd n d) (d / Nat.gcd n d)
abbrev ratV (p : Int × Int) : Value := .agg #[.int .i64 p.1, .int .i64 p.2]
theorem madeQ_bd (neg : Bool) (n d : Nat) : I64 (madeQ neg n d).1 ∧ I64 (madeQ neg n d).2 := by
  unfold madeQ I64; split
  · simp
  · cases neg <;> simp <;> omega
theorem madeQ_sure {neg : Bool} {n d : Nat} (h : Nat.gcd n d = 1) : madeQ neg n d = (0, 0) ∨ sureB (madeQ neg n d).1 (madeQ neg n d).2 = true := by
  unfold madeQ; split
  · exact .inl rfl
  · rename_i hc
    refine .inr (sureB_of (by simp; omega) ?_ ?_)
    · cases neg <;> simp <;> omega
    · cases neg <;> simp [Int.gcd, h]
theorem mkQ_bd (neg : Bool) (n d : Nat) : I64 (mkQ neg n d).1 ∧ I64 (mkQ neg n d).2 := madeQ_bd _ _ _
theorem mkQ_zero (neg : Bool) {d : Nat} (h : 0 < d) : mkQ neg 0 d = (0, 1) := by
  unfold mkQ madeQ
  rw [Nat.gcd_zero_left, Nat.div_self h, Nat.zero_div, if_neg (by omega)]
  cases neg <;> rfl
theorem mkQ_none (neg : Bool) {n : Nat} : mkQ neg n 0 = (0, 0) := by
  unfold mkQ madeQ; rw [Nat.gcd_zero_right, Nat.zero_div, if_pos (by omega)]
theorem mkQ_sure {neg : Bool} {n d : Nat} : mkQ neg n d = (0, 0) ∨ sureB (mkQ neg n d).1 (mkQ neg n d).2 = true := by
  by_cases h : 0 < Nat.gcd n d
  · exact madeQ_sure (Nat.coprime_div_gcd_div_gcd h)
  · have : d = 0 := by have := Nat.eq_zero_of_gcd_eq_zero_right (m := n) (n := d) (by omega); exact this
    subst this; exact .inl (mkQ_none _)
theorem mkQ_may (neg : Bool) (n d : Nat) : mayB (mkQ neg n d).1 (mkQ neg n d).2 = true := by
  rcases @mkQ_sure neg n d with h | h
  · rw [h]; rfl
  · unfold mayB; rw [h]; simp
/-- lowest terms are found whatever is divided out, if the rest has no divisor -/
theorem mkQ_of {neg : Bool} {n d g : Nat} (hg : 0 < g) (h : Nat.gcd n d = 1) : mkQ neg (n * g) (d * g) = madeQ neg n d := by
  unfold mkQ
  rw [Nat.gcd_mul_right, h, Nat.one_mul, Nat.mul_div_cancel _ hg, Nat.mul_div_cancel _ hg]
theorem sure_gcd {a b : Int} (h : sureB a b = true) : Nat.gcd a.natAbs b.natAbs = 1 := by
  simp only [sureB, Bool.and_eq_true, beq_iff_eq] at h
  have := h.2.2; unfold Int.gcd at this; omega
/-- the product, crosswise -/
theorem times_law {neg : Bool} {a b c d : Nat} (hb : 0 < b) (hd : 0 < d) (h1 : Nat.gcd a b = 1) (h2 : Nat.gcd c d = 1) :
    mkQ neg (a * c) (b * d) = madeQ neg (a / Nat.gcd a d * (c / Nat.gcd c b)) (b / Nat.gcd c b * (d / Nat.gcd a d)) := by
  have g0 : 0 < Nat.gcd a d := Nat.gcd_pos_of_pos_right _ hd
  have k0 : 0 < Nat.gcd c b := Nat.gcd_pos_of_pos_right _ hb
  have e1 : a * c = a / Nat.gcd a d * (c / Nat.gcd c b) * (Nat.gcd a d * Nat.gcd c b) := by
    have x1 := Nat.div_mul_cancel (Nat.gcd_dvd_left a d); have x2 := Nat.div_mul_cancel (Nat.gcd_dvd_left c b)
    rw [Nat.mul_mul_mul_comm, x1, x2]
  have e2 : b * d = b / Nat.gcd c b * (d / Nat.gcd a d) * (Nat.gcd a d * Nat.gcd c b) := by
    have x1 := Nat.div_mul_cancel (Nat.gcd_dvd_right a d); have x2 := Nat.div_mul_cancel (Nat.gcd_dvd_right c b)
    rw [Nat.mul_comm (Nat.gcd a d), Nat.mul_mul_mul_comm, x1, x2]
  rw [e1, e2]
  have hab : Nat.Coprime a b := h1
  have hcd : Nat.Coprime c d := h2
  have p1 : Nat.Coprime (a / Nat.gcd a d) (b / Nat.gcd c b) :=
    Nat.Coprime.coprime_dvd_left (Nat.div_dvd_of_dvd (Nat.gcd_dvd_left a d)) (Nat.Coprime.coprime_dvd_right (Nat.div_dvd_of_dvd (Nat.gcd_dvd_right c b)) hab)
  have p2 : Nat.Coprime (a / Nat.gcd a d) (d / Nat.gcd a d) := Nat.coprime_div_gcd_div_gcd g0
  have p3 : Nat.Coprime (c / Nat.gcd c b) (b / Nat.gcd c b) := Nat.coprime_div_gcd_div_gcd k0
  have p4 : Nat.Coprime (c / Nat.gcd c b) (d / Nat.gcd a d) :=
    Nat.Coprime.coprime_dvd_left (Nat.div_dvd_of_dvd (Nat.gcd_dvd_left c b)) (Nat.Coprime.coprime_dvd_right (Nat.div_dvd_of_dvd (Nat.gcd_dvd_right a d)) hcd)
  exact mkQ_of (Nat.mul_pos g0 k0) (Nat.Coprime.mul_left (Nat.Coprime.mul_right p1 p2) (Nat.Coprime.mul_right p3 p4))

def negB (a : Int) : Bool := decide (a < 0)
/-- the product of two that may be: over, if one is over -/
def mulQ (p q : Int × Int) : Int × Int := if sureB p.1 p.2 && sureB q.1 q.2 then mkQ (negB p.1 != negB q.1) (p.1.natAbs * q.1.natAbs) (p.2.natAbs * q.2.natAbs) else (0, 0)
/-- the quotient -/
def divQ (p q : Int × Int) : Int × Int := if sureB p.1 p.2 && (sureB q.1 q.2 && decide (q.1 ≠ 0)) then mkQ (negB p.1 != negB q.1) (p.1.natAbs * q.2.natAbs) (p.2.natAbs * q.1.natAbs) else (0, 0)
theorem mulQ_bd (p q : Int × Int) : I64 (mulQ p q).1 ∧ I64 (mulQ p q).2 := by unfold mulQ; split; exact mkQ_bd _ _ _; simp [I64]
theorem divQ_bd (p q : Int × Int) : I64 (divQ p q).1 ∧ I64 (divQ p q).2 := by unfold divQ; split; exact mkQ_bd _ _ _; simp [I64]
theorem mulQ_may (p q : Int × Int) : mayB (mulQ p q).1 (mulQ p q).2 = true := by unfold mulQ; split; exact mkQ_may _ _ _; rfl
theorem divQ_may (p q : Int × Int) : mayB (divQ p q).1 (divQ p q).2 = true := by unfold divQ; split; exact mkQ_may _ _ _; rfl
/-- a quotient is the product by what is turned over -/
def turnQ (q : Int × Int) : Int × Int := if q.1 < 0 then (-q.2, -q.1) else (q.2, q.1)
theorem turn_sure {c d : Int} (h : sureB c d = true) (hd : d ≤ 9223372036854775807) (h0 : c ≠ 0) : sureB (turnQ (c, d)).1 (turnQ (c, d)).2 = true := by
  have hg := sure_gcd h
  have hy := sureB_yes h
  unfold turnQ
  split
  · exact sureB_of (by simp at *; omega) (by simp at *; omega) (by simp [Int.gcd]; rw [Nat.gcd_comm]; exact hg)
  · exact sureB_of (by simp at *; omega) (by simp at *; omega) (by simp [Int.gcd]; rw [Nat.gcd_comm]; exact hg)
theorem div_turn {a b c d : Int} (h : sureB c d = true) (hd : d ≤ 9223372036854775807) (h0 : c ≠ 0) : divQ (a, b) (c, d) = mulQ (a, b) (turnQ (c, d)) := by
  unfold divQ mulQ
  rw [turn_sure h hd h0, h]
  simp only [ne_eq, h0, not_false_eq_true, decide_true, Bool.true_and, Bool.and_true]
  have hy := sureB_yes h
  by_cases hc : c < 0
  · have e1 : turnQ (c, d) = (-d, -c) := by unfold turnQ; exact if_pos hc
    have e2 : negB (-d) = negB c := by unfold negB; simp [hc]; omega
    rw [e1]; simp only [e2, Int.natAbs_neg]
  · have e1 : turnQ (c, d) = (d, c) := by unfold turnQ; exact if_neg hc
    have e2 : negB d = negB c := by unfold negB; simp; omega
    rw [e1]; simp only [e2]
end Go
