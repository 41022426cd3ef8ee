/- PLAIN ARITHMETIC: fractions in lowest terms; products and quotients of two. No condition; no program. -/
import Derived.Test.YtkmpnkgelaaebaaDoorWP
set_option linter.unusedSimpArgs false
set_option linter.unusedVariables false
namespace Go
open Go.RowKit

/-- a fraction by its sign and sizes; over, if they are too great -/
def madeQ (neg : Bool) (n d : Nat) : Int × Int :=
  if 9223372036854775807 < n ∨ 9223372036854775807 < d ∨ d = 0 then (0, 0) else (if neg then -(n : Int) else n, d)
/-- n over d in lowest terms -/
def mkQ (neg : Bool) (n d : Nat) : Int × Int := madeQ neg (n / Nat.gcd n d) (d / Nat.gcd n d)
abbrev ratV (p : Int × Int) : Value := .agg #[.int .i64 p.1, .int .i64 p.2]
theorem madeQ_bd (neg : Bool) (n d : Nat) : I64 (madeQ neg n d).1 ∧ I64 (madeQ neg n d).2 := by
  unfold madeQ I64; split
  · simp
  · cases neg <;> simp <;> omega
theorem madeQ_sure {neg : Bool} {n d : Nat} (h : Nat.gcd n d = 1) : madeQ neg n d = (0, 0) ∨ sureB (madeQ neg n d).1 (madeQ neg n d).2 = true := by
  unfold madeQ; split
  · exact .inl rfl
  · rename_i hc
    refine .inr (sureB_of (by simp; omega) ?_ ?_)
    · cases neg <;> simp <;> omega
    · cases neg <;> simp [Int.gcd, h]
theorem mkQ_bd (neg : Bool) (n d : Nat) : I64 (mkQ neg n d).1 ∧ I64 (mkQ neg n d).2 := madeQ_bd _ _ _
theorem mkQ_zero (neg : Bool) {d : Nat} (h : 0 < d) : mkQ neg 0 d = (0, 1) := by
  unfold mkQ madeQ
  rw [Nat.gcd_zero_left, Nat.div_self h, Nat.zero_div, if_neg (by omega)]
  cases neg <;> rfl
theorem mkQ_none (neg : Bool) {n : Nat} : mkQ neg n 0 = (0, 0) := by
  unfold mkQ madeQ; rw [Nat.gcd_zero_right, Nat.zero_div, if_pos (by omega)]
theorem mkQ_sure {neg : Bool} {n d : Nat} : mkQ neg n d = (0, 0) ∨ sureB (mkQ neg n d).1 (mkQ neg n d).2 = true := by
  by_cases h : 0 < Nat.gcd n d
  · exact madeQ_sure (Nat.coprime_div_gcd_div_gcd h)
  · have : d = 0 := by have := Nat.eq_zero_of_gcd_eq_zero_right (m := n) (n := d) (by omega); exact this
    subst this; exact .inl (mkQ_none _)
theorem mkQ_may (neg : Bool) (n d : Nat) : mayB (mkQ neg n d).1 (mkQ neg n d).2 = true := by
  rcases @mkQ_sure neg n d with h | h
  · rw [h]; rfl
  · unfold mayB; rw [h]; simp
/-- lowest terms are found whatever is divided out, if the rest has no divisor -/
theorem mkQ_of {neg : Bool} {n d g : Nat} (hg : 0 < g) (h : Nat.gcd n d = 1) : mkQ neg (n * g) (d * g) = madeQ neg n d := by
  unfold mkQ
  rw [Nat.gcd_mul_right, h, Nat.one_mul, Nat.mul_div_cancel _ hg, Nat.mul_div_cancel _ hg]
theorem sure_gcd {a b : Int} (h : sureB a b = true) : Nat.gcd a.natAbs b.natAbs = 1 := by
  simp only [sureB, Bool.and_eq_true, beq_iff_eq] at h
  have := h.2.2; unfold Int.gcd at this; omega
/-- the product, crosswise -/
theorem times_law {neg : Bool} {a b c d : Nat} (hb : 0 < b) (hd : 0 < d) (h1 : Nat.gcd a b = 1) (h2 : Nat.gcd c d = 1) :
    mkQ neg (a * c) (b * d) = madeQ neg (a / Nat.gcd a d * (c / Nat.gcd c b)) (b / Nat.gcd c b * (d / Nat.gcd a d)) := by
  have g0 : 0 < Nat.gcd a d := Nat.gcd_pos_of_pos_right _ hd
  have k0 : 0 < Nat.gcd c b := Nat.gcd_pos_of_pos_right _ hb
  have e1 : a * c = a / Nat.gcd a d * (c / Nat.gcd c b) * (Nat.gcd a d * Nat.gcd c b) := by
    have x1 := Nat.div_mul_cancel (Nat.gcd_dvd_left a d); have x2 := Nat.div_mul_cancel (Nat.gcd_dvd_left c b)
    rw [Nat.mul_mul_mul_comm, x1, x2]
  have e2 : b * d = b / Nat.gcd c b * (d / Nat.gcd a d) * (Nat.gcd a d * Nat.gcd c b) := by
    have x1 := Nat.div_mul_cancel (Nat.gcd_dvd_right a d); have x2 := Nat.div_mul_cancel (Nat.gcd_dvd_right c b)
    rw [Nat.mul_comm (Nat.gcd a d), Nat.mul_mul_mul_comm, x1, x2]
  rw [e1, e2]
  have hab : Nat.Coprime a b := h1
  have hcd : Nat.Coprime c d := h2
  have p1 : Nat.Coprime (a / Nat.gcd a d) (b / Nat.gcd c b) :=
    Nat.Coprime.coprime_dvd_left (Nat.div_dvd_of_dvd (Nat.gcd_dvd_left a d)) (Nat.Coprime.coprime_dvd_right (Nat.div_dvd_of_dvd (Nat.gcd_dvd_right c b)) hab)
  have p2 : Nat.Coprime (a / Nat.gcd a d) (d / Nat.gcd a d) := Nat.coprime_div_gcd_div_gcd g0
  have p3 : Nat.Coprime (c / Nat.gcd c b) (b / Nat.gcd c b) := Nat.coprime_div_gcd_div_gcd k0
  have p4 : Nat.Coprime (c / Nat.gcd c b) (d / Nat.gcd a d) :=
    Nat.Coprime.coprime_dvd_left (Nat.div_dvd_of_dvd (Nat.gcd_dvd_left c b)) (Nat.Coprime.coprime_dvd_right (Nat.div_dvd_of_dvd (Nat.gcd_dvd_right a d)) hcd)
  exact mkQ_of (Nat.mul_pos g0 k0) (Nat.Coprime.mul_left (Nat.Coprime.mul_right p1 p2) (Nat.Coprime.mul_right p3 p4))

def negB (a : Int) : Bool := decide (a < 0)
/-- the product of two that may be: over, if one is over -/
def mulQ (p q : Int × Int) : Int × Int := if sureB p.1 p.2 && sureB q.1 q.2 then mkQ (negB p.1 != negB q.1) (p.1.natAbs * q.1.natAbs) (p.2.natAbs * q.2.natAbs) else (0, 0)
/-- the quotient -/
def divQ (p q : Int × Int) : Int × Int := if sureB p.1 p.2 && (sureB q.1 q.2 && decide (q.1 ≠ 0)) then mkQ (negB p.1 != negB q.1) (p.1.natAbs * q.2.natAbs) (p.2.natAbs * q.1.natAbs) else (0, 0)
theorem mulQ_bd (p q : Int × Int) : I64 (mulQ p q).1 ∧ I64 (mulQ p q).2 := by unfold mulQ; split; exact mkQ_bd _ _ _; simp [I64]
theorem divQ_bd (p q : Int × Int) : I64 (divQ p q).1 ∧ I64 (divQ p q).2 := by unfold divQ; split; exact mkQ_bd _ _ _; simp [I64]
theorem mulQ_may (p q : Int × Int) : mayB (mulQ p q).1 (mulQ p q).2 = true := by unfold mulQ; split; exact mkQ_may _ _ _; rfl
theorem divQ_may (p q : Int × Int) : mayB (divQ p q).1 (divQ p q).2 = true := by unfold divQ; split; exact mkQ_may _ _ _; rfl
/-- a quotient is the product by what is turned over -/
def turnQ (q : Int × Int) : Int × Int := if q.1 < 0 then (-q.2, -q.1) else (q.2, q.1)
theorem turn_sure {c d : Int} (h : sureB c d = true) (hd : d ≤ 9223372036854775807) (h0 : c ≠ 0) : sureB (turnQ (c, d)).1 (turnQ (c, d)).2 = true := by
  have hg := sure_gcd h
  have hy := sureB_yes h
  unfold turnQ
  split
  · exact sureB_of (by simp at *; omega) (by simp at *; omega) (by simp [Int.gcd]; rw [Nat.gcd_comm]; exact hg)
  · exact sureB_of (by simp at *; omega) (by simp at *; omega) (by simp [Int.gcd]; rw [Nat.gcd_comm]; exact hg)
theorem div_turn {a b c d : Int} (h : sureB c d = true) (hd : d ≤ 9223372036854775807) (h0 : c ≠ 0) : divQ (a, b) (c, d) = mulQ (a, b) (turnQ (c, d)) := by
  unfold divQ mulQ
  rw [turn_sure h hd h0, h]
  simp only [ne_eq, h0, not_false_eq_true, decide_true, Bool.true_and, Bool.and_true]
  have hy := sureB_yes h
  by_cases hc : c < 0
  · have e1 : turnQ (c, d) = (-d, -c) := by unfold turnQ; exact if_pos hc
    have e2 : negB (-d) = negB c := by unfold negB; simp [hc]; omega
    rw [e1]; simp only [e2, Int.natAbs_neg]
  · have e1 : turnQ (c, d) = (d, c) := by unfold turnQ; exact if_neg hc
    have e2 : negB d = negB c := by unfold negB; simp; omega
    rw [e1]; simp only [e2]
end Go
