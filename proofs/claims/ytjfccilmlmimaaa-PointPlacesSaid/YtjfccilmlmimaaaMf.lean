/- Texts of the walk, one after the other; what each proves stands ahead of it. -/
import Derived.Test.YtjfccilmlmimaaaMb
import Derived.Test.YtjfccilmlmimaaaMe
set_option linter.unusedSimpArgs false
set_option linter.unusedVariables false
/- WALKS over jalousieref1: fractions in lowest terms, the quotient of two. No condition but that numbers are of their kinds and sizes. -/
namespace Go
theorem mkQ_over {neg : Bool} {n d : Nat} (h : 9223372036854775807 < n / Nat.gcd n d ∨ 9223372036854775807 < d / Nat.gcd n d) : mkQ neg n d = (0, 0) := by
  unfold mkQ madeQ; rw [if_pos (by omega)]
theorem mkQ_in {neg : Bool} {n d : Nat} (h1 : n / Nat.gcd n d ≤ 9223372036854775807) (h2 : d / Nat.gcd n d ≤ 9223372036854775807) (hd : 0 < d) : mkQ neg n d = (if neg then -((n / Nat.gcd n d : Nat) : Int) else (n / Nat.gcd n d : Nat), ((d / Nat.gcd n d : Nat) : Int)) := by
  have : 0 < d / Nat.gcd n d := Nat.div_pos (Nat.gcd_le_right _ hd) (Nat.gcd_pos_of_pos_right _ hd)
  unfold mkQ madeQ; rw [if_neg (by omega)]
theorem hiW_small {x : Nat} (h : x ≤ 9223372036854775807) : hiW x = 0 := by unfold hiW; omega
theorem loW_small {x : Nat} (h : x ≤ 9223372036854775807) : loW x = (x : Int) := by unfold loW; omega
theorem big_cases {x : Nat} (h : 9223372036854775807 < x) : 0 < hiW x ∨ hiW x = 0 ∧ 9223372036854775807 < loW x := by unfold hiW loW; omega
end Go
namespace Go.Proofs.Ytjfccilmlmimaaa
open Go.RowKit
end Go.Proofs.Ytjfccilmlmimaaa

/- WALKS over jalousieref1 and rat: quotients and products of two. No condition but that numbers are of their kinds. -/
namespace Go.Proofs.Ytjfccilmlmimaaa
open Go.RowKit

theorem mul_endW {x y : Nat} (hx : x ≤ 9223372036854775808) (hy : y ≤ 9223372036854775808) : x * y ≤ 85070591730234615865843651857942052864 := Nat.mul_le_mul hx hy

theorem refMulW_any (x y : Nat) (hx : x < 18446744073709551616) (hy : y < 18446744073709551616) (w : World) : Calls Try.prog 34 #[.int .u64 x, .int .u64 y] w (Gives w (valW (x * y))) := refMul_any x y hx hy w

end Go.Proofs.Ytjfccilmlmimaaa
