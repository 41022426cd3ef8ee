/- WALKS over jalousieref1: fractions in lowest terms, the quotient of two. No condition but that numbers are of their kinds and sizes. -/
import Derived.Test.YtkmpnkgelaaebaaDoorDiv
import Derived.Test.YtkmpnkgelaaebaaDoorQP
set_option linter.unusedSimpArgs false
set_option linter.unusedVariables false
namespace Go
theorem mkQ_over {neg : Bool} {n d : Nat} (h : 9223372036854775807 < n / Nat.gcd n d ∨ 9223372036854775807 < d / Nat.gcd n d) : mkQ neg n d = (0, 0) := by
  unfold mkQ madeQ; rw [if_pos (by omega)]
theorem mkQ_in {neg : Bool} {n d : Nat} (h1 : n / Nat.gcd n d ≤ 9223372036854775807) (h2 : d / Nat.gcd n d ≤ 9223372036854775807) (hd : 0 < d) : mkQ neg n d = (if neg then -((n / Nat.gcd n d : Nat) : Int) else (n / Nat.gcd n d : Nat), ((d / Nat.gcd n d : Nat) : Int)) := by
  have : 0 < d / Nat.gcd n d := Nat.div_pos (Nat.gcd_le_right _ hd) (Nat.gcd_pos_of_pos_right _ hd)
  unfold mkQ madeQ; rw [if_neg (by omega)]
theorem hiW_small {x : Nat} (h : x ≤ 9223372036854775807) : hiW x = 0 := by unfold hiW; omega
theorem loW_small {x : Nat} (h : x ≤ 9223372036854775807) : loW x = (x : Int) := by unfold loW; omega
theorem big_cases {x : Nat} (h : 9223372036854775807 < x) : 0 < hiW x ∨ hiW x = 0 ∧ 9223372036854775807 < loW x := by unfold hiW loW; omega
end Go
namespace Go.Proofs.YtkmpnkgelaaebaaDoor
open Go.RowKit
end Go.Proofs.YtkmpnkgelaaebaaDoor
