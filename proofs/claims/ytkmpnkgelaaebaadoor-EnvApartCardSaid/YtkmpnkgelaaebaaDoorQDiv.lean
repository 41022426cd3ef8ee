/- WALKS over jalousieref1 and rat: quotients and products of two. No condition but that numbers are of their kinds. -/
import Derived.Test.YtkmpnkgelaaebaaDoorMade
set_option linter.unusedSimpArgs false
set_option linter.unusedVariables false
namespace Go.Proofs.YtkmpnkgelaaebaaDoor
open Go.RowKit

theorem mul_endW {x y : Nat} (hx : x ≤ 9223372036854775808) (hy : y ≤ 9223372036854775808) : x * y ≤ 85070591730234615865843651857942052864 := Nat.mul_le_mul hx hy

set_option maxRecDepth 100000 in
set_option maxHeartbeats 4000000 in
theorem ratMade_any (neg : Bool) (n d : Nat) (hn : n < 18446744073709551616) (hd : d < 18446744073709551616) (w : World) : Calls Tryd.prog 39 #[.bool neg, .int .u64 n, .int .u64 d] w (Gives w (ratV (madeQ neg n d))) := by
  unfold madeQ
  by_cases h1 : 9223372036854775807 < n
  · rw [if_pos (by omega)]
    have h1' : (9223372036854775807 : Int) < n := by omega
    clear h1 hn hd
    go_enter Tryd.func39, Tryd.ntmps39
    go_wp2_with (first | ((with_reducible show bodyPost _ _ _ _ _ _); exact ret_23 rfl rfl (by simp [go_sem]) rfl ⟨by simp [go_sem], (by repeat (first | exact World.grows.refl | apply World.grows.plus | apply World.grows.alloc | apply World.grows.drew))⟩))
  · by_cases h2 : 9223372036854775807 < d
    · rw [if_pos (by omega)]
      have h1' : decide ((9223372036854775807 : Int) < n) = false := by simp; omega
      have h2' : (9223372036854775807 : Int) < d := by omega
      clear h1 h2 hn hd
      go_enter Tryd.func39, Tryd.ntmps39
      go_wp2_with (first | ((with_reducible show bodyPost _ _ _ _ _ _); exact ret_23 rfl rfl (by simp [go_sem]) rfl ⟨by simp [go_sem], (by repeat (first | exact World.grows.refl | apply World.grows.plus | apply World.grows.alloc | apply World.grows.drew))⟩))
    · by_cases h3 : d = 0
      · rw [if_pos (by omega)]; subst h3
        have h1' : decide ((9223372036854775807 : Int) < n) = false := by simp; omega
        clear h1 h2 hn hd
        go_enter Tryd.func39, Tryd.ntmps39
        go_wp2_with (first | ((with_reducible show bodyPost _ _ _ _ _ _); exact ret_23 rfl rfl (by simp [go_sem]) rfl ⟨by simp [go_sem], (by repeat (first | exact World.grows.refl | apply World.grows.plus | apply World.grows.alloc | apply World.grows.drew))⟩))
      · rw [if_neg (by omega)]
        have a1 : (0 : Int) ≤ n := by omega
        have a2 : (n : Int) ≤ 9223372036854775807 := by omega
        have b1 : (0 : Int) < d := by omega
        have b2 : (d : Int) ≤ 9223372036854775807 := by omega
        have b3 : ((d : Int) == 0) = false := by simp; omega
        have b4 : decide ((9223372036854775807 : Int) < d) = false := by simp; omega
        have b5 : decide ((9223372036854775807 : Int) < n) = false := by simp; omega
        generalize (n : Int) = X at *
        generalize (d : Int) = Y at *
        clear h1 h2 h3 hn hd
        cases neg
        all_goals
          go_enter Tryd.func39, Tryd.ntmps39
          go_wp2_with (first | ((with_reducible show bodyPost _ _ _ _ _ _); exact ret_23 rfl rfl (by simp [go_sem]) rfl ⟨by simp [go_sem], (by repeat (first | exact World.grows.refl | apply World.grows.plus | apply World.grows.alloc | apply World.grows.drew))⟩))

end Go.Proofs.YtkmpnkgelaaebaaDoor
