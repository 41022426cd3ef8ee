/- WALKS over jalousieref1: numbers of 128 bits. No condition but that numbers are of their kinds. -/
import Derived.Test.YtkmpnkgelaaebaaWP
import Derived.Test.YtkmpnkgelaaebaaCmp
import Derived.Shelf.Spec.BitsCarry
set_option linter.unusedSimpArgs false
set_option linter.unusedVariables false
namespace Go.Proofs.Ytkmpnkgelaaebaa
open Go.RowKit

set_option maxRecDepth 100000 in
theorem half_any (x : Nat) (hx : x < endW) (w : World) : Calls Try.prog 86 #[valW x] w (Gives w (valW (x / 2))) := by
  have b1 := hiW_bd hx; have b2 := loW_bd x
  have e1 := hi_half x; have e2 := lo_half hx
  unfold valW
  generalize hiW x = p at *; generalize loW x = q at *
  have E1 := Lib.hid e1; have E2 := Lib.hid e2; clear e1 e2
  rw [← E1.out, ← E2.out]
  go_enter Try.func86, Try.ntmps86
  go_wp2_with (first | ((with_reducible show bodyPost _ _ _ _ _ _); exact ret_83 rfl rfl (by simp [go_sem]) rfl ⟨by simp [go_sem], (by repeat (first | exact World.grows.refl | apply World.grows.plus | apply World.grows.alloc | apply World.grows.drew))⟩))

set_option maxRecDepth 100000 in
theorem twice_any (x : Nat) (hx : x < endW) (w : World) : Calls Try.prog 88 #[valW x] w (Gives w (valW (2 * x % endW))) := by
  have b1 := hiW_bd hx; have b2 := loW_bd x
  have e1 := hi_twice hx; have e2 := lo_twice x
  unfold valW
  generalize hiW x = p at *; generalize loW x = q at *
  have E1 := Lib.hid e1; have E2 := Lib.hid e2; clear e1 e2
  rw [← E1.out, ← E2.out]
  go_enter Try.func88, Try.ntmps88
  go_wp2_with (first | ((with_reducible show bodyPost _ _ _ _ _ _); exact ret_83 rfl rfl (by simp [go_sem]) rfl ⟨by simp [go_sem], (by repeat (first | exact World.grows.refl | apply World.grows.plus | apply World.grows.alloc | apply World.grows.drew))⟩))

set_option maxRecDepth 100000 in
theorem none_any (x : Nat) (w : World) : Calls Try.prog 78 #[valW x] w (Gives w (.bool (decide (x = 0)))) := by
  have e1 := @none_iff x
  unfold valW
  generalize hiW x = p at *; generalize loW x = q at *
  have E1 := Lib.hid e1; clear e1
  go_enter Try.func78, Try.ntmps78
  go_wp2_with fail
  all_goals (go_ret; exact ⟨ret_bool (by rw [Bool.eq_iff_iff]; simp [← E1.out, *]), (by repeat (first | exact World.grows.refl | apply World.grows.plus | apply World.grows.alloc | apply World.grows.drew))⟩)

theorem run_sub64 (x y b : Nat) (hb : b ≤ 1) (w : World) :
    (callFunc 90 #[.int .u64 x, .int .u64 y, .int .u64 b]).run Try.prog w =
      .ok (.value (.tuple #[.int .u64 (((x + 18446744073709551616 - y - b) % 18446744073709551616 : Nat) : Int), .int .u64 ((if x < y + b then 1 else 0 : Nat) : Int)])) w := by
  rw [run_callFunc_extern Try.func90 (by kernel_rfl) (by kernel_rfl) (by kernel_rfl) (e := sub64Entry) (by kernel_rfl), Go.Proofs.run_sub64 x y b hb]
  rfl

set_option maxRecDepth 100000 in
theorem sub_any (x y : Nat) (hx : x < endW) (hy : y < endW) (w : World) : Calls Try.prog 87 #[valW x, valW y] w (Gives w (valW ((x + endW - y % endW) % endW))) := by
  have r1 := fun w => run_sub64 (x % 18446744073709551616) (y % 18446744073709551616) 0 (by omega) w
  have r2 := fun w => run_sub64 (x / 18446744073709551616) (y / 18446744073709551616) (if x % 18446744073709551616 < y % 18446744073709551616 + 0 then 1 else 0) (by split <;> omega) w
  rw [subLo] at r1; rw [subHi x y hx hy] at r2
  change ∀ w, (callFunc _ #[.int .u64 (loW x), .int .u64 (loW y), .int .u64 0]).run _ w = _ at r1
  change ∀ w, (callFunc _ #[.int .u64 (hiW x), .int .u64 (hiW y), _]).run _ w = _ at r2
  unfold valW
  generalize hiW x = p at *; generalize loW x = q at *; generalize hiW y = r at *; generalize loW y = s at *
  generalize hiW ((x + endW - y % endW) % endW) = t at *; generalize loW ((x + endW - y % endW) % endW) = u at *
  generalize ((if x % 18446744073709551616 < y % 18446744073709551616 + 0 then 1 else 0 : Nat) : Int) = c at *
  go_enter Try.func87, Try.ntmps87
  go_wp2_with (first | ((with_reducible show bodyPost _ _ _ _ _ _); exact ret_83 rfl rfl (by simp [go_sem]) rfl ⟨by simp [go_sem], (by repeat (first | exact World.grows.refl | apply World.grows.plus | apply World.grows.alloc | apply World.grows.drew))⟩))

set_option maxRecDepth 100000 in
theorem less_any (x y : Nat) (w : World) : Calls Try.prog 61 #[valW x, valW y] w (Gives w (.bool (decide (x < y)))) := by
  refine (refLess_any _ _ _ _ _).mono ?_
  rintro e w' ⟨rfl, h⟩
  exact ⟨ret_bool (by have := less_iff x y; rw [Bool.eq_iff_iff]; simp [lessH, ← this]), h⟩

end Go.Proofs.Ytkmpnkgelaaebaa
