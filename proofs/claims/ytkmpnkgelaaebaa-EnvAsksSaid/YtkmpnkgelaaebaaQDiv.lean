/- WALKS over jalousieref1 and rat: quotients and products of two. No condition but that numbers are of their kinds. -/
import Derived.Test.YtkmpnkgelaaebaaMade
set_option linter.unusedSimpArgs false
set_option linter.unusedVariables false
namespace Go.Proofs.Ytkmpnkgelaaebaa
open Go.RowKit

theorem mul_endW {x y : Nat} (hx : x ≤ 9223372036854775808) (hy : y ≤ 9223372036854775808) : x * y ≤ 85070591730234615865843651857942052864 := Nat.mul_le_mul hx hy

theorem refMulW_any (x y : Nat) (hx : x < 18446744073709551616) (hy : y < 18446744073709551616) (w : World) : Calls Try.prog 59 #[.int .u64 x, .int .u64 y] w (Gives w (valW (x * y))) := refMul_any x y hx hy w

set_option maxRecDepth 100000 in
set_option maxHeartbeats 4000000 in
theorem refDivQ_any (a b c d : Int) (w : World) (wa : I64 a) (wb : I64 b) (wc : I64 c) (wd : I64 d) :
    Calls Try.prog 38 #[.agg #[.int .i64 a, .int .i64 b], .agg #[.int .i64 c, .int .i64 d]] w (Gives w (ratV (divQ (a, b) (c, d)))) := by
  have s1 := fun w => refIs_any a b w wa.1 wa.2 wb.1 wb.2
  have s2 := fun w => refIs_any c d w wc.1 wc.2 wd.1 wd.2
  unfold divQ
  simp only
  cases t1 : sureB a b with
  | false =>
    rw [t1] at s1
    have S1 := Lib.hid s1; clear s1 s2 t1
    simp only [Bool.false_and, Bool.false_eq_true, if_false]
    go_enter Try.func38, Try.ntmps38
    go_wp2_with (first | (go_at_call 58; (with_reducible refine (S1.out _).mono ?_); rintro e w1 ⟨rfl, x1, rfl⟩) | (go_at_call 62; (with_reducible refine (refOver_any _).mono ?_); rintro e w1 ⟨rfl, x1, rfl⟩) | ((with_reducible show bodyPost _ _ _ _ _ _); exact ret_23 rfl rfl (by simp [go_sem]) rfl ⟨by simp [go_sem], (by repeat (first | exact World.grows.refl | apply World.grows.plus | apply World.grows.alloc | apply World.grows.drew))⟩))
  | true =>
    cases t2 : sureB c d with
    | false =>
      rw [t1] at s1; rw [t2] at s2
      have S1 := Lib.hid s1; have S2 := Lib.hid s2; clear s1 s2 t1 t2
      simp only [Bool.true_and, Bool.false_and, Bool.false_eq_true, if_false]
      go_enter Try.func38, Try.ntmps38
      go_wp2_with (first | (go_at_call 58; (with_reducible refine (S1.out _).mono ?_); rintro e w1 ⟨rfl, x1, rfl⟩) | (go_at_call 58; (with_reducible refine (S2.out _).mono ?_); rintro e w1 ⟨rfl, x1, rfl⟩) | (go_at_call 62; (with_reducible refine (refOver_any _).mono ?_); rintro e w1 ⟨rfl, x1, rfl⟩) | ((with_reducible show bodyPost _ _ _ _ _ _); exact ret_23 rfl rfl (by simp [go_sem]) rfl ⟨by simp [go_sem], (by repeat (first | exact World.grows.refl | apply World.grows.plus | apply World.grows.alloc | apply World.grows.drew))⟩))
    | true =>
      have hb := (sureB_yes t1).1
      have hd := (sureB_yes t2).1
      rw [t1] at s1; rw [t2] at s2
      have S1 := Lib.hid s1; have S2 := Lib.hid s2; clear s1 s2 t1 t2
      by_cases hc : c = 0
      · subst hc
        simp only [Bool.true_and, ne_eq, not_true_eq_false, decide_false, Bool.false_eq_true, if_false]
        go_enter Try.func38, Try.ntmps38
        go_wp2_with (first | (go_at_call 58; (with_reducible refine (S1.out _).mono ?_); rintro e w1 ⟨rfl, x1, rfl⟩) | (go_at_call 58; (with_reducible refine (S2.out _).mono ?_); rintro e w1 ⟨rfl, x1, rfl⟩) | (go_at_call 62; (with_reducible refine (refOver_any _).mono ?_); rintro e w1 ⟨rfl, x1, rfl⟩) | ((with_reducible show bodyPost _ _ _ _ _ _); exact ret_23 rfl rfl (by simp [go_sem]) rfl ⟨by simp [go_sem], (by repeat (first | exact World.grows.refl | apply World.grows.plus | apply World.grows.alloc | apply World.grows.drew))⟩))
      · simp only [Bool.true_and, ne_eq, hc, not_false_eq_true, decide_true, if_true]
        have hc0 : (c == 0) = false := by simpa using hc
        have n1 := fun w => mag_any a w wa.1 wa.2
        have n2 := fun w => mag_any c w wc.1 wc.2
        have ub : IntKind.u64.wrap b = (b.natAbs : Int) := by rw [IntWalk.u64_in _ ⟨by omega, by have := wb.2; omega⟩]; omega
        have ud : IntKind.u64.wrap d = (d.natAbs : Int) := by rw [IntWalk.u64_in _ ⟨by omega, by have := wd.2; omega⟩]; omega
        have m1 := fun w => refMulW_any a.natAbs d.natAbs (by have := wa.1; have := wa.2; omega) (by have := wd.2; omega) w
        have m2 := fun w => refMulW_any b.natAbs c.natAbs (by have := wb.2; omega) (by have := wc.1; have := wc.2; omega) w
        have l1 : a.natAbs * d.natAbs ≤ 85070591730234615865843651857942052864 := mul_endW (by have := wa.1; have := wa.2; omega) (by have := wd.2; omega)
        have l2 : b.natAbs * c.natAbs ≤ 85070591730234615865843651857942052864 := mul_endW (by have := wb.2; omega) (by have := wc.1; have := wc.2; omega)
        have k1 := fun w => refMade_any (negB a != negB c) (a.natAbs * d.natAbs) (b.natAbs * c.natAbs) (by unfold endW; omega) (by unfold endW; omega) w
        have na : negB a = decide (a < 0) := rfl
        have nc : negB c = decide (c < 0) := rfl
        rw [na, nc] at k1 ⊢
        generalize a.natAbs * d.natAbs = N at *
        generalize b.natAbs * c.natAbs = D at *
        generalize mkQ (decide (a < 0) != decide (c < 0)) N D = R at *
        change ∀ w, Calls _ _ #[.bool (!(decide (a < 0) == decide (c < 0))), _, _] w _ at k1
        have U1 := Lib.hid (fun (w : World) => n1 w); have U2 := Lib.hid (fun (w : World) => n2 w)
        have M1 := Lib.hid m1; have M2 := Lib.hid m2; have K1 := Lib.hid k1
        clear n1 n2 m1 m2 k1 wa wb wc wd l1 l2 na nc hc
        go_enter Try.func38, Try.ntmps38
        go_wp2_with (first | (go_at_call 58; (with_reducible refine (S1.out _).mono ?_); rintro e w1 ⟨rfl, x1, rfl⟩) | (go_at_call 58; (with_reducible refine (S2.out _).mono ?_); rintro e w1 ⟨rfl, x1, rfl⟩))
        refine wp_region_plus_tail 22 (by kernel_rfl) (by kernel_rfl) ?_
        simp only [List.take_succ_cons, List.take_zero, List.drop_succ_cons, List.drop_zero]
        repeat (go_big_quiet_step (first | (go_at_call 60; (with_reducible exact Calls.plus_of (gives_same (U1.out _)))) | (go_at_call 60; (with_reducible exact Calls.plus_of (gives_same (U2.out _)))) | (go_at_call 59; (with_reducible exact Calls.plus_of (M1.out _))) | (go_at_call 59; (with_reducible exact Calls.plus_of (M2.out _))) | (go_at_call 63; (with_reducible exact Calls.plus_of (K1.out _)))))
        refine wpQuiet_nil ?_; intro _ hw'; obtain ⟨xq, hw''⟩ := hw'; subst hw''
        go_wp2_with (first | ((with_reducible show bodyPost _ _ _ _ _ _); exact ret_23 rfl rfl (by simp [go_sem]) rfl ⟨by simp [go_sem], (by repeat (first | exact World.grows.refl | apply World.grows.plus | apply World.grows.alloc | apply World.grows.drew))⟩))

set_option maxRecDepth 100000 in
set_option maxHeartbeats 4000000 in
theorem ratMade_any (neg : Bool) (n d : Nat) (hn : n < 18446744073709551616) (hd : d < 18446744073709551616) (w : World) : Calls Try.prog 89 #[.bool neg, .int .u64 n, .int .u64 d] w (Gives w (ratV (madeQ neg n d))) := by
  unfold madeQ
  by_cases h1 : 9223372036854775807 < n
  · rw [if_pos (by omega)]
    have h1' : (9223372036854775807 : Int) < n := by omega
    clear h1 hn hd
    go_enter Try.func89, Try.ntmps89
    go_wp2_with (first | ((with_reducible show bodyPost _ _ _ _ _ _); exact ret_23 rfl rfl (by simp [go_sem]) rfl ⟨by simp [go_sem], (by repeat (first | exact World.grows.refl | apply World.grows.plus | apply World.grows.alloc | apply World.grows.drew))⟩))
  · by_cases h2 : 9223372036854775807 < d
    · rw [if_pos (by omega)]
      have h1' : decide ((9223372036854775807 : Int) < n) = false := by simp; omega
      have h2' : (9223372036854775807 : Int) < d := by omega
      clear h1 h2 hn hd
      go_enter Try.func89, Try.ntmps89
      go_wp2_with (first | ((with_reducible show bodyPost _ _ _ _ _ _); exact ret_23 rfl rfl (by simp [go_sem]) rfl ⟨by simp [go_sem], (by repeat (first | exact World.grows.refl | apply World.grows.plus | apply World.grows.alloc | apply World.grows.drew))⟩))
    · by_cases h3 : d = 0
      · rw [if_pos (by omega)]; subst h3
        have h1' : decide ((9223372036854775807 : Int) < n) = false := by simp; omega
        clear h1 h2 hn hd
        go_enter Try.func89, Try.ntmps89
        go_wp2_with (first | ((with_reducible show bodyPost _ _ _ _ _ _); exact ret_23 rfl rfl (by simp [go_sem]) rfl ⟨by simp [go_sem], (by repeat (first | exact World.grows.refl | apply World.grows.plus | apply World.grows.alloc | apply World.grows.drew))⟩))
      · rw [if_neg (by omega)]
        have a1 : (0 : Int) ≤ n := by omega
        have a2 : (n : Int) ≤ 9223372036854775807 := by omega
        have b1 : (0 : Int) < d := by omega
        have b2 : (d : Int) ≤ 9223372036854775807 := by omega
        have b3 : ((d : Int) == 0) = false := by simp; omega
        have b4 : decide ((9223372036854775807 : Int) < d) = false := by simp; omega
        have b5 : decide ((9223372036854775807 : Int) < n) = false := by simp; omega
        generalize (n : Int) = X at *
        generalize (d : Int) = Y at *
        clear h1 h2 h3 hn hd
        cases neg
        all_goals
          go_enter Try.func89, Try.ntmps89
          go_wp2_with (first | ((with_reducible show bodyPost _ _ _ _ _ _); exact ret_23 rfl rfl (by simp [go_sem]) rfl ⟨by simp [go_sem], (by repeat (first | exact World.grows.refl | apply World.grows.plus | apply World.grows.alloc | apply World.grows.drew))⟩))

end Go.Proofs.Ytkmpnkgelaaebaa
