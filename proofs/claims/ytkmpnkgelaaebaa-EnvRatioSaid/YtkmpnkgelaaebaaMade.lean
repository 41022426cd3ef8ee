/- WALKS over jalousieref1: fractions in lowest terms, the quotient of two. No condition but that numbers are of their kinds and sizes. -/
import Derived.Test.YtkmpnkgelaaebaaDiv
import Derived.Test.YtkmpnkgelaaebaaQP
set_option linter.unusedSimpArgs false
set_option linter.unusedVariables false
namespace Go
theorem mkQ_over {neg : Bool} {n d : Nat} (h : 9223372036854775807 < n / Nat.gcd n d ∨ 9223372036854775807 < d / Nat.gcd n d) : mkQ neg n d = (0, 0) := by
  unfold mkQ madeQ; rw [if_pos (by omega)]
theorem mkQ_in {neg : Bool} {n d : Nat} (h1 : n / Nat.gcd n d ≤ 9223372036854775807) (h2 : d / Nat.gcd n d ≤ 9223372036854775807) (hd : 0 < d) : mkQ neg n d = (if neg then -((n / Nat.gcd n d : Nat) : Int) else (n / Nat.gcd n d : Nat), ((d / Nat.gcd n d : Nat) : Int)) := by
  have : 0 < d / Nat.gcd n d := Nat.div_pos (Nat.gcd_le_right _ hd) (Nat.gcd_pos_of_pos_right _ hd)
  unfold mkQ madeQ; rw [if_neg (by omega)]
theorem hiW_small {x : Nat} (h : x ≤ 9223372036854775807) : hiW x = 0 := by unfold hiW; omega
theorem loW_small {x : Nat} (h : x ≤ 9223372036854775807) : loW x = (x : Int) := by unfold loW; omega
theorem big_cases {x : Nat} (h : 9223372036854775807 < x) : 0 < hiW x ∨ hiW x = 0 ∧ 9223372036854775807 < loW x := by unfold hiW loW; omega
end Go
namespace Go.Proofs.Ytkmpnkgelaaebaa
open Go.RowKit

set_option maxRecDepth 100000 in
set_option maxHeartbeats 4000000 in
theorem refMade_any (neg : Bool) (n d : Nat) (hn : n < endW) (hd : 2 * d ≤ endW) (w : World) : Calls Try.prog 63 #[.bool neg, valW n, valW d] w (Gives w (ratV (mkQ neg n d))) := by
  have n1 := fun w => none_any d w
  by_cases hd0 : d = 0
  · simp only [hd0, decide_true] at n1
    rw [hd0, mkQ_none]; subst hd0
    have N1 := Lib.hid n1; clear n1 hn hd
    go_enter Try.func63, Try.ntmps63
    go_wp2_with (first | (go_at_call 78; (with_reducible refine (N1.out _).mono ?_); rintro e w1 ⟨rfl, x1, rfl⟩) | (go_at_call 62; (with_reducible refine (refOver_any _).mono ?_); rintro e w1 ⟨rfl, x1, rfl⟩) | ((with_reducible show bodyPost _ _ _ _ _ _); exact ret_23 rfl rfl (by simp [go_sem]) rfl ⟨by simp [go_sem], (by repeat (first | exact World.grows.refl | apply World.grows.plus | apply World.grows.alloc | apply World.grows.drew))⟩))
  · simp only [hd0, decide_false] at n1
    have hdp : 0 < d := by omega
    have hg0 : 0 < Nat.gcd n d := Nat.gcd_pos_of_pos_right _ hdp
    have hgd : Nat.gcd n d ≤ d := Nat.gcd_le_right _ hdp
    have g1 := fun w => refGcd_any n d hn (by omega) hdp w
    have q1 := fun w => refDiv_any n (Nat.gcd n d) hn (by omega) hg0 w
    have q2 := fun w => refDiv_any d (Nat.gcd n d) (by omega) (by omega) hg0 w
    have N1 := Lib.hid n1; have G1 := Lib.hid g1; have Q1 := Lib.hid q1; have Q2 := Lib.hid q2; clear n1 g1 q1 q2 hd0 hg0 hgd
    by_cases hX : n / Nat.gcd n d ≤ 9223372036854775807
    · by_cases hY : d / Nat.gcd n d ≤ 9223372036854775807
      · rw [mkQ_in hX hY hdp]
        clear hn hd hdp
        generalize Nat.gcd n d = g at *
        generalize n / g = X at *
        generalize d / g = Y at *
        have x1 := hiW_small hX; have x2 := loW_small hX; have y1 := hiW_small hY; have y2 := loW_small hY
        have hX' : (X : Int) ≤ 9223372036854775807 := by omega
        have hY' : (Y : Int) ≤ 9223372036854775807 := by omega
        clear hX hY
        cases neg
        all_goals
          go_enter Try.func63, Try.ntmps63
          go_wp2_with (first | (go_at_call 78; (with_reducible refine (N1.out _).mono ?_); rintro e w1 ⟨rfl, x1, rfl⟩) | (go_at_call 79; (with_reducible refine (G1.out _).mono ?_); rintro e w1 ⟨rfl, x1, rfl⟩))
          refine wp_region_plus_tail 6 (by kernel_rfl) (by kernel_rfl) ?_
          simp only [List.take_succ_cons, List.take_zero, List.drop_succ_cons, List.drop_zero]
          repeat (go_big_quiet_step (first | (go_at_call 80; (with_reducible exact Calls.plus_of (Q1.out _))) | (go_at_call 80; (with_reducible exact Calls.plus_of (Q2.out _)))))
          refine wpQuiet_nil ?_; intro _ hw'; obtain ⟨xq, hw''⟩ := hw'; subst hw''
          go_wp2_with (first | ((with_reducible show bodyPost _ _ _ _ _ _); exact ret_23 rfl rfl (by simp [go_sem]) rfl ⟨by simp [go_sem], (by repeat (first | exact World.grows.refl | apply World.grows.plus | apply World.grows.alloc | apply World.grows.drew))⟩))
      · rw [mkQ_over (.inr (by omega))]
        clear hn hd hdp
        generalize Nat.gcd n d = g at *
        generalize n / g = X at *
        generalize d / g = Y at *
        have x1 := hiW_small hX; have x2 := loW_small hX
        have hX' : (X : Int) ≤ 9223372036854775807 := by omega
        have hY := big_cases (x := Y) (by omega)
        clear hX
        rcases hY with hY | ⟨hY0, hY⟩
        all_goals
          go_enter Try.func63, Try.ntmps63
          go_wp2_with (first | (go_at_call 78; (with_reducible refine (N1.out _).mono ?_); rintro e w1 ⟨rfl, x1, rfl⟩) | (go_at_call 79; (with_reducible refine (G1.out _).mono ?_); rintro e w1 ⟨rfl, x1, rfl⟩))
          refine wp_region_plus_tail 6 (by kernel_rfl) (by kernel_rfl) ?_
          simp only [List.take_succ_cons, List.take_zero, List.drop_succ_cons, List.drop_zero]
          repeat (go_big_quiet_step (first | (go_at_call 80; (with_reducible exact Calls.plus_of (Q1.out _))) | (go_at_call 80; (with_reducible exact Calls.plus_of (Q2.out _)))))
          refine wpQuiet_nil ?_; intro _ hw'; obtain ⟨xq, hw''⟩ := hw'; subst hw''
          go_wp2_with (first | (go_at_call 62; (with_reducible refine (refOver_any _).mono ?_); rintro e w1 ⟨rfl, x1, rfl⟩) | ((with_reducible show bodyPost _ _ _ _ _ _); exact ret_23 rfl rfl (by simp [go_sem]) rfl ⟨by simp [go_sem], (by repeat (first | exact World.grows.refl | apply World.grows.plus | apply World.grows.alloc | apply World.grows.drew))⟩))
    · rw [mkQ_over (.inl (by omega))]
      clear hn hd hdp
      generalize Nat.gcd n d = g at *
      generalize n / g = X at *
      generalize d / g = Y at *
      have hX := big_cases (x := X) (by omega)
      have hZ : 0 < hiW Y ∨ hiW Y = 0 := by unfold hiW; omega
      rcases hX with hX | ⟨hX0, hX⟩
      · go_enter Try.func63, Try.ntmps63
        go_wp2_with (first | (go_at_call 78; (with_reducible refine (N1.out _).mono ?_); rintro e w1 ⟨rfl, x1, rfl⟩) | (go_at_call 79; (with_reducible refine (G1.out _).mono ?_); rintro e w1 ⟨rfl, x1, rfl⟩))
        refine wp_region_plus_tail 6 (by kernel_rfl) (by kernel_rfl) ?_
        simp only [List.take_succ_cons, List.take_zero, List.drop_succ_cons, List.drop_zero]
        repeat (go_big_quiet_step (first | (go_at_call 80; (with_reducible exact Calls.plus_of (Q1.out _))) | (go_at_call 80; (with_reducible exact Calls.plus_of (Q2.out _)))))
        refine wpQuiet_nil ?_; intro _ hw'; obtain ⟨xq, hw''⟩ := hw'; subst hw''
        go_wp2_with (first | (go_at_call 62; (with_reducible refine (refOver_any _).mono ?_); rintro e w1 ⟨rfl, x1, rfl⟩) | ((with_reducible show bodyPost _ _ _ _ _ _); exact ret_23 rfl rfl (by simp [go_sem]) rfl ⟨by simp [go_sem], (by repeat (first | exact World.grows.refl | apply World.grows.plus | apply World.grows.alloc | apply World.grows.drew))⟩))
      · rcases hZ with hZ | hZ
        all_goals
          go_enter Try.func63, Try.ntmps63
          go_wp2_with (first | (go_at_call 78; (with_reducible refine (N1.out _).mono ?_); rintro e w1 ⟨rfl, x1, rfl⟩) | (go_at_call 79; (with_reducible refine (G1.out _).mono ?_); rintro e w1 ⟨rfl, x1, rfl⟩))
          refine wp_region_plus_tail 6 (by kernel_rfl) (by kernel_rfl) ?_
          simp only [List.take_succ_cons, List.take_zero, List.drop_succ_cons, List.drop_zero]
          repeat (go_big_quiet_step (first | (go_at_call 80; (with_reducible exact Calls.plus_of (Q1.out _))) | (go_at_call 80; (with_reducible exact Calls.plus_of (Q2.out _)))))
          refine wpQuiet_nil ?_; intro _ hw'; obtain ⟨xq, hw''⟩ := hw'; subst hw''
          go_wp2_with (first | (go_at_call 62; (with_reducible refine (refOver_any _).mono ?_); rintro e w1 ⟨rfl, x1, rfl⟩) | ((with_reducible show bodyPost _ _ _ _ _ _); exact ret_23 rfl rfl (by simp [go_sem]) rfl ⟨by simp [go_sem], (by repeat (first | exact World.grows.refl | apply World.grows.plus | apply World.grows.alloc | apply World.grows.drew))⟩))

end Go.Proofs.Ytkmpnkgelaaebaa
