/- WALKS over rat: products of two fractions. No condition but that both may be and are not over. -/
import Derived.Test.YtkmpnkgelaaebaaDoorQDiv
set_option linter.unusedSimpArgs false
set_option linter.unusedVariables false
namespace Go
theorem tdivN (a b : Nat) : Int.tdiv (a : Int) (b : Int) = ((a / b : Nat) : Int) := (Int.ofNat_tdiv a b).symm
theorem ratNat {a b : Int} (h : sureB a b = true) : (b.natAbs : Int) = b := by have := (sureB_yes h).1; omega
end Go
namespace Go.Proofs.YtkmpnkgelaaebaaDoor
open Go.RowKit

theorem gcdN_any (a b : Nat) (w : World) (ha : a < 18446744073709551616) (hb : b < 18446744073709551616) :
    Calls Tryd.prog 36 #[.int .u64 (a : Int), .int .u64 (b : Int)] w (Gives w (.int .u64 ((Nat.gcd a b : Nat) : Int))) := gives_same (gcd_any a b w (by omega) (by omega) (by omega) (by omega))

set_option maxRecDepth 100000 in
set_option maxHeartbeats 4000000 in
theorem times_any (a b c d : Int) (w : World) (wa : I64 a) (wb : I64 b) (wc : I64 c) (wd : I64 d) (h1 : sureB a b = true) (h2 : sureB c d = true) :
    Calls Tryd.prog 38 #[.agg #[.int .i64 a, .int .i64 b], .agg #[.int .i64 c, .int .i64 d]] w (Gives w (ratV (mkQ (negB a != negB c) (a.natAbs * c.natAbs) (b.natAbs * d.natAbs)))) := by
  have hb := (sureB_yes h1).1
  have hd := (sureB_yes h2).1
  by_cases ha0 : a = 0
  · subst ha0
    rw [Int.natAbs_zero, Nat.zero_mul, mkQ_zero _ (Nat.mul_pos (by omega) (by omega))]
    clear h1 h2 wa wb wc wd hb hd
    go_enter Tryd.func38, Tryd.ntmps38
    go_wp2_with (first | ((with_reducible show bodyPost _ _ _ _ _ _); exact ret_23 rfl rfl (by simp [go_sem]) rfl ⟨by simp [go_sem], (by repeat (first | exact World.grows.refl | apply World.grows.plus | apply World.grows.alloc | apply World.grows.drew))⟩))
  · have ha1 : (a == 0) = false := by simpa using ha0
    by_cases hc0 : c = 0
    · subst hc0
      rw [Int.natAbs_zero, Nat.mul_zero, mkQ_zero _ (Nat.mul_pos (by omega) (by omega))]
      clear h1 h2 wa wb wc wd hb hd
      go_enter Tryd.func38, Tryd.ntmps38
      go_wp2_with (first | ((with_reducible show bodyPost _ _ _ _ _ _); exact ret_23 rfl rfl (by simp [go_sem]) rfl ⟨by simp [go_sem], (by repeat (first | exact World.grows.refl | apply World.grows.plus | apply World.grows.alloc | apply World.grows.drew))⟩))
    · have hc1 : (c == 0) = false := by simpa using hc0
      rw [times_law (by omega) (by omega) (sure_gcd h1) (sure_gcd h2)]
      have n1 := fun w => size_any a w wa.1 wa.2
      have n2 := fun w => size_any c w wc.1 wc.2
      have ub : IntKind.u64.wrap b = (b.natAbs : Int) := by rw [IntWalk.u64_in _ ⟨by omega, by have := wb.2; omega⟩]; omega
      have ud : IntKind.u64.wrap d = (d.natAbs : Int) := by rw [IntWalk.u64_in _ ⟨by omega, by have := wd.2; omega⟩]; omega
      have ba : a.natAbs < 18446744073709551616 := by have := wa.1; have := wa.2; omega
      have bb : b.natAbs < 18446744073709551616 := by have := wb.1; have := wb.2; omega
      have bc : c.natAbs < 18446744073709551616 := by have := wc.1; have := wc.2; omega
      have bd : d.natAbs < 18446744073709551616 := by have := wd.1; have := wd.2; omega
      have g1 := fun w => gcdN_any a.natAbs d.natAbs w ba bd
      have k1 := fun w => gcdN_any c.natAbs b.natAbs w bc bb
      have hg : 0 < Nat.gcd a.natAbs d.natAbs := Nat.gcd_pos_of_pos_right _ (by omega)
      have hk : 0 < Nat.gcd c.natAbs b.natAbs := Nat.gcd_pos_of_pos_right _ (by omega)
      have na : negB a = decide (a < 0) := rfl
      have nc : negB c = decide (c < 0) := rfl
      rw [na, nc]
      have U1 := Lib.hid (fun (w : World) => n1 w); have U2 := Lib.hid (fun (w : World) => n2 w)
      generalize a.natAbs = A at *
      generalize b.natAbs = B at *
      generalize c.natAbs = C at *
      generalize d.natAbs = D at *
      generalize Nat.gcd A D = g at *
      generalize Nat.gcd C B = k at *
      have l1 : A / g ≤ A := Nat.div_le_self _ _
      have l2 : B / k ≤ B := Nat.div_le_self _ _
      have l3 : C / k ≤ C := Nat.div_le_self _ _
      have l4 : D / g ≤ D := Nat.div_le_self _ _
      have m1 := fun w => mul64_any (A / g) (C / k) (by omega) (by omega) w
      have m2 := fun w => mul64_any (B / k) (D / g) (by omega) (by omega) w
      have d1 : Int.tdiv (A : Int) (g : Int) = ((A / g : Nat) : Int) := tdivN _ _
      have d2 : Int.tdiv (C : Int) (k : Int) = ((C / k : Nat) : Int) := tdivN _ _
      have d3 : Int.tdiv (B : Int) (k : Int) = ((B / k : Nat) : Int) := tdivN _ _
      have d4 : Int.tdiv (D : Int) (g : Int) = ((D / g : Nat) : Int) := tdivN _ _
      have z1 : (g : Int) ≠ 0 := by omega
      have z2 : (k : Int) ≠ 0 := by omega
      have w1 : IntKind.u64.wrap ((A / g : Nat) : Int) = ((A / g : Nat) : Int) := wrapN _ (by omega)
      have w2 : IntKind.u64.wrap ((C / k : Nat) : Int) = ((C / k : Nat) : Int) := wrapN _ (by omega)
      have w3 : IntKind.u64.wrap ((B / k : Nat) : Int) = ((B / k : Nat) : Int) := wrapN _ (by omega)
      have w4 : IntKind.u64.wrap ((D / g : Nat) : Int) = ((D / g : Nat) : Int) := wrapN _ (by omega)
      have G1 := Lib.hid g1; have K1 := Lib.hid k1
      generalize (A : Int) = AI at *
      generalize (B : Int) = BI at *
      generalize (C : Int) = CI at *
      generalize (D : Int) = DI at *
      generalize (g : Int) = gI at *
      generalize (k : Int) = kI at *
      generalize A / g = A' at *
      generalize B / k = B' at *
      generalize C / k = C' at *
      generalize D / g = D' at *
      clear n1 n2 g1 k1 na nc hb hd ba bb bc bd l1 l2 l3 l4 wa wb wc wd h1 h2 ha0 hc0 hg hk
      by_cases hN : A' * C' < 18446744073709551616
      · by_cases hD : B' * D' < 18446744073709551616
        · have e1 : A' * C' / 18446744073709551616 = 0 := by omega
          have e2 : A' * C' % 18446744073709551616 = A' * C' := by omega
          have e3 : B' * D' / 18446744073709551616 = 0 := by omega
          have e4 : B' * D' % 18446744073709551616 = B' * D' := by omega
          rw [e1, e2] at m1; rw [e3, e4] at m2
          have r1 := fun w => ratMade_any (decide (a < 0) != decide (c < 0)) (A' * C') (B' * D') hN hD w
          generalize madeQ (decide (a < 0) != decide (c < 0)) (A' * C') (B' * D') = R at *
          change ∀ w, Calls _ _ #[.bool (!(decide (a < 0) == decide (c < 0))), _, _] w _ at r1
          generalize A' * C' = N at *
          generalize B' * D' = M at *
          generalize (A' : Int) = AI' at *
          generalize (B' : Int) = BI' at *
          generalize (C' : Int) = CI' at *
          generalize (D' : Int) = DI' at *
          have M1 := Lib.hid m1; have M2 := Lib.hid m2; have R1 := Lib.hid r1
          clear e1 e2 e3 e4 m1 m2 r1 hN hD
          go_enter Tryd.func38, Tryd.ntmps38
          go_wp2_with fail
          refine wp_region_plus_lit (by kernel_rfl) (by kernel_rfl) ?_
          repeat (go_big_quiet_step (first | (go_at_call 35; (with_reducible exact Calls.plus_of (gives_same (U1.out _)))) | (go_at_call 35; (with_reducible exact Calls.plus_of (gives_same (U2.out _)))) | (go_at_call 36; (with_reducible exact Calls.plus_of (G1.out _))) | (go_at_call 36; (with_reducible exact Calls.plus_of (K1.out _)))))
          (refine wpQuiet_nil ?_; intro _ hw'; obtain ⟨xq, hw''⟩ := hw'; subst hw'')
          go_wp2_with fail
          refine wp_region_plus_lit (by kernel_rfl) (by kernel_rfl) ?_
          repeat (go_big_quiet_step (first | (go_at_call 35; (with_reducible exact Calls.plus_of (gives_same (U1.out _)))) | (go_at_call 35; (with_reducible exact Calls.plus_of (gives_same (U2.out _)))) | (go_at_call 34; (with_reducible exact Calls.plus_of (gives_same (M1.out _))))))
          (refine wpQuiet_nil ?_; intro _ hw'; obtain ⟨xq, hw''⟩ := hw'; subst hw'')
          go_wp2_with fail
          refine wp_region_plus_lit (by kernel_rfl) (by kernel_rfl) ?_
          repeat (go_big_quiet_step (first | (go_at_call 34; (with_reducible exact Calls.plus_of (gives_same (M2.out _))))))
          (refine wpQuiet_nil ?_; intro _ hw'; obtain ⟨xq, hw''⟩ := hw'; subst hw'')
          go_wp2_with (first | (go_at_call 39; (with_reducible refine (R1.out _).mono ?_); rintro e w1 ⟨rfl, x1, rfl⟩) | ((with_reducible show bodyPost _ _ _ _ _ _); exact ret_23 rfl rfl (by simp [go_sem]) rfl ⟨by simp [go_sem], (by repeat (first | exact World.grows.refl | apply World.grows.plus | apply World.grows.alloc | apply World.grows.drew))⟩))
        · have er : madeQ (decide (a < 0) != decide (c < 0)) (A' * C') (B' * D') = (0, 0) := by unfold madeQ; rw [if_pos (by omega)]
          rw [er]; clear er
          have e1 : A' * C' / 18446744073709551616 = 0 := by omega
          have e3 : (0 : Int) < ((B' * D' / 18446744073709551616 : Nat) : Int) := by omega
          rw [e1] at m1
          clear e1 hN hD
          generalize ((B' * D' / 18446744073709551616 : Nat) : Int) = p at *
          generalize ((B' * D' % 18446744073709551616 : Nat) : Int) = q at *
          generalize ((A' * C' % 18446744073709551616 : Nat) : Int) = r at *
          generalize (A' : Int) = AI' at *
          generalize (B' : Int) = BI' at *
          generalize (C' : Int) = CI' at *
          generalize (D' : Int) = DI' at *
          have M1 := Lib.hid m1; have M2 := Lib.hid m2; clear m1 m2
          go_enter Tryd.func38, Tryd.ntmps38
          go_wp2_with fail
          refine wp_region_plus_lit (by kernel_rfl) (by kernel_rfl) ?_
          repeat (go_big_quiet_step (first | (go_at_call 35; (with_reducible exact Calls.plus_of (gives_same (U1.out _)))) | (go_at_call 35; (with_reducible exact Calls.plus_of (gives_same (U2.out _)))) | (go_at_call 36; (with_reducible exact Calls.plus_of (G1.out _))) | (go_at_call 36; (with_reducible exact Calls.plus_of (K1.out _)))))
          (refine wpQuiet_nil ?_; intro _ hw'; obtain ⟨xq, hw''⟩ := hw'; subst hw'')
          go_wp2_with fail
          refine wp_region_plus_lit (by kernel_rfl) (by kernel_rfl) ?_
          repeat (go_big_quiet_step (first | (go_at_call 35; (with_reducible exact Calls.plus_of (gives_same (U1.out _)))) | (go_at_call 35; (with_reducible exact Calls.plus_of (gives_same (U2.out _)))) | (go_at_call 34; (with_reducible exact Calls.plus_of (gives_same (M1.out _))))))
          (refine wpQuiet_nil ?_; intro _ hw'; obtain ⟨xq, hw''⟩ := hw'; subst hw'')
          go_wp2_with fail
          refine wp_region_plus_lit (by kernel_rfl) (by kernel_rfl) ?_
          repeat (go_big_quiet_step (first | (go_at_call 34; (with_reducible exact Calls.plus_of (gives_same (M2.out _))))))
          (refine wpQuiet_nil ?_; intro _ hw'; obtain ⟨xq, hw''⟩ := hw'; subst hw'')
          go_wp2_with (first | ((with_reducible show bodyPost _ _ _ _ _ _); exact ret_23 rfl rfl (by simp [go_sem]) rfl ⟨by simp [go_sem], (by repeat (first | exact World.grows.refl | apply World.grows.plus | apply World.grows.alloc | apply World.grows.drew))⟩))
      · have er : madeQ (decide (a < 0) != decide (c < 0)) (A' * C') (B' * D') = (0, 0) := by unfold madeQ; rw [if_pos (by omega)]
        rw [er]; clear er
        have e3 : (0 : Int) < ((A' * C' / 18446744073709551616 : Nat) : Int) := by omega
        clear hN
        generalize ((B' * D' / 18446744073709551616 : Nat) : Int) = p at *
        generalize ((B' * D' % 18446744073709551616 : Nat) : Int) = q at *
        generalize ((A' * C' % 18446744073709551616 : Nat) : Int) = r at *
        generalize ((A' * C' / 18446744073709551616 : Nat) : Int) = s at *
        generalize (A' : Int) = AI' at *
        generalize (B' : Int) = BI' at *
        generalize (C' : Int) = CI' at *
        generalize (D' : Int) = DI' at *
        have M1 := Lib.hid m1; have M2 := Lib.hid m2; clear m1 m2
        go_enter Tryd.func38, Tryd.ntmps38
        go_wp2_with fail
        refine wp_region_plus_lit (by kernel_rfl) (by kernel_rfl) ?_
        repeat (go_big_quiet_step (first | (go_at_call 35; (with_reducible exact Calls.plus_of (gives_same (U1.out _)))) | (go_at_call 35; (with_reducible exact Calls.plus_of (gives_same (U2.out _)))) | (go_at_call 36; (with_reducible exact Calls.plus_of (G1.out _))) | (go_at_call 36; (with_reducible exact Calls.plus_of (K1.out _)))))
        (refine wpQuiet_nil ?_; intro _ hw'; obtain ⟨xq, hw''⟩ := hw'; subst hw'')
        go_wp2_with fail
        refine wp_region_plus_lit (by kernel_rfl) (by kernel_rfl) ?_
        repeat (go_big_quiet_step (first | (go_at_call 35; (with_reducible exact Calls.plus_of (gives_same (U1.out _)))) | (go_at_call 35; (with_reducible exact Calls.plus_of (gives_same (U2.out _)))) | (go_at_call 34; (with_reducible exact Calls.plus_of (gives_same (M1.out _))))))
        (refine wpQuiet_nil ?_; intro _ hw'; obtain ⟨xq, hw''⟩ := hw'; subst hw'')
        go_wp2_with fail
        refine wp_region_plus_lit (by kernel_rfl) (by kernel_rfl) ?_
        repeat (go_big_quiet_step (first | (go_at_call 34; (with_reducible exact Calls.plus_of (gives_same (M2.out _))))))
        (refine wpQuiet_nil ?_; intro _ hw'; obtain ⟨xq, hw''⟩ := hw'; subst hw'')
        go_wp2_with (first | ((with_reducible show bodyPost _ _ _ _ _ _); exact ret_23 rfl rfl (by simp [go_sem]) rfl ⟨by simp [go_sem], (by repeat (first | exact World.grows.refl | apply World.grows.plus | apply World.grows.alloc | apply World.grows.drew))⟩))

set_option maxRecDepth 100000 in
theorem times_mul (a b c d : Int) (w : World) (wa : I64 a) (wb : I64 b) (wc : I64 c) (wd : I64 d) (h1 : sureB a b = true) (h2 : sureB c d = true) :
    Calls Tryd.prog 38 #[.agg #[.int .i64 a, .int .i64 b], .agg #[.int .i64 c, .int .i64 d]] w (Gives w (ratV (mulQ (a, b) (c, d)))) := by
  have := times_any a b c d w wa wb wc wd h1 h2
  have e : mulQ (a, b) (c, d) = mkQ (negB a != negB c) (a.natAbs * c.natAbs) (b.natAbs * d.natAbs) := by unfold mulQ; simp only [h1, h2, Bool.and_self, if_true]
  rw [e]; exact this

end Go.Proofs.YtkmpnkgelaaebaaDoor
