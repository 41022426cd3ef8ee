/- WALKS over the packages rat and jalousieref1: which fractions may be. No condition but that numbers are of their kinds. -/
import Derived.Test.YtdbddnkjiehaiaaGreatProg
import Derived.Test.YtdbddnkjiehaiaaGreatMa
set_option linter.unusedSimpArgs false
set_option linter.unusedVariables false
namespace Go.Proofs.YtdbddnkjiehaiaaGreat
open Go.RowKit

set_option maxHeartbeats 400000 in
theorem size_any (n : Int) (w : World) (h1 : -9223372036854775808 ≤ n) (h2 : n ≤ 9223372036854775807) :
    Calls Tryz.prog 97 #[.int .i64 n] w fun e w' => e = .returned (.int .u64 n.natAbs) ∧ w = w' := by
  have e1 : n < 0 → IntKind.u64.wrap (-IntKind.u64.wrap n) = (n.natAbs : Int) := fun h => by simp only [IntKind.wrap_u64]; omega
  have e2 : 0 ≤ n → n = (n.natAbs : Int) := fun h => by omega
  have E1 := Lib.hid e1; have E2 := Lib.hid e2; clear e1 e2
  go_enter Tryz.func97, Tryz.ntmps97
  go_wp2
  · go_ret
    exact ⟨ret_int (E1.out (by assumption)), rfl⟩
  · go_ret
    exact ⟨ret_int (E2.out (by assumption)), rfl⟩

set_option maxHeartbeats 400000 in
theorem mag_any (n : Int) (w : World) (h1 : -9223372036854775808 ≤ n) (h2 : n ≤ 9223372036854775807) :
    Calls Tryz.prog 81 #[.int .i64 n] w fun e w' => e = .returned (.int .u64 n.natAbs) ∧ w = w' := by
  have e2 : 0 ≤ n → n = (n.natAbs : Int) := fun h => by omega
  have e3 : n < 0 → -(n + 1) + 1 = (n.natAbs : Int) := fun h => by omega
  have E2 := Lib.hid e2; have E3 := Lib.hid e3; clear e2 e3
  go_enter Tryz.func81, Tryz.ntmps81
  go_wp2
  · go_ret
    exact ⟨ret_int (E3.out (by assumption)), rfl⟩
  · go_ret
    exact ⟨ret_int (E2.out (by assumption)), rfl⟩

set_option maxHeartbeats 400000 in
theorem gcd_any (a b : Int) (w : World) (ha : 0 ≤ a) (hb : 0 ≤ b) (ha2 : a ≤ 18446744073709551615) (hb2 : b ≤ 18446744073709551615) :
    Calls Tryz.prog 96 #[.int .u64 a, .int .u64 b] w fun e w' => e = .returned (.int .u64 (Int.gcd a b)) ∧ w = w' := by
  go_enter Tryz.func96, Tryz.ntmps96
  go_wp2
  go_loop [0, 1] (fun u v => ∃ x y : Int, (0 ≤ x ∧ x ≤ 18446744073709551615) ∧ (0 ≤ y ∧ y ≤ 18446744073709551615) ∧ Hid (Int.gcd x y = Int.gcd a b) ∧ u = .int .u64 x ∧ v = .int .u64 y) (fun u _ => (intOf u).toNat)
  case atStart => exact ⟨a, b, ⟨ha, ha2⟩, ⟨hb, hb2⟩, rfl, rfl, rfl⟩
  case round =>
    obtain ⟨x, y, ⟨hx1, hx2⟩, ⟨hy1, hy2⟩, HG, rfl, rfl⟩ := hrel
    by_cases h0 : x = 0
    · subst h0
      have e1 := HG.out
      have E0 : ((y : Int) = ((Int.gcd a b : Nat) : Int)) := by rw [← e1, Int.gcd_zero_left]; omega
      have E := Lib.hid E0
      clear e1 HG E0
      go_wp2
      go_ret
      exact ⟨ret_int E.out, rfl⟩
    · have hb1 : (x != 0) = true := by simpa using h0
      have hz1 := Int.emod_nonneg y h0
      have hz2 := Int.emod_lt_of_pos y (show 0 < x by omega)
      have H0 := Lib.hid h0; clear h0
      go_wp2
      go_round
      case rel => exact ⟨y % x, x, ⟨hz1, by omega⟩, ⟨hx1, hx2⟩, (by rw [gcd_emod_l _ _ (by have := H0.out; omega) hy1, Int.gcd_comm]; exact HG.out), rfl, rfl⟩
      case measure => simp [intOf]; omega

set_option maxHeartbeats 400000 in
theorem sure_any (n d : Int) (w : World) (h1 : -9223372036854775808 ≤ n) (h2 : n ≤ 9223372036854775807) (h3 : -9223372036854775808 ≤ d) (h4 : d ≤ 9223372036854775807) :
    Calls Tryz.prog 79 #[.agg #[.int .i64 n, .int .i64 d]] w (Gives w (.bool (sureB n d))) := by
  by_cases c1 : 1 ≤ d
  · by_cases c2 : n = -9223372036854775808
    · have E0 : sureB n d = false := sureB_no (.inr (.inl c2))
      rw [E0]; subst c2; clear E0
      go_enter Tryz.func79, Tryz.ntmps79
      go_wp2_with fail
      refine wp_region_plus_lit (by kernel_rfl) (by kernel_rfl) ?_
      repeat (go_big_quiet_step (fail))
      (refine wpQuiet_nil ?_; intro _ hw'; obtain ⟨xq, hw''⟩ := hw'; subst hw'')
      go_wp2
      go_ret
      exact ⟨rfl, (by repeat (first | exact grA | apply grB | apply grC | apply grD))⟩
    · have E0 : sureB n d = (((Int.gcd n d : Nat) : Int) == 1) := by simp [sureB, c1, c2]
      have hb1 : (n != -9223372036854775808) = true := by simpa using c2
      have h5 : IntKind.u64.wrap d = d := IntWalk.u64_in _ (by omega)
      have C2 := Lib.hid c2; clear c2
      have HE := Lib.hid E0; clear E0
      rw [HE.out]
      go_enter Tryz.func79, Tryz.ntmps79
      go_wp2_with fail
      refine wp_region_plus_lit (by kernel_rfl) (by kernel_rfl) ?_
      repeat (go_big_quiet_step (first | (go_at_call 97; (with_reducible exact Calls.plus_of (gives_same (size_any _ _ h1 h2)))) | (go_at_call 96; (with_reducible exact Calls.plus_of (gives_same (gcd_any _ _ _ (by omega) (by omega) (by omega) (by omega)))))))
      (refine wpQuiet_nil ?_; intro _ hw'; obtain ⟨xq, hw''⟩ := hw'; subst hw'')
      go_wp2
      go_ret
      exact ⟨ret_bool (by rw [gcd_natAbs_l]), (by repeat (first | exact grA | apply grB | apply grC | apply grD))⟩
  · have E0 : sureB n d = false := sureB_no (.inl (by omega))
    have hd : decide (1 ≤ d) = false := by simpa using c1
    rw [E0]; clear E0
    have C1 := Lib.hid c1; clear c1
    go_enter Tryz.func79, Tryz.ntmps79
    go_wp2_with fail
    refine wp_region_plus_lit (by kernel_rfl) (by kernel_rfl) ?_
    repeat (go_big_quiet_step (fail))
    (refine wpQuiet_nil ?_; intro _ hw'; obtain ⟨xq, hw''⟩ := hw'; subst hw'')
    go_wp2
    go_ret
    exact ⟨rfl, (by repeat (first | exact grA | apply grB | apply grC | apply grD))⟩

set_option maxHeartbeats 400000 in
theorem may_any (n d : Int) (w : World) (h1 : -9223372036854775808 ≤ n) (h2 : n ≤ 9223372036854775807) (h3 : -9223372036854775808 ≤ d) (h4 : d ≤ 9223372036854775807) :
    Calls Tryz.prog 71 #[.agg #[.int .i64 n, .int .i64 d]] w (Gives w (.bool (mayB n d))) := by
  by_cases c0 : n = 0
  · subst c0
    by_cases c1 : d = 0
    · subst c1
      go_enter Tryz.func71, Tryz.ntmps71
      go_wp2_with fail
      go_ret
      exact ⟨rfl, (by repeat (first | exact grA | apply grB | apply grC | apply grD))⟩
    · rw [mayB_sure (.inr c1)]
      go_enter Tryz.func71, Tryz.ntmps71
      go_wp2_with (first | (go_at_call 79; (with_reducible refine (sure_any _ _ _ (by omega) (by omega) h3 h4).mono ?_); rintro e w1 ⟨rfl, x1, rfl⟩))
      go_ret
      exact ⟨rfl, (by repeat (first | exact grA | apply grB | apply grC | apply grD))⟩
  · rw [mayB_sure (.inl c0)]
    go_enter Tryz.func71, Tryz.ntmps71
    go_wp2_with (first | (go_at_call 79; (with_reducible refine (sure_any _ _ _ h1 h2 h3 h4).mono ?_); rintro e w1 ⟨rfl, x1, rfl⟩))
    go_ret
    exact ⟨rfl, (by repeat (first | exact grA | apply grB | apply grC | apply grD))⟩

set_option maxHeartbeats 400000 in
theorem small_any (a b : Int) (w : World) (ha : 0 ≤ a) (hb : 0 ≤ b) (ha2 : a ≤ 18446744073709551615) (hb2 : b ≤ 18446744073709551615) :
    Calls Tryz.prog 80 #[.int .u64 a, .int .u64 b] w (Gives w (.int .u64 (Int.gcd a b))) := by
  go_enter Tryz.func80, Tryz.ntmps80
  go_wp2
  go_loopw [0, 1] (fun u v wr => ∃ x y : Int, (0 ≤ x ∧ x ≤ 18446744073709551615) ∧ (0 ≤ y ∧ y ≤ 18446744073709551615) ∧ Hid (Int.gcd x y = Int.gcd a b) ∧ u = .int .u64 x ∧ v = .int .u64 y ∧ ∃ z, wr = w.plus z) (fun _ v _ => (intOf v).toNat)
  case atStart => exact ⟨a, b, ⟨ha, ha2⟩, ⟨hb, hb2⟩, rfl, rfl, rfl, World.grows.refl⟩
  case round =>
    obtain ⟨x, y, ⟨hx1, hx2⟩, ⟨hy1, hy2⟩, HG, rfl, rfl, z, rfl⟩ := hrel
    by_cases h0 : y = 0
    · subst h0
      have e1 := HG.out
      have E0 : ((x : Int) = ((Int.gcd a b : Nat) : Int)) := by rw [← e1, Int.gcd_zero_right]; omega
      have E := Lib.hid E0
      clear e1 HG E0
      go_wp2
      go_ret
      exact ⟨ret_int E.out, (by repeat (first | exact grA | apply grB | apply grC | apply grD))⟩
    · have hb1 : 0 < y := by omega
      have hz1 := Int.emod_nonneg x h0
      have hz2 := Int.emod_lt_of_pos x hb1
      have H0 := Lib.hid h0; clear h0
      go_wp2
      refine wp_region_plus_lit (by kernel_rfl) (by kernel_rfl) ?_
      repeat (go_big_quiet_step (fail))
      (refine wpQuiet_nil ?_; intro _ hw'; obtain ⟨xq, hw''⟩ := hw'; subst hw'')
      go_wp2
      go_roundw
      case rel => exact ⟨y, x % y, ⟨hy1, hy2⟩, ⟨hz1, by omega⟩, (by rw [Int.gcd_comm, gcd_emod_l _ _ hb1 hx1]; exact HG.out), rfl, rfl, (by repeat (first | exact grA | apply grB | apply grC | apply grD))⟩
      case measure => simp [intOf]; omega

set_option maxHeartbeats 400000 in
theorem refMay_any (n d : Int) (w : World) (h1 : -9223372036854775808 ≤ n) (h2 : n ≤ 9223372036854775807) (h3 : -9223372036854775808 ≤ d) (h4 : d ≤ 9223372036854775807) :
    Calls Tryz.prog 72 #[.agg #[.int .i64 n, .int .i64 d]] w (Gives w (.bool (mayB n d))) := by
  by_cases c0 : n = 0 ∧ d = 0
  · obtain ⟨rfl, rfl⟩ := c0
    go_enter Tryz.func72, Tryz.ntmps72
    go_wp2_with fail
    go_ret
    exact ⟨rfl, (by repeat (first | exact grA | apply grB | apply grC | apply grD))⟩
  · rw [mayB_sure (by omega)]
    by_cases c1 : 1 ≤ d
    · have hd0 : (d == 0) = false := by simp; omega
      have hd1 : decide (1 ≤ d) = true := by simp; omega
      have C := Lib.hid c0; clear c0
      have h5 : IntKind.u64.wrap d = d := IntWalk.u64_in _ (by omega)
      by_cases c2 : n = -9223372036854775808
      · rw [sureB_no (.inr (.inl c2))]; subst c2
        go_enter Tryz.func72, Tryz.ntmps72
        go_wp2_with fail
        refine wp_region_plus_lit (by kernel_rfl) (by kernel_rfl) ?_
        repeat (go_big_quiet_step (fail))
        (refine wpQuiet_nil ?_; intro _ hw'; obtain ⟨xq, hw''⟩ := hw'; subst hw'')
        go_wp2
        go_ret
        exact ⟨rfl, (by repeat (first | exact grA | apply grB | apply grC | apply grD))⟩
      · have E0 : sureB n d = (((Int.gcd n d : Nat) : Int) == 1) := by simp [sureB, c1, c2]
        have hb1 : (n != -9223372036854775808) = true := by simpa using c2
        have C2 := Lib.hid c2; clear c2
        have HE := Lib.hid E0; clear E0
        rw [HE.out]
        by_cases c3 : n = 0
        · subst c3
          go_enter Tryz.func72, Tryz.ntmps72
          go_wp2_with fail
          refine wp_region_plus_lit (by kernel_rfl) (by kernel_rfl) ?_
          repeat (go_big_quiet_step (first | (go_at_call 81; (with_reducible exact Calls.plus_of (gives_same (mag_any _ _ (by omega) (by omega))))) | (go_at_call 80; (with_reducible exact Calls.plus_of (small_any _ _ _ (by omega) (by omega) (by omega) (by omega))))))
          (refine wpQuiet_nil ?_; intro _ hw'; obtain ⟨xq, hw''⟩ := hw'; subst hw'')
          go_wp2
          go_ret
          exact ⟨ret_bool (by simp), (by repeat (first | exact grA | apply grB | apply grC | apply grD))⟩
        · go_enter Tryz.func72, Tryz.ntmps72
          go_wp2_with fail
          refine wp_region_plus_lit (by kernel_rfl) (by kernel_rfl) ?_
          repeat (go_big_quiet_step (first | (go_at_call 81; (with_reducible exact Calls.plus_of (gives_same (mag_any _ _ h1 h2)))) | (go_at_call 80; (with_reducible exact Calls.plus_of (small_any _ _ _ (by omega) (by omega) (by omega) (by omega))))))
          (refine wpQuiet_nil ?_; intro _ hw'; obtain ⟨xq, hw''⟩ := hw'; subst hw'')
          go_wp2
          go_ret
          exact ⟨ret_bool (by rw [gcd_natAbs_l]), (by repeat (first | exact grA | apply grB | apply grC | apply grD))⟩
    · rw [sureB_no (.inl (by omega))]
      have hd : decide (1 ≤ d) = false := by simpa using c1
      have C1 := Lib.hid c1; clear c1
      by_cases c3 : n = 0
      · subst c3
        have hd0 : (d == 0) = false := by simp; omega
        go_enter Tryz.func72, Tryz.ntmps72
        go_wp2_with fail
        refine wp_region_plus_lit (by kernel_rfl) (by kernel_rfl) ?_
        repeat (go_big_quiet_step (fail))
        (refine wpQuiet_nil ?_; intro _ hw'; obtain ⟨xq, hw''⟩ := hw'; subst hw'')
        go_wp2
        go_ret
        exact ⟨rfl, (by repeat (first | exact grA | apply grB | apply grC | apply grD))⟩
      · go_enter Tryz.func72, Tryz.ntmps72
        go_wp2_with fail
        refine wp_region_plus_lit (by kernel_rfl) (by kernel_rfl) ?_
        repeat (go_big_quiet_step (fail))
        (refine wpQuiet_nil ?_; intro _ hw'; obtain ⟨xq, hw''⟩ := hw'; subst hw'')
        go_wp2
        go_ret
        exact ⟨rfl, (by repeat (first | exact grA | apply grB | apply grC | apply grD))⟩

end Go.Proofs.YtdbddnkjiehaiaaGreat
