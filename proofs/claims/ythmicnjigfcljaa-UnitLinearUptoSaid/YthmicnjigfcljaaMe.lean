/- Texts of the walk, one after the other; what each proves stands ahead of it. -/
import Derived.Test.YthmicnjigfcljaaMa
import Derived.Test.YthmicnjigfcljaaMd
set_option linter.unusedSimpArgs false
set_option linter.unusedVariables false
/- WALKS over jalousieref1: the greatest common divisor of numbers of 128 bits. No condition but that the second one is not 0. -/
namespace Go.Proofs.Ythmicnjigfcljaa
open Go.RowKit

set_option maxRecDepth 100000 in
set_option maxHeartbeats 4000000 in
theorem refGcd_any (a b : Nat) (ha : a < endW) (hb : b < endW) (hb0 : 0 < b) (w : World) : Calls Try.prog 115 #[valW a, valW b] w (Gives w (valW (Nat.gcd a b))) := by
  by_cases ha0 : a = 0
  · have n1 := fun w => none_any a w
    simp only [ha0, decide_true] at n1
    rw [ha0, Nat.gcd_zero_left]
    unfold valW at *
    have N1 := Lib.hid n1; clear n1 ha ha0 hb
    generalize hiW 0 = p at *; generalize loW 0 = q at *
    generalize hiW b = r at *; generalize loW b = s at *
    go_enter Try.func115, Try.ntmps115
    go_wp2_with (first | (go_at_call 114; (with_reducible refine (N1.out _).mono ?_); rintro e w1 ⟨rfl, x1, rfl⟩) | ((with_reducible show bodyPost _ _ _ _ _ _); exact ret_99 rfl rfl (by simp [go_sem]) rfl ⟨by simp [go_sem], (by repeat (first | exact grA | apply grB | apply grC | apply grD))⟩))
  · have n1 := fun w => none_any a w
    simp only [ha0, decide_false] at n1
    have N1 := Lib.hid n1; clear n1
    have HA := Lib.hid ha; have HB := Lib.hid hb; clear ha hb
    go_enter Try.func115, Try.ntmps115
    go_wp2_with (first | (go_at_call 114; (with_reducible refine (N1.out _).mono ?_); rintro e w1 ⟨rfl, x1, rfl⟩))
    go_loopg [5] a (fun k n wr => ∃ x y m : Nat, Hid (k = x) ∧ 0 < x ∧ 0 < y ∧ n = .int .i64 m ∧ Hid (x * 2 ^ m = a ∧ y * 2 ^ m = b ∧ Nat.gcd x y * 2 ^ m = Nat.gcd a b) ∧ w.grows wr ∧ wr.row (w.heap.size) = some (.cells #[.int .u64 (hiW x), .int .u64 (loW x)] 99) ∧ wr.row (w.heap.size + 1) = some (.cells #[.int .u64 (hiW y), .int .u64 (loW y)] 99) ∧ wr.row (w.heap.size + 1 + 1) = some (.cells #[.int .u64 0, .int .u64 0] 99))
    case atStart => exact ⟨a, b, 0, rfl, by omega, hb0, rfl, ⟨by simp, by simp, by simp⟩, (by repeat (with_reducible first | assumption | exact grA | apply grB | apply grC | apply grD | refine grE ?_ (by omega) _ | refine grF ?_ (by omega) _ _)), (by simp [go_sem, *]), (by simp [go_sem, *]), (by simp [go_sem, *])⟩
    case round =>
      obtain ⟨x, y, m, HK, hx0, hy0, rfl, HI, hg, hx, hy, hq⟩ := hrel
      have z1 := row_sz' hx; have z2 := row_sz' hy; have z3 := row_sz' hq
      have h2n : (2 : Nat) ≤ 2 ^ 1 := by omega
      have hm : m < 128 := two_pow_bd hx0 (by rw [HI.out.1]; exact HA.out)
      have hxe : x < endW := Nat.lt_of_le_of_lt (Nat.le_mul_of_pos_right x (Nat.two_pow_pos m)) (by rw [HI.out.1]; exact HA.out)
      have hye : y < endW := Nat.lt_of_le_of_lt (Nat.le_mul_of_pos_right y (Nat.two_pow_pos m)) (by rw [HI.out.2.1]; exact HB.out)
      have px := fun h => @even_loW x h; have py := fun h => @even_loW y h
      have qx := fun h => @odd_loW x h; have qy := fun h => @odd_loW y h
      have d1 := fun w => half_any x hxe w
      have d2 := fun w => half_any y hye w
      have D1 := Lib.hid d1; have D2 := Lib.hid d2; clear d1 d2
      have HX := Lib.hid hxe; have HY := Lib.hid hye; clear hxe hye
      by_cases hpx : x % 2 = 0
      · by_cases hpy : y % 2 = 0
        · have px := px hpx; have py := py hpy
          have HP := Lib.hid hpx; have HQ := Lib.hid hpy; clear qx qy hpx hpy
          go_wp2_with fail
          refine wp_region_plus_tail 4 (by kernel_rfl) (by kernel_rfl) ?_
          simp only [List.take_succ_cons, List.take_zero, List.drop_succ_cons, List.drop_zero]
          repeat (go_big_quiet_step (first | (go_at_call 126; (with_reducible exact Calls.plus_of (D1.out _))) | (go_at_call 126; (with_reducible exact Calls.plus_of (D2.out _)))))
          refine wpQuiet_nil ?_; intro _ hw'; obtain ⟨xq, hw''⟩ := hw'; subst hw''
          go_wp2_with fail
          go_roundg (x / 2)
          case measure => have := HK.out; omega
          case rel =>
            have h1 := HI.out
            refine ⟨x / 2, y / 2, m + 1, rfl, by have := HP.out; omega, by have := HQ.out; omega, by go_num, ⟨?_, ?_, ?_⟩, (by repeat (with_reducible first | assumption | exact grA | apply grB | apply grC | apply grD | refine grE ?_ (by omega) _ | refine grF ?_ (by omega) _ _)), (by simp [go_sem, *]), (by simp [go_sem, *]), (by simp [go_sem, *])⟩
            · rw [Nat.pow_succ, Nat.mul_comm (2 ^ m), ← Nat.mul_assoc, Nat.div_mul_cancel (by have := HP.out; omega)]; exact h1.1
            · rw [Nat.pow_succ, Nat.mul_comm (2 ^ m), ← Nat.mul_assoc, Nat.div_mul_cancel (by have := HQ.out; omega)]; exact h1.2.1
            · rw [Nat.pow_succ, Nat.mul_comm (2 ^ m), ← Nat.mul_assoc, gcd_half_both HP.out HQ.out]; exact h1.2.2
        · have px := px hpx; have qy := qy (by omega)
          have HO := Lib.hid (show x % 2 = 1 ∨ y % 2 = 1 by omega); clear py qx hpx hpy
          go_wp2_with fail
          clear px qy D1 D2
          go_loopg [] x (fun k wr => ∃ u : Nat, Hid (k = u) ∧ 0 < u ∧ u ≤ x ∧ Hid (Nat.gcd u y * 2 ^ m = Nat.gcd a b) ∧ Hid (u % 2 = 1 ∨ y % 2 = 1) ∧ w.grows wr ∧ wr.row (w.heap.size) = some (.cells #[.int .u64 (hiW (u)), .int .u64 (loW (u))] 99) ∧ wr.row (w.heap.size + 1) = some (.cells #[.int .u64 (hiW (y)), .int .u64 (loW (y))] 99) ∧ wr.row (w.heap.size + 1 + 1) = some (.cells #[.int .u64 0, .int .u64 0] 99))
          case atStart => exact ⟨x, rfl, hx0, Nat.le_refl _, HI.out.2.2, HO.out, (by repeat (with_reducible first | assumption | exact grA | apply grB | apply grC | apply grD | refine grE ?_ (by omega) _ | refine grF ?_ (by omega) _ _)), (by simp [go_sem, *]), (by simp [go_sem, *]), (by simp [go_sem, *])⟩
          case round =>
            clear hx hy hq hg z1 z2 z3
            obtain ⟨u, HK2, hu0, hux, HI2, HO2, hg, hx, hy, hq⟩ := hrel
            have z1 := row_sz' hx; have z2 := row_sz' hy; have z3 := row_sz' hq
            have hue : u < endW := Nat.lt_of_le_of_lt hux HX.out
            have d1 := fun w => half_any u hue w
            have D1 := Lib.hid d1; clear d1
            have HU := Lib.hid hue; clear hue
            by_cases hpu : u % 2 = 0
            · have pu := even_loW hpu
              have HP := Lib.hid hpu; clear hpu
              go_wp2_with (first | (go_at_call 126; (with_reducible refine (D1.out _).mono ?_); rintro e w1 ⟨rfl, x1, rfl⟩))
              go_roundg (u / 2)
              case measure => have := HK2.out; omega
              case rel =>
                have h1 := HI2.out
                have h2 : y % 2 = 1 := by rcases HO2.out with h | h; (have := HP.out; omega); exact h
                exact ⟨u / 2, rfl, by have := HP.out; omega, by omega, by show _ = _; rw [gcd_half_left HP.out h2]; exact h1, .inr h2, (by repeat (with_reducible first | assumption | exact grA | apply grB | apply grC | apply grD | refine grE ?_ (by omega) _ | refine grF ?_ (by omega) _ _)), (by simp [go_sem, *]), (by simp [go_sem, *]), (by simp [go_sem, *])⟩
            · have pu := odd_loW (x := u) (by omega)
              have HP := Lib.hid (show u % 2 = 1 by omega); clear hpu
              go_wp2_with fail
              clear pu
              go_loopg [] (u + y) (fun k wr => ∃ p q : Nat, Hid (k = p + q) ∧ Hid (0 < p ∧ p < endW ∧ q < endW) ∧ Hid (p % 2 = 1) ∧ Hid (Nat.gcd p q * 2 ^ m = Nat.gcd a b) ∧ w.grows wr ∧ wr.row (w.heap.size) = some (.cells #[.int .u64 (hiW (p)), .int .u64 (loW (p))] 99) ∧ wr.row (w.heap.size + 1) = some (.cells #[.int .u64 (hiW (q)), .int .u64 (loW (q))] 99) ∧ wr.row (w.heap.size + 1 + 1) = some (.cells #[.int .u64 0, .int .u64 0] 99))
              case atStart => exact ⟨u, y, rfl, ⟨hu0, HU.out, HY.out⟩, HP.out, HI2.out, (by repeat (with_reducible first | assumption | exact grA | apply grB | apply grC | apply grD | refine grE ?_ (by omega) _ | refine grF ?_ (by omega) _ _)), (by simp [go_sem, *]), (by simp [go_sem, *]), (by simp [go_sem, *])⟩
              case round =>
                clear hx hy hq hg z1 z2 z3
                obtain ⟨p, q, HK3, HB3, HP3, HI3, hg, hx, hy, hq⟩ := hrel
                have z1 := row_sz' hx; have z2 := row_sz' hy; have z3 := row_sz' hq
                have n3 := fun w => none_any q w
                by_cases hq0 : q = 0
                · simp only [hq0, decide_true] at n3
                  subst hq0
                  have HI4 : Hid (p * 2 ^ m = Nat.gcd a b) := by have := HI3.out; rw [Nat.gcd_zero_right] at this; exact this
                  have N3 := Lib.hid n3; clear n3 HI3
                  go_wp2_with (first | (go_at_call 114; (with_reducible refine (N3.out _).mono ?_); rintro e w1 ⟨rfl, x1, rfl⟩))
                  go_loopg [49] m (fun k i wr => ∃ j : Nat, Hid (k + j = m) ∧ j ≤ m ∧ i = .int .i64 j ∧ w.grows wr ∧ wr.row (w.heap.size) = some (.cells #[.int .u64 (hiW (p * 2 ^ j)), .int .u64 (loW (p * 2 ^ j))] 99) ∧ wr.row (w.heap.size + 1 + 1) = some (.cells #[.int .u64 0, .int .u64 0] 99))
                  case atStart => exact ⟨0, rfl, Nat.zero_le _, rfl, (by repeat (with_reducible first | assumption | exact grA | apply grB | apply grC | apply grD | refine grE ?_ (by omega) _ | refine grF ?_ (by omega) _ _)), (by simp [go_sem, *]), (by simp [go_sem, *])⟩
                  case round =>
                    clear hx hy hq hg z1 z2 z3
                    obtain ⟨j, HK5, hjm, rfl, hg, hx, hq⟩ := hrel
                    have z1 := row_sz' hx; have z3 := row_sz' hq
                    have hle : p * 2 ^ j ≤ Nat.gcd a b := by rw [← HI4.out]; exact Nat.mul_le_mul_left _ (Nat.pow_le_pow_right (by omega) hjm)
                    have hgb : Nat.gcd a b ≤ b := Nat.gcd_le_right _ hb0
                    by_cases hlt : j < m
                    · have hle2 : p * 2 ^ (j + 1) ≤ Nat.gcd a b := by rw [← HI4.out]; exact Nat.mul_le_mul_left _ (Nat.pow_le_pow_right (by omega) hlt)
                      have e2 : 2 * (p * 2 ^ j) % endW = p * 2 ^ (j + 1) := by
                        rw [show 2 * (p * 2 ^ j) = p * 2 ^ (j + 1) by rw [Nat.pow_succ, Nat.mul_comm 2 (p * 2 ^ j), Nat.mul_assoc]]; exact Nat.mod_eq_of_lt (Nat.lt_of_le_of_lt (Nat.le_trans hle2 hgb) HB.out)
                      have t1 := fun w => twice_any (p * 2 ^ j) (by have := HB.out; omega) w
                      rw [e2] at t1
                      have E2 := Lib.hid e2; clear e2 hle hle2 hgb
                      generalize hG1 : p * 2 ^ (j + 1) = G1 at *; generalize hG0 : p * 2 ^ j = G0 at *
                      have HG1 := Lib.hid hG1; have HG0 := Lib.hid hG0; clear hG1 hG0
                      have T1 := Lib.hid t1; clear t1
                      go_wp2_with (first | (go_at_call 127; (with_reducible refine (T1.out _).mono ?_); rintro e w1 ⟨rfl, x1, rfl⟩))
                      go_roundg (gk - 1)
                      case measure => have := HK5.out; omega
                      case rel => 
                        have := HK5.out
                        have h1 := HG1.out
                        exact ⟨j + 1, by show _ = _; omega, by omega, by go_num, (by repeat (with_reducible first | assumption | exact grA | apply grB | apply grC | apply grD | refine grE ?_ (by omega) _ | refine grF ?_ (by omega) _ _)), (by rw [h1]; simp [go_sem, *]), (by simp [go_sem, *])⟩
                    · have hjm' : j = m := by omega
                      subst hjm'
                      rw [HI4.out] at hx
                      clear hle hgb
                      generalize Nat.gcd a b = G at *
                      go_wp2_with fail
                      ((with_reducible show bodyPost _ _ _ _ _ _); exact ret_99 rfl rfl (by simp [go_sem, hq]) rfl ⟨by simp [go_sem, hq], (by repeat (with_reducible first | assumption | exact grA | apply grB | apply grC | apply grD | refine grE ?_ (by omega) _ | refine grF ?_ (by omega) _ _))⟩)
                · simp only [hq0, decide_false] at n3
                  have HQ0 := Lib.hid hq0; clear hq0
                  have N3 := Lib.hid n3; clear n3
                  go_wp2_with (first | (go_at_call 114; (with_reducible refine (N3.out _).mono ?_); rintro e w1 ⟨rfl, x1, rfl⟩))
                  go_loopg [] q (fun k wr => ∃ v : Nat, Hid (k = v) ∧ 0 < v ∧ v ≤ q ∧ Hid (Nat.gcd p v * 2 ^ m = Nat.gcd a b) ∧ w.grows wr ∧ wr.row (w.heap.size) = some (.cells #[.int .u64 (hiW (p)), .int .u64 (loW (p))] 99) ∧ wr.row (w.heap.size + 1) = some (.cells #[.int .u64 (hiW (v)), .int .u64 (loW (v))] 99) ∧ wr.row (w.heap.size + 1 + 1) = some (.cells #[.int .u64 0, .int .u64 0] 99))
                  case atStart => exact ⟨q, rfl, by have := HQ0.out; omega, Nat.le_refl _, HI3.out, (by repeat (with_reducible first | assumption | exact grA | apply grB | apply grC | apply grD | refine grE ?_ (by omega) _ | refine grF ?_ (by omega) _ _)), (by simp [go_sem, *]), (by simp [go_sem, *]), (by simp [go_sem, *])⟩
                  case round =>
                    clear hx hy hq hg z1 z2 z3
                    obtain ⟨v, HK4, hv0, hvq, HI4, hg, hx, hy, hq⟩ := hrel
                    have z1 := row_sz' hx; have z2 := row_sz' hy; have z3 := row_sz' hq
                    have hve : v < endW := Nat.lt_of_le_of_lt hvq HB3.out.2.2
                    have HV := Lib.hid hve; clear hve
                    by_cases hpv : v % 2 = 0
                    · have pv := even_loW hpv
                      have d1 := fun w => half_any v HV.out w
                      have D1 := Lib.hid d1; clear d1
                      have HP := Lib.hid hpv; clear hpv
                      go_wp2_with (first | (go_at_call 126; (with_reducible refine (D1.out _).mono ?_); rintro e w1 ⟨rfl, x1, rfl⟩))
                      go_roundg (v / 2)
                      case measure => have := HK4.out; omega
                      case rel => exact ⟨v / 2, rfl, by have := HP.out; omega, by omega, by show _ = _; rw [gcd_half_right HP3.out HP.out]; exact HI4.out, (by repeat (with_reducible first | assumption | exact grA | apply grB | apply grC | apply grD | refine grE ?_ (by omega) _ | refine grF ?_ (by omega) _ _)), (by simp [go_sem, *]), (by simp [go_sem, *]), (by simp [go_sem, *])⟩
                    · have pv := odd_loW (x := v) (by omega)
                      have HP := Lib.hid (show v % 2 = 1 by omega); clear hpv
                      have l1 := fun w => less_any v p w
                      by_cases hvp : v < p
                      · simp only [hvp, decide_true] at l1
                        have s1 := fun w => sub_any p v HB3.out.2.1 HV.out w
                        rw [sub_le HB3.out.2.1 (by omega)] at s1
                        have L1 := Lib.hid l1; have S1 := Lib.hid s1; clear l1 s1
                        have HVP := Lib.hid hvp; clear hvp
                        generalize hD : p - v = D at *
                        have HD := Lib.hid hD; clear hD
                        go_wp2_with (first | (go_at_call 100; (with_reducible refine (L1.out _).mono ?_); rintro e w1 ⟨rfl, x1, rfl⟩) | (go_at_call 101; (with_reducible refine (S1.out _).mono ?_); rintro e w1 ⟨rfl, x1, rfl⟩))
                        go_roundg (v + D)
                        case measure => have := HK3.out; have := HD.out; have := HVP.out; have := HQ0.out; omega
                        case rel => 
                          have h1 := HD.out; have h2 := HVP.out; have h3 := HB3.out
                          exact ⟨v, D, rfl, ⟨hv0, HV.out, by omega⟩, HP.out, by show _ = _; rw [← h1, gcd_sub_r (by omega), Nat.gcd_comm]; exact HI4.out, (by repeat (with_reducible first | assumption | exact grA | apply grB | apply grC | apply grD | refine grE ?_ (by omega) _ | refine grF ?_ (by omega) _ _)), (by simp [go_sem, *]), (by simp [go_sem, *]), (by simp [go_sem, *])⟩
                      · simp only [hvp, decide_false] at l1
                        have s1 := fun w => sub_any v p HV.out HB3.out.2.1 w
                        rw [sub_le HV.out (by omega)] at s1
                        have L1 := Lib.hid l1; have S1 := Lib.hid s1; clear l1 s1
                        have HVP := Lib.hid hvp; clear hvp
                        generalize hD : v - p = D at *
                        have HD := Lib.hid hD; clear hD
                        go_wp2_with (first | (go_at_call 100; (with_reducible refine (L1.out _).mono ?_); rintro e w1 ⟨rfl, x1, rfl⟩) | (go_at_call 101; (with_reducible refine (S1.out _).mono ?_); rintro e w1 ⟨rfl, x1, rfl⟩))
                        go_roundg (p + D)
                        case measure => have := HK3.out; have := HD.out; have := HVP.out; have := HB3.out; omega
                        case rel => 
                          have h1 := HD.out; have h2 := HVP.out; have h3 := HB3.out
                          exact ⟨p, D, rfl, ⟨h3.1, h3.2.1, by have := HV.out; omega⟩, HP3.out, by show _ = _; rw [← h1, gcd_sub_r (by omega)]; exact HI4.out, (by repeat (with_reducible first | assumption | exact grA | apply grB | apply grC | apply grD | refine grE ?_ (by omega) _ | refine grF ?_ (by omega) _ _)), (by simp [go_sem, *]), (by simp [go_sem, *]), (by simp [go_sem, *])⟩
      · have qx := qx (by omega)
        have HO := Lib.hid (show x % 2 = 1 ∨ y % 2 = 1 by omega); clear px py qy hpx
        go_wp2_with fail
        clear qx D1 D2
        go_loopg [] x (fun k wr => ∃ u : Nat, Hid (k = u) ∧ 0 < u ∧ u ≤ x ∧ Hid (Nat.gcd u y * 2 ^ m = Nat.gcd a b) ∧ Hid (u % 2 = 1 ∨ y % 2 = 1) ∧ w.grows wr ∧ wr.row (w.heap.size) = some (.cells #[.int .u64 (hiW (u)), .int .u64 (loW (u))] 99) ∧ wr.row (w.heap.size + 1) = some (.cells #[.int .u64 (hiW (y)), .int .u64 (loW (y))] 99) ∧ wr.row (w.heap.size + 1 + 1) = some (.cells #[.int .u64 0, .int .u64 0] 99))
        case atStart => exact ⟨x, rfl, hx0, Nat.le_refl _, HI.out.2.2, HO.out, (by repeat (with_reducible first | assumption | exact grA | apply grB | apply grC | apply grD | refine grE ?_ (by omega) _ | refine grF ?_ (by omega) _ _)), (by simp [go_sem, *]), (by simp [go_sem, *]), (by simp [go_sem, *])⟩
        case round =>
          clear hx hy hq hg z1 z2 z3
          obtain ⟨u, HK2, hu0, hux, HI2, HO2, hg, hx, hy, hq⟩ := hrel
          have z1 := row_sz' hx; have z2 := row_sz' hy; have z3 := row_sz' hq
          have hue : u < endW := Nat.lt_of_le_of_lt hux HX.out
          have d1 := fun w => half_any u hue w
          have D1 := Lib.hid d1; clear d1
          have HU := Lib.hid hue; clear hue
          by_cases hpu : u % 2 = 0
          · have pu := even_loW hpu
            have HP := Lib.hid hpu; clear hpu
            go_wp2_with (first | (go_at_call 126; (with_reducible refine (D1.out _).mono ?_); rintro e w1 ⟨rfl, x1, rfl⟩))
            go_roundg (u / 2)
            case measure => have := HK2.out; omega
            case rel =>
              have h1 := HI2.out
              have h2 : y % 2 = 1 := by rcases HO2.out with h | h; (have := HP.out; omega); exact h
              exact ⟨u / 2, rfl, by have := HP.out; omega, by omega, by show _ = _; rw [gcd_half_left HP.out h2]; exact h1, .inr h2, (by repeat (with_reducible first | assumption | exact grA | apply grB | apply grC | apply grD | refine grE ?_ (by omega) _ | refine grF ?_ (by omega) _ _)), (by simp [go_sem, *]), (by simp [go_sem, *]), (by simp [go_sem, *])⟩
          · have pu := odd_loW (x := u) (by omega)
            have HP := Lib.hid (show u % 2 = 1 by omega); clear hpu
            go_wp2_with fail
            clear pu
            go_loopg [] (u + y) (fun k wr => ∃ p q : Nat, Hid (k = p + q) ∧ Hid (0 < p ∧ p < endW ∧ q < endW) ∧ Hid (p % 2 = 1) ∧ Hid (Nat.gcd p q * 2 ^ m = Nat.gcd a b) ∧ w.grows wr ∧ wr.row (w.heap.size) = some (.cells #[.int .u64 (hiW (p)), .int .u64 (loW (p))] 99) ∧ wr.row (w.heap.size + 1) = some (.cells #[.int .u64 (hiW (q)), .int .u64 (loW (q))] 99) ∧ wr.row (w.heap.size + 1 + 1) = some (.cells #[.int .u64 0, .int .u64 0] 99))
            case atStart => exact ⟨u, y, rfl, ⟨hu0, HU.out, HY.out⟩, HP.out, HI2.out, (by repeat (with_reducible first | assumption | exact grA | apply grB | apply grC | apply grD | refine grE ?_ (by omega) _ | refine grF ?_ (by omega) _ _)), (by simp [go_sem, *]), (by simp [go_sem, *]), (by simp [go_sem, *])⟩
            case round =>
              clear hx hy hq hg z1 z2 z3
              obtain ⟨p, q, HK3, HB3, HP3, HI3, hg, hx, hy, hq⟩ := hrel
              have z1 := row_sz' hx; have z2 := row_sz' hy; have z3 := row_sz' hq
              have n3 := fun w => none_any q w
              by_cases hq0 : q = 0
              · simp only [hq0, decide_true] at n3
                subst hq0
                have HI4 : Hid (p * 2 ^ m = Nat.gcd a b) := by have := HI3.out; rw [Nat.gcd_zero_right] at this; exact this
                have N3 := Lib.hid n3; clear n3 HI3
                go_wp2_with (first | (go_at_call 114; (with_reducible refine (N3.out _).mono ?_); rintro e w1 ⟨rfl, x1, rfl⟩))
                go_loopg [49] m (fun k i wr => ∃ j : Nat, Hid (k + j = m) ∧ j ≤ m ∧ i = .int .i64 j ∧ w.grows wr ∧ wr.row (w.heap.size) = some (.cells #[.int .u64 (hiW (p * 2 ^ j)), .int .u64 (loW (p * 2 ^ j))] 99) ∧ wr.row (w.heap.size + 1 + 1) = some (.cells #[.int .u64 0, .int .u64 0] 99))
                case atStart => exact ⟨0, rfl, Nat.zero_le _, rfl, (by repeat (with_reducible first | assumption | exact grA | apply grB | apply grC | apply grD | refine grE ?_ (by omega) _ | refine grF ?_ (by omega) _ _)), (by simp [go_sem, *]), (by simp [go_sem, *])⟩
                case round =>
                  clear hx hy hq hg z1 z2 z3
                  obtain ⟨j, HK5, hjm, rfl, hg, hx, hq⟩ := hrel
                  have z1 := row_sz' hx; have z3 := row_sz' hq
                  have hle : p * 2 ^ j ≤ Nat.gcd a b := by rw [← HI4.out]; exact Nat.mul_le_mul_left _ (Nat.pow_le_pow_right (by omega) hjm)
                  have hgb : Nat.gcd a b ≤ b := Nat.gcd_le_right _ hb0
                  by_cases hlt : j < m
                  · have hle2 : p * 2 ^ (j + 1) ≤ Nat.gcd a b := by rw [← HI4.out]; exact Nat.mul_le_mul_left _ (Nat.pow_le_pow_right (by omega) hlt)
                    have e2 : 2 * (p * 2 ^ j) % endW = p * 2 ^ (j + 1) := by
                      rw [show 2 * (p * 2 ^ j) = p * 2 ^ (j + 1) by rw [Nat.pow_succ, Nat.mul_comm 2 (p * 2 ^ j), Nat.mul_assoc]]; exact Nat.mod_eq_of_lt (Nat.lt_of_le_of_lt (Nat.le_trans hle2 hgb) HB.out)
                    have t1 := fun w => twice_any (p * 2 ^ j) (by have := HB.out; omega) w
                    rw [e2] at t1
                    have E2 := Lib.hid e2; clear e2 hle hle2 hgb
                    generalize hG1 : p * 2 ^ (j + 1) = G1 at *; generalize hG0 : p * 2 ^ j = G0 at *
                    have HG1 := Lib.hid hG1; have HG0 := Lib.hid hG0; clear hG1 hG0
                    have T1 := Lib.hid t1; clear t1
                    go_wp2_with (first | (go_at_call 127; (with_reducible refine (T1.out _).mono ?_); rintro e w1 ⟨rfl, x1, rfl⟩))
                    go_roundg (gk - 1)
                    case measure => have := HK5.out; omega
                    case rel => 
                      have := HK5.out
                      have h1 := HG1.out
                      exact ⟨j + 1, by show _ = _; omega, by omega, by go_num, (by repeat (with_reducible first | assumption | exact grA | apply grB | apply grC | apply grD | refine grE ?_ (by omega) _ | refine grF ?_ (by omega) _ _)), (by rw [h1]; simp [go_sem, *]), (by simp [go_sem, *])⟩
                  · have hjm' : j = m := by omega
                    subst hjm'
                    rw [HI4.out] at hx
                    clear hle hgb
                    generalize Nat.gcd a b = G at *
                    go_wp2_with fail
                    ((with_reducible show bodyPost _ _ _ _ _ _); exact ret_99 rfl rfl (by simp [go_sem, hq]) rfl ⟨by simp [go_sem, hq], (by repeat (with_reducible first | assumption | exact grA | apply grB | apply grC | apply grD | refine grE ?_ (by omega) _ | refine grF ?_ (by omega) _ _))⟩)
              · simp only [hq0, decide_false] at n3
                have HQ0 := Lib.hid hq0; clear hq0
                have N3 := Lib.hid n3; clear n3
                go_wp2_with (first | (go_at_call 114; (with_reducible refine (N3.out _).mono ?_); rintro e w1 ⟨rfl, x1, rfl⟩))
                go_loopg [] q (fun k wr => ∃ v : Nat, Hid (k = v) ∧ 0 < v ∧ v ≤ q ∧ Hid (Nat.gcd p v * 2 ^ m = Nat.gcd a b) ∧ w.grows wr ∧ wr.row (w.heap.size) = some (.cells #[.int .u64 (hiW (p)), .int .u64 (loW (p))] 99) ∧ wr.row (w.heap.size + 1) = some (.cells #[.int .u64 (hiW (v)), .int .u64 (loW (v))] 99) ∧ wr.row (w.heap.size + 1 + 1) = some (.cells #[.int .u64 0, .int .u64 0] 99))
                case atStart => exact ⟨q, rfl, by have := HQ0.out; omega, Nat.le_refl _, HI3.out, (by repeat (with_reducible first | assumption | exact grA | apply grB | apply grC | apply grD | refine grE ?_ (by omega) _ | refine grF ?_ (by omega) _ _)), (by simp [go_sem, *]), (by simp [go_sem, *]), (by simp [go_sem, *])⟩
                case round =>
                  clear hx hy hq hg z1 z2 z3
                  obtain ⟨v, HK4, hv0, hvq, HI4, hg, hx, hy, hq⟩ := hrel
                  have z1 := row_sz' hx; have z2 := row_sz' hy; have z3 := row_sz' hq
                  have hve : v < endW := Nat.lt_of_le_of_lt hvq HB3.out.2.2
                  have HV := Lib.hid hve; clear hve
                  by_cases hpv : v % 2 = 0
                  · have pv := even_loW hpv
                    have d1 := fun w => half_any v HV.out w
                    have D1 := Lib.hid d1; clear d1
                    have HP := Lib.hid hpv; clear hpv
                    go_wp2_with (first | (go_at_call 126; (with_reducible refine (D1.out _).mono ?_); rintro e w1 ⟨rfl, x1, rfl⟩))
                    go_roundg (v / 2)
                    case measure => have := HK4.out; omega
                    case rel => exact ⟨v / 2, rfl, by have := HP.out; omega, by omega, by show _ = _; rw [gcd_half_right HP3.out HP.out]; exact HI4.out, (by repeat (with_reducible first | assumption | exact grA | apply grB | apply grC | apply grD | refine grE ?_ (by omega) _ | refine grF ?_ (by omega) _ _)), (by simp [go_sem, *]), (by simp [go_sem, *]), (by simp [go_sem, *])⟩
                  · have pv := odd_loW (x := v) (by omega)
                    have HP := Lib.hid (show v % 2 = 1 by omega); clear hpv
                    have l1 := fun w => less_any v p w
                    by_cases hvp : v < p
                    · simp only [hvp, decide_true] at l1
                      have s1 := fun w => sub_any p v HB3.out.2.1 HV.out w
                      rw [sub_le HB3.out.2.1 (by omega)] at s1
                      have L1 := Lib.hid l1; have S1 := Lib.hid s1; clear l1 s1
                      have HVP := Lib.hid hvp; clear hvp
                      generalize hD : p - v = D at *
                      have HD := Lib.hid hD; clear hD
                      go_wp2_with (first | (go_at_call 100; (with_reducible refine (L1.out _).mono ?_); rintro e w1 ⟨rfl, x1, rfl⟩) | (go_at_call 101; (with_reducible refine (S1.out _).mono ?_); rintro e w1 ⟨rfl, x1, rfl⟩))
                      go_roundg (v + D)
                      case measure => have := HK3.out; have := HD.out; have := HVP.out; have := HQ0.out; omega
                      case rel => 
                        have h1 := HD.out; have h2 := HVP.out; have h3 := HB3.out
                        exact ⟨v, D, rfl, ⟨hv0, HV.out, by omega⟩, HP.out, by show _ = _; rw [← h1, gcd_sub_r (by omega), Nat.gcd_comm]; exact HI4.out, (by repeat (with_reducible first | assumption | exact grA | apply grB | apply grC | apply grD | refine grE ?_ (by omega) _ | refine grF ?_ (by omega) _ _)), (by simp [go_sem, *]), (by simp [go_sem, *]), (by simp [go_sem, *])⟩
                    · simp only [hvp, decide_false] at l1
                      have s1 := fun w => sub_any v p HV.out HB3.out.2.1 w
                      rw [sub_le HV.out (by omega)] at s1
                      have L1 := Lib.hid l1; have S1 := Lib.hid s1; clear l1 s1
                      have HVP := Lib.hid hvp; clear hvp
                      generalize hD : v - p = D at *
                      have HD := Lib.hid hD; clear hD
                      go_wp2_with (first | (go_at_call 100; (with_reducible refine (L1.out _).mono ?_); rintro e w1 ⟨rfl, x1, rfl⟩) | (go_at_call 101; (with_reducible refine (S1.out _).mono ?_); rintro e w1 ⟨rfl, x1, rfl⟩))
                      go_roundg (p + D)
                      case measure => have := HK3.out; have := HD.out; have := HVP.out; have := HB3.out; omega
                      case rel => 
                        have h1 := HD.out; have h2 := HVP.out; have h3 := HB3.out
                        exact ⟨p, D, rfl, ⟨h3.1, h3.2.1, by have := HV.out; omega⟩, HP3.out, by show _ = _; rw [← h1, gcd_sub_r (by omega)]; exact HI4.out, (by repeat (with_reducible first | assumption | exact grA | apply grB | apply grC | apply grD | refine grE ?_ (by omega) _ | refine grF ?_ (by omega) _ _)), (by simp [go_sem, *]), (by simp [go_sem, *]), (by simp [go_sem, *])⟩

end Go.Proofs.Ythmicnjigfcljaa

/- WALKS over jalousieref1: the quotient of numbers of 128 bits. No condition but that the second one is not 0, and less than half. -/
namespace Go.Proofs.Ythmicnjigfcljaa
open Go.RowKit

set_option maxRecDepth 100000 in
set_option maxHeartbeats 4000000 in
theorem refDiv_any (a b : Nat) (ha : a < endW) (hb : 2 * b ≤ endW) (hb0 : 0 < b) (w : World) : Calls Try.prog 116 #[valW a, valW b] w (Gives w (valW (a / b))) := by
  have HA := Lib.hid ha; have HB := Lib.hid hb; clear ha hb
  have h00 : hiW 0 = 0 := rfl
  have l00 : loW 0 = 0 := rfl
  go_enter Try.func116, Try.ntmps116
  go_wp2_with fail
  go_loopg [7] 128 (fun k n wr => Hid (k ≤ 128) ∧ n = .int .i64 ((k : Int) - 1) ∧ w.grows wr ∧ wr.row (w.heap.size) = some (.cells #[.int .u64 (hiW (a)), .int .u64 (loW (a))] 99) ∧ wr.row (w.heap.size + 1) = some (.cells #[.int .u64 (hiW (b)), .int .u64 (loW (b))] 99) ∧ wr.row (w.heap.size + 1 + 1) = some (.cells #[.int .u64 0, .int .u64 0] 99) ∧ wr.row (w.heap.size + 1 + 1 + 1) = some (.cells #[.int .u64 (hiW (a / 2 ^ k / b)), .int .u64 (loW (a / 2 ^ k / b))] 99) ∧ wr.row (w.heap.size + 1 + 1 + 1 + 1) = some (.cells #[.int .u64 (hiW (a / 2 ^ k % b)), .int .u64 (loW (a / 2 ^ k % b))] 99))
  case atStart =>
    have e1 : a / 2 ^ 128 = 0 := Nat.div_eq_of_lt HA.out
    exact ⟨Nat.le_refl _, rfl, (by repeat (with_reducible first | assumption | exact grA | apply grB | apply grC | apply grD | refine grE ?_ (by omega) _ | refine grF ?_ (by omega) _ _)), (by simp [go_sem, h00, l00]), (by simp [go_sem, h00, l00]), (by simp [go_sem, h00, l00]), by rw [e1]; simp [go_sem, h00, l00], by rw [e1]; simp [go_sem, h00, l00]⟩
  case round =>
    obtain ⟨HK, rfl, hg, hx, hy, hq, hQ, hR⟩ := hrel
    have z1 := row_sz' hx; have z2 := row_sz' hy; have z3 := row_sz' hq; have z4 := row_sz' hQ; have z5 := row_sz' hR
    by_cases hk : gk = 0
    · subst hk
      simp only [Nat.pow_zero, Nat.div_one] at hQ hR
      generalize a / b = G at *
      generalize a % b = M at *
      go_wp2_with fail
      ((with_reducible show bodyPost _ _ _ _ _ _); exact ret_99 rfl rfl (by simp [go_sem, hq, hQ]) rfl ⟨by simp [go_sem, hq, hQ], (by repeat (with_reducible first | assumption | exact grA | apply grB | apply grC | apply grD | refine grE ?_ (by omega) _ | refine grF ?_ (by omega) _ _))⟩)
    · have t1 := fun w => twice_any (a / 2 ^ gk % b) (by have := HB.out; have := Nat.mod_lt (a / 2 ^ gk) hb0; unfold endW at *; omega) w
      have t2 := fun w => twice_any (a / 2 ^ gk / b) (by have := HA.out; have := Nat.div_le_self (a / 2 ^ gk) b; have := Nat.div_le_self a (2 ^ gk); omega) w
      have T1 := Lib.hid t1; have T2 := Lib.hid t2; clear t1 t2
      have hbs := bit_step a hk
      have hst := @div_step (a / 2 ^ gk) b (a / 2 ^ (gk - 1) % 2) hb0
      rw [← hbs] at hst
      have hml := Nat.mod_lt (a / 2 ^ gk) hb0
      have hbit : a / 2 ^ (gk - 1) % 2 < 2 := by omega
      have hq2 : 2 * (a / 2 ^ gk / b) ≤ a / 2 ^ (gk - 1) / b ∧ a / 2 ^ (gk - 1) / b < endW := by
        constructor
        · by_cases h : 2 * (a / 2 ^ gk % b) + a / 2 ^ (gk - 1) % 2 < b
          · have := (hst.1 h).1; omega
          · have := (hst.2 hbit h).1; omega
        · have := Nat.div_le_self (a / 2 ^ (gk - 1)) b; have := Nat.div_le_self a (2 ^ (gk - 1)); have := HA.out; omega
      have he2 : 2 * (a / 2 ^ gk % b) + a / 2 ^ (gk - 1) % 2 < endW := by have := HB.out; omega
      have hh : 64 ≤ gk - 1 → bits .and .u64 (hiW a / 2 ^ (gk - 1 - 64)) 1 = ((a / 2 ^ (gk - 1) % 2 : Nat) : Int) := fun h => by
        rw [bit_hi HA.out, show 64 + (gk - 1 - 64) = gk - 1 by omega]
      have hl : gk - 1 < 64 → bits .and .u64 (loW a / 2 ^ (gk - 1)) 1 = ((a / 2 ^ (gk - 1) % 2 : Nat) : Int) := fun h => bit_lo h
      clear hbs
      generalize a / 2 ^ (gk - 1) % 2 = bit at *
      generalize hX2 : a / 2 ^ (gk - 1) = X2 at *
      generalize a / 2 ^ gk / b = Q at *
      generalize a / 2 ^ gk % b = R at *
      generalize hR2 : 2 * R + bit = R2 at *
      have l1 := fun w => less_any R2 b w
      have HS := Lib.hid hst; have HBIT := Lib.hid hbit; have HR2 := Lib.hid hR2; have HQ2 := Lib.hid hq2; have HE2 := Lib.hid he2; have HX2 := Lib.hid hX2; clear hX2 hst hbit hR2 hq2 he2 hml
      have HKK := HK.out
      have HH := Lib.hid hh; have HL := Lib.hid hl; clear hh hl
      by_cases h64 : 65 ≤ gk
      · have E := HH.out (by omega)
        have b1 : bits .or .u64 (loW (2 * R % endW)) (bits .and .u64 (hiW a / 2 ^ (gk - 1 - 64)) 1) = loW R2 := by rw [E, ← HR2.out]; exact or_bit HBIT.out (by have := HE2.out; rw [← HR2.out] at this; exact this)
        clear E
        have b2 : hiW (2 * R % endW) = hiW R2 := by rw [← HR2.out]; exact or_bit_hi HBIT.out (by have := HE2.out; rw [← HR2.out] at this; exact this)
        by_cases hlt : R2 < b
        · simp only [hlt, decide_true] at l1
          have L1 := Lib.hid l1; have HLT := Lib.hid hlt; clear l1 hlt
          have c1 : hiW (2 * Q % endW) = hiW (2 * Q) := by rw [Nat.mod_eq_of_lt (by have := HQ2.out; omega)]
          have c2 : loW (2 * Q % endW) = loW (2 * Q) := by rw [Nat.mod_eq_of_lt (by have := HQ2.out; omega)]
          have HE := Lib.hid (HS.out.1 HLT.out)
          generalize hQ2 : 2 * Q = Q2 at *
          have HQQ := Lib.hid hQ2; clear hQ2
          go_wp2_with (first | (go_at_call 127; (with_reducible refine (T1.out _).mono ?_); rintro e w1 ⟨rfl, x1, rfl⟩) | (go_at_call 127; (with_reducible refine (T2.out _).mono ?_); rintro e w1 ⟨rfl, x1, rfl⟩) | (go_at_call 100; (with_reducible refine (L1.out _).mono ?_); rintro e w1 ⟨rfl, x1, rfl⟩))
          go_roundg (gk - 1)
          case measure => omega
          case rel =>
            have e1 := HE.out.1; have e2 := HE.out.2; clear c1 c2 b1 b2
            exact ⟨by show _ ≤ _; omega, by simp; omega, (by repeat (with_reducible first | assumption | exact grA | apply grB | apply grC | apply grD | refine grE ?_ (by omega) _ | refine grF ?_ (by omega) _ _)), (by simp [go_sem, hx, hy, hq, hQ, hR, z1, z2, z3, z4, z5]), (by simp [go_sem, hx, hy, hq, hQ, hR, z1, z2, z3, z4, z5]), (by simp [go_sem, hx, hy, hq, hQ, hR, z1, z2, z3, z4, z5]), by rw [HX2.out, e1]; simp [go_sem, hx, hy, hq, hQ, hR, z1, z2, z3, z4, z5], by rw [HX2.out, e2]; simp [go_sem, hx, hy, hq, hQ, hR, z1, z2, z3, z4, z5]⟩
        · simp only [hlt, decide_false] at l1
          have s1 := fun w => sub_any R2 b HE2.out (by have := HB.out; unfold endW at *; omega) w
          rw [sub_le HE2.out (by omega)] at s1
          have L1 := Lib.hid l1; have S1 := Lib.hid s1; have HLT := Lib.hid hlt; clear l1 hlt s1
          have c1 : hiW (2 * Q % endW) = hiW (2 * Q + 1) := or_bit_hi (by omega) (by have := HQ2.out; have := HLT.out; have := HS.out.2 HBIT.out HLT.out; omega)
          have c2 : bits .or .u64 (loW (2 * Q % endW)) 1 = loW (2 * Q + 1) := or_bit (bit := 1) (by omega) (by have := HQ2.out; have := HLT.out; have := HS.out.2 HBIT.out HLT.out; omega)
          have HE := Lib.hid (HS.out.2 HBIT.out HLT.out)
          generalize hD : R2 - b = D at *
          generalize hQ2 : 2 * Q + 1 = Q2 at *
          have HQQ := Lib.hid hQ2; have HDD := Lib.hid hD; clear hQ2 hD
          go_wp2_with (first | (go_at_call 127; (with_reducible refine (T1.out _).mono ?_); rintro e w1 ⟨rfl, x1, rfl⟩) | (go_at_call 127; (with_reducible refine (T2.out _).mono ?_); rintro e w1 ⟨rfl, x1, rfl⟩) | (go_at_call 100; (with_reducible refine (L1.out _).mono ?_); rintro e w1 ⟨rfl, x1, rfl⟩) | (go_at_call 101; (with_reducible refine (S1.out _).mono ?_); rintro e w1 ⟨rfl, x1, rfl⟩))
          go_roundg (gk - 1)
          case measure => omega
          case rel =>
            have e1 := HE.out.1; have e2 := HE.out.2; clear c1 c2 b1 b2
            exact ⟨by show _ ≤ _; omega, by simp; omega, (by repeat (with_reducible first | assumption | exact grA | apply grB | apply grC | apply grD | refine grE ?_ (by omega) _ | refine grF ?_ (by omega) _ _)), (by simp [go_sem, hx, hy, hq, hQ, hR, z1, z2, z3, z4, z5]), (by simp [go_sem, hx, hy, hq, hQ, hR, z1, z2, z3, z4, z5]), (by simp [go_sem, hx, hy, hq, hQ, hR, z1, z2, z3, z4, z5]), by rw [HX2.out, e1]; simp [go_sem, hx, hy, hq, hQ, hR, z1, z2, z3, z4, z5], by rw [HX2.out, e2]; simp [go_sem, hx, hy, hq, hQ, hR, z1, z2, z3, z4, z5]⟩
      · have E := HL.out (by omega)
        have b1 : bits .or .u64 (loW (2 * R % endW)) (bits .and .u64 (loW a / 2 ^ (gk - 1)) 1) = loW R2 := by rw [E, ← HR2.out]; exact or_bit HBIT.out (by have := HE2.out; rw [← HR2.out] at this; exact this)
        clear E
        have b2 : hiW (2 * R % endW) = hiW R2 := by rw [← HR2.out]; exact or_bit_hi HBIT.out (by have := HE2.out; rw [← HR2.out] at this; exact this)
        by_cases hlt : R2 < b
        · simp only [hlt, decide_true] at l1
          have L1 := Lib.hid l1; have HLT := Lib.hid hlt; clear l1 hlt
          have c1 : hiW (2 * Q % endW) = hiW (2 * Q) := by rw [Nat.mod_eq_of_lt (by have := HQ2.out; omega)]
          have c2 : loW (2 * Q % endW) = loW (2 * Q) := by rw [Nat.mod_eq_of_lt (by have := HQ2.out; omega)]
          have HE := Lib.hid (HS.out.1 HLT.out)
          generalize hQ2 : 2 * Q = Q2 at *
          have HQQ := Lib.hid hQ2; clear hQ2
          go_wp2_with (first | (go_at_call 127; (with_reducible refine (T1.out _).mono ?_); rintro e w1 ⟨rfl, x1, rfl⟩) | (go_at_call 127; (with_reducible refine (T2.out _).mono ?_); rintro e w1 ⟨rfl, x1, rfl⟩) | (go_at_call 100; (with_reducible refine (L1.out _).mono ?_); rintro e w1 ⟨rfl, x1, rfl⟩))
          go_roundg (gk - 1)
          case measure => omega
          case rel =>
            have e1 := HE.out.1; have e2 := HE.out.2; clear c1 c2 b1 b2
            exact ⟨by show _ ≤ _; omega, by simp; omega, (by repeat (with_reducible first | assumption | exact grA | apply grB | apply grC | apply grD | refine grE ?_ (by omega) _ | refine grF ?_ (by omega) _ _)), (by simp [go_sem, hx, hy, hq, hQ, hR, z1, z2, z3, z4, z5]), (by simp [go_sem, hx, hy, hq, hQ, hR, z1, z2, z3, z4, z5]), (by simp [go_sem, hx, hy, hq, hQ, hR, z1, z2, z3, z4, z5]), by rw [HX2.out, e1]; simp [go_sem, hx, hy, hq, hQ, hR, z1, z2, z3, z4, z5], by rw [HX2.out, e2]; simp [go_sem, hx, hy, hq, hQ, hR, z1, z2, z3, z4, z5]⟩
        · simp only [hlt, decide_false] at l1
          have s1 := fun w => sub_any R2 b HE2.out (by have := HB.out; unfold endW at *; omega) w
          rw [sub_le HE2.out (by omega)] at s1
          have L1 := Lib.hid l1; have S1 := Lib.hid s1; have HLT := Lib.hid hlt; clear l1 hlt s1
          have c1 : hiW (2 * Q % endW) = hiW (2 * Q + 1) := or_bit_hi (by omega) (by have := HQ2.out; have := HLT.out; have := HS.out.2 HBIT.out HLT.out; omega)
          have c2 : bits .or .u64 (loW (2 * Q % endW)) 1 = loW (2 * Q + 1) := or_bit (bit := 1) (by omega) (by have := HQ2.out; have := HLT.out; have := HS.out.2 HBIT.out HLT.out; omega)
          have HE := Lib.hid (HS.out.2 HBIT.out HLT.out)
          generalize hD : R2 - b = D at *
          generalize hQ2 : 2 * Q + 1 = Q2 at *
          have HQQ := Lib.hid hQ2; have HDD := Lib.hid hD; clear hQ2 hD
          go_wp2_with (first | (go_at_call 127; (with_reducible refine (T1.out _).mono ?_); rintro e w1 ⟨rfl, x1, rfl⟩) | (go_at_call 127; (with_reducible refine (T2.out _).mono ?_); rintro e w1 ⟨rfl, x1, rfl⟩) | (go_at_call 100; (with_reducible refine (L1.out _).mono ?_); rintro e w1 ⟨rfl, x1, rfl⟩) | (go_at_call 101; (with_reducible refine (S1.out _).mono ?_); rintro e w1 ⟨rfl, x1, rfl⟩))
          go_roundg (gk - 1)
          case measure => omega
          case rel =>
            have e1 := HE.out.1; have e2 := HE.out.2; clear c1 c2 b1 b2
            exact ⟨by show _ ≤ _; omega, by simp; omega, (by repeat (with_reducible first | assumption | exact grA | apply grB | apply grC | apply grD | refine grE ?_ (by omega) _ | refine grF ?_ (by omega) _ _)), (by simp [go_sem, hx, hy, hq, hQ, hR, z1, z2, z3, z4, z5]), (by simp [go_sem, hx, hy, hq, hQ, hR, z1, z2, z3, z4, z5]), (by simp [go_sem, hx, hy, hq, hQ, hR, z1, z2, z3, z4, z5]), by rw [HX2.out, e1]; simp [go_sem, hx, hy, hq, hQ, hR, z1, z2, z3, z4, z5], by rw [HX2.out, e2]; simp [go_sem, hx, hy, hq, hQ, hR, z1, z2, z3, z4, z5]⟩

end Go.Proofs.Ythmicnjigfcljaa
