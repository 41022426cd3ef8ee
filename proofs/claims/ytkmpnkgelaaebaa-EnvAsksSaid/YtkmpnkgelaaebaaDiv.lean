/- WALKS over jalousieref1: the quotient of numbers of 128 bits. No condition but that the second one is not 0, and less than half. -/
import Derived.Test.YtkmpnkgelaaebaaGcd
set_option linter.unusedSimpArgs false
set_option linter.unusedVariables false
namespace Go.Proofs.Ytkmpnkgelaaebaa
open Go.RowKit

set_option maxRecDepth 100000 in
set_option maxHeartbeats 4000000 in
theorem refDiv_any (a b : Nat) (ha : a < endW) (hb : 2 * b ≤ endW) (hb0 : 0 < b) (w : World) : Calls Try.prog 80 #[valW a, valW b] w (Gives w (valW (a / b))) := by
  have HA := Lib.hid ha; have HB := Lib.hid hb; clear ha hb
  have h00 : hiW 0 = 0 := rfl
  have l00 : loW 0 = 0 := rfl
  go_enter Try.func80, Try.ntmps80
  go_wp2_with fail
  go_loopg [7] 128 (fun k n wr => Hid (k ≤ 128) ∧ n = .int .i64 ((k : Int) - 1) ∧ w.grows wr ∧ wr.row (w.heap.size) = some (.cells #[.int .u64 (hiW (a)), .int .u64 (loW (a))] 83) ∧ wr.row (w.heap.size + 1) = some (.cells #[.int .u64 (hiW (b)), .int .u64 (loW (b))] 83) ∧ wr.row (w.heap.size + 1 + 1) = some (.cells #[.int .u64 0, .int .u64 0] 83) ∧ wr.row (w.heap.size + 1 + 1 + 1) = some (.cells #[.int .u64 (hiW (a / 2 ^ k / b)), .int .u64 (loW (a / 2 ^ k / b))] 83) ∧ wr.row (w.heap.size + 1 + 1 + 1 + 1) = some (.cells #[.int .u64 (hiW (a / 2 ^ k % b)), .int .u64 (loW (a / 2 ^ k % b))] 83))
  case atStart =>
    have e1 : a / 2 ^ 128 = 0 := Nat.div_eq_of_lt HA.out
    exact ⟨Nat.le_refl _, rfl, (by repeat (with_reducible first | assumption | exact World.grows.refl | apply World.grows.plus | apply World.grows.alloc | apply World.grows.drew | (refine World.grows.setRow' ?_ (by omega) _) | (refine World.grows.setCell' ?_ (by omega) _ _))), (by simp [go_sem, h00, l00]), (by simp [go_sem, h00, l00]), (by simp [go_sem, h00, l00]), by rw [e1]; simp [go_sem, h00, l00], by rw [e1]; simp [go_sem, h00, l00]⟩
  case round =>
    obtain ⟨HK, rfl, hg, hx, hy, hq, hQ, hR⟩ := hrel
    have z1 := row_sz' hx; have z2 := row_sz' hy; have z3 := row_sz' hq; have z4 := row_sz' hQ; have z5 := row_sz' hR
    by_cases hk : gk = 0
    · subst hk
      simp only [Nat.pow_zero, Nat.div_one] at hQ hR
      generalize a / b = G at *
      generalize a % b = M at *
      go_wp2_with fail
      ((with_reducible show bodyPost _ _ _ _ _ _); exact ret_83 rfl rfl (by simp [go_sem, hq, hQ]) rfl ⟨by simp [go_sem, hq, hQ], (by repeat (with_reducible first | assumption | exact World.grows.refl | apply World.grows.plus | apply World.grows.alloc | apply World.grows.drew | (refine World.grows.setRow' ?_ (by omega) _) | (refine World.grows.setCell' ?_ (by omega) _ _)))⟩)
    · have t1 := fun w => twice_any (a / 2 ^ gk % b) (by have := HB.out; have := Nat.mod_lt (a / 2 ^ gk) hb0; unfold endW at *; omega) w
      have t2 := fun w => twice_any (a / 2 ^ gk / b) (by have := HA.out; have := Nat.div_le_self (a / 2 ^ gk) b; have := Nat.div_le_self a (2 ^ gk); omega) w
      have T1 := Lib.hid t1; have T2 := Lib.hid t2; clear t1 t2
      have hbs := bit_step a hk
      have hst := @div_step (a / 2 ^ gk) b (a / 2 ^ (gk - 1) % 2) hb0
      rw [← hbs] at hst
      have hml := Nat.mod_lt (a / 2 ^ gk) hb0
      have hbit : a / 2 ^ (gk - 1) % 2 < 2 := by omega
      have hq2 : 2 * (a / 2 ^ gk / b) ≤ a / 2 ^ (gk - 1) / b ∧ a / 2 ^ (gk - 1) / b < endW := by
        constructor
        · by_cases h : 2 * (a / 2 ^ gk % b) + a / 2 ^ (gk - 1) % 2 < b
          · have := (hst.1 h).1; omega
          · have := (hst.2 hbit h).1; omega
        · have := Nat.div_le_self (a / 2 ^ (gk - 1)) b; have := Nat.div_le_self a (2 ^ (gk - 1)); have := HA.out; omega
      have he2 : 2 * (a / 2 ^ gk % b) + a / 2 ^ (gk - 1) % 2 < endW := by have := HB.out; omega
      have hh : 64 ≤ gk - 1 → bits .and .u64 (hiW a / 2 ^ (gk - 1 - 64)) 1 = ((a / 2 ^ (gk - 1) % 2 : Nat) : Int) := fun h => by
        rw [bit_hi HA.out, show 64 + (gk - 1 - 64) = gk - 1 by omega]
      have hl : gk - 1 < 64 → bits .and .u64 (loW a / 2 ^ (gk - 1)) 1 = ((a / 2 ^ (gk - 1) % 2 : Nat) : Int) := fun h => bit_lo h
      clear hbs
      generalize a / 2 ^ (gk - 1) % 2 = bit at *
      generalize hX2 : a / 2 ^ (gk - 1) = X2 at *
      generalize a / 2 ^ gk / b = Q at *
      generalize a / 2 ^ gk % b = R at *
      generalize hR2 : 2 * R + bit = R2 at *
      have l1 := fun w => less_any R2 b w
      have HS := Lib.hid hst; have HBIT := Lib.hid hbit; have HR2 := Lib.hid hR2; have HQ2 := Lib.hid hq2; have HE2 := Lib.hid he2; have HX2 := Lib.hid hX2; clear hX2 hst hbit hR2 hq2 he2 hml
      have HKK := HK.out
      have HH := Lib.hid hh; have HL := Lib.hid hl; clear hh hl
      by_cases h64 : 65 ≤ gk
      · have E := HH.out (by omega)
        have b1 : bits .or .u64 (loW (2 * R % endW)) (bits .and .u64 (hiW a / 2 ^ (gk - 1 - 64)) 1) = loW R2 := by rw [E, ← HR2.out]; exact or_bit HBIT.out (by have := HE2.out; rw [← HR2.out] at this; exact this)
        clear E
        have b2 : hiW (2 * R % endW) = hiW R2 := by rw [← HR2.out]; exact or_bit_hi HBIT.out (by have := HE2.out; rw [← HR2.out] at this; exact this)
        by_cases hlt : R2 < b
        · simp only [hlt, decide_true] at l1
          have L1 := Lib.hid l1; have HLT := Lib.hid hlt; clear l1 hlt
          have c1 : hiW (2 * Q % endW) = hiW (2 * Q) := by rw [Nat.mod_eq_of_lt (by have := HQ2.out; omega)]
          have c2 : loW (2 * Q % endW) = loW (2 * Q) := by rw [Nat.mod_eq_of_lt (by have := HQ2.out; omega)]
          have HE := Lib.hid (HS.out.1 HLT.out)
          generalize hQ2 : 2 * Q = Q2 at *
          have HQQ := Lib.hid hQ2; clear hQ2
          go_wp2_with (first | (go_at_call 88; (with_reducible refine (T1.out _).mono ?_); rintro e w1 ⟨rfl, x1, rfl⟩) | (go_at_call 88; (with_reducible refine (T2.out _).mono ?_); rintro e w1 ⟨rfl, x1, rfl⟩) | (go_at_call 61; (with_reducible refine (L1.out _).mono ?_); rintro e w1 ⟨rfl, x1, rfl⟩))
          go_roundg (gk - 1)
          case measure => omega
          case rel =>
            have e1 := HE.out.1; have e2 := HE.out.2; clear c1 c2 b1 b2
            exact ⟨by show _ ≤ _; omega, by simp; omega, (by repeat (with_reducible first | assumption | exact World.grows.refl | apply World.grows.plus | apply World.grows.alloc | apply World.grows.drew | (refine World.grows.setRow' ?_ (by omega) _) | (refine World.grows.setCell' ?_ (by omega) _ _))), (by simp [go_sem, hx, hy, hq, hQ, hR, z1, z2, z3, z4, z5]), (by simp [go_sem, hx, hy, hq, hQ, hR, z1, z2, z3, z4, z5]), (by simp [go_sem, hx, hy, hq, hQ, hR, z1, z2, z3, z4, z5]), by rw [HX2.out, e1]; simp [go_sem, hx, hy, hq, hQ, hR, z1, z2, z3, z4, z5], by rw [HX2.out, e2]; simp [go_sem, hx, hy, hq, hQ, hR, z1, z2, z3, z4, z5]⟩
        · simp only [hlt, decide_false] at l1
          have s1 := fun w => sub_any R2 b HE2.out (by have := HB.out; unfold endW at *; omega) w
          rw [sub_le HE2.out (by omega)] at s1
          have L1 := Lib.hid l1; have S1 := Lib.hid s1; have HLT := Lib.hid hlt; clear l1 hlt s1
          have c1 : hiW (2 * Q % endW) = hiW (2 * Q + 1) := or_bit_hi (by omega) (by have := HQ2.out; have := HLT.out; have := HS.out.2 HBIT.out HLT.out; omega)
          have c2 : bits .or .u64 (loW (2 * Q % endW)) 1 = loW (2 * Q + 1) := or_bit (bit := 1) (by omega) (by have := HQ2.out; have := HLT.out; have := HS.out.2 HBIT.out HLT.out; omega)
          have HE := Lib.hid (HS.out.2 HBIT.out HLT.out)
          generalize hD : R2 - b = D at *
          generalize hQ2 : 2 * Q + 1 = Q2 at *
          have HQQ := Lib.hid hQ2; have HDD := Lib.hid hD; clear hQ2 hD
          go_wp2_with (first | (go_at_call 88; (with_reducible refine (T1.out _).mono ?_); rintro e w1 ⟨rfl, x1, rfl⟩) | (go_at_call 88; (with_reducible refine (T2.out _).mono ?_); rintro e w1 ⟨rfl, x1, rfl⟩) | (go_at_call 61; (with_reducible refine (L1.out _).mono ?_); rintro e w1 ⟨rfl, x1, rfl⟩) | (go_at_call 87; (with_reducible refine (S1.out _).mono ?_); rintro e w1 ⟨rfl, x1, rfl⟩))
          go_roundg (gk - 1)
          case measure => omega
          case rel =>
            have e1 := HE.out.1; have e2 := HE.out.2; clear c1 c2 b1 b2
            exact ⟨by show _ ≤ _; omega, by simp; omega, (by repeat (with_reducible first | assumption | exact World.grows.refl | apply World.grows.plus | apply World.grows.alloc | apply World.grows.drew | (refine World.grows.setRow' ?_ (by omega) _) | (refine World.grows.setCell' ?_ (by omega) _ _))), (by simp [go_sem, hx, hy, hq, hQ, hR, z1, z2, z3, z4, z5]), (by simp [go_sem, hx, hy, hq, hQ, hR, z1, z2, z3, z4, z5]), (by simp [go_sem, hx, hy, hq, hQ, hR, z1, z2, z3, z4, z5]), by rw [HX2.out, e1]; simp [go_sem, hx, hy, hq, hQ, hR, z1, z2, z3, z4, z5], by rw [HX2.out, e2]; simp [go_sem, hx, hy, hq, hQ, hR, z1, z2, z3, z4, z5]⟩
      · have E := HL.out (by omega)
        have b1 : bits .or .u64 (loW (2 * R % endW)) (bits .and .u64 (loW a / 2 ^ (gk - 1)) 1) = loW R2 := by rw [E, ← HR2.out]; exact or_bit HBIT.out (by have := HE2.out; rw [← HR2.out] at this; exact this)
        clear E
        have b2 : hiW (2 * R % endW) = hiW R2 := by rw [← HR2.out]; exact or_bit_hi HBIT.out (by have := HE2.out; rw [← HR2.out] at this; exact this)
        by_cases hlt : R2 < b
        · simp only [hlt, decide_true] at l1
          have L1 := Lib.hid l1; have HLT := Lib.hid hlt; clear l1 hlt
          have c1 : hiW (2 * Q % endW) = hiW (2 * Q) := by rw [Nat.mod_eq_of_lt (by have := HQ2.out; omega)]
          have c2 : loW (2 * Q % endW) = loW (2 * Q) := by rw [Nat.mod_eq_of_lt (by have := HQ2.out; omega)]
          have HE := Lib.hid (HS.out.1 HLT.out)
          generalize hQ2 : 2 * Q = Q2 at *
          have HQQ := Lib.hid hQ2; clear hQ2
          go_wp2_with (first | (go_at_call 88; (with_reducible refine (T1.out _).mono ?_); rintro e w1 ⟨rfl, x1, rfl⟩) | (go_at_call 88; (with_reducible refine (T2.out _).mono ?_); rintro e w1 ⟨rfl, x1, rfl⟩) | (go_at_call 61; (with_reducible refine (L1.out _).mono ?_); rintro e w1 ⟨rfl, x1, rfl⟩))
          go_roundg (gk - 1)
          case measure => omega
          case rel =>
            have e1 := HE.out.1; have e2 := HE.out.2; clear c1 c2 b1 b2
            exact ⟨by show _ ≤ _; omega, by simp; omega, (by repeat (with_reducible first | assumption | exact World.grows.refl | apply World.grows.plus | apply World.grows.alloc | apply World.grows.drew | (refine World.grows.setRow' ?_ (by omega) _) | (refine World.grows.setCell' ?_ (by omega) _ _))), (by simp [go_sem, hx, hy, hq, hQ, hR, z1, z2, z3, z4, z5]), (by simp [go_sem, hx, hy, hq, hQ, hR, z1, z2, z3, z4, z5]), (by simp [go_sem, hx, hy, hq, hQ, hR, z1, z2, z3, z4, z5]), by rw [HX2.out, e1]; simp [go_sem, hx, hy, hq, hQ, hR, z1, z2, z3, z4, z5], by rw [HX2.out, e2]; simp [go_sem, hx, hy, hq, hQ, hR, z1, z2, z3, z4, z5]⟩
        · simp only [hlt, decide_false] at l1
          have s1 := fun w => sub_any R2 b HE2.out (by have := HB.out; unfold endW at *; omega) w
          rw [sub_le HE2.out (by omega)] at s1
          have L1 := Lib.hid l1; have S1 := Lib.hid s1; have HLT := Lib.hid hlt; clear l1 hlt s1
          have c1 : hiW (2 * Q % endW) = hiW (2 * Q + 1) := or_bit_hi (by omega) (by have := HQ2.out; have := HLT.out; have := HS.out.2 HBIT.out HLT.out; omega)
          have c2 : bits .or .u64 (loW (2 * Q % endW)) 1 = loW (2 * Q + 1) := or_bit (bit := 1) (by omega) (by have := HQ2.out; have := HLT.out; have := HS.out.2 HBIT.out HLT.out; omega)
          have HE := Lib.hid (HS.out.2 HBIT.out HLT.out)
          generalize hD : R2 - b = D at *
          generalize hQ2 : 2 * Q + 1 = Q2 at *
          have HQQ := Lib.hid hQ2; have HDD := Lib.hid hD; clear hQ2 hD
          go_wp2_with (first | (go_at_call 88; (with_reducible refine (T1.out _).mono ?_); rintro e w1 ⟨rfl, x1, rfl⟩) | (go_at_call 88; (with_reducible refine (T2.out _).mono ?_); rintro e w1 ⟨rfl, x1, rfl⟩) | (go_at_call 61; (with_reducible refine (L1.out _).mono ?_); rintro e w1 ⟨rfl, x1, rfl⟩) | (go_at_call 87; (with_reducible refine (S1.out _).mono ?_); rintro e w1 ⟨rfl, x1, rfl⟩))
          go_roundg (gk - 1)
          case measure => omega
          case rel =>
            have e1 := HE.out.1; have e2 := HE.out.2; clear c1 c2 b1 b2
            exact ⟨by show _ ≤ _; omega, by simp; omega, (by repeat (with_reducible first | assumption | exact World.grows.refl | apply World.grows.plus | apply World.grows.alloc | apply World.grows.drew | (refine World.grows.setRow' ?_ (by omega) _) | (refine World.grows.setCell' ?_ (by omega) _ _))), (by simp [go_sem, hx, hy, hq, hQ, hR, z1, z2, z3, z4, z5]), (by simp [go_sem, hx, hy, hq, hQ, hR, z1, z2, z3, z4, z5]), (by simp [go_sem, hx, hy, hq, hQ, hR, z1, z2, z3, z4, z5]), by rw [HX2.out, e1]; simp [go_sem, hx, hy, hq, hQ, hR, z1, z2, z3, z4, z5], by rw [HX2.out, e2]; simp [go_sem, hx, hy, hq, hQ, hR, z1, z2, z3, z4, z5]⟩

end Go.Proofs.Ytkmpnkgelaaebaa
