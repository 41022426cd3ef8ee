/- WALKS over rat and jalousieref1: which of two fractions is less. No condition but that numbers are of their kinds. -/
import Derived.Test.YtjfccilmlmimaaaMc
import Derived.Test.YtjfccilmlmimaaaMb
import Derived.Test.YtjfccilmlmimaaaOps
import Derived.Lib.Mul64
import Derived.Laws.Bits64b
set_option linter.unusedSimpArgs false
set_option linter.unusedVariables false
namespace Go.Proofs.Ytjfccilmlmimaaa
open Go.RowKit

theorem ret_pair {a b : Int} {v : Value} (h : a = b) : Ending.returned (.tuple #[.int .i64 a, v]) = .returned (.tuple #[.int .i64 b, v]) := by rw [h]

theorem maskN (a : Nat) (ha : a < 18446744073709551616) : bits .and .u64 (a : Int) 4294967295 = ((a % 4294967296 : Nat) : Int) := by
  have h := bits_and_u64_nat a 4294967295 ha (by omega)
  have e : a &&& 4294967295 = a % 4294967296 := Nat.and_two_pow_sub_one_eq_mod a 32
  rw [e] at h
  exact h
theorem divN (a : Nat) : (a : Int) / 4294967296 = ((a / 4294967296 : Nat) : Int) := by omega
theorem mulN (a b : Nat) : (a : Int) * (b : Int) = ((a * b : Nat) : Int) := (Int.natCast_mul a b).symm
theorem addN (a b : Nat) : (a : Int) + (b : Int) = ((a + b : Nat) : Int) := (Int.natCast_add a b).symm
theorem wrapN (a : Nat) (ha : a < 18446744073709551616) : IntKind.u64.wrap (a : Int) = (a : Int) := by rw [IntKind.wrap_u64]; omega
theorem wrapM (a : Nat) : IntKind.u64.wrap (a : Int) = ((a % 18446744073709551616 : Nat) : Int) := by rw [IntKind.wrap_u64]; omega

set_option maxHeartbeats 1000000 in
theorem mul64_any (x y : Nat) (hx : x < 18446744073709551616) (hy : y < 18446744073709551616) (w : World) :
    Calls Try.prog 51 #[.int .u64 x, .int .u64 y] w fun e w' => e = .returned (.tuple #[.int .u64 ((x * y / 18446744073709551616 : Nat) : Int), .int .u64 ((x * y % 18446744073709551616 : Nat) : Int)]) ∧ w = w' := by
  obtain ⟨bd, bt, bw, hhi⟩ := Lib.mul64_hi x y hx hy
  have ba := Lib.half_mul_le (a := x / 4294967296) (b := y / 4294967296) (by omega) (by omega)
  have bb := Lib.half_mul_le (a := x / 4294967296) (b := y % 4294967296) (by omega) (by omega)
  have bc := Lib.half_mul_le (a := x % 4294967296) (b := y / 4294967296) (by omega) (by omega)
  have ba' : x / 4294967296 * (y / 4294967296) < 18446744073709551616 := by omega
  have bb' : x / 4294967296 * (y % 4294967296) < 18446744073709551616 := by omega
  have bc' : x % 4294967296 * (y / 4294967296) < 18446744073709551616 := by omega
  have bh1 : x / 4294967296 * (y / 4294967296) + (x / 4294967296 * (y % 4294967296) + x % 4294967296 * (y % 4294967296) / 4294967296) / 4294967296 < 18446744073709551616 := by omega
  have bh : x / 4294967296 * (y / 4294967296) + (x / 4294967296 * (y % 4294967296) + x % 4294967296 * (y % 4294967296) / 4294967296) / 4294967296 + ((x / 4294967296 * (y % 4294967296) + x % 4294967296 * (y % 4294967296) / 4294967296) % 4294967296 + x % 4294967296 * (y / 4294967296)) / 4294967296 < 18446744073709551616 := by omega
  go_enter Try.func51, Try.ntmps51
  go_wp2
  simp only [maskN x hx, maskN y hy, divN, mulN, addN, wrapN _ bd, wrapN _ bb', wrapN _ bt, maskN _ bt, wrapN _ bc', wrapN _ bw, wrapN _ ba', wrapN _ bh1, wrapN _ bh, wrapM (x * y)]
  rw [hhi]
  go_ret2
  exact ⟨rfl, rfl⟩

set_option maxRecDepth 100000 in
set_option maxHeartbeats 1000000 in
theorem ratCmp_any (a b c d : Int) (w : World) (wa : I64 a) (wb : I64 b) (wc : I64 c) (wd : I64 d) :
    Calls Try.prog 42 #[.agg #[.int .i64 a, .int .i64 b], .agg #[.int .i64 c, .int .i64 d]] w (Gives w (cmpV a b c d)) := by
  have s1 := fun w => sure_any a b w wa.1 wa.2 wb.1 wb.2
  have s2 := fun w => sure_any c d w wc.1 wc.2 wd.1 wd.2
  unfold cmpV
  cases t1 : sureB a b with
  | false =>
    rw [t1] at s1
    have S1 := Lib.hid s1; clear s1 s2 t1
    simp only [Bool.false_and, Bool.false_eq_true, if_false]
    go_enter Try.func42, Try.ntmps42
    go_wp2_with (first | (go_at_call 40; (with_reducible refine (S1.out _).mono ?_); rintro e w1 ⟨rfl, x1, rfl⟩))
    go_ret2
    exact ⟨rfl, (by repeat (first | exact grA | apply grB | apply grC | apply grD))⟩
  | true =>
    cases t2 : sureB c d with
    | false =>
      rw [t1] at s1; rw [t2] at s2
      have S1 := Lib.hid s1; have S2 := Lib.hid s2; clear s1 s2 t1 t2
      simp only [Bool.and_false, Bool.false_eq_true, if_false]
      go_enter Try.func42, Try.ntmps42
      go_wp2_with (first | (go_at_call 40; (with_reducible refine (S1.out _).mono ?_); rintro e w1 ⟨rfl, x1, rfl⟩) | (go_at_call 40; (with_reducible refine (S2.out _).mono ?_); rintro e w1 ⟨rfl, x1, rfl⟩))
      go_ret2
      exact ⟨rfl, (by repeat (first | exact grA | apply grB | apply grC | apply grD))⟩
    | true =>
      have hb := (sureB_yes t1).1
      have hd := (sureB_yes t2).1
      rw [t1] at s1; rw [t2] at s2
      have S1 := Lib.hid s1; have S2 := Lib.hid s2; clear s1 s2 t1 t2
      simp only [Bool.and_self, if_true]
      have n1 := fun w => size_any a w wa.1 wa.2
      have n2 := fun w => size_any c w wc.1 wc.2
      have ub : IntKind.u64.wrap b = (b.natAbs : Int) := by rw [IntWalk.u64_in _ ⟨by omega, by have := wb.2; omega⟩]; omega
      have ud : IntKind.u64.wrap d = (d.natAbs : Int) := by rw [IntWalk.u64_in _ ⟨by omega, by have := wd.2; omega⟩]; omega
      have m1 := fun w => mul64_any a.natAbs d.natAbs (by have := wa.1; have := wa.2; omega) (by have := wd.2; omega) w
      have m2 := fun w => mul64_any c.natAbs b.natAbs (by have := wc.1; have := wc.2; omega) (by have := wb.2; omega) w
      have hH := cmpH_eq (a.natAbs * d.natAbs) (c.natAbs * b.natAbs)
      have hP : 0 ≤ a → 0 ≤ c → cmpI a b c d = _ := fun x y => cmpI_pos x y hb hd
      have hN : a < 0 → c < 0 → cmpI a b c d = _ := fun x y => cmpI_neg x y hb hd
      have hL : a < 0 → 0 ≤ c → cmpI a b c d = _ := fun x y => cmpI_lo x y hb hd
      have hU : 0 ≤ a → c < 0 → cmpI a b c d = _ := fun x y => cmpI_hi x y hb hd
      rw [← hH] at hP hN
      have U1 := Lib.hid (fun (w : World) => n1 w); have U2 := Lib.hid (fun (w : World) => n2 w)
      generalize ((a.natAbs * d.natAbs / 18446744073709551616 : Nat) : Int) = p at *
      generalize ((a.natAbs * d.natAbs % 18446744073709551616 : Nat) : Int) = q at *
      generalize ((c.natAbs * b.natAbs / 18446744073709551616 : Nat) : Int) = r at *
      generalize ((c.natAbs * b.natAbs % 18446744073709551616 : Nat) : Int) = s at *
      have M1 := Lib.hid m1; have M2 := Lib.hid m2
      have HP := Lib.hid hP; have HN := Lib.hid hN; have HL := Lib.hid hL; have HU := Lib.hid hU
      clear n1 n2 m1 m2 hH hP hN hL hU wa wb wc wd
      by_cases ha : a < 0
      · by_cases hc : c < 0
        · have hR := HN.out ha hc
          clear HP HN HL HU
          generalize cmpI a b c d = R at *
          have HR := Lib.hid hR; clear hR
          go_enter Try.func42, Try.ntmps42
          go_wp2_with (first | (go_at_call 40; (with_reducible refine (S1.out _).mono ?_); rintro e w1 ⟨rfl, x1, rfl⟩) | (go_at_call 40; (with_reducible refine (S2.out _).mono ?_); rintro e w1 ⟨rfl, x1, rfl⟩))
          refine wp_region_plus_lit (by kernel_rfl) (by kernel_rfl) ?_
          repeat (go_big_quiet_step (first | (go_at_call 54; (with_reducible exact Calls.plus_of (gives_same (U1.out _)))) | (go_at_call 51; (with_reducible exact Calls.plus_of (gives_same (M1.out _))))))
          (refine wpQuiet_nil ?_; intro _ hw'; obtain ⟨xq, hw''⟩ := hw'; subst hw'')
          go_wp2_with fail
          refine wp_region_plus_lit (by kernel_rfl) (by kernel_rfl) ?_
          repeat (go_big_quiet_step (first | (go_at_call 54; (with_reducible exact Calls.plus_of (gives_same (U2.out _)))) | (go_at_call 51; (with_reducible exact Calls.plus_of (gives_same (M2.out _))))))
          (refine wpQuiet_nil ?_; intro _ hw'; obtain ⟨xq, hw''⟩ := hw'; subst hw'')
          go_wp2_with fail
          all_goals (go_ret2; exact ⟨ret_pair (by rw [HR.out]; unfold cmpH; repeat' split
                                                  all_goals first | omega | (simp_all; done) | (simp_all; omega)), (by repeat (first | exact grA | apply grB | apply grC | apply grD))⟩)
        · rw [HL.out ha (by omega)]
          clear HP HN HL HU
          have hc' : decide (c < 0) = false := by simpa using hc
          go_enter Try.func42, Try.ntmps42
          go_wp2_with (first | (go_at_call 40; (with_reducible refine (S1.out _).mono ?_); rintro e w1 ⟨rfl, x1, rfl⟩) | (go_at_call 40; (with_reducible refine (S2.out _).mono ?_); rintro e w1 ⟨rfl, x1, rfl⟩))
          go_ret2
          exact ⟨rfl, (by repeat (first | exact grA | apply grB | apply grC | apply grD))⟩
      · by_cases hc : c < 0
        · rw [HU.out (by omega) hc]
          clear HP HN HL HU
          have ha' : decide (a < 0) = false := by simpa using ha
          go_enter Try.func42, Try.ntmps42
          go_wp2_with (first | (go_at_call 40; (with_reducible refine (S1.out _).mono ?_); rintro e w1 ⟨rfl, x1, rfl⟩) | (go_at_call 40; (with_reducible refine (S2.out _).mono ?_); rintro e w1 ⟨rfl, x1, rfl⟩))
          go_ret2
          exact ⟨rfl, (by repeat (first | exact grA | apply grB | apply grC | apply grD))⟩
        · have hR := HP.out (by omega) (by omega)
          clear HP HN HL HU
          generalize cmpI a b c d = R at *
          have HR := Lib.hid hR; clear hR
          have ha' : decide (a < 0) = false := by simpa using ha
          have hc' : decide (c < 0) = false := by simpa using hc
          go_enter Try.func42, Try.ntmps42
          go_wp2_with (first | (go_at_call 40; (with_reducible refine (S1.out _).mono ?_); rintro e w1 ⟨rfl, x1, rfl⟩) | (go_at_call 40; (with_reducible refine (S2.out _).mono ?_); rintro e w1 ⟨rfl, x1, rfl⟩))
          refine wp_region_plus_lit (by kernel_rfl) (by kernel_rfl) ?_
          repeat (go_big_quiet_step (first | (go_at_call 54; (with_reducible exact Calls.plus_of (gives_same (U1.out _)))) | (go_at_call 51; (with_reducible exact Calls.plus_of (gives_same (M1.out _))))))
          (refine wpQuiet_nil ?_; intro _ hw'; obtain ⟨xq, hw''⟩ := hw'; subst hw'')
          go_wp2_with fail
          refine wp_region_plus_lit (by kernel_rfl) (by kernel_rfl) ?_
          repeat (go_big_quiet_step (first | (go_at_call 54; (with_reducible exact Calls.plus_of (gives_same (U2.out _)))) | (go_at_call 51; (with_reducible exact Calls.plus_of (gives_same (M2.out _))))))
          (refine wpQuiet_nil ?_; intro _ hw'; obtain ⟨xq, hw''⟩ := hw'; subst hw'')
          go_wp2_with fail
          all_goals (go_ret2; exact ⟨ret_pair (by rw [HR.out]; unfold cmpH; repeat' split
                                                  all_goals first | omega | (simp_all; done) | (simp_all; omega)), (by repeat (first | exact grA | apply grB | apply grC | apply grD))⟩)

set_option maxRecDepth 100000 in
theorem refMul_any (x y : Nat) (hx : x < 18446744073709551616) (hy : y < 18446744073709551616) (w : World) :
    Calls Try.prog 34 #[.int .u64 x, .int .u64 y] w (Gives w (.agg #[.int .u64 ((x * y / 18446744073709551616 : Nat) : Int), .int .u64 ((x * y % 18446744073709551616 : Nat) : Int)])) := by
  have m1 := fun w => mul64_any x y hx hy w
  generalize ((x * y / 18446744073709551616 : Nat) : Int) = p at *
  generalize ((x * y % 18446744073709551616 : Nat) : Int) = q at *
  have M1 := Lib.hid m1; clear m1 hx hy
  go_enter Try.func34, Try.ntmps34
  go_wp2_with (first | (go_at_call 51; (with_reducible refine (M1.out _).mono ?_); rintro e w1 ⟨rfl, rfl⟩) | ((with_reducible show bodyPost _ _ _ _ _ _); exact ret_69 rfl rfl (by simp [go_sem]) rfl ⟨by simp [go_sem], (by repeat (first | exact grA | apply grB | apply grC | apply grD))⟩))

def lessH (p q r s : Int) : Bool := decide (p < r) || (p == r && decide (q < s))
set_option maxRecDepth 100000 in
set_option maxHeartbeats 1000000 in
theorem refLess_any (p q r s : Int) (w : World) : Calls Try.prog 36 #[.agg #[.int .u64 p, .int .u64 q], .agg #[.int .u64 r, .int .u64 s]] w (Gives w (.bool (lessH p q r s))) := by
  go_enter Try.func36, Try.ntmps36
  go_wp2_with fail
  all_goals (go_ret; exact ⟨ret_bool (by unfold lessH; simp_all; try omega), (by repeat (first | exact grA | apply grB | apply grC | apply grD))⟩)

end Go.Proofs.Ytjfccilmlmimaaa
