/- Texts of the walk, one after the other; what each proves stands ahead of it. -/
import Derived.Laws.Bits64b
import Derived.Lib.Mul64
import Derived.Shelf.Spec.BitsCarry
import Derived.Test.YthmicnjigfcljaaMb
import Derived.Test.YthmicnjigfcljaaMc
import Derived.Test.YthmicnjigfcljaaOps
set_option linter.unusedSimpArgs false
set_option linter.unusedVariables false
/- WALKS over rat and jalousieref1: which of two fractions is less. No condition but that numbers are of their kinds. -/
namespace Go.Proofs.Ythmicnjigfcljaa
open Go.RowKit

theorem ret_pair {a b : Int} {v : Value} (h : a = b) : Ending.returned (.tuple #[.int .i64 a, v]) = .returned (.tuple #[.int .i64 b, v]) := by rw [h]

theorem maskN (a : Nat) (ha : a < 18446744073709551616) : bits .and .u64 (a : Int) 4294967295 = ((a % 4294967296 : Nat) : Int) := by
  have h := bits_and_u64_nat a 4294967295 ha (by omega)
  have e : a &&& 4294967295 = a % 4294967296 := Nat.and_two_pow_sub_one_eq_mod a 32
  rw [e] at h
  exact h
theorem divN (a : Nat) : (a : Int) / 4294967296 = ((a / 4294967296 : Nat) : Int) := by omega
theorem mulN (a b : Nat) : (a : Int) * (b : Int) = ((a * b : Nat) : Int) := (Int.natCast_mul a b).symm
theorem addN (a b : Nat) : (a : Int) + (b : Int) = ((a + b : Nat) : Int) := (Int.natCast_add a b).symm
theorem wrapN (a : Nat) (ha : a < 18446744073709551616) : IntKind.u64.wrap (a : Int) = (a : Int) := by rw [IntKind.wrap_u64]; omega
theorem wrapM (a : Nat) : IntKind.u64.wrap (a : Int) = ((a % 18446744073709551616 : Nat) : Int) := by rw [IntKind.wrap_u64]; omega

set_option maxHeartbeats 1000000 in
theorem mul64_any (x y : Nat) (hx : x < 18446744073709551616) (hy : y < 18446744073709551616) (w : World) :
    Calls Try.prog 113 #[.int .u64 x, .int .u64 y] w fun e w' => e = .returned (.tuple #[.int .u64 ((x * y / 18446744073709551616 : Nat) : Int), .int .u64 ((x * y % 18446744073709551616 : Nat) : Int)]) ∧ w = w' := by
  obtain ⟨bd, bt, bw, hhi⟩ := Lib.mul64_hi x y hx hy
  have ba := Lib.half_mul_le (a := x / 4294967296) (b := y / 4294967296) (by omega) (by omega)
  have bb := Lib.half_mul_le (a := x / 4294967296) (b := y % 4294967296) (by omega) (by omega)
  have bc := Lib.half_mul_le (a := x % 4294967296) (b := y / 4294967296) (by omega) (by omega)
  have ba' : x / 4294967296 * (y / 4294967296) < 18446744073709551616 := by omega
  have bb' : x / 4294967296 * (y % 4294967296) < 18446744073709551616 := by omega
  have bc' : x % 4294967296 * (y / 4294967296) < 18446744073709551616 := by omega
  have bh1 : x / 4294967296 * (y / 4294967296) + (x / 4294967296 * (y % 4294967296) + x % 4294967296 * (y % 4294967296) / 4294967296) / 4294967296 < 18446744073709551616 := by omega
  have bh : x / 4294967296 * (y / 4294967296) + (x / 4294967296 * (y % 4294967296) + x % 4294967296 * (y % 4294967296) / 4294967296) / 4294967296 + ((x / 4294967296 * (y % 4294967296) + x % 4294967296 * (y % 4294967296) / 4294967296) % 4294967296 + x % 4294967296 * (y / 4294967296)) / 4294967296 < 18446744073709551616 := by omega
  go_enter Try.func113, Try.ntmps113
  go_wp2
  simp only [maskN x hx, maskN y hy, divN, mulN, addN, wrapN _ bd, wrapN _ bb', wrapN _ bt, maskN _ bt, wrapN _ bc', wrapN _ bw, wrapN _ ba', wrapN _ bh1, wrapN _ bh, wrapM (x * y)]
  rw [hhi]
  go_ret2
  exact ⟨rfl, rfl⟩

set_option maxRecDepth 100000 in
set_option maxHeartbeats 1000000 in
theorem ratCmp_any (a b c d : Int) (w : World) (wa : I64 a) (wb : I64 b) (wc : I64 c) (wd : I64 d) :
    Calls Try.prog 125 #[.agg #[.int .i64 a, .int .i64 b], .agg #[.int .i64 c, .int .i64 d]] w (Gives w (cmpV a b c d)) := by
  have s1 := fun w => sure_any a b w wa.1 wa.2 wb.1 wb.2
  have s2 := fun w => sure_any c d w wc.1 wc.2 wd.1 wd.2
  unfold cmpV
  cases t1 : sureB a b with
  | false =>
    rw [t1] at s1
    have S1 := Lib.hid s1; clear s1 s2 t1
    simp only [Bool.false_and, Bool.false_eq_true, if_false]
    go_enter Try.func125, Try.ntmps125
    go_wp2_with (first | (go_at_call 109; (with_reducible refine (S1.out _).mono ?_); rintro e w1 ⟨rfl, x1, rfl⟩))
    go_ret2
    exact ⟨rfl, (by repeat (first | exact grA | apply grB | apply grC | apply grD))⟩
  | true =>
    cases t2 : sureB c d with
    | false =>
      rw [t1] at s1; rw [t2] at s2
      have S1 := Lib.hid s1; have S2 := Lib.hid s2; clear s1 s2 t1 t2
      simp only [Bool.and_false, Bool.false_eq_true, if_false]
      go_enter Try.func125, Try.ntmps125
      go_wp2_with (first | (go_at_call 109; (with_reducible refine (S1.out _).mono ?_); rintro e w1 ⟨rfl, x1, rfl⟩) | (go_at_call 109; (with_reducible refine (S2.out _).mono ?_); rintro e w1 ⟨rfl, x1, rfl⟩))
      go_ret2
      exact ⟨rfl, (by repeat (first | exact grA | apply grB | apply grC | apply grD))⟩
    | true =>
      have hb := (sureB_yes t1).1
      have hd := (sureB_yes t2).1
      rw [t1] at s1; rw [t2] at s2
      have S1 := Lib.hid s1; have S2 := Lib.hid s2; clear s1 s2 t1 t2
      simp only [Bool.and_self, if_true]
      have n1 := fun w => size_any a w wa.1 wa.2
      have n2 := fun w => size_any c w wc.1 wc.2
      have ub : IntKind.u64.wrap b = (b.natAbs : Int) := by rw [IntWalk.u64_in _ ⟨by omega, by have := wb.2; omega⟩]; omega
      have ud : IntKind.u64.wrap d = (d.natAbs : Int) := by rw [IntWalk.u64_in _ ⟨by omega, by have := wd.2; omega⟩]; omega
      have m1 := fun w => mul64_any a.natAbs d.natAbs (by have := wa.1; have := wa.2; omega) (by have := wd.2; omega) w
      have m2 := fun w => mul64_any c.natAbs b.natAbs (by have := wc.1; have := wc.2; omega) (by have := wb.2; omega) w
      have hH := cmpH_eq (a.natAbs * d.natAbs) (c.natAbs * b.natAbs)
      have hP : 0 ≤ a → 0 ≤ c → cmpI a b c d = _ := fun x y => cmpI_pos x y hb hd
      have hN : a < 0 → c < 0 → cmpI a b c d = _ := fun x y => cmpI_neg x y hb hd
      have hL : a < 0 → 0 ≤ c → cmpI a b c d = _ := fun x y => cmpI_lo x y hb hd
      have hU : 0 ≤ a → c < 0 → cmpI a b c d = _ := fun x y => cmpI_hi x y hb hd
      rw [← hH] at hP hN
      have U1 := Lib.hid (fun (w : World) => n1 w); have U2 := Lib.hid (fun (w : World) => n2 w)
      generalize ((a.natAbs * d.natAbs / 18446744073709551616 : Nat) : Int) = p at *
      generalize ((a.natAbs * d.natAbs % 18446744073709551616 : Nat) : Int) = q at *
      generalize ((c.natAbs * b.natAbs / 18446744073709551616 : Nat) : Int) = r at *
      generalize ((c.natAbs * b.natAbs % 18446744073709551616 : Nat) : Int) = s at *
      have M1 := Lib.hid m1; have M2 := Lib.hid m2
      have HP := Lib.hid hP; have HN := Lib.hid hN; have HL := Lib.hid hL; have HU := Lib.hid hU
      clear n1 n2 m1 m2 hH hP hN hL hU wa wb wc wd
      by_cases ha : a < 0
      · by_cases hc : c < 0
        · have hR := HN.out ha hc
          clear HP HN HL HU
          generalize cmpI a b c d = R at *
          have HR := Lib.hid hR; clear hR
          go_enter Try.func125, Try.ntmps125
          go_wp2_with (first | (go_at_call 109; (with_reducible refine (S1.out _).mono ?_); rintro e w1 ⟨rfl, x1, rfl⟩) | (go_at_call 109; (with_reducible refine (S2.out _).mono ?_); rintro e w1 ⟨rfl, x1, rfl⟩))
          refine wp_region_plus_lit (by kernel_rfl) (by kernel_rfl) ?_
          repeat (go_big_quiet_step (first | (go_at_call 120; (with_reducible exact Calls.plus_of (gives_same (U1.out _)))) | (go_at_call 113; (with_reducible exact Calls.plus_of (gives_same (M1.out _))))))
          (refine wpQuiet_nil ?_; intro _ hw'; obtain ⟨xq, hw''⟩ := hw'; subst hw'')
          go_wp2_with fail
          refine wp_region_plus_lit (by kernel_rfl) (by kernel_rfl) ?_
          repeat (go_big_quiet_step (first | (go_at_call 120; (with_reducible exact Calls.plus_of (gives_same (U2.out _)))) | (go_at_call 113; (with_reducible exact Calls.plus_of (gives_same (M2.out _))))))
          (refine wpQuiet_nil ?_; intro _ hw'; obtain ⟨xq, hw''⟩ := hw'; subst hw'')
          go_wp2_with fail
          all_goals (go_ret2; exact ⟨ret_pair (by rw [HR.out]; unfold cmpH; repeat' split
                                                  all_goals first | omega | (simp_all; done) | (simp_all; omega)), (by repeat (first | exact grA | apply grB | apply grC | apply grD))⟩)
        · rw [HL.out ha (by omega)]
          clear HP HN HL HU
          have hc' : decide (c < 0) = false := by simpa using hc
          go_enter Try.func125, Try.ntmps125
          go_wp2_with (first | (go_at_call 109; (with_reducible refine (S1.out _).mono ?_); rintro e w1 ⟨rfl, x1, rfl⟩) | (go_at_call 109; (with_reducible refine (S2.out _).mono ?_); rintro e w1 ⟨rfl, x1, rfl⟩))
          go_ret2
          exact ⟨rfl, (by repeat (first | exact grA | apply grB | apply grC | apply grD))⟩
      · by_cases hc : c < 0
        · rw [HU.out (by omega) hc]
          clear HP HN HL HU
          have ha' : decide (a < 0) = false := by simpa using ha
          go_enter Try.func125, Try.ntmps125
          go_wp2_with (first | (go_at_call 109; (with_reducible refine (S1.out _).mono ?_); rintro e w1 ⟨rfl, x1, rfl⟩) | (go_at_call 109; (with_reducible refine (S2.out _).mono ?_); rintro e w1 ⟨rfl, x1, rfl⟩))
          go_ret2
          exact ⟨rfl, (by repeat (first | exact grA | apply grB | apply grC | apply grD))⟩
        · have hR := HP.out (by omega) (by omega)
          clear HP HN HL HU
          generalize cmpI a b c d = R at *
          have HR := Lib.hid hR; clear hR
          have ha' : decide (a < 0) = false := by simpa using ha
          have hc' : decide (c < 0) = false := by simpa using hc
          go_enter Try.func125, Try.ntmps125
          go_wp2_with (first | (go_at_call 109; (with_reducible refine (S1.out _).mono ?_); rintro e w1 ⟨rfl, x1, rfl⟩) | (go_at_call 109; (with_reducible refine (S2.out _).mono ?_); rintro e w1 ⟨rfl, x1, rfl⟩))
          refine wp_region_plus_lit (by kernel_rfl) (by kernel_rfl) ?_
          repeat (go_big_quiet_step (first | (go_at_call 120; (with_reducible exact Calls.plus_of (gives_same (U1.out _)))) | (go_at_call 113; (with_reducible exact Calls.plus_of (gives_same (M1.out _))))))
          (refine wpQuiet_nil ?_; intro _ hw'; obtain ⟨xq, hw''⟩ := hw'; subst hw'')
          go_wp2_with fail
          refine wp_region_plus_lit (by kernel_rfl) (by kernel_rfl) ?_
          repeat (go_big_quiet_step (first | (go_at_call 120; (with_reducible exact Calls.plus_of (gives_same (U2.out _)))) | (go_at_call 113; (with_reducible exact Calls.plus_of (gives_same (M2.out _))))))
          (refine wpQuiet_nil ?_; intro _ hw'; obtain ⟨xq, hw''⟩ := hw'; subst hw'')
          go_wp2_with fail
          all_goals (go_ret2; exact ⟨ret_pair (by rw [HR.out]; unfold cmpH; repeat' split
                                                  all_goals first | omega | (simp_all; done) | (simp_all; omega)), (by repeat (first | exact grA | apply grB | apply grC | apply grD))⟩)

set_option maxRecDepth 100000 in
theorem refMul_any (x y : Nat) (hx : x < 18446744073709551616) (hy : y < 18446744073709551616) (w : World) :
    Calls Try.prog 96 #[.int .u64 x, .int .u64 y] w (Gives w (.agg #[.int .u64 ((x * y / 18446744073709551616 : Nat) : Int), .int .u64 ((x * y % 18446744073709551616 : Nat) : Int)])) := by
  have m1 := fun w => mul64_any x y hx hy w
  generalize ((x * y / 18446744073709551616 : Nat) : Int) = p at *
  generalize ((x * y % 18446744073709551616 : Nat) : Int) = q at *
  have M1 := Lib.hid m1; clear m1 hx hy
  go_enter Try.func96, Try.ntmps96
  go_wp2_with (first | (go_at_call 113; (with_reducible refine (M1.out _).mono ?_); rintro e w1 ⟨rfl, rfl⟩) | ((with_reducible show bodyPost _ _ _ _ _ _); exact ret_99 rfl rfl (by simp [go_sem]) rfl ⟨by simp [go_sem], (by repeat (first | exact grA | apply grB | apply grC | apply grD))⟩))

theorem refOver_any (w : World) : Calls Try.prog 79 #[] w (Gives w (.agg #[.int .i64 0, .int .i64 0])) := by
  go_enter Try.func79, Try.ntmps79
  go_wp2_with (first | ((with_reducible show bodyPost _ _ _ _ _ _); exact ret_23 rfl rfl (by simp [go_sem]) rfl ⟨by simp [go_sem], (by repeat (first | exact grA | apply grB | apply grC | apply grD))⟩))

def lessH (p q r s : Int) : Bool := decide (p < r) || (p == r && decide (q < s))
set_option maxRecDepth 100000 in
set_option maxHeartbeats 1000000 in
theorem refLess_any (p q r s : Int) (w : World) : Calls Try.prog 100 #[.agg #[.int .u64 p, .int .u64 q], .agg #[.int .u64 r, .int .u64 s]] w (Gives w (.bool (lessH p q r s))) := by
  go_enter Try.func100, Try.ntmps100
  go_wp2_with fail
  all_goals (go_ret; exact ⟨ret_bool (by unfold lessH; simp_all; try omega), (by repeat (first | exact grA | apply grB | apply grC | apply grD))⟩)

end Go.Proofs.Ythmicnjigfcljaa

/- WALKS over jalousieref1: numbers of 128 bits. No condition but that numbers are of their kinds. -/
namespace Go.Proofs.Ythmicnjigfcljaa
open Go.RowKit

set_option maxRecDepth 100000 in
theorem half_any (x : Nat) (hx : x < endW) (w : World) : Calls Try.prog 126 #[valW x] w (Gives w (valW (x / 2))) := by
  have b1 := hiW_bd hx; have b2 := loW_bd x
  have e1 := hi_half x; have e2 := lo_half hx
  unfold valW
  generalize hiW x = p at *; generalize loW x = q at *
  have E1 := Lib.hid e1; have E2 := Lib.hid e2; clear e1 e2
  rw [← E1.out, ← E2.out]
  go_enter Try.func126, Try.ntmps126
  go_wp2_with (first | ((with_reducible show bodyPost _ _ _ _ _ _); exact ret_99 rfl rfl (by simp [go_sem]) rfl ⟨by simp [go_sem], (by repeat (first | exact grA | apply grB | apply grC | apply grD))⟩))

set_option maxRecDepth 100000 in
theorem twice_any (x : Nat) (hx : x < endW) (w : World) : Calls Try.prog 127 #[valW x] w (Gives w (valW (2 * x % endW))) := by
  have b1 := hiW_bd hx; have b2 := loW_bd x
  have e1 := hi_twice hx; have e2 := lo_twice x
  unfold valW
  generalize hiW x = p at *; generalize loW x = q at *
  have E1 := Lib.hid e1; have E2 := Lib.hid e2; clear e1 e2
  rw [← E1.out, ← E2.out]
  go_enter Try.func127, Try.ntmps127
  go_wp2_with (first | ((with_reducible show bodyPost _ _ _ _ _ _); exact ret_99 rfl rfl (by simp [go_sem]) rfl ⟨by simp [go_sem], (by repeat (first | exact grA | apply grB | apply grC | apply grD))⟩))

set_option maxRecDepth 100000 in
theorem none_any (x : Nat) (w : World) : Calls Try.prog 114 #[valW x] w (Gives w (.bool (decide (x = 0)))) := by
  have e1 := @none_iff x
  unfold valW
  generalize hiW x = p at *; generalize loW x = q at *
  have E1 := Lib.hid e1; clear e1
  go_enter Try.func114, Try.ntmps114
  go_wp2_with fail
  all_goals (go_ret; exact ⟨ret_bool (by rw [Bool.eq_iff_iff]; simp [← E1.out, *]), (by repeat (first | exact grA | apply grB | apply grC | apply grD))⟩)

theorem run_sub64 (x y b : Nat) (hb : b ≤ 1) (w : World) :
    (callFunc 118 #[.int .u64 x, .int .u64 y, .int .u64 b]).run Try.prog w =
      .ok (.value (.tuple #[.int .u64 (((x + 18446744073709551616 - y - b) % 18446744073709551616 : Nat) : Int), .int .u64 ((if x < y + b then 1 else 0 : Nat) : Int)])) w := by
  rw [run_callFunc_extern Try.func118 (by kernel_rfl) (by kernel_rfl) (by kernel_rfl) (e := sub64Entry) (by kernel_rfl), Go.Proofs.run_sub64 x y b hb]
  rfl

set_option maxRecDepth 100000 in
theorem sub_any (x y : Nat) (hx : x < endW) (hy : y < endW) (w : World) : Calls Try.prog 101 #[valW x, valW y] w (Gives w (valW ((x + endW - y % endW) % endW))) := by
  have r1 := fun w => run_sub64 (x % 18446744073709551616) (y % 18446744073709551616) 0 (by omega) w
  have r2 := fun w => run_sub64 (x / 18446744073709551616) (y / 18446744073709551616) (if x % 18446744073709551616 < y % 18446744073709551616 + 0 then 1 else 0) (by split <;> omega) w
  rw [subLo] at r1; rw [subHi x y hx hy] at r2
  change ∀ w, (callFunc _ #[.int .u64 (loW x), .int .u64 (loW y), .int .u64 0]).run _ w = _ at r1
  change ∀ w, (callFunc _ #[.int .u64 (hiW x), .int .u64 (hiW y), _]).run _ w = _ at r2
  unfold valW
  generalize hiW x = p at *; generalize loW x = q at *; generalize hiW y = r at *; generalize loW y = s at *
  generalize hiW ((x + endW - y % endW) % endW) = t at *; generalize loW ((x + endW - y % endW) % endW) = u at *
  generalize ((if x % 18446744073709551616 < y % 18446744073709551616 + 0 then 1 else 0 : Nat) : Int) = c at *
  go_enter Try.func101, Try.ntmps101
  go_wp2_with (first | ((with_reducible show bodyPost _ _ _ _ _ _); exact ret_99 rfl rfl (by simp [go_sem]) rfl ⟨by simp [go_sem], (by repeat (first | exact grA | apply grB | apply grC | apply grD))⟩))

set_option maxRecDepth 100000 in
theorem less_any (x y : Nat) (w : World) : Calls Try.prog 100 #[valW x, valW y] w (Gives w (.bool (decide (x < y)))) := by
  refine (refLess_any _ _ _ _ _).mono ?_
  rintro e w' ⟨rfl, h⟩
  exact ⟨ret_bool (by have := less_iff x y; rw [Bool.eq_iff_iff]; simp [lessH, ← this]), h⟩

end Go.Proofs.Ythmicnjigfcljaa
