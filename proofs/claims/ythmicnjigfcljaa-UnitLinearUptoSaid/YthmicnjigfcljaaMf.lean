/- Texts of the walk, one after the other; what each proves stands ahead of it. -/
import Derived.Test.YthmicnjigfcljaaMb
import Derived.Test.YthmicnjigfcljaaMe
set_option linter.unusedSimpArgs false
set_option linter.unusedVariables false
/- WALKS over jalousieref1: fractions in lowest terms, the quotient of two. No condition but that numbers are of their kinds and sizes. -/
namespace Go
theorem mkQ_over {neg : Bool} {n d : Nat} (h : 9223372036854775807 < n / Nat.gcd n d ∨ 9223372036854775807 < d / Nat.gcd n d) : mkQ neg n d = (0, 0) := by
  unfold mkQ madeQ; rw [if_pos (by omega)]
theorem mkQ_in {neg : Bool} {n d : Nat} (h1 : n / Nat.gcd n d ≤ 9223372036854775807) (h2 : d / Nat.gcd n d ≤ 9223372036854775807) (hd : 0 < d) : mkQ neg n d = (if neg then -((n / Nat.gcd n d : Nat) : Int) else (n / Nat.gcd n d : Nat), ((d / Nat.gcd n d : Nat) : Int)) := by
  have : 0 < d / Nat.gcd n d := Nat.div_pos (Nat.gcd_le_right _ hd) (Nat.gcd_pos_of_pos_right _ hd)
  unfold mkQ madeQ; rw [if_neg (by omega)]
theorem hiW_small {x : Nat} (h : x ≤ 9223372036854775807) : hiW x = 0 := by unfold hiW; omega
theorem loW_small {x : Nat} (h : x ≤ 9223372036854775807) : loW x = (x : Int) := by unfold loW; omega
theorem big_cases {x : Nat} (h : 9223372036854775807 < x) : 0 < hiW x ∨ hiW x = 0 ∧ 9223372036854775807 < loW x := by unfold hiW loW; omega
end Go
namespace Go.Proofs.Ythmicnjigfcljaa
open Go.RowKit

set_option maxRecDepth 100000 in
set_option maxHeartbeats 4000000 in
theorem refMade_any (neg : Bool) (n d : Nat) (hn : n < endW) (hd : 2 * d ≤ endW) (w : World) : Calls Try.prog 98 #[.bool neg, valW n, valW d] w (Gives w (ratV (mkQ neg n d))) := by
  have n1 := fun w => none_any d w
  by_cases hd0 : d = 0
  · simp only [hd0, decide_true] at n1
    rw [hd0, mkQ_none]; subst hd0
    have N1 := Lib.hid n1; clear n1 hn hd
    go_enter Try.func98, Try.ntmps98
    go_wp2_with (first | (go_at_call 114; (with_reducible refine (N1.out _).mono ?_); rintro e w1 ⟨rfl, x1, rfl⟩) | (go_at_call 79; (with_reducible refine (refOver_any _).mono ?_); rintro e w1 ⟨rfl, x1, rfl⟩) | ((with_reducible show bodyPost _ _ _ _ _ _); exact ret_23 rfl rfl (by simp [go_sem]) rfl ⟨by simp [go_sem], (by repeat (first | exact grA | apply grB | apply grC | apply grD))⟩))
  · simp only [hd0, decide_false] at n1
    have hdp : 0 < d := by omega
    have hg0 : 0 < Nat.gcd n d := Nat.gcd_pos_of_pos_right _ hdp
    have hgd : Nat.gcd n d ≤ d := Nat.gcd_le_right _ hdp
    have g1 := fun w => refGcd_any n d hn (by omega) hdp w
    have q1 := fun w => refDiv_any n (Nat.gcd n d) hn (by omega) hg0 w
    have q2 := fun w => refDiv_any d (Nat.gcd n d) (by omega) (by omega) hg0 w
    have N1 := Lib.hid n1; have G1 := Lib.hid g1; have Q1 := Lib.hid q1; have Q2 := Lib.hid q2; clear n1 g1 q1 q2 hd0 hg0 hgd
    by_cases hX : n / Nat.gcd n d ≤ 9223372036854775807
    · by_cases hY : d / Nat.gcd n d ≤ 9223372036854775807
      · rw [mkQ_in hX hY hdp]
        clear hn hd hdp
        generalize Nat.gcd n d = g at *
        generalize n / g = X at *
        generalize d / g = Y at *
        have x1 := hiW_small hX; have x2 := loW_small hX; have y1 := hiW_small hY; have y2 := loW_small hY
        have hX' : (X : Int) ≤ 9223372036854775807 := by omega
        have hY' : (Y : Int) ≤ 9223372036854775807 := by omega
        clear hX hY
        cases neg
        all_goals
          go_enter Try.func98, Try.ntmps98
          go_wp2_with (first | (go_at_call 114; (with_reducible refine (N1.out _).mono ?_); rintro e w1 ⟨rfl, x1, rfl⟩) | (go_at_call 115; (with_reducible refine (G1.out _).mono ?_); rintro e w1 ⟨rfl, x1, rfl⟩))
          refine wp_region_plus_tail 6 (by kernel_rfl) (by kernel_rfl) ?_
          simp only [List.take_succ_cons, List.take_zero, List.drop_succ_cons, List.drop_zero]
          repeat (go_big_quiet_step (first | (go_at_call 116; (with_reducible exact Calls.plus_of (Q1.out _))) | (go_at_call 116; (with_reducible exact Calls.plus_of (Q2.out _)))))
          refine wpQuiet_nil ?_; intro _ hw'; obtain ⟨xq, hw''⟩ := hw'; subst hw''
          go_wp2_with (first | ((with_reducible show bodyPost _ _ _ _ _ _); exact ret_23 rfl rfl (by simp [go_sem]) rfl ⟨by simp [go_sem], (by repeat (first | exact grA | apply grB | apply grC | apply grD))⟩))
      · rw [mkQ_over (.inr (by omega))]
        clear hn hd hdp
        generalize Nat.gcd n d = g at *
        generalize n / g = X at *
        generalize d / g = Y at *
        have x1 := hiW_small hX; have x2 := loW_small hX
        have hX' : (X : Int) ≤ 9223372036854775807 := by omega
        have hY := big_cases (x := Y) (by omega)
        clear hX
        rcases hY with hY | ⟨hY0, hY⟩
        all_goals
          go_enter Try.func98, Try.ntmps98
          go_wp2_with (first | (go_at_call 114; (with_reducible refine (N1.out _).mono ?_); rintro e w1 ⟨rfl, x1, rfl⟩) | (go_at_call 115; (with_reducible refine (G1.out _).mono ?_); rintro e w1 ⟨rfl, x1, rfl⟩))
          refine wp_region_plus_tail 6 (by kernel_rfl) (by kernel_rfl) ?_
          simp only [List.take_succ_cons, List.take_zero, List.drop_succ_cons, List.drop_zero]
          repeat (go_big_quiet_step (first | (go_at_call 116; (with_reducible exact Calls.plus_of (Q1.out _))) | (go_at_call 116; (with_reducible exact Calls.plus_of (Q2.out _)))))
          refine wpQuiet_nil ?_; intro _ hw'; obtain ⟨xq, hw''⟩ := hw'; subst hw''
          go_wp2_with (first | (go_at_call 79; (with_reducible refine (refOver_any _).mono ?_); rintro e w1 ⟨rfl, x1, rfl⟩) | ((with_reducible show bodyPost _ _ _ _ _ _); exact ret_23 rfl rfl (by simp [go_sem]) rfl ⟨by simp [go_sem], (by repeat (first | exact grA | apply grB | apply grC | apply grD))⟩))
    · rw [mkQ_over (.inl (by omega))]
      clear hn hd hdp
      generalize Nat.gcd n d = g at *
      generalize n / g = X at *
      generalize d / g = Y at *
      have hX := big_cases (x := X) (by omega)
      have hZ : 0 < hiW Y ∨ hiW Y = 0 := by unfold hiW; omega
      rcases hX with hX | ⟨hX0, hX⟩
      · go_enter Try.func98, Try.ntmps98
        go_wp2_with (first | (go_at_call 114; (with_reducible refine (N1.out _).mono ?_); rintro e w1 ⟨rfl, x1, rfl⟩) | (go_at_call 115; (with_reducible refine (G1.out _).mono ?_); rintro e w1 ⟨rfl, x1, rfl⟩))
        refine wp_region_plus_tail 6 (by kernel_rfl) (by kernel_rfl) ?_
        simp only [List.take_succ_cons, List.take_zero, List.drop_succ_cons, List.drop_zero]
        repeat (go_big_quiet_step (first | (go_at_call 116; (with_reducible exact Calls.plus_of (Q1.out _))) | (go_at_call 116; (with_reducible exact Calls.plus_of (Q2.out _)))))
        refine wpQuiet_nil ?_; intro _ hw'; obtain ⟨xq, hw''⟩ := hw'; subst hw''
        go_wp2_with (first | (go_at_call 79; (with_reducible refine (refOver_any _).mono ?_); rintro e w1 ⟨rfl, x1, rfl⟩) | ((with_reducible show bodyPost _ _ _ _ _ _); exact ret_23 rfl rfl (by simp [go_sem]) rfl ⟨by simp [go_sem], (by repeat (first | exact grA | apply grB | apply grC | apply grD))⟩))
      · rcases hZ with hZ | hZ
        all_goals
          go_enter Try.func98, Try.ntmps98
          go_wp2_with (first | (go_at_call 114; (with_reducible refine (N1.out _).mono ?_); rintro e w1 ⟨rfl, x1, rfl⟩) | (go_at_call 115; (with_reducible refine (G1.out _).mono ?_); rintro e w1 ⟨rfl, x1, rfl⟩))
          refine wp_region_plus_tail 6 (by kernel_rfl) (by kernel_rfl) ?_
          simp only [List.take_succ_cons, List.take_zero, List.drop_succ_cons, List.drop_zero]
          repeat (go_big_quiet_step (first | (go_at_call 116; (with_reducible exact Calls.plus_of (Q1.out _))) | (go_at_call 116; (with_reducible exact Calls.plus_of (Q2.out _)))))
          refine wpQuiet_nil ?_; intro _ hw'; obtain ⟨xq, hw''⟩ := hw'; subst hw''
          go_wp2_with (first | (go_at_call 79; (with_reducible refine (refOver_any _).mono ?_); rintro e w1 ⟨rfl, x1, rfl⟩) | ((with_reducible show bodyPost _ _ _ _ _ _); exact ret_23 rfl rfl (by simp [go_sem]) rfl ⟨by simp [go_sem], (by repeat (first | exact grA | apply grB | apply grC | apply grD))⟩))

end Go.Proofs.Ythmicnjigfcljaa

/- WALKS over jalousieref1 and rat: quotients and products of two. No condition but that numbers are of their kinds. -/
namespace Go.Proofs.Ythmicnjigfcljaa
open Go.RowKit

theorem mul_endW {x y : Nat} (hx : x ≤ 9223372036854775808) (hy : y ≤ 9223372036854775808) : x * y ≤ 85070591730234615865843651857942052864 := Nat.mul_le_mul hx hy

theorem refMulW_any (x y : Nat) (hx : x < 18446744073709551616) (hy : y < 18446744073709551616) (w : World) : Calls Try.prog 96 #[.int .u64 x, .int .u64 y] w (Gives w (valW (x * y))) := refMul_any x y hx hy w

set_option maxRecDepth 100000 in
set_option maxHeartbeats 4000000 in
theorem refDivQ_any (a b c d : Int) (w : World) (wa : I64 a) (wb : I64 b) (wc : I64 c) (wd : I64 d) :
    Calls Try.prog 105 #[.agg #[.int .i64 a, .int .i64 b], .agg #[.int .i64 c, .int .i64 d]] w (Gives w (ratV (divQ (a, b) (c, d)))) := by
  have s1 := fun w => refIs_any a b w wa.1 wa.2 wb.1 wb.2
  have s2 := fun w => refIs_any c d w wc.1 wc.2 wd.1 wd.2
  unfold divQ
  simp only
  cases t1 : sureB a b with
  | false =>
    rw [t1] at s1
    have S1 := Lib.hid s1; clear s1 s2 t1
    simp only [Bool.false_and, Bool.false_eq_true, if_false]
    go_enter Try.func105, Try.ntmps105
    go_wp2_with (first | (go_at_call 95; (with_reducible refine (S1.out _).mono ?_); rintro e w1 ⟨rfl, x1, rfl⟩) | (go_at_call 79; (with_reducible refine (refOver_any _).mono ?_); rintro e w1 ⟨rfl, x1, rfl⟩) | ((with_reducible show bodyPost _ _ _ _ _ _); exact ret_23 rfl rfl (by simp [go_sem]) rfl ⟨by simp [go_sem], (by repeat (first | exact grA | apply grB | apply grC | apply grD))⟩))
  | true =>
    cases t2 : sureB c d with
    | false =>
      rw [t1] at s1; rw [t2] at s2
      have S1 := Lib.hid s1; have S2 := Lib.hid s2; clear s1 s2 t1 t2
      simp only [Bool.true_and, Bool.false_and, Bool.false_eq_true, if_false]
      go_enter Try.func105, Try.ntmps105
      go_wp2_with (first | (go_at_call 95; (with_reducible refine (S1.out _).mono ?_); rintro e w1 ⟨rfl, x1, rfl⟩) | (go_at_call 95; (with_reducible refine (S2.out _).mono ?_); rintro e w1 ⟨rfl, x1, rfl⟩) | (go_at_call 79; (with_reducible refine (refOver_any _).mono ?_); rintro e w1 ⟨rfl, x1, rfl⟩) | ((with_reducible show bodyPost _ _ _ _ _ _); exact ret_23 rfl rfl (by simp [go_sem]) rfl ⟨by simp [go_sem], (by repeat (first | exact grA | apply grB | apply grC | apply grD))⟩))
    | true =>
      have hb := (sureB_yes t1).1
      have hd := (sureB_yes t2).1
      rw [t1] at s1; rw [t2] at s2
      have S1 := Lib.hid s1; have S2 := Lib.hid s2; clear s1 s2 t1 t2
      by_cases hc : c = 0
      · subst hc
        simp only [Bool.true_and, ne_eq, not_true_eq_false, decide_false, Bool.false_eq_true, if_false]
        go_enter Try.func105, Try.ntmps105
        go_wp2_with (first | (go_at_call 95; (with_reducible refine (S1.out _).mono ?_); rintro e w1 ⟨rfl, x1, rfl⟩) | (go_at_call 95; (with_reducible refine (S2.out _).mono ?_); rintro e w1 ⟨rfl, x1, rfl⟩) | (go_at_call 79; (with_reducible refine (refOver_any _).mono ?_); rintro e w1 ⟨rfl, x1, rfl⟩) | ((with_reducible show bodyPost _ _ _ _ _ _); exact ret_23 rfl rfl (by simp [go_sem]) rfl ⟨by simp [go_sem], (by repeat (first | exact grA | apply grB | apply grC | apply grD))⟩))
      · simp only [Bool.true_and, ne_eq, hc, not_false_eq_true, decide_true, if_true]
        have hc0 : (c == 0) = false := by simpa using hc
        have n1 := fun w => mag_any a w wa.1 wa.2
        have n2 := fun w => mag_any c w wc.1 wc.2
        have ub : IntKind.u64.wrap b = (b.natAbs : Int) := by rw [IntWalk.u64_in _ ⟨by omega, by have := wb.2; omega⟩]; omega
        have ud : IntKind.u64.wrap d = (d.natAbs : Int) := by rw [IntWalk.u64_in _ ⟨by omega, by have := wd.2; omega⟩]; omega
        have m1 := fun w => refMulW_any a.natAbs d.natAbs (by have := wa.1; have := wa.2; omega) (by have := wd.2; omega) w
        have m2 := fun w => refMulW_any b.natAbs c.natAbs (by have := wb.2; omega) (by have := wc.1; have := wc.2; omega) w
        have l1 : a.natAbs * d.natAbs ≤ 85070591730234615865843651857942052864 := mul_endW (by have := wa.1; have := wa.2; omega) (by have := wd.2; omega)
        have l2 : b.natAbs * c.natAbs ≤ 85070591730234615865843651857942052864 := mul_endW (by have := wb.2; omega) (by have := wc.1; have := wc.2; omega)
        have k1 := fun w => refMade_any (negB a != negB c) (a.natAbs * d.natAbs) (b.natAbs * c.natAbs) (by unfold endW; omega) (by unfold endW; omega) w
        have na : negB a = decide (a < 0) := rfl
        have nc : negB c = decide (c < 0) := rfl
        rw [na, nc] at k1 ⊢
        generalize a.natAbs * d.natAbs = N at *
        generalize b.natAbs * c.natAbs = D at *
        generalize mkQ (decide (a < 0) != decide (c < 0)) N D = R at *
        change ∀ w, Calls _ _ #[.bool (!(decide (a < 0) == decide (c < 0))), _, _] w _ at k1
        have U1 := Lib.hid (fun (w : World) => n1 w); have U2 := Lib.hid (fun (w : World) => n2 w)
        have M1 := Lib.hid m1; have M2 := Lib.hid m2; have K1 := Lib.hid k1
        clear n1 n2 m1 m2 k1 wa wb wc wd l1 l2 na nc hc
        go_enter Try.func105, Try.ntmps105
        go_wp2_with (first | (go_at_call 95; (with_reducible refine (S1.out _).mono ?_); rintro e w1 ⟨rfl, x1, rfl⟩) | (go_at_call 95; (with_reducible refine (S2.out _).mono ?_); rintro e w1 ⟨rfl, x1, rfl⟩))
        refine wp_region_plus_tail 22 (by kernel_rfl) (by kernel_rfl) ?_
        simp only [List.take_succ_cons, List.take_zero, List.drop_succ_cons, List.drop_zero]
        repeat (go_big_quiet_step (first | (go_at_call 97; (with_reducible exact Calls.plus_of (gives_same (U1.out _)))) | (go_at_call 97; (with_reducible exact Calls.plus_of (gives_same (U2.out _)))) | (go_at_call 96; (with_reducible exact Calls.plus_of (M1.out _))) | (go_at_call 96; (with_reducible exact Calls.plus_of (M2.out _))) | (go_at_call 98; (with_reducible exact Calls.plus_of (K1.out _)))))
        refine wpQuiet_nil ?_; intro _ hw'; obtain ⟨xq, hw''⟩ := hw'; subst hw''
        go_wp2_with (first | ((with_reducible show bodyPost _ _ _ _ _ _); exact ret_23 rfl rfl (by simp [go_sem]) rfl ⟨by simp [go_sem], (by repeat (first | exact grA | apply grB | apply grC | apply grD))⟩))

set_option maxRecDepth 100000 in
set_option maxHeartbeats 4000000 in
theorem ratMade_any (neg : Bool) (n d : Nat) (hn : n < 18446744073709551616) (hd : d < 18446744073709551616) (w : World) : Calls Try.prog 123 #[.bool neg, .int .u64 n, .int .u64 d] w (Gives w (ratV (madeQ neg n d))) := by
  unfold madeQ
  by_cases h1 : 9223372036854775807 < n
  · rw [if_pos (by omega)]
    have h1' : (9223372036854775807 : Int) < n := by omega
    clear h1 hn hd
    go_enter Try.func123, Try.ntmps123
    go_wp2_with (first | ((with_reducible show bodyPost _ _ _ _ _ _); exact ret_23 rfl rfl (by simp [go_sem]) rfl ⟨by simp [go_sem], (by repeat (first | exact grA | apply grB | apply grC | apply grD))⟩))
  · by_cases h2 : 9223372036854775807 < d
    · rw [if_pos (by omega)]
      have h1' : decide ((9223372036854775807 : Int) < n) = false := by simp; omega
      have h2' : (9223372036854775807 : Int) < d := by omega
      clear h1 h2 hn hd
      go_enter Try.func123, Try.ntmps123
      go_wp2_with (first | ((with_reducible show bodyPost _ _ _ _ _ _); exact ret_23 rfl rfl (by simp [go_sem]) rfl ⟨by simp [go_sem], (by repeat (first | exact grA | apply grB | apply grC | apply grD))⟩))
    · by_cases h3 : d = 0
      · rw [if_pos (by omega)]; subst h3
        have h1' : decide ((9223372036854775807 : Int) < n) = false := by simp; omega
        clear h1 h2 hn hd
        go_enter Try.func123, Try.ntmps123
        go_wp2_with (first | ((with_reducible show bodyPost _ _ _ _ _ _); exact ret_23 rfl rfl (by simp [go_sem]) rfl ⟨by simp [go_sem], (by repeat (first | exact grA | apply grB | apply grC | apply grD))⟩))
      · rw [if_neg (by omega)]
        have a1 : (0 : Int) ≤ n := by omega
        have a2 : (n : Int) ≤ 9223372036854775807 := by omega
        have b1 : (0 : Int) < d := by omega
        have b2 : (d : Int) ≤ 9223372036854775807 := by omega
        have b3 : ((d : Int) == 0) = false := by simp; omega
        have b4 : decide ((9223372036854775807 : Int) < d) = false := by simp; omega
        have b5 : decide ((9223372036854775807 : Int) < n) = false := by simp; omega
        generalize (n : Int) = X at *
        generalize (d : Int) = Y at *
        clear h1 h2 h3 hn hd
        cases neg
        all_goals
          go_enter Try.func123, Try.ntmps123
          go_wp2_with (first | ((with_reducible show bodyPost _ _ _ _ _ _); exact ret_23 rfl rfl (by simp [go_sem]) rfl ⟨by simp [go_sem], (by repeat (first | exact grA | apply grB | apply grC | apply grD))⟩))

end Go.Proofs.Ythmicnjigfcljaa

/- WALKS over rat: products of two fractions. No condition but that both may be and are not over. -/
namespace Go
theorem tdivN (a b : Nat) : Int.tdiv (a : Int) (b : Int) = ((a / b : Nat) : Int) := (Int.ofNat_tdiv a b).symm
end Go
namespace Go.Proofs.Ythmicnjigfcljaa
open Go.RowKit

theorem gcdN_any (a b : Nat) (w : World) (ha : a < 18446744073709551616) (hb : b < 18446744073709551616) :
    Calls Try.prog 119 #[.int .u64 (a : Int), .int .u64 (b : Int)] w (Gives w (.int .u64 ((Nat.gcd a b : Nat) : Int))) := gives_same (gcd_any a b w (by omega) (by omega) (by omega) (by omega))

set_option maxRecDepth 100000 in
set_option maxHeartbeats 4000000 in
theorem times_any (a b c d : Int) (w : World) (wa : I64 a) (wb : I64 b) (wc : I64 c) (wd : I64 d) (h1 : sureB a b = true) (h2 : sureB c d = true) :
    Calls Try.prog 104 #[.agg #[.int .i64 a, .int .i64 b], .agg #[.int .i64 c, .int .i64 d]] w (Gives w (ratV (mkQ (negB a != negB c) (a.natAbs * c.natAbs) (b.natAbs * d.natAbs)))) := by
  have hb := (sureB_yes h1).1
  have hd := (sureB_yes h2).1
  by_cases ha0 : a = 0
  · subst ha0
    rw [Int.natAbs_zero, Nat.zero_mul, mkQ_zero _ (Nat.mul_pos (by omega) (by omega))]
    clear h1 h2 wa wb wc wd hb hd
    go_enter Try.func104, Try.ntmps104
    go_wp2_with (first | ((with_reducible show bodyPost _ _ _ _ _ _); exact ret_23 rfl rfl (by simp [go_sem]) rfl ⟨by simp [go_sem], (by repeat (first | exact grA | apply grB | apply grC | apply grD))⟩))
  · have ha1 : (a == 0) = false := by simpa using ha0
    by_cases hc0 : c = 0
    · subst hc0
      rw [Int.natAbs_zero, Nat.mul_zero, mkQ_zero _ (Nat.mul_pos (by omega) (by omega))]
      clear h1 h2 wa wb wc wd hb hd
      go_enter Try.func104, Try.ntmps104
      go_wp2_with (first | ((with_reducible show bodyPost _ _ _ _ _ _); exact ret_23 rfl rfl (by simp [go_sem]) rfl ⟨by simp [go_sem], (by repeat (first | exact grA | apply grB | apply grC | apply grD))⟩))
    · have hc1 : (c == 0) = false := by simpa using hc0
      rw [times_law (by omega) (by omega) (sure_gcd h1) (sure_gcd h2)]
      have n1 := fun w => size_any a w wa.1 wa.2
      have n2 := fun w => size_any c w wc.1 wc.2
      have ub : IntKind.u64.wrap b = (b.natAbs : Int) := by rw [IntWalk.u64_in _ ⟨by omega, by have := wb.2; omega⟩]; omega
      have ud : IntKind.u64.wrap d = (d.natAbs : Int) := by rw [IntWalk.u64_in _ ⟨by omega, by have := wd.2; omega⟩]; omega
      have ba : a.natAbs < 18446744073709551616 := by have := wa.1; have := wa.2; omega
      have bb : b.natAbs < 18446744073709551616 := by have := wb.1; have := wb.2; omega
      have bc : c.natAbs < 18446744073709551616 := by have := wc.1; have := wc.2; omega
      have bd : d.natAbs < 18446744073709551616 := by have := wd.1; have := wd.2; omega
      have g1 := fun w => gcdN_any a.natAbs d.natAbs w ba bd
      have k1 := fun w => gcdN_any c.natAbs b.natAbs w bc bb
      have hg : 0 < Nat.gcd a.natAbs d.natAbs := Nat.gcd_pos_of_pos_right _ (by omega)
      have hk : 0 < Nat.gcd c.natAbs b.natAbs := Nat.gcd_pos_of_pos_right _ (by omega)
      have na : negB a = decide (a < 0) := rfl
      have nc : negB c = decide (c < 0) := rfl
      rw [na, nc]
      have U1 := Lib.hid (fun (w : World) => n1 w); have U2 := Lib.hid (fun (w : World) => n2 w)
      generalize a.natAbs = A at *
      generalize b.natAbs = B at *
      generalize c.natAbs = C at *
      generalize d.natAbs = D at *
      generalize Nat.gcd A D = g at *
      generalize Nat.gcd C B = k at *
      have l1 : A / g ≤ A := Nat.div_le_self _ _
      have l2 : B / k ≤ B := Nat.div_le_self _ _
      have l3 : C / k ≤ C := Nat.div_le_self _ _
      have l4 : D / g ≤ D := Nat.div_le_self _ _
      have m1 := fun w => mul64_any (A / g) (C / k) (by omega) (by omega) w
      have m2 := fun w => mul64_any (B / k) (D / g) (by omega) (by omega) w
      have d1 : Int.tdiv (A : Int) (g : Int) = ((A / g : Nat) : Int) := tdivN _ _
      have d2 : Int.tdiv (C : Int) (k : Int) = ((C / k : Nat) : Int) := tdivN _ _
      have d3 : Int.tdiv (B : Int) (k : Int) = ((B / k : Nat) : Int) := tdivN _ _
      have d4 : Int.tdiv (D : Int) (g : Int) = ((D / g : Nat) : Int) := tdivN _ _
      have z1 : (g : Int) ≠ 0 := by omega
      have z2 : (k : Int) ≠ 0 := by omega
      have w1 : IntKind.u64.wrap ((A / g : Nat) : Int) = ((A / g : Nat) : Int) := wrapN _ (by omega)
      have w2 : IntKind.u64.wrap ((C / k : Nat) : Int) = ((C / k : Nat) : Int) := wrapN _ (by omega)
      have w3 : IntKind.u64.wrap ((B / k : Nat) : Int) = ((B / k : Nat) : Int) := wrapN _ (by omega)
      have w4 : IntKind.u64.wrap ((D / g : Nat) : Int) = ((D / g : Nat) : Int) := wrapN _ (by omega)
      have G1 := Lib.hid g1; have K1 := Lib.hid k1
      generalize (A : Int) = AI at *
      generalize (B : Int) = BI at *
      generalize (C : Int) = CI at *
      generalize (D : Int) = DI at *
      generalize (g : Int) = gI at *
      generalize (k : Int) = kI at *
      generalize A / g = A' at *
      generalize B / k = B' at *
      generalize C / k = C' at *
      generalize D / g = D' at *
      clear n1 n2 g1 k1 na nc hb hd ba bb bc bd l1 l2 l3 l4 wa wb wc wd h1 h2 ha0 hc0 hg hk
      by_cases hN : A' * C' < 18446744073709551616
      · by_cases hD : B' * D' < 18446744073709551616
        · have e1 : A' * C' / 18446744073709551616 = 0 := by omega
          have e2 : A' * C' % 18446744073709551616 = A' * C' := by omega
          have e3 : B' * D' / 18446744073709551616 = 0 := by omega
          have e4 : B' * D' % 18446744073709551616 = B' * D' := by omega
          rw [e1, e2] at m1; rw [e3, e4] at m2
          have r1 := fun w => ratMade_any (decide (a < 0) != decide (c < 0)) (A' * C') (B' * D') hN hD w
          generalize madeQ (decide (a < 0) != decide (c < 0)) (A' * C') (B' * D') = R at *
          change ∀ w, Calls _ _ #[.bool (!(decide (a < 0) == decide (c < 0))), _, _] w _ at r1
          generalize A' * C' = N at *
          generalize B' * D' = M at *
          generalize (A' : Int) = AI' at *
          generalize (B' : Int) = BI' at *
          generalize (C' : Int) = CI' at *
          generalize (D' : Int) = DI' at *
          have M1 := Lib.hid m1; have M2 := Lib.hid m2; have R1 := Lib.hid r1
          clear e1 e2 e3 e4 m1 m2 r1 hN hD
          go_enter Try.func104, Try.ntmps104
          go_wp2_with fail
          refine wp_region_plus_lit (by kernel_rfl) (by kernel_rfl) ?_
          repeat (go_big_quiet_step (first | (go_at_call 120; (with_reducible exact Calls.plus_of (gives_same (U1.out _)))) | (go_at_call 120; (with_reducible exact Calls.plus_of (gives_same (U2.out _)))) | (go_at_call 119; (with_reducible exact Calls.plus_of (G1.out _))) | (go_at_call 119; (with_reducible exact Calls.plus_of (K1.out _)))))
          (refine wpQuiet_nil ?_; intro _ hw'; obtain ⟨xq, hw''⟩ := hw'; subst hw'')
          go_wp2_with fail
          refine wp_region_plus_lit (by kernel_rfl) (by kernel_rfl) ?_
          repeat (go_big_quiet_step (first | (go_at_call 120; (with_reducible exact Calls.plus_of (gives_same (U1.out _)))) | (go_at_call 120; (with_reducible exact Calls.plus_of (gives_same (U2.out _)))) | (go_at_call 113; (with_reducible exact Calls.plus_of (gives_same (M1.out _))))))
          (refine wpQuiet_nil ?_; intro _ hw'; obtain ⟨xq, hw''⟩ := hw'; subst hw'')
          go_wp2_with fail
          refine wp_region_plus_lit (by kernel_rfl) (by kernel_rfl) ?_
          repeat (go_big_quiet_step (first | (go_at_call 113; (with_reducible exact Calls.plus_of (gives_same (M2.out _))))))
          (refine wpQuiet_nil ?_; intro _ hw'; obtain ⟨xq, hw''⟩ := hw'; subst hw'')
          go_wp2_with (first | (go_at_call 123; (with_reducible refine (R1.out _).mono ?_); rintro e w1 ⟨rfl, x1, rfl⟩) | ((with_reducible show bodyPost _ _ _ _ _ _); exact ret_23 rfl rfl (by simp [go_sem]) rfl ⟨by simp [go_sem], (by repeat (first | exact grA | apply grB | apply grC | apply grD))⟩))
        · have er : madeQ (decide (a < 0) != decide (c < 0)) (A' * C') (B' * D') = (0, 0) := by unfold madeQ; rw [if_pos (by omega)]
          rw [er]; clear er
          have e1 : A' * C' / 18446744073709551616 = 0 := by omega
          have e3 : (0 : Int) < ((B' * D' / 18446744073709551616 : Nat) : Int) := by omega
          rw [e1] at m1
          clear e1 hN hD
          generalize ((B' * D' / 18446744073709551616 : Nat) : Int) = p at *
          generalize ((B' * D' % 18446744073709551616 : Nat) : Int) = q at *
          generalize ((A' * C' % 18446744073709551616 : Nat) : Int) = r at *
          generalize (A' : Int) = AI' at *
          generalize (B' : Int) = BI' at *
          generalize (C' : Int) = CI' at *
          generalize (D' : Int) = DI' at *
          have M1 := Lib.hid m1; have M2 := Lib.hid m2; clear m1 m2
          go_enter Try.func104, Try.ntmps104
          go_wp2_with fail
          refine wp_region_plus_lit (by kernel_rfl) (by kernel_rfl) ?_
          repeat (go_big_quiet_step (first | (go_at_call 120; (with_reducible exact Calls.plus_of (gives_same (U1.out _)))) | (go_at_call 120; (with_reducible exact Calls.plus_of (gives_same (U2.out _)))) | (go_at_call 119; (with_reducible exact Calls.plus_of (G1.out _))) | (go_at_call 119; (with_reducible exact Calls.plus_of (K1.out _)))))
          (refine wpQuiet_nil ?_; intro _ hw'; obtain ⟨xq, hw''⟩ := hw'; subst hw'')
          go_wp2_with fail
          refine wp_region_plus_lit (by kernel_rfl) (by kernel_rfl) ?_
          repeat (go_big_quiet_step (first | (go_at_call 120; (with_reducible exact Calls.plus_of (gives_same (U1.out _)))) | (go_at_call 120; (with_reducible exact Calls.plus_of (gives_same (U2.out _)))) | (go_at_call 113; (with_reducible exact Calls.plus_of (gives_same (M1.out _))))))
          (refine wpQuiet_nil ?_; intro _ hw'; obtain ⟨xq, hw''⟩ := hw'; subst hw'')
          go_wp2_with fail
          refine wp_region_plus_lit (by kernel_rfl) (by kernel_rfl) ?_
          repeat (go_big_quiet_step (first | (go_at_call 113; (with_reducible exact Calls.plus_of (gives_same (M2.out _))))))
          (refine wpQuiet_nil ?_; intro _ hw'; obtain ⟨xq, hw''⟩ := hw'; subst hw'')
          go_wp2_with (first | ((with_reducible show bodyPost _ _ _ _ _ _); exact ret_23 rfl rfl (by simp [go_sem]) rfl ⟨by simp [go_sem], (by repeat (first | exact grA | apply grB | apply grC | apply grD))⟩))
      · have er : madeQ (decide (a < 0) != decide (c < 0)) (A' * C') (B' * D') = (0, 0) := by unfold madeQ; rw [if_pos (by omega)]
        rw [er]; clear er
        have e3 : (0 : Int) < ((A' * C' / 18446744073709551616 : Nat) : Int) := by omega
        clear hN
        generalize ((B' * D' / 18446744073709551616 : Nat) : Int) = p at *
        generalize ((B' * D' % 18446744073709551616 : Nat) : Int) = q at *
        generalize ((A' * C' % 18446744073709551616 : Nat) : Int) = r at *
        generalize ((A' * C' / 18446744073709551616 : Nat) : Int) = s at *
        generalize (A' : Int) = AI' at *
        generalize (B' : Int) = BI' at *
        generalize (C' : Int) = CI' at *
        generalize (D' : Int) = DI' at *
        have M1 := Lib.hid m1; have M2 := Lib.hid m2; clear m1 m2
        go_enter Try.func104, Try.ntmps104
        go_wp2_with fail
        refine wp_region_plus_lit (by kernel_rfl) (by kernel_rfl) ?_
        repeat (go_big_quiet_step (first | (go_at_call 120; (with_reducible exact Calls.plus_of (gives_same (U1.out _)))) | (go_at_call 120; (with_reducible exact Calls.plus_of (gives_same (U2.out _)))) | (go_at_call 119; (with_reducible exact Calls.plus_of (G1.out _))) | (go_at_call 119; (with_reducible exact Calls.plus_of (K1.out _)))))
        (refine wpQuiet_nil ?_; intro _ hw'; obtain ⟨xq, hw''⟩ := hw'; subst hw'')
        go_wp2_with fail
        refine wp_region_plus_lit (by kernel_rfl) (by kernel_rfl) ?_
        repeat (go_big_quiet_step (first | (go_at_call 120; (with_reducible exact Calls.plus_of (gives_same (U1.out _)))) | (go_at_call 120; (with_reducible exact Calls.plus_of (gives_same (U2.out _)))) | (go_at_call 113; (with_reducible exact Calls.plus_of (gives_same (M1.out _))))))
        (refine wpQuiet_nil ?_; intro _ hw'; obtain ⟨xq, hw''⟩ := hw'; subst hw'')
        go_wp2_with fail
        refine wp_region_plus_lit (by kernel_rfl) (by kernel_rfl) ?_
        repeat (go_big_quiet_step (first | (go_at_call 113; (with_reducible exact Calls.plus_of (gives_same (M2.out _))))))
        (refine wpQuiet_nil ?_; intro _ hw'; obtain ⟨xq, hw''⟩ := hw'; subst hw'')
        go_wp2_with (first | ((with_reducible show bodyPost _ _ _ _ _ _); exact ret_23 rfl rfl (by simp [go_sem]) rfl ⟨by simp [go_sem], (by repeat (first | exact grA | apply grB | apply grC | apply grD))⟩))

set_option maxRecDepth 100000 in
theorem times_mul (a b c d : Int) (w : World) (wa : I64 a) (wb : I64 b) (wc : I64 c) (wd : I64 d) (h1 : sureB a b = true) (h2 : sureB c d = true) :
    Calls Try.prog 104 #[.agg #[.int .i64 a, .int .i64 b], .agg #[.int .i64 c, .int .i64 d]] w (Gives w (ratV (mulQ (a, b) (c, d)))) := by
  have := times_any a b c d w wa wb wc wd h1 h2
  have e : mulQ (a, b) (c, d) = mkQ (negB a != negB c) (a.natAbs * c.natAbs) (b.natAbs * d.natAbs) := by unfold mulQ; simp only [h1, h2, Bool.and_self, if_true]
  rw [e]; exact this

end Go.Proofs.Ythmicnjigfcljaa
