/- WALKS over rat: the sum of two fractions, a part by signs. No condition but that both may be and are not over. -/
import Derived.Test.YthmicnjigfcljaaMk
set_option linter.unusedSimpArgs false
set_option linter.unusedVariables false
namespace Go.Proofs.Ythmicnjigfcljaa
open Go.RowKit

set_option maxRecDepth 100000 in
set_option maxHeartbeats 8000000 in
theorem plusNP_any (a b c d : Int) (w : World) (wa : I64 a) (wb : I64 b) (wc : I64 c) (wd : I64 d) (ha : a < 0) (hc : ¬ c < 0) (h1 : sureB a b = true) (h2 : sureB c d = true) :
    Calls Try.prog 103 #[.agg #[.int .i64 a, .int .i64 b], .agg #[.int .i64 c, .int .i64 d]] w (Gives w (ratV (addQ (a, b) (c, d)))) := by
  have hb := (sureB_yes h1).1
  have hd := (sureB_yes h2).1
  have hpr := fun neg S => @addQ_prog a b c d h1 h2 neg S
  generalize addQ (a, b) (c, d) = R at *
  obtain ⟨R1, R2⟩ := R
  have n1 := fun w => size_any a w wa.1 wa.2
  have n2 := fun w => size_any c w wc.1 wc.2
  have ub : IntKind.u64.wrap b = (b.natAbs : Int) := by rw [IntWalk.u64_in _ ⟨by omega, by have := wb.2; omega⟩]; omega
  have ud : IntKind.u64.wrap d = (d.natAbs : Int) := by rw [IntWalk.u64_in _ ⟨by omega, by have := wd.2; omega⟩]; omega
  have ba : a.natAbs ≤ 9223372036854775808 := by have := wa.1; have := wa.2; omega
  have bb : b.natAbs ≤ 9223372036854775807 := by have := wb.1; have := wb.2; omega
  have bc : c.natAbs ≤ 9223372036854775808 := by have := wc.1; have := wc.2; omega
  have bd : d.natAbs ≤ 9223372036854775807 := by have := wd.1; have := wd.2; omega
  have hB : 0 < b.natAbs := by omega
  have hD : 0 < d.natAbs := by omega
  have na : negB a = decide (a < 0) := rfl
  have nc : negB c = decide (c < 0) := rfl
  rw [na, nc] at hpr
  have U1 := Lib.hid (fun (w : World) => n1 w); have U2 := Lib.hid (fun (w : World) => n2 w)
  clear n1 n2 na nc hb hd h1 h2 wa wb wc wd
  generalize a.natAbs = A at *
  generalize b.natAbs = B at *
  generalize c.natAbs = C at *
  generalize d.natAbs = D at *
  have g1 := fun w => gcdN_any B D w (by omega) (by omega)
  have hg : 0 < Nat.gcd B D := Nat.gcd_pos_of_pos_left _ hB
  have hgD : Nat.gcd B D ≤ D := Nat.gcd_le_right _ hD
  generalize Nat.gcd B D = g at *
  have l1 : D / g ≤ D := Nat.div_le_self _ _
  have l2 : B / g ≤ B := Nat.div_le_self _ _
  have m1 := fun w => mul64_any A (D / g) (by omega) (by omega) w
  have m2 := fun w => mul64_any C (B / g) (by omega) (by omega) w
  have d1 : (D : Int).tdiv (g : Int) = ((D / g : Nat) : Int) := tdivN _ _
  have d2 : (B : Int).tdiv (g : Int) = ((B / g : Nat) : Int) := tdivN _ _
  have w1 : IntKind.u64.wrap ((D / g : Nat) : Int) = ((D / g : Nat) : Int) := wrapN _ (by omega)
  have w2 : IntKind.u64.wrap ((B / g : Nat) : Int) = ((B / g : Nat) : Int) := wrapN _ (by omega)
  have bX : A * (D / g) ≤ 85070591730234615865843651857942052864 := mul_endW ba (by omega)
  have bY : C * (B / g) ≤ 85070591730234615865843651857942052864 := mul_endW bc (by omega)
  have z1 : (g : Int) ≠ 0 := by omega
  obtain ⟨DI, gD⟩ : ∃ v : Int, v = (D : Int) := ⟨_, rfl⟩
  obtain ⟨BI, gB⟩ : ∃ v : Int, v = (B : Int) := ⟨_, rfl⟩
  obtain ⟨gI, gg⟩ : ∃ v : Int, v = (g : Int) := ⟨_, rfl⟩
  obtain ⟨oI, go⟩ : ∃ v : Int, v = ((D / g : Nat) : Int) := ⟨_, rfl⟩
  obtain ⟨uI, gu⟩ : ∃ v : Int, v = ((B / g : Nat) : Int) := ⟨_, rfl⟩
  rw [← gD] at ud; rw [← gB] at ub
  rw [← gg] at z1
  rw [← gD, ← gg, ← go] at d1
  rw [← gB, ← gg, ← gu] at d2
  rw [← go] at w1 m1; rw [← gu] at w2 m2
  rw [← gB, ← gD, ← gg] at g1
  have G1 := Lib.hid g1; clear g1
  have GD := Lib.hid gD; have GG := Lib.hid gg; have GU := Lib.hid gu
  generalize D / g = o at *
  generalize hun : B / g = un at *
  generalize A * o = X at *
  generalize C * un = Y at *
  have v1 := fun w => run_add64 (X % 18446744073709551616) (Y % 18446744073709551616) 0 (by omega) (by omega) (by omega) w
  have v2 := fun w => run_add64 (X / 18446744073709551616) (Y / 18446744073709551616) ((X % 18446744073709551616 + Y % 18446744073709551616 + 0) / 18446744073709551616) (by omega) (by omega) (by omega) w
  rw [addLo] at v1; rw [addHi (by unfold endW; omega)] at v2
  change ∀ w, (callFunc _ #[.int .u64 (loW X), .int .u64 (loW Y), .int .u64 0]).run _ w = _ at v1
  change ∀ w, (callFunc _ #[.int .u64 (hiW X), .int .u64 (hiW Y), _]).run _ w = _ at v2
  generalize (((X % 18446744073709551616 + Y % 18446744073709551616 + 0) / 18446744073709551616 : Nat) : Int) = cr at *
  generalize (((X / 18446744073709551616 + Y / 18446744073709551616 + (X % 18446744073709551616 + Y % 18446744073709551616 + 0) / 18446744073709551616) / 18446744073709551616 : Nat) : Int) = cr2 at *
  have x1 : ∀ x y : Nat, x ≤ 85070591730234615865843651857942052864 → y ≤ 85070591730234615865843651857942052864 → y ≤ x → ∃ br br2 : Int, (∀ w, (callFunc 118 #[.int .u64 (loW x), .int .u64 (loW y), .int .u64 0]).run Try.prog w = .ok (.value (.tuple #[.int .u64 (loW (x - y)), .int .u64 br])) w) ∧
      (∀ w, (callFunc 118 #[.int .u64 (hiW x), .int .u64 (hiW y), .int .u64 br]).run Try.prog w = .ok (.value (.tuple #[.int .u64 (hiW (x - y)), .int .u64 br2])) w) := fun x y hx hy hle => by
    have r1 := fun w => run_sub64 (x % 18446744073709551616) (y % 18446744073709551616) 0 (by omega) w
    have r2 := fun w => run_sub64 (x / 18446744073709551616) (y / 18446744073709551616) (if x % 18446744073709551616 < y % 18446744073709551616 + 0 then 1 else 0) (by split <;> omega) w
    have ex : x < endW := by unfold endW; omega
    have ey : y < endW := by unfold endW; omega
    rw [subLo, sub_le ex hle] at r1; rw [subHi x y ex ey, sub_le ex hle] at r2
    exact ⟨_, _, r1, r2⟩
  change ∀ w, Calls _ _ _ w fun e w' => e = .returned (.tuple #[.int .u64 (hiW X), .int .u64 (loW X)]) ∧ w = w' at m1
  change ∀ w, Calls _ _ _ w fun e w' => e = .returned (.tuple #[.int .u64 (hiW Y), .int .u64 (loW Y)]) ∧ w = w' at m2
  have hL := less_iff X Y
  have M1 := Lib.hid m1; have M2 := Lib.hid m2; have HL := Lib.hid hL; have X1 := Lib.hid x1; have HP := Lib.hid hpr
  clear m1 m2 hL x1 hpr gD gB gg go gu
  have ha' : decide (a < 0) = true := by simpa using ha
  have hc' : decide (c < 0) = false := by simpa using hc
  rw [ha', hc'] at HP
  clear v1 v2
  by_cases hlt : X < Y
  · have HR := HP.out false (Y - X) (.inr (.inr ⟨by simp, rfl, rfl, hlt⟩))
    obtain ⟨br, br2, s1, s2⟩ := X1.out Y X bY bX (by omega)
    have hlw := HL.out.2 hlt
    have hcmp : hiW X < hiW Y ∨ ((hiW X < hiW Y) = False ∧ (hiW X == hiW Y) = true ∧ loW X < loW Y) := by
      rcases hlw with h | ⟨h, h'⟩
      · exact .inl h
      · exact .inr ⟨by simp; omega, by simpa using h, h'⟩
    clear HP HL X1 hlw
    rcases hcmp with q1 | ⟨q1, q2, q3⟩
    all_goals
      have hSe : Y - X < endW := by unfold endW; omega
      generalize Y - X = S at *
      have hk : 0 < Nat.gcd (S % g) g := Nat.gcd_pos_of_pos_right _ hg
      have hkg : Nat.gcd (S % g) g ≤ g := Nat.gcd_le_right _ hg
      have r1 := fun w => rem64_any (S / 18446744073709551616) (S % 18446744073709551616) g (by unfold endW at hSe; omega) (by omega) hg (by omega) w
      rw [whole_split, ← GG.out] at r1
      change ∀ w, Calls _ _ #[.int .u64 (hiW S), .int .u64 (loW S), _] w _ at r1
      have r2 := fun w => gcdN_any (S % g) g w (by have := Nat.mod_lt S hg; omega) (by omega)
      rw [← GG.out] at r2
      have hrg := Nat.mod_lt S hg
      generalize ((S % g : Nat) : Int) = rI at *
      generalize Nat.gcd (S % g) g = k at *
      have Q1 := Lib.hid r1; have Q2 := Lib.hid r2; clear r1 r2 hrg
      obtain ⟨kI, gk⟩ : ∃ v : Int, v = (k : Int) := ⟨_, rfl⟩
      rw [← gk] at Q2
      have ki : hiW S = ((S / 18446744073709551616 : Nat) : Int) := rfl
      by_cases hS0 : S = 0
      · subst hS0
        rw [if_pos rfl] at HR
        obtain ⟨rfl, rfl⟩ := Prod.mk.inj HR
        have o1 : hiW 0 = 0 := rfl
        have o2 : loW 0 = 0 := rfl
        clear HR ki hSe gk hk hkg ba bb bc bd hB hD hg hgD l1 l2 bX bY hun
        go_enter Try.func103, Try.ntmps103
        go_wp2_with (first | (go_at_call 119; (with_reducible refine (G1.out _).mono ?_); rintro e w1 ⟨rfl, x1, rfl⟩))
        refine wp_region_plus_lit (by kernel_rfl) (by kernel_rfl) ?_
        repeat (go_big_quiet_step (fail))
        (refine wpQuiet_nil ?_; intro _ hw'; obtain ⟨xq, hw''⟩ := hw'; subst hw'')
        go_wp2_with (first | (go_at_call 120; (with_reducible refine (gives_same (U1.out _)).mono ?_); rintro e w1 ⟨rfl, x1, rfl⟩) | (go_at_call 120; (with_reducible refine (gives_same (U2.out _)).mono ?_); rintro e w1 ⟨rfl, x1, rfl⟩) | (go_at_call 113; (with_reducible refine (gives_same (M1.out _)).mono ?_); rintro e w1 ⟨rfl, x1, rfl⟩) | (go_at_call 113; (with_reducible refine (gives_same (M2.out _)).mono ?_); rintro e w1 ⟨rfl, x1, rfl⟩) | ((with_reducible show bodyPost _ _ _ _ _ _); exact ret_23 rfl rfl (by simp [go_sem]) rfl ⟨by simp [go_sem], (by repeat (first | exact grA | apply grB | apply grC | apply grD))⟩))
      · rw [if_neg hS0] at HR
        by_cases hbig : k ≤ S / 18446744073709551616
        · have o1 : (hiW S == 0) = false := by simp; omega
          have o2 : kI ≤ hiW S := by omega
          have hq : 18446744073709551616 ≤ S / k := by rw [Nat.le_div_iff_mul_le hk]; have := Nat.div_add_mod S 18446744073709551616; have := Nat.mul_le_mul_left 18446744073709551616 hbig; omega
          have hov : madeQ false (S / k) (un * (D / k)) = (0, 0) := by unfold madeQ; rw [if_pos (.inl (by omega))]
          rw [hov] at HR
          obtain ⟨rfl, rfl⟩ := Prod.mk.inj HR
          clear HR ki hSe gk hk hkg hq hov hbig hS0 ba bb bc bd hB hD hg hgD l1 l2 bX bY hun
          go_enter Try.func103, Try.ntmps103
          go_wp2_with (first | (go_at_call 119; (with_reducible refine (G1.out _).mono ?_); rintro e w1 ⟨rfl, x1, rfl⟩))
          refine wp_region_plus_lit (by kernel_rfl) (by kernel_rfl) ?_
          repeat (go_big_quiet_step (fail))
          (refine wpQuiet_nil ?_; intro _ hw'; obtain ⟨xq, hw''⟩ := hw'; subst hw'')
          go_wp2_with (first | (go_at_call 120; (with_reducible refine (gives_same (U1.out _)).mono ?_); rintro e w1 ⟨rfl, x1, rfl⟩) | (go_at_call 120; (with_reducible refine (gives_same (U2.out _)).mono ?_); rintro e w1 ⟨rfl, x1, rfl⟩) | (go_at_call 113; (with_reducible refine (gives_same (M1.out _)).mono ?_); rintro e w1 ⟨rfl, x1, rfl⟩) | (go_at_call 113; (with_reducible refine (gives_same (M2.out _)).mono ?_); rintro e w1 ⟨rfl, x1, rfl⟩) | (go_at_call 121; (with_reducible refine (Q1.out _).mono ?_); rintro e w1 ⟨rfl, x1, rfl⟩) | (go_at_call 119; (with_reducible refine (Q2.out _).mono ?_); rintro e w1 ⟨rfl, x1, rfl⟩) | ((with_reducible show bodyPost _ _ _ _ _ _); exact ret_23 rfl rfl (by simp [go_sem]) rfl ⟨by simp [go_sem], (by repeat (first | exact grA | apply grB | apply grC | apply grD))⟩))
        · have o2 : ¬ kI ≤ hiW S := by omega
          have hk1 : k < 18446744073709551616 := by omega
          have r3 := fun w => div64_any (S / 18446744073709551616) (S % 18446744073709551616) k (by omega) (by omega) hk1 w
          rw [whole_split, ← gk] at r3
          change ∀ w, Calls _ _ #[.int .u64 (hiW S), .int .u64 (loW S), _] w _ at r3
          have hqs : S / k < 18446744073709551616 := by
            rw [Nat.div_lt_iff_lt_mul hk]; have := Nat.div_add_mod S 18446744073709551616
            have := Nat.mul_le_mul_left 18446744073709551616 (show S / 18446744073709551616 + 1 ≤ k by omega); omega
          have l3 : D / k ≤ D := Nat.div_le_self _ _
          have r4 := fun w => mul64_any un (D / k) (by omega) (by omega) w
          rw [← GU.out] at r4
          have d3 : DI.tdiv kI = ((D / k : Nat) : Int) := by rw [GD.out, gk]; exact tdivN _ _
          have w3 : IntKind.u64.wrap ((D / k : Nat) : Int) = ((D / k : Nat) : Int) := wrapN _ (by omega)
          have d4 : DI / kI = ((D / k : Nat) : Int) := by rw [GD.out, gk]; exact (Int.natCast_ediv D k).symm
          have b1 : 0 ≤ DI := by rw [GD.out]; omega
          have b2 : DI ≤ 18446744073709551615 := by rw [GD.out]; omega
          have b3 : 1 ≤ kI := by omega
          have b4 : kI ≠ 0 := by omega
          obtain ⟨qI, gq⟩ : ∃ v : Int, v = ((D / k : Nat) : Int) := ⟨_, rfl⟩
          rw [← gq] at r4 d3 w3 d4
          have r5 := fun hw w => ratMade_any (false) (S / k) (un * (D / k)) hqs hw w
          generalize S / k = N at *
          generalize un * (D / k) = W at *
          obtain ⟨NI, gn⟩ : ∃ v : Int, v = (N : Int) := ⟨_, rfl⟩
          rw [← gn] at r3
          generalize (((S % k : Nat)) : Int) = rem at *
          have Q3 := Lib.hid r3
          have hz : hiW S = 0 ∧ (loW S == 0) = false ∨ (hiW S == 0) = false := by
            by_cases h : hiW S = 0
            · refine .inl ⟨h, ?_⟩
              have : loW S ≠ 0 := fun e => hS0 (none_iff.1 ⟨h, e⟩)
              simpa using this
            · exact .inr (by simpa using h)
          by_cases hw : W < 18446744073709551616
          · have e1 : W / 18446744073709551616 = 0 := by omega
            have e2 : W % 18446744073709551616 = W := by omega
            rw [e1, e2] at r4
            have r6 := fun w => r5 hw w
            rw [← HR, ← gn] at r6
            generalize (W : Int) = WI at *
            have Q4 := Lib.hid r4; have Q5 := Lib.hid r6
            clear HR ki hSe gk hk hkg hbig hS0 hk1 r3 hqs l3 r4 r5 r6 gq gn hw e1 e2 ba bb bc bd hB hD hg hgD l1 l2 bX bY hun
            rcases hz with ⟨o1, o3⟩ | o1
            · rw [o1] at Q1 Q3 o2
              go_enter Try.func103, Try.ntmps103
              go_wp2_with (first | (go_at_call 119; (with_reducible refine (G1.out _).mono ?_); rintro e w1 ⟨rfl, x1, rfl⟩))
              refine wp_region_plus_lit (by kernel_rfl) (by kernel_rfl) ?_
              repeat (go_big_quiet_step (fail))
              (refine wpQuiet_nil ?_; intro _ hw'; obtain ⟨xq, hw''⟩ := hw'; subst hw'')
              go_wp2_with (first | (go_at_call 120; (with_reducible refine (gives_same (U1.out _)).mono ?_); rintro e w1 ⟨rfl, x1, rfl⟩) | (go_at_call 120; (with_reducible refine (gives_same (U2.out _)).mono ?_); rintro e w1 ⟨rfl, x1, rfl⟩) | (go_at_call 113; (with_reducible refine (gives_same (M1.out _)).mono ?_); rintro e w1 ⟨rfl, x1, rfl⟩) | (go_at_call 113; (with_reducible refine (gives_same (M2.out _)).mono ?_); rintro e w1 ⟨rfl, x1, rfl⟩) | (go_at_call 121; (with_reducible refine (Q1.out _).mono ?_); rintro e w1 ⟨rfl, x1, rfl⟩) | (go_at_call 119; (with_reducible refine (Q2.out _).mono ?_); rintro e w1 ⟨rfl, x1, rfl⟩) | (go_at_call 122; (with_reducible refine (Q3.out _).mono ?_); rintro e w1 ⟨rfl, x1, rfl⟩) | (go_at_call 113; (with_reducible refine (gives_same (Q4.out _)).mono ?_); rintro e w1 ⟨rfl, x1, rfl⟩) | (go_at_call 123; (with_reducible refine (Q5.out _).mono ?_); rintro e w1 ⟨rfl, x1, rfl⟩) | ((with_reducible show bodyPost _ _ _ _ _ _); exact ret_23 rfl rfl (by simp [go_sem]) rfl ⟨by simp [go_sem], (by repeat (first | exact grA | apply grB | apply grC | apply grD))⟩))
            · skip
              go_enter Try.func103, Try.ntmps103
              go_wp2_with (first | (go_at_call 119; (with_reducible refine (G1.out _).mono ?_); rintro e w1 ⟨rfl, x1, rfl⟩))
              refine wp_region_plus_lit (by kernel_rfl) (by kernel_rfl) ?_
              repeat (go_big_quiet_step (fail))
              (refine wpQuiet_nil ?_; intro _ hw'; obtain ⟨xq, hw''⟩ := hw'; subst hw'')
              go_wp2_with (first | (go_at_call 120; (with_reducible refine (gives_same (U1.out _)).mono ?_); rintro e w1 ⟨rfl, x1, rfl⟩) | (go_at_call 120; (with_reducible refine (gives_same (U2.out _)).mono ?_); rintro e w1 ⟨rfl, x1, rfl⟩) | (go_at_call 113; (with_reducible refine (gives_same (M1.out _)).mono ?_); rintro e w1 ⟨rfl, x1, rfl⟩) | (go_at_call 113; (with_reducible refine (gives_same (M2.out _)).mono ?_); rintro e w1 ⟨rfl, x1, rfl⟩) | (go_at_call 121; (with_reducible refine (Q1.out _).mono ?_); rintro e w1 ⟨rfl, x1, rfl⟩) | (go_at_call 119; (with_reducible refine (Q2.out _).mono ?_); rintro e w1 ⟨rfl, x1, rfl⟩) | (go_at_call 122; (with_reducible refine (Q3.out _).mono ?_); rintro e w1 ⟨rfl, x1, rfl⟩) | (go_at_call 113; (with_reducible refine (gives_same (Q4.out _)).mono ?_); rintro e w1 ⟨rfl, x1, rfl⟩) | (go_at_call 123; (with_reducible refine (Q5.out _).mono ?_); rintro e w1 ⟨rfl, x1, rfl⟩) | ((with_reducible show bodyPost _ _ _ _ _ _); exact ret_23 rfl rfl (by simp [go_sem]) rfl ⟨by simp [go_sem], (by repeat (first | exact grA | apply grB | apply grC | apply grD))⟩))
          · have hov : madeQ (false) N W = (0, 0) := by unfold madeQ; rw [if_pos (.inr (.inl (by omega)))]
            rw [hov] at HR
            obtain ⟨rfl, rfl⟩ := Prod.mk.inj HR
            have e3 : (0 : Int) < ((W / 18446744073709551616 : Nat) : Int) := by omega
            generalize ((W / 18446744073709551616 : Nat) : Int) = wh at *
            generalize ((W % 18446744073709551616 : Nat) : Int) = wl at *
            have Q4 := Lib.hid r4
            clear HR ki hSe gk hk hkg hbig hS0 hk1 r3 hqs l3 r4 r5 gq gn hw hov ba bb bc bd hB hD hg hgD l1 l2 bX bY hun
            rcases hz with ⟨o1, o3⟩ | o1
            · rw [o1] at Q1 Q3 o2
              go_enter Try.func103, Try.ntmps103
              go_wp2_with (first | (go_at_call 119; (with_reducible refine (G1.out _).mono ?_); rintro e w1 ⟨rfl, x1, rfl⟩))
              refine wp_region_plus_lit (by kernel_rfl) (by kernel_rfl) ?_
              repeat (go_big_quiet_step (fail))
              (refine wpQuiet_nil ?_; intro _ hw'; obtain ⟨xq, hw''⟩ := hw'; subst hw'')
              go_wp2_with (first | (go_at_call 120; (with_reducible refine (gives_same (U1.out _)).mono ?_); rintro e w1 ⟨rfl, x1, rfl⟩) | (go_at_call 120; (with_reducible refine (gives_same (U2.out _)).mono ?_); rintro e w1 ⟨rfl, x1, rfl⟩) | (go_at_call 113; (with_reducible refine (gives_same (M1.out _)).mono ?_); rintro e w1 ⟨rfl, x1, rfl⟩) | (go_at_call 113; (with_reducible refine (gives_same (M2.out _)).mono ?_); rintro e w1 ⟨rfl, x1, rfl⟩) | (go_at_call 121; (with_reducible refine (Q1.out _).mono ?_); rintro e w1 ⟨rfl, x1, rfl⟩) | (go_at_call 119; (with_reducible refine (Q2.out _).mono ?_); rintro e w1 ⟨rfl, x1, rfl⟩) | (go_at_call 122; (with_reducible refine (Q3.out _).mono ?_); rintro e w1 ⟨rfl, x1, rfl⟩) | (go_at_call 113; (with_reducible refine (gives_same (Q4.out _)).mono ?_); rintro e w1 ⟨rfl, x1, rfl⟩) | ((with_reducible show bodyPost _ _ _ _ _ _); exact ret_23 rfl rfl (by simp [go_sem]) rfl ⟨by simp [go_sem], (by repeat (first | exact grA | apply grB | apply grC | apply grD))⟩))
            · skip
              go_enter Try.func103, Try.ntmps103
              go_wp2_with (first | (go_at_call 119; (with_reducible refine (G1.out _).mono ?_); rintro e w1 ⟨rfl, x1, rfl⟩))
              refine wp_region_plus_lit (by kernel_rfl) (by kernel_rfl) ?_
              repeat (go_big_quiet_step (fail))
              (refine wpQuiet_nil ?_; intro _ hw'; obtain ⟨xq, hw''⟩ := hw'; subst hw'')
              go_wp2_with (first | (go_at_call 120; (with_reducible refine (gives_same (U1.out _)).mono ?_); rintro e w1 ⟨rfl, x1, rfl⟩) | (go_at_call 120; (with_reducible refine (gives_same (U2.out _)).mono ?_); rintro e w1 ⟨rfl, x1, rfl⟩) | (go_at_call 113; (with_reducible refine (gives_same (M1.out _)).mono ?_); rintro e w1 ⟨rfl, x1, rfl⟩) | (go_at_call 113; (with_reducible refine (gives_same (M2.out _)).mono ?_); rintro e w1 ⟨rfl, x1, rfl⟩) | (go_at_call 121; (with_reducible refine (Q1.out _).mono ?_); rintro e w1 ⟨rfl, x1, rfl⟩) | (go_at_call 119; (with_reducible refine (Q2.out _).mono ?_); rintro e w1 ⟨rfl, x1, rfl⟩) | (go_at_call 122; (with_reducible refine (Q3.out _).mono ?_); rintro e w1 ⟨rfl, x1, rfl⟩) | (go_at_call 113; (with_reducible refine (gives_same (Q4.out _)).mono ?_); rintro e w1 ⟨rfl, x1, rfl⟩) | ((with_reducible show bodyPost _ _ _ _ _ _); exact ret_23 rfl rfl (by simp [go_sem]) rfl ⟨by simp [go_sem], (by repeat (first | exact grA | apply grB | apply grC | apply grD))⟩))
  · have HR := HP.out true (X - Y) (.inr (.inl ⟨by simp, rfl, rfl, by omega⟩))
    obtain ⟨br, br2, s1, s2⟩ := X1.out X Y bX bY (by omega)
    have hlw := fun h => hlt (HL.out.1 h)
    have q1 : ¬ hiW X < hiW Y := fun h => hlw (.inl h)
    have hcmp : (hiW X == hiW Y) = false ∨ ((hiW X == hiW Y) = true ∧ ¬ loW X < loW Y) := by
      by_cases h : hiW X = hiW Y
      · exact .inr ⟨by simpa using h, fun h' => hlw (.inr ⟨h, h'⟩)⟩
      · exact .inl (by simpa using h)
    clear HP HL X1 hlw
    rcases hcmp with q2 | ⟨q2, q3⟩
    all_goals
      have hSe : X - Y < endW := by unfold endW; omega
      generalize X - Y = S at *
      have hk : 0 < Nat.gcd (S % g) g := Nat.gcd_pos_of_pos_right _ hg
      have hkg : Nat.gcd (S % g) g ≤ g := Nat.gcd_le_right _ hg
      have r1 := fun w => rem64_any (S / 18446744073709551616) (S % 18446744073709551616) g (by unfold endW at hSe; omega) (by omega) hg (by omega) w
      rw [whole_split, ← GG.out] at r1
      change ∀ w, Calls _ _ #[.int .u64 (hiW S), .int .u64 (loW S), _] w _ at r1
      have r2 := fun w => gcdN_any (S % g) g w (by have := Nat.mod_lt S hg; omega) (by omega)
      rw [← GG.out] at r2
      have hrg := Nat.mod_lt S hg
      generalize ((S % g : Nat) : Int) = rI at *
      generalize Nat.gcd (S % g) g = k at *
      have Q1 := Lib.hid r1; have Q2 := Lib.hid r2; clear r1 r2 hrg
      obtain ⟨kI, gk⟩ : ∃ v : Int, v = (k : Int) := ⟨_, rfl⟩
      rw [← gk] at Q2
      have ki : hiW S = ((S / 18446744073709551616 : Nat) : Int) := rfl
      by_cases hS0 : S = 0
      · subst hS0
        rw [if_pos rfl] at HR
        obtain ⟨rfl, rfl⟩ := Prod.mk.inj HR
        have o1 : hiW 0 = 0 := rfl
        have o2 : loW 0 = 0 := rfl
        clear HR ki hSe gk hk hkg ba bb bc bd hB hD hg hgD l1 l2 bX bY hun
        go_enter Try.func103, Try.ntmps103
        go_wp2_with (first | (go_at_call 119; (with_reducible refine (G1.out _).mono ?_); rintro e w1 ⟨rfl, x1, rfl⟩))
        refine wp_region_plus_lit (by kernel_rfl) (by kernel_rfl) ?_
        repeat (go_big_quiet_step (fail))
        (refine wpQuiet_nil ?_; intro _ hw'; obtain ⟨xq, hw''⟩ := hw'; subst hw'')
        go_wp2_with (first | (go_at_call 120; (with_reducible refine (gives_same (U1.out _)).mono ?_); rintro e w1 ⟨rfl, x1, rfl⟩) | (go_at_call 120; (with_reducible refine (gives_same (U2.out _)).mono ?_); rintro e w1 ⟨rfl, x1, rfl⟩) | (go_at_call 113; (with_reducible refine (gives_same (M1.out _)).mono ?_); rintro e w1 ⟨rfl, x1, rfl⟩) | (go_at_call 113; (with_reducible refine (gives_same (M2.out _)).mono ?_); rintro e w1 ⟨rfl, x1, rfl⟩) | ((with_reducible show bodyPost _ _ _ _ _ _); exact ret_23 rfl rfl (by simp [go_sem]) rfl ⟨by simp [go_sem], (by repeat (first | exact grA | apply grB | apply grC | apply grD))⟩))
      · rw [if_neg hS0] at HR
        by_cases hbig : k ≤ S / 18446744073709551616
        · have o1 : (hiW S == 0) = false := by simp; omega
          have o2 : kI ≤ hiW S := by omega
          have hq : 18446744073709551616 ≤ S / k := by rw [Nat.le_div_iff_mul_le hk]; have := Nat.div_add_mod S 18446744073709551616; have := Nat.mul_le_mul_left 18446744073709551616 hbig; omega
          have hov : madeQ true (S / k) (un * (D / k)) = (0, 0) := by unfold madeQ; rw [if_pos (.inl (by omega))]
          rw [hov] at HR
          obtain ⟨rfl, rfl⟩ := Prod.mk.inj HR
          clear HR ki hSe gk hk hkg hq hov hbig hS0 ba bb bc bd hB hD hg hgD l1 l2 bX bY hun
          go_enter Try.func103, Try.ntmps103
          go_wp2_with (first | (go_at_call 119; (with_reducible refine (G1.out _).mono ?_); rintro e w1 ⟨rfl, x1, rfl⟩))
          refine wp_region_plus_lit (by kernel_rfl) (by kernel_rfl) ?_
          repeat (go_big_quiet_step (fail))
          (refine wpQuiet_nil ?_; intro _ hw'; obtain ⟨xq, hw''⟩ := hw'; subst hw'')
          go_wp2_with (first | (go_at_call 120; (with_reducible refine (gives_same (U1.out _)).mono ?_); rintro e w1 ⟨rfl, x1, rfl⟩) | (go_at_call 120; (with_reducible refine (gives_same (U2.out _)).mono ?_); rintro e w1 ⟨rfl, x1, rfl⟩) | (go_at_call 113; (with_reducible refine (gives_same (M1.out _)).mono ?_); rintro e w1 ⟨rfl, x1, rfl⟩) | (go_at_call 113; (with_reducible refine (gives_same (M2.out _)).mono ?_); rintro e w1 ⟨rfl, x1, rfl⟩) | (go_at_call 121; (with_reducible refine (Q1.out _).mono ?_); rintro e w1 ⟨rfl, x1, rfl⟩) | (go_at_call 119; (with_reducible refine (Q2.out _).mono ?_); rintro e w1 ⟨rfl, x1, rfl⟩) | ((with_reducible show bodyPost _ _ _ _ _ _); exact ret_23 rfl rfl (by simp [go_sem]) rfl ⟨by simp [go_sem], (by repeat (first | exact grA | apply grB | apply grC | apply grD))⟩))
        · have o2 : ¬ kI ≤ hiW S := by omega
          have hk1 : k < 18446744073709551616 := by omega
          have r3 := fun w => div64_any (S / 18446744073709551616) (S % 18446744073709551616) k (by omega) (by omega) hk1 w
          rw [whole_split, ← gk] at r3
          change ∀ w, Calls _ _ #[.int .u64 (hiW S), .int .u64 (loW S), _] w _ at r3
          have hqs : S / k < 18446744073709551616 := by
            rw [Nat.div_lt_iff_lt_mul hk]; have := Nat.div_add_mod S 18446744073709551616
            have := Nat.mul_le_mul_left 18446744073709551616 (show S / 18446744073709551616 + 1 ≤ k by omega); omega
          have l3 : D / k ≤ D := Nat.div_le_self _ _
          have r4 := fun w => mul64_any un (D / k) (by omega) (by omega) w
          rw [← GU.out] at r4
          have d3 : DI.tdiv kI = ((D / k : Nat) : Int) := by rw [GD.out, gk]; exact tdivN _ _
          have w3 : IntKind.u64.wrap ((D / k : Nat) : Int) = ((D / k : Nat) : Int) := wrapN _ (by omega)
          have d4 : DI / kI = ((D / k : Nat) : Int) := by rw [GD.out, gk]; exact (Int.natCast_ediv D k).symm
          have b1 : 0 ≤ DI := by rw [GD.out]; omega
          have b2 : DI ≤ 18446744073709551615 := by rw [GD.out]; omega
          have b3 : 1 ≤ kI := by omega
          have b4 : kI ≠ 0 := by omega
          obtain ⟨qI, gq⟩ : ∃ v : Int, v = ((D / k : Nat) : Int) := ⟨_, rfl⟩
          rw [← gq] at r4 d3 w3 d4
          have r5 := fun hw w => ratMade_any (true) (S / k) (un * (D / k)) hqs hw w
          generalize S / k = N at *
          generalize un * (D / k) = W at *
          obtain ⟨NI, gn⟩ : ∃ v : Int, v = (N : Int) := ⟨_, rfl⟩
          rw [← gn] at r3
          generalize (((S % k : Nat)) : Int) = rem at *
          have Q3 := Lib.hid r3
          have hz : hiW S = 0 ∧ (loW S == 0) = false ∨ (hiW S == 0) = false := by
            by_cases h : hiW S = 0
            · refine .inl ⟨h, ?_⟩
              have : loW S ≠ 0 := fun e => hS0 (none_iff.1 ⟨h, e⟩)
              simpa using this
            · exact .inr (by simpa using h)
          by_cases hw : W < 18446744073709551616
          · have e1 : W / 18446744073709551616 = 0 := by omega
            have e2 : W % 18446744073709551616 = W := by omega
            rw [e1, e2] at r4
            have r6 := fun w => r5 hw w
            rw [← HR, ← gn] at r6
            generalize (W : Int) = WI at *
            have Q4 := Lib.hid r4; have Q5 := Lib.hid r6
            clear HR ki hSe gk hk hkg hbig hS0 hk1 r3 hqs l3 r4 r5 r6 gq gn hw e1 e2 ba bb bc bd hB hD hg hgD l1 l2 bX bY hun
            rcases hz with ⟨o1, o3⟩ | o1
            · rw [o1] at Q1 Q3 o2
              go_enter Try.func103, Try.ntmps103
              go_wp2_with (first | (go_at_call 119; (with_reducible refine (G1.out _).mono ?_); rintro e w1 ⟨rfl, x1, rfl⟩))
              refine wp_region_plus_lit (by kernel_rfl) (by kernel_rfl) ?_
              repeat (go_big_quiet_step (fail))
              (refine wpQuiet_nil ?_; intro _ hw'; obtain ⟨xq, hw''⟩ := hw'; subst hw'')
              go_wp2_with (first | (go_at_call 120; (with_reducible refine (gives_same (U1.out _)).mono ?_); rintro e w1 ⟨rfl, x1, rfl⟩) | (go_at_call 120; (with_reducible refine (gives_same (U2.out _)).mono ?_); rintro e w1 ⟨rfl, x1, rfl⟩) | (go_at_call 113; (with_reducible refine (gives_same (M1.out _)).mono ?_); rintro e w1 ⟨rfl, x1, rfl⟩) | (go_at_call 113; (with_reducible refine (gives_same (M2.out _)).mono ?_); rintro e w1 ⟨rfl, x1, rfl⟩) | (go_at_call 121; (with_reducible refine (Q1.out _).mono ?_); rintro e w1 ⟨rfl, x1, rfl⟩) | (go_at_call 119; (with_reducible refine (Q2.out _).mono ?_); rintro e w1 ⟨rfl, x1, rfl⟩) | (go_at_call 122; (with_reducible refine (Q3.out _).mono ?_); rintro e w1 ⟨rfl, x1, rfl⟩) | (go_at_call 113; (with_reducible refine (gives_same (Q4.out _)).mono ?_); rintro e w1 ⟨rfl, x1, rfl⟩) | (go_at_call 123; (with_reducible refine (Q5.out _).mono ?_); rintro e w1 ⟨rfl, x1, rfl⟩) | ((with_reducible show bodyPost _ _ _ _ _ _); exact ret_23 rfl rfl (by simp [go_sem]) rfl ⟨by simp [go_sem], (by repeat (first | exact grA | apply grB | apply grC | apply grD))⟩))
            · skip
              go_enter Try.func103, Try.ntmps103
              go_wp2_with (first | (go_at_call 119; (with_reducible refine (G1.out _).mono ?_); rintro e w1 ⟨rfl, x1, rfl⟩))
              refine wp_region_plus_lit (by kernel_rfl) (by kernel_rfl) ?_
              repeat (go_big_quiet_step (fail))
              (refine wpQuiet_nil ?_; intro _ hw'; obtain ⟨xq, hw''⟩ := hw'; subst hw'')
              go_wp2_with (first | (go_at_call 120; (with_reducible refine (gives_same (U1.out _)).mono ?_); rintro e w1 ⟨rfl, x1, rfl⟩) | (go_at_call 120; (with_reducible refine (gives_same (U2.out _)).mono ?_); rintro e w1 ⟨rfl, x1, rfl⟩) | (go_at_call 113; (with_reducible refine (gives_same (M1.out _)).mono ?_); rintro e w1 ⟨rfl, x1, rfl⟩) | (go_at_call 113; (with_reducible refine (gives_same (M2.out _)).mono ?_); rintro e w1 ⟨rfl, x1, rfl⟩) | (go_at_call 121; (with_reducible refine (Q1.out _).mono ?_); rintro e w1 ⟨rfl, x1, rfl⟩) | (go_at_call 119; (with_reducible refine (Q2.out _).mono ?_); rintro e w1 ⟨rfl, x1, rfl⟩) | (go_at_call 122; (with_reducible refine (Q3.out _).mono ?_); rintro e w1 ⟨rfl, x1, rfl⟩) | (go_at_call 113; (with_reducible refine (gives_same (Q4.out _)).mono ?_); rintro e w1 ⟨rfl, x1, rfl⟩) | (go_at_call 123; (with_reducible refine (Q5.out _).mono ?_); rintro e w1 ⟨rfl, x1, rfl⟩) | ((with_reducible show bodyPost _ _ _ _ _ _); exact ret_23 rfl rfl (by simp [go_sem]) rfl ⟨by simp [go_sem], (by repeat (first | exact grA | apply grB | apply grC | apply grD))⟩))
          · have hov : madeQ (true) N W = (0, 0) := by unfold madeQ; rw [if_pos (.inr (.inl (by omega)))]
            rw [hov] at HR
            obtain ⟨rfl, rfl⟩ := Prod.mk.inj HR
            have e3 : (0 : Int) < ((W / 18446744073709551616 : Nat) : Int) := by omega
            generalize ((W / 18446744073709551616 : Nat) : Int) = wh at *
            generalize ((W % 18446744073709551616 : Nat) : Int) = wl at *
            have Q4 := Lib.hid r4
            clear HR ki hSe gk hk hkg hbig hS0 hk1 r3 hqs l3 r4 r5 gq gn hw hov ba bb bc bd hB hD hg hgD l1 l2 bX bY hun
            rcases hz with ⟨o1, o3⟩ | o1
            · rw [o1] at Q1 Q3 o2
              go_enter Try.func103, Try.ntmps103
              go_wp2_with (first | (go_at_call 119; (with_reducible refine (G1.out _).mono ?_); rintro e w1 ⟨rfl, x1, rfl⟩))
              refine wp_region_plus_lit (by kernel_rfl) (by kernel_rfl) ?_
              repeat (go_big_quiet_step (fail))
              (refine wpQuiet_nil ?_; intro _ hw'; obtain ⟨xq, hw''⟩ := hw'; subst hw'')
              go_wp2_with (first | (go_at_call 120; (with_reducible refine (gives_same (U1.out _)).mono ?_); rintro e w1 ⟨rfl, x1, rfl⟩) | (go_at_call 120; (with_reducible refine (gives_same (U2.out _)).mono ?_); rintro e w1 ⟨rfl, x1, rfl⟩) | (go_at_call 113; (with_reducible refine (gives_same (M1.out _)).mono ?_); rintro e w1 ⟨rfl, x1, rfl⟩) | (go_at_call 113; (with_reducible refine (gives_same (M2.out _)).mono ?_); rintro e w1 ⟨rfl, x1, rfl⟩) | (go_at_call 121; (with_reducible refine (Q1.out _).mono ?_); rintro e w1 ⟨rfl, x1, rfl⟩) | (go_at_call 119; (with_reducible refine (Q2.out _).mono ?_); rintro e w1 ⟨rfl, x1, rfl⟩) | (go_at_call 122; (with_reducible refine (Q3.out _).mono ?_); rintro e w1 ⟨rfl, x1, rfl⟩) | (go_at_call 113; (with_reducible refine (gives_same (Q4.out _)).mono ?_); rintro e w1 ⟨rfl, x1, rfl⟩) | ((with_reducible show bodyPost _ _ _ _ _ _); exact ret_23 rfl rfl (by simp [go_sem]) rfl ⟨by simp [go_sem], (by repeat (first | exact grA | apply grB | apply grC | apply grD))⟩))
            · skip
              go_enter Try.func103, Try.ntmps103
              go_wp2_with (first | (go_at_call 119; (with_reducible refine (G1.out _).mono ?_); rintro e w1 ⟨rfl, x1, rfl⟩))
              refine wp_region_plus_lit (by kernel_rfl) (by kernel_rfl) ?_
              repeat (go_big_quiet_step (fail))
              (refine wpQuiet_nil ?_; intro _ hw'; obtain ⟨xq, hw''⟩ := hw'; subst hw'')
              go_wp2_with (first | (go_at_call 120; (with_reducible refine (gives_same (U1.out _)).mono ?_); rintro e w1 ⟨rfl, x1, rfl⟩) | (go_at_call 120; (with_reducible refine (gives_same (U2.out _)).mono ?_); rintro e w1 ⟨rfl, x1, rfl⟩) | (go_at_call 113; (with_reducible refine (gives_same (M1.out _)).mono ?_); rintro e w1 ⟨rfl, x1, rfl⟩) | (go_at_call 113; (with_reducible refine (gives_same (M2.out _)).mono ?_); rintro e w1 ⟨rfl, x1, rfl⟩) | (go_at_call 121; (with_reducible refine (Q1.out _).mono ?_); rintro e w1 ⟨rfl, x1, rfl⟩) | (go_at_call 119; (with_reducible refine (Q2.out _).mono ?_); rintro e w1 ⟨rfl, x1, rfl⟩) | (go_at_call 122; (with_reducible refine (Q3.out _).mono ?_); rintro e w1 ⟨rfl, x1, rfl⟩) | (go_at_call 113; (with_reducible refine (gives_same (Q4.out _)).mono ?_); rintro e w1 ⟨rfl, x1, rfl⟩) | ((with_reducible show bodyPost _ _ _ _ _ _); exact ret_23 rfl rfl (by simp [go_sem]) rfl ⟨by simp [go_sem], (by repeat (first | exact grA | apply grB | apply grC | apply grD))⟩))

end Go.Proofs.Ythmicnjigfcljaa
