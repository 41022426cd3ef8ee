/- WALKS over math/bits: 128 bits divided by 64. No condition but that the upper half is less than the divisor. -/
import Derived.Test.YthmicnjigfcljaaLen64
import Derived.Test.YthmicnjigfcljaaMf
import Derived.Test.YthmicnjigfcljaaMb
set_option linter.unusedSimpArgs false
set_option linter.unusedVariables false
namespace Go
theorem bl_bounds : ∀ (n y : Nat), y ≤ n → 0 < y → y < 18446744073709551616 → 2 ^ Lib.bitLen y ≤ 2 * y ∧ y < 2 ^ Lib.bitLen y
  | 0, y, h, h0, _ => by omega
  | n + 1, y, h, h0, hy => by
    rw [Lib.bitLen_half y (by omega) (by simpa using hy), Nat.pow_add, Nat.pow_one]
    by_cases h1 : y = 1
    · subst h1; decide
    · have := bl_bounds n (y / 2) (by omega) (by omega) (by omega)
      omega
end Go
namespace Go.Proofs.Ythmicnjigfcljaa
open Go.RowKit

set_option maxRecDepth 100000 in
theorem lead64_any (y : Nat) (w : World) (h1 : y < 18446744073709551616) :
    Calls Try.prog 128 #[.int .u64 (y : Int)] w fun e w' => e = .returned (.int .i64 ((64 - Lib.bitLen y : Nat) : Int)) ∧ w = w' := by
  have l : Lib.bitLen y ≤ 64 := Lib.bitLen_le y 64 (by omega) (by simpa using h1)
  have c := fun w => len64_any (y : Int) w (by omega) (by omega)
  simp only [Int.toNat_natCast] at c
  generalize Lib.bitLen y = b at *
  have e : (64 : Int) - (b : Int) = ((64 - b : Nat) : Int) := by omega
  have C := Lib.hid c; have E := Lib.hid e; clear c e
  go_enter Try.func128, Try.ntmps128
  go_wp2_with (go_at_call 129; (with_reducible refine (C.out _).mono ?_); rintro e w' ⟨rfl, rfl⟩)
  go_ret
  exact ⟨ret_int (by first | exact E.out | (rw [← E.out]; simp; omega) | (simp; omega)), rfl⟩


theorem natcast_bd {n : Nat} (h : n < 4294967296) : 0 ≤ (n : Int) ∧ (n : Int) ≤ 4294967295 := by omega
theorem digit_init {u z Y : Nat} (hY1 : 9223372036854775808 ≤ Y) (hY2 : Y < 18446744073709551616) (hu : u < Y) (hz : z < 4294967296) {uI Y1 : Int} (g4 : uI = (u : Int)) (g5 : Y1 = ((Y / 4294967296 : Nat) : Int)) :
    ∃ q0 r0 : Nat, r0 < 4294967296 ∧ Digit u z Y q0 r0 ∧ uI / Y1 = (q0 : Int) ∧ IntKind.u64.wrap (uI - IntKind.u64.wrap ((q0 : Int) * Y1)) = (r0 : Int) := by
  refine ⟨u / (Y / 4294967296), u % (Y / 4294967296), ?_, digit_start hY1 hY2 hu hz, ?_, ?_⟩
  · have : u % (Y / 4294967296) < Y / 4294967296 := Nat.mod_lt _ (by omega)
    omega
  · rw [g4, g5]; exact (Int.natCast_ediv u (Y / 4294967296)).symm
  · have hs := (digit_start hY1 hY2 hu hz).sum
    have e : ((u / (Y / 4294967296) : Nat) : Int) * Y1 = ((u / (Y / 4294967296) * (Y / 4294967296) : Nat) : Int) := by rw [g5, Int.natCast_mul]
    rw [e, wrapN _ (by omega), IntKind.wrap_u64, g4]; omega
theorem rest_init {u z Y : Nat} (hY0 : 0 < Y) (hY2 : Y < 18446744073709551616) (hz : z < 4294967296) {uI zI YI TI : Int} (g4 : uI = (u : Int)) (g7 : zI = (z : Int)) (g1 : YI = (Y : Int)) (gf : TI = (((u * 4294967296 + z) / Y : Nat) : Int)) :
    ∃ A B V : Int, IntKind.u64.wrap (uI * 4294967296) = A ∧ IntKind.u64.wrap (TI * YI) = B ∧ IntKind.u64.wrap (A + zI - B) = V ∧ (0 ≤ A ∧ A ≤ 18446744069414584320) ∧ (0 ≤ B ∧ B ≤ 18446744073709551615) ∧ V = (((u * 4294967296 + z) % Y : Nat) : Int) := by
  refine ⟨((u * 4294967296 % 18446744073709551616 : Nat) : Int), IntKind.u64.wrap (TI * YI), (((u * 4294967296 + z) % Y : Nat) : Int), ?_, rfl, ?_, ⟨by omega, by omega⟩, ?_, rfl⟩
  · rw [g4, show (u : Int) * 4294967296 = ((u * 4294967296 : Nat) : Int) by omega, wrapM]
  · have hw := rest_wrap (un32 := u) (un1 := z) hY0 hY2 rfl
    rw [← gf, ← g1] at hw
    rw [← hw, g7, IntKind.wrap_u64, IntKind.wrap_u64]; omega
  · rw [IntKind.wrap_u64]; constructor <;> omega

set_option maxRecDepth 100000 in
set_option maxHeartbeats 8000000 in
theorem div64_any (h l y : Nat) (hh : h < y) (hl : l < 18446744073709551616) (hy : y < 18446744073709551616) (w : World) :
    Calls Try.prog 122 #[.int .u64 (h : Int), .int .u64 (l : Int), .int .u64 (y : Int)] w (Gives w (.tuple #[.int .u64 (((h * 18446744073709551616 + l) / y : Nat) : Int), .int .u64 (((h * 18446744073709551616 + l) % y : Nat) : Int)])) := by
  have a1 := fun w => lead64_any y w hy
  have b1 := bl_bounds y y (Nat.le_refl _) (by omega) hy
  have b2 : Lib.bitLen y ≤ 64 := Lib.bitLen_le y 64 (by omega) (by simpa using hy)
  generalize Lib.bitLen y = b at *
  have hS64 : 64 - b ≤ 64 := by omega
  have hp : 2 ^ b * 2 ^ (64 - b) = 18446744073709551616 := by rw [← Nat.pow_add, show b + (64 - b) = 64 by omega]
  generalize 64 - b = S at *
  have A1 := Lib.hid a1; clear a1
  have hP0 : 0 < 2 ^ S := Nat.two_pow_pos S
  have hq : 2 ^ S * 2 ^ (64 - S) = 18446744073709551616 := by rw [← Nat.pow_add, show S + (64 - S) = 64 by omega]
  have hY1 : 9223372036854775808 ≤ y * 2 ^ S := by
    have : 2 ^ b * 2 ^ S ≤ 2 * y * 2 ^ S := Nat.mul_le_mul_right _ b1.1
    rw [hp, Nat.mul_assoc] at this; omega
  have hY2 : y * 2 ^ S < 18446744073709551616 := by
    have : y * 2 ^ S < 2 ^ b * 2 ^ S := Nat.mul_lt_mul_of_pos_right b1.2 hP0
    rw [hp] at this; exact this
  by_cases h0 : h = 0
  · subst h0
    have e1 : ((y : Int) == 0) = false := by simp; omega
    have e3 : ¬ (y : Int) ≤ 0 := by omega
    have e5 : (y : Int) ≠ 0 := by omega
    have d1 : (l : Int).tdiv (y : Int) = ((l / y : Nat) : Int) := tdivN _ _
    have d2 : (l : Int).tmod (y : Int) = ((l % y : Nat) : Int) := (Int.ofNat_tmod l y).symm
    have w1 : IntKind.u64.wrap ((l / y : Nat) : Int) = ((l / y : Nat) : Int) := wrapN _ (Nat.lt_of_le_of_lt (Nat.div_le_self _ _) hl)
    have w2 : IntKind.u64.wrap ((l % y : Nat) : Int) = ((l % y : Nat) : Int) := wrapN _ (Nat.lt_of_le_of_lt (Nat.mod_le _ _) hl)
    rw [Nat.zero_mul, Nat.zero_add]
    generalize ((l / y : Nat) : Int) = Q at *
    generalize ((l % y : Nat) : Int) = R at *
    have b1 : 0 ≤ (l : Int) := by omega
    have b2 : (l : Int) ≤ 18446744073709551615 := by omega
    have b3 : 1 ≤ (y : Int) := by omega
    generalize (l : Int) = lI at *
    generalize (y : Int) = yI at *
    clear hh hl hy hP0 hq hY1 hY2 hp hS64 A1
    go_enter Try.func122, Try.ntmps122
    go_wp2_with fail
    refine wp_region_plus_lit (by kernel_rfl) (by kernel_rfl) ?_
    repeat (go_big_quiet_step (fail))
    (refine wpQuiet_nil ?_; intro _ hw'; obtain ⟨xq, hw''⟩ := hw'; subst hw'')
    go_wp2_with fail
    go_ret2
    exact ⟨rfl, (by repeat (first | exact grA | apply grB | apply grC | apply grD))⟩
  · have e1 : ((y : Int) == 0) = false := by simp; omega
    have e2 : ((h : Int) == 0) = false := by simp; omega
    have e3 : decide ((y : Int) ≤ (h : Int)) = false := by simp; omega
    have e4 : ¬ (y : Int) ≤ (h : Int) := by omega
    have hlow : l / 2 ^ (64 - S) < 2 ^ S := by
      rw [Nat.div_lt_iff_lt_mul (Nat.two_pow_pos _), hq]; exact hl
    have hU32 : h * 2 ^ S + l / 2 ^ (64 - S) < y * 2 ^ S := by
      have : (h + 1) * 2 ^ S ≤ y * 2 ^ S := Nat.mul_le_mul_right _ hh
      rw [Nat.add_mul] at this; omega
    have hUU : (h * 18446744073709551616 + l) * 2 ^ S = ((h * 2 ^ S + l / 2 ^ (64 - S)) * 4294967296 + l * 2 ^ S % 18446744073709551616 / 4294967296) * 4294967296 + l * 2 ^ S % 18446744073709551616 % 4294967296 := by
      have x1 : l * 2 ^ S / 18446744073709551616 = l / 2 ^ (64 - S) := by rw [← hq, Nat.mul_comm l, Nat.mul_div_mul_left _ _ hP0]
      have x2 := Nat.div_add_mod (l * 2 ^ S) 18446744073709551616
      rw [x1] at x2
      rw [Nat.add_mul, Nat.mul_right_comm, ← x2]; omega
    have hX : h * 2 ^ S < 18446744073709551616 := Nat.lt_of_le_of_lt (Nat.le_add_right _ _) (Nat.lt_trans hU32 hY2)
    have hV : l / 2 ^ (64 - S) < 18446744073709551616 := Nat.lt_of_le_of_lt (Nat.div_le_self _ _) hl
    have f1 : IntKind.u64.wrap ((y : Int) * 2 ^ S) = ((y * 2 ^ S : Nat) : Int) := by rw [show (y : Int) * 2 ^ S = ((y * 2 ^ S : Nat) : Int) by rw [Int.natCast_mul, Int.natCast_pow]; rfl, wrapN _ hY2]
    have f2 : IntKind.u64.wrap ((h : Int) * 2 ^ S) = ((h * 2 ^ S : Nat) : Int) := by rw [show (h : Int) * 2 ^ S = ((h * 2 ^ S : Nat) : Int) by rw [Int.natCast_mul, Int.natCast_pow]; rfl, wrapN _ hX]
    have f3 : IntKind.u64.wrap ((l : Int) * 2 ^ S) = ((l * 2 ^ S % 18446744073709551616 : Nat) : Int) := by rw [show (l : Int) * 2 ^ S = ((l * 2 ^ S : Nat) : Int) by rw [Int.natCast_mul, Int.natCast_pow]; rfl, wrapM]
    have f4 : bits .or .u64 ((h * 2 ^ S : Nat) : Int) ((l : Int) / 2 ^ (64 - S)) = ((h * 2 ^ S + l / 2 ^ (64 - S) : Nat) : Int) := by
      have y1 : (l : Int) / 2 ^ (64 - S) = ((l / 2 ^ (64 - S) : Nat) : Int) := by rw [Int.natCast_ediv, Int.natCast_pow]; rfl
      rw [y1, bits_or_u64_nat _ _ hX hV]
      have := Nat.shiftLeft_add_eq_or_of_lt hlow h
      rw [Nat.shiftLeft_eq] at this; rw [this]
    have f5 := maskN (y * 2 ^ S) hY2
    have f6 := maskN (l * 2 ^ S % 18446744073709551616) (by omega)
    have f7 := divN (y * 2 ^ S)
    have f8 := divN (l * 2 ^ S % 18446744073709551616)
    have hZ : l * 2 ^ S % 18446744073709551616 < 18446744073709551616 := Nat.mod_lt _ (by omega)
    have HY1 := Lib.hid hY1; have HY2 := Lib.hid hY2; have HU32 := Lib.hid hU32; have HUU := Lib.hid hUU
    clear hY1 hY2 hU32 hUU hlow hq hP0 hp b1 b2 hX hV
    generalize hYY : y * 2 ^ S = Y at *
    generalize h * 2 ^ S = X at *
    generalize l * 2 ^ S % 18446744073709551616 = Z at *
    generalize l / 2 ^ (64 - S) = V at *
    generalize X + V = u at *
    have b1 : (Y : Int) ≤ 18446744073709551615 := by have := HY2.out; omega
    have b2 : (Z : Int) ≤ 18446744073709551615 := by omega
    have b3 : (u : Int) ≤ 18446744073709551615 := by have := HY2.out; have := HU32.out; omega
    have b4 : 0 ≤ (Y : Int) := by omega
    have b5 : 0 ≤ (Z : Int) := by omega
    have b6 : 0 ≤ (u : Int) := by omega
    have n1 : 2147483648 ≤ ((Y / 4294967296 : Nat) : Int) := by have := HY1.out; omega
    have n2 : ((Y / 4294967296 : Nat) : Int) ≤ 4294967295 := by have := HY2.out; omega
    obtain ⟨YI, g1⟩ : ∃ v : Int, v = (Y : Int) := ⟨_, rfl⟩
    obtain ⟨ZI, g2⟩ : ∃ v : Int, v = (Z : Int) := ⟨_, rfl⟩
    obtain ⟨XI, g3⟩ : ∃ v : Int, v = (X : Int) := ⟨_, rfl⟩
    obtain ⟨uI, g4⟩ : ∃ v : Int, v = (u : Int) := ⟨_, rfl⟩
    obtain ⟨Y1, g5⟩ : ∃ v : Int, v = ((Y / 4294967296 : Nat) : Int) := ⟨_, rfl⟩
    obtain ⟨Y0, g6⟩ : ∃ v : Int, v = ((Y % 4294967296 : Nat) : Int) := ⟨_, rfl⟩
    obtain ⟨Z1, g7⟩ : ∃ v : Int, v = ((Z / 4294967296 : Nat) : Int) := ⟨_, rfl⟩
    obtain ⟨Z0, g8⟩ : ∃ v : Int, v = ((Z % 4294967296 : Nat) : Int) := ⟨_, rfl⟩
    obtain ⟨R1, g9⟩ : ∃ v : Int, v = (((h * 18446744073709551616 + l) / y : Nat) : Int) := ⟨_, rfl⟩
    obtain ⟨R2, ga⟩ : ∃ v : Int, v = (((h * 18446744073709551616 + l) % y : Nat) : Int) := ⟨_, rfl⟩
    rw [← g9, ← ga]
    simp only [← g1, ← g2, ← g3, ← g4, ← g5, ← g6, ← g7, ← g8] at f1 f2 f3 f4 f5 f6 f7 f8 b1 b2 b3 b4 b5 b6 n1 n2
    have G1 := Lib.hid g1; have G2 := Lib.hid g2; have G4 := Lib.hid g4; have G5 := Lib.hid g5; have G6 := Lib.hid g6; have G7 := Lib.hid g7; have G8 := Lib.hid g8; have G9 := Lib.hid g9; have GA := Lib.hid ga
    have HYP := Lib.hid (show 0 < y by omega)
    have HYY := hYY; clear hYY
    have hz1 : Z / 4294967296 < 4294967296 := by omega
    have hz0 : Z % 4294967296 < 4294967296 := by omega
    have hy0 : 0 < Y := by have := HY1.out; omega
    obtain ⟨q0, r0, hr0, hd0, k1, k2⟩ := digit_init HY1.out HY2.out HU32.out hz1 g4 g5
    obtain ⟨T1, gf⟩ : ∃ v : Int, v = (((u * 4294967296 + Z / 4294967296) / Y : Nat) : Int) := ⟨_, rfl⟩
    obtain ⟨A1I, B1I, V1, m1, m2, m3, ⟨m4, m5⟩, ⟨m6, m7⟩, gh⟩ := rest_init hy0 HY2.out hz1 g4 g7 g1 gf
    have hv1 : (u * 4294967296 + Z / 4294967296) % Y < Y := Nat.mod_lt _ hy0
    obtain ⟨p0, s0, hs0, he0, k3, k4⟩ := digit_init HY1.out HY2.out hv1 hz0 gh g5
    obtain ⟨T2, gi⟩ : ∃ v : Int, v = ((((u * 4294967296 + Z / 4294967296) % Y * 4294967296 + Z % 4294967296) / Y : Nat) : Int) := ⟨_, rfl⟩
    obtain ⟨A2I, B2I, V2, n3, n4, n5, ⟨n6, n7⟩, ⟨n8, n9⟩, gj⟩ := rest_init hy0 HY2.out hz0 gh g8 g1 gi
    have m8 : 0 ≤ V1 := by omega
    have m9 : V1 ≤ 18446744073709551615 := by have := HY2.out; omega
    have na : 0 ≤ V2 := by omega
    have nb : V2 ≤ 18446744073709551615 := by have := Nat.mod_lt ((u * 4294967296 + Z / 4294967296) % Y * 4294967296 + Z % 4294967296) hy0; have := HY2.out; omega
    have tl1 := digit_lt HU32.out hz1
    have tl2 := digit_lt hv1 hz0
    have nc : 0 ≤ T1 ∧ T1 ≤ 4294967295 := by rw [gf]; exact natcast_bd tl1
    have ne : 0 ≤ T2 ∧ T2 ≤ 4294967295 := by rw [gi]; exact natcast_bd tl2
    obtain ⟨nc, nd⟩ := nc
    obtain ⟨ne, nf⟩ := ne
    have ng : 0 ≤ Z0 := by omega
    have nh : Z0 ≤ 4294967295 := by omega
    have td := two_digits (U := h * 18446744073709551616 + l) (y := y) (p := 2 ^ S) (by omega) (Nat.two_pow_pos S) HUU.out
    rw [HYY] at td
    have eR1 : T1 * 4294967296 + T2 = R1 := by rw [g9, ← td.1, gf, gi]; omega
    have eR2 : V2 / 2 ^ S = R2 := by
      rw [ga, ← td.2, gj, Int.natCast_ediv, Int.natCast_pow]; rfl
    have DD := Lib.hid hd0; have EE := Lib.hid he0; have HR0 := Lib.hid hr0; have HS0 := Lib.hid hs0; have GF := Lib.hid gf; have GI := Lib.hid gi; have GH := Lib.hid gh; have HV1 := Lib.hid hv1
    clear gf gi gh gj hv1 hd0 he0 hr0 hs0 tl1 tl2 td hz1 hz0 hy0
    obtain ⟨q0I, gd⟩ : ∃ v : Int, v = (q0 : Int) := ⟨_, rfl⟩
    obtain ⟨r0I, ge⟩ : ∃ v : Int, v = (r0 : Int) := ⟨_, rfl⟩
    rw [← gd] at k1 k2; rw [← ge] at k2
    have GD := Lib.hid gd; have GE := Lib.hid ge
    obtain ⟨p0I, gd'⟩ : ∃ v : Int, v = (p0 : Int) := ⟨_, rfl⟩
    obtain ⟨s0I, ge'⟩ : ∃ v : Int, v = (s0 : Int) := ⟨_, rfl⟩
    rw [← gd'] at k3 k4; rw [← ge'] at k4
    have GD2 := Lib.hid gd'; have GE2 := Lib.hid ge'
    clear gd ge gd' ge'
    generalize (y : Int) = yI at *
    generalize (h : Int) = hI at *
    generalize (l : Int) = lI at *
    clear g1 g2 g3 g4 g5 g6 g7 g8 g9 ga hh hl hy hZ HYY
    go_enter Try.func122, Try.ntmps122
    go_wp2_with (first | (go_at_call 128; (with_reducible refine (A1.out _).mono ?_); rintro e w' ⟨rfl, rfl⟩))
    go_loopg [15, 16] q0 (fun k sq sr wr => ∃ q r : Nat, Hid (k = q) ∧ Hid (Digit (u) (Z / 4294967296) Y q r ∧ r < 4294967296) ∧ sq = .int .u64 (q : Int) ∧ sr = .int .u64 (r : Int) ∧ w = wr)
    case atStart => exact ⟨q0, r0, rfl, ⟨DD.out, HR0.out⟩, by first | rw [k1, GD.out] | rw [GD.out], by first | rw [k1, k2, GE.out] | rw [k2, GE.out] | rw [GE.out], rfl⟩
    case round =>
      obtain ⟨q, r, HK, HD, rfl, rfl, rfl⟩ := hrel
      clear k1 k2
      have hz1 : Z / 4294967296 < 4294967296 := by have := G2.out; omega
      have hy0 : 0 < Y := by have := HY1.out; omega
      have dr := HD.out.2
      have dq := HD.out.1.le
      obtain ⟨qI, ga⟩ : ∃ v : Int, v = (q : Int) := ⟨_, rfl⟩
      obtain ⟨rI, gb⟩ : ∃ v : Int, v = (r : Int) := ⟨_, rfl⟩
      have c1 : 0 ≤ qI := by omega
      have c2 : qI ≤ 4294967297 := by omega
      have c3 : 0 ≤ rI := by omega
      have c4 : rI ≤ 4294967295 := by omega
      have c5 : 0 ≤ Z1 := by have := G7.out; omega
      have c6 : Z1 ≤ 4294967295 := by have := G7.out; omega
      rw [← ga, ← gb]
      have GA' := Lib.hid ga; have GB' := Lib.hid gb
      by_cases hbig : 4294967296 ≤ q
      · have t1 : 4294967296 ≤ qI := by omega
        have hgt := digit_big HU32.out hz1 HD.out.1 hbig
        have HN := Lib.hid (digit_next HD.out.1 hgt)
        by_cases hbr : 4294967296 ≤ r + Y / 4294967296
        · have hT := digit_break hy0 HN.out (by omega) hbr
          have eT : qI - 1 = T1 := by rw [GF.out, ← hT, ga]; omega
          have t3 : 4294967296 ≤ rI + Y1 := by have := G5.out; omega
          clear hbig hgt ga gb dr dq hz1 hy0 hbr hT
          go_wp2_with fail
          clear eT t1 t3 c1 c2 c3 c4 HN GA' GB' HK HD
          go_loopg [18, 16] p0 (fun k sq sr wr => ∃ q r : Nat, Hid (k = q) ∧ Hid (Digit ((u * 4294967296 + Z / 4294967296) % Y) (Z % 4294967296) Y q r ∧ r < 4294967296) ∧ sq = .int .u64 (q : Int) ∧ sr = .int .u64 (r : Int) ∧ w = wr)
          case atStart => exact ⟨p0, s0, rfl, ⟨EE.out, HS0.out⟩, by first | rw [k3, GD2.out] | rw [GD2.out], by first | rw [k3, k4, GE2.out] | rw [k4, GE2.out] | rw [GE2.out], rfl⟩
          case round =>
            obtain ⟨q, r, HK, HD, rfl, rfl, rfl⟩ := hrel
            clear k3 k4
            have hz1 : Z % 4294967296 < 4294967296 := by have := G2.out; omega
            have hy0 : 0 < Y := by have := HY1.out; omega
            have dr := HD.out.2
            have dq := HD.out.1.le
            obtain ⟨qI, ga⟩ : ∃ v : Int, v = (q : Int) := ⟨_, rfl⟩
            obtain ⟨rI, gb⟩ : ∃ v : Int, v = (r : Int) := ⟨_, rfl⟩
            have c1 : 0 ≤ qI := by omega
            have c2 : qI ≤ 4294967297 := by omega
            have c3 : 0 ≤ rI := by omega
            have c4 : rI ≤ 4294967295 := by omega
            have c5 : 0 ≤ Z0 := by have := G8.out; omega
            have c6 : Z0 ≤ 4294967295 := by have := G8.out; omega
            rw [← ga, ← gb]
            have GA' := Lib.hid ga; have GB' := Lib.hid gb
            by_cases hbig : 4294967296 ≤ q
            · have t1 : 4294967296 ≤ qI := by omega
              have hgt := digit_big HV1.out hz1 HD.out.1 hbig
              have HN := Lib.hid (digit_next HD.out.1 hgt)
              by_cases hbr : 4294967296 ≤ r + Y / 4294967296
              · have hT := digit_break hy0 HN.out (by omega) hbr
                have eT : qI - 1 = T2 := by rw [GI.out, ← hT, ga]; omega
                have t3 : 4294967296 ≤ rI + Y1 := by have := G5.out; omega
                clear hbig hgt ga gb dr dq hz1 hy0 hbr hT
                go_wp2_with fail
                clear eT t1 t3 c1 c2 c3 c4 HN GA' GB' HK HD
                go_ret2
                exact ⟨rfl, (by repeat (first | exact grA | apply grB | apply grC | apply grD))⟩
              · have t3 : ¬ 4294967296 ≤ rI + Y1 := by have := G5.out; omega
                have HQ := Lib.hid (show 1 ≤ q ∧ r + Y / 4294967296 < 4294967296 by omega)
                clear hbig hgt ga gb dr dq hz1 hy0 hbr
                go_wp2_with fail
                go_roundg (q - 1)
                case measure => have := HK.out; have := HQ.out; omega
                case rel => exact ⟨q - 1, r + Y / 4294967296, rfl, ⟨HN.out, HQ.out.2⟩, by (have h1 := GA'.out; have h2 := HQ.out.1; congr 1; omega), by (have h1 := GB'.out; have h2 := G5.out; congr 1; omega), rfl⟩
            · have t1 : ¬ 4294967296 ≤ qI := by omega
              obtain ⟨P, gp⟩ : ∃ v : Int, v = ((q * (Y % 4294967296) : Nat) : Int) := ⟨_, rfl⟩
              have hP : q * (Y % 4294967296) < 18446744073709551616 := Nat.lt_of_le_of_lt (Nat.mul_le_mul (show q ≤ 4294967295 by omega) (show Y % 4294967296 ≤ 4294967295 by omega)) (by omega)
              have p1 : IntKind.u64.wrap (qI * Y0) = P := by rw [ga, G6.out, gp, ← Int.natCast_mul, wrapN _ hP]
              have p2 : 0 ≤ P := by omega
              by_cases hgt : 4294967296 * r + Z % 4294967296 < q * (Y % 4294967296)
              · have t2 : 4294967296 * rI + Z0 < P := by have := G8.out; omega
                have hg := digit_gt hy0 HD.out.1.sum hgt
                have hq1 : 1 ≤ q := by
                  rcases Nat.eq_zero_or_pos q with h | h
                  · rw [h, Nat.zero_mul] at hgt; omega
                  · exact h
                have c7 : 1 ≤ qI := by omega
                have HN := Lib.hid (digit_next HD.out.1 hg)
                by_cases hbr : 4294967296 ≤ r + Y / 4294967296
                · have hT := digit_break hy0 HN.out (by omega) hbr
                  have eT : qI - 1 = T2 := by rw [GI.out, ← hT, ga]; omega
                  have t3 : 4294967296 ≤ rI + Y1 := by have := G5.out; omega
                  clear hgt hg ga gb dr dq hz1 hy0 hP gp hbr hT
                  go_wp2_with fail
                  clear eT t1 t2 t3 c1 c2 c3 c4 c7 hq1 p1 p2 HN GA' GB' HK HD
                  go_ret2
                  exact ⟨rfl, (by repeat (first | exact grA | apply grB | apply grC | apply grD))⟩
                · have t3 : ¬ 4294967296 ≤ rI + Y1 := by have := G5.out; omega
                  have HQ := Lib.hid (show 1 ≤ q ∧ r + Y / 4294967296 < 4294967296 by omega)
                  clear hgt hg ga gb dr dq hz1 hy0 hP gp hbr
                  go_wp2_with fail
                  go_roundg (q - 1)
                  case measure => have := HK.out; have := HQ.out; omega
                  case rel => exact ⟨q - 1, r + Y / 4294967296, rfl, ⟨HN.out, HQ.out.2⟩, by (have h1 := GA'.out; have h2 := HQ.out.1; congr 1; omega), by (have h1 := GB'.out; have h2 := G5.out; congr 1; omega), rfl⟩
              · have t2 : ¬ 4294967296 * rI + Z0 < P := by have := G8.out; omega
                have hq := digit_found hy0 HD.out.1 (by omega)
                have eT : T2 = qI := by rw [GI.out, ← hq, ga]
                clear hgt ga gb dr dq hz1 hy0 hP gp hq GA'
                subst eT
                go_wp2_with fail
                clear t1 t2 c1 c2 c3 c4 p1 p2 GB' HK HD
                go_ret2
                exact ⟨rfl, (by repeat (first | exact grA | apply grB | apply grC | apply grD))⟩
        · have t3 : ¬ 4294967296 ≤ rI + Y1 := by have := G5.out; omega
          have HQ := Lib.hid (show 1 ≤ q ∧ r + Y / 4294967296 < 4294967296 by omega)
          clear hbig hgt ga gb dr dq hz1 hy0 hbr
          go_wp2_with fail
          go_roundg (q - 1)
          case measure => have := HK.out; have := HQ.out; omega
          case rel => exact ⟨q - 1, r + Y / 4294967296, rfl, ⟨HN.out, HQ.out.2⟩, by (have h1 := GA'.out; have h2 := HQ.out.1; congr 1; omega), by (have h1 := GB'.out; have h2 := G5.out; congr 1; omega), rfl⟩
      · have t1 : ¬ 4294967296 ≤ qI := by omega
        obtain ⟨P, gp⟩ : ∃ v : Int, v = ((q * (Y % 4294967296) : Nat) : Int) := ⟨_, rfl⟩
        have hP : q * (Y % 4294967296) < 18446744073709551616 := Nat.lt_of_le_of_lt (Nat.mul_le_mul (show q ≤ 4294967295 by omega) (show Y % 4294967296 ≤ 4294967295 by omega)) (by omega)
        have p1 : IntKind.u64.wrap (qI * Y0) = P := by rw [ga, G6.out, gp, ← Int.natCast_mul, wrapN _ hP]
        have p2 : 0 ≤ P := by omega
        by_cases hgt : 4294967296 * r + Z / 4294967296 < q * (Y % 4294967296)
        · have t2 : 4294967296 * rI + Z1 < P := by have := G7.out; omega
          have hg := digit_gt hy0 HD.out.1.sum hgt
          have hq1 : 1 ≤ q := by
            rcases Nat.eq_zero_or_pos q with h | h
            · rw [h, Nat.zero_mul] at hgt; omega
            · exact h
          have c7 : 1 ≤ qI := by omega
          have HN := Lib.hid (digit_next HD.out.1 hg)
          by_cases hbr : 4294967296 ≤ r + Y / 4294967296
          · have hT := digit_break hy0 HN.out (by omega) hbr
            have eT : qI - 1 = T1 := by rw [GF.out, ← hT, ga]; omega
            have t3 : 4294967296 ≤ rI + Y1 := by have := G5.out; omega
            clear hgt hg ga gb dr dq hz1 hy0 hP gp hbr hT
            go_wp2_with fail
            clear eT t1 t2 t3 c1 c2 c3 c4 c7 hq1 p1 p2 HN GA' GB' HK HD
            go_loopg [18, 16] p0 (fun k sq sr wr => ∃ q r : Nat, Hid (k = q) ∧ Hid (Digit ((u * 4294967296 + Z / 4294967296) % Y) (Z % 4294967296) Y q r ∧ r < 4294967296) ∧ sq = .int .u64 (q : Int) ∧ sr = .int .u64 (r : Int) ∧ w = wr)
            case atStart => exact ⟨p0, s0, rfl, ⟨EE.out, HS0.out⟩, by first | rw [k3, GD2.out] | rw [GD2.out], by first | rw [k3, k4, GE2.out] | rw [k4, GE2.out] | rw [GE2.out], rfl⟩
            case round =>
              obtain ⟨q, r, HK, HD, rfl, rfl, rfl⟩ := hrel
              clear k3 k4
              have hz1 : Z % 4294967296 < 4294967296 := by have := G2.out; omega
              have hy0 : 0 < Y := by have := HY1.out; omega
              have dr := HD.out.2
              have dq := HD.out.1.le
              obtain ⟨qI, ga⟩ : ∃ v : Int, v = (q : Int) := ⟨_, rfl⟩
              obtain ⟨rI, gb⟩ : ∃ v : Int, v = (r : Int) := ⟨_, rfl⟩
              have c1 : 0 ≤ qI := by omega
              have c2 : qI ≤ 4294967297 := by omega
              have c3 : 0 ≤ rI := by omega
              have c4 : rI ≤ 4294967295 := by omega
              have c5 : 0 ≤ Z0 := by have := G8.out; omega
              have c6 : Z0 ≤ 4294967295 := by have := G8.out; omega
              rw [← ga, ← gb]
              have GA' := Lib.hid ga; have GB' := Lib.hid gb
              by_cases hbig : 4294967296 ≤ q
              · have t1 : 4294967296 ≤ qI := by omega
                have hgt := digit_big HV1.out hz1 HD.out.1 hbig
                have HN := Lib.hid (digit_next HD.out.1 hgt)
                by_cases hbr : 4294967296 ≤ r + Y / 4294967296
                · have hT := digit_break hy0 HN.out (by omega) hbr
                  have eT : qI - 1 = T2 := by rw [GI.out, ← hT, ga]; omega
                  have t3 : 4294967296 ≤ rI + Y1 := by have := G5.out; omega
                  clear hbig hgt ga gb dr dq hz1 hy0 hbr hT
                  go_wp2_with fail
                  clear eT t1 t3 c1 c2 c3 c4 HN GA' GB' HK HD
                  go_ret2
                  exact ⟨rfl, (by repeat (first | exact grA | apply grB | apply grC | apply grD))⟩
                · have t3 : ¬ 4294967296 ≤ rI + Y1 := by have := G5.out; omega
                  have HQ := Lib.hid (show 1 ≤ q ∧ r + Y / 4294967296 < 4294967296 by omega)
                  clear hbig hgt ga gb dr dq hz1 hy0 hbr
                  go_wp2_with fail
                  go_roundg (q - 1)
                  case measure => have := HK.out; have := HQ.out; omega
                  case rel => exact ⟨q - 1, r + Y / 4294967296, rfl, ⟨HN.out, HQ.out.2⟩, by (have h1 := GA'.out; have h2 := HQ.out.1; congr 1; omega), by (have h1 := GB'.out; have h2 := G5.out; congr 1; omega), rfl⟩
              · have t1 : ¬ 4294967296 ≤ qI := by omega
                obtain ⟨P, gp⟩ : ∃ v : Int, v = ((q * (Y % 4294967296) : Nat) : Int) := ⟨_, rfl⟩
                have hP : q * (Y % 4294967296) < 18446744073709551616 := Nat.lt_of_le_of_lt (Nat.mul_le_mul (show q ≤ 4294967295 by omega) (show Y % 4294967296 ≤ 4294967295 by omega)) (by omega)
                have p1 : IntKind.u64.wrap (qI * Y0) = P := by rw [ga, G6.out, gp, ← Int.natCast_mul, wrapN _ hP]
                have p2 : 0 ≤ P := by omega
                by_cases hgt : 4294967296 * r + Z % 4294967296 < q * (Y % 4294967296)
                · have t2 : 4294967296 * rI + Z0 < P := by have := G8.out; omega
                  have hg := digit_gt hy0 HD.out.1.sum hgt
                  have hq1 : 1 ≤ q := by
                    rcases Nat.eq_zero_or_pos q with h | h
                    · rw [h, Nat.zero_mul] at hgt; omega
                    · exact h
                  have c7 : 1 ≤ qI := by omega
                  have HN := Lib.hid (digit_next HD.out.1 hg)
                  by_cases hbr : 4294967296 ≤ r + Y / 4294967296
                  · have hT := digit_break hy0 HN.out (by omega) hbr
                    have eT : qI - 1 = T2 := by rw [GI.out, ← hT, ga]; omega
                    have t3 : 4294967296 ≤ rI + Y1 := by have := G5.out; omega
                    clear hgt hg ga gb dr dq hz1 hy0 hP gp hbr hT
                    go_wp2_with fail
                    clear eT t1 t2 t3 c1 c2 c3 c4 c7 hq1 p1 p2 HN GA' GB' HK HD
                    go_ret2
                    exact ⟨rfl, (by repeat (first | exact grA | apply grB | apply grC | apply grD))⟩
                  · have t3 : ¬ 4294967296 ≤ rI + Y1 := by have := G5.out; omega
                    have HQ := Lib.hid (show 1 ≤ q ∧ r + Y / 4294967296 < 4294967296 by omega)
                    clear hgt hg ga gb dr dq hz1 hy0 hP gp hbr
                    go_wp2_with fail
                    go_roundg (q - 1)
                    case measure => have := HK.out; have := HQ.out; omega
                    case rel => exact ⟨q - 1, r + Y / 4294967296, rfl, ⟨HN.out, HQ.out.2⟩, by (have h1 := GA'.out; have h2 := HQ.out.1; congr 1; omega), by (have h1 := GB'.out; have h2 := G5.out; congr 1; omega), rfl⟩
                · have t2 : ¬ 4294967296 * rI + Z0 < P := by have := G8.out; omega
                  have hq := digit_found hy0 HD.out.1 (by omega)
                  have eT : T2 = qI := by rw [GI.out, ← hq, ga]
                  clear hgt ga gb dr dq hz1 hy0 hP gp hq GA'
                  subst eT
                  go_wp2_with fail
                  clear t1 t2 c1 c2 c3 c4 p1 p2 GB' HK HD
                  go_ret2
                  exact ⟨rfl, (by repeat (first | exact grA | apply grB | apply grC | apply grD))⟩
          · have t3 : ¬ 4294967296 ≤ rI + Y1 := by have := G5.out; omega
            have HQ := Lib.hid (show 1 ≤ q ∧ r + Y / 4294967296 < 4294967296 by omega)
            clear hgt hg ga gb dr dq hz1 hy0 hP gp hbr
            go_wp2_with fail
            go_roundg (q - 1)
            case measure => have := HK.out; have := HQ.out; omega
            case rel => exact ⟨q - 1, r + Y / 4294967296, rfl, ⟨HN.out, HQ.out.2⟩, by (have h1 := GA'.out; have h2 := HQ.out.1; congr 1; omega), by (have h1 := GB'.out; have h2 := G5.out; congr 1; omega), rfl⟩
        · have t2 : ¬ 4294967296 * rI + Z1 < P := by have := G7.out; omega
          have hq := digit_found hy0 HD.out.1 (by omega)
          have eT : T1 = qI := by rw [GF.out, ← hq, ga]
          clear hgt ga gb dr dq hz1 hy0 hP gp hq GA'
          subst eT
          go_wp2_with fail
          clear t1 t2 c1 c2 c3 c4 p1 p2 GB' HK HD
          go_loopg [18, 16] p0 (fun k sq sr wr => ∃ q r : Nat, Hid (k = q) ∧ Hid (Digit ((u * 4294967296 + Z / 4294967296) % Y) (Z % 4294967296) Y q r ∧ r < 4294967296) ∧ sq = .int .u64 (q : Int) ∧ sr = .int .u64 (r : Int) ∧ w = wr)
          case atStart => exact ⟨p0, s0, rfl, ⟨EE.out, HS0.out⟩, by first | rw [k3, GD2.out] | rw [GD2.out], by first | rw [k3, k4, GE2.out] | rw [k4, GE2.out] | rw [GE2.out], rfl⟩
          case round =>
            obtain ⟨q, r, HK, HD, rfl, rfl, rfl⟩ := hrel
            clear k3 k4
            have hz1 : Z % 4294967296 < 4294967296 := by have := G2.out; omega
            have hy0 : 0 < Y := by have := HY1.out; omega
            have dr := HD.out.2
            have dq := HD.out.1.le
            obtain ⟨qI, ga⟩ : ∃ v : Int, v = (q : Int) := ⟨_, rfl⟩
            obtain ⟨rI, gb⟩ : ∃ v : Int, v = (r : Int) := ⟨_, rfl⟩
            have c1 : 0 ≤ qI := by omega
            have c2 : qI ≤ 4294967297 := by omega
            have c3 : 0 ≤ rI := by omega
            have c4 : rI ≤ 4294967295 := by omega
            have c5 : 0 ≤ Z0 := by have := G8.out; omega
            have c6 : Z0 ≤ 4294967295 := by have := G8.out; omega
            rw [← ga, ← gb]
            have GA' := Lib.hid ga; have GB' := Lib.hid gb
            by_cases hbig : 4294967296 ≤ q
            · have t1 : 4294967296 ≤ qI := by omega
              have hgt := digit_big HV1.out hz1 HD.out.1 hbig
              have HN := Lib.hid (digit_next HD.out.1 hgt)
              by_cases hbr : 4294967296 ≤ r + Y / 4294967296
              · have hT := digit_break hy0 HN.out (by omega) hbr
                have eT : qI - 1 = T2 := by rw [GI.out, ← hT, ga]; omega
                have t3 : 4294967296 ≤ rI + Y1 := by have := G5.out; omega
                clear hbig hgt ga gb dr dq hz1 hy0 hbr hT
                go_wp2_with fail
                clear eT t1 t3 c1 c2 c3 c4 HN GA' GB' HK HD
                go_ret2
                exact ⟨rfl, (by repeat (first | exact grA | apply grB | apply grC | apply grD))⟩
              · have t3 : ¬ 4294967296 ≤ rI + Y1 := by have := G5.out; omega
                have HQ := Lib.hid (show 1 ≤ q ∧ r + Y / 4294967296 < 4294967296 by omega)
                clear hbig hgt ga gb dr dq hz1 hy0 hbr
                go_wp2_with fail
                go_roundg (q - 1)
                case measure => have := HK.out; have := HQ.out; omega
                case rel => exact ⟨q - 1, r + Y / 4294967296, rfl, ⟨HN.out, HQ.out.2⟩, by (have h1 := GA'.out; have h2 := HQ.out.1; congr 1; omega), by (have h1 := GB'.out; have h2 := G5.out; congr 1; omega), rfl⟩
            · have t1 : ¬ 4294967296 ≤ qI := by omega
              obtain ⟨P, gp⟩ : ∃ v : Int, v = ((q * (Y % 4294967296) : Nat) : Int) := ⟨_, rfl⟩
              have hP : q * (Y % 4294967296) < 18446744073709551616 := Nat.lt_of_le_of_lt (Nat.mul_le_mul (show q ≤ 4294967295 by omega) (show Y % 4294967296 ≤ 4294967295 by omega)) (by omega)
              have p1 : IntKind.u64.wrap (qI * Y0) = P := by rw [ga, G6.out, gp, ← Int.natCast_mul, wrapN _ hP]
              have p2 : 0 ≤ P := by omega
              by_cases hgt : 4294967296 * r + Z % 4294967296 < q * (Y % 4294967296)
              · have t2 : 4294967296 * rI + Z0 < P := by have := G8.out; omega
                have hg := digit_gt hy0 HD.out.1.sum hgt
                have hq1 : 1 ≤ q := by
                  rcases Nat.eq_zero_or_pos q with h | h
                  · rw [h, Nat.zero_mul] at hgt; omega
                  · exact h
                have c7 : 1 ≤ qI := by omega
                have HN := Lib.hid (digit_next HD.out.1 hg)
                by_cases hbr : 4294967296 ≤ r + Y / 4294967296
                · have hT := digit_break hy0 HN.out (by omega) hbr
                  have eT : qI - 1 = T2 := by rw [GI.out, ← hT, ga]; omega
                  have t3 : 4294967296 ≤ rI + Y1 := by have := G5.out; omega
                  clear hgt hg ga gb dr dq hz1 hy0 hP gp hbr hT
                  go_wp2_with fail
                  clear eT t1 t2 t3 c1 c2 c3 c4 c7 hq1 p1 p2 HN GA' GB' HK HD
                  go_ret2
                  exact ⟨rfl, (by repeat (first | exact grA | apply grB | apply grC | apply grD))⟩
                · have t3 : ¬ 4294967296 ≤ rI + Y1 := by have := G5.out; omega
                  have HQ := Lib.hid (show 1 ≤ q ∧ r + Y / 4294967296 < 4294967296 by omega)
                  clear hgt hg ga gb dr dq hz1 hy0 hP gp hbr
                  go_wp2_with fail
                  go_roundg (q - 1)
                  case measure => have := HK.out; have := HQ.out; omega
                  case rel => exact ⟨q - 1, r + Y / 4294967296, rfl, ⟨HN.out, HQ.out.2⟩, by (have h1 := GA'.out; have h2 := HQ.out.1; congr 1; omega), by (have h1 := GB'.out; have h2 := G5.out; congr 1; omega), rfl⟩
              · have t2 : ¬ 4294967296 * rI + Z0 < P := by have := G8.out; omega
                have hq := digit_found hy0 HD.out.1 (by omega)
                have eT : T2 = qI := by rw [GI.out, ← hq, ga]
                clear hgt ga gb dr dq hz1 hy0 hP gp hq GA'
                subst eT
                go_wp2_with fail
                clear t1 t2 c1 c2 c3 c4 p1 p2 GB' HK HD
                go_ret2
                exact ⟨rfl, (by repeat (first | exact grA | apply grB | apply grC | apply grD))⟩

end Go.Proofs.Ythmicnjigfcljaa
