/- WALKS over jalousieref1: sums and products of two, what is clean, what is turned. No condition but that numbers are of their kinds. -/
import Derived.Test.YthmicnjigfcljaaRCmp
import Derived.Test.YthmicnjigfcljaaMg
import Derived.Test.YthmicnjigfcljaaMk
set_option linter.unusedSimpArgs false
set_option linter.unusedVariables false
namespace Go.Proofs.Ythmicnjigfcljaa
open Go.RowKit

set_option maxRecDepth 100000 in
theorem refClean_any (a b : Int) (w : World) (wa : I64 a) (wb : I64 b) : Calls Try.prog 60 #[.agg #[.int .i64 a, .int .i64 b]] w (Gives w (ratV (cleanQ (a, b)))) := by
  have s1 := fun w => refMay_any a b w wa.1 wa.2 wb.1 wb.2
  unfold cleanQ
  simp only
  cases t1 : mayB a b with
  | false =>
    rw [t1] at s1
    have S1 := Lib.hid s1; clear s1 t1
    simp only [Bool.false_eq_true, if_false]
    go_enter Try.func60, Try.ntmps60
    go_wp2_with (first | (go_at_call 90; (with_reducible refine (S1.out _).mono ?_); rintro e w1 ⟨rfl, x1, rfl⟩) | (go_at_call 79; (with_reducible refine (refOver_any _).mono ?_); rintro e w1 ⟨rfl, x1, rfl⟩) | ((with_reducible show bodyPost _ _ _ _ _ _); exact ret_23 rfl rfl (by simp [go_sem]) rfl ⟨by simp [go_sem], (by repeat (first | exact grA | apply grB | apply grC | apply grD))⟩))
  | true =>
    rw [t1] at s1
    have S1 := Lib.hid s1; clear s1 t1
    simp only [if_true]
    go_enter Try.func60, Try.ntmps60
    go_wp2_with (first | (go_at_call 90; (with_reducible refine (S1.out _).mono ?_); rintro e w1 ⟨rfl, x1, rfl⟩) | ((with_reducible show bodyPost _ _ _ _ _ _); exact ret_23 rfl rfl (by simp [go_sem]) rfl ⟨by simp [go_sem], (by repeat (first | exact grA | apply grB | apply grC | apply grD))⟩))

set_option maxRecDepth 100000 in
theorem refNeg_any (a b : Int) (w : World) (wa : I64 a) (wb : I64 b) : Calls Try.prog 108 #[.agg #[.int .i64 a, .int .i64 b]] w (Gives w (ratV (negQ (a, b)))) := by
  have s1 := fun w => refIs_any a b w wa.1 wa.2 wb.1 wb.2
  unfold negQ sureP
  simp only
  cases t1 : sureB a b with
  | false =>
    rw [t1] at s1
    have S1 := Lib.hid s1; clear s1 t1
    simp only [Bool.false_eq_true, if_false]
    go_enter Try.func108, Try.ntmps108
    go_wp2_with (first | (go_at_call 95; (with_reducible refine (S1.out _).mono ?_); rintro e w1 ⟨rfl, x1, rfl⟩) | (go_at_call 79; (with_reducible refine (refOver_any _).mono ?_); rintro e w1 ⟨rfl, x1, rfl⟩) | ((with_reducible show bodyPost _ _ _ _ _ _); exact ret_23 rfl rfl (by simp [go_sem]) rfl ⟨by simp [go_sem], (by repeat (first | exact grA | apply grB | apply grC | apply grD))⟩))
  | true =>
    rw [t1] at s1
    have hy := (sureB_yes t1).2
    have b1 : -9223372036854775807 ≤ a := by have := wa.1; omega
    have b2 := wa.2
    have S1 := Lib.hid s1; clear s1 t1 wa wb hy
    simp only [if_true]
    go_enter Try.func108, Try.ntmps108
    go_wp2_with (first | (go_at_call 95; (with_reducible refine (S1.out _).mono ?_); rintro e w1 ⟨rfl, x1, rfl⟩) | ((with_reducible show bodyPost _ _ _ _ _ _); exact ret_23 rfl rfl (by simp [go_sem]) rfl ⟨by simp [go_sem], (by repeat (first | exact grA | apply grB | apply grC | apply grD))⟩))

set_option maxRecDepth 100000 in
set_option maxHeartbeats 4000000 in
theorem refMul2_any (a b c d : Int) (w : World) (wa : I64 a) (wb : I64 b) (wc : I64 c) (wd : I64 d) :
    Calls Try.prog 75 #[.agg #[.int .i64 a, .int .i64 b], .agg #[.int .i64 c, .int .i64 d]] w (Gives w (ratV (mulQ (a, b) (c, d)))) := by
  have s1 := fun w => refIs_any a b w wa.1 wa.2 wb.1 wb.2
  have s2 := fun w => refIs_any c d w wc.1 wc.2 wd.1 wd.2
  unfold mulQ
  simp only
  cases t1 : sureB a b with
  | false =>
    rw [t1] at s1
    have S1 := Lib.hid s1; clear s1 s2 t1
    simp only [Bool.false_and, Bool.false_eq_true, if_false]
    go_enter Try.func75, Try.ntmps75
    go_wp2_with (first | (go_at_call 95; (with_reducible refine (S1.out _).mono ?_); rintro e w1 ⟨rfl, x1, rfl⟩) | (go_at_call 79; (with_reducible refine (refOver_any _).mono ?_); rintro e w1 ⟨rfl, x1, rfl⟩) | ((with_reducible show bodyPost _ _ _ _ _ _); exact ret_23 rfl rfl (by simp [go_sem]) rfl ⟨by simp [go_sem], (by repeat (first | exact grA | apply grB | apply grC | apply grD))⟩))
  | true =>
    cases t2 : sureB c d with
    | false =>
      rw [t1] at s1; rw [t2] at s2
      have S1 := Lib.hid s1; have S2 := Lib.hid s2; clear s1 s2 t1 t2
      simp only [Bool.and_false, Bool.false_eq_true, if_false]
      go_enter Try.func75, Try.ntmps75
      go_wp2_with (first | (go_at_call 95; (with_reducible refine (S1.out _).mono ?_); rintro e w1 ⟨rfl, x1, rfl⟩) | (go_at_call 95; (with_reducible refine (S2.out _).mono ?_); rintro e w1 ⟨rfl, x1, rfl⟩) | (go_at_call 79; (with_reducible refine (refOver_any _).mono ?_); rintro e w1 ⟨rfl, x1, rfl⟩) | ((with_reducible show bodyPost _ _ _ _ _ _); exact ret_23 rfl rfl (by simp [go_sem]) rfl ⟨by simp [go_sem], (by repeat (first | exact grA | apply grB | apply grC | apply grD))⟩))
    | true =>
      have hb := (sureB_yes t1).1
      have hd := (sureB_yes t2).1
      rw [t1] at s1; rw [t2] at s2
      have S1 := Lib.hid s1; have S2 := Lib.hid s2; clear s1 s2 t1 t2
      simp only [Bool.and_self, if_true]
      have n1 := fun w => mag_any a w wa.1 wa.2
      have n2 := fun w => mag_any c w wc.1 wc.2
      have ub : IntKind.u64.wrap b = (b.natAbs : Int) := by rw [IntWalk.u64_in _ ⟨by omega, by have := wb.2; omega⟩]; omega
      have ud : IntKind.u64.wrap d = (d.natAbs : Int) := by rw [IntWalk.u64_in _ ⟨by omega, by have := wd.2; omega⟩]; omega
      have m1 := fun w => refMulW_any a.natAbs c.natAbs (by have := wa.1; have := wa.2; omega) (by have := wc.1; have := wc.2; omega) w
      have m2 := fun w => refMulW_any b.natAbs d.natAbs (by have := wb.2; omega) (by have := wd.2; omega) w
      have l1 : a.natAbs * c.natAbs ≤ 85070591730234615865843651857942052864 := mul_endW (by have := wa.1; have := wa.2; omega) (by have := wc.1; have := wc.2; omega)
      have l2 : b.natAbs * d.natAbs ≤ 85070591730234615865843651857942052864 := mul_endW (by have := wb.2; omega) (by have := wd.2; omega)
      have k1 := fun w => refMade_any (negB a != negB c) (a.natAbs * c.natAbs) (b.natAbs * d.natAbs) (by unfold endW; omega) (by unfold endW; omega) w
      have na : negB a = decide (a < 0) := rfl
      have nc : negB c = decide (c < 0) := rfl
      rw [na, nc] at k1 ⊢
      generalize a.natAbs * c.natAbs = N at *
      generalize b.natAbs * d.natAbs = D at *
      generalize mkQ (decide (a < 0) != decide (c < 0)) N D = R at *
      change ∀ w, Calls _ _ #[.bool (!(decide (a < 0) == decide (c < 0))), _, _] w _ at k1
      have U1 := Lib.hid (fun (w : World) => n1 w); have U2 := Lib.hid (fun (w : World) => n2 w)
      have M1 := Lib.hid m1; have M2 := Lib.hid m2; have K1 := Lib.hid k1
      clear n1 n2 m1 m2 k1 wa wb wc wd l1 l2 na nc
      go_enter Try.func75, Try.ntmps75
      go_wp2_with (first | (go_at_call 95; (with_reducible refine (S1.out _).mono ?_); rintro e w1 ⟨rfl, x1, rfl⟩) | (go_at_call 95; (with_reducible refine (S2.out _).mono ?_); rintro e w1 ⟨rfl, x1, rfl⟩))
      refine wp_region_plus_tail 22 (by kernel_rfl) (by kernel_rfl) ?_
      simp only [List.take_succ_cons, List.take_zero, List.drop_succ_cons, List.drop_zero]
      repeat (go_big_quiet_step (first | (go_at_call 97; (with_reducible exact Calls.plus_of (gives_same (U1.out _)))) | (go_at_call 97; (with_reducible exact Calls.plus_of (gives_same (U2.out _)))) | (go_at_call 96; (with_reducible exact Calls.plus_of (M1.out _))) | (go_at_call 96; (with_reducible exact Calls.plus_of (M2.out _))) | (go_at_call 98; (with_reducible exact Calls.plus_of (K1.out _)))))
      refine wpQuiet_nil ?_; intro _ hw'; obtain ⟨xq, hw''⟩ := hw'; subst hw''
      go_wp2_with (first | ((with_reducible show bodyPost _ _ _ _ _ _); exact ret_23 rfl rfl (by simp [go_sem]) rfl ⟨by simp [go_sem], (by repeat (first | exact grA | apply grB | apply grC | apply grD))⟩))

set_option maxRecDepth 100000 in
theorem addW_any (x y : Nat) (hxy : x + y < endW) (w : World) : Calls Try.prog 99 #[valW x, valW y] w (Gives w (valW (x + y))) := by
  have ex : x < endW := by omega
  have ey : y < endW := by omega
  have v1 := fun w => run_add64 (x % 18446744073709551616) (y % 18446744073709551616) 0 (by omega) (by omega) (by omega) w
  have v2 := fun w => run_add64 (x / 18446744073709551616) (y / 18446744073709551616) ((x % 18446744073709551616 + y % 18446744073709551616 + 0) / 18446744073709551616) (by omega) (by unfold endW at ex; omega) (by unfold endW at ey; omega) w
  rw [addLo] at v1; rw [addHi hxy] at v2
  change ∀ w, (callFunc _ #[.int .u64 (loW x), .int .u64 (loW y), .int .u64 0]).run _ w = _ at v1
  change ∀ w, (callFunc _ #[.int .u64 (hiW x), .int .u64 (hiW y), _]).run _ w = _ at v2
  generalize (((x % 18446744073709551616 + y % 18446744073709551616 + 0) / 18446744073709551616 : Nat) : Int) = cr at *
  generalize (((x / 18446744073709551616 + y / 18446744073709551616 + (x % 18446744073709551616 + y % 18446744073709551616 + 0) / 18446744073709551616) / 18446744073709551616 : Nat) : Int) = cr2 at *
  unfold valW
  clear hxy ex ey
  generalize hiW (x + y) = t at *; generalize loW (x + y) = u at *
  generalize hiW x = p at *; generalize loW x = q at *; generalize hiW y = r at *; generalize loW y = s at *
  go_enter Try.func99, Try.ntmps99
  go_wp2_with (first | ((with_reducible show bodyPost _ _ _ _ _ _); exact ret_99 rfl rfl (by simp [go_sem]) rfl ⟨by simp [go_sem], (by repeat (first | exact grA | apply grB | apply grC | apply grD))⟩))

set_option maxRecDepth 100000 in
set_option maxHeartbeats 8000000 in
theorem refAdd2_any (a b c d : Int) (w : World) (wa : I64 a) (wb : I64 b) (wc : I64 c) (wd : I64 d) :
    Calls Try.prog 74 #[.agg #[.int .i64 a, .int .i64 b], .agg #[.int .i64 c, .int .i64 d]] w (Gives w (ratV (addQ (a, b) (c, d)))) := by
  have s1 := fun w => refIs_any a b w wa.1 wa.2 wb.1 wb.2
  have s2 := fun w => refIs_any c d w wc.1 wc.2 wd.1 wd.2
  cases t1 : sureB a b with
  | false =>
    rw [addQ_over (p := (a, b)) (q := (c, d)) (.inl (show sureP (a, b) = false from t1))]
    rw [t1] at s1
    have S1 := Lib.hid s1; clear s1 s2 t1
    go_enter Try.func74, Try.ntmps74
    go_wp2_with (first | (go_at_call 95; (with_reducible refine (S1.out _).mono ?_); rintro e w1 ⟨rfl, x1, rfl⟩) | (go_at_call 79; (with_reducible refine (refOver_any _).mono ?_); rintro e w1 ⟨rfl, x1, rfl⟩) | ((with_reducible show bodyPost _ _ _ _ _ _); exact ret_23 rfl rfl (by simp [go_sem]) rfl ⟨by simp [go_sem], (by repeat (first | exact grA | apply grB | apply grC | apply grD))⟩))
  | true =>
    cases t2 : sureB c d with
    | false =>
      rw [addQ_over (p := (a, b)) (q := (c, d)) (.inr (show sureP (c, d) = false from t2))]
      rw [t1] at s1; rw [t2] at s2
      have S1 := Lib.hid s1; have S2 := Lib.hid s2; clear s1 s2 t1 t2
      go_enter Try.func74, Try.ntmps74
      go_wp2_with (first | (go_at_call 95; (with_reducible refine (S1.out _).mono ?_); rintro e w1 ⟨rfl, x1, rfl⟩) | (go_at_call 95; (with_reducible refine (S2.out _).mono ?_); rintro e w1 ⟨rfl, x1, rfl⟩) | (go_at_call 79; (with_reducible refine (refOver_any _).mono ?_); rintro e w1 ⟨rfl, x1, rfl⟩) | ((with_reducible show bodyPost _ _ _ _ _ _); exact ret_23 rfl rfl (by simp [go_sem]) rfl ⟨by simp [go_sem], (by repeat (first | exact grA | apply grB | apply grC | apply grD))⟩))
    | true =>
      have hb := (sureB_yes t1).1
      have hd := (sureB_yes t2).1
      have hR := addQ_ref t1 t2
      rw [t1] at s1; rw [t2] at s2
      have S1 := Lib.hid s1; have S2 := Lib.hid s2; clear s1 s2 t1 t2
      generalize addQ (a, b) (c, d) = R at *
      obtain ⟨R1, R2⟩ := R
      have n1 := fun w => mag_any a w wa.1 wa.2
      have n2 := fun w => mag_any c w wc.1 wc.2
      have ub : IntKind.u64.wrap b = (b.natAbs : Int) := by rw [IntWalk.u64_in _ ⟨by omega, by have := wb.2; omega⟩]; omega
      have ud : IntKind.u64.wrap d = (d.natAbs : Int) := by rw [IntWalk.u64_in _ ⟨by omega, by have := wd.2; omega⟩]; omega
      have m1 := fun w => refMulW_any a.natAbs d.natAbs (by have := wa.1; have := wa.2; omega) (by have := wd.2; omega) w
      have m2 := fun w => refMulW_any c.natAbs b.natAbs (by have := wc.1; have := wc.2; omega) (by have := wb.2; omega) w
      have m3 := fun w => refMulW_any b.natAbs d.natAbs (by have := wb.2; omega) (by have := wd.2; omega) w
      have l1 : a.natAbs * d.natAbs ≤ 85070591730234615865843651857942052864 := mul_endW (by have := wa.1; have := wa.2; omega) (by have := wd.2; omega)
      have l2 : c.natAbs * b.natAbs ≤ 85070591730234615865843651857942052864 := mul_endW (by have := wc.1; have := wc.2; omega) (by have := wb.2; omega)
      have l3 : b.natAbs * d.natAbs ≤ 85070591730234615865843651857942052864 := mul_endW (by have := wb.2; omega) (by have := wd.2; omega)
      have na : negB a = decide (a < 0) := rfl
      have nc : negB c = decide (c < 0) := rfl
      rw [na, nc] at hR
      generalize a.natAbs * d.natAbs = X at *
      generalize c.natAbs * b.natAbs = Y at *
      generalize b.natAbs * d.natAbs = D at *
      have U1 := Lib.hid (fun (w : World) => n1 w); have U2 := Lib.hid (fun (w : World) => n2 w)
      have M1 := Lib.hid m1; have M2 := Lib.hid m2; have M3 := Lib.hid m3
      have hkm := fun neg N (h : N < endW) w => refMade_any neg N D h (by unfold endW; omega) w
      have hw := addW_any X Y (by unfold endW; omega)
      have hs1 := fun (h : Y ≤ X) w => sub_any X Y (by unfold endW; omega) (by unfold endW; omega) w
      have hs2 := fun (h : X ≤ Y) w => sub_any Y X (by unfold endW; omega) (by unfold endW; omega) w
      have hl := fun w => less_any X Y w
      have KM := Lib.hid hkm; have HW := Lib.hid hw; have HS1 := Lib.hid hs1; have HS2 := Lib.hid hs2; have HLS := Lib.hid hl; have HR := Lib.hid hR
      have BX : Hid (X < endW ∧ Y < endW ∧ X + Y < endW) := ⟨by unfold endW; omega, by unfold endW; omega, by unfold endW; omega⟩
      clear n1 n2 m1 m2 m3 wa wb wc wd l1 l2 l3 na nc hkm hw hs1 hs2 hl hR
      go_enter Try.func74, Try.ntmps74
      go_wp2_with (first | (go_at_call 95; (with_reducible refine (S1.out _).mono ?_); rintro e w1 ⟨rfl, x1, rfl⟩) | (go_at_call 95; (with_reducible refine (S2.out _).mono ?_); rintro e w1 ⟨rfl, x1, rfl⟩))
      go_upto_region 4 with fail
      go_cut [5, 6] (fun s6 s7 wx => ∃ g k : Nat, s6 = .pointer (some ⟨g, 0, none⟩) ∧ s7 = .pointer (some ⟨k, 0, none⟩) ∧ g ≠ k ∧ w.heap.size + 3 ≤ g ∧ w.heap.size + 3 ≤ k ∧ wx.row g = some (.cells #[.int .u64 (hiW X), .int .u64 (loW X)] 99) ∧ wx.row k = some (.cells #[.int .u64 (hiW Y), .int .u64 (loW Y)] 99) ∧ (wx.row (w.heap.size) = some (.cells #[.int .i64 a, .int .i64 b] 23) ∧ wx.row (w.heap.size + 1) = some (.cells #[.int .i64 c, .int .i64 d] 23) ∧ wx.row (w.heap.size + 1 + 1) = some (.cells #[.int .i64 0, .int .i64 0] 23) ∧ w.heap.size < wx.heap.size ∧ w.heap.size + 1 < wx.heap.size ∧ w.heap.size + 1 + 1 < wx.heap.size ∧ w.grows wx))
      case first =>
        refine abs_rows (w := w) (G := fun W => Code.wp _ _ _ _ W) (by repeat (with_reducible first | assumption | exact grA | apply grB | apply grC | apply grD | refine grE ?_ (by omega) _ | refine grF ?_ (by omega) _ _)) [(w.heap.size, .cells #[.int .i64 a, .int .i64 b] 23), (w.heap.size + 1, .cells #[.int .i64 c, .int .i64 d] 23), (w.heap.size + 1 + 1, .cells #[.int .i64 0, .int .i64 0] 23)] (by simp [go_sem, *]) ?_
        intro V gV hl
        simp only [List.forall_mem_cons, List.not_mem_nil, false_implies, implies_true, and_true] at hl
        obtain ⟨hx, hy, hz⟩ := hl
        have zhx := row_sz' hx
        have zhy := row_sz' hy
        have zhz := row_sz' hz
        go_region_held3 (fun w' => (w'.row (w.heap.size) = some (.cells #[.int .i64 a, .int .i64 b] 23) ∧ w'.row (w.heap.size + 1) = some (.cells #[.int .i64 c, .int .i64 d] 23) ∧ w'.row (w.heap.size + 1 + 1) = some (.cells #[.int .i64 0, .int .i64 0] 23) ∧ w.heap.size < w'.heap.size ∧ w.heap.size + 1 < w'.heap.size ∧ w.heap.size + 1 + 1 < w'.heap.size ∧ w.grows w')) ((try refine ⟨?_, ?_, ?_, ?_, ?_, ?_, ?_⟩) <;> first | (simp [go_sem, *]; done) | (repeat (with_reducible first | assumption | exact grA | apply grB | apply grC | apply grD | refine grE ?_ (by omega) _))) (first | (go_at_call 97; (with_reducible refine (U1.out _).mono ?_); rintro e w1 ⟨rfl, rfl⟩) | (go_at_call 97; (with_reducible refine (U2.out _).mono ?_); rintro e w1 ⟨rfl, rfl⟩) | (go_at_call 96; (with_reducible refine (M1.out _).mono ?_); rintro e w1 ⟨rfl, x1, rfl⟩) | (go_at_call 96; (with_reducible refine (M2.out _).mono ?_); rintro e w1 ⟨rfl, x1, rfl⟩))
        all_goals (go_wp2_with fail; go_meet; have zz := zhx.1; have zy := zhz.1; refine ⟨_, _, rfl, rfl, by omega, by omega, by omega, by simp [go_sem, *], by simp [go_sem, *], by simp [go_sem, *], by simp [go_sem, *], by simp [go_sem, *], by simp [go_sem, *], by simp [go_sem, *], by simp [go_sem, *], (by repeat (with_reducible first | assumption | exact grA | apply grB | apply grC | apply grD | refine grE ?_ (by omega) _ | refine grF ?_ (by omega) _ _))⟩)
      case rest =>
        obtain ⟨g, k, rfl, rfl, hgk, hg0, hk0, hx, hy, hA, hB, hC, hA1, hB1, hC1, hg⟩ := hcut
        have z1 := row_sz' hx; have z2 := row_sz' hy; have z3 := row_sz' hA; have z4 := row_sz' hB; have z5 := row_sz' hC
        have e1 : (g = w.heap.size + 1 + 1) = False := by apply eq_false; omega
        have e2 : (k = w.heap.size + 1 + 1) = False := by apply eq_false; omega
        have HGK := Lib.hid hgk; clear hgk hA1 hB1 hC1 hg0 hk0
        by_cases ha : a < 0
        · have ha' : decide (a < 0) = true := by simpa using ha
          by_cases hc : c < 0
          · have hc' : decide (c < 0) = true := by simpa using hc
            have hR := HR.out
            rw [ha', hc'] at hR
            rw [if_pos rfl] at hR
            have q1 := HW.out
            have q2 := fun w => KM.out true (X + Y) BX.out.2.2 w
            rw [← hR] at q2
            have Q1 := Lib.hid q1; have Q2 := Lib.hid q2; clear q1 q2 hR HR KM HW HS1 HS2 HLS
            go_wp2_with (first | (go_at_call 96; (with_reducible refine (M3.out _).mono ?_); rintro e w1 ⟨rfl, x1, rfl⟩))
            refine wp_region_plus_lit (by kernel_rfl) (by kernel_rfl) ?_
            repeat (go_big_quiet_step (fail))
            (refine wpQuiet_nil ?_; intro _ hw'; obtain ⟨xq, hw''⟩ := hw'; subst hw'')
            go_wp2_with (first | fail)
            refine wp_region_plus_tail 6 (by kernel_rfl) (by kernel_rfl) ?_
            simp only [List.take_succ_cons, List.take_zero, List.drop_succ_cons, List.drop_zero]
            repeat (go_big_quiet_step (first | (go_at_call 99; (with_reducible exact Calls.plus_of (Q1.out _))) | (go_at_call 98; (with_reducible exact Calls.plus_of (Q2.out _)))))
            refine wpQuiet_nil ?_; intro _ hw'; obtain ⟨xq, hw''⟩ := hw'; subst hw''
            go_wp2_with (first | ((with_reducible show bodyPost _ _ _ _ _ _); exact ret_23 rfl rfl (by simp [go_sem, hC, z1, z2, z3, z4, z5]) rfl ⟨by simp [go_sem, hC, z1, z2, z3, z4, z5], (by repeat (with_reducible first | assumption | exact grA | apply grB | apply grC | apply grD | refine grE ?_ (by omega) _ | refine grF ?_ (by omega) _ _))⟩))
          · have hc' : decide (c < 0) = false := by simpa using hc
            have hR := HR.out
            rw [ha', hc'] at hR
            rw [if_neg (by simp)] at hR
            have l1 := HLS.out
            by_cases hlt : X < Y
            · rw [if_pos hlt] at hR
              simp only [hlt, decide_true] at l1
              have q1 := HS2.out (by omega)
              rw [sub_le BX.out.2.1 (by omega)] at q1
              have q2 := fun w => KM.out false (Y - X) (by have := BX.out.2.1; omega) w
              rw [← hR] at q2
              have Q1 := Lib.hid q1; have Q2 := Lib.hid q2; have L1 := Lib.hid l1; clear q1 q2 l1 hR HR KM HW HS1 HS2 HLS hlt
              go_wp2_with (first | (go_at_call 96; (with_reducible refine (M3.out _).mono ?_); rintro e w1 ⟨rfl, x1, rfl⟩) | (go_at_call 100; (with_reducible refine (L1.out _).mono ?_); rintro e w1 ⟨rfl, x1, rfl⟩))
              refine wp_region_plus_lit (by kernel_rfl) (by kernel_rfl) ?_
              repeat (go_big_quiet_step (fail))
              (refine wpQuiet_nil ?_; intro _ hw'; obtain ⟨xq, hw''⟩ := hw'; subst hw'')
              go_wp2_with (first | (go_at_call 100; (with_reducible refine (L1.out _).mono ?_); rintro e w1 ⟨rfl, x1, rfl⟩))
              refine wp_region_plus_tail 6 (by kernel_rfl) (by kernel_rfl) ?_
              simp only [List.take_succ_cons, List.take_zero, List.drop_succ_cons, List.drop_zero]
              repeat (go_big_quiet_step (first | (go_at_call 101; (with_reducible exact Calls.plus_of (Q1.out _))) | (go_at_call 98; (with_reducible exact Calls.plus_of (Q2.out _)))))
              refine wpQuiet_nil ?_; intro _ hw'; obtain ⟨xq, hw''⟩ := hw'; subst hw''
              go_wp2_with (first | ((with_reducible show bodyPost _ _ _ _ _ _); exact ret_23 rfl rfl (by simp [go_sem, hC, z1, z2, z3, z4, z5]) rfl ⟨by simp [go_sem, hC, z1, z2, z3, z4, z5], (by repeat (with_reducible first | assumption | exact grA | apply grB | apply grC | apply grD | refine grE ?_ (by omega) _ | refine grF ?_ (by omega) _ _))⟩))
            · rw [if_neg hlt] at hR
              simp only [hlt, decide_false] at l1
              have q1 := HS1.out (by omega)
              rw [sub_le BX.out.1 (by omega)] at q1
              have q2 := fun w => KM.out true (X - Y) (by have := BX.out.1; omega) w
              rw [← hR] at q2
              have Q1 := Lib.hid q1; have Q2 := Lib.hid q2; have L1 := Lib.hid l1; clear q1 q2 l1 hR HR KM HW HS1 HS2 HLS hlt
              go_wp2_with (first | (go_at_call 96; (with_reducible refine (M3.out _).mono ?_); rintro e w1 ⟨rfl, x1, rfl⟩) | (go_at_call 100; (with_reducible refine (L1.out _).mono ?_); rintro e w1 ⟨rfl, x1, rfl⟩))
              refine wp_region_plus_lit (by kernel_rfl) (by kernel_rfl) ?_
              repeat (go_big_quiet_step (fail))
              (refine wpQuiet_nil ?_; intro _ hw'; obtain ⟨xq, hw''⟩ := hw'; subst hw'')
              go_wp2_with (first | (go_at_call 100; (with_reducible refine (L1.out _).mono ?_); rintro e w1 ⟨rfl, x1, rfl⟩))
              refine wp_region_plus_tail 6 (by kernel_rfl) (by kernel_rfl) ?_
              simp only [List.take_succ_cons, List.take_zero, List.drop_succ_cons, List.drop_zero]
              repeat (go_big_quiet_step (first | (go_at_call 101; (with_reducible exact Calls.plus_of (Q1.out _))) | (go_at_call 98; (with_reducible exact Calls.plus_of (Q2.out _)))))
              refine wpQuiet_nil ?_; intro _ hw'; obtain ⟨xq, hw''⟩ := hw'; subst hw''
              go_wp2_with (first | ((with_reducible show bodyPost _ _ _ _ _ _); exact ret_23 rfl rfl (by simp [go_sem, hC, z1, z2, z3, z4, z5]) rfl ⟨by simp [go_sem, hC, z1, z2, z3, z4, z5], (by repeat (with_reducible first | assumption | exact grA | apply grB | apply grC | apply grD | refine grE ?_ (by omega) _ | refine grF ?_ (by omega) _ _))⟩))
        · have ha' : decide (a < 0) = false := by simpa using ha
          by_cases hc : c < 0
          · have hc' : decide (c < 0) = true := by simpa using hc
            have hR := HR.out
            rw [ha', hc'] at hR
            rw [if_neg (by simp)] at hR
            have l1 := HLS.out
            by_cases hlt : X < Y
            · rw [if_pos hlt] at hR
              simp only [hlt, decide_true] at l1
              have q1 := HS2.out (by omega)
              rw [sub_le BX.out.2.1 (by omega)] at q1
              have q2 := fun w => KM.out true (Y - X) (by have := BX.out.2.1; omega) w
              rw [← hR] at q2
              have Q1 := Lib.hid q1; have Q2 := Lib.hid q2; have L1 := Lib.hid l1; clear q1 q2 l1 hR HR KM HW HS1 HS2 HLS hlt
              go_wp2_with (first | (go_at_call 96; (with_reducible refine (M3.out _).mono ?_); rintro e w1 ⟨rfl, x1, rfl⟩) | (go_at_call 100; (with_reducible refine (L1.out _).mono ?_); rintro e w1 ⟨rfl, x1, rfl⟩))
              refine wp_region_plus_lit (by kernel_rfl) (by kernel_rfl) ?_
              repeat (go_big_quiet_step (fail))
              (refine wpQuiet_nil ?_; intro _ hw'; obtain ⟨xq, hw''⟩ := hw'; subst hw'')
              go_wp2_with (first | (go_at_call 100; (with_reducible refine (L1.out _).mono ?_); rintro e w1 ⟨rfl, x1, rfl⟩))
              refine wp_region_plus_tail 6 (by kernel_rfl) (by kernel_rfl) ?_
              simp only [List.take_succ_cons, List.take_zero, List.drop_succ_cons, List.drop_zero]
              repeat (go_big_quiet_step (first | (go_at_call 101; (with_reducible exact Calls.plus_of (Q1.out _))) | (go_at_call 98; (with_reducible exact Calls.plus_of (Q2.out _)))))
              refine wpQuiet_nil ?_; intro _ hw'; obtain ⟨xq, hw''⟩ := hw'; subst hw''
              go_wp2_with (first | ((with_reducible show bodyPost _ _ _ _ _ _); exact ret_23 rfl rfl (by simp [go_sem, hC, z1, z2, z3, z4, z5]) rfl ⟨by simp [go_sem, hC, z1, z2, z3, z4, z5], (by repeat (with_reducible first | assumption | exact grA | apply grB | apply grC | apply grD | refine grE ?_ (by omega) _ | refine grF ?_ (by omega) _ _))⟩))
            · rw [if_neg hlt] at hR
              simp only [hlt, decide_false] at l1
              have q1 := HS1.out (by omega)
              rw [sub_le BX.out.1 (by omega)] at q1
              have q2 := fun w => KM.out false (X - Y) (by have := BX.out.1; omega) w
              rw [← hR] at q2
              have Q1 := Lib.hid q1; have Q2 := Lib.hid q2; have L1 := Lib.hid l1; clear q1 q2 l1 hR HR KM HW HS1 HS2 HLS hlt
              go_wp2_with (first | (go_at_call 96; (with_reducible refine (M3.out _).mono ?_); rintro e w1 ⟨rfl, x1, rfl⟩) | (go_at_call 100; (with_reducible refine (L1.out _).mono ?_); rintro e w1 ⟨rfl, x1, rfl⟩))
              refine wp_region_plus_lit (by kernel_rfl) (by kernel_rfl) ?_
              repeat (go_big_quiet_step (fail))
              (refine wpQuiet_nil ?_; intro _ hw'; obtain ⟨xq, hw''⟩ := hw'; subst hw'')
              go_wp2_with (first | (go_at_call 100; (with_reducible refine (L1.out _).mono ?_); rintro e w1 ⟨rfl, x1, rfl⟩))
              refine wp_region_plus_tail 6 (by kernel_rfl) (by kernel_rfl) ?_
              simp only [List.take_succ_cons, List.take_zero, List.drop_succ_cons, List.drop_zero]
              repeat (go_big_quiet_step (first | (go_at_call 101; (with_reducible exact Calls.plus_of (Q1.out _))) | (go_at_call 98; (with_reducible exact Calls.plus_of (Q2.out _)))))
              refine wpQuiet_nil ?_; intro _ hw'; obtain ⟨xq, hw''⟩ := hw'; subst hw''
              go_wp2_with (first | ((with_reducible show bodyPost _ _ _ _ _ _); exact ret_23 rfl rfl (by simp [go_sem, hC, z1, z2, z3, z4, z5]) rfl ⟨by simp [go_sem, hC, z1, z2, z3, z4, z5], (by repeat (with_reducible first | assumption | exact grA | apply grB | apply grC | apply grD | refine grE ?_ (by omega) _ | refine grF ?_ (by omega) _ _))⟩))
          · have hc' : decide (c < 0) = false := by simpa using hc
            have hR := HR.out
            rw [ha', hc'] at hR
            rw [if_pos rfl] at hR
            have q1 := HW.out
            have q2 := fun w => KM.out false (X + Y) BX.out.2.2 w
            rw [← hR] at q2
            have Q1 := Lib.hid q1; have Q2 := Lib.hid q2; clear q1 q2 hR HR KM HW HS1 HS2 HLS
            go_wp2_with (first | (go_at_call 96; (with_reducible refine (M3.out _).mono ?_); rintro e w1 ⟨rfl, x1, rfl⟩))
            refine wp_region_plus_lit (by kernel_rfl) (by kernel_rfl) ?_
            repeat (go_big_quiet_step (fail))
            (refine wpQuiet_nil ?_; intro _ hw'; obtain ⟨xq, hw''⟩ := hw'; subst hw'')
            go_wp2_with (first | fail)
            refine wp_region_plus_tail 6 (by kernel_rfl) (by kernel_rfl) ?_
            simp only [List.take_succ_cons, List.take_zero, List.drop_succ_cons, List.drop_zero]
            repeat (go_big_quiet_step (first | (go_at_call 99; (with_reducible exact Calls.plus_of (Q1.out _))) | (go_at_call 98; (with_reducible exact Calls.plus_of (Q2.out _)))))
            refine wpQuiet_nil ?_; intro _ hw'; obtain ⟨xq, hw''⟩ := hw'; subst hw''
            go_wp2_with (first | ((with_reducible show bodyPost _ _ _ _ _ _); exact ret_23 rfl rfl (by simp [go_sem, hC, z1, z2, z3, z4, z5]) rfl ⟨by simp [go_sem, hC, z1, z2, z3, z4, z5], (by repeat (with_reducible first | assumption | exact grA | apply grB | apply grC | apply grD | refine grE ?_ (by omega) _ | refine grF ?_ (by omega) _ _))⟩))

end Go.Proofs.Ythmicnjigfcljaa
