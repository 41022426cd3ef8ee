/- WALKS over jalousieref1: which of two fractions is less. No condition but that numbers are of their kinds. -/
import Derived.Test.YtjfccilmlmimaaaMf
import Derived.Deep.RegionHeld3
set_option linter.unusedSimpArgs false
set_option linter.unusedVariables false
namespace Go.Proofs.Ytjfccilmlmimaaa
open Go.RowKit

set_option maxRecDepth 100000 in
set_option maxHeartbeats 4000000 in
theorem refCmp_any (a b c d : Int) (w : World) (wa : I64 a) (wb : I64 b) (wc : I64 c) (wd : I64 d) :
    Calls Try.prog 18 #[.agg #[.int .i64 a, .int .i64 b], .agg #[.int .i64 c, .int .i64 d]] w (Gives w (cmpV a b c d)) := by
  have s1 := fun w => refIs_any a b w wa.1 wa.2 wb.1 wb.2
  have s2 := fun w => refIs_any c d w wc.1 wc.2 wd.1 wd.2
  unfold cmpV
  cases t1 : sureB a b with
  | false =>
    rw [t1] at s1
    have S1 := Lib.hid s1; clear s1 s2 t1
    simp only [Bool.false_and, Bool.false_eq_true, if_false]
    go_enter Try.func18, Try.ntmps18
    go_wp2_with (first | (go_at_call 17; (with_reducible refine (S1.out _).mono ?_); rintro e w1 ⟨rfl, x1, rfl⟩))
    go_ret2
    exact ⟨rfl, (by repeat (first | exact grA | apply grB | apply grC | apply grD))⟩
  | true =>
    cases t2 : sureB c d with
    | false =>
      rw [t1] at s1; rw [t2] at s2
      have S1 := Lib.hid s1; have S2 := Lib.hid s2; clear s1 s2 t1 t2
      simp only [Bool.and_false, Bool.false_eq_true, if_false]
      go_enter Try.func18, Try.ntmps18
      go_wp2_with (first | (go_at_call 17; (with_reducible refine (S1.out _).mono ?_); rintro e w1 ⟨rfl, x1, rfl⟩) | (go_at_call 17; (with_reducible refine (S2.out _).mono ?_); rintro e w1 ⟨rfl, x1, rfl⟩))
      go_ret2
      exact ⟨rfl, (by repeat (first | exact grA | apply grB | apply grC | apply grD))⟩
    | true =>
      have hb := (sureB_yes t1).1
      have hd := (sureB_yes t2).1
      rw [t1] at s1; rw [t2] at s2
      have S1 := Lib.hid s1; have S2 := Lib.hid s2; clear s1 s2 t1 t2
      simp only [Bool.and_self, if_true]
      have n1 := fun w => mag_any a w wa.1 wa.2
      have n2 := fun w => mag_any c w wc.1 wc.2
      have ub : IntKind.u64.wrap b = (b.natAbs : Int) := by rw [IntWalk.u64_in _ ⟨by omega, by have := wb.2; omega⟩]; omega
      have ud : IntKind.u64.wrap d = (d.natAbs : Int) := by rw [IntWalk.u64_in _ ⟨by omega, by have := wd.2; omega⟩]; omega
      have m1 := fun w => refMulW_any a.natAbs d.natAbs (by have := wa.1; have := wa.2; omega) (by have := wd.2; omega) w
      have m2 := fun w => refMulW_any c.natAbs b.natAbs (by have := wc.1; have := wc.2; omega) (by have := wb.2; omega) w
      have hP : 0 ≤ a → 0 ≤ c → cmpI a b c d = _ := fun x y => cmpI_pos x y hb hd
      have hN : a < 0 → c < 0 → cmpI a b c d = _ := fun x y => cmpI_neg x y hb hd
      have hL : a < 0 → 0 ≤ c → cmpI a b c d = _ := fun x y => cmpI_lo x y hb hd
      have hU : 0 ≤ a → c < 0 → cmpI a b c d = _ := fun x y => cmpI_hi x y hb hd
      generalize a.natAbs * d.natAbs = X at *
      generalize c.natAbs * b.natAbs = Y at *
      have U1 := Lib.hid (fun (w : World) => n1 w); have U2 := Lib.hid (fun (w : World) => n2 w)
      have M1 := Lib.hid m1; have M2 := Lib.hid m2
      have HP := Lib.hid hP; have HN := Lib.hid hN; have HL := Lib.hid hL; have HU := Lib.hid hU
      clear n1 n2 m1 m2 hP hN hL hU wa wb wc wd
      have l1 := fun w => less_any X Y w
      have l2 := fun w => less_any Y X w
      have L1 := Lib.hid l1; have L2 := Lib.hid l2; clear l1 l2
      go_enter Try.func18, Try.ntmps18
      go_wp2_with (first | (go_at_call 17; (with_reducible refine (S1.out _).mono ?_); rintro e w1 ⟨rfl, x1, rfl⟩) | (go_at_call 17; (with_reducible refine (S2.out _).mono ?_); rintro e w1 ⟨rfl, x1, rfl⟩))
      go_upto_region 4 with fail
      go_cut [6, 7] (fun s6 s7 wx => ∃ g k : Nat, s6 = .pointer (some ⟨g, 0, none⟩) ∧ s7 = .pointer (some ⟨k, 0, none⟩) ∧ g ≠ k ∧ w.heap.size ≤ g ∧ w.heap.size ≤ k ∧ wx.row g = some (.cells #[.int .u64 (hiW X), .int .u64 (loW X)] 69) ∧ wx.row k = some (.cells #[.int .u64 (hiW Y), .int .u64 (loW Y)] 69) ∧ (wx.row (w.heap.size) = some (.cells #[.int .i64 a, .int .i64 b] 24) ∧ wx.row (w.heap.size + 1) = some (.cells #[.int .i64 c, .int .i64 d] 24) ∧ w.heap.size < wx.heap.size ∧ w.heap.size + 1 < wx.heap.size ∧ w.grows wx))
      case first =>
        refine abs_rows (w := w) (G := fun W => Code.wp _ _ _ _ W) (by repeat (with_reducible first | assumption | exact grA | apply grB | apply grC | apply grD | refine grE ?_ (by omega) _ | refine grF ?_ (by omega) _ _)) [(w.heap.size, .cells #[.int .i64 a, .int .i64 b] 24), (w.heap.size + 1, .cells #[.int .i64 c, .int .i64 d] 24)] (by simp [go_sem, *]) ?_
        intro V gV hl
        simp only [List.forall_mem_cons, List.not_mem_nil, false_implies, implies_true, and_true] at hl
        obtain ⟨hx, hy⟩ := hl
        have zhx := row_sz' hx
        have zhy := row_sz' hy
        go_region_held3 (fun w' => (w'.row (w.heap.size) = some (.cells #[.int .i64 a, .int .i64 b] 24) ∧ w'.row (w.heap.size + 1) = some (.cells #[.int .i64 c, .int .i64 d] 24) ∧ w.heap.size < w'.heap.size ∧ w.heap.size + 1 < w'.heap.size ∧ w.grows w')) ((try refine ⟨?_, ?_, ?_, ?_, ?_⟩) <;> first | (simp [go_sem, *]; done) | (repeat (with_reducible first | assumption | exact grA | apply grB | apply grC | apply grD | refine grE ?_ (by omega) _))) (first | (go_at_call 35; (with_reducible refine (U1.out _).mono ?_); rintro e w1 ⟨rfl, rfl⟩) | (go_at_call 35; (with_reducible refine (U2.out _).mono ?_); rintro e w1 ⟨rfl, rfl⟩) | (go_at_call 34; (with_reducible refine (M1.out _).mono ?_); rintro e w1 ⟨rfl, x1, rfl⟩) | (go_at_call 34; (with_reducible refine (M2.out _).mono ?_); rintro e w1 ⟨rfl, x1, rfl⟩))
        all_goals (go_wp2_with fail; go_meet; have zz := zhx.1; have zy := zhy.1; refine ⟨_, _, rfl, rfl, by omega, by omega, by omega, by simp [go_sem, *], by simp [go_sem, *], by simp [go_sem, *], by simp [go_sem, *], by simp [go_sem, *], by simp [go_sem, *], (by repeat (with_reducible first | assumption | exact grA | apply grB | apply grC | apply grD | refine grE ?_ (by omega) _ | refine grF ?_ (by omega) _ _))⟩)
      case rest =>
        obtain ⟨g, k, rfl, rfl, hgk, hg0, hk0, hx, hy, hA, hB, hA1, hB1, hg⟩ := hcut
        have z1 := row_sz' hx; have z2 := row_sz' hy; have z3 := row_sz' hA; have z4 := row_sz' hB
        have hkg : (k = g) = False := eq_false (fun e => hgk e.symm)
        have hgk' : (g = k) = False := eq_false hgk
        clear hgk hA1 hB1
        have GG := Lib.hid hg0; have KK := Lib.hid hk0; clear hg0 hk0
        by_cases ha : a < 0
        · by_cases hc : c < 0
          · have hR := HN.out ha hc
            clear HP HN HL HU
            generalize cmpI a b c d = R at *
            have HR := Lib.hid hR; clear hR
            have l1 := fun w => L1.out w; have l2 := fun w => L2.out w
            by_cases h1 : Y < X
            · simp only [h1, decide_true] at l2
              have eR : R = -1 := by rw [HR.out]; unfold cmpN; rw [if_neg (by omega), if_pos h1]
              have M2' := Lib.hid l2; subst eR; clear l1 l2 h1 L1 L2 HR
              go_wp2_with fail
              refine wp_region_plus_lit (by kernel_rfl) (by kernel_rfl) ?_
              repeat (go_big_quiet_step (fail))
              (refine wpQuiet_nil ?_; intro _ hw'; obtain ⟨xq, hw''⟩ := hw'; subst hw'')
              go_wp2_with (first | (go_at_call 36; (with_reducible refine (M2'.out _).mono ?_); rintro e w1 ⟨rfl, x1, rfl⟩))
              go_ret2
              have GG' := GG.out; have KK' := KK.out
              exact ⟨rfl, (by repeat (with_reducible first | assumption | exact grA | apply grB | apply grC | apply grD | refine grE ?_ (by omega) _ | refine grF ?_ (by omega) _ _))⟩
            · simp only [h1, decide_false] at l2
              have M2' := Lib.hid l2; clear l2
              by_cases h2 : X < Y
              · simp only [h2, decide_true] at l1
                have eR : R = 1 := by rw [HR.out]; unfold cmpN; rw [if_pos h2]; rfl
                have M1' := Lib.hid l1; subst eR; clear l1 h1 h2 L1 L2 HR
                go_wp2_with fail
                refine wp_region_plus_lit (by kernel_rfl) (by kernel_rfl) ?_
                repeat (go_big_quiet_step (fail))
                (refine wpQuiet_nil ?_; intro _ hw'; obtain ⟨xq, hw''⟩ := hw'; subst hw'')
                go_wp2_with (first | (go_at_call 36; (with_reducible refine (M2'.out _).mono ?_); rintro e w1 ⟨rfl, x1, rfl⟩) | (go_at_call 36; (with_reducible refine (M1'.out _).mono ?_); rintro e w1 ⟨rfl, x1, rfl⟩))
                go_ret2
                have GG' := GG.out; have KK' := KK.out
                exact ⟨rfl, (by repeat (with_reducible first | assumption | exact grA | apply grB | apply grC | apply grD | refine grE ?_ (by omega) _ | refine grF ?_ (by omega) _ _))⟩
              · simp only [h2, decide_false] at l1
                have eR : R = 0 := by rw [HR.out]; unfold cmpN; rw [if_neg h2, if_neg h1]; rfl
                have M1' := Lib.hid l1; subst eR; clear l1 h1 h2 L1 L2 HR
                go_wp2_with fail
                refine wp_region_plus_lit (by kernel_rfl) (by kernel_rfl) ?_
                repeat (go_big_quiet_step (fail))
                (refine wpQuiet_nil ?_; intro _ hw'; obtain ⟨xq, hw''⟩ := hw'; subst hw'')
                go_wp2_with (first | (go_at_call 36; (with_reducible refine (M2'.out _).mono ?_); rintro e w1 ⟨rfl, x1, rfl⟩) | (go_at_call 36; (with_reducible refine (M1'.out _).mono ?_); rintro e w1 ⟨rfl, x1, rfl⟩))
                go_ret2
                have GG' := GG.out; have KK' := KK.out
                exact ⟨rfl, (by repeat (with_reducible first | assumption | exact grA | apply grB | apply grC | apply grD | refine grE ?_ (by omega) _ | refine grF ?_ (by omega) _ _))⟩
          · have hR := HL.out ha (by omega)
            clear HP HN HL HU L1 L2
            generalize cmpI a b c d = R at *
            subst hR
            have hc' : decide (c < 0) = false := by simpa using hc
            go_wp2_with fail
            refine wp_region_plus_lit (by kernel_rfl) (by kernel_rfl) ?_
            repeat (go_big_quiet_step (fail))
            (refine wpQuiet_nil ?_; intro _ hw'; obtain ⟨xq, hw''⟩ := hw'; subst hw'')
            go_wp2_with fail
            go_ret2
            exact ⟨rfl, (by repeat (with_reducible first | assumption | exact grA | apply grB | apply grC | apply grD | refine grE ?_ (by omega) _ | refine grF ?_ (by omega) _ _))⟩
        · by_cases hc : c < 0
          · have hR := HU.out (by omega) hc
            clear HP HN HL HU L1 L2
            generalize cmpI a b c d = R at *
            subst hR
            have ha' : decide (a < 0) = false := by simpa using ha
            go_wp2_with fail
            refine wp_region_plus_lit (by kernel_rfl) (by kernel_rfl) ?_
            repeat (go_big_quiet_step (fail))
            (refine wpQuiet_nil ?_; intro _ hw'; obtain ⟨xq, hw''⟩ := hw'; subst hw'')
            go_wp2_with fail
            go_ret2
            exact ⟨rfl, (by repeat (with_reducible first | assumption | exact grA | apply grB | apply grC | apply grD | refine grE ?_ (by omega) _ | refine grF ?_ (by omega) _ _))⟩
          · have hR := HP.out (by omega) (by omega)
            clear HP HN HL HU
            have ha' : decide (a < 0) = false := by simpa using ha
            have hc' : decide (c < 0) = false := by simpa using hc
            generalize cmpI a b c d = R at *
            have HR := Lib.hid hR; clear hR
            have l1 := fun w => L1.out w; have l2 := fun w => L2.out w
            by_cases h1 : X < Y
            · simp only [h1, decide_true] at l1
              have eR : R = -1 := by rw [HR.out]; unfold cmpN; rw [if_pos h1]
              have M1' := Lib.hid l1; subst eR; clear l1 l2 h1 L1 L2 HR
              go_wp2_with fail
              refine wp_region_plus_lit (by kernel_rfl) (by kernel_rfl) ?_
              repeat (go_big_quiet_step (fail))
              (refine wpQuiet_nil ?_; intro _ hw'; obtain ⟨xq, hw''⟩ := hw'; subst hw'')
              go_wp2_with (first | (go_at_call 36; (with_reducible refine (M1'.out _).mono ?_); rintro e w1 ⟨rfl, x1, rfl⟩))
              go_ret2
              exact ⟨rfl, (by repeat (with_reducible first | assumption | exact grA | apply grB | apply grC | apply grD | refine grE ?_ (by omega) _ | refine grF ?_ (by omega) _ _))⟩
            · simp only [h1, decide_false] at l1
              have M1' := Lib.hid l1; clear l1
              by_cases h2 : Y < X
              · simp only [h2, decide_true] at l2
                have eR : R = 1 := by rw [HR.out]; unfold cmpN; rw [if_neg h1, if_pos h2]
                have M2' := Lib.hid l2; subst eR; clear l2 h1 h2 L1 L2 HR
                go_wp2_with fail
                refine wp_region_plus_lit (by kernel_rfl) (by kernel_rfl) ?_
                repeat (go_big_quiet_step (fail))
                (refine wpQuiet_nil ?_; intro _ hw'; obtain ⟨xq, hw''⟩ := hw'; subst hw'')
                go_wp2_with (first | (go_at_call 36; (with_reducible refine (M1'.out _).mono ?_); rintro e w1 ⟨rfl, x1, rfl⟩) | (go_at_call 36; (with_reducible refine (M2'.out _).mono ?_); rintro e w1 ⟨rfl, x1, rfl⟩))
                go_ret2
                exact ⟨rfl, (by repeat (with_reducible first | assumption | exact grA | apply grB | apply grC | apply grD | refine grE ?_ (by omega) _ | refine grF ?_ (by omega) _ _))⟩
              · simp only [h2, decide_false] at l2
                have eR : R = 0 := by rw [HR.out]; unfold cmpN; rw [if_neg h1, if_neg h2]
                have M2' := Lib.hid l2; subst eR; clear l2 h1 h2 L1 L2 HR
                go_wp2_with fail
                refine wp_region_plus_lit (by kernel_rfl) (by kernel_rfl) ?_
                repeat (go_big_quiet_step (fail))
                (refine wpQuiet_nil ?_; intro _ hw'; obtain ⟨xq, hw''⟩ := hw'; subst hw'')
                go_wp2_with (first | (go_at_call 36; (with_reducible refine (M1'.out _).mono ?_); rintro e w1 ⟨rfl, x1, rfl⟩) | (go_at_call 36; (with_reducible refine (M2'.out _).mono ?_); rintro e w1 ⟨rfl, x1, rfl⟩))
                go_ret2
                exact ⟨rfl, (by repeat (with_reducible first | assumption | exact grA | apply grB | apply grC | apply grD | refine grE ?_ (by omega) _ | refine grF ?_ (by omega) _ _))⟩

end Go.Proofs.Ytjfccilmlmimaaa
