/- WALKS over order and jalousieref20: which of two claims is weaker; the statement OrderMay's own walk. No condition but that numbers and texts are of their kinds. -/
import Derived.Test.YtajkfmnnokkcaaaOrdW
import Derived.Deep.RegionHeld3
set_option linter.unusedSimpArgs false
set_option linter.unusedVariables false
namespace Go.Proofs.Ytajkfmnnokkcaaa
open Go.RowKit

set_option maxRecDepth 100000 in
set_option maxHeartbeats 2000000 in
theorem against_any (x y : Cl) (w : World) : Calls Try.prog 21 #[x.v, y.v] w (Gives w (.int .i64 (x.against y))) := by
  have hx := fun w => ordLevel_any x w
  have hy := fun w => ordLevel_any y w
  have bx := level_bd x
  have by' := level_bd y
  have e : x.against y = if x.level - y.level ≠ 0 then x.level - y.level else if ¬ (x.a = y.a ∧ x.b = y.b ∧ x.c = y.c) then cmpL [x.a, x.b, x.c] [y.a, y.b, y.c] else orI (cmpC x.r y.r) (cmpC x.d y.d) := rfl
  rw [e]; clear e
  generalize x.level = n at *
  generalize y.level = m at *
  obtain ⟨p, o, i, a, b, c, r, d⟩ := x
  obtain ⟨p', o', i', a', b', c', r', d'⟩ := y
  have HX := Lib.hid hx; clear hx
  have HY := Lib.hid hy; clear hy
  have hE := fun w => eqWeight a b c a' b' c' w
  show Calls Try.prog 21 #[.agg #[.string p, .int .i64 o, .bool i, .int .i64 a, .int .i64 b, .int .i64 c, .int .i64 r, .int .i64 d], .agg #[.string p', .int .i64 o', .bool i', .int .i64 a', .int .i64 b', .int .i64 c', .int .i64 r', .int .i64 d']] w (Gives w (.int .i64 (if n - m ≠ 0 then n - m else if ¬ (a = a' ∧ b = b' ∧ c = c') then cmpL [a, b, c] [a', b', c'] else orI (cmpC r r') (cmpC d d'))))
  by_cases h1 : n - m = 0
  · have hb : (n - m != 0) = false := by simp [h1]
    rw [if_neg (by omega)]
    have H1 := Lib.hid h1; clear h1
    by_cases h2 : a = a' ∧ b = b' ∧ c = c'
    · obtain ⟨rfl, rfl, rfl⟩ := h2
      simp only [beq_self_eq_true, Bool.and_self] at hE
      rw [if_neg (by simp)]
      go_enter Try.func21, Try.ntmps21
      go_wp2_with fail
      refine wp_region_plus_lit (by kernel_rfl) (by kernel_rfl) ?_
      repeat (go_big_quiet_step (first | (go_at_call 18; (with_reducible exact Calls.plus_of (HX.out _))) | (go_at_call 18; (with_reducible exact Calls.plus_of (HY.out _)))))
      (refine wpQuiet_nil ?_; intro _ hw'; obtain ⟨xq, hw''⟩ := hw'; subst hw'')
      go_wp2_with fail
      refine wp_region_plus_tail 10 (by kernel_rfl) (by kernel_rfl) ?_
      simp only [List.take_succ_cons, List.take_zero, List.drop_succ_cons, List.drop_zero]
      repeat (go_big_quiet_step (first | (go_at_call 29; (with_reducible exact Calls.plus_of (gives_same (cmpCompare_any _ _ _))))))
      refine wpQuiet_nil ?_; intro _ hw'; obtain ⟨xq, hw''⟩ := hw'; subst hw''
      go_wp2_with fail
      refine (cmpOr_any _ _ _ (cmpC r r') (cmpC d d') _ ?_ ?_).mono ?_
      · simp [go_sem]
      · simp [go_sem]
      rintro e w1 ⟨rfl, rfl⟩
      go_wp2
      go_ret
      exact ⟨rfl, (by repeat (first | exact grA | apply grB | apply grC | apply grD))⟩
    · rw [if_pos h2]
      have hE2 : (a == a' && (b == b' && c == c')) = false := by rw [Bool.eq_false_iff]; simp only [ne_eq, Bool.and_eq_true, beq_iff_eq]; exact h2
      rw [hE2] at hE; clear hE2
      have H2 := Lib.hid h2; clear h2
      go_enter Try.func21, Try.ntmps21
      go_wp2_with fail
      refine wp_region_plus_lit (by kernel_rfl) (by kernel_rfl) ?_
      repeat (go_big_quiet_step (first | (go_at_call 18; (with_reducible exact Calls.plus_of (HX.out _))) | (go_at_call 18; (with_reducible exact Calls.plus_of (HY.out _)))))
      (refine wpQuiet_nil ?_; intro _ hw'; obtain ⟨xq, hw''⟩ := hw'; subst hw'')
      go_wp2_with fail
      refine wp_region_plus_lit (by kernel_rfl) (by kernel_rfl) ?_
      repeat (go_big_quiet_step (first | (go_at_call 27; refine Calls.plus_of (gives_same (slicesCompare_any _ _ _ _ _ _ a b c a' b' c' _ ?_ ?_ ?_ ?_ ?_ ?_)) <;> (simp [go_sem]; done))))
      (refine wpQuiet_nil ?_; intro _ hw'; obtain ⟨xq, hw''⟩ := hw'; subst hw'')
      go_wp2_with fail
      go_ret
      exact ⟨rfl, (by repeat (first | exact grA | apply grB | apply grC | apply grD))⟩
  · have hb : (n - m != 0) = true := by simp [h1]
    rw [if_pos h1]
    have H1 := Lib.hid h1; clear h1
    go_enter Try.func21, Try.ntmps21
    go_wp2_with fail
    refine wp_region_plus_lit (by kernel_rfl) (by kernel_rfl) ?_
    repeat (go_big_quiet_step (first | (go_at_call 18; (with_reducible exact Calls.plus_of (HX.out _))) | (go_at_call 18; (with_reducible exact Calls.plus_of (HY.out _)))))
    (refine wpQuiet_nil ?_; intro _ hw'; obtain ⟨xq, hw''⟩ := hw'; subst hw'')
    go_wp2_with fail
    go_ret
    exact ⟨rfl, (by repeat (first | exact grA | apply grB | apply grC | apply grD))⟩

set_option maxRecDepth 100000 in
set_option maxHeartbeats 1000000 in
theorem ordWeaker_any (x y : Cl) (w : World) : Calls Try.prog 16 #[x.v, y.v] w (Gives w (.bool (x.may && (y.may && x.weak y)))) := by
  have hx := fun w => ordMay_any x w
  have hy := fun w => ordMay_any y w
  have hz := fun w => against_any x y w
  have e : x.may = true → y.may = true → decide (x.against y < 0) = x.weak y := against_weak x y
  generalize x.may = n at *
  generalize y.may = m at *
  generalize x.against y = k at *
  generalize x.weak y = t at *
  obtain ⟨p, o, i, a, b, c, r, d⟩ := x
  obtain ⟨p', o', i', a', b', c', r', d'⟩ := y
  have HX := Lib.hid hx; clear hx
  have HY := Lib.hid hy; clear hy
  have HZ := Lib.hid hz; clear hz
  have E := Lib.hid e; clear e
  show Calls Try.prog 16 #[.agg #[.string p, .int .i64 o, .bool i, .int .i64 a, .int .i64 b, .int .i64 c, .int .i64 r, .int .i64 d], .agg #[.string p', .int .i64 o', .bool i', .int .i64 a', .int .i64 b', .int .i64 c', .int .i64 r', .int .i64 d']] w (Gives w (.bool (n && (m && t))))
  cases n
  · go_enter Try.func16, Try.ntmps16
    go_wp2_with (first | (go_at_call 17; (with_reducible refine (HX.out _).mono ?_); rintro e w1 ⟨rfl, x1, rfl⟩))
    go_ret
    exact ⟨rfl, (by repeat (first | exact grA | apply grB | apply grC | apply grD))⟩
  · cases m
    · go_enter Try.func16, Try.ntmps16
      go_wp2_with (first | (go_at_call 17; (with_reducible refine (HX.out _).mono ?_); rintro e w1 ⟨rfl, x1, rfl⟩) | (go_at_call 17; (with_reducible refine (HY.out _).mono ?_); rintro e w1 ⟨rfl, x1, rfl⟩))
      go_ret
      exact ⟨rfl, (by repeat (first | exact grA | apply grB | apply grC | apply grD))⟩
    · go_enter Try.func16, Try.ntmps16
      go_wp2_with (first | (go_at_call 17; (with_reducible refine (HX.out _).mono ?_); rintro e w1 ⟨rfl, x1, rfl⟩) | (go_at_call 17; (with_reducible refine (HY.out _).mono ?_); rintro e w1 ⟨rfl, x1, rfl⟩) | (go_at_call 21; (with_reducible refine (HZ.out _).mono ?_); rintro e w1 ⟨rfl, x1, rfl⟩))
      go_ret
      exact ⟨ret_bool (by simpa using E.out trivial trivial), (by repeat (first | exact grA | apply grB | apply grC | apply grD))⟩

set_option maxRecDepth 100000 in
set_option maxHeartbeats 4000000 in
theorem refWeaker_any (x y : Cl) (w : World) (h1 : x.may = true) (h2 : y.may = true) : Calls Try.prog 23 #[x.v, y.v] w (Gives w (.bool (x.weak y))) := by
  have hx := fun w => refLevel_may x w h1
  have hy := fun w => refLevel_may y w h2
  have e : x.weak y = decide (cmpL [x.lev, x.a, x.b, x.c, x.r, x.d] [y.lev, y.a, y.b, y.c, y.r, y.d] < 0) := rfl
  rw [e]; clear e
  clear h1 h2
  generalize x.lev = n at *
  generalize y.lev = m at *
  obtain ⟨p, o, i, a, b, c, r, d⟩ := x
  obtain ⟨p', o', i', a', b', c', r', d'⟩ := y
  have HX := Lib.hid hx; clear hx
  have HY := Lib.hid hy; clear hy
  show Calls Try.prog 23 #[.agg #[.string p, .int .i64 o, .bool i, .int .i64 a, .int .i64 b, .int .i64 c, .int .i64 r, .int .i64 d], .agg #[.string p', .int .i64 o', .bool i', .int .i64 a', .int .i64 b', .int .i64 c', .int .i64 r', .int .i64 d']] w (Gives w (.bool (decide (cmpL [n, a, b, c, r, d] [m, a', b', c', r', d'] < 0))))
  go_enter Try.func23, Try.ntmps23
  go_upto_region 1 with fail
  go_cut [5] (fun s5 wx => ∃ g : Nat, s5 = .pointer (some ⟨g, 0, none⟩) ∧ w.grows wx ∧ g < wx.heap.size ∧ w.heap.size + 1 < wx.heap.size ∧ (∀ j, wx.cell? ⟨g, j, none⟩ = (#[.int .i64 n, .int .i64 a, .int .i64 b, .int .i64 c, .int .i64 r, .int .i64 d] : Array Value)[j]?) ∧ (∀ j, wx.cell? ⟨w.heap.size + 1, j, none⟩ = (#[.string p', .int .i64 o', .bool i', .int .i64 a', .int .i64 b', .int .i64 c', .int .i64 r', .int .i64 d'] : Array Value)[j]?))
  case first =>
    go_region_held3 (fun w' => (∀ j, w'.cell? ⟨w.heap.size, j, none⟩ = (#[.string p, .int .i64 o, .bool i, .int .i64 a, .int .i64 b, .int .i64 c, .int .i64 r, .int .i64 d] : Array Value)[j]?) ∧ (∀ j, w'.cell? ⟨w.heap.size + 1, j, none⟩ = (#[.string p', .int .i64 o', .bool i', .int .i64 a', .int .i64 b', .int .i64 c', .int .i64 r', .int .i64 d'] : Array Value)[j]?)) (first | (intro _; simp [go_sem]; done) | (constructor <;> intro _ <;> simp [go_sem])) (first | (go_at_call 30; (with_reducible refine (HX.out _).mono ?_); rintro e w1 ⟨rfl, x1, rfl⟩))
    all_goals (go_wp2_with fail; go_meet; refine ⟨_, rfl, (by repeat (first | exact grA | apply grB | apply grC | apply grD)), by simp [go_sem]; try omega, by simp [go_sem]; try omega, fun _ => by simp [go_sem], fun _ => by simp [go_sem]⟩)
  case rest =>
    obtain ⟨g, rfl, hgr, hg, hw1, hG, hB⟩ := hcut
    have hw0 : w.heap.size < wc.heap.size := by omega
    go_upto_region 2 with fail
    go_cut [6] (fun s6 wx => ∃ k : Nat, s6 = .pointer (some ⟨k, 0, none⟩) ∧ w.grows wx ∧ (∀ j, wx.cell? ⟨g, j, none⟩ = (#[.int .i64 n, .int .i64 a, .int .i64 b, .int .i64 c, .int .i64 r, .int .i64 d] : Array Value)[j]?) ∧ (∀ j, wx.cell? ⟨k, j, none⟩ = (#[.int .i64 m, .int .i64 a', .int .i64 b', .int .i64 c', .int .i64 r', .int .i64 d'] : Array Value)[j]?))
    case first =>
      go_region_held3 (fun w' => (∀ j, w'.cell? ⟨g, j, none⟩ = (#[.int .i64 n, .int .i64 a, .int .i64 b, .int .i64 c, .int .i64 r, .int .i64 d] : Array Value)[j]?) ∧ (∀ j, w'.cell? ⟨w.heap.size + 1, j, none⟩ = (#[.string p', .int .i64 o', .bool i', .int .i64 a', .int .i64 b', .int .i64 c', .int .i64 r', .int .i64 d'] : Array Value)[j]?)) (first | (intro _; simp [go_sem, *]; done) | (constructor <;> intro _ <;> simp [go_sem, *])) (first | (go_at_call 30; (with_reducible refine (HY.out _).mono ?_); rintro e w1 ⟨rfl, x1, rfl⟩))
      all_goals (go_wp2_with fail; go_meet; refine ⟨_, rfl, hgr.trans (by repeat (first | exact grA | apply grB | apply grC | apply grD)), fun _ => by simp [go_sem, *], fun _ => by simp [go_sem, *]⟩)
    case rest =>
      obtain ⟨k, rfl, hgr2, hG2, hK⟩ := hcut
      have hX : ∀ j : Nat, j < 6 → wc.cell? ⟨g, j, none⟩ = some (.int .i64 ([n, a, b, c, r, d].getD j 0)) := fun j hj => by
        rw [hG2]; match j, hj with | 0, _ | 1, _ | 2, _ | 3, _ | 4, _ | 5, _ => rfl
      have hY : ∀ j : Nat, j < 6 → wc.cell? ⟨k, j, none⟩ = some (.int .i64 ([m, a', b', c', r', d'].getD j 0)) := fun j hj => by
        rw [hK]; match j, hj with | 0, _ | 1, _ | 2, _ | 3, _ | 4, _ | 5, _ => rfl
      have L1 : [n, a, b, c, r, d].length = 6 := rfl
      have L2 : [m, a', b', c', r', d'].length = 6 := rfl
      clear hG hB hG2 hK HX HY
      generalize [n, a, b, c, r, d] = xs at *
      generalize [m, a', b', c', r', d'] = ys at *
      have HXc := Lib.hid hX; have HYc := Lib.hid hY; clear hX hY
      have HL1 := Lib.hid L1; have HL2 := Lib.hid L2; clear L1 L2
      have HGR := Lib.hid hgr2; clear hgr2 hgr
      generalize wc = W1 at *
      go_wp2_with fail
      go_loopw [40] (fun u wr => ∃ q : Nat, q ≤ 6 ∧ u = .int .i64 q ∧ Hid (∀ i, i < q → xs.getD i 0 = ys.getD i 0) ∧ ∃ z, wr = W1.plus z) (fun u _ => 6 - (intOf u).toNat)
      case atStart => exact ⟨0, by omega, rfl, fun i hi => absurd hi (Nat.not_lt_zero i), World.grows.refl⟩
      case round =>
        obtain ⟨q, hq, rfl, HQ, z, rfl⟩ := hrel
        by_cases hlt : q < 6
        · have c1 : (W1.plus z).cell? ⟨g, q, none⟩ = some (.int .i64 (xs.getD q 0)) := by rw [World.cell?_plus_some]; exact HXc.out q hlt; rw [HXc.out q hlt]; rfl
          have c2 : (W1.plus z).cell? ⟨k, q, none⟩ = some (.int .i64 (ys.getD q 0)) := by rw [World.cell?_plus_some]; exact HYc.out q hlt; rw [HYc.out q hlt]; rfl
          have hstep : xs.getD q 0 = ys.getD q 0 → ∀ i, i < q + 1 → xs.getD i 0 = ys.getD i 0 := fun e i hi => by
            by_cases hiq : i = q
            · subst hiq; exact e
            · exact HQ.out i (by omega)
          have hat : xs.getD q 0 ≠ ys.getD q 0 → decide (cmpL xs ys < 0) = decide (xs.getD q 0 < ys.getD q 0) := fun e => by
            rw [decide_eq_decide]; exact cmpL_at xs ys q (HL1.out.trans HL2.out.symm) (by rw [HL1.out]; exact hlt) HQ.out e
          have HS := Lib.hid hstep; have HA := Lib.hid hat; clear hstep hat HQ
          generalize xs.getD q 0 = x at *
          generalize ys.getD q 0 = y at *
          by_cases hxy : x = y
          · have hb : (x != y) = false := by simp [hxy]
            have HE := Lib.hid hxy; clear hxy
            go_wp2_with fail
            refine wp_region_plus_lit (by kernel_rfl) (by kernel_rfl) ?_
            repeat (go_big_quiet_step (fail))
            (refine wpQuiet_nil ?_; intro _ hw'; obtain ⟨xq, hw''⟩ := hw'; subst hw'')
            go_wp2_with fail
            go_roundw
            case rel => exact ⟨q + 1, by omega, by go_num, HS.out HE.out, (by repeat (first | exact grA | apply grB | apply grC | apply grD))⟩
            case measure => simp [intOf]; omega
          · have hb : (x != y) = true := by simp [hxy]
            have HE := Lib.hid hxy; clear hxy
            go_wp2_with fail
            refine wp_region_plus_lit (by kernel_rfl) (by kernel_rfl) ?_
            repeat (go_big_quiet_step (fail))
            (refine wpQuiet_nil ?_; intro _ hw'; obtain ⟨xq, hw''⟩ := hw'; subst hw'')
            go_wp2_with fail
            refine wp_region_plus_lit (by kernel_rfl) (by kernel_rfl) ?_
            repeat (go_big_quiet_step (fail))
            (refine wpQuiet_nil ?_; intro _ hw'; obtain ⟨xq, hw''⟩ := hw'; subst hw'')
            go_wp2_with fail
            go_ret
            exact ⟨ret_bool (HA.out HE.out).symm, HGR.out.trans (by repeat (first | exact grA | apply grB | apply grC | apply grD))⟩
        · obtain rfl : q = 6 := by omega
          have hz : decide (cmpL xs ys < 0) = false := by
            rw [cmpL_all xs ys (HL1.out.trans HL2.out.symm) (by rw [HL1.out]; exact HQ.out)]; rfl
          have HZ := Lib.hid hz; clear hz HQ
          go_wp2_with fail
          go_ret
          exact ⟨ret_bool HZ.out.symm, HGR.out.trans (by repeat (first | exact grA | apply grB | apply grC | apply grD))⟩

end Go.Proofs.Ytajkfmnnokkcaaa
