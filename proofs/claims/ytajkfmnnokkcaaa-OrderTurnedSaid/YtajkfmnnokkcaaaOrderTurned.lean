/- For every two claims the statement OrderTurned answers true: with what is important turned, two claims that differ in level alone change places. No condition. -/
import Derived.Test.YtajkfmnnokkcaaaRows
import Derived.Test.YtajkfmnnokkcaaaOrderGoesOn
set_option linter.unusedSimpArgs false
set_option linter.unusedVariables false
namespace Go
/-- what is important turned -/
def Cl.turn (x : Cl) : Cl := { x with i := !x.i }
theorem Cl.turn_may (x : Cl) : x.turn.may = x.may := rfl
theorem Cl.turn_lo {x y : Cl} (hx : x.may = true) (hy : y.may = true) (ha : x.a = y.a) (hb : x.b = y.b) (hc : x.c = y.c) (hr : x.r = y.r) (hd : x.d = y.d) : x.lo y ↔ y.turn.lo x.turn := by
  have h1 : x.turn.may = true := hx
  have h2 : y.turn.may = true := hy
  have ex : x.level = x.lev := by unfold Cl.level; rw [hx]; rfl
  have ey : y.level = y.lev := by unfold Cl.level; rw [hy]; rfl
  have ex' : x.turn.level = x.turn.lev := by unfold Cl.level; rw [h1]; rfl
  have ey' : y.turn.level = y.turn.lev := by unfold Cl.level; rw [h2]; rfl
  have ox : 0 ≤ x.o ∧ x.o ≤ 2 := by unfold Cl.may at hx; simp only [Bool.and_eq_true, decide_eq_true_eq] at hx; exact ⟨hx.2.1.1.1.2, hx.2.1.1.2⟩
  have oy : 0 ≤ y.o ∧ y.o ≤ 2 := by unfold Cl.may at hy; simp only [Bool.and_eq_true, decide_eq_true_eq] at hy; exact ⟨hy.2.1.1.1.2, hy.2.1.1.2⟩
  unfold Cl.lo
  rw [ex, ey, ex', ey', ha, hb, hc, hr, hd]
  have ta : x.turn.a = x.a ∧ x.turn.b = x.b ∧ x.turn.c = x.c ∧ x.turn.r = x.r ∧ x.turn.d = x.d := ⟨rfl, rfl, rfl, rfl, rfl⟩
  have tb : y.turn.a = y.a ∧ y.turn.b = y.b ∧ y.turn.c = y.c ∧ y.turn.r = y.r ∧ y.turn.d = y.d := ⟨rfl, rfl, rfl, rfl, rfl⟩
  unfold Cl.lev
  have ti : x.turn.i = !x.i ∧ y.turn.i = !y.i ∧ x.turn.o = x.o ∧ y.turn.o = y.o := ⟨rfl, rfl, rfl, rfl⟩
  rw [ti.1, ti.2.1, ti.2.2.1, ti.2.2.2]
  cases x.i <;> cases y.i <;> simp <;> omega
theorem Cl.turn_wk {x y : Cl} (hx : x.may = true) (hy : y.may = true) (ha : x.a = y.a) (hb : x.b = y.b) (hc : x.c = y.c) (hr : x.r = y.r) (hd : x.d = y.d) : y.turn.wk x.turn = x.wk y := by
  rw [Bool.eq_iff_iff, Cl.wk_iff, Cl.wk_iff, Cl.turn_may, Cl.turn_may, Cl.turn_lo hx hy ha hb hc hr hd]
  simp [hx, hy]
end Go
namespace Go.Proofs.Ytajkfmnnokkcaaa
open Go.ChangeShapes Go.WideShapes Go.ChangeAt Go.RowKit
open Go.ChangeMaps (open_string shut_string)

set_option maxRecDepth 100000 in
set_option maxHeartbeats 8000000 in
theorem orderTurned_any (x y : Cl) (w : World) : Calls Try.prog 7 #[x.v, y.v] w (Gives w (.bool true)) := by
  have hxy := fun w => ordWeaker_any x y w
  have hyx := fun w => ordWeaker_any y.turn x.turn w
  have mx := fun w => ordMay_any x w
  have my := fun w => ordMay_any y w
  change ∀ w, Calls _ _ _ w (Gives w (.bool (x.wk y))) at hxy
  change ∀ w, Calls _ _ _ w (Gives w (.bool (y.turn.wk x.turn))) at hyx
  have hE := fun w => eqWeight x.a x.b x.c y.a y.b y.c w
  have f1 : x.may = true → y.may = true → x.a = y.a → x.b = y.b → x.c = y.c → x.r = y.r → x.d = y.d → y.turn.wk x.turn = x.wk y := Cl.turn_wk
  generalize x.wk y = B1 at *
  generalize y.turn.wk x.turn = B2 at *
  generalize x.may = M1 at *
  generalize y.may = M2 at *
  obtain ⟨p, o, i, a, b, c, r, d⟩ := x
  obtain ⟨p', o', i', a', b', c', r', d'⟩ := y
  simp only at hE f1
  change ∀ w, Calls _ _ #[.agg #[.string p', .int .i64 o', .bool (!i'), .int .i64 a', .int .i64 b', .int .i64 c', .int .i64 r', .int .i64 d'], .agg #[.string p, .int .i64 o, .bool (!i), .int .i64 a, .int .i64 b, .int .i64 c, .int .i64 r, .int .i64 d]] _ _ at hyx
  have HXY := Lib.hid hxy; have HYX := Lib.hid hyx; have MX := Lib.hid mx; have MY := Lib.hid my
  clear hxy hyx mx my
  cases M1
  · clear f1 hE
    go_enter Try.func7, Try.ntmps7
    go_wp2_with (first | (go_at_call 17; (with_reducible refine (MX.out _).mono ?_); rintro e w1 ⟨rfl, x1, rfl⟩) | (go_at_call 17; (with_reducible refine (MY.out _).mono ?_); rintro e w1 ⟨rfl, x1, rfl⟩) | (go_at_call 11; (with_reducible refine (awake20_any _).mono ?_); rintro e w1 ⟨rfl, x1, rfl⟩))
    go_ret
    exact ⟨rfl, (by repeat (with_reducible first | assumption | exact grA | apply grB | apply grC | apply grD | refine grE ?_ (by omega) _ | refine grF ?_ (by omega) _ _))⟩
  · cases M2
    · clear f1 hE
      go_enter Try.func7, Try.ntmps7
      go_wp2_with (first | (go_at_call 17; (with_reducible refine (MX.out _).mono ?_); rintro e w1 ⟨rfl, x1, rfl⟩) | (go_at_call 17; (with_reducible refine (MY.out _).mono ?_); rintro e w1 ⟨rfl, x1, rfl⟩) | (go_at_call 11; (with_reducible refine (awake20_any _).mono ?_); rintro e w1 ⟨rfl, x1, rfl⟩))
      go_ret
      exact ⟨rfl, (by repeat (with_reducible first | assumption | exact grA | apply grB | apply grC | apply grD | refine grE ?_ (by omega) _ | refine grF ?_ (by omega) _ _))⟩
    · by_cases h1 : a = a' ∧ b = b' ∧ c = c'
      · obtain ⟨rfl, rfl, rfl⟩ := h1
        simp only [beq_self_eq_true, Bool.and_self] at hE
        by_cases h2 : r = r'
        · subst h2
          by_cases h3 : d = d'
          · subst h3
            obtain rfl := f1 rfl rfl rfl rfl rfl rfl rfl
            clear f1
            go_enter Try.func7, Try.ntmps7
            go_upto_region 3 with (first | (go_at_call 17; (with_reducible refine (MX.out _).mono ?_); rintro e w1 ⟨rfl, x1, rfl⟩) | (go_at_call 17; (with_reducible refine (MY.out _).mono ?_); rintro e w1 ⟨rfl, x1, rfl⟩))
            go_region
            all_goals go_upto_region 4 with fail
            all_goals go_region
            all_goals go_upto_region 5 with fail
            · refine wp_region_plus_lit (by kernel_rfl) (by kernel_rfl) ?_
              repeat (go_big_quiet_step (first | (go_at_call 16; (with_reducible exact Calls.plus_of (HXY.out _))) | (go_at_call 16; (with_reducible exact Calls.plus_of (HYX.out _))) | (go_at_call 11; (with_reducible exact Calls.plus_of (awake20_any _)))))
              (refine wpQuiet_nil ?_; intro _ hw'; obtain ⟨xq, hw''⟩ := hw'; subst hw'')
              go_wp2_with fail
              go_ret
              exact ⟨rfl, (by repeat (with_reducible first | assumption | exact grA | apply grB | apply grC | apply grD | refine grE ?_ (by omega) _ | refine grF ?_ (by omega) _ _))⟩
            · refine wp_region_plus_lit (by kernel_rfl) (by kernel_rfl) ?_
              repeat (go_big_quiet_step (first | (go_at_call 16; (with_reducible exact Calls.plus_of (HXY.out _))) | (go_at_call 16; (with_reducible exact Calls.plus_of (HYX.out _))) | (go_at_call 11; (with_reducible exact Calls.plus_of (awake20_any _)))))
              (refine wpQuiet_nil ?_; intro _ hw'; obtain ⟨xq, hw''⟩ := hw'; subst hw'')
              go_wp2_with fail
              go_ret
              exact ⟨rfl, (by repeat (with_reducible first | assumption | exact grA | apply grB | apply grC | apply grD | refine grE ?_ (by omega) _ | refine grF ?_ (by omega) _ _))⟩
          · have hb : (d != d') = true := by simpa using h3
            clear h3 f1
            go_enter Try.func7, Try.ntmps7
            go_wp2_with (first | (go_at_call 17; (with_reducible refine (MX.out _).mono ?_); rintro e w1 ⟨rfl, x1, rfl⟩) | (go_at_call 17; (with_reducible refine (MY.out _).mono ?_); rintro e w1 ⟨rfl, x1, rfl⟩) | (go_at_call 11; (with_reducible refine (awake20_any _).mono ?_); rintro e w1 ⟨rfl, x1, rfl⟩))
            go_ret
            exact ⟨rfl, (by repeat (with_reducible first | assumption | exact grA | apply grB | apply grC | apply grD | refine grE ?_ (by omega) _ | refine grF ?_ (by omega) _ _))⟩
        · have hb : (r != r') = true := by simpa using h2
          clear h2 f1
          go_enter Try.func7, Try.ntmps7
          go_wp2_with (first | (go_at_call 17; (with_reducible refine (MX.out _).mono ?_); rintro e w1 ⟨rfl, x1, rfl⟩) | (go_at_call 17; (with_reducible refine (MY.out _).mono ?_); rintro e w1 ⟨rfl, x1, rfl⟩) | (go_at_call 11; (with_reducible refine (awake20_any _).mono ?_); rintro e w1 ⟨rfl, x1, rfl⟩))
          go_ret
          exact ⟨rfl, (by repeat (with_reducible first | assumption | exact grA | apply grB | apply grC | apply grD | refine grE ?_ (by omega) _ | refine grF ?_ (by omega) _ _))⟩
      · have hE2 : (a == a' && (b == b' && c == c')) = false := by rw [Bool.eq_false_iff]; simp only [ne_eq, Bool.and_eq_true, beq_iff_eq]; exact h1
        rw [hE2] at hE; clear hE2
        have H2 := Lib.hid h1; clear h1 f1
        go_enter Try.func7, Try.ntmps7
        go_wp2_with (first | (go_at_call 17; (with_reducible refine (MX.out _).mono ?_); rintro e w1 ⟨rfl, x1, rfl⟩) | (go_at_call 17; (with_reducible refine (MY.out _).mono ?_); rintro e w1 ⟨rfl, x1, rfl⟩) | (go_at_call 11; (with_reducible refine (awake20_any _).mono ?_); rintro e w1 ⟨rfl, x1, rfl⟩))
        go_ret
        exact ⟨rfl, (by repeat (with_reducible first | assumption | exact grA | apply grB | apply grC | apply grD | refine grE ?_ (by omega) _ | refine grF ?_ (by omega) _ _))⟩

theorem orderTurned_own : ownKnob Try.prog.godebug = none := by kernel_rfl
theorem orderTurned_laidOut : laidOutB Try.prog = true := by kernel_rfl
set_option maxRecDepth 100000 in
set_option maxHeartbeats 2000000 in
theorem orderTurned_lifted (os : Os) (started : os.Started) (H : Type) (enc : TypeId × Value → H) :
    ReturnsInHanded {} Try.checked os 7 .any (Rows.orderTurnedSpec.pre6 enc Try.prog Try.f7 Rows.orderTurnedRow.domain false) (Rows.orderTurnedSpec.post enc Try.prog Try.f7 false true false false) := by
  refine returnsInHanded_of_change (C := Try.checked) orderTurned_own started (by kernel_rfl) Try.func7
    (ChangeSpec.witness6 (enc := enc) (C := Try.checked) false ⟨#[], #[.agg #[.string ByteArray.empty, .int .i64 0, .bool false, .int .i64 0, .int .i64 0, .int .i64 0, .int .i64 0, .int .i64 0], .agg #[.string ByteArray.empty, .int .i64 0, .bool false, .int .i64 0, .int .i64 0, .int .i64 0, .int .i64 0, .int .i64 0]], []⟩ 8 (by kernel_rfl) (by kernel_rfl) (by kernel_rfl) (by kernel_rfl)) ?_
  intro W base args ds gs before hval0 hW hcnd _
  have hval : ∀ (j : Nat) t v, Try.f7.params[j]? = some t → args[j]? = some v → Value.okWide Try.prog W .any base t v := hval0
  have hW' := hW
  obtain ⟨p, q, hA0, hV, rfl, hfz, hnd⟩ := hW
  have hA : DataW.TrodAll enc Try.prog W 0 (fun _ => true) true Try.f7.params.toList args.toList ds p := hA0
  rw [Try.params7] at hA hval
  obtain ⟨v0, vs0, d0, ds0, p0, q0, hargs, rfl, rfl, h0, r0⟩ := trodAll_cons hA
  obtain ⟨v1, vs1, d1, ds1, p1, q1, rfl, rfl, rfl, h1, r1⟩ := trodAll_cons r0
  obtain ⟨rfl, rfl, rfl⟩ := trodAll_nil r1
  obtain rfl : args = #[v0, v1] := by cases args; simp_all
  obtain ⟨rfl, rfl⟩ := trodVars_none hV
  have k0 := h0
  have lt0 : ∀ x ∈ p0, x.block < W.heap.size := by obtain ⟨m, hm⟩ := k0; exact DataW.trod_lt m _ _ _ hm
  have k1 := h1
  have lt1 : ∀ x ∈ p1, x.block < W.heap.size := by obtain ⟨m, hm⟩ := k1; exact DataW.trod_lt m _ _ _ hm
  obtain ⟨p, o, i, a, b, c, r, d, rfl, w0_0, w0_1, w0_2, w0_3, w0_4, w0_5, w0_6⟩ := claim_arg (hval 0 34 v0 rfl rfl) h0
  obtain ⟨p', o', i', a', b', c', r', d', rfl, w1_0, w1_1, w1_2, w1_3, w1_4, w1_5, w1_6⟩ := claim_arg (hval 1 34 v1 rfl rfl) h1
  clear hA0 hval0
  refine (orderTurned_any ⟨p, o, i, a, b, c, r, d⟩ ⟨p', o', i', a', b', c', r', d'⟩ W).mono fun e W' ⟨he, grw⟩ => ?_
  subst he
  have bel := grw.below
  exact ⟨_, rfl, _, _, _, [], _, [], hW', trodAll_mk1 (shut_bool Try.underlying4 _), (trodAll_cons_mk (Below.trod orderTurned_laidOut (by kernel_rfl) (of_decide_eq_true (by kernel_rfl)) k0 bel lt0) (trodAll_cons_mk (Below.trod orderTurned_laidOut (by kernel_rfl) (of_decide_eq_true (by kernel_rfl)) k1 bel lt1) trodAll_mk0)), rfl, bel.frame _, fun h => by cases h⟩

/-- THE STATEMENT -/
theorem orderTurned_holds : Rows.OrderTurnedSaid :=
  OpenClaim.holds_of_wide 7 Try.f7 rfl rfl rfl rfl rfl rfl rfl ⟨rfl, rfl, rfl, rfl, rfl⟩ rfl rfl rfl rfl rfl (by kernel_rfl) Try.func7 (by kernel_rfl)
    (of_decide_eq_true (by kernel_rfl)) (by unfold Func.isWrapper; first | (rw [if_pos (by decide +kernel)]; kernel_rfl) | (rw [if_neg (by decide +kernel)]; exact ⟨rfl, rfl⟩))
    (fun os started H enc _ => orderTurned_lifted os started H enc)
#print axioms orderTurned_holds

end Go.Proofs.Ytajkfmnnokkcaaa
