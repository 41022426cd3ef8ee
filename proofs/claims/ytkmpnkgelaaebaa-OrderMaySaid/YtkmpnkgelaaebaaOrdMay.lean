/- For any two claims the statement OrderMay answers true: order and the reference tell alike which claims may be, their levels, and which of two is weaker. No condition. -/
import Derived.Test.YtkmpnkgelaaebaaRows
import Derived.Test.YtkmpnkgelaaebaaOrdV
import Derived.Test.YtkmpnkgelaaebaaArgsO
namespace Go.Proofs.Ytkmpnkgelaaebaa
open Go.ChangeShapes Go.WideShapes Go.ChangeAt Go.RowKit
open Go.ChangeMaps (open_string shut_string)

set_option maxRecDepth 100000 in
set_option maxHeartbeats 4000000 in
theorem orderMay_any (x y : Cl) (w : World) : Calls Try.prog 4 #[x.v, y.v] w (Gives w (.bool true)) := by
  have hx := fun w => ordMay_any x w
  have hy := fun w => ordMay_any y w
  have gx := fun w => refOMay_any x w
  have gy := fun w => refOMay_any y w
  have lx := fun w => ordLevel_any x w
  have rx := fun (h : x.may = true) w => refLevel_may x w h
  have wx := fun w => ordWeaker_any x y w
  have vx := fun (h : x.may = true) (h' : y.may = true) w => refWeaker_any x y w h h'
  have e1 : x.may = true → x.level = x.lev := fun h => by simp [Cl.level, h]
  have e2 : x.may = false → x.level = -1 := fun h => by simp [Cl.level, h]
  have hl : ∀ w, Calls Try.prog 16 #[.agg #[.string ⟨#[97]⟩, .int .i64 0, .bool false, .int .i64 0, .int .i64 0, .int .i64 0, .int .i64 0, .int .i64 0]] w (Gives w (.bool true)) := fun w => ordMay_any ⟨⟨#[97]⟩, 0, false, 0, 0, 0, 0, 0⟩ w
  generalize x.may = n at *
  generalize y.may = m at *
  generalize x.level = t at *
  generalize x.lev = s at *
  generalize x.weak y = v at *
  obtain ⟨p, o, i, a, b, c, r, d⟩ := x
  obtain ⟨p', o', i', a', b', c', r', d'⟩ := y
  have HX := Lib.hid hx; clear hx
  have HY := Lib.hid hy; clear hy
  have GX := Lib.hid gx; clear gx
  have GY := Lib.hid gy; clear gy
  have LX := Lib.hid lx; clear lx
  have RX := Lib.hid rx; clear rx
  have WX := Lib.hid wx; clear wx
  have VX := Lib.hid vx; clear vx
  have HL := Lib.hid hl; clear hl
  show Calls Try.prog 4 #[.agg #[.string p, .int .i64 o, .bool i, .int .i64 a, .int .i64 b, .int .i64 c, .int .i64 r, .int .i64 d], .agg #[.string p', .int .i64 o', .bool i', .int .i64 a', .int .i64 b', .int .i64 c', .int .i64 r', .int .i64 d']] w (Gives w (.bool true))
  cases n
  · obtain rfl : t = -1 := e2 rfl
    clear e1 e2
    go_enter Try.func4, Try.ntmps4
    go_wp2_with fail
    refine wp_region_plus_lit (by kernel_rfl) (by kernel_rfl) ?_
    repeat (go_big_quiet_step (first | (go_at_call 14; (with_reducible exact Calls.plus_of (GX.out _))) | (go_at_call 14; (with_reducible exact Calls.plus_of (GY.out _)))))
    (refine wpQuiet_nil ?_; intro _ hw'; obtain ⟨xq, hw''⟩ := hw'; subst hw'')
    go_wp2_with (first | (go_at_call 16; (with_reducible refine (HX.out _).mono ?_); rintro e w1 ⟨rfl, x1, rfl⟩) | (go_at_call 17; (with_reducible refine (LX.out _).mono ?_); rintro e w1 ⟨rfl, x1, rfl⟩) | (go_at_call 18; (with_reducible refine (WX.out _).mono ?_); rintro e w1 ⟨rfl, x1, rfl⟩) | (go_at_call 16; (with_reducible refine (HL.out _).mono ?_); rintro e w1 ⟨rfl, x1, rfl⟩))
    go_ret
    exact ⟨rfl, (by repeat (first | exact World.grows.refl | apply World.grows.plus | apply World.grows.alloc | apply World.grows.drew))⟩
  · obtain rfl : t = s := e1 rfl
    clear e1 e2
    cases m
    · go_enter Try.func4, Try.ntmps4
      go_wp2_with fail
      refine wp_region_plus_lit (by kernel_rfl) (by kernel_rfl) ?_
      repeat (go_big_quiet_step (first | (go_at_call 14; (with_reducible exact Calls.plus_of (GX.out _))) | (go_at_call 14; (with_reducible exact Calls.plus_of (GY.out _)))))
      (refine wpQuiet_nil ?_; intro _ hw'; obtain ⟨xq, hw''⟩ := hw'; subst hw'')
      go_wp2_with (first | (go_at_call 15; (with_reducible refine (RX.out (by trivial) _).mono ?_); rintro e w1 ⟨rfl, x1, rfl⟩) | (go_at_call 16; (with_reducible refine (HX.out _).mono ?_); rintro e w1 ⟨rfl, x1, rfl⟩) | (go_at_call 17; (with_reducible refine (LX.out _).mono ?_); rintro e w1 ⟨rfl, x1, rfl⟩) | (go_at_call 18; (with_reducible refine (WX.out _).mono ?_); rintro e w1 ⟨rfl, x1, rfl⟩) | (go_at_call 19; (with_reducible refine (VX.out (by trivial) (by trivial) _).mono ?_); rintro e w1 ⟨rfl, x1, rfl⟩) | (go_at_call 16; (with_reducible refine (HL.out _).mono ?_); rintro e w1 ⟨rfl, x1, rfl⟩))
      go_ret
      exact ⟨rfl, (by repeat (first | exact World.grows.refl | apply World.grows.plus | apply World.grows.alloc | apply World.grows.drew))⟩
    · cases v
      all_goals
        go_enter Try.func4, Try.ntmps4
        go_wp2_with fail
        refine wp_region_plus_lit (by kernel_rfl) (by kernel_rfl) ?_
        repeat (go_big_quiet_step (first | (go_at_call 14; (with_reducible exact Calls.plus_of (GX.out _))) | (go_at_call 14; (with_reducible exact Calls.plus_of (GY.out _)))))
        (refine wpQuiet_nil ?_; intro _ hw'; obtain ⟨xq, hw''⟩ := hw'; subst hw'')
        go_wp2_with (first | (go_at_call 15; (with_reducible refine (RX.out (by trivial) _).mono ?_); rintro e w1 ⟨rfl, x1, rfl⟩) | (go_at_call 16; (with_reducible refine (HX.out _).mono ?_); rintro e w1 ⟨rfl, x1, rfl⟩) | (go_at_call 17; (with_reducible refine (LX.out _).mono ?_); rintro e w1 ⟨rfl, x1, rfl⟩) | (go_at_call 18; (with_reducible refine (WX.out _).mono ?_); rintro e w1 ⟨rfl, x1, rfl⟩) | (go_at_call 19; (with_reducible refine (VX.out (by trivial) (by trivial) _).mono ?_); rintro e w1 ⟨rfl, x1, rfl⟩) | (go_at_call 16; (with_reducible refine (HL.out _).mono ?_); rintro e w1 ⟨rfl, x1, rfl⟩))
        go_ret
        exact ⟨rfl, (by repeat (first | exact World.grows.refl | apply World.grows.plus | apply World.grows.alloc | apply World.grows.drew))⟩

theorem orderMay_own : ownKnob Try.prog.godebug = none := by kernel_rfl
theorem orderMay_laidOut : laidOutB Try.prog = true := by kernel_rfl
set_option maxRecDepth 100000 in
theorem orderMay_lifted (os : Os) (started : os.Started) (H : Type) (enc : TypeId × Value → H) :
    ReturnsInHanded {} Try.checked os 4 .any (Rows.orderMaySpec.pre6 enc Try.prog Try.f4 Rows.orderMayRow.domain false) (Rows.orderMaySpec.post enc Try.prog Try.f4 false true false false) := by
  refine returnsInHanded_of_change (C := Try.checked) orderMay_own started (by kernel_rfl) Try.func4
    (ChangeSpec.witness6 (enc := enc) (C := Try.checked) false ⟨#[], #[.agg #[.string ByteArray.empty, .int .i64 0, .bool false, .int .i64 0, .int .i64 0, .int .i64 0, .int .i64 0, .int .i64 0], .agg #[.string ByteArray.empty, .int .i64 0, .bool false, .int .i64 0, .int .i64 0, .int .i64 0, .int .i64 0, .int .i64 0]], []⟩ 8 (by kernel_rfl) (by kernel_rfl) (by kernel_rfl) (by kernel_rfl)) ?_
  intro W base args ds gs before hval0 hW hcnd _
  have hval : ∀ (j : Nat) t v, Try.f4.params[j]? = some t → args[j]? = some v → Value.okWide Try.prog W .any base t v := hval0
  have hW' := hW
  obtain ⟨p, q, hA0, hV, rfl, hfz, hnd⟩ := hW
  have hA : DataW.TrodAll enc Try.prog W 0 (fun _ => true) true Try.f4.params.toList args.toList ds p := hA0
  rw [Try.params4] at hA hval
  obtain ⟨v0, vs0, d0, ds0, p0, q0, hargs, rfl, rfl, h0, r0⟩ := trodAll_cons hA
  obtain ⟨v1, vs1, d1, ds1, p1, q1, rfl, rfl, rfl, h1, r1⟩ := trodAll_cons r0
  obtain ⟨rfl, rfl, rfl⟩ := trodAll_nil r1
  obtain rfl : args = #[v0, v1] := by cases args; simp_all
  obtain ⟨rfl, rfl⟩ := trodVars_none hV
  have k0 := h0
  have lt0 : ∀ x ∈ p0, x.block < W.heap.size := by obtain ⟨m, hm⟩ := k0; exact DataW.trod_lt m _ _ _ hm
  have k1 := h1
  have lt1 : ∀ x ∈ p1, x.block < W.heap.size := by obtain ⟨m, hm⟩ := k1; exact DataW.trod_lt m _ _ _ hm
  obtain ⟨p, o, i, a, b, c, r, d, rfl, w0_0, w0_1, w0_2, w0_3, w0_4, w0_5, w0_6⟩ := claim_arg (hval 0 32 v0 rfl rfl) h0
  obtain ⟨p', o', i', a', b', c', r', d', rfl, w1_0, w1_1, w1_2, w1_3, w1_4, w1_5, w1_6⟩ := claim_arg (hval 1 32 v1 rfl rfl) h1
  clear hA0 hval0
  refine (orderMay_any ⟨p, o, i, a, b, c, r, d⟩ ⟨p', o', i', a', b', c', r', d'⟩ W).mono fun e W' ⟨he, grw⟩ => ?_
  subst he
  have bel := grw.below
  exact ⟨_, rfl, _, _, _, [], _, [], hW', trodAll_mk1 (shut_bool Try.underlying4 _), (trodAll_cons_mk (Below.trod orderMay_laidOut (by kernel_rfl) (of_decide_eq_true (by kernel_rfl)) k0 bel lt0) (trodAll_cons_mk (Below.trod orderMay_laidOut (by kernel_rfl) (of_decide_eq_true (by kernel_rfl)) k1 bel lt1) trodAll_mk0)), rfl, bel.frame _, fun h => by cases h⟩

/-- THE STATEMENT -/
theorem orderMay_holds : Rows.OrderMaySaid :=
  OpenClaim.holds_of_wide 4 Try.f4 rfl rfl rfl rfl rfl rfl rfl ⟨rfl, rfl, rfl, rfl, rfl⟩ rfl rfl rfl rfl rfl (by kernel_rfl) Try.func4 (by kernel_rfl)
    (of_decide_eq_true (by kernel_rfl)) (by unfold Func.isWrapper; first | (rw [if_pos (by decide +kernel)]; kernel_rfl) | (rw [if_neg (by decide +kernel)]; exact ⟨rfl, rfl⟩))
    (fun os started H enc _ => orderMay_lifted os started H enc)
#print axioms orderMay_holds

end Go.Proofs.Ytkmpnkgelaaebaa
