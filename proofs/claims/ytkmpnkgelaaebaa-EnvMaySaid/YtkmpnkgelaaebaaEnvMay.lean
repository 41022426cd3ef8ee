/- For every environment the statement EnvMay answers true: the first environment, which may be, and the context of one are as the reference has them. No condition. -/
import Derived.Test.YtkmpnkgelaaebaaRows
import Derived.Test.YtkmpnkgelaaebaaEnvA
import Derived.Test.YtkmpnkgelaaebaaEnvR
import Derived.Test.YtkmpnkgelaaebaaArgsE
namespace Go.Proofs.Ytkmpnkgelaaebaa
open Go.ChangeShapes Go.WideShapes Go.ChangeAt Go.RowKit
open Go.ChangeMaps (open_string shut_string)

set_option maxRecDepth 100000 in
set_option maxHeartbeats 2000000 in
theorem envMayLaw_any (e : En) (w : World) (he : e.Wf) : Calls Try.prog 5 #[e.v] w (Gives w (.bool true)) := by
  have hm := fun w => envMay_any e w he
  have hr := fun w => refEnvMay_any e w he
  have hc := fun w => envCtx_any e w he
  have hd := fun w => refCtx_any e w he (fun w => refEnvMay_any e w he)
  unfold En.ctx at hc hd
  have hx : ∃ a1 a2 a3 a4 a5 a6 a7 a8 : Int, (if e.may then Value.agg #[.int .i64 e.f1, .int .i64 e.f2, .int .i64 e.f1, .int .i64 e.f2, .int .i64 e.w1, .int .i64 e.w2, .int .i64 e.h1, .int .i64 e.h2, .int .i64 0, .int .i64 0, .int .i64 0, .int .i64 0] else Value.agg #[.int .i64 0, .int .i64 0, .int .i64 0, .int .i64 0, .int .i64 0, .int .i64 0, .int .i64 0, .int .i64 0, .int .i64 0, .int .i64 0, .int .i64 0, .int .i64 0]) = Value.agg #[.int .i64 a1, .int .i64 a2, .int .i64 a3, .int .i64 a4, .int .i64 a5, .int .i64 a6, .int .i64 a7, .int .i64 a8, .int .i64 0, .int .i64 0, .int .i64 0, .int .i64 0] := by
    cases e.may
    · exact ⟨0, 0, 0, 0, 0, 0, 0, 0, rfl⟩
    · exact ⟨_, _, _, _, _, _, _, _, rfl⟩
  obtain ⟨a1, a2, a3, a4, a5, a6, a7, a8, hx⟩ := hx
  rw [hx] at hc hd; clear hx
  generalize e.may = t at *
  obtain ⟨p, w1, w2, h1, h2, f1, f2, c1, c2, s, h, q, m⟩ := e
  have HM := Lib.hid hm; have HR := Lib.hid hr; have HC := Lib.hid hc; have HD := Lib.hid hd; clear hm hr hc hd he
  go_enter Try.func5, Try.ntmps5
  go_wp2_with fail
  refine wp_region_plus_lit (by kernel_rfl) (by kernel_rfl) ?_
  repeat (go_big_quiet_step (first | (go_at_call 20; (with_reducible exact Calls.plus_of (envNew_any _))) | (go_at_call 21; (with_reducible exact Calls.plus_of (refNew_any _))) | (go_at_call 22; (with_reducible exact Calls.plus_of (HM.out _))) | (go_at_call 23; (with_reducible exact Calls.plus_of (HR.out _))) | (go_at_call 24; (with_reducible exact Calls.plus_of (HC.out _))) | (go_at_call 25; (with_reducible exact Calls.plus_of (HD.out _))) | (go_at_call 26; (with_reducible exact Calls.plus_of (awake_any _)))))
  (refine wpQuiet_nil ?_; intro _ hw'; obtain ⟨xq, hw''⟩ := hw'; subst hw'')
  go_wp2_with fail
  go_ret
  exact ⟨rfl, (by repeat (first | exact World.grows.refl | apply World.grows.plus | apply World.grows.alloc | apply World.grows.drew))⟩

theorem envMay_own : ownKnob Try.prog.godebug = none := by kernel_rfl
theorem envMay_laidOut : laidOutB Try.prog = true := by kernel_rfl
set_option maxRecDepth 100000 in
theorem envMay_lifted (os : Os) (started : os.Started) (H : Type) (enc : TypeId × Value → H) :
    ReturnsInHanded {} Try.checked os 5 .any (Rows.envMaySpec.pre6 enc Try.prog Try.f5 Rows.envMayRow.domain false) (Rows.envMaySpec.post enc Try.prog Try.f5 false true false false) := by
  refine returnsInHanded_of_change (C := Try.checked) envMay_own started (by kernel_rfl) Try.func5
    (ChangeSpec.witness6 (enc := enc) (C := Try.checked) false ⟨#[], #[.agg #[.bool false, .int .i64 0, .int .i64 0, .int .i64 0, .int .i64 0, .int .i64 0, .int .i64 0, .int .i64 0, .int .i64 0, .string ByteArray.empty, .string ByteArray.empty, .string ByteArray.empty, .string ByteArray.empty]], []⟩ 8 (by kernel_rfl) (by kernel_rfl) (by kernel_rfl) (by kernel_rfl)) ?_
  intro W base args ds gs before hval0 hW hcnd _
  have hval : ∀ (j : Nat) t v, Try.f5.params[j]? = some t → args[j]? = some v → Value.okWide Try.prog W .any base t v := hval0
  have hW' := hW
  obtain ⟨p, q, hA0, hV, rfl, hfz, hnd⟩ := hW
  have hA : DataW.TrodAll enc Try.prog W 0 (fun _ => true) true Try.f5.params.toList args.toList ds p := hA0
  rw [Try.params5] at hA hval
  obtain ⟨v0, vs0, d0, ds0, p0, q0, hargs, rfl, rfl, h0, r0⟩ := trodAll_cons hA
  obtain ⟨rfl, rfl, rfl⟩ := trodAll_nil r0
  obtain rfl : args = #[v0] := by cases args; simp_all
  obtain ⟨rfl, rfl⟩ := trodVars_none hV
  have k0 := h0
  have lt0 : ∀ x ∈ p0, x.block < W.heap.size := by obtain ⟨m, hm⟩ := k0; exact DataW.trod_lt m _ _ _ hm
  obtain ⟨p, w1, w2, h1, h2, f1, f2, c1, c2, s, h, q, m, rfl, w0_0, w0_1, w0_2, w0_3, w0_4, w0_5, w0_6, w0_7, w0_8, w0_9, w0_10, w0_11⟩ := en_arg (hval 0 37 v0 rfl rfl) h0
  clear hA0 hval0
  refine (envMayLaw_any ⟨p, w1, w2, h1, h2, f1, f2, c1, c2, s, h, q, m⟩ W ⟨w0_0, w0_1, w0_2, w0_3, w0_4, w0_5, w0_6, w0_7⟩).mono fun e W' ⟨he, grw⟩ => ?_
  subst he
  have bel := grw.below
  exact ⟨_, rfl, _, _, _, [], _, [], hW', trodAll_mk1 (shut_bool Try.underlying4 _), (trodAll_cons_mk (Below.trod envMay_laidOut (by kernel_rfl) (of_decide_eq_true (by kernel_rfl)) k0 bel lt0) trodAll_mk0), rfl, bel.frame _, fun h => by cases h⟩

/-- THE STATEMENT -/
theorem envMay_holds : Rows.EnvMaySaid :=
  OpenClaim.holds_of_wide 5 Try.f5 rfl rfl rfl rfl rfl rfl rfl ⟨rfl, rfl, rfl, rfl, rfl⟩ rfl rfl rfl rfl rfl (by kernel_rfl) Try.func5 (by kernel_rfl)
    (of_decide_eq_true (by kernel_rfl)) (by unfold Func.isWrapper; first | (rw [if_pos (by decide +kernel)]; kernel_rfl) | (rw [if_neg (by decide +kernel)]; exact ⟨rfl, rfl⟩))
    (fun os started H enc _ => envMay_lifted os started H enc)
#print axioms envMay_holds

end Go.Proofs.Ytkmpnkgelaaebaa
