/- EnvRatio: the ratio is the width over the height; the side is told by which is greater. No condition but that numbers and texts are of their kinds. -/
import Derived.Test.YtkmpnkgelaaebaaEnvVl
import Derived.Test.YtkmpnkgelaaebaaEnvA
set_option linter.unusedSimpArgs false
set_option linter.unusedVariables false
namespace Go
open Go.Proofs.Ytkmpnkgelaaebaa
theorem may_size {e : En} (h : e.may = true) {a b c d : Int} (h1 : sizeB a b = true) (h2 : sizeB c d = true) : ({ e with w1 := a, w2 := b, h1 := c, h2 := d } : En).may = true := by
  unfold En.may at *
  simp only [Bool.and_eq_true] at *
  exact ⟨h1, h2, h.2.2⟩
theorem size_sure {a b : Int} (h : sizeB a b = true) : sureB a b = true := by
  rw [sureB_may]; unfold sizeB at h; simp only [Bool.and_eq_true] at *; exact ⟨h.1, h.2.1⟩
end Go
namespace Go.Proofs.Ytkmpnkgelaaebaa
open Go.RowKit

set_option maxRecDepth 100000 in
set_option maxHeartbeats 4000000 in
theorem envRatioLaw_any (e : En) (a b c d : Int) (w : World) (he : e.Wf) (wa : I64 a) (wb : I64 b) (wc : I64 c) (wd : I64 d) :
    Calls Try.prog 9 #[e.v, .agg #[.int .i64 a, .int .i64 b], .agg #[.int .i64 c, .int .i64 d]] w (Gives w (.bool true)) := by
  have hv := fun w => view_any e a b c d w he wa wb wc wd
  by_cases hok : e.may = true ∧ sizeB a b = true ∧ sizeB c d = true
  · obtain ⟨hm, h1, h2⟩ := hok
    have hf := may_size hm h1 h2
    have wf : ({ e with w1 := a, w2 := b, h1 := c, h2 := d } : En).Wf := ⟨wa, wb, wc, wd, he.2.2.2.2⟩
    have eE : chgE e (if (sizeB a b && sizeB c d) = true then some { e with w1 := a, w2 := b, h1 := c, h2 := d } else none) = { e with w1 := a, w2 := b, h1 := c, h2 := d } := by
      unfold chgE; rw [if_pos hm, if_pos (by rw [h1, h2]; rfl)]
    have eW : chgW e 8 (if (sizeB a b && sizeB c d) = true then some { e with w1 := a, w2 := b, h1 := c, h2 := d } else none) = 0 := by
      unfold chgW; rw [if_pos hm, if_pos (by rw [h1, h2]; rfl)]
    simp only [chgV, eE, eW] at hv
    have hval := fun w => envVal_any _ ⟨#[97, 115, 112, 101, 99, 116, 45, 114, 97, 116, 105, 111]⟩ w wf
    have ev : En.val { e with w1 := a, w2 := b, h1 := c, h2 := d } ⟨#[97, 115, 112, 101, 99, 116, 45, 114, 97, 116, 105, 111]⟩ = (divQ (a, b) (c, d), true) := by
      unfold En.val; rw [if_pos hf, if_neg (by decide +kernel), if_neg (by decide +kernel), if_pos (by decide +kernel)]
    rw [ev] at hval
    have hwd := fun w => word_any _ ⟨#[111, 114, 105, 101, 110, 116, 97, 116, 105, 111, 110]⟩ w wf
    have eo : En.word { e with w1 := a, w2 := b, h1 := c, h2 := d } ⟨#[111, 114, 105, 101, 110, 116, 97, 116, 105, 111, 110]⟩ = (if 0 ≤ cmpI c d a b then nPortrait else nLandscape, true) := by
      unfold En.word; rw [if_pos hf, if_pos (by decide +kernel)]
      unfold En.cmpHW; simp only [size_sure h1, size_sure h2, Bool.and_self, if_true]
    rw [eo] at hwd
    have hc := fun w => refCmp_any c d a b w wc wd wa wb
    unfold cmpV at hc
    simp only [size_sure h1, size_sure h2, Bool.and_self, if_true] at hc
    have hd := fun w => refDivQ_any a b c d w wa wb wc wd
    have hz : c = 0 → divQ (a, b) (c, d) = (0, 0) := fun h => by unfold divQ; simp [h]
    obtain ⟨p, w1', w2', h1', h2', f1, f2, c1, c2, s, h, q, m⟩ := e
    simp only at hv hval hwd
    clear hm h1 h2 hf wf eE eW ev eo he wa wb wc wd
    generalize cmpI c d a b = C at *
    generalize divQ (a, b) (c, d) = R at *
    obtain ⟨R1, R2⟩ := R
    have HV := Lib.hid hv; have HL := Lib.hid hval; have HC := Lib.hid hc; have HD := Lib.hid hd; clear hv hval hc hd
    by_cases hC : 0 ≤ C
    · simp only [if_pos hC, nPortrait] at hwd
      have HW := Lib.hid hwd; clear hwd
      by_cases hc0 : c = 0
      · obtain ⟨rfl, rfl⟩ := Prod.mk.inj (hz hc0)
        subst hc0
        clear hz
        go_enter Try.func9, Try.ntmps9
        go_wp2_with (first | (go_at_call 36; (with_reducible refine (HV.out _).mono ?_); rintro e w1 ⟨rfl, x1, rfl⟩) | (go_at_call 30; (with_reducible refine (HL.out _).mono ?_); rintro e w1 ⟨rfl, x1, rfl⟩) | (go_at_call 32; (with_reducible refine (HW.out _).mono ?_); rintro e w1 ⟨rfl, x1, rfl⟩) | (go_at_call 37; (with_reducible refine (HC.out _).mono ?_); rintro e w1 ⟨rfl, x1, rfl⟩))
        refine wp_region_plus_lit (by kernel_rfl) (by kernel_rfl) ?_
        repeat (go_big_quiet_step (first | (go_at_call 38; (with_reducible exact Calls.plus_of (HD.out _))) | (go_at_call 26; (with_reducible exact Calls.plus_of (awake_any _)))))
        (refine wpQuiet_nil ?_; intro _ hw'; obtain ⟨xq, hw''⟩ := hw'; subst hw'')
        go_wp2_with fail
        go_ret
        exact ⟨rfl, (by repeat (first | exact World.grows.refl | apply World.grows.plus | apply World.grows.alloc | apply World.grows.drew))⟩
      · have hc1 : (c != 0) = true := by simpa using hc0
        clear hz hc0
        go_enter Try.func9, Try.ntmps9
        go_wp2_with (first | (go_at_call 36; (with_reducible refine (HV.out _).mono ?_); rintro e w1 ⟨rfl, x1, rfl⟩) | (go_at_call 30; (with_reducible refine (HL.out _).mono ?_); rintro e w1 ⟨rfl, x1, rfl⟩) | (go_at_call 32; (with_reducible refine (HW.out _).mono ?_); rintro e w1 ⟨rfl, x1, rfl⟩) | (go_at_call 37; (with_reducible refine (HC.out _).mono ?_); rintro e w1 ⟨rfl, x1, rfl⟩))
        refine wp_region_plus_lit (by kernel_rfl) (by kernel_rfl) ?_
        repeat (go_big_quiet_step (first | (go_at_call 38; (with_reducible exact Calls.plus_of (HD.out _))) | (go_at_call 26; (with_reducible exact Calls.plus_of (awake_any _)))))
        (refine wpQuiet_nil ?_; intro _ hw'; obtain ⟨xq, hw''⟩ := hw'; subst hw'')
        go_wp2_with fail
        go_ret
        exact ⟨rfl, (by repeat (first | exact World.grows.refl | apply World.grows.plus | apply World.grows.alloc | apply World.grows.drew))⟩
    · simp only [if_neg hC, nLandscape] at hwd
      have HW := Lib.hid hwd; clear hwd
      have hC' : decide (0 ≤ C) = false := by simpa using hC
      clear hC
      by_cases hc0 : c = 0
      · obtain ⟨rfl, rfl⟩ := Prod.mk.inj (hz hc0)
        subst hc0
        clear hz
        go_enter Try.func9, Try.ntmps9
        go_wp2_with (first | (go_at_call 36; (with_reducible refine (HV.out _).mono ?_); rintro e w1 ⟨rfl, x1, rfl⟩) | (go_at_call 30; (with_reducible refine (HL.out _).mono ?_); rintro e w1 ⟨rfl, x1, rfl⟩) | (go_at_call 32; (with_reducible refine (HW.out _).mono ?_); rintro e w1 ⟨rfl, x1, rfl⟩) | (go_at_call 37; (with_reducible refine (HC.out _).mono ?_); rintro e w1 ⟨rfl, x1, rfl⟩))
        refine wp_region_plus_lit (by kernel_rfl) (by kernel_rfl) ?_
        repeat (go_big_quiet_step (first | (go_at_call 38; (with_reducible exact Calls.plus_of (HD.out _))) | (go_at_call 26; (with_reducible exact Calls.plus_of (awake_any _)))))
        (refine wpQuiet_nil ?_; intro _ hw'; obtain ⟨xq, hw''⟩ := hw'; subst hw'')
        go_wp2_with fail
        go_ret
        exact ⟨rfl, (by repeat (first | exact World.grows.refl | apply World.grows.plus | apply World.grows.alloc | apply World.grows.drew))⟩
      · have hc1 : (c != 0) = true := by simpa using hc0
        clear hz hc0
        go_enter Try.func9, Try.ntmps9
        go_wp2_with (first | (go_at_call 36; (with_reducible refine (HV.out _).mono ?_); rintro e w1 ⟨rfl, x1, rfl⟩) | (go_at_call 30; (with_reducible refine (HL.out _).mono ?_); rintro e w1 ⟨rfl, x1, rfl⟩) | (go_at_call 32; (with_reducible refine (HW.out _).mono ?_); rintro e w1 ⟨rfl, x1, rfl⟩) | (go_at_call 37; (with_reducible refine (HC.out _).mono ?_); rintro e w1 ⟨rfl, x1, rfl⟩))
        refine wp_region_plus_lit (by kernel_rfl) (by kernel_rfl) ?_
        repeat (go_big_quiet_step (first | (go_at_call 38; (with_reducible exact Calls.plus_of (HD.out _))) | (go_at_call 26; (with_reducible exact Calls.plus_of (awake_any _)))))
        (refine wpQuiet_nil ?_; intro _ hw'; obtain ⟨xq, hw''⟩ := hw'; subst hw'')
        go_wp2_with fail
        go_ret
        exact ⟨rfl, (by repeat (first | exact World.grows.refl | apply World.grows.plus | apply World.grows.alloc | apply World.grows.drew))⟩
  · have hW : chgW e 8 (if (sizeB a b && sizeB c d) = true then some { e with w1 := a, w2 := b, h1 := c, h2 := d } else none) ≠ 0 := by
      unfold chgW
      by_cases hm : e.may = true
      · have hn : ¬ (sizeB a b && sizeB c d) = true := fun h => hok ⟨hm, by simpa using h⟩
        rw [if_pos hm, if_neg hn]; simp
      · rw [if_neg hm]; omega
    unfold chgV at hv
    generalize chgE e (if (sizeB a b && sizeB c d) = true then some { e with w1 := a, w2 := b, h1 := c, h2 := d } else none) = F at *
    generalize chgW e 8 (if (sizeB a b && sizeB c d) = true then some { e with w1 := a, w2 := b, h1 := c, h2 := d } else none) = X at *
    have hb : (X != 0) = true := by simpa using hW
    obtain ⟨p, w1', w2', h1', h2', f1, f2, c1, c2, s, h, q, m⟩ := e
    obtain ⟨p', w1'', w2'', h1'', h2'', f1', f2', c1', c2', s', h', q', m'⟩ := F
    have HV := Lib.hid hv; clear hv hW hok he wa wb wc wd
    go_enter Try.func9, Try.ntmps9
    go_wp2_with (first | (go_at_call 36; (with_reducible refine (HV.out _).mono ?_); rintro e w1 ⟨rfl, x1, rfl⟩) | (go_at_call 26; (with_reducible refine (awake_any _).mono ?_); rintro e w1 ⟨rfl, x1, rfl⟩))
    go_ret
    exact ⟨rfl, (by repeat (first | exact World.grows.refl | apply World.grows.plus | apply World.grows.alloc | apply World.grows.drew))⟩

end Go.Proofs.Ytkmpnkgelaaebaa
