/- WALKS over env and jalousieref16: the first environment, contexts, changes. No condition but that numbers and texts are of their kinds. -/
import Derived.Test.YtkmpnkgelaaebaaEnvM
import Derived.Test.YtkmpnkgelaaebaaSeg
import Derived.Test.YtkmpnkgelaaebaaOps
set_option linter.unusedSimpArgs false
set_option linter.unusedVariables false
namespace Go.Proofs.Ytkmpnkgelaaebaa
open Go.RowKit

set_option maxRecDepth 100000 in
theorem new1_any (n : Int) (w : World) : Calls Try.prog 42 #[.int .i64 n] w (Gives w (.agg #[.int .i64 n, .int .i64 1])) := by
  go_enter Try.func42, Try.ntmps42
  go_wp2_with (first | ((with_reducible show bodyPost _ _ _ _ _ _); exact ret_23 rfl rfl (by simp [go_sem]) rfl ⟨by simp [go_sem], (by repeat (first | exact World.grows.refl | apply World.grows.plus | apply World.grows.alloc | apply World.grows.drew))⟩))
set_option maxRecDepth 100000 in
theorem refInt_any (n : Int) (w : World) : Calls Try.prog 43 #[.int .i64 n] w (Gives w (.agg #[.int .i64 n, .int .i64 1])) := by
  go_enter Try.func43, Try.ntmps43
  go_wp2_with (first | ((with_reducible show bodyPost _ _ _ _ _ _); exact ret_23 rfl rfl (by simp [go_sem]) rfl ⟨by simp [go_sem], (by repeat (first | exact World.grows.refl | apply World.grows.plus | apply World.grows.alloc | apply World.grows.drew))⟩))

set_option maxRecDepth 100000 in
set_option maxHeartbeats 1000000 in
theorem envNew_any (w : World) : Calls Try.prog 20 #[] w (Gives w (.agg #[.bool false, .int .i64 800, .int .i64 1, .int .i64 600, .int .i64 1, .int .i64 16, .int .i64 1, .int .i64 8, .int .i64 1, .string ⟨#[108, 105, 103, 104, 116]⟩, .string ⟨#[104, 111, 118, 101, 114]⟩, .string ⟨#[102, 105, 110, 101]⟩, .string ⟨#[110, 111, 45, 112, 114, 101, 102, 101, 114, 101, 110, 99, 101]⟩])) := by
  go_enter Try.func20, Try.ntmps20
  go_wp2_with (first | (go_at_call 42; (with_reducible refine (new1_any _ _).mono ?_); rintro e w1 ⟨rfl, x1, rfl⟩) | ((with_reducible show bodyPost _ _ _ _ _ _); exact ret_37 rfl rfl (by simp [go_sem]) rfl ⟨by simp [go_sem], (by repeat (first | exact World.grows.refl | apply World.grows.plus | apply World.grows.alloc | apply World.grows.drew))⟩))
set_option maxRecDepth 100000 in
set_option maxHeartbeats 1000000 in
theorem refNew_any (w : World) : Calls Try.prog 21 #[] w (Gives w (.agg #[.bool false, .int .i64 800, .int .i64 1, .int .i64 600, .int .i64 1, .int .i64 16, .int .i64 1, .int .i64 8, .int .i64 1, .string ⟨#[108, 105, 103, 104, 116]⟩, .string ⟨#[104, 111, 118, 101, 114]⟩, .string ⟨#[102, 105, 110, 101]⟩, .string ⟨#[110, 111, 45, 112, 114, 101, 102, 101, 114, 101, 110, 99, 101]⟩])) := by
  go_enter Try.func21, Try.ntmps21
  go_wp2_with (first | (go_at_call 43; (with_reducible refine (refInt_any _ _).mono ?_); rintro e w1 ⟨rfl, x1, rfl⟩) | ((with_reducible show bodyPost _ _ _ _ _ _); exact ret_37 rfl rfl (by simp [go_sem]) rfl ⟨by simp [go_sem], (by repeat (first | exact World.grows.refl | apply World.grows.plus | apply World.grows.alloc | apply World.grows.drew))⟩))

set_option maxRecDepth 100000 in
set_option maxHeartbeats 1000000 in
theorem envCtx_any (e : En) (w : World) (he : e.Wf) : Calls Try.prog 24 #[e.v] w (Gives w e.ctx) := by
  have hm := fun w => envMay_any e w he
  cases hb : e.may with
  | false =>
    rw [show e.ctx = .agg #[.int .i64 0, .int .i64 0, .int .i64 0, .int .i64 0, .int .i64 0, .int .i64 0, .int .i64 0, .int .i64 0, .int .i64 0, .int .i64 0, .int .i64 0, .int .i64 0] from by simp [En.ctx, hb]]
    rw [hb] at hm; clear hb
    obtain ⟨p, w1, w2, h1, h2, f1, f2, c1, c2, s, h, q, m⟩ := e
    have HM := Lib.hid hm; clear hm he
    show Calls Try.prog 24 #[.agg #[.bool p, .int .i64 w1, .int .i64 w2, .int .i64 h1, .int .i64 h2, .int .i64 f1, .int .i64 f2, .int .i64 c1, .int .i64 c2, .string s, .string h, .string q, .string m]] w _
    go_enter Try.func24, Try.ntmps24
    go_wp2_with (first | (go_at_call 22; (with_reducible refine (HM.out _).mono ?_); rintro e w1 ⟨rfl, x1, rfl⟩) | ((with_reducible show bodyPost _ _ _ _ _ _); exact ret_41 rfl rfl (by simp [go_sem]) rfl ⟨by simp [go_sem], (by repeat (first | exact World.grows.refl | apply World.grows.plus | apply World.grows.alloc | apply World.grows.drew))⟩))
  | true =>
    rw [show e.ctx = .agg #[.int .i64 e.f1, .int .i64 e.f2, .int .i64 e.f1, .int .i64 e.f2, .int .i64 e.w1, .int .i64 e.w2, .int .i64 e.h1, .int .i64 e.h2, .int .i64 0, .int .i64 0, .int .i64 0, .int .i64 0] from by simp [En.ctx, hb]]
    rw [hb] at hm; clear hb
    obtain ⟨p, w1, w2, h1, h2, f1, f2, c1, c2, s, h, q, m⟩ := e
    have HM := Lib.hid hm; clear hm he
    show Calls Try.prog 24 #[.agg #[.bool p, .int .i64 w1, .int .i64 w2, .int .i64 h1, .int .i64 h2, .int .i64 f1, .int .i64 f2, .int .i64 c1, .int .i64 c2, .string s, .string h, .string q, .string m]] w (Gives w (.agg #[.int .i64 f1, .int .i64 f2, .int .i64 f1, .int .i64 f2, .int .i64 w1, .int .i64 w2, .int .i64 h1, .int .i64 h2, .int .i64 0, .int .i64 0, .int .i64 0, .int .i64 0]))
    go_enter Try.func24, Try.ntmps24
    go_wp2_with (first | (go_at_call 22; (with_reducible refine (HM.out _).mono ?_); rintro e w1 ⟨rfl, x1, rfl⟩) | ((with_reducible show bodyPost _ _ _ _ _ _); exact ret_41 rfl rfl (by simp [go_sem]) rfl ⟨by simp [go_sem], (by repeat (first | exact World.grows.refl | apply World.grows.plus | apply World.grows.alloc | apply World.grows.drew))⟩))

set_option maxRecDepth 100000 in
set_option maxHeartbeats 1000000 in
theorem refCtx_any (e : En) (w : World) (he : e.Wf) (hm0 : ∀ w, Calls Try.prog 23 #[e.v] w (Gives w (.bool e.may))) : Calls Try.prog 25 #[e.v] w (Gives w e.ctx) := by
  have hm := hm0
  cases hb : e.may with
  | false =>
    rw [show e.ctx = .agg #[.int .i64 0, .int .i64 0, .int .i64 0, .int .i64 0, .int .i64 0, .int .i64 0, .int .i64 0, .int .i64 0, .int .i64 0, .int .i64 0, .int .i64 0, .int .i64 0] from by simp [En.ctx, hb]]
    rw [hb] at hm; clear hb
    obtain ⟨p, w1, w2, h1, h2, f1, f2, c1, c2, s, h, q, m⟩ := e
    have HM := Lib.hid hm; clear hm he
    show Calls Try.prog 25 #[.agg #[.bool p, .int .i64 w1, .int .i64 w2, .int .i64 h1, .int .i64 h2, .int .i64 f1, .int .i64 f2, .int .i64 c1, .int .i64 c2, .string s, .string h, .string q, .string m]] w _
    go_enter Try.func25, Try.ntmps25
    go_wp2_with (first | (go_at_call 23; (with_reducible refine (HM.out _).mono ?_); rintro e w1 ⟨rfl, x1, rfl⟩) | ((with_reducible show bodyPost _ _ _ _ _ _); exact ret_41 rfl rfl (by simp [go_sem]) rfl ⟨by simp [go_sem], (by repeat (first | exact World.grows.refl | apply World.grows.plus | apply World.grows.alloc | apply World.grows.drew))⟩))
  | true =>
    rw [show e.ctx = .agg #[.int .i64 e.f1, .int .i64 e.f2, .int .i64 e.f1, .int .i64 e.f2, .int .i64 e.w1, .int .i64 e.w2, .int .i64 e.h1, .int .i64 e.h2, .int .i64 0, .int .i64 0, .int .i64 0, .int .i64 0] from by simp [En.ctx, hb]]
    rw [hb] at hm; clear hb
    obtain ⟨p, w1, w2, h1, h2, f1, f2, c1, c2, s, h, q, m⟩ := e
    have HM := Lib.hid hm; clear hm he
    show Calls Try.prog 25 #[.agg #[.bool p, .int .i64 w1, .int .i64 w2, .int .i64 h1, .int .i64 h2, .int .i64 f1, .int .i64 f2, .int .i64 c1, .int .i64 c2, .string s, .string h, .string q, .string m]] w (Gives w (.agg #[.int .i64 f1, .int .i64 f2, .int .i64 f1, .int .i64 f2, .int .i64 w1, .int .i64 w2, .int .i64 h1, .int .i64 h2, .int .i64 0, .int .i64 0, .int .i64 0, .int .i64 0]))
    go_enter Try.func25, Try.ntmps25
    go_wp2_with (first | (go_at_call 23; (with_reducible refine (HM.out _).mono ?_); rintro e w1 ⟨rfl, x1, rfl⟩) | ((with_reducible show bodyPost _ _ _ _ _ _); exact ret_41 rfl rfl (by simp [go_sem]) rfl ⟨by simp [go_sem], (by repeat (first | exact World.grows.refl | apply World.grows.plus | apply World.grows.alloc | apply World.grows.drew))⟩))

end Go.Proofs.Ytkmpnkgelaaebaa
