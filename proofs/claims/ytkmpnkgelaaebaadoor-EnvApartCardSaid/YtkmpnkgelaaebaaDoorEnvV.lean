/- WALKS over env and jalousieref16: the first environment, contexts, changes. No condition but that numbers and texts are of their kinds. -/
import Derived.Test.YtkmpnkgelaaebaaDoorEnvM
import Derived.Test.YtkmpnkgelaaebaaDoorSeg
import Derived.Test.YtkmpnkgelaaebaaDoorOps
set_option linter.unusedSimpArgs false
set_option linter.unusedVariables false
namespace Go.Proofs.YtkmpnkgelaaebaaDoor
open Go.RowKit

set_option maxRecDepth 100000 in
theorem new1_any (n : Int) (w : World) : Calls Tryd.prog 29 #[.int .i64 n] w (Gives w (.agg #[.int .i64 n, .int .i64 1])) := by
  go_enter Tryd.func29, Tryd.ntmps29
  go_wp2_with (first | ((with_reducible show bodyPost _ _ _ _ _ _); exact ret_23 rfl rfl (by simp [go_sem]) rfl ⟨by simp [go_sem], (by repeat (first | exact World.grows.refl | apply World.grows.plus | apply World.grows.alloc | apply World.grows.drew))⟩))
set_option maxRecDepth 100000 in
set_option maxHeartbeats 1000000 in
theorem envNew_any (w : World) : Calls Tryd.prog 15 #[] w (Gives w (.agg #[.bool false, .int .i64 800, .int .i64 1, .int .i64 600, .int .i64 1, .int .i64 16, .int .i64 1, .int .i64 8, .int .i64 1, .string ⟨#[108, 105, 103, 104, 116]⟩, .string ⟨#[104, 111, 118, 101, 114]⟩, .string ⟨#[102, 105, 110, 101]⟩, .string ⟨#[110, 111, 45, 112, 114, 101, 102, 101, 114, 101, 110, 99, 101]⟩])) := by
  go_enter Tryd.func15, Tryd.ntmps15
  go_wp2_with (first | (go_at_call 29; (with_reducible refine (new1_any _ _).mono ?_); rintro e w1 ⟨rfl, x1, rfl⟩) | ((with_reducible show bodyPost _ _ _ _ _ _); exact ret_25 rfl rfl (by simp [go_sem]) rfl ⟨by simp [go_sem], (by repeat (first | exact World.grows.refl | apply World.grows.plus | apply World.grows.alloc | apply World.grows.drew))⟩))
end Go.Proofs.YtkmpnkgelaaebaaDoor
