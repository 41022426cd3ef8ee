/- WALKS over env: Print. No condition but that numbers and texts are of their kinds. -/
import Derived.Test.YtkmpnkgelaaebaaDoorEnvC
import Derived.BigRegion
set_option linter.unusedSimpArgs false
set_option linter.unusedVariables false
namespace Go.Proofs.YtkmpnkgelaaebaaDoor
open Go.RowKit

set_option maxRecDepth 100000 in
set_option maxHeartbeats 2000000 in
theorem turnedPrint_any (e : En) (ok : Bool) (why : Int) (b : Bool) (w : World) (k : Nat) (lk : k < w.heap.size) (qk : w.row k = some (.cells #[.bool b] 4 (0, 0))) (he : e.Wf) :
    Calls Tryd.prog 23 #[e.v, .bool ok, .int .i64 why, .func (.func 27) #[] #[.pointer (some ⟨k, 0, none⟩)]] w (Gives w (chgV e why (if ok then some { e with p := b } else none))) := by
  have hm := fun w => envMay_any e w he
  have lk1 : k < w.heap.size + 1 := by omega
  have lk2 : k < w.heap.size + 1 + 1 := by omega
  have ck0 : w.cell? ⟨k, 0, none⟩ = some (.bool b) := cell_of_row w k 0 _ _ _ qk
  simp only [chgV, chgE, chgW]
  generalize e.may = t at *
  obtain ⟨p, w1, w2, h1, h2, f1, f2, c1, c2, s, h, q, m⟩ := e
  have HM := Lib.hid hm; clear hm he
  show Calls Tryd.prog 23 #[.agg #[.bool p, .int .i64 w1, .int .i64 w2, .int .i64 h1, .int .i64 h2, .int .i64 f1, .int .i64 f2, .int .i64 c1, .int .i64 c2, .string s, .string h, .string q, .string m], .bool ok, .int .i64 why, .func (.func 27) #[] #[.pointer (some ⟨k, 0, none⟩)]] w _
  cases t <;> cases ok <;> simp only [En.zero, Bool.false_eq_true, if_false, if_true]
  · go_enter Tryd.func23, Tryd.ntmps23
    go_wp2_with (first | (go_at_call 7; (with_reducible refine (HM.out _).mono ?_); rintro e w1 ⟨rfl, x1, rfl⟩) | ((with_reducible show bodyPost _ _ _ _ _ _); exact rett_25 rfl rfl (by simp [go_sem]) rfl ⟨by simp [go_sem], (by repeat (first | exact World.grows.refl | apply World.grows.plus | apply World.grows.alloc | apply World.grows.drew))⟩))
  · go_enter Tryd.func23, Tryd.ntmps23
    go_wp2_with (first | (go_at_call 7; (with_reducible refine (HM.out _).mono ?_); rintro e w1 ⟨rfl, x1, rfl⟩) | ((with_reducible show bodyPost _ _ _ _ _ _); exact rett_25 rfl rfl (by simp [go_sem]) rfl ⟨by simp [go_sem], (by repeat (first | exact World.grows.refl | apply World.grows.plus | apply World.grows.alloc | apply World.grows.drew))⟩))
  · go_enter Tryd.func23, Tryd.ntmps23
    go_wp2_with (first | (go_at_call 7; (with_reducible refine (HM.out _).mono ?_); rintro e w1 ⟨rfl, x1, rfl⟩) | ((with_reducible show bodyPost _ _ _ _ _ _); exact rett_25 rfl rfl (by simp [go_sem]) rfl ⟨by simp [go_sem], (by repeat (first | exact World.grows.refl | apply World.grows.plus | apply World.grows.alloc | apply World.grows.drew))⟩))
  · go_enter Tryd.func23, Tryd.ntmps23
    go_wp2_with (first | (go_at_call 7; (with_reducible refine (HM.out _).mono ?_); rintro e w1 ⟨rfl, x1, rfl⟩))
    go_in
    go_wp2_with (first | ((with_reducible show bodyPost _ _ _ _ _ _); exact rett_25 rfl rfl (by simp [go_sem]) rfl ⟨by simp [go_sem], (by repeat (first | exact World.grows.refl | apply World.grows.plus | apply World.grows.alloc | apply World.grows.drew))⟩))

set_option maxRecDepth 100000 in
set_option maxHeartbeats 2000000 in
theorem print_any (e : En) (b : Bool) (w : World) (he : e.Wf) : Calls Tryd.prog 13 #[e.v, .bool b] w (Gives w (chgV e 0 (some { e with p := b }))) := by
  have ht := fun w k lk qk => turnedPrint_any e true 0 b w k lk qk he
  simp only [if_true] at ht
  generalize chgE e (some { e with p := b }) = E0 at *
  generalize chgW e 0 (some { e with p := b }) = R0 at *
  obtain ⟨p', w1', w2', h1', h2', f1', f2', c1', c2', s', h', q', m'⟩ := E0
  obtain ⟨p, w1, w2, h1, h2, f1, f2, c1, c2, s, h, q, m⟩ := e
  clear he
  have HT := Lib.hid ht; clear ht
  go_enter Tryd.func13, Tryd.ntmps13
  go_wp2_with (first | (go_at_call 23; (with_reducible refine (HT.out _ _ (by simp [go_sem]) (by simp [go_sem])).mono ?_); rintro e w1 ⟨rfl, x1, rfl⟩) | ((with_reducible show bodyPost _ _ _ _ _ _); exact rett_25 rfl rfl (by simp [go_sem]) rfl ⟨by simp [go_sem], (by repeat (first | exact World.grows.refl | apply World.grows.plus | apply World.grows.alloc | apply World.grows.drew))⟩))

end Go.Proofs.YtkmpnkgelaaebaaDoor
