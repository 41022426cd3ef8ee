/- WALKS over env: View. No condition but that numbers and texts are of their kinds. -/
import Derived.Test.YtkmpnkgelaaebaaDoorEnvC
import Derived.BigRegion
set_option linter.unusedSimpArgs false
set_option linter.unusedVariables false
namespace Go.Proofs.YtkmpnkgelaaebaaDoor
open Go.RowKit

set_option maxRecDepth 100000 in
set_option maxHeartbeats 2000000 in
theorem turnedView_any (e : En) (ok : Bool) (why : Int) (a b c d : Int) (w : World) (k : Nat) (lk : k < w.heap.size) (qk : w.row k = some (.cells #[.int .i64 a, .int .i64 b] 23 (0, 0))) (l : Nat) (ll : l < w.heap.size) (ql : w.row l = some (.cells #[.int .i64 c, .int .i64 d] 23 (0, 0))) (he : e.Wf) :
    Calls Tryd.prog 23 #[e.v, .bool ok, .int .i64 why, .func (.func 24) #[] #[.pointer (some ⟨k, 0, none⟩), .pointer (some ⟨l, 0, none⟩)]] w (Gives w (chgV e why (if ok then some { e with w1 := a, w2 := b, h1 := c, h2 := d } else none))) := by
  have hm := fun w => envMay_any e w he
  have lk1 : k < w.heap.size + 1 := by omega
  have lk2 : k < w.heap.size + 1 + 1 := by omega
  have ck0 : w.cell? ⟨k, 0, none⟩ = some (.int .i64 a) := cell_of_row w k 0 _ _ _ qk
  have ck1 : w.cell? ⟨k, 1, none⟩ = some (.int .i64 b) := cell_of_row w k 1 _ _ _ qk
  have ll1 : l < w.heap.size + 1 := by omega
  have ll2 : l < w.heap.size + 1 + 1 := by omega
  have cl0 : w.cell? ⟨l, 0, none⟩ = some (.int .i64 c) := cell_of_row w l 0 _ _ _ ql
  have cl1 : w.cell? ⟨l, 1, none⟩ = some (.int .i64 d) := cell_of_row w l 1 _ _ _ ql
  simp only [chgV, chgE, chgW]
  generalize e.may = t at *
  obtain ⟨p, w1, w2, h1, h2, f1, f2, c1, c2, s, h, q, m⟩ := e
  have HM := Lib.hid hm; clear hm he
  show Calls Tryd.prog 23 #[.agg #[.bool p, .int .i64 w1, .int .i64 w2, .int .i64 h1, .int .i64 h2, .int .i64 f1, .int .i64 f2, .int .i64 c1, .int .i64 c2, .string s, .string h, .string q, .string m], .bool ok, .int .i64 why, .func (.func 24) #[] #[.pointer (some ⟨k, 0, none⟩), .pointer (some ⟨l, 0, none⟩)]] w _
  cases t <;> cases ok <;> simp only [En.zero, Bool.false_eq_true, if_false, if_true]
  · go_enter Tryd.func23, Tryd.ntmps23
    go_wp2_with (first | (go_at_call 7; (with_reducible refine (HM.out _).mono ?_); rintro e w1 ⟨rfl, x1, rfl⟩) | ((with_reducible show bodyPost _ _ _ _ _ _); exact rett_25 rfl rfl (by simp [go_sem]) rfl ⟨by simp [go_sem], (by repeat (first | exact World.grows.refl | apply World.grows.plus | apply World.grows.alloc | apply World.grows.drew))⟩))
  · go_enter Tryd.func23, Tryd.ntmps23
    go_wp2_with (first | (go_at_call 7; (with_reducible refine (HM.out _).mono ?_); rintro e w1 ⟨rfl, x1, rfl⟩) | ((with_reducible show bodyPost _ _ _ _ _ _); exact rett_25 rfl rfl (by simp [go_sem]) rfl ⟨by simp [go_sem], (by repeat (first | exact World.grows.refl | apply World.grows.plus | apply World.grows.alloc | apply World.grows.drew))⟩))
  · go_enter Tryd.func23, Tryd.ntmps23
    go_wp2_with (first | (go_at_call 7; (with_reducible refine (HM.out _).mono ?_); rintro e w1 ⟨rfl, x1, rfl⟩) | ((with_reducible show bodyPost _ _ _ _ _ _); exact rett_25 rfl rfl (by simp [go_sem]) rfl ⟨by simp [go_sem], (by repeat (first | exact World.grows.refl | apply World.grows.plus | apply World.grows.alloc | apply World.grows.drew))⟩))
  · go_enter Tryd.func23, Tryd.ntmps23
    go_wp2_with (first | (go_at_call 7; (with_reducible refine (HM.out _).mono ?_); rintro e w1 ⟨rfl, x1, rfl⟩))
    go_in
    go_wp2_with (first | ((with_reducible show bodyPost _ _ _ _ _ _); exact rett_25 rfl rfl (by simp [go_sem]) rfl ⟨by simp [go_sem], (by repeat (first | exact World.grows.refl | apply World.grows.plus | apply World.grows.alloc | apply World.grows.drew))⟩))
    go_region
    go_wp2_with (first | ((with_reducible show bodyPost _ _ _ _ _ _); exact rett_25 rfl rfl (by simp [go_sem]) rfl ⟨by simp [go_sem], (by repeat (first | exact World.grows.refl | apply World.grows.plus | apply World.grows.alloc | apply World.grows.drew))⟩))

set_option maxRecDepth 100000 in
set_option maxHeartbeats 2000000 in
theorem view_any (e : En) (a b c d : Int) (w : World) (he : e.Wf) (wa : I64 a) (wb : I64 b) (wc : I64 c) (wd : I64 d) : Calls Tryd.prog 10 #[e.v, .agg #[.int .i64 a, .int .i64 b], .agg #[.int .i64 c, .int .i64 d]] w (Gives w (chgV e 8 (if (sizeB a b) && (sizeB c d) then some { e with w1 := a, w2 := b, h1 := c, h2 := d } else none))) := by
  have g0 := fun w => envSize_any a b w wa.1 wa.2 wb.1 wb.2
  have g1 := fun w => envSize_any c d w wc.1 wc.2 wd.1 wd.2
  have ht := fun ok w k lk qk l ll ql => turnedView_any e ok 8 a b c d w k lk qk l ll ql he
  generalize sizeB a b = t0 at *
  generalize sizeB c d = t1 at *
  have G0 := Lib.hid g0; clear g0
  have G1 := Lib.hid g1; clear g1
  cases t0
  case false =>
    have h1 := ht false
    simp only [Bool.false_and, Bool.false_eq_true, if_false] at h1 ⊢
    generalize chgE e none = E0 at *
    generalize chgW e 8 none = R0 at *
    obtain ⟨p', w1', w2', h1', h2', f1', f2', c1', c2', s', h', q', m'⟩ := E0
    obtain ⟨p, w1, w2, h1, h2, f1, f2, c1, c2, s, h, q, m⟩ := e
    clear he
    have HT := Lib.hid h1; clear ht h1
    go_enter Tryd.func10, Tryd.ntmps10
    go_wp2_with fail
    refine wp_region_plus_tail 11 (by kernel_rfl) (by kernel_rfl) ?_
    simp only [List.take_succ_cons, List.take_zero, List.drop_succ_cons, List.drop_zero]
    repeat (go_big_quiet_step (first | (go_at_call 16; (with_reducible exact Calls.plus_of (G0.out _))) | (go_at_call 16; (with_reducible exact Calls.plus_of (G1.out _))) | (go_at_call 23; (with_reducible refine Calls.plus_of (HT.out _ _ ?_ ?_ _ ?_ ?_)) <;> simp [go_sem]; done)))
    refine wpQuiet_nil ?_; intro _ hw'; obtain ⟨xq, hw''⟩ := hw'; subst hw''
    go_wp2_with (first | ((with_reducible show bodyPost _ _ _ _ _ _); exact rett_25 rfl rfl (by simp [go_sem]) rfl ⟨by simp [go_sem], (by repeat (first | exact World.grows.refl | apply World.grows.plus | apply World.grows.alloc | apply World.grows.drew))⟩))
  case true =>
    cases t1
    case false =>
      have h1 := ht false
      simp only [Bool.and_false, Bool.false_eq_true, if_false] at h1 ⊢
      generalize chgE e none = E0 at *
      generalize chgW e 8 none = R0 at *
      obtain ⟨p', w1', w2', h1', h2', f1', f2', c1', c2', s', h', q', m'⟩ := E0
      obtain ⟨p, w1, w2, h1, h2, f1, f2, c1, c2, s, h, q, m⟩ := e
      clear he
      have HT := Lib.hid h1; clear ht h1
      go_enter Tryd.func10, Tryd.ntmps10
      go_wp2_with fail
      refine wp_region_plus_tail 11 (by kernel_rfl) (by kernel_rfl) ?_
      simp only [List.take_succ_cons, List.take_zero, List.drop_succ_cons, List.drop_zero]
      repeat (go_big_quiet_step (first | (go_at_call 16; (with_reducible exact Calls.plus_of (G0.out _))) | (go_at_call 16; (with_reducible exact Calls.plus_of (G1.out _))) | (go_at_call 23; (with_reducible refine Calls.plus_of (HT.out _ _ ?_ ?_ _ ?_ ?_)) <;> simp [go_sem]; done)))
      refine wpQuiet_nil ?_; intro _ hw'; obtain ⟨xq, hw''⟩ := hw'; subst hw''
      go_wp2_with (first | ((with_reducible show bodyPost _ _ _ _ _ _); exact rett_25 rfl rfl (by simp [go_sem]) rfl ⟨by simp [go_sem], (by repeat (first | exact World.grows.refl | apply World.grows.plus | apply World.grows.alloc | apply World.grows.drew))⟩))
    case true =>
      have h1 := ht true
      simp only [Bool.and_self, if_true] at h1 ⊢
      generalize chgE e (some { e with w1 := a, w2 := b, h1 := c, h2 := d }) = E0 at *
      generalize chgW e 8 (some { e with w1 := a, w2 := b, h1 := c, h2 := d }) = R0 at *
      obtain ⟨p', w1', w2', h1', h2', f1', f2', c1', c2', s', h', q', m'⟩ := E0
      obtain ⟨p, w1, w2, h1, h2, f1, f2, c1, c2, s, h, q, m⟩ := e
      clear he
      have HT := Lib.hid h1; clear ht h1
      go_enter Tryd.func10, Tryd.ntmps10
      go_wp2_with fail
      refine wp_region_plus_tail 11 (by kernel_rfl) (by kernel_rfl) ?_
      simp only [List.take_succ_cons, List.take_zero, List.drop_succ_cons, List.drop_zero]
      repeat (go_big_quiet_step (first | (go_at_call 16; (with_reducible exact Calls.plus_of (G0.out _))) | (go_at_call 16; (with_reducible exact Calls.plus_of (G1.out _))) | (go_at_call 23; (with_reducible refine Calls.plus_of (HT.out _ _ ?_ ?_ _ ?_ ?_)) <;> simp [go_sem]; done)))
      refine wpQuiet_nil ?_; intro _ hw'; obtain ⟨xq, hw''⟩ := hw'; subst hw''
      go_wp2_with (first | ((with_reducible show bodyPost _ _ _ _ _ _); exact rett_25 rfl rfl (by simp [go_sem]) rfl ⟨by simp [go_sem], (by repeat (first | exact World.grows.refl | apply World.grows.plus | apply World.grows.alloc | apply World.grows.drew))⟩))

end Go.Proofs.YtkmpnkgelaaebaaDoor
