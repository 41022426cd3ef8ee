/- WALKS over env and jalousieref16: a feature with a number, a feature with words. No condition but that numbers and texts are of their kinds. -/
import Derived.Test.YtkmpnkgelaaebaaDoorEnvWd
import Derived.Test.YtkmpnkgelaaebaaDoorEnvR
import Derived.Test.YtkmpnkgelaaebaaDoorRDiv
import Derived.Test.YtkmpnkgelaaebaaDoorRCmp
set_option linter.unusedSimpArgs false
set_option linter.unusedVariables false
namespace Go
open Go.Proofs.YtkmpnkgelaaebaaDoor
/-- what a feature with a number is, and is there any? -/
def En.val (e : En) (n : ByteArray) : (Int × Int) × Bool :=
  if e.may then
    if n.toList = [119, 105, 100, 116, 104] then ((e.w1, e.w2), true)
    else if n.toList = [104, 101, 105, 103, 104, 116] then ((e.h1, e.h2), true)
    else if n.toList = [97, 115, 112, 101, 99, 116, 45, 114, 97, 116, 105, 111] then (divQ (e.w1, e.w2) (e.h1, e.h2), true)
    else if n.toList = [99, 111, 108, 111, 114] then ((e.c1, e.c2), true)
    else ((0, 0), false)
  else ((0, 0), false)
end Go
namespace Go.Proofs.YtkmpnkgelaaebaaDoor
open Go.RowKit

set_option maxRecDepth 100000 in
set_option maxHeartbeats 2000000 in
theorem envVal_any (e : En) (n : ByteArray) (w : World) (he : e.Wf) : Calls Tryd.prog 8 #[e.v, .string n] w (Gives w (.tuple #[ratV (e.val n).1, .bool (e.val n).2])) := by
  have hm := fun w => envMay_any e w he
  have hd := fun w => ratDiv_any e.w1 e.w2 e.h1 e.h2 w he.1 he.2.1 he.2.2.1 he.2.2.2.1
  unfold En.val
  cases ht : e.may with
  | false =>
    rw [ht] at hm
    have HM := Lib.hid hm; clear hm ht hd he
    obtain ⟨p, w1, w2, h1, h2, f1, f2, c1, c2, s, h, q, m⟩ := e
    simp only [Bool.false_eq_true, if_false]
    go_enter Tryd.func8, Tryd.ntmps8
    go_wp2_with (first | (go_at_call 7; (with_reducible refine (HM.out _).mono ?_); rintro e w1 ⟨rfl, x1, rfl⟩) | ((with_reducible show bodyPost _ _ _ _ _ _); exact rett_23 rfl rfl (by simp [go_sem]) rfl ⟨by simp [go_sem], (by repeat (first | exact World.grows.refl | apply World.grows.plus | apply World.grows.alloc | apply World.grows.drew))⟩))
  | true =>
    rw [ht] at hm
    have HM := Lib.hid hm; clear hm ht he
    simp only [if_true]
    by_cases k0 : n.toList = [119, 105, 100, 116, 104]
    · have b0 : (n.toList == [119, 105, 100, 116, 104]) = true := by simpa using k0
      simp only [if_pos k0]
      clear k0
      clear hd
      obtain ⟨p, w1, w2, h1, h2, f1, f2, c1, c2, s, h, q, m⟩ := e
      go_enter Tryd.func8, Tryd.ntmps8
      go_wp2_with (first | (go_at_call 7; (with_reducible refine (HM.out _).mono ?_); rintro e w1 ⟨rfl, x1, rfl⟩) | ((with_reducible show bodyPost _ _ _ _ _ _); exact rett_23 rfl rfl (by simp [go_sem]) rfl ⟨by simp [go_sem], (by repeat (first | exact World.grows.refl | apply World.grows.plus | apply World.grows.alloc | apply World.grows.drew))⟩))
    have b0 : (n.toList == [119, 105, 100, 116, 104]) = false := by simpa using k0
    by_cases k1 : n.toList = [104, 101, 105, 103, 104, 116]
    · have b1 : (n.toList == [104, 101, 105, 103, 104, 116]) = true := by simpa using k1
      simp only [if_neg k0, if_pos k1]
      clear k0 k1
      clear hd
      obtain ⟨p, w1, w2, h1, h2, f1, f2, c1, c2, s, h, q, m⟩ := e
      go_enter Tryd.func8, Tryd.ntmps8
      go_wp2_with (first | (go_at_call 7; (with_reducible refine (HM.out _).mono ?_); rintro e w1 ⟨rfl, x1, rfl⟩) | ((with_reducible show bodyPost _ _ _ _ _ _); exact rett_23 rfl rfl (by simp [go_sem]) rfl ⟨by simp [go_sem], (by repeat (first | exact World.grows.refl | apply World.grows.plus | apply World.grows.alloc | apply World.grows.drew))⟩))
    have b1 : (n.toList == [104, 101, 105, 103, 104, 116]) = false := by simpa using k1
    by_cases k2 : n.toList = [97, 115, 112, 101, 99, 116, 45, 114, 97, 116, 105, 111]
    · have b2 : (n.toList == [97, 115, 112, 101, 99, 116, 45, 114, 97, 116, 105, 111]) = true := by simpa using k2
      simp only [if_neg k0, if_neg k1, if_pos k2]
      clear k0 k1 k2
      generalize divQ (e.w1, e.w2) (e.h1, e.h2) = R at *
      obtain ⟨R1, R2⟩ := R
      have HD := Lib.hid hd
      clear hd
      obtain ⟨p, w1, w2, h1, h2, f1, f2, c1, c2, s, h, q, m⟩ := e
      go_enter Tryd.func8, Tryd.ntmps8
      go_wp2_with (first | (go_at_call 7; (with_reducible refine (HM.out _).mono ?_); rintro e w1 ⟨rfl, x1, rfl⟩) | (go_at_call 21; (with_reducible refine (HD.out _).mono ?_); rintro e w1 ⟨rfl, x1, rfl⟩) | ((with_reducible show bodyPost _ _ _ _ _ _); exact rett_23 rfl rfl (by simp [go_sem]) rfl ⟨by simp [go_sem], (by repeat (first | exact World.grows.refl | apply World.grows.plus | apply World.grows.alloc | apply World.grows.drew))⟩))
    have b2 : (n.toList == [97, 115, 112, 101, 99, 116, 45, 114, 97, 116, 105, 111]) = false := by simpa using k2
    by_cases k3 : n.toList = [99, 111, 108, 111, 114]
    · have b3 : (n.toList == [99, 111, 108, 111, 114]) = true := by simpa using k3
      simp only [if_neg k0, if_neg k1, if_neg k2, if_pos k3]
      clear k0 k1 k2 k3
      clear hd
      obtain ⟨p, w1, w2, h1, h2, f1, f2, c1, c2, s, h, q, m⟩ := e
      go_enter Tryd.func8, Tryd.ntmps8
      go_wp2_with (first | (go_at_call 7; (with_reducible refine (HM.out _).mono ?_); rintro e w1 ⟨rfl, x1, rfl⟩) | ((with_reducible show bodyPost _ _ _ _ _ _); exact rett_23 rfl rfl (by simp [go_sem]) rfl ⟨by simp [go_sem], (by repeat (first | exact World.grows.refl | apply World.grows.plus | apply World.grows.alloc | apply World.grows.drew))⟩))
    have b3 : (n.toList == [99, 111, 108, 111, 114]) = false := by simpa using k3
    simp only [if_neg k0, if_neg k1, if_neg k2, if_neg k3]
    clear k0 k1 k2 k3 hd
    obtain ⟨p, w1, w2, h1, h2, f1, f2, c1, c2, s, h, q, m⟩ := e
    go_enter Tryd.func8, Tryd.ntmps8
    go_wp2_with (first | (go_at_call 7; (with_reducible refine (HM.out _).mono ?_); rintro e w1 ⟨rfl, x1, rfl⟩) | ((with_reducible show bodyPost _ _ _ _ _ _); exact rett_23 rfl rfl (by simp [go_sem]) rfl ⟨by simp [go_sem], (by repeat (first | exact World.grows.refl | apply World.grows.plus | apply World.grows.alloc | apply World.grows.drew))⟩))

theorem fieldOf_names (n : ByteArray) : fieldOf n = if n.toList = [104, 111, 118, 101, 114] then some 10 else if n.toList = [112, 111, 105, 110, 116, 101, 114] then some 11 else if n.toList = [112, 114, 101, 102, 101, 114, 115, 45, 99, 111, 108, 111, 114, 45, 115, 99, 104, 101, 109, 101] then some 9 else if n.toList = [112, 114, 101, 102, 101, 114, 115, 45, 114, 101, 100, 117, 99, 101, 100, 45, 109, 111, 116, 105, 111, 110] then some 12 else none := by
  unfold fieldOf; rfl

end Go.Proofs.YtkmpnkgelaaebaaDoor
