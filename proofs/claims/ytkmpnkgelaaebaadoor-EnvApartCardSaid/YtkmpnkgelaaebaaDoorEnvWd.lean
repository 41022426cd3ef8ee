/- WALKS over env: the word of a feature. No condition but that numbers and texts are of their kinds. -/
import Derived.Test.YtkmpnkgelaaebaaDoorEnvTT
import Derived.Test.YtkmpnkgelaaebaaDoorCmp
set_option linter.unusedSimpArgs false
set_option linter.unusedVariables false
namespace Go
open Go.Proofs.YtkmpnkgelaaebaaDoor
/-- the height against the width -/
def En.cmpHW (e : En) : Int := if sureB e.h1 e.h2 && sureB e.w1 e.w2 then cmpI e.h1 e.h2 e.w1 e.w2 else 0
def En.get (e : En) (k : Nat) : ByteArray := if k = 10 then e.h else if k = 11 then e.q else if k = 9 then e.s else e.m
def nPortrait : ByteArray := ⟨#[112, 111, 114, 116, 114, 97, 105, 116]⟩
def nLandscape : ByteArray := ⟨#[108, 97, 110, 100, 115, 99, 97, 112, 101]⟩
/-- the word of a feature, and is there any? -/
def En.word (e : En) (n : ByteArray) : ByteArray × Bool :=
  if e.may then
    if n.toList = [111, 114, 105, 101, 110, 116, 97, 116, 105, 111, 110] then (if 0 ≤ e.cmpHW then nPortrait else nLandscape, true)
    else match fieldOf n with
      | some k => (e.get k, true)
      | none => (⟨#[]⟩, false)
  else (⟨#[]⟩, false)
theorem En.get10 (e : En) : e.get 10 = e.h := rfl
theorem En.get11 (e : En) : e.get 11 = e.q := rfl
theorem En.get9 (e : En) : e.get 9 = e.s := rfl
theorem En.get12 (e : En) : e.get 12 = e.m := rfl
end Go
namespace Go.Proofs.YtkmpnkgelaaebaaDoor
open Go.RowKit

set_option maxRecDepth 100000 in
set_option maxHeartbeats 2000000 in
theorem word_any (e : En) (n : ByteArray) (w : World) (he : e.Wf) : Calls Tryd.prog 9 #[e.v, .string n] w (Gives w (.tuple #[.string (e.word n).1, .bool (e.word n).2])) := by
  have hm := fun w => envMay_any e w he
  have hfd := fun g w => field_any g n w
  have hcm := fun w => ratCmp_any e.h1 e.h2 e.w1 e.w2 w (by have := he; obtain ⟨_, _, h3, h4, _⟩ := this; exact h3) (by have := he; obtain ⟨_, _, h3, h4, _⟩ := this; exact h4) he.1 he.2.1
  unfold En.word En.cmpHW
  unfold cmpV at hcm
  generalize hC : (if (sureB e.h1 e.h2 && sureB e.w1 e.w2) = true then cmpI e.h1 e.h2 e.w1 e.w2 else 0) = C at *
  generalize (sureB e.h1 e.h2 && sureB e.w1 e.w2) = D at *
  clear hC he
  have HC := Lib.hid hcm; clear hcm
  cases ht : e.may with
  | false =>
    rw [ht] at hm
    have HM := Lib.hid hm; clear hm ht hfd
    obtain ⟨p, w1, w2, h1, h2, f1, f2, c1, c2, s, h, q, m⟩ := e
    simp only [Bool.false_eq_true, if_false]
    go_enter Tryd.func9, Tryd.ntmps9
    go_wp2_with (first | (go_at_call 7; (with_reducible refine (HM.out _).mono ?_); rintro e w1 ⟨rfl, x1, rfl⟩))
    go_ret2
    exact ⟨rfl, (by repeat (first | exact World.grows.refl | apply World.grows.plus | apply World.grows.alloc | apply World.grows.drew))⟩
  | true =>
    rw [ht] at hm
    have HM := Lib.hid hm; clear hm ht
    simp only [if_true]
    by_cases h0 : n.toList = [111, 114, 105, 101, 110, 116, 97, 116, 105, 111, 110]
    · rw [if_pos h0]
      have hb0 : (n.toList == [111, 114, 105, 101, 110, 116, 97, 116, 105, 111, 110]) = true := by simpa using h0
      clear h0 hfd
      obtain ⟨p, w1, w2, h1, h2, f1, f2, c1, c2, s, h, q, m⟩ := e
      by_cases hc : 0 ≤ C
      · simp only [if_pos hc, nPortrait]
        go_enter Tryd.func9, Tryd.ntmps9
        go_wp2_with (first | (go_at_call 7; (with_reducible refine (HM.out _).mono ?_); rintro e w1 ⟨rfl, x1, rfl⟩) | (go_at_call 22; (with_reducible refine (HC.out _).mono ?_); rintro e w1 ⟨rfl, x1, rfl⟩))
        go_ret2
        exact ⟨rfl, (by repeat (first | exact World.grows.refl | apply World.grows.plus | apply World.grows.alloc | apply World.grows.drew))⟩
      · simp only [if_neg hc, nLandscape]
        go_enter Tryd.func9, Tryd.ntmps9
        go_wp2_with (first | (go_at_call 7; (with_reducible refine (HM.out _).mono ?_); rintro e w1 ⟨rfl, x1, rfl⟩) | (go_at_call 22; (with_reducible refine (HC.out _).mono ?_); rintro e w1 ⟨rfl, x1, rfl⟩))
        go_ret2
        exact ⟨rfl, (by repeat (first | exact World.grows.refl | apply World.grows.plus | apply World.grows.alloc | apply World.grows.drew))⟩
    · rw [if_neg h0]
      have hb0 : (n.toList == [111, 114, 105, 101, 110, 116, 97, 116, 105, 111, 110]) = false := by simpa using h0
      clear h0
      cases hf : fieldOf n with
      | none =>
        rw [hf] at hfd
        simp only [Option.map_none] at hfd ⊢
        have HF := Lib.hid hfd; clear hfd hf
        obtain ⟨p, w1, w2, h1, h2, f1, f2, c1, c2, s, h, q, m⟩ := e
        go_enter Tryd.func9, Tryd.ntmps9
        go_wp2_with (first | (go_at_call 7; (with_reducible refine (HM.out _).mono ?_); rintro e w1 ⟨rfl, x1, rfl⟩) | (go_at_call 20; (with_reducible refine (HF.out _ _).mono ?_); rintro e w1 ⟨rfl, rfl⟩))
        go_ret2
        exact ⟨rfl, (by repeat (first | exact World.grows.refl | apply World.grows.plus | apply World.grows.alloc | apply World.grows.drew))⟩
      | some kf =>
        rw [hf] at hfd
        have hkf := fieldOf_some hf
        simp only [Option.map_some] at hfd ⊢
        have HF := Lib.hid hfd; clear hfd hf
        rcases hkf with rfl | rfl | rfl | rfl
        all_goals
          simp only [En.get10, En.get11, En.get9, En.get12]
          obtain ⟨p, w1, w2, h1, h2, f1, f2, c1, c2, s, h, q, m⟩ := e
          go_enter Tryd.func9, Tryd.ntmps9
          go_wp2_with (first | (go_at_call 7; (with_reducible refine (HM.out _).mono ?_); rintro e w1 ⟨rfl, x1, rfl⟩) | (go_at_call 20; (with_reducible refine (HF.out _ _).mono ?_); rintro e w1 ⟨rfl, rfl⟩))
          go_ret2
          exact ⟨rfl, (by repeat (first | exact World.grows.refl | apply World.grows.plus | apply World.grows.alloc | apply World.grows.drew))⟩

end Go.Proofs.YtkmpnkgelaaebaaDoor
