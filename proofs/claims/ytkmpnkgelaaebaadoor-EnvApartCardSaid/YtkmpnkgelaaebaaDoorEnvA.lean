/- WALKS over jalousielaw16: the environment that every program must know. No condition. -/
import Derived.Test.YtkmpnkgelaaebaaDoorEnvWd
import Derived.Test.YtkmpnkgelaaebaaDoorEnvTV
set_option linter.unusedSimpArgs false
set_option linter.unusedVariables false
namespace Go
open Go.Proofs.YtkmpnkgelaaebaaDoor
/-- the first environment -/
def En.first : En := ⟨false, 800, 1, 600, 1, 16, 1, 8, 1, ⟨#[108, 105, 103, 104, 116]⟩, ⟨#[104, 111, 118, 101, 114]⟩, ⟨#[102, 105, 110, 101]⟩, ⟨#[110, 111, 45, 112, 114, 101, 102, 101, 114, 101, 110, 99, 101]⟩⟩
def En.tall : En := ⟨false, 300, 1, 400, 1, 16, 1, 8, 1, ⟨#[108, 105, 103, 104, 116]⟩, ⟨#[104, 111, 118, 101, 114]⟩, ⟨#[102, 105, 110, 101]⟩, ⟨#[110, 111, 45, 112, 114, 101, 102, 101, 114, 101, 110, 99, 101]⟩⟩
theorem first_chg : chgE En.first (if (sizeB 300 1) && (sizeB 400 1) then some { En.first with w1 := 300, w2 := 1, h1 := 400, h2 := 1 } else none) = En.tall := by
  have h : En.first.may = true := by decide +kernel
  have h1 : (sizeB 300 1 && sizeB 400 1) = true := by decide +kernel
  rw [if_pos h1]; unfold chgE; rw [if_pos h]; rfl
theorem first_chw : chgW En.first 8 (if (sizeB 300 1) && (sizeB 400 1) then some { En.first with w1 := 300, w2 := 1, h1 := 400, h2 := 1 } else none) = 0 := by
  have h : En.first.may = true := by decide +kernel
  have h1 : (sizeB 300 1 && sizeB 400 1) = true := by decide +kernel
  rw [if_pos h1]; unfold chgW; rw [if_pos h]
theorem tall_word : En.tall.word ⟨#[111, 114, 105, 101, 110, 116, 97, 116, 105, 111, 110]⟩ = (nPortrait, true) := by
  have h : En.tall.may = true := by decide +kernel
  have h1 : 0 ≤ En.tall.cmpHW := by decide +kernel
  unfold En.word; rw [if_pos h, if_pos (by decide +kernel), if_pos h1]
theorem En.first_wf : En.first.Wf := by unfold En.Wf En.first I64; decide
theorem En.tall_wf : En.tall.Wf := by unfold En.Wf En.tall I64; decide
end Go
namespace Go.Proofs.YtkmpnkgelaaebaaDoor
open Go.RowKit

set_option maxRecDepth 100000 in
set_option maxHeartbeats 2000000 in
theorem awake_any (w : World) : Calls Tryd.prog 6 #[] w (Gives w (.bool true)) := by
  have hv := fun w => view_any En.first 300 1 400 1 w En.first_wf ⟨by decide, by decide⟩ ⟨by decide, by decide⟩ ⟨by decide, by decide⟩ ⟨by decide, by decide⟩
  simp only [chgV, first_chg, first_chw] at hv
  have hw := fun w => word_any En.tall ⟨#[111, 114, 105, 101, 110, 116, 97, 116, 105, 111, 110]⟩ w En.tall_wf
  simp only [tall_word, nPortrait] at hw
  simp only [En.first, En.tall] at hv hw
  have HV := Lib.hid hv; have HW := Lib.hid hw; clear hv hw
  go_enter Tryd.func6, Tryd.ntmps6
  go_wp2_with (first | (go_at_call 15; (with_reducible refine (envNew_any _).mono ?_); rintro e w1 ⟨rfl, x1, rfl⟩) | (go_at_call 10; (with_reducible refine (HV.out _).mono ?_); rintro e w1 ⟨rfl, x1, rfl⟩) | (go_at_call 9; (with_reducible refine (HW.out _).mono ?_); rintro e w1 ⟨rfl, x1, rfl⟩))
  go_ret
  exact ⟨rfl, (by repeat (first | exact World.grows.refl | apply World.grows.plus | apply World.grows.alloc | apply World.grows.drew))⟩

end Go.Proofs.YtkmpnkgelaaebaaDoor
