/- Texts of the walk, one after the other; what each proves stands ahead of it. -/
import Derived.Test.YthcaphoejplecaaGreatDoorVaX
set_option linter.unusedSimpArgs false
set_option linter.unusedVariables false
/- WALKS over jalousieref3, jalousieref2: the tests of characters. No condition but the class of characters. -/
namespace Go
def digC (x : Int) : Bool := decide (48 ≤ x) && decide (x ≤ 57)
def firC (x : Int) : Bool := (decide (97 ≤ x) && decide (x ≤ 122)) || (decide (65 ≤ x) && decide (x ≤ 90)) || decide (x = 95) || decide (128 ≤ x)
def letC (x : Int) : Bool := firC x || digC x || decide (x = 45)
def blaC (x : Int) : Bool := decide (x = 10) || decide (x = 9) || decide (x = 32)
/-- the characters that are met, and the end -/
def OkC (x : Int) : Prop := x = 32 ∨ x = 40 ∨ x = 41 ∨ x = 44 ∨ x = 45 ∨ (48 ≤ x ∧ x ≤ 57) ∨ (97 ≤ x ∧ x ≤ 122)
def EndC (x : Int) : Prop := x = -1 ∨ OkC x
theorem EndC.ne {x : Int} (h : EndC x) : x ≠ 92 ∧ x ≠ 46 ∧ x ≠ 43 ∧ x ≠ 10 ∧ x ≠ 9 ∧ x ≠ 34 ∧ x ≠ 39 ∧ x ≠ 35 ∧ x ≠ 60 ∧ x ≠ 64 ∧ x ≠ 47 := by
  unfold EndC OkC at h
  omega
end Go
namespace Go.Proofs.YthcaphoejplecaaGreatDoor
open Go.RowKit
set_option maxRecDepth 100000 in
theorem xdigit_any (x : Int) (h0 : -1 ≤ x) (h1 : x < 128) (w : World) : Calls Tryz.prog 109 #[.int .i32 x] w (Gives w (.bool (digC x))) := by
  have hc : (-1 ≤ x ∧ x ≤ 47) ∨ (48 ≤ x ∧ x ≤ 57) ∨ (58 ≤ x ∧ x ≤ 127) := by omega
  rcases hc with ⟨h2, h3⟩ | ⟨h2, h3⟩ | ⟨h2, h3⟩
  · have e0 : ¬ (48 : Int) ≤ x := by omega
    have e1 : x ≤ (57 : Int) := by omega
    have d0 : decide ((48 : Int) ≤ x) = false := by simp <;> omega
    have d1 : decide (x ≤ (57 : Int)) = true := by simp <;> omega
    have hr : ∃ b, digC x = b := ⟨_, rfl⟩
    obtain ⟨b, hb⟩ := hr
    have hb2 := hb
    unfold digC at hb2
    simp only [d0, d1, Bool.and_true, Bool.and_false, Bool.or_false, Bool.or_true, Bool.true_and, Bool.false_and, Bool.false_or, Bool.true_or] at hb2
    subst hb2
    rw [hb]
    clear hb
    go_enter Tryz.func109, Tryz.ntmps109
    go_wp2_with fail
    go_ret
    exact ⟨rfl, (by repeat (with_reducible first | assumption | exact grA | apply grB | apply grC | apply grD | refine grE ?_ (by omega) _ | refine grF ?_ (by omega) _ _))⟩
  · have e0 : (48 : Int) ≤ x := by omega
    have e1 : x ≤ (57 : Int) := by omega
    have d0 : decide ((48 : Int) ≤ x) = true := by simp <;> omega
    have d1 : decide (x ≤ (57 : Int)) = true := by simp <;> omega
    have hr : ∃ b, digC x = b := ⟨_, rfl⟩
    obtain ⟨b, hb⟩ := hr
    have hb2 := hb
    unfold digC at hb2
    simp only [d0, d1, Bool.and_true, Bool.and_false, Bool.or_false, Bool.or_true, Bool.true_and, Bool.false_and, Bool.false_or, Bool.true_or] at hb2
    subst hb2
    rw [hb]
    clear hb
    go_enter Tryz.func109, Tryz.ntmps109
    go_wp2_with fail
    go_ret
    exact ⟨rfl, (by repeat (with_reducible first | assumption | exact grA | apply grB | apply grC | apply grD | refine grE ?_ (by omega) _ | refine grF ?_ (by omega) _ _))⟩
  · have e0 : (48 : Int) ≤ x := by omega
    have e1 : ¬ x ≤ (57 : Int) := by omega
    have d0 : decide ((48 : Int) ≤ x) = true := by simp <;> omega
    have d1 : decide (x ≤ (57 : Int)) = false := by simp <;> omega
    have hr : ∃ b, digC x = b := ⟨_, rfl⟩
    obtain ⟨b, hb⟩ := hr
    have hb2 := hb
    unfold digC at hb2
    simp only [d0, d1, Bool.and_true, Bool.and_false, Bool.or_false, Bool.or_true, Bool.true_and, Bool.false_and, Bool.false_or, Bool.true_or] at hb2
    subst hb2
    rw [hb]
    clear hb
    go_enter Tryz.func109, Tryz.ntmps109
    go_wp2_with fail
    go_ret
    exact ⟨rfl, (by repeat (with_reducible first | assumption | exact grA | apply grB | apply grC | apply grD | refine grE ?_ (by omega) _ | refine grF ?_ (by omega) _ _))⟩
set_option maxRecDepth 100000 in
theorem xfirst_any (x : Int) (h0 : -1 ≤ x) (h1 : x < 128) (w : World) : Calls Tryz.prog 108 #[.int .i32 x] w (Gives w (.bool (firC x))) := by
  have hc : (-1 ≤ x ∧ x ≤ 64) ∨ (65 ≤ x ∧ x ≤ 90) ∨ (91 ≤ x ∧ x ≤ 94) ∨ (95 ≤ x ∧ x ≤ 95) ∨ (96 ≤ x ∧ x ≤ 96) ∨ (97 ≤ x ∧ x ≤ 122) ∨ (123 ≤ x ∧ x ≤ 127) := by omega
  rcases hc with ⟨h2, h3⟩ | ⟨h2, h3⟩ | ⟨h2, h3⟩ | ⟨h2, h3⟩ | ⟨h2, h3⟩ | ⟨h2, h3⟩ | ⟨h2, h3⟩
  · have e0 : ¬ (97 : Int) ≤ x := by omega
    have e1 : x ≤ (122 : Int) := by omega
    have e2 : ¬ (65 : Int) ≤ x := by omega
    have e3 : x ≤ (90 : Int) := by omega
    have e4 : ¬ x = (95 : Int) := by omega
    have e5 : ¬ (128 : Int) ≤ x := by omega
    have d0 : decide ((97 : Int) ≤ x) = false := by simp <;> omega
    have d1 : decide (x ≤ (122 : Int)) = true := by simp <;> omega
    have d2 : decide ((65 : Int) ≤ x) = false := by simp <;> omega
    have d3 : decide (x ≤ (90 : Int)) = true := by simp <;> omega
    have d4 : decide (x = (95 : Int)) = false := by simp <;> omega
    have b4 : (x == (95 : Int)) = false := by simp <;> omega
    have d5 : decide ((128 : Int) ≤ x) = false := by simp <;> omega
    have hr : ∃ b, firC x = b := ⟨_, rfl⟩
    obtain ⟨b, hb⟩ := hr
    have hb2 := hb
    unfold firC at hb2
    simp only [d0, d1, d2, d3, d4, d5, Bool.and_true, Bool.and_false, Bool.or_false, Bool.or_true, Bool.true_and, Bool.false_and, Bool.false_or, Bool.true_or] at hb2
    subst hb2
    rw [hb]
    clear hb
    go_enter Tryz.func108, Tryz.ntmps108
    go_wp2_with fail
    go_ret
    exact ⟨rfl, (by repeat (with_reducible first | assumption | exact grA | apply grB | apply grC | apply grD | refine grE ?_ (by omega) _ | refine grF ?_ (by omega) _ _))⟩
  · have e0 : ¬ (97 : Int) ≤ x := by omega
    have e1 : x ≤ (122 : Int) := by omega
    have e2 : (65 : Int) ≤ x := by omega
    have e3 : x ≤ (90 : Int) := by omega
    have e4 : ¬ x = (95 : Int) := by omega
    have e5 : ¬ (128 : Int) ≤ x := by omega
    have d0 : decide ((97 : Int) ≤ x) = false := by simp <;> omega
    have d1 : decide (x ≤ (122 : Int)) = true := by simp <;> omega
    have d2 : decide ((65 : Int) ≤ x) = true := by simp <;> omega
    have d3 : decide (x ≤ (90 : Int)) = true := by simp <;> omega
    have d4 : decide (x = (95 : Int)) = false := by simp <;> omega
    have b4 : (x == (95 : Int)) = false := by simp <;> omega
    have d5 : decide ((128 : Int) ≤ x) = false := by simp <;> omega
    have hr : ∃ b, firC x = b := ⟨_, rfl⟩
    obtain ⟨b, hb⟩ := hr
    have hb2 := hb
    unfold firC at hb2
    simp only [d0, d1, d2, d3, d4, d5, Bool.and_true, Bool.and_false, Bool.or_false, Bool.or_true, Bool.true_and, Bool.false_and, Bool.false_or, Bool.true_or] at hb2
    subst hb2
    rw [hb]
    clear hb
    go_enter Tryz.func108, Tryz.ntmps108
    go_wp2_with fail
    go_ret
    exact ⟨rfl, (by repeat (with_reducible first | assumption | exact grA | apply grB | apply grC | apply grD | refine grE ?_ (by omega) _ | refine grF ?_ (by omega) _ _))⟩
  · have e0 : ¬ (97 : Int) ≤ x := by omega
    have e1 : x ≤ (122 : Int) := by omega
    have e2 : (65 : Int) ≤ x := by omega
    have e3 : ¬ x ≤ (90 : Int) := by omega
    have e4 : ¬ x = (95 : Int) := by omega
    have e5 : ¬ (128 : Int) ≤ x := by omega
    have d0 : decide ((97 : Int) ≤ x) = false := by simp <;> omega
    have d1 : decide (x ≤ (122 : Int)) = true := by simp <;> omega
    have d2 : decide ((65 : Int) ≤ x) = true := by simp <;> omega
    have d3 : decide (x ≤ (90 : Int)) = false := by simp <;> omega
    have d4 : decide (x = (95 : Int)) = false := by simp <;> omega
    have b4 : (x == (95 : Int)) = false := by simp <;> omega
    have d5 : decide ((128 : Int) ≤ x) = false := by simp <;> omega
    have hr : ∃ b, firC x = b := ⟨_, rfl⟩
    obtain ⟨b, hb⟩ := hr
    have hb2 := hb
    unfold firC at hb2
    simp only [d0, d1, d2, d3, d4, d5, Bool.and_true, Bool.and_false, Bool.or_false, Bool.or_true, Bool.true_and, Bool.false_and, Bool.false_or, Bool.true_or] at hb2
    subst hb2
    rw [hb]
    clear hb
    go_enter Tryz.func108, Tryz.ntmps108
    go_wp2_with fail
    go_ret
    exact ⟨rfl, (by repeat (with_reducible first | assumption | exact grA | apply grB | apply grC | apply grD | refine grE ?_ (by omega) _ | refine grF ?_ (by omega) _ _))⟩
  · obtain rfl : x = 95 := by omega
    go_enter Tryz.func108, Tryz.ntmps108
    go_wp2_with fail
    go_ret
    exact ⟨rfl, (by repeat (with_reducible first | assumption | exact grA | apply grB | apply grC | apply grD | refine grE ?_ (by omega) _ | refine grF ?_ (by omega) _ _))⟩
  · obtain rfl : x = 96 := by omega
    go_enter Tryz.func108, Tryz.ntmps108
    go_wp2_with fail
    go_ret
    exact ⟨rfl, (by repeat (with_reducible first | assumption | exact grA | apply grB | apply grC | apply grD | refine grE ?_ (by omega) _ | refine grF ?_ (by omega) _ _))⟩
  · have e0 : (97 : Int) ≤ x := by omega
    have e1 : x ≤ (122 : Int) := by omega
    have e2 : (65 : Int) ≤ x := by omega
    have e3 : ¬ x ≤ (90 : Int) := by omega
    have e4 : ¬ x = (95 : Int) := by omega
    have e5 : ¬ (128 : Int) ≤ x := by omega
    have d0 : decide ((97 : Int) ≤ x) = true := by simp <;> omega
    have d1 : decide (x ≤ (122 : Int)) = true := by simp <;> omega
    have d2 : decide ((65 : Int) ≤ x) = true := by simp <;> omega
    have d3 : decide (x ≤ (90 : Int)) = false := by simp <;> omega
    have d4 : decide (x = (95 : Int)) = false := by simp <;> omega
    have b4 : (x == (95 : Int)) = false := by simp <;> omega
    have d5 : decide ((128 : Int) ≤ x) = false := by simp <;> omega
    have hr : ∃ b, firC x = b := ⟨_, rfl⟩
    obtain ⟨b, hb⟩ := hr
    have hb2 := hb
    unfold firC at hb2
    simp only [d0, d1, d2, d3, d4, d5, Bool.and_true, Bool.and_false, Bool.or_false, Bool.or_true, Bool.true_and, Bool.false_and, Bool.false_or, Bool.true_or] at hb2
    subst hb2
    rw [hb]
    clear hb
    go_enter Tryz.func108, Tryz.ntmps108
    go_wp2_with fail
    go_ret
    exact ⟨rfl, (by repeat (with_reducible first | assumption | exact grA | apply grB | apply grC | apply grD | refine grE ?_ (by omega) _ | refine grF ?_ (by omega) _ _))⟩
  · have e0 : (97 : Int) ≤ x := by omega
    have e1 : ¬ x ≤ (122 : Int) := by omega
    have e2 : (65 : Int) ≤ x := by omega
    have e3 : ¬ x ≤ (90 : Int) := by omega
    have e4 : ¬ x = (95 : Int) := by omega
    have e5 : ¬ (128 : Int) ≤ x := by omega
    have d0 : decide ((97 : Int) ≤ x) = true := by simp <;> omega
    have d1 : decide (x ≤ (122 : Int)) = false := by simp <;> omega
    have d2 : decide ((65 : Int) ≤ x) = true := by simp <;> omega
    have d3 : decide (x ≤ (90 : Int)) = false := by simp <;> omega
    have d4 : decide (x = (95 : Int)) = false := by simp <;> omega
    have b4 : (x == (95 : Int)) = false := by simp <;> omega
    have d5 : decide ((128 : Int) ≤ x) = false := by simp <;> omega
    have hr : ∃ b, firC x = b := ⟨_, rfl⟩
    obtain ⟨b, hb⟩ := hr
    have hb2 := hb
    unfold firC at hb2
    simp only [d0, d1, d2, d3, d4, d5, Bool.and_true, Bool.and_false, Bool.or_false, Bool.or_true, Bool.true_and, Bool.false_and, Bool.false_or, Bool.true_or] at hb2
    subst hb2
    rw [hb]
    clear hb
    go_enter Tryz.func108, Tryz.ntmps108
    go_wp2_with fail
    go_ret
    exact ⟨rfl, (by repeat (with_reducible first | assumption | exact grA | apply grB | apply grC | apply grD | refine grE ?_ (by omega) _ | refine grF ?_ (by omega) _ _))⟩
set_option maxRecDepth 100000 in
theorem xblank_any (x : Int) (h0 : -1 ≤ x) (h1 : x < 128) (w : World) : Calls Tryz.prog 84 #[.int .i32 x] w (Gives w (.bool (blaC x))) := by
  have hc : (-1 ≤ x ∧ x ≤ 8) ∨ (9 ≤ x ∧ x ≤ 9) ∨ (10 ≤ x ∧ x ≤ 10) ∨ (11 ≤ x ∧ x ≤ 31) ∨ (32 ≤ x ∧ x ≤ 32) ∨ (33 ≤ x ∧ x ≤ 127) := by omega
  rcases hc with ⟨h2, h3⟩ | ⟨h2, h3⟩ | ⟨h2, h3⟩ | ⟨h2, h3⟩ | ⟨h2, h3⟩ | ⟨h2, h3⟩
  · have e0 : ¬ x = (10 : Int) := by omega
    have e1 : ¬ x = (9 : Int) := by omega
    have e2 : ¬ x = (32 : Int) := by omega
    have d0 : decide (x = (10 : Int)) = false := by simp <;> omega
    have b0 : (x == (10 : Int)) = false := by simp <;> omega
    have d1 : decide (x = (9 : Int)) = false := by simp <;> omega
    have b1 : (x == (9 : Int)) = false := by simp <;> omega
    have d2 : decide (x = (32 : Int)) = false := by simp <;> omega
    have b2 : (x == (32 : Int)) = false := by simp <;> omega
    have hr : ∃ b, blaC x = b := ⟨_, rfl⟩
    obtain ⟨b, hb⟩ := hr
    have hb2 := hb
    unfold blaC at hb2
    simp only [d0, d1, d2, Bool.and_true, Bool.and_false, Bool.or_false, Bool.or_true, Bool.true_and, Bool.false_and, Bool.false_or, Bool.true_or] at hb2
    subst hb2
    rw [hb]
    clear hb
    go_enter Tryz.func84, Tryz.ntmps84
    go_wp2_with fail
    go_ret
    exact ⟨rfl, (by repeat (with_reducible first | assumption | exact grA | apply grB | apply grC | apply grD | refine grE ?_ (by omega) _ | refine grF ?_ (by omega) _ _))⟩
  · obtain rfl : x = 9 := by omega
    go_enter Tryz.func84, Tryz.ntmps84
    go_wp2_with fail
    go_ret
    exact ⟨rfl, (by repeat (with_reducible first | assumption | exact grA | apply grB | apply grC | apply grD | refine grE ?_ (by omega) _ | refine grF ?_ (by omega) _ _))⟩
  · obtain rfl : x = 10 := by omega
    go_enter Tryz.func84, Tryz.ntmps84
    go_wp2_with fail
    go_ret
    exact ⟨rfl, (by repeat (with_reducible first | assumption | exact grA | apply grB | apply grC | apply grD | refine grE ?_ (by omega) _ | refine grF ?_ (by omega) _ _))⟩
  · have e0 : ¬ x = (10 : Int) := by omega
    have e1 : ¬ x = (9 : Int) := by omega
    have e2 : ¬ x = (32 : Int) := by omega
    have d0 : decide (x = (10 : Int)) = false := by simp <;> omega
    have b0 : (x == (10 : Int)) = false := by simp <;> omega
    have d1 : decide (x = (9 : Int)) = false := by simp <;> omega
    have b1 : (x == (9 : Int)) = false := by simp <;> omega
    have d2 : decide (x = (32 : Int)) = false := by simp <;> omega
    have b2 : (x == (32 : Int)) = false := by simp <;> omega
    have hr : ∃ b, blaC x = b := ⟨_, rfl⟩
    obtain ⟨b, hb⟩ := hr
    have hb2 := hb
    unfold blaC at hb2
    simp only [d0, d1, d2, Bool.and_true, Bool.and_false, Bool.or_false, Bool.or_true, Bool.true_and, Bool.false_and, Bool.false_or, Bool.true_or] at hb2
    subst hb2
    rw [hb]
    clear hb
    go_enter Tryz.func84, Tryz.ntmps84
    go_wp2_with fail
    go_ret
    exact ⟨rfl, (by repeat (with_reducible first | assumption | exact grA | apply grB | apply grC | apply grD | refine grE ?_ (by omega) _ | refine grF ?_ (by omega) _ _))⟩
  · obtain rfl : x = 32 := by omega
    go_enter Tryz.func84, Tryz.ntmps84
    go_wp2_with fail
    go_ret
    exact ⟨rfl, (by repeat (with_reducible first | assumption | exact grA | apply grB | apply grC | apply grD | refine grE ?_ (by omega) _ | refine grF ?_ (by omega) _ _))⟩
  · have e0 : ¬ x = (10 : Int) := by omega
    have e1 : ¬ x = (9 : Int) := by omega
    have e2 : ¬ x = (32 : Int) := by omega
    have d0 : decide (x = (10 : Int)) = false := by simp <;> omega
    have b0 : (x == (10 : Int)) = false := by simp <;> omega
    have d1 : decide (x = (9 : Int)) = false := by simp <;> omega
    have b1 : (x == (9 : Int)) = false := by simp <;> omega
    have d2 : decide (x = (32 : Int)) = false := by simp <;> omega
    have b2 : (x == (32 : Int)) = false := by simp <;> omega
    have hr : ∃ b, blaC x = b := ⟨_, rfl⟩
    obtain ⟨b, hb⟩ := hr
    have hb2 := hb
    unfold blaC at hb2
    simp only [d0, d1, d2, Bool.and_true, Bool.and_false, Bool.or_false, Bool.or_true, Bool.true_and, Bool.false_and, Bool.false_or, Bool.true_or] at hb2
    subst hb2
    rw [hb]
    clear hb
    go_enter Tryz.func84, Tryz.ntmps84
    go_wp2_with fail
    go_ret
    exact ⟨rfl, (by repeat (with_reducible first | assumption | exact grA | apply grB | apply grC | apply grD | refine grE ?_ (by omega) _ | refine grF ?_ (by omega) _ _))⟩
set_option maxRecDepth 100000 in
theorem xis_any (x : Int) (h0 : 0 ≤ x) (h1 : x < 128) (w : World) : Calls Tryz.prog 83 #[.int .i32 x] w (Gives w (.bool true)) := by
  have e1 : x ≤ 1114111 := by omega
  have e2 : x < 55296 := by omega
  have d0 : decide (0 ≤ x) = true := by simpa using h0
  have d1 : decide (x ≤ 1114111) = true := by simpa using e1
  have d2 : decide (x < 55296) = true := by simpa using e2
  go_enter Tryz.func83, Tryz.ntmps83
  go_wp2_with fail
  go_ret
  exact ⟨rfl, (by repeat (with_reducible first | assumption | exact grA | apply grB | apply grC | apply grD | refine grE ?_ (by omega) _ | refine grF ?_ (by omega) _ _))⟩
set_option maxRecDepth 100000 in
theorem xletter_any (x : Int) (h0 : -1 ≤ x) (h1 : x < 128) (w : World) : Calls Tryz.prog 87 #[.int .i32 x] w (Gives w (.bool (letC x))) := by
  have HF := Lib.hid (fun W => xfirst_any x h0 h1 W)
  have HD := Lib.hid (fun W => xdigit_any x h0 h1 W)
  unfold letC
  generalize firC x = f at *
  generalize digC x = d at *
  cases f with
  | true =>
    go_enter Tryz.func87, Tryz.ntmps87
    go_wp2_with ((go_at_call 108; (with_reducible refine (HF.out _).mono ?_); rintro e w1 ⟨rfl, x1, rfl⟩))
    go_ret
    exact ⟨rfl, (by repeat (with_reducible first | assumption | exact grA | apply grB | apply grC | apply grD | refine grE ?_ (by omega) _ | refine grF ?_ (by omega) _ _))⟩
  | false =>
    cases d with
    | true =>
      go_enter Tryz.func87, Tryz.ntmps87
      go_wp2_with (first | (go_at_call 108; (with_reducible refine (HF.out _).mono ?_); rintro e w1 ⟨rfl, x1, rfl⟩) | (go_at_call 109; (with_reducible refine (HD.out _).mono ?_); rintro e w1 ⟨rfl, x1, rfl⟩))
      go_ret
      exact ⟨rfl, (by repeat (with_reducible first | assumption | exact grA | apply grB | apply grC | apply grD | refine grE ?_ (by omega) _ | refine grF ?_ (by omega) _ _))⟩
    | false =>
      by_cases h : x = 45
      · subst h
        go_enter Tryz.func87, Tryz.ntmps87
        go_wp2_with (first | (go_at_call 108; (with_reducible refine (HF.out _).mono ?_); rintro e w1 ⟨rfl, x1, rfl⟩) | (go_at_call 109; (with_reducible refine (HD.out _).mono ?_); rintro e w1 ⟨rfl, x1, rfl⟩))
        go_ret
        exact ⟨rfl, (by repeat (with_reducible first | assumption | exact grA | apply grB | apply grC | apply grD | refine grE ?_ (by omega) _ | refine grF ?_ (by omega) _ _))⟩
      · have b1 : (x == 45) = false := by simpa using h
        have d1 : decide (x = 45) = false := by simpa using h
        rw [d1]
        go_enter Tryz.func87, Tryz.ntmps87
        go_wp2_with (first | (go_at_call 108; (with_reducible refine (HF.out _).mono ?_); rintro e w1 ⟨rfl, x1, rfl⟩) | (go_at_call 109; (with_reducible refine (HD.out _).mono ?_); rintro e w1 ⟨rfl, x1, rfl⟩))
        go_ret
        exact ⟨rfl, (by repeat (with_reducible first | assumption | exact grA | apply grB | apply grC | apply grD | refine grE ?_ (by omega) _ | refine grF ?_ (by omega) _ _))⟩
set_option maxRecDepth 100000 in
theorem xescape_any (x y : Int) (h : x ≠ 92) (w : World) : Calls Tryz.prog 88 #[.int .i32 x, .int .i32 y] w (Gives w (.bool false)) := by
  have b1 : (x == 92) = false := by simpa using h
  have d1 : decide (x = 92) = false := by simpa using h
  go_enter Tryz.func88, Tryz.ntmps88
  go_wp2_with fail
  go_ret
  exact ⟨rfl, (by repeat (with_reducible first | assumption | exact grA | apply grB | apply grC | apply grD | refine grE ?_ (by omega) _ | refine grF ?_ (by omega) _ _))⟩
/-- may a name begin -/
def Beg (a b : Int) : Bool := if a = 45 then firC b || decide (b = 45) else firC a
set_option maxRecDepth 100000 in
theorem xbegins_any (a b c : Int) (ha : EndC a) (hb : EndC b) (w : World) : Calls Tryz.prog 89 #[.int .i32 a, .int .i32 b, .int .i32 c] w (Gives w (.bool (Beg a b))) := by
  have na := ha.ne
  have nb := hb.ne
  have ra : -1 ≤ a ∧ a < 128 := by unfold EndC OkC at ha; omega
  have rb : -1 ≤ b ∧ b < 128 := by unfold EndC OkC at hb; omega
  have HA := Lib.hid (fun W => xfirst_any a ra.1 ra.2 W)
  have HB := Lib.hid (fun W => xfirst_any b rb.1 rb.2 W)
  have HE := Lib.hid (fun W => xescape_any a b na.1 W)
  have HE2 := Lib.hid (fun W => xescape_any b c nb.1 W)
  clear ha hb na nb ra rb
  unfold Beg
  by_cases h : a = 45
  · subst h
    rw [if_pos rfl]
    generalize firC b = f at *
    cases f with
    | true =>
      go_enter Tryz.func89, Tryz.ntmps89
      go_wp2_with ((go_at_call 108; (with_reducible refine (HB.out _).mono ?_); rintro e w1 ⟨rfl, x1, rfl⟩))
      go_ret
      exact ⟨rfl, (by repeat (with_reducible first | assumption | exact grA | apply grB | apply grC | apply grD | refine grE ?_ (by omega) _ | refine grF ?_ (by omega) _ _))⟩
    | false =>
      by_cases h2 : b = 45
      · subst h2
        go_enter Tryz.func89, Tryz.ntmps89
        go_wp2_with ((go_at_call 108; (with_reducible refine (HB.out _).mono ?_); rintro e w1 ⟨rfl, x1, rfl⟩))
        go_ret
        exact ⟨rfl, (by repeat (with_reducible first | assumption | exact grA | apply grB | apply grC | apply grD | refine grE ?_ (by omega) _ | refine grF ?_ (by omega) _ _))⟩
      · have b1 : (b == 45) = false := by simpa using h2
        have d1 : decide (b = 45) = false := by simpa using h2
        rw [d1]
        go_enter Tryz.func89, Tryz.ntmps89
        go_wp2_with (first | (go_at_call 108; (with_reducible refine (HB.out _).mono ?_); rintro e w1 ⟨rfl, x1, rfl⟩) | (go_at_call 88; (with_reducible refine (HE2.out _).mono ?_); rintro e w1 ⟨rfl, x1, rfl⟩))
        go_ret
        exact ⟨rfl, (by repeat (with_reducible first | assumption | exact grA | apply grB | apply grC | apply grD | refine grE ?_ (by omega) _ | refine grF ?_ (by omega) _ _))⟩
  · rw [if_neg h]
    have b1 : (a == 45) = false := by simpa using h
    generalize firC a = f at *
    cases f with
    | true =>
      go_enter Tryz.func89, Tryz.ntmps89
      go_wp2_with ((go_at_call 108; (with_reducible refine (HA.out _).mono ?_); rintro e w1 ⟨rfl, x1, rfl⟩))
      go_ret
      exact ⟨rfl, (by repeat (with_reducible first | assumption | exact grA | apply grB | apply grC | apply grD | refine grE ?_ (by omega) _ | refine grF ?_ (by omega) _ _))⟩
    | false =>
      go_enter Tryz.func89, Tryz.ntmps89
      go_wp2_with (first | (go_at_call 108; (with_reducible refine (HA.out _).mono ?_); rintro e w1 ⟨rfl, x1, rfl⟩) | (go_at_call 88; (with_reducible refine (HE.out _).mono ?_); rintro e w1 ⟨rfl, x1, rfl⟩))
      go_ret
      exact ⟨rfl, (by repeat (with_reducible first | assumption | exact grA | apply grB | apply grC | apply grD | refine grE ?_ (by omega) _ | refine grF ?_ (by omega) _ _))⟩
set_option maxRecDepth 100000 in
theorem xnumber_any (a b c : Int) (ha : EndC a) (hb : EndC b) (w : World) : Calls Tryz.prog 91 #[.int .i32 a, .int .i32 b, .int .i32 c] w (Gives w (.bool (if a = 45 then digC b else digC a))) := by
  have na := ha.ne
  have nb := hb.ne
  have ra : -1 ≤ a ∧ a < 128 := by unfold EndC OkC at ha; omega
  have rb : -1 ≤ b ∧ b < 128 := by unfold EndC OkC at hb; omega
  have HA := Lib.hid (fun W => xdigit_any a ra.1 ra.2 W)
  have HB := Lib.hid (fun W => xdigit_any b rb.1 rb.2 W)
  have a43 : (a == 43) = false := by simpa using na.2.2.1
  have a46 : (a == 46) = false := by simpa using na.2.1
  have b46 : (b == 46) = false := by simpa using nb.2.1
  clear ha hb na nb ra rb
  by_cases h : a = 45
  · subst h
    rw [if_pos rfl]
    generalize digC b = f at *
    cases f with
    | true =>
      go_enter Tryz.func91, Tryz.ntmps91
      go_wp2_with ((go_at_call 109; (with_reducible refine (HB.out _).mono ?_); rintro e w1 ⟨rfl, x1, rfl⟩))
      go_ret
      exact ⟨rfl, (by repeat (with_reducible first | assumption | exact grA | apply grB | apply grC | apply grD | refine grE ?_ (by omega) _ | refine grF ?_ (by omega) _ _))⟩
    | false =>
      go_enter Tryz.func91, Tryz.ntmps91
      go_wp2_with ((go_at_call 109; (with_reducible refine (HB.out _).mono ?_); rintro e w1 ⟨rfl, x1, rfl⟩))
      go_ret
      exact ⟨rfl, (by repeat (with_reducible first | assumption | exact grA | apply grB | apply grC | apply grD | refine grE ?_ (by omega) _ | refine grF ?_ (by omega) _ _))⟩
  · rw [if_neg h]
    have b1 : (a == 45) = false := by simpa using h
    generalize digC a = f at *
    cases f with
    | true =>
      go_enter Tryz.func91, Tryz.ntmps91
      go_wp2_with ((go_at_call 109; (with_reducible refine (HA.out _).mono ?_); rintro e w1 ⟨rfl, x1, rfl⟩))
      go_ret
      exact ⟨rfl, (by repeat (with_reducible first | assumption | exact grA | apply grB | apply grC | apply grD | refine grE ?_ (by omega) _ | refine grF ?_ (by omega) _ _))⟩
    | false =>
      go_enter Tryz.func91, Tryz.ntmps91
      go_wp2_with ((go_at_call 109; (with_reducible refine (HA.out _).mono ?_); rintro e w1 ⟨rfl, x1, rfl⟩))
      go_ret
      exact ⟨rfl, (by repeat (with_reducible first | assumption | exact grA | apply grB | apply grC | apply grD | refine grE ?_ (by omega) _ | refine grF ?_ (by omega) _ _))⟩
end Go.Proofs.YthcaphoejplecaaGreatDoor

/- WALKS over jalousieref2: bytes to characters. No condition but the class of characters. -/
namespace Go
open Go.RowKit
/-- characters' cells -/
def i32c (L : List Int) : List Value := L.map (fun x => Value.int .i32 x)
theorem i32c_len (L : List Int) : (i32c L).length = L.length := by simp [i32c]
/-- a character in its cell -/
def RuR (x : Int) (cs : List Value) : Prop := cs = [.int .i32 x] ∧ OkC x
/-- the bytes as characters -/
def runes (l : List UInt8) : List Int := l.map (fun c => (c.toNat : Int))
/-- all are met -/
def OkL (l : List UInt8) : Prop := ∀ c ∈ l, OkC (c.toNat : Int)
theorem OkC.lo {x : Int} (h : OkC x) : 32 ≤ x ∧ x < 128 := by unfold OkC at h; omega
theorem OkC.fit {x : Int} (h : OkC x) : x ≠ 92 := by unfold OkC at h; omega
end Go
namespace Go.Proofs.YthcaphoejplecaaGreatDoor
open Go.RowKit
/-- characters in a row of the call's own -/
def RuO (w : World) (B : Nat) (v : Value) (L : List Int) : Prop := w.ownsRow B 21 1 v L.length (i32c L)
theorem RuO.slAt {w : World} {B : Nat} {v : Value} {L : List Int} {S : Nat → Prop} (h : RuO w B v L) (hw : ∀ x ∈ L, OkC x) (hS : ∀ g, B ≤ g → g < w.heap.size → S g) : SlAt w S 1 RuR v L := by
  have e : (L.map (fun x => [Value.int .i32 x])).flatten = i32c L := by
    clear h hw
    induction L with
    | nil => rfl
    | cons a l ih => rw [List.map_cons, List.flatten_cons, ih]; rfl
  have ho : OwnAt w B 21 1 RuR v L := ⟨L.map (fun x => [Value.int .i32 x]), by simp, fun i x cs p q => by
    rw [List.getElem?_map, p] at q
    simp only [Option.map_some, Option.some.injEq] at q
    subst q
    exact ⟨rfl, rfl, hw x (List.mem_of_getElem? p)⟩, by rw [e]; exact h⟩
  exact OwnAt.slAt ho (by omega) fun g hg => hS g (h.lt g hg).1 (h.lt g hg).2
set_option maxRecDepth 100000 in
theorem xone_any {w : World} {g c i : Nat} {l : List UInt8} {zs : List Value} {fr : Nat × Nat} {x : UInt8} (hr : w.row g = some (.cells (u8c l ++ zs).toArray 5 fr)) (hl : l.length ≤ 1000) (hx : l[i]? = some x) (hk : x.toNat < 128) :
    Calls Tryz.prog 95 #[.slice (some ⟨g, 0, none⟩) l.length c, .int .i64 i] w (Gives w (.tuple #[.int .i32 x.toNat, .int .i64 1, .bool true])) := by
  have zg := (row_sz' hr).1
  have zg' := lt_sz zg
  have hil := (List.getElem?_eq_some_iff.1 hx).1
  have hcell : cellR i (w.row g) = some (.int .u8 x.toNat) := by
    rw [hr]
    show (u8c l ++ zs).toArray[i]? = _
    simp only [List.getElem?_toArray]
    rw [List.getElem?_append_left (by simp [u8c]; exact hil)]
    simp [u8c, hx]
  have i1 : (0 : Int) ≤ (i : Int) := by omega
  have i2 : (i : Int) < (l.length : Int) := by omega
  have a1 : (x.toNat : Int) < 128 := by omega
  have d1 : decide ((x.toNat : Int) < 128) = true := by simpa using a1
  have iw : IntKind.i32.wrap (x.toNat : Int) = (x.toNat : Int) := by simp [IntKind.wrap, IntKind.bits, IntKind.signed]; omega
  clear hx hr
  go_enter Tryz.func95, Tryz.ntmps95
  go_wp2_with fail
  go_ret3
  exact ⟨rfl, (by repeat (with_reducible first | assumption | exact grA | apply grB | apply grC | apply grD | refine grE ?_ (by omega) _ | refine grF ?_ (by omega) _ _))⟩
set_option maxRecDepth 100000 in
set_option maxHeartbeats 4000000 in
theorem xraw_any {w : World} {g c : Nat} {l : List UInt8} {zs : List Value} {fr : Nat × Nat} (hr : w.row g = some (.cells (u8c l ++ zs).toArray 5 fr)) (hl : l.length ≤ 1000) (hk : OkL l) :
    Calls Tryz.prog 63 #[.slice (some ⟨g, 0, none⟩) l.length c] w (fun e w' => ∃ v, e = .returned v ∧ w.grows w' ∧ RuO w' w.heap.size v (runes l)) := by
  have zg := (row_sz' hr).1
  have HR := Lib.hid hr
  have HK := Lib.hid hk
  clear hr hk
  go_enter Tryz.func63, Tryz.ntmps63
  go_wp2_with fail
  go_loopg [3, 4] l.length (fun gn v3 v4 wj => ∃ (i : Nat) (a1 : Option Addr) (c1 : Nat), Hid (gn + i = l.length ∧ i ≤ l.length) ∧ v4 = .int .i64 i ∧ v3 = .slice a1 i c1 ∧ w.grows wj ∧ Hid (wj.ownsRow w.heap.size 21 1 (.slice a1 i c1) i (i32c (runes (l.take i)))))
  case atStart => exact ⟨0, none, 0, Lib.hid ⟨by simp, Nat.zero_le _⟩, by go_num, rfl, (by repeat (with_reducible first | assumption | exact grA | apply grB | apply grC | apply grD | refine grE ?_ (by omega) _ | refine grF ?_ (by omega) _ _)), Lib.hid (by simpa [runes, i32c] using World.ownsRow_nil _ _ _ _)⟩
  case round =>
    obtain ⟨i, a1, c1, HQ, rfl, rfl, hgj, HO⟩ := hrel
    obtain ⟨j1, j2⟩ := HQ.out
    have hs := hgj.below.size
    by_cases hlt : i < l.length
    · have i2 : (i : Int) < (l.length : Int) := by omega
      obtain ⟨x, hx⟩ : ∃ x, l[i]? = some x := ⟨_, List.getElem?_eq_getElem hlt⟩
      have hok := (HK.out x (List.mem_of_getElem? hx)).lo
      have H1 := Lib.hid (fun (W : World) (hg : w.grows W) => xone_any (c := c) (hg.row_eq zg ▸ HR.out) hl hx (by omega))
      have iw : IntKind.i64.wrap ((i : Int) + 1) = (i : Int) + 1 := by rw [IntKind.wrap_i64]; omega
      have HX := Lib.hid (show runes (l.take (i + 1)) = runes (l.take i) ++ [(x.toNat : Int)] by
        rw [List.take_add_one, hx]; simp [runes])
      clear hx
      go_wp2_with (first | (go_at_call 95; (with_reducible refine (H1.out _ (hgj.trans (by repeat (with_reducible first | assumption | exact grA | apply grB | apply grC | apply grD | refine grE ?_ (by omega) _ | refine grF ?_ (by omega) _ _)))).mono ?_); rintro e w1 ⟨rfl, x1, rfl⟩) | ((at_builtin; refine wpList_app w (w.heap.size) rfl (.tmp 19) (.tmp 21) _ rfl 21 (.int .i32 0) 1 4 Tryz.underlying77 (by kernel_rfl) rfl (by omega) (by omega) _ i _ rfl ((HO.out.grows (by repeat (with_reducible first | assumption | exact grA | apply grB | apply grC | apply grD | refine grE ?_ (by omega) _ | refine grF ?_ (by omega) _ _)))) _ 1 _ [.int .i32 x.toNat] rfl rfl (cells_of_row (e := 21) (fr := (0, 0)) (by simp [go_sem])) (by simp [Value.oneCell']) (by omega) (by repeat (with_reducible first | assumption | exact grA | apply grB | apply grC | apply grD | refine grE ?_ (by omega) _ | refine grF ?_ (by omega) _ _)) (by omega) (by first | omega | (simp <;> omega)) ?_; intro v' w' hg' HO' HR' HG' HA'); (obtain ⟨a9, c9, rfl⟩ := own_slice HO'.out)))
      go_roundg (l.length - (i + 1))
      case measure => omega
      case rel => exact ⟨i + 1, a9, c9, Lib.hid ⟨by omega, by omega⟩, by go_num, rfl, hg', Lib.hid (by
        rw [HX.out]
        have := HO'.out
        simpa [i32c] using this)⟩
    · have i2 : ¬ (i : Int) < (l.length : Int) := by omega
      obtain rfl : i = l.length := by omega
      go_wp2_with fail
      go_ret
      refine ⟨_, rfl, hgj.trans (by repeat (with_reducible first | assumption | exact grA | apply grB | apply grC | apply grD | refine grE ?_ (by omega) _ | refine grF ?_ (by omega) _ _)), ?_⟩
      have := HO.out
      rw [List.take_length] at this
      show World.ownsRow _ _ _ _ _ _ _
      rw [show (runes l).length = l.length by simp [runes]]
      exact this.grows (by repeat (with_reducible first | assumption | exact grA | apply grB | apply grC | apply grD | refine grE ?_ (by omega) _ | refine grF ?_ (by omega) _ _))
end Go.Proofs.YthcaphoejplecaaGreatDoor

/- WALK over jalousieref2: Decode. No condition but the class of characters. -/
namespace Go.Proofs.YthcaphoejplecaaGreatDoor
open Go.RowKit
theorem own_low {w : World} {B B' : Nat} {e : TypeId} {n k : Nat} {v : Value} {xs : List Value} (h : B' ≤ B) (ho : w.ownsRow B e n v k xs) : w.ownsRow B' e n v k xs := by
  obtain ⟨h1, h2⟩ := ho
  refine ⟨h1, ?_⟩
  rcases h2 with h2 | ⟨g, c, cur, p1, p2, p3⟩
  · exact .inl h2
  · exact .inr ⟨g, c, cur, p1, Nat.le_trans h p2, p3⟩
set_option maxRecDepth 100000 in
set_option maxHeartbeats 4000000 in
theorem xdecode_any {w : World} {g c : Nat} {l : List UInt8} {zs : List Value} {fr : Nat × Nat} (hr : w.row g = some (.cells (u8c l ++ zs).toArray 5 fr)) (hl : l.length ≤ 1000) (hk : OkL l) :
    Calls Tryz.prog 41 #[.slice (some ⟨g, 0, none⟩) l.length c] w (fun e w' => ∃ v, e = .returned v ∧ w.grows w' ∧ RuO w' w.heap.size v (runes l)) := by
  have HRAW := Lib.hid (fun (W : World) (hg : w.grows W) => xraw_any (c := c) (hg.row_eq (row_sz' hr).1 ▸ hr) hl hk)
  have hokL : ∀ x ∈ runes l, OkC x := fun x hx => by
    obtain ⟨c, hc, rfl⟩ := List.mem_map.1 hx
    exact hk c hc
  have hlen : (runes l).length = l.length := by simp [runes]
  have HOK := Lib.hid hokL
  have hz : 3 ≤ l.length → ∃ x, l[0]? = some x ∧ ((x.toNat : Int) == 239) = false ∧ cellR 0 (w.row g) = some (.int .u8 x.toNat) := fun h => by
    obtain ⟨x, hx⟩ : ∃ x, l[0]? = some x := ⟨_, List.getElem?_eq_getElem (by omega)⟩
    refine ⟨x, hx, ?_, ?_⟩
    · have := (hk x (List.mem_of_getElem? hx)).lo
      simp
      omega
    · rw [hr]
      show (u8c l ++ zs).toArray[0]? = _
      simp only [List.getElem?_toArray]
      rw [List.getElem?_append_left (by simp [u8c]; omega)]
      simp [u8c, hx]
  have zg := (row_sz' hr).1
  have zg' := lt_sz zg
  clear hr hk hokL
  by_cases h3 : 3 ≤ l.length
  · obtain ⟨x0, -, hx0, hcell⟩ := hz h3
    have i3 : (3 : Int) ≤ (l.length : Int) := by omega
    have i0 : (0 : Int) < (l.length : Int) := by omega
    have d3 : decide ((3 : Int) ≤ (l.length : Int)) = true := by simpa using i3
    clear hz
    go_enter Tryz.func41, Tryz.ntmps41
    go_wp2_with (go_at_call 63; go_loud ((with_reducible refine (HRAW.out _ (by repeat (with_reducible first | assumption | exact grA | apply grB | apply grC | apply grD | refine grE ?_ (by omega) _ | refine grF ?_ (by omega) _ _))).mono ?_); rintro r w1 ⟨v, rfl, hg1, hv⟩; obtain ⟨aR, cR, rfl⟩ := own_slice hv))
    have hgw : w.grows w1 := World.grows.trans (by repeat (with_reducible first | assumption | exact grA | apply grB | apply grC | apply grD | refine grE ?_ (by omega) _ | refine grF ?_ (by omega) _ _)) hg1
    have hs1 := hgw.below.size
    have hb1 := hg1.below.size
    have HV := Lib.hid (hv.slAt (S := fun g => w.heap.size ≤ g) HOK.out fun g h1 h2 => Nat.le_trans (show World.grows w _ from (by repeat (with_reducible first | assumption | exact grA | apply grB | apply grC | apply grD | refine grE ?_ (by omega) _ | refine grF ?_ (by omega) _ _))).below.size h1)
    clear hv
    rw [hlen] at HV
    go_loopg [3, 4, 34] l.length (fun gn v3 v4 v34 wj => ∃ (i : Nat) (z : Int) (a1 : Option Addr) (c1 : Nat), Hid (gn + i = l.length ∧ i ≤ l.length) ∧ v34 = .int .i64 i ∧ v4 = .int .i32 z ∧ v3 = .slice a1 i c1 ∧ w1.grows wj ∧ Hid (wj.ownsRow w1.heap.size 21 1 (.slice a1 i c1) i (i32c ((runes l).take i))))
    case atStart => exact ⟨0, 0, none, 0, Lib.hid ⟨by simp, Nat.zero_le _⟩, by go_num, rfl, rfl, (by repeat (with_reducible first | assumption | exact grA | apply grB | apply grC | apply grD | refine grE ?_ (by omega) _ | refine grF ?_ (by omega) _ _)), Lib.hid (by simpa [i32c] using World.ownsRow_nil _ _ _ _)⟩
    case round =>
      obtain ⟨i, z, a1, c1, HQ, rfl, rfl, rfl, hgj, HO⟩ := hrel
      obtain ⟨j1, j2⟩ := HQ.out
      have hs := hgj.below.size
      by_cases hlt : i < l.length
      · have i2 : (i : Int) < (l.length : Int) := by omega
        obtain ⟨x, hx⟩ : ∃ x, (runes l)[i]? = some x := ⟨_, List.getElem?_eq_getElem (by omega)⟩
        have hok := HOK.out x (List.mem_of_getElem? hx)
        obtain ⟨gR, off, cs, rfl, -, -, k1, rfl, -⟩ := HV.out.elt hx
        have k2 := k1.grows hgj
        have z3 := lt_sz k2.lt
        have c0 := k2.cell (j := 0) rfl
        rw [World.cell?_row, Nat.add_zero, Nat.mul_one] at c0
        have iw : IntKind.i64.wrap ((i : Int) + 1) = (i : Int) + 1 := by rw [IntKind.wrap_i64]; omega
        have i1 : (0 : Int) ≤ (i : Int) := by omega
        have HX := Lib.hid (show (runes l).take (i + 1) = (runes l).take i ++ [x] by
          rw [List.take_add_one, hx]; rfl)
        have n13 : (x == 13) = false := by simp; unfold OkC at hok; omega
        have n12 : (x == 12) = false := by simp; unfold OkC at hok; omega
        have n10 : (x == 10) = false := by simp; unfold OkC at hok; omega
        have n0 : (x == 0) = false := by simp; unfold OkC at hok; omega
        clear hx hok k1 k2
        go_wp2_with ((at_builtin; refine wpList_app w1 (w1.heap.size) rfl (.tmp 51) (.tmp 53) _ rfl 21 (.int .i32 0) 1 4 Tryz.underlying77 (by kernel_rfl) rfl (by omega) (by omega) _ i _ rfl ((HO.out.grows (by repeat (with_reducible first | assumption | exact grA | apply grB | apply grC | apply grD | refine grE ?_ (by omega) _ | refine grF ?_ (by omega) _ _)))) _ 1 _ [.int .i32 x] rfl rfl (cells_of_row (e := 21) (fr := (0, 0)) (by simp [go_sem])) (by simp [Value.oneCell']) (by omega) (by repeat (with_reducible first | assumption | exact grA | apply grB | apply grC | apply grD | refine grE ?_ (by omega) _ | refine grF ?_ (by omega) _ _)) (by omega) (by first | omega | (simp <;> omega)) ?_; intro v' w' hg' HO' HR' HG' HA'); (obtain ⟨a9, c9, rfl⟩ := own_slice HO'.out))
        go_roundg (l.length - (i + 1))
        case measure => omega
        case rel => exact ⟨i + 1, x, a9, c9, Lib.hid ⟨by omega, by omega⟩, by go_num, rfl, rfl, hg', Lib.hid (by
          rw [HX.out]
          have := HO'.out
          simpa [i32c] using this)⟩
      · have i2 : ¬ (i : Int) < (l.length : Int) := by omega
        obtain rfl : i = l.length := by omega
        go_wp2_with fail
        go_ret
        refine ⟨_, rfl, hgw.trans (hgj.trans (by repeat (with_reducible first | assumption | exact grA | apply grB | apply grC | apply grD | refine grE ?_ (by omega) _ | refine grF ?_ (by omega) _ _))), ?_⟩
        have := HO.out
        rw [List.take_of_length_le (by omega)] at this
        show World.ownsRow _ _ _ _ _ _ _
        rw [hlen]
        exact own_low hs1 (this.grows (by repeat (with_reducible first | assumption | exact grA | apply grB | apply grC | apply grD | refine grE ?_ (by omega) _ | refine grF ?_ (by omega) _ _)))
  · have i3 : ¬ (3 : Int) ≤ (l.length : Int) := by omega
    have d3 : decide ((3 : Int) ≤ (l.length : Int)) = false := by simpa using i3
    clear hz
    go_enter Tryz.func41, Tryz.ntmps41
    go_wp2_with (go_at_call 63; go_loud ((with_reducible refine (HRAW.out _ (by repeat (with_reducible first | assumption | exact grA | apply grB | apply grC | apply grD | refine grE ?_ (by omega) _ | refine grF ?_ (by omega) _ _))).mono ?_); rintro r w1 ⟨v, rfl, hg1, hv⟩; obtain ⟨aR, cR, rfl⟩ := own_slice hv))
    have hgw : w.grows w1 := World.grows.trans (by repeat (with_reducible first | assumption | exact grA | apply grB | apply grC | apply grD | refine grE ?_ (by omega) _ | refine grF ?_ (by omega) _ _)) hg1
    have hs1 := hgw.below.size
    have hb1 := hg1.below.size
    have HV := Lib.hid (hv.slAt (S := fun g => w.heap.size ≤ g) HOK.out fun g h1 h2 => Nat.le_trans (show World.grows w _ from (by repeat (with_reducible first | assumption | exact grA | apply grB | apply grC | apply grD | refine grE ?_ (by omega) _ | refine grF ?_ (by omega) _ _))).below.size h1)
    clear hv
    rw [hlen] at HV
    go_loopg [3, 4, 34] l.length (fun gn v3 v4 v34 wj => ∃ (i : Nat) (z : Int) (a1 : Option Addr) (c1 : Nat), Hid (gn + i = l.length ∧ i ≤ l.length) ∧ v34 = .int .i64 i ∧ v4 = .int .i32 z ∧ v3 = .slice a1 i c1 ∧ w1.grows wj ∧ Hid (wj.ownsRow w1.heap.size 21 1 (.slice a1 i c1) i (i32c ((runes l).take i))))
    case atStart => exact ⟨0, 0, none, 0, Lib.hid ⟨by simp, Nat.zero_le _⟩, by go_num, rfl, rfl, (by repeat (with_reducible first | assumption | exact grA | apply grB | apply grC | apply grD | refine grE ?_ (by omega) _ | refine grF ?_ (by omega) _ _)), Lib.hid (by simpa [i32c] using World.ownsRow_nil _ _ _ _)⟩
    case round =>
      obtain ⟨i, z, a1, c1, HQ, rfl, rfl, rfl, hgj, HO⟩ := hrel
      obtain ⟨j1, j2⟩ := HQ.out
      have hs := hgj.below.size
      by_cases hlt : i < l.length
      · have i2 : (i : Int) < (l.length : Int) := by omega
        obtain ⟨x, hx⟩ : ∃ x, (runes l)[i]? = some x := ⟨_, List.getElem?_eq_getElem (by omega)⟩
        have hok := HOK.out x (List.mem_of_getElem? hx)
        obtain ⟨gR, off, cs, rfl, -, -, k1, rfl, -⟩ := HV.out.elt hx
        have k2 := k1.grows hgj
        have z3 := lt_sz k2.lt
        have c0 := k2.cell (j := 0) rfl
        rw [World.cell?_row, Nat.add_zero, Nat.mul_one] at c0
        have iw : IntKind.i64.wrap ((i : Int) + 1) = (i : Int) + 1 := by rw [IntKind.wrap_i64]; omega
        have i1 : (0 : Int) ≤ (i : Int) := by omega
        have HX := Lib.hid (show (runes l).take (i + 1) = (runes l).take i ++ [x] by
          rw [List.take_add_one, hx]; rfl)
        have n13 : (x == 13) = false := by simp; unfold OkC at hok; omega
        have n12 : (x == 12) = false := by simp; unfold OkC at hok; omega
        have n10 : (x == 10) = false := by simp; unfold OkC at hok; omega
        have n0 : (x == 0) = false := by simp; unfold OkC at hok; omega
        clear hx hok k1 k2
        go_wp2_with ((at_builtin; refine wpList_app w1 (w1.heap.size) rfl (.tmp 51) (.tmp 53) _ rfl 21 (.int .i32 0) 1 4 Tryz.underlying77 (by kernel_rfl) rfl (by omega) (by omega) _ i _ rfl ((HO.out.grows (by repeat (with_reducible first | assumption | exact grA | apply grB | apply grC | apply grD | refine grE ?_ (by omega) _ | refine grF ?_ (by omega) _ _)))) _ 1 _ [.int .i32 x] rfl rfl (cells_of_row (e := 21) (fr := (0, 0)) (by simp [go_sem])) (by simp [Value.oneCell']) (by omega) (by repeat (with_reducible first | assumption | exact grA | apply grB | apply grC | apply grD | refine grE ?_ (by omega) _ | refine grF ?_ (by omega) _ _)) (by omega) (by first | omega | (simp <;> omega)) ?_; intro v' w' hg' HO' HR' HG' HA'); (obtain ⟨a9, c9, rfl⟩ := own_slice HO'.out))
        go_roundg (l.length - (i + 1))
        case measure => omega
        case rel => exact ⟨i + 1, x, a9, c9, Lib.hid ⟨by omega, by omega⟩, by go_num, rfl, rfl, hg', Lib.hid (by
          rw [HX.out]
          have := HO'.out
          simpa [i32c] using this)⟩
      · have i2 : ¬ (i : Int) < (l.length : Int) := by omega
        obtain rfl : i = l.length := by omega
        go_wp2_with fail
        go_ret
        refine ⟨_, rfl, hgw.trans (hgj.trans (by repeat (with_reducible first | assumption | exact grA | apply grB | apply grC | apply grD | refine grE ?_ (by omega) _ | refine grF ?_ (by omega) _ _))), ?_⟩
        have := HO.out
        rw [List.take_of_length_le (by omega)] at this
        show World.ownsRow _ _ _ _ _ _ _
        rw [hlen]
        exact own_low hs1 (this.grows (by repeat (with_reducible first | assumption | exact grA | apply grB | apply grC | apply grD | refine grE ?_ (by omega) _ | refine grF ?_ (by omega) _ _)))
end Go.Proofs.YthcaphoejplecaaGreatDoor

/- WALKS over jalousieref2: Encode, Text. No condition but the class of characters. -/
namespace Go
open Go.RowKit
/-- characters as bytes -/
def bytesOf (L : List Int) : List UInt8 := L.map (fun x => UInt8.ofNat x.toNat)
/-- characters as a text -/
def txt (L : List Int) : ByteArray := ⟨(bytesOf L).toArray⟩
theorem u8c_bytes {L : List Int} (h : ∀ x ∈ L, OkC x) : u8c (bytesOf L) = L.map (fun x => Value.int .u8 x) := by
  unfold u8c bytesOf
  rw [List.map_map]
  refine List.map_congr_left fun x hx => ?_
  have := (h x hx).lo
  simp only [Function.comp]
  congr 1
  have e : (UInt8.ofNat x.toNat).toNat = x.toNat := by
    rw [UInt8.toNat_ofNat']
    exact Nat.mod_eq_of_lt (by omega)
  rw [e]; omega
end Go
namespace Go.Proofs.YthcaphoejplecaaGreatDoor
open Go.RowKit
set_option maxRecDepth 100000 in
set_option maxHeartbeats 4000000 in
theorem xencode_any {w : World} {S : Nat → Prop} {v : Value} {L : List Int} (h : SlAt w S 1 RuR v L) (hl : L.length ≤ 1000) :
    Calls Tryz.prog 113 #[v] w (fun e w' => ∃ v, e = .returned v ∧ w.grows w' ∧ w'.ownsRow w.heap.size 5 1 v L.length (L.map (fun x => Value.int .u8 x))) := by
  obtain ⟨aR, cR, rfl, -, -⟩ := SlAt.len h
  have HV := Lib.hid h
  clear h
  go_enter Tryz.func113, Tryz.ntmps113
  go_wp2_with fail
  go_loopg [3, 8] L.length (fun gn v3 v8 wj => ∃ (i : Nat) (a1 : Option Addr) (c1 : Nat), Hid (gn + i = L.length ∧ i ≤ L.length) ∧ v8 = .int .i64 i ∧ v3 = .slice a1 i c1 ∧ w.grows wj ∧ Hid (wj.ownsRow w.heap.size 5 1 (.slice a1 i c1) i ((L.take i).map (fun x => Value.int .u8 x))))
  case atStart => exact ⟨0, none, 0, Lib.hid ⟨by simp, Nat.zero_le _⟩, by go_num, rfl, (by repeat (with_reducible first | assumption | exact grA | apply grB | apply grC | apply grD | refine grE ?_ (by omega) _ | refine grF ?_ (by omega) _ _)), Lib.hid (by simpa using World.ownsRow_nil _ _ _ _)⟩
  case round =>
    obtain ⟨i, a1, c1, HQ, rfl, rfl, hgj, HO⟩ := hrel
    obtain ⟨j1, j2⟩ := HQ.out
    have hs := hgj.below.size
    by_cases hlt : i < L.length
    · have i2 : (i : Int) < (L.length : Int) := by omega
      obtain ⟨x, hx⟩ : ∃ x, L[i]? = some x := ⟨_, List.getElem?_eq_getElem (by omega)⟩
      obtain ⟨gR, off, cs, rfl, -, -, k1, rfl, hok⟩ := HV.out.elt hx
      have k2 := k1.grows hgj
      have z3 := lt_sz k2.lt
      have c0 := k2.cell (j := 0) rfl
      rw [World.cell?_row, Nat.add_zero, Nat.mul_one] at c0
      have iw : IntKind.i64.wrap ((i : Int) + 1) = (i : Int) + 1 := by rw [IntKind.wrap_i64]; omega
      have i1 : (0 : Int) ≤ (i : Int) := by omega
      have HX := Lib.hid (show L.take (i + 1) = L.take i ++ [x] by
        rw [List.take_add_one, hx]; rfl)
      have hlo := hok.lo
      have a1 : x < 128 := by omega
      have d1 : decide (x < 128) = true := by simpa using a1
      have iw8 : IntKind.u8.wrap x = x := by simp [IntKind.wrap, IntKind.bits, IntKind.signed]; omega
      have HI := Lib.hid (fun (W : World) => xis_any x (by omega) (by omega) W)
      clear hx hok k1 k2
      go_wp2_with (first | (go_at_call 83; (with_reducible refine (HI.out _).mono ?_); rintro e w1 ⟨rfl, x1, rfl⟩) | ((at_builtin; refine wpList_app w (w.heap.size) rfl (.tmp 39) (.tmp 42) _ rfl 5 (.int .u8 0) 1 1 Tryz.underlying57 (by kernel_rfl) rfl (by omega) (by omega) _ i _ rfl ((HO.out.grows (by repeat (with_reducible first | assumption | exact grA | apply grB | apply grC | apply grD | refine grE ?_ (by omega) _ | refine grF ?_ (by omega) _ _)))) _ 1 _ [.int .u8 x] rfl rfl (cells_of_row (e := 5) (fr := (0, 0)) (by simp [go_sem])) (by simp [Value.oneCell']) (by omega) (by repeat (with_reducible first | assumption | exact grA | apply grB | apply grC | apply grD | refine grE ?_ (by omega) _ | refine grF ?_ (by omega) _ _)) (by omega) (by first | omega | (simp <;> omega)) ?_; intro v' w' hg' HO' HR' HG' HA'); (obtain ⟨a9, c9, rfl⟩ := own_slice HO'.out)))
      go_roundg (L.length - (i + 1))
      case measure => omega
      case rel => exact ⟨i + 1, a9, c9, Lib.hid ⟨by omega, by omega⟩, by go_num, rfl, hg', Lib.hid (by
        rw [HX.out]
        have := HO'.out
        simpa using this)⟩
    · have i2 : ¬ (i : Int) < (L.length : Int) := by omega
      obtain rfl : i = L.length := by omega
      go_wp2_with fail
      go_ret
      refine ⟨_, rfl, hgj.trans (by repeat (with_reducible first | assumption | exact grA | apply grB | apply grC | apply grD | refine grE ?_ (by omega) _ | refine grF ?_ (by omega) _ _)), ?_⟩
      have := HO.out
      rw [List.take_length] at this
      exact this.grows (by repeat (with_reducible first | assumption | exact grA | apply grB | apply grC | apply grD | refine grE ?_ (by omega) _ | refine grF ?_ (by omega) _ _))
set_option maxRecDepth 100000 in
theorem xtext_any {w : World} {S : Nat → Prop} {v : Value} {L : List Int} (h : SlAt w S 1 RuR v L) (hl : L.length ≤ 1000) (hne : L ≠ []) (hok : ∀ x ∈ L, OkC x) :
    Calls Tryz.prog 94 #[v] w (Gives w (.string (txt L))) := by
  have HE := Lib.hid (fun (W : World) (hg : w.grows W) => xencode_any (h.grows hg fun _ _ _ h => h) hl)
  have HB := Lib.hid (u8c_bytes hok)
  have hlen : (bytesOf L).length = L.length := by simp [bytesOf]
  have h0 : 0 < L.length := List.length_pos_iff.2 hne
  clear h hok
  go_enter Tryz.func94, Tryz.ntmps94
  go_upto_region 1 with fail
  go_wp2_with (go_at_call 113; go_loud ((with_reducible refine (HE.out _ (by repeat (with_reducible first | assumption | exact grA | apply grB | apply grC | apply grD | refine grE ?_ (by omega) _ | refine grF ?_ (by omega) _ _))).mono ?_); rintro r w1 ⟨v1, rfl, hg1, ho⟩; obtain ⟨hxs, hv | ⟨g, cp, cur, rfl, hgb, hrow, q1, q2, q3, q4⟩⟩ := ho; (exact absurd hv.2 (by omega)); (have hst := conv_str (P := Tryz.prog) w1 57 9 5 5 g cp (bytesOf L) (cur.toList.drop L.length) (0, 0) (by kernel_rfl) (by kernel_rfl) (by kernel_rfl) (by rw [HB.out, ← q4, Nat.mul_one, List.take_append_drop]; exact hrow)); rw [hlen] at hst))
  go_ret
  exact ⟨rfl, hg1.trans (by repeat (with_reducible first | assumption | exact grA | apply grB | apply grC | apply grD | refine grE ?_ (by omega) _ | refine grF ?_ (by omega) _ _))⟩
end Go.Proofs.YthcaphoejplecaaGreatDoor
