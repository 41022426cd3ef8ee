/- WALKS over rule, vars, jalousieref5, jalousieref14: what closes a token; a blank value; a custom name. No condition. -/
import Derived.Test.YthcaphoejplecaaDoorVaQ
import Derived.Test.YthcaphoejplecaaDoorOpsE
import Derived.Test.YthcaphoejplecaaDoorTail
import Derived.Test.YthcaphoejplecaaDoorSeg
import Derived.Test.YthcaphoejplecaaDoorExec
set_option linter.unusedSimpArgs false
set_option linter.unusedVariables false
namespace Go.Proofs.YthcaphoejplecaaDoor
open Go.RowKit
theorem clo_split {k : Int} {P : Int → Prop} (h2 : k = 2 → P 22) (h21 : k = 21 → P 22) (h19 : k = 19 → P 20) (h23 : k = 23 → P 24) (h : k ≠ 2 → k ≠ 21 → k ≠ 19 → k ≠ 23 → P 0) : P (clo k) := by
  unfold clo
  split
  · rename_i hh
    rcases hh with hh | hh
    · exact h2 hh
    · exact h21 hh
  · rename_i hh
    split
    · rename_i h4; exact h19 h4
    · rename_i h4
      split
      · rename_i h5; exact h23 h5
      · rename_i h5; exact h (fun e => hh (.inl e)) (fun e => hh (.inr e)) h4 h5
set_option maxRecDepth 100000 in
theorem rclo_any (k : Int) (w : World) : Calls Tryd.prog 49 #[.int .i64 k] w (Gives w (.int .i64 (clo k))) := by
  refine clo_split (k := k) (P := fun c => Calls Tryd.prog 49 #[.int .i64 k] w (Gives w (.int .i64 c))) ?_ ?_ ?_ ?_ ?_
  · rintro rfl
    go_enter Tryd.func49, Tryd.ntmps49
    go_wp2_with fail
    go_ret
    exact ⟨rfl, (by repeat (with_reducible first | assumption | exact grA | apply grB | apply grC | apply grD | refine grE ?_ (by omega) _ | refine grF ?_ (by omega) _ _))⟩
  · rintro rfl
    go_enter Tryd.func49, Tryd.ntmps49
    go_wp2_with fail
    go_ret
    exact ⟨rfl, (by repeat (with_reducible first | assumption | exact grA | apply grB | apply grC | apply grD | refine grE ?_ (by omega) _ | refine grF ?_ (by omega) _ _))⟩
  · rintro rfl
    go_enter Tryd.func49, Tryd.ntmps49
    go_wp2_with fail
    go_ret
    exact ⟨rfl, (by repeat (with_reducible first | assumption | exact grA | apply grB | apply grC | apply grD | refine grE ?_ (by omega) _ | refine grF ?_ (by omega) _ _))⟩
  · rintro rfl
    go_enter Tryd.func49, Tryd.ntmps49
    go_wp2_with fail
    go_ret
    exact ⟨rfl, (by repeat (with_reducible first | assumption | exact grA | apply grB | apply grC | apply grD | refine grE ?_ (by omega) _ | refine grF ?_ (by omega) _ _))⟩
  · intro a1 a2 a3 a4
    have b1 : (k == 2) = false := by simpa using a1
    have b2 : (k == 21) = false := by simpa using a2
    have b3 : (k == 19) = false := by simpa using a3
    have b4 : (k == 23) = false := by simpa using a4
    go_enter Tryd.func49, Tryd.ntmps49
    go_wp2_with fail
    go_ret
    exact ⟨rfl, (by repeat (with_reducible first | assumption | exact grA | apply grB | apply grC | apply grD | refine grE ?_ (by omega) _ | refine grF ?_ (by omega) _ _))⟩
set_option maxRecDepth 100000 in
theorem vclo_any (k : Int) (w : World) : Calls Tryd.prog 56 #[.int .i64 k] w (Gives w (.int .i64 (clo k))) := by
  refine clo_split (k := k) (P := fun c => Calls Tryd.prog 56 #[.int .i64 k] w (Gives w (.int .i64 c))) ?_ ?_ ?_ ?_ ?_
  · rintro rfl
    go_enter Tryd.func56, Tryd.ntmps56
    go_wp2_with fail
    go_ret
    exact ⟨rfl, (by repeat (with_reducible first | assumption | exact grA | apply grB | apply grC | apply grD | refine grE ?_ (by omega) _ | refine grF ?_ (by omega) _ _))⟩
  · rintro rfl
    go_enter Tryd.func56, Tryd.ntmps56
    go_wp2_with fail
    go_ret
    exact ⟨rfl, (by repeat (with_reducible first | assumption | exact grA | apply grB | apply grC | apply grD | refine grE ?_ (by omega) _ | refine grF ?_ (by omega) _ _))⟩
  · rintro rfl
    go_enter Tryd.func56, Tryd.ntmps56
    go_wp2_with fail
    go_ret
    exact ⟨rfl, (by repeat (with_reducible first | assumption | exact grA | apply grB | apply grC | apply grD | refine grE ?_ (by omega) _ | refine grF ?_ (by omega) _ _))⟩
  · rintro rfl
    go_enter Tryd.func56, Tryd.ntmps56
    go_wp2_with fail
    go_ret
    exact ⟨rfl, (by repeat (with_reducible first | assumption | exact grA | apply grB | apply grC | apply grD | refine grE ?_ (by omega) _ | refine grF ?_ (by omega) _ _))⟩
  · intro a1 a2 a3 a4
    have b1 : (k == 2) = false := by simpa using a1
    have b2 : (k == 21) = false := by simpa using a2
    have b3 : (k == 19) = false := by simpa using a3
    have b4 : (k == 23) = false := by simpa using a4
    go_enter Tryd.func56, Tryd.ntmps56
    go_wp2_with fail
    go_ret
    exact ⟨rfl, (by repeat (with_reducible first | assumption | exact grA | apply grB | apply grC | apply grD | refine grE ?_ (by omega) _ | refine grF ?_ (by omega) _ _))⟩
set_option maxRecDepth 100000 in
theorem fclo_any (k : Int) (w : World) : Calls Tryd.prog 28 #[.int .i64 k] w (Gives w (.int .i64 (clo k))) := by
  refine clo_split (k := k) (P := fun c => Calls Tryd.prog 28 #[.int .i64 k] w (Gives w (.int .i64 c))) ?_ ?_ ?_ ?_ ?_
  · rintro rfl
    go_enter Tryd.func28, Tryd.ntmps28
    go_wp2_with fail
    go_ret
    exact ⟨rfl, (by repeat (with_reducible first | assumption | exact grA | apply grB | apply grC | apply grD | refine grE ?_ (by omega) _ | refine grF ?_ (by omega) _ _))⟩
  · rintro rfl
    go_enter Tryd.func28, Tryd.ntmps28
    go_wp2_with fail
    go_ret
    exact ⟨rfl, (by repeat (with_reducible first | assumption | exact grA | apply grB | apply grC | apply grD | refine grE ?_ (by omega) _ | refine grF ?_ (by omega) _ _))⟩
  · rintro rfl
    go_enter Tryd.func28, Tryd.ntmps28
    go_wp2_with fail
    go_ret
    exact ⟨rfl, (by repeat (with_reducible first | assumption | exact grA | apply grB | apply grC | apply grD | refine grE ?_ (by omega) _ | refine grF ?_ (by omega) _ _))⟩
  · rintro rfl
    go_enter Tryd.func28, Tryd.ntmps28
    go_wp2_with fail
    go_ret
    exact ⟨rfl, (by repeat (with_reducible first | assumption | exact grA | apply grB | apply grC | apply grD | refine grE ?_ (by omega) _ | refine grF ?_ (by omega) _ _))⟩
  · intro a1 a2 a3 a4
    have b1 : (k == 2) = false := by simpa using a1
    have b2 : (k == 21) = false := by simpa using a2
    have b3 : (k == 19) = false := by simpa using a3
    have b4 : (k == 23) = false := by simpa using a4
    go_enter Tryd.func28, Tryd.ntmps28
    go_wp2_with fail
    go_ret
    exact ⟨rfl, (by repeat (with_reducible first | assumption | exact grA | apply grB | apply grC | apply grD | refine grE ?_ (by omega) _ | refine grF ?_ (by omega) _ _))⟩
/-- a value handed over -/
abbrev vtV (t : Tk) (v : Value) : Value := .agg #[.int .i64 t.k, .string t.s, .int .i64 t.n, .int .i64 t.d, .bool t.w, .bool t.i, v]
set_option maxRecDepth 100000 in
theorem rspace_any (t : Tk) (a : Option Addr) (n c : Nat) (w : World) : Calls Tryd.prog 79 #[vtV t (.slice a n c)] w (Gives w (.bool (decide (t.k = 13)))) := by
  obtain ⟨k, s, n1, d, b1, b2⟩ := t
  by_cases h : k = 13
  · subst h
    go_enter Tryd.func79, Tryd.ntmps79
    go_wp2_with fail
    go_ret
    exact ⟨rfl, (by repeat (with_reducible first | assumption | exact grA | apply grB | apply grC | apply grD | refine grE ?_ (by omega) _ | refine grF ?_ (by omega) _ _))⟩
  · have hb : (k == 13) = false := by simpa using h
    have hd : decide (k = 13) = false := by simpa using h
    simp only [hd]
    clear h hd
    go_enter Tryd.func79, Tryd.ntmps79
    go_wp2_with fail
    go_ret
    exact ⟨rfl, (by repeat (with_reducible first | assumption | exact grA | apply grB | apply grC | apply grD | refine grE ?_ (by omega) _ | refine grF ?_ (by omega) _ _))⟩
set_option maxRecDepth 100000 in
theorem fspace_any (t : Tk) (a : Option Addr) (n c : Nat) (w : World) : Calls Tryd.prog 72 #[vtV t (.slice a n c)] w (Gives w (.bool (decide (t.k = 13)))) := by
  obtain ⟨k, s, n1, d, b1, b2⟩ := t
  by_cases h : k = 13
  · subst h
    go_enter Tryd.func72, Tryd.ntmps72
    go_wp2_with fail
    go_ret
    exact ⟨rfl, (by repeat (with_reducible first | assumption | exact grA | apply grB | apply grC | apply grD | refine grE ?_ (by omega) _ | refine grF ?_ (by omega) _ _))⟩
  · have hb : (k == 13) = false := by simpa using h
    have hd : decide (k = 13) = false := by simpa using h
    simp only [hd]
    clear h hd
    go_enter Tryd.func72, Tryd.ntmps72
    go_wp2_with fail
    go_ret
    exact ⟨rfl, (by repeat (with_reducible first | assumption | exact grA | apply grB | apply grC | apply grD | refine grE ?_ (by omega) _ | refine grF ?_ (by omega) _ _))⟩
end Go.Proofs.YthcaphoejplecaaDoor
