/- WALK over dom: the closure of Classes (a space, a tab, a line's end). No condition. -/
import Derived.Test.YtdbddnkjiehaiaaDomLe
import Derived.Test.YtdbddnkjiehaiaaLaysF
set_option linter.unusedSimpArgs false
set_option linter.unusedVariables false
namespace Go.Proofs.Ytdbddnkjiehaiaa
open Go.Maps Go.RowKit Go.Sort
set_option maxRecDepth 100000 in
theorem sp1_any (x : Nat) (w : World) : Calls Try.prog 52 #[.int .i32 (x : Int)] w fun e w' => e = .returned (.bool (spR x)) ∧ w' = w := by
  by_cases h1 : x = 32
  · subst h1
    go_enter Try.func52, Try.ntmps52
    go_wp2_with fail
    go_ret
    exact ⟨rfl, rfl⟩
  by_cases h2 : x = 9
  · subst h2
    go_enter Try.func52, Try.ntmps52
    go_wp2_with fail
    go_ret
    exact ⟨rfl, rfl⟩
  by_cases h3 : x = 10
  · subst h3
    go_enter Try.func52, Try.ntmps52
    go_wp2_with fail
    go_ret
    exact ⟨rfl, rfl⟩
  have hr : spR x = false := by unfold spR; simp [h1, h2, h3]
  have b1 : ((x : Int) == 32) = false := beq_eq_false_iff_ne.2 (by omega)
  have b2 : ((x : Int) == 9) = false := beq_eq_false_iff_ne.2 (by omega)
  have b3 : ((x : Int) == 10) = false := beq_eq_false_iff_ne.2 (by omega)
  have c1 : ¬ (x : Int) = 32 := by omega
  have c2 : ¬ (x : Int) = 9 := by omega
  have c3 : ¬ (x : Int) = 10 := by omega
  rw [hr]
  clear hr
  go_enter Try.func52, Try.ntmps52
  go_wp2_with fail
  go_ret
  exact ⟨rfl, rfl⟩

set_option maxRecDepth 1000000 in
theorem domFields_any (s : ByteArray) (w : World) (hs : s.size ≤ 256) : Calls Try.prog 51 #[.string s, .func (.func 52) #[] #[]] w fun e w' => ∃ v, e = .returned v ∧ w.grows w' ∧ w'.ownsRow w.heap.size 9 1 v (pieces s).length ((pieces s).map Value.string) := by
  have h := Try.strings_FieldsFunc_runes 52 #[] (fun args w => rfl) spR s w (by omega) (fun W x _ _ => (sp1_any x W).mono fun e w' h => ⟨h.1, 0, h.2⟩)
  rw [fields_pieces] at h
  exact h.mono fun e w' ⟨A, h1, _, h3, h4⟩ => ⟨_, h1, World.grows.of_below h4, h3⟩
end Go.Proofs.Ytdbddnkjiehaiaa
