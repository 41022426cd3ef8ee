/- WALK over jalousieref8: Below of any number. No condition but that a row of elements stands in memory. -/
import Derived.Test.YtdbddnkjiehaiaaDomLg
set_option linter.unusedSimpArgs false
set_option linter.unusedVariables false
namespace Go.Proofs.Ytdbddnkjiehaiaa
open Go.Maps Go.RowKit Go.Sort
set_option maxRecDepth 100000 in
set_option maxHeartbeats 8000000 in
theorem refBelowA_any (w : World) (t : Nat) (v : Value) (M : Dm) (h : RefR w t v M) (hG : M.Good) (hw : ∀ e ∈ M.els, e.Wf) (id : Int) : Calls Try.prog 23 #[.pointer (some ⟨t, 0, none⟩), .int .i64 id] w fun r w' => ∃ v', r = .returned v' ∧ w.grows w' ∧ w'.ownsRow w.heap.size 3 1 v' (M.below 32 id).length ((M.below 32 id).map (Value.int .i64)) := by
  cases hat : M.at id with
  | none =>
    have HAT := Lib.hid (fun (W : World) (hW : w.grows W) (id : Int) => refAt_any W t v M (h.grows hW) hG.wf.few id)
    have hp : posE M.els id = -1 := posE_none (findE_none hat)
    have q : M.below 32 id = [] := by unfold Dm.below; rw [hat]
    rw [q]
    clear h hG hat hw q
    go_enter Try.func23, Try.ntmps23
    go_wp2_with (go_at_call 17; go_loud ((with_reducible refine (HAT.out _ (by repeat (with_reducible first | assumption | exact grA | apply grB | apply grC | apply grD | refine grE ?_ (by omega) _ | refine grF ?_ (by omega) _ _)) _).mono ?_); rw [hp]; rintro r w1 ⟨rfl, hg1⟩))
    go_ret
    exact ⟨_, rfl, hg1, World.ownsRow_nil _ _ _ _⟩
  | some e =>
    obtain ⟨he, rfl⟩ := findE_some hat
    obtain ⟨dep, d1, d2, d3⟩ := hG.wf.dep
    have hpos : 1 ≤ dep e.id := by
      by_cases hr : e.id = M.root
      · rw [hr, d1]; exact Nat.le_refl _
      · have := d2 e he hr; omega
    exact refBelow_any hG hw 32 dep d2 d3 e he (by omega) w t v h
end Go.Proofs.Ytdbddnkjiehaiaa
