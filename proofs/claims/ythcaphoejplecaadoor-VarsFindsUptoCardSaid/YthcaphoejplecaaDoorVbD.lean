/- WALK over jalousieref21: Uses. No condition but bounds. -/
import Derived.Test.YthcaphoejplecaaDoorVbC
set_option linter.unusedSimpArgs false
set_option linter.unusedVariables false
namespace Go.Proofs.YthcaphoejplecaaDoor
open Go.RowKit
theorem fuses_any (N : Nat) : UsesC N := by
  induction N using Nat.strongRecOn with
  | _ N ih => exact fuses_step N ih
theorem own_lower {w : World} {B B' : Nat} {e : TypeId} {n k : Nat} {v : Value} {xs : List Value} (h : B' ≤ B) (ho : w.ownsRow B e n v k xs) : w.ownsRow B' e n v k xs := by
  obtain ⟨h1, h2⟩ := ho
  refine ⟨h1, ?_⟩
  rcases h2 with h2 | ⟨g, c, cur, p1, p2, p3⟩
  · exact .inl h2
  · exact .inr ⟨g, c, cur, p1, Nat.le_trans h p2, p3⟩
/-- how Uses ends -/
def NamesPost (w : World) (o : List ByteArray) (e : Ending) (w' : World) : Prop := ∃ r, e = .returned r ∧ w.grows w' ∧ NmO w' w.heap.size r o
set_option maxRecDepth 100000 in
set_option maxHeartbeats 4000000 in
theorem fUses_any {w : World} {v : Value} {l : List Tk} (h : TksAt w v l) (hl : l.length ≤ 4194304) : Calls Tryd.prog 20 #[v] w (NamesPost w (usesT l)) := by
  have HV := Lib.hid (fValues_any h hl)
  have HN := Lib.hid (Nat.le_trans (parse_nodes l) hl)
  clear h
  go_enter Tryd.func20, Tryd.ntmps20
  go_upto_region 2 with (go_at_call 12; go_loud ((with_reducible refine HV.out.mono ?_); rintro r w1 ⟨v1, rfl, hg1, hv1⟩))
  have HM1 := Lib.hid (fun (W : World) (hg : w1.grows W) => fMay_any (VsAt.grows hv1 hg))
  have HUS := Lib.hid (fun (W : World) (hg : w1.grows W) => fuses_any (nodesL (parse l)) w W W.heap.size (.slice none 0 0) [] _ v1 (parse l) ⟨hg1.trans hg, (hg1.trans hg).below.size, Nat.le_refl _, by simpa [NmO] using World.ownsRow_nil _ _ _ _, VsAt.grows hv1 hg, (fun _ _ e => by cases e), Nat.le_refl _, (by have := HN.out; simp only [List.length_nil]; omega), HN.out⟩)
  cases hm : mayV 64 (parse l) with
  | false =>
    have HR := Lib.hid (show usesT l = [] by unfold usesT; rw [if_neg (by rw [hm]; decide)])
    rw [hm] at HM1
    clear hm hv1
    go_wp2_with ((go_at_call 13; (with_reducible refine (HM1.out _ (by repeat (with_reducible first | assumption | exact grA | apply grB | apply grC | apply grD | refine grE ?_ (by omega) _ | refine grF ?_ (by omega) _ _))).mono ?_); rintro e w1 ⟨rfl, x1, rfl⟩))
    go_ret
    rw [HR.out]
    exact ⟨_, rfl, hg1.trans (by repeat (with_reducible first | assumption | exact grA | apply grB | apply grC | apply grD | refine grE ?_ (by omega) _ | refine grF ?_ (by omega) _ _)), by simpa [NmO] using World.ownsRow_nil _ _ _ _⟩
  | true =>
    have HR := Lib.hid (show usesT l = usesL [] (parse l) by unfold usesT; rw [if_pos hm])
    rw [hm] at HM1
    clear hm hv1
    go_wp2_with (first | (go_at_call 13; (with_reducible refine (HM1.out _ (by repeat (with_reducible first | assumption | exact grA | apply grB | apply grC | apply grD | refine grE ?_ (by omega) _ | refine grF ?_ (by omega) _ _))).mono ?_); rintro e w1 ⟨rfl, x1, rfl⟩) | (go_at_call 37; go_loud ((with_reducible refine (HUS.out _ (by repeat (with_reducible first | assumption | exact grA | apply grB | apply grC | apply grD | refine grE ?_ (by omega) _ | refine grF ?_ (by omega) _ _))).mono ?_); rintro r w7 ⟨v7, rfl, p1, p2, p3, p4⟩; replace p3 := own_lower (World.grows.below (hg1.trans (by repeat (with_reducible first | assumption | exact grA | apply grB | apply grC | apply grD | refine grE ?_ (by omega) _ | refine grF ?_ (by omega) _ _)))).size p3)))
    go_ret
    rw [HR.out]
    exact ⟨_, rfl, p1.trans (by repeat (with_reducible first | assumption | exact grA | apply grB | apply grC | apply grD | refine grE ?_ (by omega) _ | refine grF ?_ (by omega) _ _)), World.ownsRow.grows p3 (by repeat (with_reducible first | assumption | exact grA | apply grB | apply grC | apply grD | refine grE ?_ (by omega) _ | refine grF ?_ (by omega) _ _))⟩
end Go.Proofs.YthcaphoejplecaaDoor
