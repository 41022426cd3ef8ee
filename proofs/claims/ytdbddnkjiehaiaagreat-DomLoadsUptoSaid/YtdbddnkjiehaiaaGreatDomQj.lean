/- WALK over jalousielaw8: model. No condition but that a row of elements stands in memory. -/
import Derived.Test.YtdbddnkjiehaiaaGreatDomQi
import Derived.Test.YtdbddnkjiehaiaaGreatMk
set_option linter.unusedSimpArgs false
set_option linter.unusedVariables false
namespace Go.Proofs.YtdbddnkjiehaiaaGreat
open Go.Maps Go.RowKit Go.Sort
theorem REdt.pre {w w1 w' : World} {t : Nat} {Q : Nat → Prop} {M' : Dm} (hg : w.grows w1) (h : REdt w1 t Q M' w') : REdt w t Q M' w' := by
  obtain ⟨Q', v', h2, h3⟩ := h
  exact ⟨Q', v', ((Chg.refl _ w).grow hg).trans h2, h3⟩

set_option maxRecDepth 100000 in
set_option maxHeartbeats 8000000 in
theorem model_any (w : World) (t : Nat) (Q : Nat → Prop) (v : Value) (M : Dm) (h : RefAt w t Q v M) (hG : M.Good) (o : Opn) (ho : o.Ok) : Calls Tryz.prog 9 #[.pointer (some ⟨t, 0, none⟩), .agg (opC o).toArray] w fun r w' => r = .returned (.tuple #[.int .i64 (M.step o).1, .int .i64 (M.step o).2.1]) ∧ REdt w t Q (M.step o).2.2 w' := by
  have hA : w.grows (w.alloc (.cells (opC o).toArray 40)) := (by repeat (with_reducible first | assumption | exact grA | apply grB | apply grC | apply grD | refine grE ?_ (by omega) _ | refine grF ?_ (by omega) _ _))
  have hT := h.grows hA
  obtain ⟨w1, w2, w3, w4, w5, w6⟩ := ho
  have H0 := Lib.hid (refIns_any _ t Q v M hT hG o.id o.pl o.nm w4)
  have H1 := Lib.hid (refRem_any _ t Q v M hT hG o.id)
  have H2 := Lib.hid (refSet_any _ t Q v M hT hG o.id o.nm o.vl w4 w5)
  have H3 := Lib.hid (refUnset_any _ t Q v M hT hG o.id o.nm)
  have H4 := Lib.hid (refSetBox_any _ t Q v M hT hG o.id o.bx w6)
  have HA := Lib.hid hA
  have HT := Lib.hid h
  clear hA hT h hG w1 w2 w3 w4 w5 w6
  unfold Dm.step
  by_cases k0 : o.kind = 0
  · rw [if_pos k0]
    obtain ⟨kind, id, pl, nm, vl, bx⟩ := o
    simp only at k0 H0 HA ⊢
    subst k0
    clear H1 H2 H3 H4
    go_enter Tryz.func9, Tryz.ntmps9
    go_wp2_with (go_at_call 35; go_loud ((with_reducible refine (H0.out).mono ?_); rintro r w1 ⟨rfl, hE⟩))
    go_ret2
    exact ⟨rfl, REdt.pre HA.out hE⟩
  rw [if_neg k0]
  by_cases k1 : o.kind = 1
  · rw [if_pos k1]
    obtain ⟨kind, id, pl, nm, vl, bx⟩ := o
    simp only at k1 H1 HA ⊢
    subst k1
    clear H0 H2 H3 H4 k0
    go_enter Tryz.func9, Tryz.ntmps9
    go_wp2_with (go_at_call 36; go_loud ((with_reducible refine (H1.out).mono ?_); rintro r w1 ⟨rfl, hE⟩))
    go_ret2
    exact ⟨rfl, REdt.pre HA.out hE⟩
  rw [if_neg k1]
  by_cases k2 : o.kind = 2
  · rw [if_pos k2]
    obtain ⟨kind, id, pl, nm, vl, bx⟩ := o
    simp only at k2 H2 HA ⊢
    subst k2
    clear H0 H1 H3 H4 k0 k1
    go_enter Tryz.func9, Tryz.ntmps9
    go_wp2_with (go_at_call 37; go_loud ((with_reducible refine (H2.out).mono ?_); rintro r w1 ⟨rfl, hE⟩))
    go_ret2
    exact ⟨rfl, REdt.pre HA.out hE⟩
  rw [if_neg k2]
  by_cases k3 : o.kind = 3
  · rw [if_pos k3]
    obtain ⟨kind, id, pl, nm, vl, bx⟩ := o
    simp only at k3 H3 HA ⊢
    subst k3
    clear H0 H1 H2 H4 k0 k1 k2
    go_enter Tryz.func9, Tryz.ntmps9
    go_wp2_with (go_at_call 38; go_loud ((with_reducible refine (H3.out).mono ?_); rintro r w1 ⟨rfl, hE⟩))
    go_ret2
    exact ⟨rfl, REdt.pre HA.out hE⟩
  rw [if_neg k3]
  by_cases k4 : o.kind = 4
  · rw [if_pos k4]
    obtain ⟨kind, id, pl, nm, vl, bx⟩ := o
    unfold Opn.okB
    simp only at k4 H4 HA ⊢
    subst k4
    clear H0 H1 H2 H3 k0 k1 k2 k3
    go_enter Tryz.func9, Tryz.ntmps9
    go_wp2_with (go_at_call 39; go_loud ((with_reducible refine (H4.out).mono ?_); rintro r w1 ⟨rfl, hE⟩))
    go_ret2
    exact ⟨rfl, REdt.pre HA.out hE⟩
  rw [if_neg k4]
  obtain ⟨kind, id, pl, nm, vl, bx⟩ := o
  simp only at k0 k1 k2 k3 k4 HA ⊢
  clear H0 H1 H2 H3 H4
  go_enter Tryz.func9, Tryz.ntmps9
  go_wp2_with fail
  go_ret2
  exact ⟨rfl, REdt.no HT.out HA.out⟩
end Go.Proofs.YtdbddnkjiehaiaaGreat
