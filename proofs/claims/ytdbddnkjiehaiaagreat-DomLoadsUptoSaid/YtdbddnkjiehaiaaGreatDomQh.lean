/- WALK over jalousieref8: Insert, whole. No condition but that a row of elements stands in memory. -/
import Derived.Test.YtdbddnkjiehaiaaGreatDomQg
set_option linter.unusedSimpArgs false
set_option linter.unusedVariables false
namespace Go.Proofs.YtdbddnkjiehaiaaGreat
open Go.Maps Go.RowKit Go.Sort
set_option maxRecDepth 100000 in
set_option maxHeartbeats 8000000 in
theorem refIns_any (w : World) (t : Nat) (Q : Nat → Prop) (v : Value) (M : Dm) (h : RefAt w t Q v M) (hG : M.Good) (parent at' : Int) (tag : ByteArray) (ht : tag.size ≤ maxLen) :
    Calls Tryz.prog 35 #[.pointer (some ⟨t, 0, none⟩), .int .i64 parent, .int .i64 at', .string tag] w fun r w' => r = .returned (.tuple #[.int .i64 (M.ins parent at' tag).1, .int .i64 (M.ins parent at' tag).2.1]) ∧ REdt w t Q (M.ins parent at' tag).2.2 w' := by
  have HAT := Lib.hid (fun (W : World) (hW : w.grows W) (id : Int) => refAt_any W t v M (h.r.grows hW) hG.wf.few id)
  have HR := Lib.hid h
  have hm := fun W => refName_any tag W ht
  cases hat : M.at parent with
  | none =>
    have hp : posE M.els parent = -1 := posE_none (findE_none hat)
    have hbx : M.ins parent at' tag = (0, 5, M) := by unfold Dm.ins; rw [hat]
    rw [hbx]
    clear h hbx hG hat hm
    go_enter Tryz.func35, Tryz.ntmps35
    go_wp2_with (go_at_call 43; go_loud ((with_reducible refine (HAT.out _ (by repeat (with_reducible first | assumption | exact grA | apply grB | apply grC | apply grD | refine grE ?_ (by omega) _ | refine grF ?_ (by omega) _ _)) _).mono ?_); rw [hp]; rintro r w1 ⟨rfl, hg1⟩))
    go_ret2
    exact ⟨rfl, REdt.no HR.out hg1⟩
  | some e =>
    obtain ⟨he, rfl⟩ := findE_some hat
    have HDP := Lib.hid (fun (W : World) (hW : w.grows W) => refDepth_any W t v M (h.r.grows hW) hG e he)
    obtain ⟨k, hp, hkl, hke⟩ := posE_at hG.wf.up he
    obtain ⟨g, cap, rfl, hshp, hcap⟩ := ref_slice h hG
    have hfew := hG.wf.few
    have hkI : (k : Int) < (M.els.length : Int) := by omega
    have hgq := h.qv g rfl
    have htl := h.qlt t h.qt
    have hgl := h.qlt g hgq.1
    obtain ⟨cur, ka, kc, hrg, hcz, hcell, hks, qk⟩ := h.parts hke
    have hkz : k * 11 + 11 ≤ cap * 11 := by have := Nat.mul_le_mul_right 11 (show k + 1 ≤ cap by omega); omega
    have hkl2 := (h.elWf e he).2.2.2.2.2.2.2
    by_cases b1 : at' < 0 ∨ (e.ks.length : Int) < at'
    · have q : M.ins e.id at' tag = (0, 13, M) := by unfold Dm.ins; rw [hat]; simp only; rw [if_pos b1]
      rw [q]
      clear hm h q hat he hG hks qk hshp
      by_cases b2 : at' < 0
      · clear b1
        go_enter Tryz.func35, Tryz.ntmps35
        go_wp2_with (go_at_call 43; go_loud ((with_reducible refine (HAT.out _ (by repeat (with_reducible first | assumption | exact grA | apply grB | apply grC | apply grD | refine grE ?_ (by omega) _ | refine grF ?_ (by omega) _ _)) _).mono ?_); rw [hp]; rintro r w1 ⟨rfl, hg1⟩))
        go_ret2
        exact ⟨rfl, REdt.no HR.out hg1⟩
      · have b3 : (e.ks.length : Int) < at' := by rcases b1 with b | b; exact absurd b b2; exact b
        clear b1
        go_enter Tryz.func35, Tryz.ntmps35
        go_upto_region 4 with (go_at_call 43; go_loud ((with_reducible refine (HAT.out _ (by repeat (with_reducible first | assumption | exact grA | apply grB | apply grC | apply grD | refine grE ?_ (by omega) _ | refine grF ?_ (by omega) _ _)) _).mono ?_); rw [hp]; rintro r w1 ⟨rfl, hg1⟩))
        have hr1 := (hg1.row_eq hgl).trans hrg
        have hx1 := (HR.out.grows hg1).head
        have zr1 := row_sz' hr1
        have zx1 := row_sz' hx1
        go_wp2_with fail
        go_ret2
        exact ⟨rfl, REdt.no HR.out hg1⟩
    · have c1 : ¬ at' < 0 := fun h => b1 (.inl h)
      have c2 : ¬ ((e.ks.length : Int) < at') := fun h => b1 (.inr h)
      cases hnm : nameB tag.data.toList with
      | false =>
        have q : M.ins e.id at' tag = (0, 10, M) := by unfold Dm.ins; rw [hat]; simp only; rw [if_neg b1, if_pos hnm]
        rw [q]
        rw [hnm] at hm
        have HM := Lib.hid hm
        clear hm h q hat he hG hks qk hshp b1 hnm
        go_enter Tryz.func35, Tryz.ntmps35
        go_upto_region 4 with (go_at_call 43; go_loud ((with_reducible refine (HAT.out _ (by repeat (with_reducible first | assumption | exact grA | apply grB | apply grC | apply grD | refine grE ?_ (by omega) _ | refine grF ?_ (by omega) _ _)) _).mono ?_); rw [hp]; rintro r w1 ⟨rfl, hg1⟩))
        have hr1 := (hg1.row_eq hgl).trans hrg
        have hx1 := (HR.out.grows hg1).head
        have zr1 := row_sz' hr1
        have zx1 := row_sz' hx1
        go_wp2_with (go_at_call 14; (with_reducible refine (HM.out _).mono ?_); rintro e w1 ⟨rfl, x1, rfl⟩)
        go_ret2
        exact ⟨rfl, REdt.no HR.out (by repeat (with_reducible first | assumption | exact grA | apply grB | apply grC | apply grD | refine grE ?_ (by omega) _ | refine grF ?_ (by omega) _ _))⟩
      | true =>
        rw [hnm] at hm
        have HM := Lib.hid hm
        by_cases b4 : 256 ≤ M.els.length ∨ 1073741824 < M.next
        · have q : M.ins e.id at' tag = (0, 6, M) := by unfold Dm.ins; rw [hat]; simp only; rw [if_neg b1, if_neg (by rw [hnm]; decide), if_pos b4]
          rw [q]
          clear hm h q hat he hG hks qk hshp b1 hnm
          go_enter Tryz.func35, Tryz.ntmps35
          go_upto_region 4 with (go_at_call 43; go_loud ((with_reducible refine (HAT.out _ (by repeat (with_reducible first | assumption | exact grA | apply grB | apply grC | apply grD | refine grE ?_ (by omega) _ | refine grF ?_ (by omega) _ _)) _).mono ?_); rw [hp]; rintro r w1 ⟨rfl, hg1⟩))
          have hr1 := (hg1.row_eq hgl).trans hrg
          have hx1 := (HR.out.grows hg1).head
          have zr1 := row_sz' hr1
          have zx1 := row_sz' hx1
          go_upto_region 8 with (go_at_call 14; (with_reducible refine (HM.out _).mono ?_); rintro e w1 ⟨rfl, x1, rfl⟩)
          have hgA : w.grows (w1.plus x1) := (by repeat (with_reducible first | assumption | exact grA | apply grB | apply grC | apply grD | refine grE ?_ (by omega) _ | refine grF ?_ (by omega) _ _))
          generalize w1.plus x1 = wA at *
          have hrA := (hgA.row_eq hgl).trans hrg
          have hxA := (HR.out.grows hgA).head
          have zrA := row_sz' hrA
          have zxA := row_sz' hxA
          clear hr1 hx1 zr1 zx1
          by_cases b5 : 256 ≤ M.els.length
          · have b6 : 256 ≤ (M.els.length : Int) := by omega
            clear b4
            go_wp2_with fail
            go_ret2
            exact ⟨rfl, REdt.no HR.out (by repeat (with_reducible first | assumption | exact grA | apply grB | apply grC | apply grD | refine grE ?_ (by omega) _ | refine grF ?_ (by omega) _ _))⟩
          · have b6 : ¬ 256 ≤ (M.els.length : Int) := by omega
            have b7 : 1073741824 < M.next := by rcases b4 with b | b; exact absurd b b5; exact b
            clear b4
            go_wp2_with fail
            go_ret2
            exact ⟨rfl, REdt.no HR.out (by repeat (with_reducible first | assumption | exact grA | apply grB | apply grC | apply grD | refine grE ?_ (by omega) _ | refine grF ?_ (by omega) _ _))⟩
        · by_cases b5 : 32 ≤ M.deep 32 e.id
          · have q : M.ins e.id at' tag = (0, 7, M) := by unfold Dm.ins; rw [hat]; simp only; rw [if_neg b1, if_neg (by rw [hnm]; decide), if_neg b4, if_pos b5]
            rw [q]
            clear hm h q hat he hG hks qk hshp b1 hnm
            have b6 : ¬ 256 ≤ (M.els.length : Int) := by omega
            have b7 : ¬ 1073741824 < M.next := by omega
            have b8 : 32 ≤ ((M.deep 32 e.id : Nat) : Int) := by omega
            generalize M.deep 32 e.id = dd at *
            clear b4
            go_enter Tryz.func35, Tryz.ntmps35
            go_upto_region 4 with (go_at_call 43; go_loud ((with_reducible refine (HAT.out _ (by repeat (with_reducible first | assumption | exact grA | apply grB | apply grC | apply grD | refine grE ?_ (by omega) _ | refine grF ?_ (by omega) _ _)) _).mono ?_); rw [hp]; rintro r w1 ⟨rfl, hg1⟩))
            have hr1 := (hg1.row_eq hgl).trans hrg
            have hx1 := (HR.out.grows hg1).head
            have zr1 := row_sz' hr1
            have zx1 := row_sz' hx1
            go_upto_region 8 with (go_at_call 14; (with_reducible refine (HM.out _).mono ?_); rintro e w1 ⟨rfl, x1, rfl⟩)
            have hgA : w.grows (w1.plus x1) := (by repeat (with_reducible first | assumption | exact grA | apply grB | apply grC | apply grD | refine grE ?_ (by omega) _ | refine grF ?_ (by omega) _ _))
            generalize w1.plus x1 = wA at *
            have hrA := (hgA.row_eq hgl).trans hrg
            have hxA := (HR.out.grows hgA).head
            have zrA := row_sz' hrA
            have zxA := row_sz' hxA
            clear hr1 hx1 zr1 zx1
            go_wp2_with (go_at_call 19; go_loud ((with_reducible refine (HDP.out _ (by repeat (with_reducible first | assumption | exact grA | apply grB | apply grC | apply grD | refine grE ?_ (by omega) _ | refine grF ?_ (by omega) _ _))).mono ?_); rintro r wB ⟨rfl, hgB0⟩))
            go_ret2
            exact ⟨rfl, REdt.no HR.out (hgA.trans hgB0)⟩
          · obtain ⟨n, rfl⟩ : ∃ n : Nat, at' = (n : Int) := ⟨at'.toNat, by omega⟩
            have q : M.ins e.id n tag = (M.next, 0, ⟨M.root, M.next + 1, updE M.els e.id (insE n M.next) ++ [⟨M.next, e.id, tag, [], [], plainBx⟩]⟩) := by
              unfold Dm.ins; rw [hat]; simp only; rw [if_neg b1, if_neg (by rw [hnm]; decide), if_neg b4, if_neg b5]; rfl
            rw [q]
            exact refIns_ok w t Q _ M h hG e he n (by omega) tag ht hnm (by omega) (by omega) (by omega)
end Go.Proofs.YtdbddnkjiehaiaaGreat
