/- For every expression whose values are no more than 1048576 in number the statement NormWhole answers true: few small whole numbers, without division, reckon to a whole number. -/
import Derived.Test.YthmicnjigfcljaaRows
import Derived.Test.YthmicnjigfcljaaFew
import Derived.Test.YthmicnjigfcljaaMp
import Derived.Test.YthmicnjigfcljaaOpenX
import Derived.JoinedCond
set_option linter.unusedSimpArgs false
set_option linter.unusedVariables false
namespace Go.Proofs.Ythmicnjigfcljaa
open Go.ChangeShapes Go.WideShapes Go.ChangeAt Go.RowKit

set_option maxRecDepth 100000 in
set_option maxHeartbeats 8000000 in
theorem normWhole_law (m : Nat) (t : Ex) (cs : List Value) (w : World) (h : ExAt w m t cs) (hsz : szE m t ≤ 1048576) :
    Calls Try.prog 5 #[.agg cs.toArray] w (Gives w (.bool true)) := by
  have c1 : ∀ W, w.grows W → Calls Try.prog 23 #[.agg cs.toArray, .int .i64 0] W (FewP W (fewN m t) (fewB m 0 t)) := fun W hW => few_all m t cs 0 W (h.grows hW) (by omega) hsz
  have c2 : ∀ W, w.grows W → _ := fun W hW => normNumber_any m t cs W (h.grows hW) hsz
  have hlaw : fewB m 0 t = true → askE m t 1 = 0 → fewN m t ≤ 6 → (numE m t).2 = 1 := fun h1 h2 h3 => ((few_whole m 0 340 t h1 (ask_zero h2).1 (ask_zero h2).2).2 h3).1
  have hN : fewN m t ≤ 1048576 := Nat.le_trans (fewN_le m t) hsz
  obtain ⟨v0, v1, v2, v3, va, vl, vc, rfl⟩ := ExAt_vals h
  generalize fewB m 0 t = B at *
  generalize askE m t 1 = X at *
  generalize fewN m t = N at *
  generalize numE m t = R at *
  clear h hsz
  cases B
  · generalize (if X = 0 then R else (0, 0)) = Q at *
    obtain ⟨Q1, Q2⟩ := Q
    have C1 := Lib.hid c1; have C2 := Lib.hid c2; clear c1 c2 hlaw
    go_enter Try.func5, Try.ntmps5
    go_wp2_with (first | (go_at_call 23; (with_reducible refine (C1.out _ (by repeat (with_reducible first | assumption | exact World.grows.refl | apply World.grows.plus | apply World.grows.alloc | apply World.grows.drew | (refine World.grows.setRow' ?_ (by omega) _) | (refine World.grows.setCell' ?_ (by omega) _ _)))).mono ?_); rintro e w1 ⟨n1, rfl, hg1, hn1⟩; have hgw1 : w.grows w1 := World.grows.trans (by repeat (with_reducible first | assumption | exact World.grows.refl | apply World.grows.plus | apply World.grows.alloc | apply World.grows.drew | (refine World.grows.setRow' ?_ (by omega) _) | (refine World.grows.setCell' ?_ (by omega) _ _))) hg1; have q1 := hg1.row_eq (g := w.heap.size) (by simp); simp [go_sem] at q1; have t1 := row_sz' q1; clear hn1) | (go_at_call 21; (with_reducible refine (C2.out _ (by repeat (with_reducible first | assumption | exact World.grows.refl | apply World.grows.plus | apply World.grows.alloc | apply World.grows.drew | (refine World.grows.setRow' ?_ (by omega) _) | (refine World.grows.setCell' ?_ (by omega) _ _)))).mono ?_); rintro e w2 ⟨rfl, x2, rfl⟩) | (go_at_call 19; (with_reducible refine (awake12_any _).mono ?_); rintro e w1 ⟨rfl, x1, rfl⟩))
    all_goals go_ret
    all_goals exact ⟨rfl, (by repeat (with_reducible first | assumption | exact World.grows.refl | apply World.grows.plus | apply World.grows.alloc | apply World.grows.drew | (refine World.grows.setRow' ?_ (by omega) _) | (refine World.grows.setCell' ?_ (by omega) _ _)))⟩
  · by_cases hX : X = 0
    · subst hX
      rw [if_pos rfl] at c2
      obtain ⟨R1, R2⟩ := R
      by_cases h6 : N ≤ 6
      · obtain rfl : R2 = 1 := hlaw rfl rfl h6
        have hd6 : decide ((6 : Int) < (N : Int)) = false := by rw [decide_eq_false_iff_not]; omega
        have hd7 : ¬ (6 : Int) < (N : Int) := by omega
        have C1 := Lib.hid c1; have C2 := Lib.hid c2; clear c1 c2 hlaw h6
        go_enter Try.func5, Try.ntmps5
        go_wp2_with (first | (go_at_call 23; (with_reducible refine (C1.out _ (by repeat (with_reducible first | assumption | exact World.grows.refl | apply World.grows.plus | apply World.grows.alloc | apply World.grows.drew | (refine World.grows.setRow' ?_ (by omega) _) | (refine World.grows.setCell' ?_ (by omega) _ _)))).mono ?_); rintro e w1 ⟨n1, rfl, hg1, hn1⟩; have hgw1 : w.grows w1 := World.grows.trans (by repeat (with_reducible first | assumption | exact World.grows.refl | apply World.grows.plus | apply World.grows.alloc | apply World.grows.drew | (refine World.grows.setRow' ?_ (by omega) _) | (refine World.grows.setCell' ?_ (by omega) _ _))) hg1; obtain rfl : n1 = (N : Int) := hn1 rfl; have q1 := hg1.row_eq (g := w.heap.size) (by simp); simp [go_sem] at q1; have t1 := row_sz' q1; clear hn1) | (go_at_call 21; (with_reducible refine (C2.out _ (by repeat (with_reducible first | assumption | exact World.grows.refl | apply World.grows.plus | apply World.grows.alloc | apply World.grows.drew | (refine World.grows.setRow' ?_ (by omega) _) | (refine World.grows.setCell' ?_ (by omega) _ _)))).mono ?_); rintro e w2 ⟨rfl, x2, rfl⟩) | (go_at_call 19; (with_reducible refine (awake12_any _).mono ?_); rintro e w1 ⟨rfl, x1, rfl⟩))
        all_goals go_ret
        all_goals exact ⟨rfl, (by repeat (with_reducible first | assumption | exact World.grows.refl | apply World.grows.plus | apply World.grows.alloc | apply World.grows.drew | (refine World.grows.setRow' ?_ (by omega) _) | (refine World.grows.setCell' ?_ (by omega) _ _)))⟩
      · have hd6 : decide ((6 : Int) < (N : Int)) = true := by rw [decide_eq_true_eq]; omega
        have hd7 : (6 : Int) < (N : Int) := by omega
        have C1 := Lib.hid c1; have C2 := Lib.hid c2; clear c1 c2 hlaw h6
        go_enter Try.func5, Try.ntmps5
        go_wp2_with (first | (go_at_call 23; (with_reducible refine (C1.out _ (by repeat (with_reducible first | assumption | exact World.grows.refl | apply World.grows.plus | apply World.grows.alloc | apply World.grows.drew | (refine World.grows.setRow' ?_ (by omega) _) | (refine World.grows.setCell' ?_ (by omega) _ _)))).mono ?_); rintro e w1 ⟨n1, rfl, hg1, hn1⟩; have hgw1 : w.grows w1 := World.grows.trans (by repeat (with_reducible first | assumption | exact World.grows.refl | apply World.grows.plus | apply World.grows.alloc | apply World.grows.drew | (refine World.grows.setRow' ?_ (by omega) _) | (refine World.grows.setCell' ?_ (by omega) _ _))) hg1; obtain rfl : n1 = (N : Int) := hn1 rfl; have q1 := hg1.row_eq (g := w.heap.size) (by simp); simp [go_sem] at q1; have t1 := row_sz' q1; clear hn1) | (go_at_call 21; (with_reducible refine (C2.out _ (by repeat (with_reducible first | assumption | exact World.grows.refl | apply World.grows.plus | apply World.grows.alloc | apply World.grows.drew | (refine World.grows.setRow' ?_ (by omega) _) | (refine World.grows.setCell' ?_ (by omega) _ _)))).mono ?_); rintro e w2 ⟨rfl, x2, rfl⟩) | (go_at_call 19; (with_reducible refine (awake12_any _).mono ?_); rintro e w1 ⟨rfl, x1, rfl⟩))
        all_goals go_ret
        all_goals exact ⟨rfl, (by repeat (with_reducible first | assumption | exact World.grows.refl | apply World.grows.plus | apply World.grows.alloc | apply World.grows.drew | (refine World.grows.setRow' ?_ (by omega) _) | (refine World.grows.setCell' ?_ (by omega) _ _)))⟩
    · rw [if_neg hX] at c2
      have hx1 : (X == 0) = false := by simpa using hX
      have hx2 : (X != 0) = true := by simpa using hX
      by_cases h6 : N ≤ 6
      · have hd6 : decide ((6 : Int) < (N : Int)) = false := by rw [decide_eq_false_iff_not]; omega
        have hd7 : ¬ (6 : Int) < (N : Int) := by omega
        have C1 := Lib.hid c1; have C2 := Lib.hid c2; clear c1 c2 hlaw h6 hX
        go_enter Try.func5, Try.ntmps5
        go_wp2_with (first | (go_at_call 23; (with_reducible refine (C1.out _ (by repeat (with_reducible first | assumption | exact World.grows.refl | apply World.grows.plus | apply World.grows.alloc | apply World.grows.drew | (refine World.grows.setRow' ?_ (by omega) _) | (refine World.grows.setCell' ?_ (by omega) _ _)))).mono ?_); rintro e w1 ⟨n1, rfl, hg1, hn1⟩; have hgw1 : w.grows w1 := World.grows.trans (by repeat (with_reducible first | assumption | exact World.grows.refl | apply World.grows.plus | apply World.grows.alloc | apply World.grows.drew | (refine World.grows.setRow' ?_ (by omega) _) | (refine World.grows.setCell' ?_ (by omega) _ _))) hg1; obtain rfl : n1 = (N : Int) := hn1 rfl; have q1 := hg1.row_eq (g := w.heap.size) (by simp); simp [go_sem] at q1; have t1 := row_sz' q1; clear hn1) | (go_at_call 21; (with_reducible refine (C2.out _ (by repeat (with_reducible first | assumption | exact World.grows.refl | apply World.grows.plus | apply World.grows.alloc | apply World.grows.drew | (refine World.grows.setRow' ?_ (by omega) _) | (refine World.grows.setCell' ?_ (by omega) _ _)))).mono ?_); rintro e w2 ⟨rfl, x2, rfl⟩) | (go_at_call 19; (with_reducible refine (awake12_any _).mono ?_); rintro e w1 ⟨rfl, x1, rfl⟩))
        all_goals go_ret
        all_goals exact ⟨rfl, (by repeat (with_reducible first | assumption | exact World.grows.refl | apply World.grows.plus | apply World.grows.alloc | apply World.grows.drew | (refine World.grows.setRow' ?_ (by omega) _) | (refine World.grows.setCell' ?_ (by omega) _ _)))⟩
      · have hd6 : decide ((6 : Int) < (N : Int)) = true := by rw [decide_eq_true_eq]; omega
        have hd7 : (6 : Int) < (N : Int) := by omega
        have C1 := Lib.hid c1; have C2 := Lib.hid c2; clear c1 c2 hlaw h6 hX
        go_enter Try.func5, Try.ntmps5
        go_wp2_with (first | (go_at_call 23; (with_reducible refine (C1.out _ (by repeat (with_reducible first | assumption | exact World.grows.refl | apply World.grows.plus | apply World.grows.alloc | apply World.grows.drew | (refine World.grows.setRow' ?_ (by omega) _) | (refine World.grows.setCell' ?_ (by omega) _ _)))).mono ?_); rintro e w1 ⟨n1, rfl, hg1, hn1⟩; have hgw1 : w.grows w1 := World.grows.trans (by repeat (with_reducible first | assumption | exact World.grows.refl | apply World.grows.plus | apply World.grows.alloc | apply World.grows.drew | (refine World.grows.setRow' ?_ (by omega) _) | (refine World.grows.setCell' ?_ (by omega) _ _))) hg1; obtain rfl : n1 = (N : Int) := hn1 rfl; have q1 := hg1.row_eq (g := w.heap.size) (by simp); simp [go_sem] at q1; have t1 := row_sz' q1; clear hn1) | (go_at_call 21; (with_reducible refine (C2.out _ (by repeat (with_reducible first | assumption | exact World.grows.refl | apply World.grows.plus | apply World.grows.alloc | apply World.grows.drew | (refine World.grows.setRow' ?_ (by omega) _) | (refine World.grows.setCell' ?_ (by omega) _ _)))).mono ?_); rintro e w2 ⟨rfl, x2, rfl⟩) | (go_at_call 19; (with_reducible refine (awake12_any _).mono ?_); rintro e w1 ⟨rfl, x1, rfl⟩))
        all_goals go_ret
        all_goals exact ⟨rfl, (by repeat (with_reducible first | assumption | exact World.grows.refl | apply World.grows.plus | apply World.grows.alloc | apply World.grows.drew | (refine World.grows.setRow' ?_ (by omega) _) | (refine World.grows.setCell' ?_ (by omega) _ _)))⟩

theorem normWhole_own : ownKnob Try.prog.godebug = none := by kernel_rfl
theorem normWhole_laidOut : laidOutB Try.prog = true := by kernel_rfl
set_option maxRecDepth 100000 in
set_option maxHeartbeats 2000000 in
theorem normWhole_lifted (os : Os) (started : os.Started) (H : Type) (enc : TypeId × Value → H) (F : Stop.Interp) :
    ReturnsInHanded {} Try.checked os 5 .any ((Rows.OpenSpec.upto Rows.normWholeSpec).pre6 enc Try.prog Try.f5 Rows.normWholeUptoRow.domain false) (((Rows.OpenSpec.upto Rows.normWholeSpec).at F).post enc Try.prog Try.f5 false true false false) := by
  refine returnsInHanded_of_cond (C := Try.checked) (s := Rows.OpenSpec.upto Rows.normWholeSpec) (k := Rows.uptoSmall) rfl normWhole_own started (by kernel_rfl) Try.func5
    (OpenSpec.witness (enc := enc) (C := Try.checked) (s := Rows.OpenSpec.upto Rows.normWholeSpec) (k := Rows.uptoSmall) rfl false ⟨#[], #[.agg #[.int .i64 0, .int .i64 0, .int .i64 0, .int .i64 0, .slice none 0 0]], []⟩ 8 (by kernel_rfl) (by kernel_rfl) (by kernel_rfl)
      (x := ([.agg [.lit (.int .i64 0), .agg [.lit (.int .i64 0), .lit (.int .i64 0)], .lit (.int .i64 0), .nil]], [], [])) (by kernel_rfl) rfl (by kernel_rfl)) ?_
  intro W base args ds gs before hval0 hW hcnd hk _
  have hval : ∀ (j : Nat) t v, Try.f5.params[j]? = some t → args[j]? = some v → Value.okWide Try.prog W .any base t v := hval0
  have hW' := hW
  obtain ⟨p, q, hA0, hV, rfl, hfz, hnd⟩ := hW
  have hA : DataW.TrodAll enc Try.prog W 0 (fun _ => true) true Try.f5.params.toList args.toList ds p := hA0
  rw [Try.params5] at hA hval
  obtain ⟨v0, vs0, d0, ds0, p0, q0, hargs, rfl, rfl, h0, r0⟩ := trodAll_cons hA
  obtain ⟨rfl, rfl, rfl⟩ := trodAll_nil r0
  obtain rfl : args = #[v0] := by cases args; simp_all
  obtain ⟨rfl, rfl⟩ := trodVars_none hV
  have hbk := bulk_bound hk
  simp only [List.append_nil, Rows.uptoBulkAll] at hbk
  have k0 := h0
  have lt0 : ∀ x ∈ p0, x.block < W.heap.size := by obtain ⟨m, hm⟩ := k0; exact DataW.trod_lt m _ _ _ hm
  obtain ⟨m_E, t_E, cs_E, rfl, h_E, b_E⟩ := ex_arg (hval 0 26 v0 rfl rfl) h0
  clear hA0 hval0
  refine (normWhole_law m_E t_E cs_E W h_E (by omega)).mono fun e W' ⟨he, grw⟩ => ?_
  subst he
  have bel := grw.below
  exact ⟨_, rfl, _, _, _, [], _, [], hW', trodAll_mk1 (shut_bool Try.underlying4 _), (trodAll_cons_mk (Below.trod normWhole_laidOut (by kernel_rfl) (of_decide_eq_true (by kernel_rfl)) k0 bel lt0) trodAll_mk0), rfl, bel.frame _, fun h => by cases h⟩

/-- THE STATEMENT -/
theorem normWhole_holds : Rows.NormWholeUptoSaid :=
  OpenClaim.holds_of_cond 5 Try.f5 rfl rfl rfl rfl rfl rfl rfl ⟨rfl, rfl, rfl, rfl, rfl⟩ rfl rfl rfl rfl rfl (by kernel_rfl) Try.func5 (by kernel_rfl)
    (of_decide_eq_true (by kernel_rfl)) (by unfold Func.isWrapper; first | (rw [if_pos (by decide +kernel)]; kernel_rfl) | (rw [if_neg (by decide +kernel)]; exact ⟨rfl, rfl⟩))
    (fun os started H enc _ F => normWhole_lifted os started H enc F)
#print axioms normWhole_holds
end Go.Proofs.Ythmicnjigfcljaa
