/- For every expression and context whose values are no more than 1048576 in number the statement UnitDirect answers true: unit.Direct answers as the document's own reckoning does. -/
import Derived.Test.YthmicnjigfcljaaRows
import Derived.Test.YthmicnjigfcljaaUDir
import Derived.Test.YthmicnjigfcljaaUPx
import Derived.Test.YthmicnjigfcljaaOpenX
import Derived.JoinedCond
set_option linter.unusedSimpArgs false
set_option linter.unusedVariables false
namespace Go.Proofs.Ythmicnjigfcljaa
open Go.ChangeShapes Go.WideShapes Go.ChangeAt Go.RowKit

set_option maxRecDepth 100000 in
set_option maxHeartbeats 4000000 in
theorem unitDirectLaw_any (c : Cx) (hcb : c.bd) (m : Nat) (t : Ex) (cs : List Value) (w : World) (h : ExAt w m t cs) (hsz : szE m t ≤ 1048576) :
    Calls Try.prog 15 #[.agg cs.toArray, .agg (cxL c).toArray] w (Gives w (.bool true)) := by
  have c1 : ∀ W, w.grows W → _ := fun W hW => udirect_any c hcb m t cs W (h.grows hW) hsz
  have c2 : ∀ W, w.grows W → _ := fun W hW => rdirect_any c hcb m t cs W (h.grows hW) hsz
  obtain ⟨k0, k1, k2, k3, va, vl, vc, rfl⟩ := ExAt_vals h
  generalize (if kindW m t = 0 then valE (sizeQ c) m t else (0, 0)) = R at *
  obtain ⟨R1, R2⟩ := R
  generalize kindW m t = X at *
  obtain ⟨⟨f1, f2⟩, ⟨r1, r2⟩, ⟨v1, v2⟩, ⟨h1, h2⟩, ⟨cc1, cc2⟩, ⟨d1, d2⟩⟩ := c
  change Calls Try.prog 15 #[_, .agg #[.int .i64 f1, .int .i64 f2, .int .i64 r1, .int .i64 r2, .int .i64 v1, .int .i64 v2, .int .i64 h1, .int .i64 h2, .int .i64 cc1, .int .i64 cc2, .int .i64 d1, .int .i64 d2]] w _
  change ∀ W, w.grows W → Calls Try.prog 49 #[_, .agg #[.int .i64 f1, .int .i64 f2, .int .i64 r1, .int .i64 r2, .int .i64 v1, .int .i64 v2, .int .i64 h1, .int .i64 h2, .int .i64 cc1, .int .i64 cc2, .int .i64 d1, .int .i64 d2]] W _ at c1
  change ∀ W, w.grows W → Calls Try.prog 50 #[_, .agg #[.int .i64 f1, .int .i64 f2, .int .i64 r1, .int .i64 r2, .int .i64 v1, .int .i64 v2, .int .i64 h1, .int .i64 h2, .int .i64 cc1, .int .i64 cc2, .int .i64 d1, .int .i64 d2]] W _ at c2
  have C1 := Lib.hid c1; have C2 := Lib.hid c2; clear c1 c2 h hsz hcb
  go_enter Try.func15, Try.ntmps15
  go_wp2_with (first | (go_at_call 49; (with_reducible refine (C1.out _ (by repeat (with_reducible first | assumption | exact World.grows.refl | apply World.grows.plus | apply World.grows.alloc | apply World.grows.drew | (refine World.grows.setRow' ?_ (by omega) _) | (refine World.grows.setCell' ?_ (by omega) _ _)))).mono ?_); rintro e w1 ⟨rfl, x1, rfl⟩) | (go_at_call 50; (with_reducible refine (C2.out _ (by repeat (with_reducible first | assumption | exact World.grows.refl | apply World.grows.plus | apply World.grows.alloc | apply World.grows.drew | (refine World.grows.setRow' ?_ (by omega) _) | (refine World.grows.setCell' ?_ (by omega) _ _)))).mono ?_); rintro e w1 ⟨rfl, x2, rfl⟩) | (go_at_call 41; (with_reducible refine (awake13_any _).mono ?_); rintro e w1 ⟨rfl, x1, rfl⟩))
  all_goals go_ret
  all_goals exact ⟨rfl, (by repeat (with_reducible first | assumption | exact World.grows.refl | apply World.grows.plus | apply World.grows.alloc | apply World.grows.drew | (refine World.grows.setRow' ?_ (by omega) _) | (refine World.grows.setCell' ?_ (by omega) _ _)))⟩

theorem unitDirect_own : ownKnob Try.prog.godebug = none := by kernel_rfl
theorem unitDirect_laidOut : laidOutB Try.prog = true := by kernel_rfl
set_option maxRecDepth 100000 in
set_option maxHeartbeats 2000000 in
theorem unitDirect_lifted (os : Os) (started : os.Started) (H : Type) (enc : TypeId × Value → H) (F : Stop.Interp) :
    ReturnsInHanded {} Try.checked os 15 .any ((Rows.OpenSpec.upto Rows.unitDirectSpec).pre6 enc Try.prog Try.f15 Rows.unitDirectUptoRow.domain false) (((Rows.OpenSpec.upto Rows.unitDirectSpec).at F).post enc Try.prog Try.f15 false true false false) := by
  refine returnsInHanded_of_cond (C := Try.checked) (s := Rows.OpenSpec.upto Rows.unitDirectSpec) (k := Rows.uptoSmall) rfl unitDirect_own started (by kernel_rfl) Try.func15
    (OpenSpec.witness (enc := enc) (C := Try.checked) (s := Rows.OpenSpec.upto Rows.unitDirectSpec) (k := Rows.uptoSmall) rfl false ⟨#[], #[.agg #[.int .i64 0, .int .i64 0, .int .i64 0, .int .i64 0, .slice none 0 0], .agg #[.int .i64 0, .int .i64 0, .int .i64 0, .int .i64 0, .int .i64 0, .int .i64 0, .int .i64 0, .int .i64 0, .int .i64 0, .int .i64 0, .int .i64 0, .int .i64 0]], []⟩ 8 (by kernel_rfl) (by kernel_rfl) (by kernel_rfl)
      (x := ([.agg [.lit (.int .i64 0), .agg [.lit (.int .i64 0), .lit (.int .i64 0)], .lit (.int .i64 0), .nil], .agg [.agg [.lit (.int .i64 0), .lit (.int .i64 0)], .agg [.lit (.int .i64 0), .lit (.int .i64 0)], .agg [.lit (.int .i64 0), .lit (.int .i64 0)], .agg [.lit (.int .i64 0), .lit (.int .i64 0)], .agg [.lit (.int .i64 0), .lit (.int .i64 0)], .agg [.lit (.int .i64 0), .lit (.int .i64 0)]]], [], [])) (by kernel_rfl) rfl (by kernel_rfl)) ?_
  intro W base args ds gs before hval0 hW hcnd hk _
  have hval : ∀ (j : Nat) t v, Try.f15.params[j]? = some t → args[j]? = some v → Value.okWide Try.prog W .any base t v := hval0
  have hW' := hW
  obtain ⟨p, q, hA0, hV, rfl, hfz, hnd⟩ := hW
  have hA : DataW.TrodAll enc Try.prog W 0 (fun _ => true) true Try.f15.params.toList args.toList ds p := hA0
  rw [Try.params15] at hA hval
  obtain ⟨v0, vs0, d0, ds0, p0, q0, hargs, rfl, rfl, h0, r0⟩ := trodAll_cons hA
  obtain ⟨v1, vs1, d1, ds1, p1, q1, rfl, rfl, rfl, h1, r1⟩ := trodAll_cons r0
  obtain ⟨rfl, rfl, rfl⟩ := trodAll_nil r1
  obtain rfl : args = #[v0, v1] := by cases args; simp_all
  obtain ⟨rfl, rfl⟩ := trodVars_none hV
  have hbk := bulk_bound hk
  simp only [List.append_nil, Rows.uptoBulkAll] at hbk
  have k0 := h0
  have lt0 : ∀ x ∈ p0, x.block < W.heap.size := by obtain ⟨m, hm⟩ := k0; exact DataW.trod_lt m _ _ _ hm
  have k1 := h1
  have lt1 : ∀ x ∈ p1, x.block < W.heap.size := by obtain ⟨m, hm⟩ := k1; exact DataW.trod_lt m _ _ _ hm
  obtain ⟨m_E, t_E, cs_E, rfl, h_E, b_E⟩ := ex_arg (hval 0 26 v0 rfl rfl) h0
  obtain ⟨C_1, C_2, C_3, C_4, C_5, C_6, C_7, C_8, C_9, C_10, C_11, C_12, rfl, w1_0, w1_1, w1_2, w1_3, w1_4, w1_5, w1_6, w1_7, w1_8, w1_9, w1_10, w1_11⟩ := ctx_arg (hval 1 58 v1 rfl rfl) h1
  clear hA0 hval0
  refine (unitDirectLaw_any ⟨(C_1, C_2), (C_3, C_4), (C_5, C_6), (C_7, C_8), (C_9, C_10), (C_11, C_12)⟩ ⟨⟨w1_0, w1_1⟩, ⟨w1_2, w1_3⟩, ⟨w1_4, w1_5⟩, ⟨w1_6, w1_7⟩, ⟨w1_8, w1_9⟩, ⟨w1_10, w1_11⟩⟩ m_E t_E cs_E W h_E (by omega)).mono fun e W' ⟨he, grw⟩ => ?_
  subst he
  have bel := grw.below
  exact ⟨_, rfl, _, _, _, [], _, [], hW', trodAll_mk1 (shut_bool Try.underlying4 _), (trodAll_cons_mk (Below.trod unitDirect_laidOut (by kernel_rfl) (of_decide_eq_true (by kernel_rfl)) k0 bel lt0) (trodAll_cons_mk (Below.trod unitDirect_laidOut (by kernel_rfl) (of_decide_eq_true (by kernel_rfl)) k1 bel lt1) trodAll_mk0)), rfl, bel.frame _, fun h => by cases h⟩

/-- THE STATEMENT -/
theorem unitDirect_holds : Rows.UnitDirectUptoSaid :=
  OpenClaim.holds_of_cond 15 Try.f15 rfl rfl rfl rfl rfl rfl rfl ⟨rfl, rfl, rfl, rfl, rfl⟩ rfl rfl rfl rfl rfl (by kernel_rfl) Try.func15 (by kernel_rfl)
    (of_decide_eq_true (by kernel_rfl)) (by unfold Func.isWrapper; first | (rw [if_pos (by decide +kernel)]; kernel_rfl) | (rw [if_neg (by decide +kernel)]; exact ⟨rfl, rfl⟩))
    (fun os started H enc _ F => unitDirect_lifted os started H enc F)
#print axioms unitDirect_holds
end Go.Proofs.Ythmicnjigfcljaa
