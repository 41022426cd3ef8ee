/- For every expression whose values are no more than 1048576 in number the statement NormForms answers true: norm.Form answers as the document's own form does. -/
import Derived.Test.YthmicnjigfcljaaRows
import Derived.Test.YthmicnjigfcljaaRForm4
import Derived.Test.YthmicnjigfcljaaRefSame
import Derived.Test.YthmicnjigfcljaaMp
import Derived.Test.YthmicnjigfcljaaOpenX
import Derived.JoinedCond
set_option linter.unusedSimpArgs false
set_option linter.unusedVariables false
namespace Go.Proofs.Ythmicnjigfcljaa
open Go.ChangeShapes Go.WideShapes Go.ChangeAt Go.RowKit

theorem zs_ok (W : World) : FormOk W (fun _ => True) (.mk (zs 0) []) (formC (zs 0) (.slice none 0 0)) :=
  FormOk_form (zs_len 0) (fun p hp => by
    obtain ⟨j, _, rfl⟩ := List.mem_map.1 hp
    simp [I64p, I64]) (SlAt_nil _ _ _ _)

set_option maxRecDepth 100000 in
set_option maxHeartbeats 8000000 in
theorem normForms_yes (m : Nat) (t : Ex) (cs : List Value) (w : World) (h : ExAt w m t cs) (hsz : szE m t ≤ 1048576) (h0 : askE m t 2 = 0) :
    Calls Try.prog 3 #[.agg cs.toArray] w (Gives w (.bool true)) := by
  obtain ⟨hm, hk⟩ := ask_zero h0
  have c1 : ∀ W, w.grows W → Calls Try.prog 16 #[.agg cs.toArray] W (FormT W (fun _ => True) (formE m t)) := fun W hW => normForm_ok m t cs W (fun _ => True) (fun _ _ => trivial) (h.grows hW) h0 hsz
  have c2 : ∀ W, w.grows W → Calls Try.prog 17 #[.agg cs.toArray] W (Gives W (.tuple #[.int .i64 2, .int .i64 0])) := fun W hW => by
    have := ref12Kind_any m t cs W (h.grows hW)
    rw [hm, if_pos rfl, if_pos rfl, hk, if_neg (by decide)] at this
    exact this
  have c3 : ∀ W, w.grows W → Calls Try.prog 20 #[.agg cs.toArray] W (FormP W (fun _ => True) (formE m t)) := fun W hW => rform_all m t cs 340 W (fun _ => True) (fun _ _ => trivial) (h.grows hW) hm (Nat.le_refl _) hk hsz
  obtain ⟨v0, v1, v2, v3, va, vl, vc, rfl⟩ := ExAt_vals h
  generalize formE m t = F at *
  have C1 := Lib.hid c1; have C2 := Lib.hid c2; have C3 := Lib.hid c3; clear c1 c2 c3 h hsz h0 hm hk
  go_enter Try.func3, Try.ntmps3
  go_wp2_with (first | (go_at_call 16; (with_reducible refine (C1.out _ (by repeat (with_reducible first | assumption | exact World.grows.refl | apply World.grows.plus | apply World.grows.alloc | apply World.grows.drew | (refine World.grows.setRow' ?_ (by omega) _) | (refine World.grows.setCell' ?_ (by omega) _ _)))).mono ?_); rintro e w1 ⟨a5, c5, rfl, hg5, h57, h5b, h5s⟩; have hgw1 : w.grows w1 := World.grows.trans (by repeat (with_reducible first | assumption | exact World.grows.refl | apply World.grows.plus | apply World.grows.alloc | apply World.grows.drew | (refine World.grows.setRow' ?_ (by omega) _) | (refine World.grows.setCell' ?_ (by omega) _ _))) hg5; have q1 := hg5.row_eq (g := w.heap.size) (by simp); simp [go_sem] at q1; have t1 := row_sz' q1; have H5B := Lib.hid h5b; have H5S := Lib.hid h5s; clear h5b h5s hg5) | (go_at_call 17; (with_reducible refine (C2.out _ (by repeat (with_reducible first | assumption | exact World.grows.refl | apply World.grows.plus | apply World.grows.alloc | apply World.grows.drew | (refine World.grows.setRow' ?_ (by omega) _) | (refine World.grows.setCell' ?_ (by omega) _ _)))).mono ?_); rintro e w2 ⟨rfl, x2, rfl⟩))
  refine wp_region_plus_seq (by kernel_rfl) (by kernel_rfl) (fun x0 => ?_)
  repeat (any_goals (first | (refine wpSeqL_free rfl ?_; first | (go_big_quiet_skip; refine wpQuiet_nil ?_) | (go_big_quiet_step (fail); refine wpQuiet_nil ?_) | (refine wpQuiet_step (fun K hK => ?_); go_simp; split <;> (refine hK _ ?_; clear hK K; refine wpQuiet_nil ?_))) | (refine wpSeqL_link rfl (fun K hK => ?_); go_simp; first | first | (refine hK _ _ (by show World.grows _ _; repeat (first | assumption | exact World.grows.refl | apply World.grows.plus | apply World.grows.alloc | apply World.grows.drew)) ?_; clear hK K) | (((first | (go_at_call 20; (with_reducible refine (C3.out _ (by repeat (with_reducible first | assumption | exact World.grows.refl | apply World.grows.plus | apply World.grows.alloc | apply World.grows.drew | (refine World.grows.setRow' ?_ (by omega) _) | (refine World.grows.setCell' ?_ (by omega) _ _)))).mono ?_); rintro e w3 ⟨a6, c6, rfl, hg6, h67, h6b, h6s⟩; have hrw3 : w1.grows w3 := World.grows.trans (by repeat (with_reducible first | assumption | exact World.grows.refl | apply World.grows.plus | apply World.grows.alloc | apply World.grows.drew | (refine World.grows.setRow' ?_ (by omega) _) | (refine World.grows.setCell' ?_ (by omega) _ _))) hg6; have hrw4 : ((w1.alloc (.cells (formC F.us (.slice a5 F.ps.length c5)).toArray 30)).plus x2).grows w3 := World.grows.trans (by repeat (with_reducible first | assumption | exact World.grows.refl | apply World.grows.plus | apply World.grows.alloc | apply World.grows.drew | (refine World.grows.setRow' ?_ (by omega) _) | (refine World.grows.setCell' ?_ (by omega) _ _))) hg6; have hgw3 : w.grows w3 := World.grows.trans hgw1 hrw3; have H6B := Lib.hid h6b; have H6S := Lib.hid h6s; clear h6b h6s) | (go_at_call 18; (with_reducible refine (refSame_any F _ _ _ (fun _ => True) (fun _ => True) ((FormOk_of_parts h57 H5B.out H5S.out).grows (by repeat (with_reducible first | assumption | exact World.grows.refl | apply World.grows.plus | apply World.grows.alloc | apply World.grows.drew | (refine World.grows.setRow' ?_ (by omega) _) | (refine World.grows.setCell' ?_ (by omega) _ _)))) ((FormOk_of_parts h67 H6B.out H6S.out).grows (by repeat (with_reducible first | assumption | exact World.grows.refl | apply World.grows.plus | apply World.grows.alloc | apply World.grows.drew | (refine World.grows.setRow' ?_ (by omega) _) | (refine World.grows.setCell' ?_ (by omega) _ _))))).mono ?_); rintro e w4 ⟨rfl, x4, rfl⟩) | (go_at_call 19; (with_reducible refine (awake12_any _).mono ?_); rintro e w5 ⟨rfl, x5, rfl⟩))); refine ⟨_, rfl, hK _ _ (by show World.grows _ _; repeat (first | assumption | exact World.grows.refl | apply World.grows.plus | apply World.grows.alloc | apply World.grows.drew)) ?_⟩; clear hK K) | (split <;> (first | (refine hK _ _ (by show World.grows _ _; repeat (first | assumption | exact World.grows.refl | apply World.grows.plus | apply World.grows.alloc | apply World.grows.drew)) ?_; clear hK K) | (((first | (go_at_call 20; (with_reducible refine (C3.out _ (by repeat (with_reducible first | assumption | exact World.grows.refl | apply World.grows.plus | apply World.grows.alloc | apply World.grows.drew | (refine World.grows.setRow' ?_ (by omega) _) | (refine World.grows.setCell' ?_ (by omega) _ _)))).mono ?_); rintro e w3 ⟨a6, c6, rfl, hg6, h67, h6b, h6s⟩; have hrw3 : w1.grows w3 := World.grows.trans (by repeat (with_reducible first | assumption | exact World.grows.refl | apply World.grows.plus | apply World.grows.alloc | apply World.grows.drew | (refine World.grows.setRow' ?_ (by omega) _) | (refine World.grows.setCell' ?_ (by omega) _ _))) hg6; have hrw4 : ((w1.alloc (.cells (formC F.us (.slice a5 F.ps.length c5)).toArray 30)).plus x2).grows w3 := World.grows.trans (by repeat (with_reducible first | assumption | exact World.grows.refl | apply World.grows.plus | apply World.grows.alloc | apply World.grows.drew | (refine World.grows.setRow' ?_ (by omega) _) | (refine World.grows.setCell' ?_ (by omega) _ _))) hg6; have hgw3 : w.grows w3 := World.grows.trans hgw1 hrw3; have H6B := Lib.hid h6b; have H6S := Lib.hid h6s; clear h6b h6s) | (go_at_call 18; (with_reducible refine (refSame_any F _ _ _ (fun _ => True) (fun _ => True) ((FormOk_of_parts h57 H5B.out H5S.out).grows (by repeat (with_reducible first | assumption | exact World.grows.refl | apply World.grows.plus | apply World.grows.alloc | apply World.grows.drew | (refine World.grows.setRow' ?_ (by omega) _) | (refine World.grows.setCell' ?_ (by omega) _ _)))) ((FormOk_of_parts h67 H6B.out H6S.out).grows (by repeat (with_reducible first | assumption | exact World.grows.refl | apply World.grows.plus | apply World.grows.alloc | apply World.grows.drew | (refine World.grows.setRow' ?_ (by omega) _) | (refine World.grows.setCell' ?_ (by omega) _ _))))).mono ?_); rintro e w4 ⟨rfl, x4, rfl⟩) | (go_at_call 19; (with_reducible refine (awake12_any _).mono ?_); rintro e w5 ⟨rfl, x5, rfl⟩))); refine ⟨_, rfl, hK _ _ (by show World.grows _ _; repeat (first | assumption | exact World.grows.refl | apply World.grows.plus | apply World.grows.alloc | apply World.grows.drew)) ?_⟩; clear hK K))))))
  all_goals (refine wpSeqL_end ?_)
  go_wp2_with fail
  all_goals go_ret
  all_goals exact ⟨rfl, (by repeat (with_reducible first | assumption | exact World.grows.refl | apply World.grows.plus | apply World.grows.alloc | apply World.grows.drew | (refine World.grows.setRow' ?_ (by omega) _) | (refine World.grows.setCell' ?_ (by omega) _ _)))⟩

set_option maxRecDepth 100000 in
set_option maxHeartbeats 8000000 in
theorem normForms_no (m : Nat) (t : Ex) (cs : List Value) (w : World) (h : ExAt w m t cs) (h0 : askE m t 2 ≠ 0) :
    Calls Try.prog 3 #[.agg cs.toArray] w (Gives w (.bool true)) := by
  have c1 : ∀ W, w.grows W → _ := fun W hW => normForm_no m t cs W (h.grows hW) h0
  have c2 : ∀ W, w.grows W → _ := fun W hW => ref12Kind_any m t cs W (h.grows hW)
  have c4 : ∀ W, Calls Try.prog 18 #[.agg (formC (zs 0) (.slice none 0 0)).toArray, .agg #[.int .i64 0, .int .i64 0, .int .i64 0, .int .i64 0, .int .i64 0, .int .i64 0, .int .i64 0, .int .i64 0, .int .i64 0, .int .i64 0, .int .i64 0, .int .i64 0, .int .i64 0, .int .i64 0, .slice none 0 0]] W (Gives W (.bool true)) := fun W => refSame_any (.mk (zs 0) []) _ _ W (fun _ => True) (fun _ => True) (zs_ok W) (zs_ok W)
  obtain ⟨v0, v1, v2, v3, va, vl, vc, rfl⟩ := ExAt_vals h
  have hA : askE m t 2 = if mayE m 340 t then (if kindE m t = 2 then 0 else 4) else 1 := rfl
  rw [hA] at c1 h0
  generalize mayE m 340 t = B at *
  generalize kindE m t = K at *
  clear h hA
  cases B
  · simp only [Bool.false_eq_true, if_false] at c1 c2
    have C1 := Lib.hid c1; have C2 := Lib.hid c2; have C4 := Lib.hid c4; clear c1 c2 c4 h0
    go_enter Try.func3, Try.ntmps3
    go_wp2_with (first | (go_at_call 16; (with_reducible refine (C1.out _ (by repeat (with_reducible first | assumption | exact World.grows.refl | apply World.grows.plus | apply World.grows.alloc | apply World.grows.drew | (refine World.grows.setRow' ?_ (by omega) _) | (refine World.grows.setCell' ?_ (by omega) _ _)))).mono ?_); rintro e w1 ⟨rfl, x1, rfl⟩) | (go_at_call 17; (with_reducible refine (C2.out _ (by repeat (with_reducible first | assumption | exact World.grows.refl | apply World.grows.plus | apply World.grows.alloc | apply World.grows.drew | (refine World.grows.setRow' ?_ (by omega) _) | (refine World.grows.setCell' ?_ (by omega) _ _)))).mono ?_); rintro e w2 ⟨rfl, x2, rfl⟩) | (go_at_call 18; (with_reducible refine (C4.out _).mono ?_); rintro e w4 ⟨rfl, x4, rfl⟩) | (go_at_call 19; (with_reducible refine (awake12_any _).mono ?_); rintro e w1 ⟨rfl, x1, rfl⟩))
    all_goals go_ret
    all_goals exact ⟨rfl, (by repeat (with_reducible first | assumption | exact World.grows.refl | apply World.grows.plus | apply World.grows.alloc | apply World.grows.drew | (refine World.grows.setRow' ?_ (by omega) _) | (refine World.grows.setCell' ?_ (by omega) _ _)))⟩
  · simp only [if_true] at c1 c2 h0
    have hK : K ≠ 2 := fun e => h0 (by rw [if_pos e])
    rw [if_neg hK] at c1
    by_cases hK0 : K = 0
    · subst hK0
      simp only [if_true] at c2
      have C1 := Lib.hid c1; have C2 := Lib.hid c2; have C4 := Lib.hid c4; clear c1 c2 c4 h0
      go_enter Try.func3, Try.ntmps3
      go_wp2_with (first | (go_at_call 16; (with_reducible refine (C1.out _ (by repeat (with_reducible first | assumption | exact World.grows.refl | apply World.grows.plus | apply World.grows.alloc | apply World.grows.drew | (refine World.grows.setRow' ?_ (by omega) _) | (refine World.grows.setCell' ?_ (by omega) _ _)))).mono ?_); rintro e w1 ⟨rfl, x1, rfl⟩) | (go_at_call 17; (with_reducible refine (C2.out _ (by repeat (with_reducible first | assumption | exact World.grows.refl | apply World.grows.plus | apply World.grows.alloc | apply World.grows.drew | (refine World.grows.setRow' ?_ (by omega) _) | (refine World.grows.setCell' ?_ (by omega) _ _)))).mono ?_); rintro e w2 ⟨rfl, x2, rfl⟩) | (go_at_call 18; (with_reducible refine (C4.out _).mono ?_); rintro e w4 ⟨rfl, x4, rfl⟩) | (go_at_call 19; (with_reducible refine (awake12_any _).mono ?_); rintro e w1 ⟨rfl, x1, rfl⟩))
      all_goals go_ret
      all_goals exact ⟨rfl, (by repeat (with_reducible first | assumption | exact World.grows.refl | apply World.grows.plus | apply World.grows.alloc | apply World.grows.drew | (refine World.grows.setRow' ?_ (by omega) _) | (refine World.grows.setCell' ?_ (by omega) _ _)))⟩
    · rw [if_neg hK0] at c2
      have e1 : (K == 2) = false := by simpa using hK
      have e2 : (K != 2) = true := by simpa using hK
      have C1 := Lib.hid c1; have C2 := Lib.hid c2; have C4 := Lib.hid c4; clear c1 c2 c4 h0 hK hK0
      go_enter Try.func3, Try.ntmps3
      go_wp2_with (first | (go_at_call 16; (with_reducible refine (C1.out _ (by repeat (with_reducible first | assumption | exact World.grows.refl | apply World.grows.plus | apply World.grows.alloc | apply World.grows.drew | (refine World.grows.setRow' ?_ (by omega) _) | (refine World.grows.setCell' ?_ (by omega) _ _)))).mono ?_); rintro e w1 ⟨rfl, x1, rfl⟩) | (go_at_call 17; (with_reducible refine (C2.out _ (by repeat (with_reducible first | assumption | exact World.grows.refl | apply World.grows.plus | apply World.grows.alloc | apply World.grows.drew | (refine World.grows.setRow' ?_ (by omega) _) | (refine World.grows.setCell' ?_ (by omega) _ _)))).mono ?_); rintro e w2 ⟨rfl, x2, rfl⟩) | (go_at_call 18; (with_reducible refine (C4.out _).mono ?_); rintro e w4 ⟨rfl, x4, rfl⟩) | (go_at_call 19; (with_reducible refine (awake12_any _).mono ?_); rintro e w1 ⟨rfl, x1, rfl⟩))
      all_goals go_ret
      all_goals exact ⟨rfl, (by repeat (with_reducible first | assumption | exact World.grows.refl | apply World.grows.plus | apply World.grows.alloc | apply World.grows.drew | (refine World.grows.setRow' ?_ (by omega) _) | (refine World.grows.setCell' ?_ (by omega) _ _)))⟩
theorem normForms_law (m : Nat) (t : Ex) (cs : List Value) (w : World) (h : ExAt w m t cs) (hsz : szE m t ≤ 1048576) :
    Calls Try.prog 3 #[.agg cs.toArray] w (Gives w (.bool true)) := by
  by_cases h0 : askE m t 2 = 0
  · exact normForms_yes m t cs w h hsz h0
  · exact normForms_no m t cs w h h0

theorem normForms_own : ownKnob Try.prog.godebug = none := by kernel_rfl
theorem normForms_laidOut : laidOutB Try.prog = true := by kernel_rfl
set_option maxRecDepth 100000 in
set_option maxHeartbeats 2000000 in
theorem normForms_lifted (os : Os) (started : os.Started) (H : Type) (enc : TypeId × Value → H) (F : Stop.Interp) :
    ReturnsInHanded {} Try.checked os 3 .any ((Rows.OpenSpec.upto Rows.normFormsSpec).pre6 enc Try.prog Try.f3 Rows.normFormsUptoRow.domain false) (((Rows.OpenSpec.upto Rows.normFormsSpec).at F).post enc Try.prog Try.f3 false true false false) := by
  refine returnsInHanded_of_cond (C := Try.checked) (s := Rows.OpenSpec.upto Rows.normFormsSpec) (k := Rows.uptoSmall) rfl normForms_own started (by kernel_rfl) Try.func3
    (OpenSpec.witness (enc := enc) (C := Try.checked) (s := Rows.OpenSpec.upto Rows.normFormsSpec) (k := Rows.uptoSmall) rfl false ⟨#[], #[.agg #[.int .i64 0, .int .i64 0, .int .i64 0, .int .i64 0, .slice none 0 0]], []⟩ 8 (by kernel_rfl) (by kernel_rfl) (by kernel_rfl)
      (x := ([.agg [.lit (.int .i64 0), .agg [.lit (.int .i64 0), .lit (.int .i64 0)], .lit (.int .i64 0), .nil]], [], [])) (by kernel_rfl) rfl (by kernel_rfl)) ?_
  intro W base args ds gs before hval0 hW hcnd hk _
  have hval : ∀ (j : Nat) t v, Try.f3.params[j]? = some t → args[j]? = some v → Value.okWide Try.prog W .any base t v := hval0
  have hW' := hW
  obtain ⟨p, q, hA0, hV, rfl, hfz, hnd⟩ := hW
  have hA : DataW.TrodAll enc Try.prog W 0 (fun _ => true) true Try.f3.params.toList args.toList ds p := hA0
  rw [Try.params3] at hA hval
  obtain ⟨v0, vs0, d0, ds0, p0, q0, hargs, rfl, rfl, h0, r0⟩ := trodAll_cons hA
  obtain ⟨rfl, rfl, rfl⟩ := trodAll_nil r0
  obtain rfl : args = #[v0] := by cases args; simp_all
  obtain ⟨rfl, rfl⟩ := trodVars_none hV
  have hbk := bulk_bound hk
  simp only [List.append_nil, Rows.uptoBulkAll] at hbk
  have k0 := h0
  have lt0 : ∀ x ∈ p0, x.block < W.heap.size := by obtain ⟨m, hm⟩ := k0; exact DataW.trod_lt m _ _ _ hm
  obtain ⟨m_E, t_E, cs_E, rfl, h_E, b_E⟩ := ex_arg (hval 0 26 v0 rfl rfl) h0
  clear hA0 hval0
  refine (normForms_law m_E t_E cs_E W h_E (by omega)).mono fun e W' ⟨he, grw⟩ => ?_
  subst he
  have bel := grw.below
  exact ⟨_, rfl, _, _, _, [], _, [], hW', trodAll_mk1 (shut_bool Try.underlying4 _), (trodAll_cons_mk (Below.trod normForms_laidOut (by kernel_rfl) (of_decide_eq_true (by kernel_rfl)) k0 bel lt0) trodAll_mk0), rfl, bel.frame _, fun h => by cases h⟩

/-- THE STATEMENT -/
theorem normForms_holds : Rows.NormFormsUptoSaid :=
  OpenClaim.holds_of_cond 3 Try.f3 rfl rfl rfl rfl rfl rfl rfl ⟨rfl, rfl, rfl, rfl, rfl⟩ rfl rfl rfl rfl rfl (by kernel_rfl) Try.func3 (by kernel_rfl)
    (of_decide_eq_true (by kernel_rfl)) (by unfold Func.isWrapper; first | (rw [if_pos (by decide +kernel)]; kernel_rfl) | (rw [if_neg (by decide +kernel)]; exact ⟨rfl, rfl⟩))
    (fun os started H enc _ F => normForms_lifted os started H enc F)
#print axioms normForms_holds
end Go.Proofs.Ythmicnjigfcljaa
