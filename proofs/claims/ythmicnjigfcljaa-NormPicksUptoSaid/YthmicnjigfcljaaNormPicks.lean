/- For every list of forms whose values are no more than 1048576 in number the statement NormPicks answers true: norm.Pick answers as the document does. -/
import Derived.Test.YthmicnjigfcljaaRows
import Derived.Test.YthmicnjigfcljaaAll
import Derived.Test.YthmicnjigfcljaaRFmPick
import Derived.Test.YthmicnjigfcljaaRefSame
import Derived.Test.YthmicnjigfcljaaMp
import Derived.Test.YthmicnjigfcljaaOpenF
import Derived.JoinedCond
set_option linter.unusedSimpArgs false
set_option linter.unusedVariables false
namespace Go.Proofs.Ythmicnjigfcljaa
open Go.ChangeShapes Go.WideShapes Go.ChangeAt Go.RowKit

theorem zeroF_okP (W : World) : FormOk W (fun _ => True) zeroF (formC zeroU (.slice none 0 0)) := FormOk_form zeroU_len zeroU_bd (SlAt_nil _ _ _ _)

set_option maxRecDepth 100000 in
set_option maxHeartbeats 8000000 in
theorem normPicks_law (l : List Fm) (v : Value) (most : Bool) (w : World) (hl : SlAt w (fun _ => True) 15 (FormOk w fun _ => True) v l) (hlen : l.length ≤ 1048576) (hsz : szM l ≤ 1048576) :
    Calls Try.prog 9 #[v, .bool most] w (Gives w (.bool true)) := by
  have c1 := fun W (hW : w.grows W) => lawAll_any l v W _ (hl.grows hW (fun x _ cs h => h.grows hW))
  have c2 : ∀ W o, w.grows W → w.heap.size ≤ o → o < W.heap.size → Calls Try.prog 37 #[.bool most, v] W (FormP W (fun g => g ≠ o) (pickF most l)) := fun W o hW h1 h2 =>
    refPick_any most l v W _ (fun g hg => by omega) ((hl.keep (W := w) (S' := fun g => g ≠ o) (fun g _ hl => ⟨rfl, by omega⟩) (fun f _ cs hf => hf.keep (fun g _ hl => ⟨rfl, by omega⟩))).grows hW (fun x _ cs h => h.grows hW)) (by omega)
  have c3 : ∀ W, w.grows W → Calls Try.prog 38 #[.bool most, v] W (FormP W (fun g => W.heap.size ≤ g) (if l.all (mayF 340) then pickF most l else zeroF)) := fun W hW => by
    by_cases h0 : l.length = 0
    · obtain rfl := List.length_eq_zero_iff.1 h0
      have e : pickF most [] = zeroF := by cases most <;> rfl
      rw [e, ite_self]
      exact normPick_none most v W (hl.grows hW (fun x _ cs h => h.grows hW))
    · exact normPick_any most l v W (hl.grows hW (fun x _ cs h => h.grows hW)) hlen hsz h0
  generalize pickF most l = F at *
  generalize l.all (mayF 340) = B at *
  obtain ⟨a, c, rfl, _⟩ := hl.len
  have C1 := Lib.hid c1; have C2 := Lib.hid c2
  clear c1 c2 hl hsz
  cases B
  · rw [if_neg (by simp)] at c3
    have C3 := Lib.hid c3; clear c3
    go_enter Try.func9, Try.ntmps9
    go_wp2_with (first | (go_at_call 27; (with_reducible refine (refZero_any _).mono ?_); rintro e w1 ⟨rfl, x1, rfl⟩))
    generalize ho : w.heap.size + x1.bs.size = o
    have ho1 : w.heap.size ≤ o := by omega
    go_wp2_with (first | (go_at_call 34; (with_reducible refine (C1.out _ (by repeat (with_reducible first | assumption | exact World.grows.refl | apply World.grows.plus | apply World.grows.alloc | apply World.grows.drew | (refine World.grows.setRow' ?_ (by omega) _) | (refine World.grows.setCell' ?_ (by omega) _ _)))).mono ?_); rintro e w1 ⟨rfl, x2, rfl⟩))
    refine abs_rows (w := w) (G := fun W => Code.wp _ _ _ _ W) (by repeat (with_reducible first | assumption | exact World.grows.refl | apply World.grows.plus | apply World.grows.alloc | apply World.grows.drew | (refine World.grows.setRow' ?_ (by omega) _) | (refine World.grows.setCell' ?_ (by omega) _ _))) [(o, .cells (formC zeroU (.slice none 0 0)).toArray 30), (o, .cells (formC zeroU (.slice none 0 0)).toArray 30)] (by simp [go_sem, *]) ?_
    intro V gV hl
    simp only [List.forall_mem_cons, List.not_mem_nil, false_implies, implies_true, and_true] at hl
    obtain ⟨hz, hz2⟩ := hl
    have zhz := row_sz' hz
    have zhz2 := row_sz' hz2
    refine wp_region_plus_seq (by kernel_rfl) (by kernel_rfl) (fun x0 => ?_)
    repeat (any_goals (first | (refine wpSeqL_free rfl ?_; first | (go_big_quiet_skip; refine wpQuiet_nil ?_) | (go_big_quiet_step (fail); refine wpQuiet_nil ?_) | (refine wpQuiet_step (fun K hK => ?_); go_simp; split <;> (refine hK _ ?_; clear hK K; refine wpQuiet_nil ?_))) | (refine wpSeqL_link rfl (fun K hK => ?_); go_simp; first | first | (refine hK _ _ (by show World.grows _ _; repeat (first | assumption | exact World.grows.refl | apply World.grows.plus | apply World.grows.alloc | apply World.grows.drew)) ?_; clear hK K) | (((first | (go_at_call 38; (with_reducible refine (C3.out _ (by repeat (with_reducible first | assumption | exact World.grows.refl | apply World.grows.plus | apply World.grows.alloc | apply World.grows.drew | (refine World.grows.setRow' ?_ (by omega) _) | (refine World.grows.setCell' ?_ (by omega) _ _)))).mono ?_); rintro e w3 ⟨a6, c6, rfl, hg6, h67, h6b, h6s⟩; have hgw3 : w.grows w3 := World.grows.trans (by repeat (with_reducible first | assumption | exact World.grows.refl | apply World.grows.plus | apply World.grows.alloc | apply World.grows.drew | (refine World.grows.setRow' ?_ (by omega) _) | (refine World.grows.setCell' ?_ (by omega) _ _))) hg6; have hrw3 : V.grows w3 := World.grows.trans (by repeat (with_reducible first | assumption | exact World.grows.refl | apply World.grows.plus | apply World.grows.alloc | apply World.grows.drew | (refine World.grows.setRow' ?_ (by omega) _) | (refine World.grows.setCell' ?_ (by omega) _ _))) hg6; have H6B := Lib.hid h6b; have H6S := Lib.hid h6s; clear h6b h6s) | (go_at_call 18; (with_reducible refine (refSame_any zeroF _ _ _ _ _ ((FormOk_of_parts h67 H6B.out H6S.out).grows (by repeat (with_reducible first | assumption | exact World.grows.refl | apply World.grows.plus | apply World.grows.alloc | apply World.grows.drew | (refine World.grows.setRow' ?_ (by omega) _) | (refine World.grows.setCell' ?_ (by omega) _ _)))) (zeroF_okP _)).mono ?_); rintro e w4 ⟨rfl, x4, rfl⟩) | (go_at_call 19; (with_reducible refine (awake12_any _).mono ?_); rintro e w5 ⟨rfl, x5, rfl⟩))); refine ⟨_, rfl, hK _ _ (by show World.grows _ _; repeat (first | assumption | exact World.grows.refl | apply World.grows.plus | apply World.grows.alloc | apply World.grows.drew)) ?_⟩; clear hK K) | (split <;> (first | (refine hK _ _ (by show World.grows _ _; repeat (first | assumption | exact World.grows.refl | apply World.grows.plus | apply World.grows.alloc | apply World.grows.drew)) ?_; clear hK K) | (((first | (go_at_call 38; (with_reducible refine (C3.out _ (by repeat (with_reducible first | assumption | exact World.grows.refl | apply World.grows.plus | apply World.grows.alloc | apply World.grows.drew | (refine World.grows.setRow' ?_ (by omega) _) | (refine World.grows.setCell' ?_ (by omega) _ _)))).mono ?_); rintro e w3 ⟨a6, c6, rfl, hg6, h67, h6b, h6s⟩; have hgw3 : w.grows w3 := World.grows.trans (by repeat (with_reducible first | assumption | exact World.grows.refl | apply World.grows.plus | apply World.grows.alloc | apply World.grows.drew | (refine World.grows.setRow' ?_ (by omega) _) | (refine World.grows.setCell' ?_ (by omega) _ _))) hg6; have hrw3 : V.grows w3 := World.grows.trans (by repeat (with_reducible first | assumption | exact World.grows.refl | apply World.grows.plus | apply World.grows.alloc | apply World.grows.drew | (refine World.grows.setRow' ?_ (by omega) _) | (refine World.grows.setCell' ?_ (by omega) _ _))) hg6; have H6B := Lib.hid h6b; have H6S := Lib.hid h6s; clear h6b h6s) | (go_at_call 18; (with_reducible refine (refSame_any zeroF _ _ _ _ _ ((FormOk_of_parts h67 H6B.out H6S.out).grows (by repeat (with_reducible first | assumption | exact World.grows.refl | apply World.grows.plus | apply World.grows.alloc | apply World.grows.drew | (refine World.grows.setRow' ?_ (by omega) _) | (refine World.grows.setCell' ?_ (by omega) _ _)))) (zeroF_okP _)).mono ?_); rintro e w4 ⟨rfl, x4, rfl⟩) | (go_at_call 19; (with_reducible refine (awake12_any _).mono ?_); rintro e w5 ⟨rfl, x5, rfl⟩))); refine ⟨_, rfl, hK _ _ (by show World.grows _ _; repeat (first | assumption | exact World.grows.refl | apply World.grows.plus | apply World.grows.alloc | apply World.grows.drew)) ?_⟩; clear hK K))))))
    all_goals (refine wpSeqL_end ?_)
    go_wp2_with fail
    all_goals go_ret
    all_goals exact ⟨rfl, (by repeat (with_reducible first | assumption | exact World.grows.refl | apply World.grows.plus | apply World.grows.alloc | apply World.grows.drew | (refine World.grows.setRow' ?_ (by omega) _) | (refine World.grows.setCell' ?_ (by omega) _ _)))⟩
  · rw [if_pos rfl] at c3
    have C3 := Lib.hid c3; clear c3
    go_enter Try.func9, Try.ntmps9
    go_wp2_with (first | (go_at_call 27; (with_reducible refine (refZero_any _).mono ?_); rintro e w1 ⟨rfl, x1, rfl⟩))
    generalize ho : w.heap.size + x1.bs.size = o
    have hoo : w.heap.size ≤ o := by omega
    go_wp2_with (first | (go_at_call 34; (with_reducible refine (C1.out _ (by repeat (with_reducible first | assumption | exact World.grows.refl | apply World.grows.plus | apply World.grows.alloc | apply World.grows.drew | (refine World.grows.setRow' ?_ (by omega) _) | (refine World.grows.setCell' ?_ (by omega) _ _)))).mono ?_); rintro e w1 ⟨rfl, x2, rfl⟩) | (go_at_call 37; (with_reducible refine (C2.out _ o (by repeat (with_reducible first | assumption | exact World.grows.refl | apply World.grows.plus | apply World.grows.alloc | apply World.grows.drew | (refine World.grows.setRow' ?_ (by omega) _) | (refine World.grows.setCell' ?_ (by omega) _ _))) hoo (by simp <;> omega)).mono ?_); rintro e w2 ⟨a5, c5, rfl, hg5, h57, h5b, h5s⟩; have hgw2 : w.grows w2 := World.grows.trans (by repeat (with_reducible first | assumption | exact World.grows.refl | apply World.grows.plus | apply World.grows.alloc | apply World.grows.drew | (refine World.grows.setRow' ?_ (by omega) _) | (refine World.grows.setCell' ?_ (by omega) _ _))) hg5; have qo := hg5.row_eq (g := o) (by simp <;> omega); simp [go_sem, ho] at qo; have tO := row_sz' qo; have H5B := Lib.hid h5b; have H5S := Lib.hid h5s; clear h5b h5s hg5))
    have hok : FormOk (w2.setRow o (formC F.us (.slice a5 F.ps.length c5)).toArray) (fun g => g ≠ o) F (formC F.us (.slice a5 F.ps.length c5)) :=
      (FormOk_of_parts h57 H5B.out H5S.out).keep (fun g hg _ => ⟨by rw [World.row_setRow, if_neg hg], hg⟩)
    have HOK := Lib.hid hok
    clear hok
    refine wp_region_plus_seq (by kernel_rfl) (by kernel_rfl) (fun x0 => ?_)
    repeat (any_goals (first | (refine wpSeqL_free rfl ?_; first | (go_big_quiet_skip; refine wpQuiet_nil ?_) | (go_big_quiet_step (fail); refine wpQuiet_nil ?_) | (refine wpQuiet_step (fun K hK => ?_); go_simp; split <;> (refine hK _ ?_; clear hK K; refine wpQuiet_nil ?_))) | (refine wpSeqL_link rfl (fun K hK => ?_); go_simp; first | first | (refine hK _ _ (by show World.grows _ _; repeat (first | assumption | exact World.grows.refl | apply World.grows.plus | apply World.grows.alloc | apply World.grows.drew)) ?_; clear hK K) | (((first | (go_at_call 38; (with_reducible refine (C3.out _ (by repeat (with_reducible first | assumption | exact World.grows.refl | apply World.grows.plus | apply World.grows.alloc | apply World.grows.drew | (refine World.grows.setRow' ?_ (by omega) _) | (refine World.grows.setCell' ?_ (by omega) _ _)))).mono ?_); rintro e w3 ⟨a6, c6, rfl, hg6, h67, h6b, h6s⟩; have hrw3 : (w2.setRow o (formC F.us (.slice a5 F.ps.length c5)).toArray).grows w3 := World.grows.trans (by repeat (with_reducible first | assumption | exact World.grows.refl | apply World.grows.plus | apply World.grows.alloc | apply World.grows.drew | (refine World.grows.setRow' ?_ (by omega) _) | (refine World.grows.setCell' ?_ (by omega) _ _))) hg6; have hgw3 : w.grows w3 := World.grows.trans (by repeat (with_reducible first | assumption | exact World.grows.refl | apply World.grows.plus | apply World.grows.alloc | apply World.grows.drew | (refine World.grows.setRow' ?_ (by omega) _) | (refine World.grows.setCell' ?_ (by omega) _ _))) hg6; have H6B := Lib.hid h6b; have H6S := Lib.hid h6s; clear h6b h6s) | (go_at_call 18; (with_reducible refine (refSame_any F _ _ _ _ _ ((FormOk_of_parts h67 H6B.out H6S.out).grows (by repeat (with_reducible first | assumption | exact World.grows.refl | apply World.grows.plus | apply World.grows.alloc | apply World.grows.drew | (refine World.grows.setRow' ?_ (by omega) _) | (refine World.grows.setCell' ?_ (by omega) _ _)))) (HOK.out.grows (by repeat (with_reducible first | assumption | exact World.grows.refl | apply World.grows.plus | apply World.grows.alloc | apply World.grows.drew | (refine World.grows.setRow' ?_ (by omega) _) | (refine World.grows.setCell' ?_ (by omega) _ _))))).mono ?_); rintro e w4 ⟨rfl, x4, rfl⟩) | (go_at_call 19; (with_reducible refine (awake12_any _).mono ?_); rintro e w5 ⟨rfl, x5, rfl⟩))); refine ⟨_, rfl, hK _ _ (by show World.grows _ _; repeat (first | assumption | exact World.grows.refl | apply World.grows.plus | apply World.grows.alloc | apply World.grows.drew)) ?_⟩; clear hK K) | (split <;> (first | (refine hK _ _ (by show World.grows _ _; repeat (first | assumption | exact World.grows.refl | apply World.grows.plus | apply World.grows.alloc | apply World.grows.drew)) ?_; clear hK K) | (((first | (go_at_call 38; (with_reducible refine (C3.out _ (by repeat (with_reducible first | assumption | exact World.grows.refl | apply World.grows.plus | apply World.grows.alloc | apply World.grows.drew | (refine World.grows.setRow' ?_ (by omega) _) | (refine World.grows.setCell' ?_ (by omega) _ _)))).mono ?_); rintro e w3 ⟨a6, c6, rfl, hg6, h67, h6b, h6s⟩; have hrw3 : (w2.setRow o (formC F.us (.slice a5 F.ps.length c5)).toArray).grows w3 := World.grows.trans (by repeat (with_reducible first | assumption | exact World.grows.refl | apply World.grows.plus | apply World.grows.alloc | apply World.grows.drew | (refine World.grows.setRow' ?_ (by omega) _) | (refine World.grows.setCell' ?_ (by omega) _ _))) hg6; have hgw3 : w.grows w3 := World.grows.trans (by repeat (with_reducible first | assumption | exact World.grows.refl | apply World.grows.plus | apply World.grows.alloc | apply World.grows.drew | (refine World.grows.setRow' ?_ (by omega) _) | (refine World.grows.setCell' ?_ (by omega) _ _))) hg6; have H6B := Lib.hid h6b; have H6S := Lib.hid h6s; clear h6b h6s) | (go_at_call 18; (with_reducible refine (refSame_any F _ _ _ _ _ ((FormOk_of_parts h67 H6B.out H6S.out).grows (by repeat (with_reducible first | assumption | exact World.grows.refl | apply World.grows.plus | apply World.grows.alloc | apply World.grows.drew | (refine World.grows.setRow' ?_ (by omega) _) | (refine World.grows.setCell' ?_ (by omega) _ _)))) (HOK.out.grows (by repeat (with_reducible first | assumption | exact World.grows.refl | apply World.grows.plus | apply World.grows.alloc | apply World.grows.drew | (refine World.grows.setRow' ?_ (by omega) _) | (refine World.grows.setCell' ?_ (by omega) _ _))))).mono ?_); rintro e w4 ⟨rfl, x4, rfl⟩) | (go_at_call 19; (with_reducible refine (awake12_any _).mono ?_); rintro e w5 ⟨rfl, x5, rfl⟩))); refine ⟨_, rfl, hK _ _ (by show World.grows _ _; repeat (first | assumption | exact World.grows.refl | apply World.grows.plus | apply World.grows.alloc | apply World.grows.drew)) ?_⟩; clear hK K))))))
    all_goals (refine wpSeqL_end ?_)
    go_wp2_with fail
    all_goals go_ret
    all_goals exact ⟨rfl, (by repeat (with_reducible first | assumption | exact World.grows.refl | apply World.grows.plus | apply World.grows.alloc | apply World.grows.drew | (refine World.grows.setRow' ?_ (by omega) _) | (refine World.grows.setCell' ?_ (by omega) _ _)))⟩

theorem normPicks_own : ownKnob Try.prog.godebug = none := by kernel_rfl
theorem normPicks_laidOut : laidOutB Try.prog = true := by kernel_rfl
set_option maxRecDepth 100000 in
set_option maxHeartbeats 2000000 in
theorem normPicks_lifted (os : Os) (started : os.Started) (H : Type) (enc : TypeId × Value → H) (F : Stop.Interp) :
    ReturnsInHanded {} Try.checked os 9 .any ((Rows.OpenSpec.upto Rows.normPicksSpec).pre6 enc Try.prog Try.f9 Rows.normPicksUptoRow.domain false) (((Rows.OpenSpec.upto Rows.normPicksSpec).at F).post enc Try.prog Try.f9 false true false false) := by
  refine returnsInHanded_of_cond (C := Try.checked) (s := Rows.OpenSpec.upto Rows.normPicksSpec) (k := Rows.uptoSmall) rfl normPicks_own started (by kernel_rfl) Try.func9
    (OpenSpec.witness (enc := enc) (C := Try.checked) (s := Rows.OpenSpec.upto Rows.normPicksSpec) (k := Rows.uptoSmall) rfl false ⟨#[], #[.slice none 0 0, .bool false], []⟩ 8 (by kernel_rfl) (by kernel_rfl) (by kernel_rfl)
      (x := ([.nil, .lit (.bool false)], [], [])) (by kernel_rfl) rfl (by kernel_rfl)) ?_
  intro W base args ds gs before hval0 hW hcnd hk _
  have hval : ∀ (j : Nat) t v, Try.f9.params[j]? = some t → args[j]? = some v → Value.okWide Try.prog W .any base t v := hval0
  have hW' := hW
  obtain ⟨p, q, hA0, hV, rfl, hfz, hnd⟩ := hW
  have hA : DataW.TrodAll enc Try.prog W 0 (fun _ => true) true Try.f9.params.toList args.toList ds p := hA0
  rw [Try.params9] at hA hval
  obtain ⟨v0, vs0, d0, ds0, p0, q0, hargs, rfl, rfl, h0, r0⟩ := trodAll_cons hA
  obtain ⟨v1, vs1, d1, ds1, p1, q1, rfl, rfl, rfl, h1, r1⟩ := trodAll_cons r0
  obtain ⟨rfl, rfl, rfl⟩ := trodAll_nil r1
  obtain rfl : args = #[v0, v1] := by cases args; simp_all
  obtain ⟨rfl, rfl⟩ := trodVars_none hV
  have hbk := bulk_bound hk
  simp only [List.append_nil, Rows.uptoBulkAll] at hbk
  have k0 := h0
  have lt0 : ∀ x ∈ p0, x.block < W.heap.size := by obtain ⟨m, hm⟩ := k0; exact DataW.trod_lt m _ _ _ hm
  have k1 := h1
  have lt1 : ∀ x ∈ p1, x.block < W.heap.size := by obtain ⟨m, hm⟩ := k1; exact DataW.trod_lt m _ _ _ hm
  obtain ⟨l_E, v_E, e_E, h_E, b_E⟩ := forms_arg (hval 0 49 v0 rfl rfl) h0
  obtain ⟨Q, rfl, _, _⟩ := open_bool Try.underlying4 (hval 1 4 v1 rfl rfl) h1
  clear hA0 hval0
  refine (normPicks_law l_E v0 Q W (e_E.symm ▸ h_E) (by have := szM_len l_E; rw [szM_sum] at this; omega) (by rw [szM_sum]; omega)).mono fun e W' ⟨he, grw⟩ => ?_
  subst he
  have bel := grw.below
  exact ⟨_, rfl, _, _, _, [], _, [], hW', trodAll_mk1 (shut_bool Try.underlying4 _), (trodAll_cons_mk (Below.trod normPicks_laidOut (by kernel_rfl) (of_decide_eq_true (by kernel_rfl)) k0 bel lt0) (trodAll_cons_mk (Below.trod normPicks_laidOut (by kernel_rfl) (of_decide_eq_true (by kernel_rfl)) k1 bel lt1) trodAll_mk0)), rfl, bel.frame _, fun h => by cases h⟩

/-- THE STATEMENT -/
theorem normPicks_holds : Rows.NormPicksUptoSaid :=
  OpenClaim.holds_of_cond 9 Try.f9 rfl rfl rfl rfl rfl rfl rfl ⟨rfl, rfl, rfl, rfl, rfl⟩ rfl rfl rfl rfl rfl (by kernel_rfl) Try.func9 (by kernel_rfl)
    (of_decide_eq_true (by kernel_rfl)) (by unfold Func.isWrapper; first | (rw [if_pos (by decide +kernel)]; kernel_rfl) | (rw [if_neg (by decide +kernel)]; exact ⟨rfl, rfl⟩))
    (fun os started H enc _ F => normPicks_lifted os started H enc F)
#print axioms normPicks_holds
end Go.Proofs.Ythmicnjigfcljaa
