/- For every list of forms whose values are no more than 1048576 in number the statement NormAdds answers true: norm.Add, Zero and One answer as the document does. -/
import Derived.Test.YthmicnjigfcljaaRows
import Derived.Test.YthmicnjigfcljaaAll
import Derived.Test.YthmicnjigfcljaaRFmAdd
import Derived.Test.YthmicnjigfcljaaRefSame
import Derived.Test.YthmicnjigfcljaaMp
import Derived.Test.YthmicnjigfcljaaOpenF
import Derived.JoinedCond
set_option linter.unusedSimpArgs false
set_option linter.unusedVariables false
namespace Go.Proofs.Ythmicnjigfcljaa
open Go.ChangeShapes Go.WideShapes Go.ChangeAt Go.RowKit

theorem zeroF_okA (W : World) : FormOk W (fun _ => True) zeroF (formC zeroU (.slice none 0 0)) := FormOk_form zeroU_len zeroU_bd (SlAt_nil _ _ _ _)

theorem mayF_units {n : Nat} {f : Fm} (h : mayF n f = true) : mayUF f := by
  cases n with
  | zero => simp [mayF] at h
  | succ n =>
    obtain ⟨us, ps⟩ := f
    rw [mayF_succ, Bool.and_eq_true] at h
    exact units_may fun p hp => List.all_eq_true.1 h.1 p hp

set_option maxRecDepth 100000 in
set_option maxHeartbeats 8000000 in
theorem normAdds_law (l : List Fm) (v : Value) (u r1 r2 : Int) (w : World) (hl : SlAt w (fun _ => True) 15 (FormOk w fun _ => True) v l) (hlen : l.length ≤ 1048576) (hsz : szM l ≤ 1048576) (wu : I64 u) (wr1 : I64 r1) (wr2 : I64 r2) :
    Calls Try.prog 8 #[v, .int .i64 u, .agg #[.int .i64 r1, .int .i64 r2]] w (Gives w (.bool true)) := by
  have c1 := fun W (hW : w.grows W) => lawAll_any l v W _ (hl.grows hW (fun x _ cs h => h.grows hW))
  have z1 := fun W => zero_any W
  have z3 := fun W => one_any u r1 r2 W wu wr1 wr2
  have z4 := fun W => refOne_any u r1 r2 W wu wr1 wr2
  have s1 : ∀ W, Calls Try.prog 18 #[.agg (formC zeroU (.slice none 0 0)).toArray, .agg (formC zeroU (.slice none 0 0)).toArray] W (Gives W (.bool true)) := fun W => refSame_any zeroF _ _ W _ _ (zeroF_okA W) (zeroF_okA W)
  have s2 : ∀ W, Calls Try.prog 18 #[.agg (formC (oneU u (r1, r2)) (.slice none 0 0)).toArray, .agg (formC (oneU u (r1, r2)) (.slice none 0 0)).toArray] W (Gives W (.bool true)) := fun W => by
    have h : FormOk W (fun _ => True) (.mk (oneU u (r1, r2)) []) (formC (oneU u (r1, r2)) (.slice none 0 0)) := FormOk_form (oneU_len _ _) (oneU_bd ⟨wr1, wr2⟩) (SlAt_nil _ _ _ _)
    exact refSame_any _ _ _ W _ _ h h
  generalize oneU u (r1, r2) = U at *
  have S1 := Lib.hid s1; have S2 := Lib.hid s2; have Z3 := Lib.hid z3; have Z4 := Lib.hid z4
  clear z1 z3 z4 s1 s2 wu wr1 wr2
  have hfl : l.all (mayF 340) = true → (l.flatMap Fm.ps).length ≤ 33554432 := fun _ => by have h1 := szP_flat l; have h2 := szP_len (l.flatMap Fm.ps); omega
  have c2 : l.all (mayF 340) = true → ∀ W o, w.grows W → w.heap.size ≤ o → o < W.heap.size → Calls Try.prog 35 #[v] W (FormP W (fun g => g ≠ o) (addF l)) := fun hall W o hW h1 h2 =>
    refAddF_any l v W _ (fun g hg => by omega) ((hl.keep (W := w) (S' := fun g => g ≠ o) (fun g _ hl => ⟨rfl, by omega⟩) (fun f _ cs hf => hf.keep (fun g _ hl => ⟨rfl, by omega⟩))).grows hW (fun x _ cs h => h.grows hW)) (fun f hf => mayF_units (List.all_eq_true.1 hall f hf)) (by omega) (hfl hall)
  have c3 : ∀ W, w.grows W → Calls Try.prog 36 #[v] W (FormP W (fun g => W.heap.size ≤ g) (if l.all (mayF 340) then addF l else zeroF)) := fun W hW => normAdd_any l v W (hl.grows hW (fun x _ cs h => h.grows hW)) hlen hsz
  clear hfl
  generalize addF l = F at *
  generalize l.all (mayF 340) = B at *
  obtain ⟨a, c, rfl, _⟩ := hl.len
  have C1 := Lib.hid c1
  clear c1 hl hsz
  cases B
  · clear c2
    rw [if_neg (by simp)] at c3
    have C3 := Lib.hid c3; clear c3
    go_enter Try.func8, Try.ntmps8
    go_wp2_with fail
    refine wp_region_plus_lit (by kernel_rfl) (by kernel_rfl) ?_
    repeat (go_big_quiet_step ((first | (go_at_call 31; (with_reducible exact Calls.plus_of (zero_any _))) | (go_at_call 27; (with_reducible exact Calls.plus_of (refZero_any _))) | (go_at_call 18; (with_reducible exact Calls.plus_of (S1.out _))) | (go_at_call 32; (with_reducible exact Calls.plus_of (Z3.out _))) | (go_at_call 33; (with_reducible exact Calls.plus_of (Z4.out _))) | (go_at_call 18; (with_reducible exact Calls.plus_of (S2.out _))))))
    (refine wpQuiet_nil ?_; intro _ hw'; obtain ⟨xq, hw''⟩ := hw'; subst hw'')
    go_wp2_with fail
    refine (refZero_any _).mono ?_
    rintro e w0 ⟨rfl, x1, rfl⟩
    generalize ho : w.heap.size + 1 + xq.bs.size + x1.bs.size = o
    have ho1 : w.heap.size ≤ o := by omega
    go_wp2_with (first | (go_at_call 34; (with_reducible refine (C1.out _ (by repeat (with_reducible first | assumption | exact World.grows.refl | apply World.grows.plus | apply World.grows.alloc | apply World.grows.drew | (refine World.grows.setRow' ?_ (by omega) _) | (refine World.grows.setCell' ?_ (by omega) _ _)))).mono ?_); rintro e w1 ⟨rfl, x2, rfl⟩))
    refine abs_rows (w := w) (G := fun W => Code.wp _ _ _ _ W) (by repeat (with_reducible first | assumption | exact World.grows.refl | apply World.grows.plus | apply World.grows.alloc | apply World.grows.drew | (refine World.grows.setRow' ?_ (by omega) _) | (refine World.grows.setCell' ?_ (by omega) _ _))) [(o, .cells (formC zeroU (.slice none 0 0)).toArray 30), (o, .cells (formC zeroU (.slice none 0 0)).toArray 30)] (by simp [go_sem, *]) ?_
    intro V gV hl
    simp only [List.forall_mem_cons, List.not_mem_nil, false_implies, implies_true, and_true] at hl
    obtain ⟨hz, hz2⟩ := hl
    have zhz := row_sz' hz
    have zhz2 := row_sz' hz2
    refine wp_region_plus_seq (by kernel_rfl) (by kernel_rfl) (fun x0 => ?_)
    repeat (any_goals (first | (refine wpSeqL_free rfl ?_; first | (go_big_quiet_skip; refine wpQuiet_nil ?_) | (go_big_quiet_step (fail); refine wpQuiet_nil ?_) | (refine wpQuiet_step (fun K hK => ?_); go_simp; split <;> (refine hK _ ?_; clear hK K; refine wpQuiet_nil ?_))) | (refine wpSeqL_link rfl (fun K hK => ?_); go_simp; first | first | (refine hK _ _ (by show World.grows _ _; repeat (first | assumption | exact World.grows.refl | apply World.grows.plus | apply World.grows.alloc | apply World.grows.drew)) ?_; clear hK K) | (((first | (go_at_call 36; (with_reducible refine (C3.out _ (by repeat (with_reducible first | assumption | exact World.grows.refl | apply World.grows.plus | apply World.grows.alloc | apply World.grows.drew | (refine World.grows.setRow' ?_ (by omega) _) | (refine World.grows.setCell' ?_ (by omega) _ _)))).mono ?_); rintro e w3 ⟨a6, c6, rfl, hg6, h67, h6b, h6s⟩; have hgw3 : w.grows w3 := World.grows.trans (by repeat (with_reducible first | assumption | exact World.grows.refl | apply World.grows.plus | apply World.grows.alloc | apply World.grows.drew | (refine World.grows.setRow' ?_ (by omega) _) | (refine World.grows.setCell' ?_ (by omega) _ _))) hg6; have hrw3 : V.grows w3 := World.grows.trans (by repeat (with_reducible first | assumption | exact World.grows.refl | apply World.grows.plus | apply World.grows.alloc | apply World.grows.drew | (refine World.grows.setRow' ?_ (by omega) _) | (refine World.grows.setCell' ?_ (by omega) _ _))) hg6; have H6B := Lib.hid h6b; have H6S := Lib.hid h6s; clear h6b h6s) | (go_at_call 18; (with_reducible refine (refSame_any zeroF _ _ _ _ _ ((FormOk_of_parts h67 H6B.out H6S.out).grows (by repeat (with_reducible first | assumption | exact World.grows.refl | apply World.grows.plus | apply World.grows.alloc | apply World.grows.drew | (refine World.grows.setRow' ?_ (by omega) _) | (refine World.grows.setCell' ?_ (by omega) _ _)))) (zeroF_okA _)).mono ?_); rintro e w4 ⟨rfl, x4, rfl⟩) | (go_at_call 19; (with_reducible refine (awake12_any _).mono ?_); rintro e w5 ⟨rfl, x5, rfl⟩))); refine ⟨_, rfl, hK _ _ (by show World.grows _ _; repeat (first | assumption | exact World.grows.refl | apply World.grows.plus | apply World.grows.alloc | apply World.grows.drew)) ?_⟩; clear hK K) | (split <;> (first | (refine hK _ _ (by show World.grows _ _; repeat (first | assumption | exact World.grows.refl | apply World.grows.plus | apply World.grows.alloc | apply World.grows.drew)) ?_; clear hK K) | (((first | (go_at_call 36; (with_reducible refine (C3.out _ (by repeat (with_reducible first | assumption | exact World.grows.refl | apply World.grows.plus | apply World.grows.alloc | apply World.grows.drew | (refine World.grows.setRow' ?_ (by omega) _) | (refine World.grows.setCell' ?_ (by omega) _ _)))).mono ?_); rintro e w3 ⟨a6, c6, rfl, hg6, h67, h6b, h6s⟩; have hgw3 : w.grows w3 := World.grows.trans (by repeat (with_reducible first | assumption | exact World.grows.refl | apply World.grows.plus | apply World.grows.alloc | apply World.grows.drew | (refine World.grows.setRow' ?_ (by omega) _) | (refine World.grows.setCell' ?_ (by omega) _ _))) hg6; have hrw3 : V.grows w3 := World.grows.trans (by repeat (with_reducible first | assumption | exact World.grows.refl | apply World.grows.plus | apply World.grows.alloc | apply World.grows.drew | (refine World.grows.setRow' ?_ (by omega) _) | (refine World.grows.setCell' ?_ (by omega) _ _))) hg6; have H6B := Lib.hid h6b; have H6S := Lib.hid h6s; clear h6b h6s) | (go_at_call 18; (with_reducible refine (refSame_any zeroF _ _ _ _ _ ((FormOk_of_parts h67 H6B.out H6S.out).grows (by repeat (with_reducible first | assumption | exact World.grows.refl | apply World.grows.plus | apply World.grows.alloc | apply World.grows.drew | (refine World.grows.setRow' ?_ (by omega) _) | (refine World.grows.setCell' ?_ (by omega) _ _)))) (zeroF_okA _)).mono ?_); rintro e w4 ⟨rfl, x4, rfl⟩) | (go_at_call 19; (with_reducible refine (awake12_any _).mono ?_); rintro e w5 ⟨rfl, x5, rfl⟩))); refine ⟨_, rfl, hK _ _ (by show World.grows _ _; repeat (first | assumption | exact World.grows.refl | apply World.grows.plus | apply World.grows.alloc | apply World.grows.drew)) ?_⟩; clear hK K))))))
    all_goals (refine wpSeqL_end ?_)
    go_wp2_with fail
    all_goals go_ret
    all_goals exact ⟨rfl, (by repeat (with_reducible first | assumption | exact World.grows.refl | apply World.grows.plus | apply World.grows.alloc | apply World.grows.drew | (refine World.grows.setRow' ?_ (by omega) _) | (refine World.grows.setCell' ?_ (by omega) _ _)))⟩
  · have C2 := Lib.hid (c2 rfl); clear c2
    rw [if_pos rfl] at c3
    have C3 := Lib.hid c3; clear c3
    go_enter Try.func8, Try.ntmps8
    go_wp2_with fail
    refine wp_region_plus_lit (by kernel_rfl) (by kernel_rfl) ?_
    repeat (go_big_quiet_step ((first | (go_at_call 31; (with_reducible exact Calls.plus_of (zero_any _))) | (go_at_call 27; (with_reducible exact Calls.plus_of (refZero_any _))) | (go_at_call 18; (with_reducible exact Calls.plus_of (S1.out _))) | (go_at_call 32; (with_reducible exact Calls.plus_of (Z3.out _))) | (go_at_call 33; (with_reducible exact Calls.plus_of (Z4.out _))) | (go_at_call 18; (with_reducible exact Calls.plus_of (S2.out _))))))
    (refine wpQuiet_nil ?_; intro _ hw'; obtain ⟨xq, hw''⟩ := hw'; subst hw'')
    go_wp2_with fail
    refine (refZero_any _).mono ?_
    rintro e w0 ⟨rfl, x1, rfl⟩
    generalize ho : w.heap.size + 1 + xq.bs.size + x1.bs.size = o
    have hoo : w.heap.size ≤ o := by omega
    go_wp2_with (first | (go_at_call 34; (with_reducible refine (C1.out _ (by repeat (with_reducible first | assumption | exact World.grows.refl | apply World.grows.plus | apply World.grows.alloc | apply World.grows.drew | (refine World.grows.setRow' ?_ (by omega) _) | (refine World.grows.setCell' ?_ (by omega) _ _)))).mono ?_); rintro e w1 ⟨rfl, x2, rfl⟩) | (go_at_call 35; (with_reducible refine (C2.out _ o (by repeat (with_reducible first | assumption | exact World.grows.refl | apply World.grows.plus | apply World.grows.alloc | apply World.grows.drew | (refine World.grows.setRow' ?_ (by omega) _) | (refine World.grows.setCell' ?_ (by omega) _ _))) hoo (by simp <;> omega)).mono ?_); rintro e w2 ⟨a5, c5, rfl, hg5, h57, h5b, h5s⟩; have hgw2 : w.grows w2 := World.grows.trans (by repeat (with_reducible first | assumption | exact World.grows.refl | apply World.grows.plus | apply World.grows.alloc | apply World.grows.drew | (refine World.grows.setRow' ?_ (by omega) _) | (refine World.grows.setCell' ?_ (by omega) _ _))) hg5; have qo := hg5.row_eq (g := o) (by simp <;> omega); simp [go_sem, ho] at qo; have tO := row_sz' qo; have H5B := Lib.hid h5b; have H5S := Lib.hid h5s; clear h5b h5s hg5))
    have hok : FormOk (w2.setRow o (formC F.us (.slice a5 F.ps.length c5)).toArray) (fun g => g ≠ o) F (formC F.us (.slice a5 F.ps.length c5)) :=
      (FormOk_of_parts h57 H5B.out H5S.out).keep (fun g hg _ => ⟨by rw [World.row_setRow, if_neg hg], hg⟩)
    have HOK := Lib.hid hok
    clear hok
    refine wp_region_plus_seq (by kernel_rfl) (by kernel_rfl) (fun x0 => ?_)
    repeat (any_goals (first | (refine wpSeqL_free rfl ?_; first | (go_big_quiet_skip; refine wpQuiet_nil ?_) | (go_big_quiet_step (fail); refine wpQuiet_nil ?_) | (refine wpQuiet_step (fun K hK => ?_); go_simp; split <;> (refine hK _ ?_; clear hK K; refine wpQuiet_nil ?_))) | (refine wpSeqL_link rfl (fun K hK => ?_); go_simp; first | first | (refine hK _ _ (by show World.grows _ _; repeat (first | assumption | exact World.grows.refl | apply World.grows.plus | apply World.grows.alloc | apply World.grows.drew)) ?_; clear hK K) | (((first | (go_at_call 36; (with_reducible refine (C3.out _ (by repeat (with_reducible first | assumption | exact World.grows.refl | apply World.grows.plus | apply World.grows.alloc | apply World.grows.drew | (refine World.grows.setRow' ?_ (by omega) _) | (refine World.grows.setCell' ?_ (by omega) _ _)))).mono ?_); rintro e w3 ⟨a6, c6, rfl, hg6, h67, h6b, h6s⟩; have hrw3 : (w2.setRow o (formC F.us (.slice a5 F.ps.length c5)).toArray).grows w3 := World.grows.trans (by repeat (with_reducible first | assumption | exact World.grows.refl | apply World.grows.plus | apply World.grows.alloc | apply World.grows.drew | (refine World.grows.setRow' ?_ (by omega) _) | (refine World.grows.setCell' ?_ (by omega) _ _))) hg6; have hgw3 : w.grows w3 := World.grows.trans (by repeat (with_reducible first | assumption | exact World.grows.refl | apply World.grows.plus | apply World.grows.alloc | apply World.grows.drew | (refine World.grows.setRow' ?_ (by omega) _) | (refine World.grows.setCell' ?_ (by omega) _ _))) hg6; have H6B := Lib.hid h6b; have H6S := Lib.hid h6s; clear h6b h6s) | (go_at_call 18; (with_reducible refine (refSame_any F _ _ _ _ _ ((FormOk_of_parts h67 H6B.out H6S.out).grows (by repeat (with_reducible first | assumption | exact World.grows.refl | apply World.grows.plus | apply World.grows.alloc | apply World.grows.drew | (refine World.grows.setRow' ?_ (by omega) _) | (refine World.grows.setCell' ?_ (by omega) _ _)))) (HOK.out.grows (by repeat (with_reducible first | assumption | exact World.grows.refl | apply World.grows.plus | apply World.grows.alloc | apply World.grows.drew | (refine World.grows.setRow' ?_ (by omega) _) | (refine World.grows.setCell' ?_ (by omega) _ _))))).mono ?_); rintro e w4 ⟨rfl, x4, rfl⟩) | (go_at_call 19; (with_reducible refine (awake12_any _).mono ?_); rintro e w5 ⟨rfl, x5, rfl⟩))); refine ⟨_, rfl, hK _ _ (by show World.grows _ _; repeat (first | assumption | exact World.grows.refl | apply World.grows.plus | apply World.grows.alloc | apply World.grows.drew)) ?_⟩; clear hK K) | (split <;> (first | (refine hK _ _ (by show World.grows _ _; repeat (first | assumption | exact World.grows.refl | apply World.grows.plus | apply World.grows.alloc | apply World.grows.drew)) ?_; clear hK K) | (((first | (go_at_call 36; (with_reducible refine (C3.out _ (by repeat (with_reducible first | assumption | exact World.grows.refl | apply World.grows.plus | apply World.grows.alloc | apply World.grows.drew | (refine World.grows.setRow' ?_ (by omega) _) | (refine World.grows.setCell' ?_ (by omega) _ _)))).mono ?_); rintro e w3 ⟨a6, c6, rfl, hg6, h67, h6b, h6s⟩; have hrw3 : (w2.setRow o (formC F.us (.slice a5 F.ps.length c5)).toArray).grows w3 := World.grows.trans (by repeat (with_reducible first | assumption | exact World.grows.refl | apply World.grows.plus | apply World.grows.alloc | apply World.grows.drew | (refine World.grows.setRow' ?_ (by omega) _) | (refine World.grows.setCell' ?_ (by omega) _ _))) hg6; have hgw3 : w.grows w3 := World.grows.trans (by repeat (with_reducible first | assumption | exact World.grows.refl | apply World.grows.plus | apply World.grows.alloc | apply World.grows.drew | (refine World.grows.setRow' ?_ (by omega) _) | (refine World.grows.setCell' ?_ (by omega) _ _))) hg6; have H6B := Lib.hid h6b; have H6S := Lib.hid h6s; clear h6b h6s) | (go_at_call 18; (with_reducible refine (refSame_any F _ _ _ _ _ ((FormOk_of_parts h67 H6B.out H6S.out).grows (by repeat (with_reducible first | assumption | exact World.grows.refl | apply World.grows.plus | apply World.grows.alloc | apply World.grows.drew | (refine World.grows.setRow' ?_ (by omega) _) | (refine World.grows.setCell' ?_ (by omega) _ _)))) (HOK.out.grows (by repeat (with_reducible first | assumption | exact World.grows.refl | apply World.grows.plus | apply World.grows.alloc | apply World.grows.drew | (refine World.grows.setRow' ?_ (by omega) _) | (refine World.grows.setCell' ?_ (by omega) _ _))))).mono ?_); rintro e w4 ⟨rfl, x4, rfl⟩) | (go_at_call 19; (with_reducible refine (awake12_any _).mono ?_); rintro e w5 ⟨rfl, x5, rfl⟩))); refine ⟨_, rfl, hK _ _ (by show World.grows _ _; repeat (first | assumption | exact World.grows.refl | apply World.grows.plus | apply World.grows.alloc | apply World.grows.drew)) ?_⟩; clear hK K))))))
    all_goals (refine wpSeqL_end ?_)
    go_wp2_with fail
    all_goals go_ret
    all_goals exact ⟨rfl, (by repeat (with_reducible first | assumption | exact World.grows.refl | apply World.grows.plus | apply World.grows.alloc | apply World.grows.drew | (refine World.grows.setRow' ?_ (by omega) _) | (refine World.grows.setCell' ?_ (by omega) _ _)))⟩

theorem normAdds_own : ownKnob Try.prog.godebug = none := by kernel_rfl
theorem normAdds_laidOut : laidOutB Try.prog = true := by kernel_rfl
set_option maxRecDepth 100000 in
set_option maxHeartbeats 2000000 in
theorem normAdds_lifted (os : Os) (started : os.Started) (H : Type) (enc : TypeId × Value → H) (F : Stop.Interp) :
    ReturnsInHanded {} Try.checked os 8 .any ((Rows.OpenSpec.upto Rows.normAddsSpec).pre6 enc Try.prog Try.f8 Rows.normAddsUptoRow.domain false) (((Rows.OpenSpec.upto Rows.normAddsSpec).at F).post enc Try.prog Try.f8 false true false false) := by
  refine returnsInHanded_of_cond (C := Try.checked) (s := Rows.OpenSpec.upto Rows.normAddsSpec) (k := Rows.uptoSmall) rfl normAdds_own started (by kernel_rfl) Try.func8
    (OpenSpec.witness (enc := enc) (C := Try.checked) (s := Rows.OpenSpec.upto Rows.normAddsSpec) (k := Rows.uptoSmall) rfl false ⟨#[], #[.slice none 0 0, .int .i64 0, .agg #[.int .i64 0, .int .i64 0]], []⟩ 8 (by kernel_rfl) (by kernel_rfl) (by kernel_rfl)
      (x := ([.nil, .lit (.int .i64 0), .agg [.lit (.int .i64 0), .lit (.int .i64 0)]], [], [])) (by kernel_rfl) rfl (by kernel_rfl)) ?_
  intro W base args ds gs before hval0 hW hcnd hk _
  have hval : ∀ (j : Nat) t v, Try.f8.params[j]? = some t → args[j]? = some v → Value.okWide Try.prog W .any base t v := hval0
  have hW' := hW
  obtain ⟨p, q, hA0, hV, rfl, hfz, hnd⟩ := hW
  have hA : DataW.TrodAll enc Try.prog W 0 (fun _ => true) true Try.f8.params.toList args.toList ds p := hA0
  rw [Try.params8] at hA hval
  obtain ⟨v0, vs0, d0, ds0, p0, q0, hargs, rfl, rfl, h0, r0⟩ := trodAll_cons hA
  obtain ⟨v1, vs1, d1, ds1, p1, q1, rfl, rfl, rfl, h1, r1⟩ := trodAll_cons r0
  obtain ⟨v2, vs2, d2, ds2, p2, q2, rfl, rfl, rfl, h2, r2⟩ := trodAll_cons r1
  obtain ⟨rfl, rfl, rfl⟩ := trodAll_nil r2
  obtain rfl : args = #[v0, v1, v2] := by cases args; simp_all
  obtain ⟨rfl, rfl⟩ := trodVars_none hV
  have hbk := bulk_bound hk
  simp only [List.append_nil, Rows.uptoBulkAll] at hbk
  have k0 := h0
  have lt0 : ∀ x ∈ p0, x.block < W.heap.size := by obtain ⟨m, hm⟩ := k0; exact DataW.trod_lt m _ _ _ hm
  have k1 := h1
  have lt1 : ∀ x ∈ p1, x.block < W.heap.size := by obtain ⟨m, hm⟩ := k1; exact DataW.trod_lt m _ _ _ hm
  have k2 := h2
  have lt2 : ∀ x ∈ p2, x.block < W.heap.size := by obtain ⟨m, hm⟩ := k2; exact DataW.trod_lt m _ _ _ hm
  obtain ⟨l_E, v_E, e_E, h_E, b_E⟩ := forms_arg (hval 0 49 v0 rfl rfl) h0
  obtain ⟨U, rfl, _, _, wU⟩ := open_int Try.underlying3 (hval 1 3 v1 rfl rfl) h1
  obtain ⟨R1, R2, rfl, w2_0, w2_1⟩ := rat_arg (hval 2 23 v2 rfl rfl) h2
  clear hA0 hval0
  refine (normAdds_law l_E v0 U R1 R2 W (e_E.symm ▸ h_E) (by have := szM_len l_E; rw [szM_sum] at this; omega) (by rw [szM_sum]; omega) (i64_of wU) w2_0 w2_1).mono fun e W' ⟨he, grw⟩ => ?_
  subst he
  have bel := grw.below
  exact ⟨_, rfl, _, _, _, [], _, [], hW', trodAll_mk1 (shut_bool Try.underlying4 _), (trodAll_cons_mk (Below.trod normAdds_laidOut (by kernel_rfl) (of_decide_eq_true (by kernel_rfl)) k0 bel lt0) (trodAll_cons_mk (Below.trod normAdds_laidOut (by kernel_rfl) (of_decide_eq_true (by kernel_rfl)) k1 bel lt1) (trodAll_cons_mk (Below.trod normAdds_laidOut (by kernel_rfl) (of_decide_eq_true (by kernel_rfl)) k2 bel lt2) trodAll_mk0))), rfl, bel.frame _, fun h => by cases h⟩

/-- THE STATEMENT -/
theorem normAdds_holds : Rows.NormAddsUptoSaid :=
  OpenClaim.holds_of_cond 8 Try.f8 rfl rfl rfl rfl rfl rfl rfl ⟨rfl, rfl, rfl, rfl, rfl⟩ rfl rfl rfl rfl rfl (by kernel_rfl) Try.func8 (by kernel_rfl)
    (of_decide_eq_true (by kernel_rfl)) (by unfold Func.isWrapper; first | (rw [if_pos (by decide +kernel)]; kernel_rfl) | (rw [if_neg (by decide +kernel)]; exact ⟨rfl, rfl⟩))
    (fun os started H enc _ F => normAdds_lifted os started H enc F)
#print axioms normAdds_holds
end Go.Proofs.Ythmicnjigfcljaa
