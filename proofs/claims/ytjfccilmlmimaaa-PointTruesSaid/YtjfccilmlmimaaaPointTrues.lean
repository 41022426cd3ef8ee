/- PointTrues is true for every input: which lines are true at any value. No condition. -/
import Derived.Test.YtjfccilmlmimaaaAwk24
import Derived.Test.YtjfccilmlmimaaaArgsL
import Derived.Test.YtjfccilmlmimaaaRows
set_option linter.unusedSimpArgs false
set_option linter.unusedVariables false
namespace Go.Proofs.Ytjfccilmlmimaaa
open Go.RowKit Go.Maps Go.ChangeShapes Go.WideShapes Go.ChangeAt
open Go.ChangeMaps (open_string shut_string)

set_option maxRecDepth 100000 in
set_option maxHeartbeats 4000000 in
theorem pointTrues_any (v : Value) (l : List Ln) (nm : ByteArray) (a b : Int) (w : World) (h : SlAt w (fun _ => True) 5 LnR v l) (hs : nm.size ≤ maxLen) (wa : I64 a) (wb : I64 b) :
    Calls Try.prog 5 #[v, .string nm, .agg #[.int .i64 a, .int .i64 b]] w (Gives w (.bool true)) := by
  have hl : (l.take 200).length ≤ 1048576 := by simp; omega
  have c0 : ∀ W, w.grows W → Calls Try.prog 10 #[v] W fun e w' => ∃ v', e = .returned v' ∧ w' = W ∧ Hid (SlAt W (fun _ => True) 5 LnR v' (l.take 200)) := fun W hg => (cut_any v l W (h.grows hg fun _ _ _ h => h)).mono fun e w' ⟨v', q1, q2, q3⟩ => ⟨v', q1, q2, Lib.hid q3⟩
  have c1 : ∀ W v', SlAt W (fun _ => True) 5 LnR v' (l.take 200) → Calls Try.prog 12 #[v'] W fun e w' => ∃ ix B, e = .returned (.pointer (some ⟨ix, 0, none⟩)) ∧ W.heap.size ≤ ix ∧ W.grows w' ∧ Hid (Idx w' ix 0 B (l.take 200)) := fun W v' h => (ixNew_any v' _ W h hl).mono fun e w' ⟨ix, B, q1, q2, q3, q4⟩ => ⟨ix, B, q1, q2, q3, Lib.hid q4⟩
  have c2 : ∀ W ix B, Idx W ix 0 B (l.take 200) → Calls Try.prog 20 #[.pointer (some ⟨ix, 0, none⟩), .string nm, .agg #[.int .i64 a, .int .i64 b]] W fun e w' => ∃ v' r, e = .returned v' ∧ W.grows w' ∧ Hid (IntsAt w' v' r ∧ Rise r (idsOf (trueR nm a b) (l.take 200))) := fun W ix B hI => (ixTrue_any ix B 0 _ nm a b W hI (fun x hx => lines_wf h x (List.mem_of_mem_take hx)) hs wa wb hl).mono fun e w' ⟨v', r, q1, q2, q3, q4⟩ => ⟨v', r, q1, q2, Lib.hid ⟨q3.at, q4⟩⟩
  have c3 : ∀ W v' r, SlAt W (fun _ => True) 5 LnR v' (l.take 200) → Rise r (idsOf (trueR nm a b) (l.take 200)) → Calls Try.prog 21 #[v', .string nm, .agg #[.int .i64 a, .int .i64 b]] W fun e w' => ∃ v2, e = .returned v2 ∧ W.grows w' ∧ Hid (IntsAt w' v2 r) := fun W v' r hv hr => (lawTruesR_any v' _ nm a b r W hv wa wb hl hr).mono fun e w' ⟨v2, q1, q2, q3⟩ => ⟨v2, q1, q2, Lib.hid q3⟩
  have C0 := Lib.hid c0; have C1 := Lib.hid c1; have C2 := Lib.hid c2; have C3 := Lib.hid c3
  clear c0 c1 c2 c3 h hl
  go_enter Try.func5, Try.ntmps5
  go_upto_region 2 with (first
    | (go_at_call 10; (with_reducible refine (C0.out _ (by repeat (with_reducible first | assumption | exact grA | apply grB | apply grC | apply grD | refine grE ?_ (by omega) _ | refine grF ?_ (by omega) _ _))).mono ?_); rintro e w1 ⟨v1, rfl, rfl, H1⟩))
  refine wp_region_plus_seq (by kernel_rfl) (by kernel_rfl) (fun x0 => ?_)
  repeat (any_goals (first | (refine wpSeqL_free rfl ?_; first | (go_big_quiet_skip; refine wpQuiet_nil ?_) | (go_big_quiet_step (fail); refine wpQuiet_nil ?_) | (refine wpQuiet_step (fun K hK => ?_); go_simp; split <;> (refine hK _ ?_; clear hK K; refine wpQuiet_nil ?_))) | (refine wpSeqL_link rfl (fun K hK => ?_); go_simp; first | first | (refine hK _ _ (by show World.grows _ _; repeat (first | assumption | exact grA | apply grB | apply grC | apply grD)) ?_; clear hK K) | ((first | (go_at_call 12; (with_reducible refine (C1.out _ _ (H1.out.grows (by repeat (with_reducible first | assumption | exact grA | apply grB | apply grC | apply grD | refine grE ?_ (by omega) _ | refine grF ?_ (by omega) _ _)) fun _ _ _ h => h)).mono ?_); rintro e w2 ⟨ix, B, rfl, hix, hg2, HI⟩; have k2 : (w.alloc (.cells #[.int .i64 a, .int .i64 b] 24)).grows w2 := World.grows.trans (by repeat (with_reducible first | assumption | exact grA | apply grB | apply grC | apply grD | refine grE ?_ (by omega) _ | refine grF ?_ (by omega) _ _)) hg2) | (go_at_call 20; (with_reducible refine (C2.out _ ix B (Idx.grows HI.out (by repeat (with_reducible first | assumption | exact grA | apply grB | apply grC | apply grD | refine grE ?_ (by omega) _ | refine grF ?_ (by omega) _ _)))).mono ?_); rintro e w3 ⟨v3, r, rfl, hg3, HR⟩; have k3 : (w.alloc (.cells #[.int .i64 a, .int .i64 b] 24)).grows w3 := World.grows.trans (by repeat (with_reducible first | assumption | exact grA | apply grB | apply grC | apply grD | refine grE ?_ (by omega) _ | refine grF ?_ (by omega) _ _)) hg3) | (go_at_call 21; (with_reducible refine (C3.out _ _ r (H1.out.grows (by repeat (with_reducible first | assumption | exact grA | apply grB | apply grC | apply grD | refine grE ?_ (by omega) _ | refine grF ?_ (by omega) _ _)) fun _ _ _ h => h) HR.out.2).mono ?_); rintro e w4 ⟨v4, rfl, hg4, HI4⟩; have k34 : w3.grows w4 := World.grows.trans (by repeat (with_reducible first | assumption | exact grA | apply grB | apply grC | apply grD | refine grE ?_ (by omega) _ | refine grF ?_ (by omega) _ _)) hg4; have k4 : (w.alloc (.cells #[.int .i64 a, .int .i64 b] 24)).grows w4 := World.grows.trans (by repeat (with_reducible first | assumption | exact grA | apply grB | apply grC | apply grD | refine grE ?_ (by omega) _ | refine grF ?_ (by omega) _ _)) hg4) | (go_at_call 13; (with_reducible refine (ints_eq _ _ r _ (HR.out.1.grow (World.grows.trans k34 (by repeat (with_reducible first | assumption | exact grA | apply grB | apply grC | apply grD | refine grE ?_ (by omega) _ | refine grF ?_ (by omega) _ _)))) (HI4.out.grow (by repeat (with_reducible first | assumption | exact grA | apply grB | apply grC | apply grD | refine grE ?_ (by omega) _ | refine grF ?_ (by omega) _ _)))).mono ?_); rintro e w5 ⟨rfl, x5, rfl⟩) | (go_at_call 16; (with_reducible refine (awake24_any _).mono ?_); rintro e w6 ⟨rfl, x6, rfl⟩)); refine ⟨_, rfl, hK _ _ (by show World.grows _ _; repeat (first | assumption | exact grA | apply grB | apply grC | apply grD)) ?_⟩; clear hK K) | (split <;> (first | (refine hK _ _ (by show World.grows _ _; repeat (first | assumption | exact grA | apply grB | apply grC | apply grD)) ?_; clear hK K) | ((first | (go_at_call 12; (with_reducible refine (C1.out _ _ (H1.out.grows (by repeat (with_reducible first | assumption | exact grA | apply grB | apply grC | apply grD | refine grE ?_ (by omega) _ | refine grF ?_ (by omega) _ _)) fun _ _ _ h => h)).mono ?_); rintro e w2 ⟨ix, B, rfl, hix, hg2, HI⟩; have k2 : (w.alloc (.cells #[.int .i64 a, .int .i64 b] 24)).grows w2 := World.grows.trans (by repeat (with_reducible first | assumption | exact grA | apply grB | apply grC | apply grD | refine grE ?_ (by omega) _ | refine grF ?_ (by omega) _ _)) hg2) | (go_at_call 20; (with_reducible refine (C2.out _ ix B (Idx.grows HI.out (by repeat (with_reducible first | assumption | exact grA | apply grB | apply grC | apply grD | refine grE ?_ (by omega) _ | refine grF ?_ (by omega) _ _)))).mono ?_); rintro e w3 ⟨v3, r, rfl, hg3, HR⟩; have k3 : (w.alloc (.cells #[.int .i64 a, .int .i64 b] 24)).grows w3 := World.grows.trans (by repeat (with_reducible first | assumption | exact grA | apply grB | apply grC | apply grD | refine grE ?_ (by omega) _ | refine grF ?_ (by omega) _ _)) hg3) | (go_at_call 21; (with_reducible refine (C3.out _ _ r (H1.out.grows (by repeat (with_reducible first | assumption | exact grA | apply grB | apply grC | apply grD | refine grE ?_ (by omega) _ | refine grF ?_ (by omega) _ _)) fun _ _ _ h => h) HR.out.2).mono ?_); rintro e w4 ⟨v4, rfl, hg4, HI4⟩; have k34 : w3.grows w4 := World.grows.trans (by repeat (with_reducible first | assumption | exact grA | apply grB | apply grC | apply grD | refine grE ?_ (by omega) _ | refine grF ?_ (by omega) _ _)) hg4; have k4 : (w.alloc (.cells #[.int .i64 a, .int .i64 b] 24)).grows w4 := World.grows.trans (by repeat (with_reducible first | assumption | exact grA | apply grB | apply grC | apply grD | refine grE ?_ (by omega) _ | refine grF ?_ (by omega) _ _)) hg4) | (go_at_call 13; (with_reducible refine (ints_eq _ _ r _ (HR.out.1.grow (World.grows.trans k34 (by repeat (with_reducible first | assumption | exact grA | apply grB | apply grC | apply grD | refine grE ?_ (by omega) _ | refine grF ?_ (by omega) _ _)))) (HI4.out.grow (by repeat (with_reducible first | assumption | exact grA | apply grB | apply grC | apply grD | refine grE ?_ (by omega) _ | refine grF ?_ (by omega) _ _)))).mono ?_); rintro e w5 ⟨rfl, x5, rfl⟩) | (go_at_call 16; (with_reducible refine (awake24_any _).mono ?_); rintro e w6 ⟨rfl, x6, rfl⟩)); refine ⟨_, rfl, hK _ _ (by show World.grows _ _; repeat (first | assumption | exact grA | apply grB | apply grC | apply grD)) ?_⟩; clear hK K))))))
  all_goals (refine wpSeqL_end ?_)
  have k5 : w.grows w4 := World.grows.trans (by repeat (with_reducible first | assumption | exact grA | apply grB | apply grC | apply grD | refine grE ?_ (by omega) _ | refine grF ?_ (by omega) _ _)) k4
  go_wp2_with fail
  go_ret
  exact ⟨rfl, (by repeat (with_reducible first | assumption | exact grA | apply grB | apply grC | apply grD | refine grE ?_ (by omega) _ | refine grF ?_ (by omega) _ _))⟩

theorem pointTrues_own : ownKnob Try.prog.godebug = none := by kernel_rfl
theorem pointTrues_laidOut : laidOutB Try.prog = true := by kernel_rfl
set_option maxRecDepth 100000 in
set_option maxHeartbeats 2000000 in
theorem pointTrues_lifted (os : Os) (started : os.Started) (H : Type) (enc : TypeId × Value → H) :
    ReturnsInHanded {} Try.checked os 5 .any (Rows.pointTruesSpec.pre6 enc Try.prog Try.f5 Rows.pointTruesRow.domain false) (Rows.pointTruesSpec.post enc Try.prog Try.f5 false true false false) := by
  refine returnsInHanded_of_change (C := Try.checked) pointTrues_own started (by kernel_rfl) Try.func5
    (ChangeSpec.witness6 (enc := enc) (C := Try.checked) false ⟨#[], #[.slice none 0 0, .string ByteArray.empty, .agg #[.int .i64 0, .int .i64 0]], []⟩ 8 (by kernel_rfl) (by kernel_rfl) (by kernel_rfl) (by kernel_rfl)) ?_
  intro W base args ds gs before hval0 hW hcnd _
  have hval : ∀ (j : Nat) t v, Try.f5.params[j]? = some t → args[j]? = some v → Value.okWide Try.prog W .any base t v := hval0
  have hW' := hW
  obtain ⟨p, q, hA0, hV, rfl, hfz, hnd⟩ := hW
  have hA : DataW.TrodAll enc Try.prog W 0 (fun _ => true) true Try.f5.params.toList args.toList ds p := hA0
  rw [Try.params5] at hA hval
  obtain ⟨v0, vs0, d0, ds0, p0, q0, hargs, rfl, rfl, h0, r0⟩ := trodAll_cons hA
  obtain ⟨v1, vs1, d1, ds1, p1, q1, rfl, rfl, rfl, h1, r1⟩ := trodAll_cons r0
  obtain ⟨v2, vs2, d2, ds2, p2, q2, rfl, rfl, rfl, h2, r2⟩ := trodAll_cons r1
  obtain ⟨rfl, rfl, rfl⟩ := trodAll_nil r2
  obtain rfl : args = #[v0, v1, v2] := by cases args; simp_all
  obtain ⟨rfl, rfl⟩ := trodVars_none hV
  have k0 := h0
  have lt0 : ∀ x ∈ p0, x.block < W.heap.size := by obtain ⟨m, hm⟩ := k0; exact DataW.trod_lt m _ _ _ hm
  have k1 := h1
  have lt1 : ∀ x ∈ p1, x.block < W.heap.size := by obtain ⟨m, hm⟩ := k1; exact DataW.trod_lt m _ _ _ hm
  have k2 := h2
  have lt2 : ∀ x ∈ p2, x.block < W.heap.size := by obtain ⟨m, hm⟩ := k2; exact DataW.trod_lt m _ _ _ hm
  obtain ⟨l, h_l⟩ := lines_arg (hval 0 22 v0 rfl rfl) h0
  obtain ⟨nm, rfl, _, _, wnm⟩ := open_string Try.underlying9 (hval 1 9 v1 rfl rfl) h1
  obtain ⟨a, b, rfl, w2_0, w2_1⟩ := rat_arg (hval 2 24 v2 rfl rfl) h2
  clear hA0 hval0
  refine (pointTrues_any v0 l nm a b W h_l wnm w2_0 w2_1).mono fun e W' ⟨he, grw⟩ => ?_
  subst he
  have bel := grw.below
  exact ⟨_, rfl, _, _, _, [], _, [], hW', trodAll_mk1 (shut_bool Try.underlying4 _), (trodAll_cons_mk (Below.trod pointTrues_laidOut (by kernel_rfl) (of_decide_eq_true (by kernel_rfl)) k0 bel lt0) (trodAll_cons_mk (Below.trod pointTrues_laidOut (by kernel_rfl) (of_decide_eq_true (by kernel_rfl)) k1 bel lt1) (trodAll_cons_mk (Below.trod pointTrues_laidOut (by kernel_rfl) (of_decide_eq_true (by kernel_rfl)) k2 bel lt2) trodAll_mk0))), rfl, bel.frame _, fun h => by cases h⟩

/-- THE STATEMENT -/
theorem pointTrues_holds : Rows.PointTruesSaid :=
  OpenClaim.holds_of_wide 5 Try.f5 rfl rfl rfl rfl rfl rfl rfl ⟨rfl, rfl, rfl, rfl, rfl⟩ rfl rfl rfl rfl rfl (by kernel_rfl) Try.func5 (by kernel_rfl)
    (of_decide_eq_true (by kernel_rfl)) (by unfold Func.isWrapper; first | (rw [if_pos (by decide +kernel)]; kernel_rfl) | (rw [if_neg (by decide +kernel)]; exact ⟨rfl, rfl⟩))
    (fun os started H enc _ => pointTrues_lifted os started H enc)
#print axioms pointTrues_holds
end Go.Proofs.Ytjfccilmlmimaaa
