/- For every environment and any two changes the statement EnvOrder answers true: changes of unlike kinds may change places; the same one twice is it once. No condition. -/
import Derived.Test.YtkmpnkgelaaebaaRows
import Derived.Test.YtkmpnkgelaaebaaEnvOrdS
import Derived.Test.YtkmpnkgelaaebaaEnvOrdN
import Derived.Test.YtkmpnkgelaaebaaEnvOrdY
namespace Go.Proofs.Ytkmpnkgelaaebaa
open Go.ChangeShapes Go.WideShapes Go.ChangeAt Go.RowKit
open Go.ChangeMaps (open_string shut_string)

theorem envOrderLaw_any (e : En) (a b : Od) (w : World) (he : e.Wf) (ha : a.Wf) (hb : b.Wf) : Calls Try.prog 7 #[e.v, a.v, b.v] w (Gives w (.bool true)) := by
  by_cases hk : a.five.k0 = b.five.k0
  · by_cases hs : a.five.k0 ≠ 4 ∨ a.five.n.toList = b.five.n.toList
    · exact envOrderSame_any e a b w he ha hk hs
    · have h4 : a.five.k0 = 4 := by
        by_cases h : a.five.k0 = 4
        · exact h
        · exact absurd (.inl h) hs
      have hn : a.five.n.toList ≠ b.five.n.toList := fun h => hs (.inr h)
      by_cases hy : e.may = true ∧ a.five.ok = true ∧ b.five.ok = true
      · exact envOrderYes_any e a b w he ha hb (.inr ⟨hk, h4, hn⟩) hy
      · exact envOrderNo_any e a b w he ha hb (.inr ⟨hk, h4, hn⟩) hy
  · by_cases hy : e.may = true ∧ a.five.ok = true ∧ b.five.ok = true
    · exact envOrderYes_any e a b w he ha hb (.inl hk) hy
    · exact envOrderNo_any e a b w he ha hb (.inl hk) hy

theorem envOrder_own : ownKnob Try.prog.godebug = none := by kernel_rfl
theorem envOrder_laidOut : laidOutB Try.prog = true := by kernel_rfl
set_option maxRecDepth 100000 in
set_option maxHeartbeats 2000000 in
theorem envOrder_lifted (os : Os) (started : os.Started) (H : Type) (enc : TypeId × Value → H) :
    ReturnsInHanded {} Try.checked os 7 .any (Rows.envOrderSpec.pre6 enc Try.prog Try.f7 Rows.envOrderRow.domain false) (Rows.envOrderSpec.post enc Try.prog Try.f7 false true false false) := by
  refine returnsInHanded_of_change (C := Try.checked) envOrder_own started (by kernel_rfl) Try.func7
    (ChangeSpec.witness6 (enc := enc) (C := Try.checked) false ⟨#[], #[.agg #[.bool false, .int .i64 0, .int .i64 0, .int .i64 0, .int .i64 0, .int .i64 0, .int .i64 0, .int .i64 0, .int .i64 0, .string ByteArray.empty, .string ByteArray.empty, .string ByteArray.empty, .string ByteArray.empty], .agg #[.int .i64 0, .int .i64 0, .int .i64 0, .int .i64 0, .string ByteArray.empty, .string ByteArray.empty, .slice none 0 0, .int .i64 0, .int .i64 0, .int .i64 0, .int .i64 0, .int .i64 0, .string ByteArray.empty, .int .i64 0, .int .i64 0, .int .i64 0, .int .i64 0, .bool false], .agg #[.int .i64 0, .int .i64 0, .int .i64 0, .int .i64 0, .string ByteArray.empty, .string ByteArray.empty, .slice none 0 0, .int .i64 0, .int .i64 0, .int .i64 0, .int .i64 0, .int .i64 0, .string ByteArray.empty, .int .i64 0, .int .i64 0, .int .i64 0, .int .i64 0, .bool false]], []⟩ 8 (by kernel_rfl) (by kernel_rfl) (by kernel_rfl) (by kernel_rfl)) ?_
  intro W base args ds gs before hval0 hW hcnd _
  have hval : ∀ (j : Nat) t v, Try.f7.params[j]? = some t → args[j]? = some v → Value.okWide Try.prog W .any base t v := hval0
  have hW' := hW
  obtain ⟨p, q, hA0, hV, rfl, hfz, hnd⟩ := hW
  have hA : DataW.TrodAll enc Try.prog W 0 (fun _ => true) true Try.f7.params.toList args.toList ds p := hA0
  rw [Try.params7] at hA hval
  obtain ⟨v0, vs0, d0, ds0, p0, q0, hargs, rfl, rfl, h0, r0⟩ := trodAll_cons hA
  obtain ⟨v1, vs1, d1, ds1, p1, q1, rfl, rfl, rfl, h1, r1⟩ := trodAll_cons r0
  obtain ⟨v2, vs2, d2, ds2, p2, q2, rfl, rfl, rfl, h2, r2⟩ := trodAll_cons r1
  obtain ⟨rfl, rfl, rfl⟩ := trodAll_nil r2
  obtain rfl : args = #[v0, v1, v2] := by cases args; simp_all
  obtain ⟨rfl, rfl⟩ := trodVars_none hV
  have k0 := h0
  have lt0 : ∀ x ∈ p0, x.block < W.heap.size := by obtain ⟨m, hm⟩ := k0; exact DataW.trod_lt m _ _ _ hm
  have k1 := h1
  have lt1 : ∀ x ∈ p1, x.block < W.heap.size := by obtain ⟨m, hm⟩ := k1; exact DataW.trod_lt m _ _ _ hm
  have k2 := h2
  have lt2 : ∀ x ∈ p2, x.block < W.heap.size := by obtain ⟨m, hm⟩ := k2; exact DataW.trod_lt m _ _ _ hm
  obtain ⟨E_p, E_w1, E_w2, E_h1, E_h2, E_f1, E_f2, E_c1, E_c2, E_s, E_h, E_q, E_m, rfl, w0_0, w0_1, w0_2, w0_3, w0_4, w0_5, w0_6, w0_7, w0_8, w0_9, w0_10, w0_11⟩ := en_arg (hval 0 37 v0 rfl rfl) h0
  obtain ⟨A_k0, A_k1, A_k2, A_k3, A_n, A_wd, A_tp, A_tl, A_tc, A_a, A_b, A_c, A_d, A_bt, A_bs, A_b1, A_b2, A_b3, A_b4, A_on, rfl, w1_0, w1_1, w1_2, w1_3, w1_4, w1_5, w1_6, w1_7, w1_8, w1_9, w1_10, w1_11, w1_12, w1_13, w1_14, w1_15⟩ := op_arg (hval 1 47 v1 rfl rfl) h1
  obtain ⟨B_k0, B_k1, B_k2, B_k3, B_n, B_wd, B_tp, B_tl, B_tc, B_a, B_b, B_c, B_d, B_bt, B_bs, B_b1, B_b2, B_b3, B_b4, B_on, rfl, w2_0, w2_1, w2_2, w2_3, w2_4, w2_5, w2_6, w2_7, w2_8, w2_9, w2_10, w2_11, w2_12, w2_13, w2_14, w2_15⟩ := op_arg (hval 2 47 v2 rfl rfl) h2
  clear hA0 hval0
  refine (envOrderLaw_any ⟨E_p, E_w1, E_w2, E_h1, E_h2, E_f1, E_f2, E_c1, E_c2, E_s, E_h, E_q, E_m⟩ ⟨A_k0, A_k1, A_k2, A_k3, A_n, A_wd, A_tp, A_tl, A_tc, A_a, A_b, A_c, A_d, A_bt, A_bs, A_b1, A_b2, A_b3, A_b4, A_on⟩ ⟨B_k0, B_k1, B_k2, B_k3, B_n, B_wd, B_tp, B_tl, B_tc, B_a, B_b, B_c, B_d, B_bt, B_bs, B_b1, B_b2, B_b3, B_b4, B_on⟩ W ⟨w0_0, w0_1, w0_2, w0_3, w0_4, w0_5, w0_6, w0_7⟩ ⟨w1_6, w1_7, w1_8, w1_9⟩ ⟨w2_6, w2_7, w2_8, w2_9⟩).mono fun e W' ⟨he, grw⟩ => ?_
  subst he
  have bel := grw.below
  exact ⟨_, rfl, _, _, _, [], _, [], hW', trodAll_mk1 (shut_bool Try.underlying4 _), (trodAll_cons_mk (Below.trod envOrder_laidOut (by kernel_rfl) (of_decide_eq_true (by kernel_rfl)) k0 bel lt0) (trodAll_cons_mk (Below.trod envOrder_laidOut (by kernel_rfl) (of_decide_eq_true (by kernel_rfl)) k1 bel lt1) (trodAll_cons_mk (Below.trod envOrder_laidOut (by kernel_rfl) (of_decide_eq_true (by kernel_rfl)) k2 bel lt2) trodAll_mk0))), rfl, bel.frame _, fun h => by cases h⟩

/-- THE STATEMENT -/
theorem envOrder_holds : Rows.EnvOrderSaid :=
  OpenClaim.holds_of_wide 7 Try.f7 rfl rfl rfl rfl rfl rfl rfl ⟨rfl, rfl, rfl, rfl, rfl⟩ rfl rfl rfl rfl rfl (by kernel_rfl) Try.func7 (by kernel_rfl)
    (of_decide_eq_true (by kernel_rfl)) (by unfold Func.isWrapper; first | (rw [if_pos (by decide +kernel)]; kernel_rfl) | (rw [if_neg (by decide +kernel)]; exact ⟨rfl, rfl⟩))
    (fun os started H enc _ => envOrder_lifted os started H enc)
#print axioms envOrder_holds

end Go.Proofs.Ytkmpnkgelaaebaa
