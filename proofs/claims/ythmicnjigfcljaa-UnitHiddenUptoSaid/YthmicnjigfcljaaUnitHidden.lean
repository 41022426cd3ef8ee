/- For every expression and contexts whose values are no more than 1048576 in number the statement UnitHidden answers true: the size of a unit that a form does not use makes no difference. -/
import Derived.Test.YthmicnjigfcljaaRows
import Derived.Test.YthmicnjigfcljaaUses
import Derived.Test.YthmicnjigfcljaaUPx
import Derived.Test.YthmicnjigfcljaaRForm4
import Derived.Test.YthmicnjigfcljaaOpenX
import Derived.JoinedCond
set_option linter.unusedSimpArgs false
set_option linter.unusedVariables false
namespace Go.Proofs.Ythmicnjigfcljaa
open Go.ChangeShapes Go.WideShapes Go.ChangeAt Go.RowKit

theorem bit_test2 {U : Nat} (h : U < 256) : (bits .and .i64 ((U : Int) / 4) 1 == 1) = U.testBit 2 := by
  have : ∀ U : Fin 256, (bits .and .i64 (((U.val : Nat) : Int) / 4) 1 == 1) = U.val.testBit 2 := by decide +kernel
  exact this ⟨U, h⟩
theorem bit_test3 {U : Nat} (h : U < 256) : (bits .and .i64 ((U : Int) / 8) 1 == 1) = U.testBit 3 := by
  have : ∀ U : Fin 256, (bits .and .i64 (((U.val : Nat) : Int) / 8) 1 == 1) = U.val.testBit 3 := by decide +kernel
  exact this ⟨U, h⟩
theorem bit_test4 {U : Nat} (h : U < 256) : (bits .and .i64 ((U : Int) / 16) 1 == 1) = U.testBit 4 := by
  have : ∀ U : Fin 256, (bits .and .i64 (((U.val : Nat) : Int) / 16) 1 == 1) = U.val.testBit 4 := by decide +kernel
  exact this ⟨U, h⟩
theorem bit_test5 {U : Nat} (h : U < 256) : (bits .and .i64 ((U : Int) / 32) 1 == 1) = U.testBit 5 := by
  have : ∀ U : Fin 256, (bits .and .i64 (((U.val : Nat) : Int) / 32) 1 == 1) = U.val.testBit 5 := by decide +kernel
  exact this ⟨U, h⟩
theorem bit_test6 {U : Nat} (h : U < 256) : (bits .and .i64 ((U : Int) / 64) 1 == 1) = U.testBit 6 := by
  have : ∀ U : Fin 256, (bits .and .i64 (((U.val : Nat) : Int) / 64) 1 == 1) = U.val.testBit 6 := by decide +kernel
  exact this ⟨U, h⟩
theorem bit_test7 {U : Nat} (h : U < 256) : (bits .and .i64 ((U : Int) / 128) 1 == 1) = U.testBit 7 := by
  have : ∀ U : Fin 256, (bits .and .i64 (((U.val : Nat) : Int) / 128) 1 == 1) = U.val.testBit 7 := by decide +kernel
  exact this ⟨U, h⟩
@[go_sem] theorem setL_c (z : Array Value) (k : Nat) (v : Value) (l : List Value) : setL z k (v :: l) = setL (z.setIfInBounds k v) (k + 1) l := rfl
@[go_sem] theorem setL_n (z : Array Value) (k : Nat) : setL z k [] = z := rfl

set_option maxRecDepth 100000 in
set_option maxHeartbeats 8000000 in
theorem hidden_no (m : Nat) (t : Ex) (cs : List Value) (c1 c2 c3 c4 c5 c6 c7 c8 c9 c10 c11 c12 d1 d2 d3 d4 d5 d6 d7 d8 d9 d10 d11 d12 : Int) (w : World) (h : ExAt w m t cs) (h0 : askE m t 2 ≠ 0) :
    Calls Try.prog 12 #[.agg cs.toArray, .agg #[.int .i64 c1, .int .i64 c2, .int .i64 c3, .int .i64 c4, .int .i64 c5, .int .i64 c6, .int .i64 c7, .int .i64 c8, .int .i64 c9, .int .i64 c10, .int .i64 c11, .int .i64 c12], .agg #[.int .i64 d1, .int .i64 d2, .int .i64 d3, .int .i64 d4, .int .i64 d5, .int .i64 d6, .int .i64 d7, .int .i64 d8, .int .i64 d9, .int .i64 d10, .int .i64 d11, .int .i64 d12]] w (Gives w (.bool true)) := by
  have k1 : ∀ W, w.grows W → _ := fun W hW => ref12Kind_any m t cs W (h.grows hW)
  obtain ⟨v0, v1, v2, v3, va, vl, vc, rfl⟩ := ExAt_vals h
  have hA : askE m t 2 = if mayE m 340 t then (if kindE m t = 2 then 0 else 4) else 1 := rfl
  rw [hA] at h0
  generalize mayE m 340 t = B at *
  generalize kindE m t = K at *
  clear h hA
  cases B
  · simp only [Bool.false_eq_true, if_false] at k1
    have K1 := Lib.hid k1; clear k1 h0
    go_enter Try.func12, Try.ntmps12
    go_wp2_with (first | (go_at_call 17; (with_reducible refine (K1.out _ (by repeat (with_reducible first | assumption | exact grA | apply grB | apply grC | apply grD | refine grE ?_ (by omega) _ | refine grF ?_ (by omega) _ _))).mono ?_); rintro e w1 ⟨rfl, x1, rfl⟩) | (go_at_call 41; (with_reducible refine (awake13_any _).mono ?_); rintro e w1 ⟨rfl, x1, rfl⟩))
    all_goals go_ret
    all_goals exact ⟨rfl, (by repeat (with_reducible first | assumption | exact grA | apply grB | apply grC | apply grD | refine grE ?_ (by omega) _ | refine grF ?_ (by omega) _ _))⟩
  · simp only [if_true] at k1 h0
    have hK : K ≠ 2 := fun e => h0 (by rw [if_pos e])
    by_cases hK0 : K = 0
    · subst hK0
      simp only [if_true] at k1
      have K1 := Lib.hid k1; clear k1 h0 hK
      go_enter Try.func12, Try.ntmps12
      go_wp2_with (first | (go_at_call 17; (with_reducible refine (K1.out _ (by repeat (with_reducible first | assumption | exact grA | apply grB | apply grC | apply grD | refine grE ?_ (by omega) _ | refine grF ?_ (by omega) _ _))).mono ?_); rintro e w1 ⟨rfl, x1, rfl⟩) | (go_at_call 41; (with_reducible refine (awake13_any _).mono ?_); rintro e w1 ⟨rfl, x1, rfl⟩))
      all_goals go_ret
      all_goals exact ⟨rfl, (by repeat (with_reducible first | assumption | exact grA | apply grB | apply grC | apply grD | refine grE ?_ (by omega) _ | refine grF ?_ (by omega) _ _))⟩
    · rw [if_neg hK0] at k1
      have e1 : (K == 2) = false := by simpa using hK
      have e2 : (K != 2) = true := by simpa using hK
      have K1 := Lib.hid k1; clear k1 h0 hK hK0
      go_enter Try.func12, Try.ntmps12
      go_wp2_with (first | (go_at_call 17; (with_reducible refine (K1.out _ (by repeat (with_reducible first | assumption | exact grA | apply grB | apply grC | apply grD | refine grE ?_ (by omega) _ | refine grF ?_ (by omega) _ _))).mono ?_); rintro e w1 ⟨rfl, x1, rfl⟩) | (go_at_call 41; (with_reducible refine (awake13_any _).mono ?_); rintro e w1 ⟨rfl, x1, rfl⟩))
      all_goals go_ret
      all_goals exact ⟨rfl, (by repeat (with_reducible first | assumption | exact grA | apply grB | apply grC | apply grD | refine grE ?_ (by omega) _ | refine grF ?_ (by omega) _ _))⟩

set_option maxRecDepth 100000 in
set_option maxHeartbeats 8000000 in
theorem hidden_yes (m : Nat) (t : Ex) (cs : List Value) (c1 c2 c3 c4 c5 c6 c7 c8 c9 c10 c11 c12 d1 d2 d3 d4 d5 d6 d7 d8 d9 d10 d11 d12 : Int) (w : World) (h : ExAt w m t cs) (hsz : szE m t ≤ 1048576) (h0 : askE m t 2 = 0)
    (hcb : Cx.bd ⟨(c1, c2), (c3, c4), (c5, c6), (c7, c8), (c9, c10), (c11, c12)⟩) (hdb : Cx.bd ⟨(d1, d2), (d3, d4), (d5, d6), (d7, d8), (d9, d10), (d11, d12)⟩) :
    Calls Try.prog 12 #[.agg cs.toArray, .agg #[.int .i64 c1, .int .i64 c2, .int .i64 c3, .int .i64 c4, .int .i64 c5, .int .i64 c6, .int .i64 c7, .int .i64 c8, .int .i64 c9, .int .i64 c10, .int .i64 c11, .int .i64 c12], .agg #[.int .i64 d1, .int .i64 d2, .int .i64 d3, .int .i64 d4, .int .i64 d5, .int .i64 d6, .int .i64 d7, .int .i64 d8, .int .i64 d9, .int .i64 d10, .int .i64 d11, .int .i64 d12]] w (Gives w (.bool true)) := by
  obtain ⟨hm, hk⟩ := ask_zero h0
  have k1 : ∀ W, w.grows W → Calls Try.prog 17 #[.agg cs.toArray] W (Gives W (.tuple #[.int .i64 2, .int .i64 0])) := fun W hW => by
    have := ref12Kind_any m t cs W (h.grows hW)
    rw [hm, if_pos rfl, if_pos rfl, hk, if_neg (by decide)] at this
    exact this
  have k2 : ∀ W, w.grows W → Calls Try.prog 20 #[.agg cs.toArray] W (FormP W (fun _ => True) (formE m t)) := fun W hW => rform_all m t cs 340 W (fun _ => True) (fun _ _ => trivial) (h.grows hW) hm (Nat.le_refl _) hk hsz
  have hfz : szF (formE m t) ≤ 4194304 := by have := szF_formE m 340 t hm; omega
  obtain ⟨v0, v1, v2, v3, va, vl, vc, rfl⟩ := ExAt_vals h
  generalize formE m t = F at *
  have hU8 := usF_lt F
  have k3 : ∀ W cs', FormOk W (fun _ => True) F cs' → Calls Try.prog 42 #[.agg cs'.toArray] W (Gives W (.int .i64 (usF F : Nat))) := fun W cs' ⟨mm, hf⟩ => uses_all mm F cs' W _ hf
  have hag := mixC_agree (usF F) ⟨(c1, c2), (c3, c4), (c5, c6), (c7, c8), (c9, c10), (c11, c12)⟩ ⟨(d1, d2), (d3, d4), (d5, d6), (d7, d8), (d9, d10), (d11, d12)⟩
  have hpx := pxF_agree F hag
  have hmb := mixC_bd (m := usF F) hcb hdb
  have k4 : ∀ W cs', FormOk W (fun _ => True) F cs' → _ := fun W cs' hf => unitPx_any ⟨(c1, c2), (c3, c4), (c5, c6), (c7, c8), (c9, c10), (c11, c12)⟩ hcb F cs' W _ hf hfz
  have k5 : ∀ W cs', FormOk W (fun _ => True) F cs' → _ := fun W cs' hf => unitPx_any (mixC (usF F) ⟨(c1, c2), (c3, c4), (c5, c6), (c7, c8), (c9, c10), (c11, c12)⟩ ⟨(d1, d2), (d3, d4), (d5, d6), (d7, d8), (d9, d10), (d11, d12)⟩) hmb F cs' W _ hf hfz
  rw [← hpx] at k5
  generalize (if mayF 340 F then pxF (sizeQ ⟨(c1, c2), (c3, c4), (c5, c6), (c7, c8), (c9, c10), (c11, c12)⟩) F else (0, 0)) = R at *
  obtain ⟨R1, R2⟩ := R
  generalize usF F = U at *
  have K1 := Lib.hid k1; have K2 := Lib.hid k2; have K3 := Lib.hid k3; have K4 := Lib.hid k4; have K5 := Lib.hid k5
  clear k1 k2 k3 k4 k5 h hsz h0 hm hk hfz hag hpx hmb hcb hdb
  go_enter Try.func12, Try.ntmps12
  obtain ⟨f1, f2, hp0⟩ : ∃ x y : Int, (if U.testBit 2 then ((c1, c2) : Int × Int) else (d1, d2)) = (x, y) := ⟨_, _, rfl⟩
  have e0 : (bits .and .i64 ((U : Int) / 4) 1 == 1) = U.testBit 2 := bit_test2 hU8
  obtain ⟨f3, f4, hp1⟩ : ∃ x y : Int, (if U.testBit 3 then ((c3, c4) : Int × Int) else (d3, d4)) = (x, y) := ⟨_, _, rfl⟩
  have e1 : (bits .and .i64 ((U : Int) / 8) 1 == 1) = U.testBit 3 := bit_test3 hU8
  obtain ⟨f5, f6, hp2⟩ : ∃ x y : Int, (if U.testBit 4 then ((c5, c6) : Int × Int) else (d5, d6)) = (x, y) := ⟨_, _, rfl⟩
  have e2 : (bits .and .i64 ((U : Int) / 16) 1 == 1) = U.testBit 4 := bit_test4 hU8
  obtain ⟨f7, f8, hp3⟩ : ∃ x y : Int, (if U.testBit 5 then ((c7, c8) : Int × Int) else (d7, d8)) = (x, y) := ⟨_, _, rfl⟩
  have e3 : (bits .and .i64 ((U : Int) / 32) 1 == 1) = U.testBit 5 := bit_test5 hU8
  obtain ⟨f9, f10, hp4⟩ : ∃ x y : Int, (if U.testBit 6 then ((c9, c10) : Int × Int) else (d9, d10)) = (x, y) := ⟨_, _, rfl⟩
  have e4 : (bits .and .i64 ((U : Int) / 64) 1 == 1) = U.testBit 6 := bit_test6 hU8
  obtain ⟨f11, f12, hp5⟩ : ∃ x y : Int, (if U.testBit 7 then ((c11, c12) : Int × Int) else (d11, d12)) = (x, y) := ⟨_, _, rfl⟩
  have e5 : (bits .and .i64 ((U : Int) / 128) 1 == 1) = U.testBit 7 := bit_test7 hU8
  have k4 : ∀ W cs', FormOk W (fun _ => True) F cs' → Calls Try.prog 40 #[.agg cs'.toArray, .agg #[.int .i64 c1, .int .i64 c2, .int .i64 c3, .int .i64 c4, .int .i64 c5, .int .i64 c6, .int .i64 c7, .int .i64 c8, .int .i64 c9, .int .i64 c10, .int .i64 c11, .int .i64 c12]] W (Gives W (.agg #[.int .i64 R1, .int .i64 R2])) := fun W cs' hf => K4.out W cs' hf
  have k5 : ∀ W cs', FormOk W (fun _ => True) F cs' → Calls Try.prog 40 #[.agg cs'.toArray, .agg #[.int .i64 f1, .int .i64 f2, .int .i64 f3, .int .i64 f4, .int .i64 f5, .int .i64 f6, .int .i64 f7, .int .i64 f8, .int .i64 f9, .int .i64 f10, .int .i64 f11, .int .i64 f12]] W (Gives W (.agg #[.int .i64 R1, .int .i64 R2])) := fun W cs' hf => by
    have h := K5.out W cs' hf
    unfold mixC at h
    dsimp only at h
    rw [hp0, hp1, hp2, hp3, hp4, hp5] at h
    exact h
  have K6 := Lib.hid k4; have K7 := Lib.hid k5
  clear k4 k5 K4 K5
  go_upto_if 32 with (first | (go_at_call 17; (with_reducible refine (K1.out _ (by repeat (with_reducible first | assumption | exact grA | apply grB | apply grC | apply grD | refine grE ?_ (by omega) _ | refine grF ?_ (by omega) _ _))).mono ?_); rintro e w1 ⟨rfl, x1, rfl⟩) | (go_at_call 20; (with_reducible refine (K2.out _ (by repeat (with_reducible first | assumption | exact grA | apply grB | apply grC | apply grD | refine grE ?_ (by omega) _ | refine grF ?_ (by omega) _ _))).mono ?_); rintro e w1 ⟨a5, c5', rfl, hg5, h57, h5b, h5s⟩; have hgw1 : w.grows w1 := World.grows.trans (by repeat (with_reducible first | assumption | exact grA | apply grB | apply grC | apply grD | refine grE ?_ (by omega) _ | refine grF ?_ (by omega) _ _)) hg5; have q1 := hg5.row_eq (g := w.heap.size + 1) (by simp <;> omega); have q2 := hg5.row_eq (g := w.heap.size + 1 + 1) (by simp <;> omega); simp [go_sem] at q1 q2; have t1 := row_sz' q1; have t2 := row_sz' q2; have hok : FormOk w1 (fun _ => True) F (formC F.us (.slice a5 F.ps.length c5')) := FormOk_of_parts h57 h5b h5s; have HOK := Lib.hid hok; clear h5b h5s hok hg5) | (go_at_call 42; (with_reducible refine (K3.out _ _ (HOK.out.grows (by repeat (with_reducible first | assumption | exact grA | apply grB | apply grC | apply grD | refine grE ?_ (by omega) _ | refine grF ?_ (by omega) _ _)))).mono ?_); rintro e w2 ⟨rfl, x2, rfl⟩))
  generalize hbe : w1.heap.size + 1 + x2.bs.size = b at *
  have nb1 : (b = w1.heap.size) = False := by apply eq_false; omega
  have nb2 : (w1.heap.size = b) = False := by apply eq_false; omega
  have hbw : w1.heap.size ≤ b := by omega
  go_cut [11] (fun v11 wx => v11 = .pointer (some ⟨b, 0, none⟩) ∧ w1.grows wx ∧ wx.row w1.heap.size = some (.cells (formC F.us (.slice a5 F.ps.length c5')).toArray 30) ∧ wx.row b = some (.cells #[.int .i64 f1, .int .i64 f2, .int .i64 d3, .int .i64 d4, .int .i64 d5, .int .i64 d6, .int .i64 d7, .int .i64 d8, .int .i64 d9, .int .i64 d10, .int .i64 d11, .int .i64 d12] 58))
  case first =>
    cases hb : U.testBit 2
    · rw [hb] at e0 hp0
      have en : ¬ bits .and .i64 ((U : Int) / 4) 1 = 1 := by simpa using e0
      simp only [Bool.false_eq_true, if_false, Prod.mk.injEq] at hp0
      obtain ⟨rfl, rfl⟩ := hp0
      go_wp2_with fail
      go_meet
      exact ⟨rfl, (by repeat (with_reducible first | assumption | exact grA | apply grB | apply grC | apply grD | refine grE ?_ (by omega) _ | refine grF ?_ (by omega) _ _)), by simp [go_sem, hbe, nb1, nb2], by simp [go_sem, hbe, nb1, nb2]⟩
    · rw [hb] at e0 hp0
      have en : bits .and .i64 ((U : Int) / 4) 1 = 1 := by simpa using e0
      simp only [if_true, Prod.mk.injEq] at hp0
      obtain ⟨rfl, rfl⟩ := hp0
      go_wp2_with fail
      go_meet
      exact ⟨rfl, (by repeat (with_reducible first | assumption | exact grA | apply grB | apply grC | apply grD | refine grE ?_ (by omega) _ | refine grF ?_ (by omega) _ _)), by simp [go_sem, hbe, nb1, nb2], by simp [go_sem, hbe, nb1, nb2]⟩
  clear e0 hbe
  obtain ⟨rfl, hgx, hrf, hrb⟩ := hcut
  have hrc := (hgx.row_eq t1.1).trans q1
  have zf := row_sz' hrf; have zb := row_sz' hrb; have zc := row_sz' hrc
  go_upto_if 39 with fail
  go_cut [11] (fun v11 wx => v11 = .pointer (some ⟨b, 0, none⟩) ∧ w1.grows wx ∧ wx.row w1.heap.size = some (.cells (formC F.us (.slice a5 F.ps.length c5')).toArray 30) ∧ wx.row b = some (.cells #[.int .i64 f1, .int .i64 f2, .int .i64 f3, .int .i64 f4, .int .i64 d5, .int .i64 d6, .int .i64 d7, .int .i64 d8, .int .i64 d9, .int .i64 d10, .int .i64 d11, .int .i64 d12] 58))
  case first =>
    cases hb : U.testBit 3
    · rw [hb] at e1 hp1
      have en : ¬ bits .and .i64 ((U : Int) / 8) 1 = 1 := by simpa using e1
      simp only [Bool.false_eq_true, if_false, Prod.mk.injEq] at hp1
      obtain ⟨rfl, rfl⟩ := hp1
      go_wp2_with fail
      go_meet
      exact ⟨rfl, (by repeat (with_reducible first | assumption | exact grA | apply grB | apply grC | apply grD | refine grE ?_ (by omega) _ | refine grF ?_ (by omega) _ _)), by simp [go_sem, hrb, hrf, zb, zf, nb1, nb2], by simp [go_sem, hrb, hrf, zb, zf, nb1, nb2]⟩
    · rw [hb] at e1 hp1
      have en : bits .and .i64 ((U : Int) / 8) 1 = 1 := by simpa using e1
      simp only [if_true, Prod.mk.injEq] at hp1
      obtain ⟨rfl, rfl⟩ := hp1
      go_wp2_with fail
      go_meet
      exact ⟨rfl, (by repeat (with_reducible first | assumption | exact grA | apply grB | apply grC | apply grD | refine grE ?_ (by omega) _ | refine grF ?_ (by omega) _ _)), by simp [go_sem, hrb, hrf, zb, zf, nb1, nb2], by simp [go_sem, hrb, hrf, zb, zf, nb1, nb2]⟩
  clear e1 hgx hrf hrb zf zb hrc zc
  obtain ⟨rfl, hgx, hrf, hrb⟩ := hcut
  have hrc := (hgx.row_eq t1.1).trans q1
  have zf := row_sz' hrf; have zb := row_sz' hrb; have zc := row_sz' hrc
  go_upto_if 46 with fail
  go_cut [11] (fun v11 wx => v11 = .pointer (some ⟨b, 0, none⟩) ∧ w1.grows wx ∧ wx.row w1.heap.size = some (.cells (formC F.us (.slice a5 F.ps.length c5')).toArray 30) ∧ wx.row b = some (.cells #[.int .i64 f1, .int .i64 f2, .int .i64 f3, .int .i64 f4, .int .i64 f5, .int .i64 f6, .int .i64 d7, .int .i64 d8, .int .i64 d9, .int .i64 d10, .int .i64 d11, .int .i64 d12] 58))
  case first =>
    cases hb : U.testBit 4
    · rw [hb] at e2 hp2
      have en : ¬ bits .and .i64 ((U : Int) / 16) 1 = 1 := by simpa using e2
      simp only [Bool.false_eq_true, if_false, Prod.mk.injEq] at hp2
      obtain ⟨rfl, rfl⟩ := hp2
      go_wp2_with fail
      go_meet
      exact ⟨rfl, (by repeat (with_reducible first | assumption | exact grA | apply grB | apply grC | apply grD | refine grE ?_ (by omega) _ | refine grF ?_ (by omega) _ _)), by simp [go_sem, hrb, hrf, zb, zf, nb1, nb2], by simp [go_sem, hrb, hrf, zb, zf, nb1, nb2]⟩
    · rw [hb] at e2 hp2
      have en : bits .and .i64 ((U : Int) / 16) 1 = 1 := by simpa using e2
      simp only [if_true, Prod.mk.injEq] at hp2
      obtain ⟨rfl, rfl⟩ := hp2
      go_wp2_with fail
      go_meet
      exact ⟨rfl, (by repeat (with_reducible first | assumption | exact grA | apply grB | apply grC | apply grD | refine grE ?_ (by omega) _ | refine grF ?_ (by omega) _ _)), by simp [go_sem, hrb, hrf, zb, zf, nb1, nb2], by simp [go_sem, hrb, hrf, zb, zf, nb1, nb2]⟩
  clear e2 hgx hrf hrb zf zb hrc zc
  obtain ⟨rfl, hgx, hrf, hrb⟩ := hcut
  have hrc := (hgx.row_eq t1.1).trans q1
  have zf := row_sz' hrf; have zb := row_sz' hrb; have zc := row_sz' hrc
  go_upto_if 53 with fail
  go_cut [11] (fun v11 wx => v11 = .pointer (some ⟨b, 0, none⟩) ∧ w1.grows wx ∧ wx.row w1.heap.size = some (.cells (formC F.us (.slice a5 F.ps.length c5')).toArray 30) ∧ wx.row b = some (.cells #[.int .i64 f1, .int .i64 f2, .int .i64 f3, .int .i64 f4, .int .i64 f5, .int .i64 f6, .int .i64 f7, .int .i64 f8, .int .i64 d9, .int .i64 d10, .int .i64 d11, .int .i64 d12] 58))
  case first =>
    cases hb : U.testBit 5
    · rw [hb] at e3 hp3
      have en : ¬ bits .and .i64 ((U : Int) / 32) 1 = 1 := by simpa using e3
      simp only [Bool.false_eq_true, if_false, Prod.mk.injEq] at hp3
      obtain ⟨rfl, rfl⟩ := hp3
      go_wp2_with fail
      go_meet
      exact ⟨rfl, (by repeat (with_reducible first | assumption | exact grA | apply grB | apply grC | apply grD | refine grE ?_ (by omega) _ | refine grF ?_ (by omega) _ _)), by simp [go_sem, hrb, hrf, zb, zf, nb1, nb2], by simp [go_sem, hrb, hrf, zb, zf, nb1, nb2]⟩
    · rw [hb] at e3 hp3
      have en : bits .and .i64 ((U : Int) / 32) 1 = 1 := by simpa using e3
      simp only [if_true, Prod.mk.injEq] at hp3
      obtain ⟨rfl, rfl⟩ := hp3
      go_wp2_with fail
      go_meet
      exact ⟨rfl, (by repeat (with_reducible first | assumption | exact grA | apply grB | apply grC | apply grD | refine grE ?_ (by omega) _ | refine grF ?_ (by omega) _ _)), by simp [go_sem, hrb, hrf, zb, zf, nb1, nb2], by simp [go_sem, hrb, hrf, zb, zf, nb1, nb2]⟩
  clear e3 hgx hrf hrb zf zb hrc zc
  obtain ⟨rfl, hgx, hrf, hrb⟩ := hcut
  have hrc := (hgx.row_eq t1.1).trans q1
  have zf := row_sz' hrf; have zb := row_sz' hrb; have zc := row_sz' hrc
  go_upto_if 60 with fail
  go_cut [11] (fun v11 wx => v11 = .pointer (some ⟨b, 0, none⟩) ∧ w1.grows wx ∧ wx.row w1.heap.size = some (.cells (formC F.us (.slice a5 F.ps.length c5')).toArray 30) ∧ wx.row b = some (.cells #[.int .i64 f1, .int .i64 f2, .int .i64 f3, .int .i64 f4, .int .i64 f5, .int .i64 f6, .int .i64 f7, .int .i64 f8, .int .i64 f9, .int .i64 f10, .int .i64 d11, .int .i64 d12] 58))
  case first =>
    cases hb : U.testBit 6
    · rw [hb] at e4 hp4
      have en : ¬ bits .and .i64 ((U : Int) / 64) 1 = 1 := by simpa using e4
      simp only [Bool.false_eq_true, if_false, Prod.mk.injEq] at hp4
      obtain ⟨rfl, rfl⟩ := hp4
      go_wp2_with fail
      go_meet
      exact ⟨rfl, (by repeat (with_reducible first | assumption | exact grA | apply grB | apply grC | apply grD | refine grE ?_ (by omega) _ | refine grF ?_ (by omega) _ _)), by simp [go_sem, hrb, hrf, zb, zf, nb1, nb2], by simp [go_sem, hrb, hrf, zb, zf, nb1, nb2]⟩
    · rw [hb] at e4 hp4
      have en : bits .and .i64 ((U : Int) / 64) 1 = 1 := by simpa using e4
      simp only [if_true, Prod.mk.injEq] at hp4
      obtain ⟨rfl, rfl⟩ := hp4
      go_wp2_with fail
      go_meet
      exact ⟨rfl, (by repeat (with_reducible first | assumption | exact grA | apply grB | apply grC | apply grD | refine grE ?_ (by omega) _ | refine grF ?_ (by omega) _ _)), by simp [go_sem, hrb, hrf, zb, zf, nb1, nb2], by simp [go_sem, hrb, hrf, zb, zf, nb1, nb2]⟩
  clear e4 hgx hrf hrb zf zb hrc zc
  obtain ⟨rfl, hgx, hrf, hrb⟩ := hcut
  have hrc := (hgx.row_eq t1.1).trans q1
  have zf := row_sz' hrf; have zb := row_sz' hrb; have zc := row_sz' hrc
  go_upto_if 67 with fail
  go_cut [11] (fun v11 wx => v11 = .pointer (some ⟨b, 0, none⟩) ∧ w1.grows wx ∧ wx.row w1.heap.size = some (.cells (formC F.us (.slice a5 F.ps.length c5')).toArray 30) ∧ wx.row b = some (.cells #[.int .i64 f1, .int .i64 f2, .int .i64 f3, .int .i64 f4, .int .i64 f5, .int .i64 f6, .int .i64 f7, .int .i64 f8, .int .i64 f9, .int .i64 f10, .int .i64 f11, .int .i64 f12] 58))
  case first =>
    cases hb : U.testBit 7
    · rw [hb] at e5 hp5
      have en : ¬ bits .and .i64 ((U : Int) / 128) 1 = 1 := by simpa using e5
      simp only [Bool.false_eq_true, if_false, Prod.mk.injEq] at hp5
      obtain ⟨rfl, rfl⟩ := hp5
      go_wp2_with fail
      go_meet
      exact ⟨rfl, (by repeat (with_reducible first | assumption | exact grA | apply grB | apply grC | apply grD | refine grE ?_ (by omega) _ | refine grF ?_ (by omega) _ _)), by simp [go_sem, hrb, hrf, zb, zf, nb1, nb2], by simp [go_sem, hrb, hrf, zb, zf, nb1, nb2]⟩
    · rw [hb] at e5 hp5
      have en : bits .and .i64 ((U : Int) / 128) 1 = 1 := by simpa using e5
      simp only [if_true, Prod.mk.injEq] at hp5
      obtain ⟨rfl, rfl⟩ := hp5
      go_wp2_with fail
      go_meet
      exact ⟨rfl, (by repeat (with_reducible first | assumption | exact grA | apply grB | apply grC | apply grD | refine grE ?_ (by omega) _ | refine grF ?_ (by omega) _ _)), by simp [go_sem, hrb, hrf, zb, zf, nb1, nb2], by simp [go_sem, hrb, hrf, zb, zf, nb1, nb2]⟩
  clear e5 hgx hrf hrb zf zb hrc zc
  obtain ⟨rfl, hgx, hrf, hrb⟩ := hcut
  have hrc := (hgx.row_eq t1.1).trans q1
  have zf := row_sz' hrf; have zb := row_sz' hrb; have zc := row_sz' hrc
  go_wp2_with fail
  refine wp_region_plus_lit (by kernel_rfl) (by kernel_rfl) ?_
  repeat (go_big_quiet_step ((first | (go_at_call 40; (with_reducible exact Calls.plus_of (K6.out _ _ (HOK.out.grows (by repeat (with_reducible first | assumption | exact grA | apply grB | apply grC | apply grD | refine grE ?_ (by omega) _ | refine grF ?_ (by omega) _ _)))))) | (go_at_call 40; (with_reducible exact Calls.plus_of (K7.out _ _ (HOK.out.grows (by repeat (with_reducible first | assumption | exact grA | apply grB | apply grC | apply grD | refine grE ?_ (by omega) _ | refine grF ?_ (by omega) _ _)))))) | (go_at_call 41; (with_reducible exact Calls.plus_of (awake13_any _))))))
  (refine wpQuiet_nil ?_; intro _ hw'; obtain ⟨xq, hw''⟩ := hw'; subst hw'')
  go_wp2_with fail
  all_goals go_ret
  all_goals exact ⟨rfl, World.grows.trans hgw1 (by repeat (with_reducible first | assumption | exact grA | apply grB | apply grC | apply grD | refine grE ?_ (by omega) _ | refine grF ?_ (by omega) _ _))⟩

theorem hidden_law (m : Nat) (t : Ex) (cs : List Value) (c1 c2 c3 c4 c5 c6 c7 c8 c9 c10 c11 c12 d1 d2 d3 d4 d5 d6 d7 d8 d9 d10 d11 d12 : Int) (w : World) (h : ExAt w m t cs) (hsz : szE m t ≤ 1048576) (hcb : Cx.bd ⟨(c1, c2), (c3, c4), (c5, c6), (c7, c8), (c9, c10), (c11, c12)⟩) (hdb : Cx.bd ⟨(d1, d2), (d3, d4), (d5, d6), (d7, d8), (d9, d10), (d11, d12)⟩) :
    Calls Try.prog 12 #[.agg cs.toArray, .agg #[.int .i64 c1, .int .i64 c2, .int .i64 c3, .int .i64 c4, .int .i64 c5, .int .i64 c6, .int .i64 c7, .int .i64 c8, .int .i64 c9, .int .i64 c10, .int .i64 c11, .int .i64 c12], .agg #[.int .i64 d1, .int .i64 d2, .int .i64 d3, .int .i64 d4, .int .i64 d5, .int .i64 d6, .int .i64 d7, .int .i64 d8, .int .i64 d9, .int .i64 d10, .int .i64 d11, .int .i64 d12]] w (Gives w (.bool true)) := by
  by_cases h0 : askE m t 2 = 0
  · exact hidden_yes m t cs c1 c2 c3 c4 c5 c6 c7 c8 c9 c10 c11 c12 d1 d2 d3 d4 d5 d6 d7 d8 d9 d10 d11 d12 w h hsz h0 hcb hdb
  · exact hidden_no m t cs c1 c2 c3 c4 c5 c6 c7 c8 c9 c10 c11 c12 d1 d2 d3 d4 d5 d6 d7 d8 d9 d10 d11 d12 w h h0

theorem unitHidden_own : ownKnob Try.prog.godebug = none := by kernel_rfl
theorem unitHidden_laidOut : laidOutB Try.prog = true := by kernel_rfl
set_option maxRecDepth 100000 in
set_option maxHeartbeats 2000000 in
theorem unitHidden_lifted (os : Os) (started : os.Started) (H : Type) (enc : TypeId × Value → H) (F : Stop.Interp) :
    ReturnsInHanded {} Try.checked os 12 .any ((Rows.OpenSpec.upto Rows.unitHiddenSpec).pre6 enc Try.prog Try.f12 Rows.unitHiddenUptoRow.domain false) (((Rows.OpenSpec.upto Rows.unitHiddenSpec).at F).post enc Try.prog Try.f12 false true false false) := by
  refine returnsInHanded_of_cond (C := Try.checked) (s := Rows.OpenSpec.upto Rows.unitHiddenSpec) (k := Rows.uptoSmall) rfl unitHidden_own started (by kernel_rfl) Try.func12
    (OpenSpec.witness (enc := enc) (C := Try.checked) (s := Rows.OpenSpec.upto Rows.unitHiddenSpec) (k := Rows.uptoSmall) rfl false ⟨#[], #[.agg #[.int .i64 0, .int .i64 0, .int .i64 0, .int .i64 0, .slice none 0 0], .agg #[.int .i64 0, .int .i64 0, .int .i64 0, .int .i64 0, .int .i64 0, .int .i64 0, .int .i64 0, .int .i64 0, .int .i64 0, .int .i64 0, .int .i64 0, .int .i64 0], .agg #[.int .i64 0, .int .i64 0, .int .i64 0, .int .i64 0, .int .i64 0, .int .i64 0, .int .i64 0, .int .i64 0, .int .i64 0, .int .i64 0, .int .i64 0, .int .i64 0]], []⟩ 8 (by kernel_rfl) (by kernel_rfl) (by kernel_rfl)
      (x := ([.agg [.lit (.int .i64 0), .agg [.lit (.int .i64 0), .lit (.int .i64 0)], .lit (.int .i64 0), .nil], .agg [.agg [.lit (.int .i64 0), .lit (.int .i64 0)], .agg [.lit (.int .i64 0), .lit (.int .i64 0)], .agg [.lit (.int .i64 0), .lit (.int .i64 0)], .agg [.lit (.int .i64 0), .lit (.int .i64 0)], .agg [.lit (.int .i64 0), .lit (.int .i64 0)], .agg [.lit (.int .i64 0), .lit (.int .i64 0)]], .agg [.agg [.lit (.int .i64 0), .lit (.int .i64 0)], .agg [.lit (.int .i64 0), .lit (.int .i64 0)], .agg [.lit (.int .i64 0), .lit (.int .i64 0)], .agg [.lit (.int .i64 0), .lit (.int .i64 0)], .agg [.lit (.int .i64 0), .lit (.int .i64 0)], .agg [.lit (.int .i64 0), .lit (.int .i64 0)]]], [], [])) (by kernel_rfl) rfl (by kernel_rfl)) ?_
  intro W base args ds gs before hval0 hW hcnd hk _
  have hval : ∀ (j : Nat) t v, Try.f12.params[j]? = some t → args[j]? = some v → Value.okWide Try.prog W .any base t v := hval0
  have hW' := hW
  obtain ⟨p, q, hA0, hV, rfl, hfz, hnd⟩ := hW
  have hA : DataW.TrodAll enc Try.prog W 0 (fun _ => true) true Try.f12.params.toList args.toList ds p := hA0
  rw [Try.params12] at hA hval
  obtain ⟨v0, vs0, d0, ds0, p0, q0, hargs, rfl, rfl, h0, r0⟩ := trodAll_cons hA
  obtain ⟨v1, vs1, d1, ds1, p1, q1, rfl, rfl, rfl, h1, r1⟩ := trodAll_cons r0
  obtain ⟨v2, vs2, d2, ds2, p2, q2, rfl, rfl, rfl, h2, r2⟩ := trodAll_cons r1
  obtain ⟨rfl, rfl, rfl⟩ := trodAll_nil r2
  obtain rfl : args = #[v0, v1, v2] := by cases args; simp_all
  obtain ⟨rfl, rfl⟩ := trodVars_none hV
  have hbk := bulk_bound hk
  simp only [List.append_nil, Rows.uptoBulkAll] at hbk
  have k0 := h0
  have lt0 : ∀ x ∈ p0, x.block < W.heap.size := by obtain ⟨m, hm⟩ := k0; exact DataW.trod_lt m _ _ _ hm
  have k1 := h1
  have lt1 : ∀ x ∈ p1, x.block < W.heap.size := by obtain ⟨m, hm⟩ := k1; exact DataW.trod_lt m _ _ _ hm
  have k2 := h2
  have lt2 : ∀ x ∈ p2, x.block < W.heap.size := by obtain ⟨m, hm⟩ := k2; exact DataW.trod_lt m _ _ _ hm
  obtain ⟨m_E, t_E, cs_E, rfl, h_E, b_E⟩ := ex_arg (hval 0 26 v0 rfl rfl) h0
  obtain ⟨C_1, C_2, C_3, C_4, C_5, C_6, C_7, C_8, C_9, C_10, C_11, C_12, rfl, w1_0, w1_1, w1_2, w1_3, w1_4, w1_5, w1_6, w1_7, w1_8, w1_9, w1_10, w1_11⟩ := ctx_arg (hval 1 58 v1 rfl rfl) h1
  obtain ⟨D_1, D_2, D_3, D_4, D_5, D_6, D_7, D_8, D_9, D_10, D_11, D_12, rfl, w2_0, w2_1, w2_2, w2_3, w2_4, w2_5, w2_6, w2_7, w2_8, w2_9, w2_10, w2_11⟩ := ctx_arg (hval 2 58 v2 rfl rfl) h2
  clear hA0 hval0
  refine (hidden_law m_E t_E cs_E C_1 C_2 C_3 C_4 C_5 C_6 C_7 C_8 C_9 C_10 C_11 C_12 D_1 D_2 D_3 D_4 D_5 D_6 D_7 D_8 D_9 D_10 D_11 D_12 W h_E (by omega) ⟨⟨w1_0, w1_1⟩, ⟨w1_2, w1_3⟩, ⟨w1_4, w1_5⟩, ⟨w1_6, w1_7⟩, ⟨w1_8, w1_9⟩, ⟨w1_10, w1_11⟩⟩ ⟨⟨w2_0, w2_1⟩, ⟨w2_2, w2_3⟩, ⟨w2_4, w2_5⟩, ⟨w2_6, w2_7⟩, ⟨w2_8, w2_9⟩, ⟨w2_10, w2_11⟩⟩).mono fun e W' ⟨he, grw⟩ => ?_
  subst he
  have bel := grw.below
  exact ⟨_, rfl, _, _, _, [], _, [], hW', trodAll_mk1 (shut_bool Try.underlying4 _), (trodAll_cons_mk (Below.trod unitHidden_laidOut (by kernel_rfl) (of_decide_eq_true (by kernel_rfl)) k0 bel lt0) (trodAll_cons_mk (Below.trod unitHidden_laidOut (by kernel_rfl) (of_decide_eq_true (by kernel_rfl)) k1 bel lt1) (trodAll_cons_mk (Below.trod unitHidden_laidOut (by kernel_rfl) (of_decide_eq_true (by kernel_rfl)) k2 bel lt2) trodAll_mk0))), rfl, bel.frame _, fun h => by cases h⟩

/-- THE STATEMENT -/
theorem unitHidden_holds : Rows.UnitHiddenUptoSaid :=
  OpenClaim.holds_of_cond 12 Try.f12 rfl rfl rfl rfl rfl rfl rfl ⟨rfl, rfl, rfl, rfl, rfl⟩ rfl rfl rfl rfl rfl (by kernel_rfl) Try.func12 (by kernel_rfl)
    (of_decide_eq_true (by kernel_rfl)) (by unfold Func.isWrapper; first | (rw [if_pos (by decide +kernel)]; kernel_rfl) | (rw [if_neg (by decide +kernel)]; exact ⟨rfl, rfl⟩))
    (fun os started H enc _ F => unitHidden_lifted os started H enc F)
#print axioms unitHidden_holds
end Go.Proofs.Ythmicnjigfcljaa
