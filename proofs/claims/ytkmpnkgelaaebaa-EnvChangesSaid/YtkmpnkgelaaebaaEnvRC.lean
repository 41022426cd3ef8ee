/- WALKS over jalousieref16: a change. No condition but that numbers are of their kinds. -/
import Derived.Test.YtkmpnkgelaaebaaEnvO
import Derived.Test.YtkmpnkgelaaebaaEnvR
namespace Go
open Go.RowKit Go.Proofs.Ytkmpnkgelaaebaa
theorem turn_ori {e : En} {n wd : ByteArray} (h : n.toList = [111, 114, 105, 101, 110, 116, 97, 116, 105, 111, 110]) : e.turn n wd = none := by
  have : fieldOf n = none := by unfold fieldOf; rw [if_neg, if_neg, if_neg, if_neg] <;> (rw [h]; decide)
  unfold En.turn; rw [this]
theorem turn_no {e : En} {n wd : ByteArray} (h : hasW (wordsOf n) wd = false) : e.turn n wd = none := by
  unfold En.turn; split
  · rfl
  · rw [h]; rfl
theorem turn_yes {e : En} {n wd : ByteArray} (h0 : ¬ n.toList = [111, 114, 105, 101, 110, 116, 97, 116, 105, 111, 110]) (h : hasW (wordsOf n) wd = true) :
    (n.toList = [104, 111, 118, 101, 114] ∧ e.turn n wd = some { e with h := wd }) ∨ (n.toList = [112, 111, 105, 110, 116, 101, 114] ∧ e.turn n wd = some { e with q := wd }) ∨
    (n.toList = [112, 114, 101, 102, 101, 114, 115, 45, 99, 111, 108, 111, 114, 45, 115, 99, 104, 101, 109, 101] ∧ e.turn n wd = some { e with s := wd }) ∨
    (n.toList = [112, 114, 101, 102, 101, 114, 115, 45, 114, 101, 100, 117, 99, 101, 100, 45, 109, 111, 116, 105, 111, 110] ∧ e.turn n wd = some { e with m := wd }) := by
  unfold En.turn
  rw [h]
  unfold fieldOf
  by_cases h1 : n.toList = [104, 111, 118, 101, 114]
  · exact .inl ⟨h1, by rw [if_pos h1]; rfl⟩
  by_cases h2 : n.toList = [112, 111, 105, 110, 116, 101, 114]
  · exact .inr (.inl ⟨h2, by rw [if_neg h1, if_pos h2]; rfl⟩)
  by_cases h3 : n.toList = [112, 114, 101, 102, 101, 114, 115, 45, 99, 111, 108, 111, 114, 45, 115, 99, 104, 101, 109, 101]
  · exact .inr (.inr (.inl ⟨h3, by rw [if_neg h1, if_neg h2, if_pos h3]; rfl⟩))
  by_cases h4 : n.toList = [112, 114, 101, 102, 101, 114, 115, 45, 114, 101, 100, 117, 99, 101, 100, 45, 109, 111, 116, 105, 111, 110]
  · exact .inr (.inr (.inr ⟨h4, by rw [if_neg h1, if_neg h2, if_neg h3, if_pos h4]; rfl⟩))
  rw [wordsOf_none h1 h0 h2 h3 h4] at h
  cases h
end Go
namespace Go.Proofs.Ytkmpnkgelaaebaa
open Go.RowKit

set_option maxRecDepth 100000 in
set_option maxHeartbeats 1000000 in
theorem refChangeNo_any (e : En) (o : Od) (w : World) (he : e.Wf) (ht : e.may = false) : Calls Try.prog 29 #[e.v, o.v] w (Gives w (chgV e o.why (o.res e))) := by
  have hm := fun w => refEnvMay_any e w he
  simp only [chgV, chgE, chgW, ht, Bool.false_eq_true, if_false, En.zero]
  rw [ht] at hm
  clear he ht
  obtain ⟨k0, k1, k2, k3, n, wd, tp, tl, tc, a, b, c, d, bt, bs, b1, b2, b3, b4, on⟩ := o
  obtain ⟨p, w1, w2, h1, h2, f1, f2, c1, c2, s, h, q, m⟩ := e
  have HM := Lib.hid hm; clear hm
  go_enter Try.func29, Try.ntmps29
  go_wp2_with (first | (go_at_call 23; (with_reducible refine (HM.out _).mono ?_); rintro e w1 ⟨rfl, x1, rfl⟩) | ((with_reducible show bodyPost _ _ _ _ _ _); exact rett_37 rfl rfl (by simp [go_sem]) rfl ⟨by simp [go_sem], (by repeat (first | exact World.grows.refl | apply World.grows.plus | apply World.grows.alloc | apply World.grows.drew))⟩))

set_option maxRecDepth 100000 in
set_option maxHeartbeats 2000000 in
theorem refChange2_any (e : En) (o : Od) (w : World) (he : e.Wf) (ho : o.Wf) (ht : e.may = true) (hk : o.k0 = 2) : Calls Try.prog 29 #[e.v, o.v] w (Gives w (chgV e o.why (o.res e))) := by
  have hm := fun w => refEnvMay_any e w he
  have g1 := fun w => refSize_any o.a o.b w ho.1.1 ho.1.2 ho.2.1.1 ho.2.1.2
  have g2 := fun w => refSize_any o.c o.d w ho.2.2.1.1 ho.2.2.1.2 ho.2.2.2.1 ho.2.2.2.2
  obtain ⟨k0, k1, k2, k3, n, wd, tp, tl, tc, a, b, c, d, bt, bs, b1, b2, b3, b4, on⟩ := o
  simp only at hk; subst hk
  simp only [chgV, chgE, chgW, ht, if_true, Od.res, Od.why]
  rw [ht] at hm
  clear he ht ho
  obtain ⟨p, w1, w2, h1, h2, f1, f2, c1, c2, s, h, q, m⟩ := e
  have HM := Lib.hid hm; clear hm
  simp only at g1 g2
  generalize sizeB a b = t1 at *
  generalize sizeB c d = t2 at *
  have G1 := Lib.hid g1; have G2 := Lib.hid g2; clear g1 g2
  cases t1
  case false =>
    simp only [Bool.false_and, Bool.false_eq_true, if_false, En.zero]
    go_enter Try.func29, Try.ntmps29
    go_wp2_with (first | (go_at_call 23; (with_reducible refine (HM.out _).mono ?_); rintro e w1 ⟨rfl, x1, rfl⟩) | (go_at_call 40; (with_reducible refine (G1.out _).mono ?_); rintro e w1 ⟨rfl, x1, rfl⟩) | (go_at_call 40; (with_reducible refine (G2.out _).mono ?_); rintro e w1 ⟨rfl, x1, rfl⟩) | ((with_reducible show bodyPost _ _ _ _ _ _); exact rett_37 rfl rfl (by simp [go_sem]) rfl ⟨by simp [go_sem], (by repeat (first | exact World.grows.refl | apply World.grows.plus | apply World.grows.alloc | apply World.grows.drew))⟩))
  case true =>
    cases t2
    case false =>
      simp only [Bool.and_false, Bool.false_eq_true, if_false, En.zero]
      go_enter Try.func29, Try.ntmps29
      go_wp2_with (first | (go_at_call 23; (with_reducible refine (HM.out _).mono ?_); rintro e w1 ⟨rfl, x1, rfl⟩) | (go_at_call 40; (with_reducible refine (G1.out _).mono ?_); rintro e w1 ⟨rfl, x1, rfl⟩) | (go_at_call 40; (with_reducible refine (G2.out _).mono ?_); rintro e w1 ⟨rfl, x1, rfl⟩) | ((with_reducible show bodyPost _ _ _ _ _ _); exact rett_37 rfl rfl (by simp [go_sem]) rfl ⟨by simp [go_sem], (by repeat (first | exact World.grows.refl | apply World.grows.plus | apply World.grows.alloc | apply World.grows.drew))⟩))
    case true =>
      simp only [Bool.and_self, if_true]
      go_enter Try.func29, Try.ntmps29
      go_wp2_with (first | (go_at_call 23; (with_reducible refine (HM.out _).mono ?_); rintro e w1 ⟨rfl, x1, rfl⟩) | (go_at_call 40; (with_reducible refine (G1.out _).mono ?_); rintro e w1 ⟨rfl, x1, rfl⟩) | (go_at_call 40; (with_reducible refine (G2.out _).mono ?_); rintro e w1 ⟨rfl, x1, rfl⟩))
      go_region
      go_wp2_with (first | ((with_reducible show bodyPost _ _ _ _ _ _); exact rett_37 rfl rfl (by simp [go_sem]) rfl ⟨by simp [go_sem], (by repeat (first | exact World.grows.refl | apply World.grows.plus | apply World.grows.alloc | apply World.grows.drew))⟩))

set_option maxRecDepth 100000 in
set_option maxHeartbeats 2000000 in
theorem refChange3_any (e : En) (o : Od) (w : World) (he : e.Wf) (ho : o.Wf) (ht : e.may = true) (hk : o.k0 = 3) : Calls Try.prog 29 #[e.v, o.v] w (Gives w (chgV e o.why (o.res e))) := by
  have hm := fun w => refEnvMay_any e w he
  have g1 := fun w => refSize_any o.a o.b w ho.1.1 ho.1.2 ho.2.1.1 ho.2.1.2
  obtain ⟨k0, k1, k2, k3, n, wd, tp, tl, tc, a, b, c, d, bt, bs, b1, b2, b3, b4, on⟩ := o
  simp only at hk; subst hk
  simp only [chgV, chgE, chgW, ht, if_true, Od.res, Od.why]
  rw [ht] at hm
  clear he ht ho
  obtain ⟨p, w1, w2, h1, h2, f1, f2, c1, c2, s, h, q, m⟩ := e
  have HM := Lib.hid hm; clear hm
  simp only [Int.reduceEq, if_false]
  simp only at g1
  generalize sizeB a b = t1 at *
  have G1 := Lib.hid g1; clear g1
  cases t1 <;> simp only [Bool.false_eq_true, if_false, if_true, En.zero]
  · go_enter Try.func29, Try.ntmps29
    go_wp2_with (first | (go_at_call 23; (with_reducible refine (HM.out _).mono ?_); rintro e w1 ⟨rfl, x1, rfl⟩) | (go_at_call 40; (with_reducible refine (G1.out _).mono ?_); rintro e w1 ⟨rfl, x1, rfl⟩) | ((with_reducible show bodyPost _ _ _ _ _ _); exact rett_37 rfl rfl (by simp [go_sem]) rfl ⟨by simp [go_sem], (by repeat (first | exact World.grows.refl | apply World.grows.plus | apply World.grows.alloc | apply World.grows.drew))⟩))
  · go_enter Try.func29, Try.ntmps29
    go_wp2_with (first | (go_at_call 23; (with_reducible refine (HM.out _).mono ?_); rintro e w1 ⟨rfl, x1, rfl⟩) | (go_at_call 40; (with_reducible refine (G1.out _).mono ?_); rintro e w1 ⟨rfl, x1, rfl⟩) | ((with_reducible show bodyPost _ _ _ _ _ _); exact rett_37 rfl rfl (by simp [go_sem]) rfl ⟨by simp [go_sem], (by repeat (first | exact World.grows.refl | apply World.grows.plus | apply World.grows.alloc | apply World.grows.drew))⟩))

set_option maxRecDepth 100000 in
set_option maxHeartbeats 2000000 in
theorem refChange13_any (e : En) (o : Od) (w : World) (he : e.Wf) (ho : o.Wf) (ht : e.may = true) (hk : o.k0 = 13) : Calls Try.prog 29 #[e.v, o.v] w (Gives w (chgV e o.why (o.res e))) := by
  have hm := fun w => refEnvMay_any e w he
  have g1 := fun w => refSize_any o.a o.b w ho.1.1 ho.1.2 ho.2.1.1 ho.2.1.2
  obtain ⟨k0, k1, k2, k3, n, wd, tp, tl, tc, a, b, c, d, bt, bs, b1, b2, b3, b4, on⟩ := o
  simp only at hk; subst hk
  simp only [chgV, chgE, chgW, ht, if_true, Od.res, Od.why]
  rw [ht] at hm
  clear he ht ho
  obtain ⟨p, w1, w2, h1, h2, f1, f2, c1, c2, s, h, q, m⟩ := e
  have HM := Lib.hid hm; clear hm
  simp only [Int.reduceEq, if_false]
  simp only at g1
  generalize sizeB a b = t1 at *
  have G1 := Lib.hid g1; clear g1
  cases t1
  case false =>
    simp only [Bool.false_and, Bool.false_eq_true, if_false, En.zero]
    go_enter Try.func29, Try.ntmps29
    go_wp2_with (first | (go_at_call 23; (with_reducible refine (HM.out _).mono ?_); rintro e w1 ⟨rfl, x1, rfl⟩) | (go_at_call 40; (with_reducible refine (G1.out _).mono ?_); rintro e w1 ⟨rfl, x1, rfl⟩) | ((with_reducible show bodyPost _ _ _ _ _ _); exact rett_37 rfl rfl (by simp [go_sem]) rfl ⟨by simp [go_sem], (by repeat (first | exact World.grows.refl | apply World.grows.plus | apply World.grows.alloc | apply World.grows.drew))⟩))
  case true =>
    by_cases hb : b = 1
    · subst hb
      simp only [beq_self_eq_true, Bool.and_self, if_true]
      go_enter Try.func29, Try.ntmps29
      go_wp2_with (first | (go_at_call 23; (with_reducible refine (HM.out _).mono ?_); rintro e w1 ⟨rfl, x1, rfl⟩) | (go_at_call 40; (with_reducible refine (G1.out _).mono ?_); rintro e w1 ⟨rfl, x1, rfl⟩) | ((with_reducible show bodyPost _ _ _ _ _ _); exact rett_37 rfl rfl (by simp [go_sem]) rfl ⟨by simp [go_sem], (by repeat (first | exact World.grows.refl | apply World.grows.plus | apply World.grows.alloc | apply World.grows.drew))⟩))
    · have hb1 : (b == 1) = false := by simpa using hb
      have hb2 : (b != 1) = true := by simpa using hb
      clear hb
      simp only [hb1, Bool.and_false, Bool.false_eq_true, if_false, En.zero]
      go_enter Try.func29, Try.ntmps29
      go_wp2_with (first | (go_at_call 23; (with_reducible refine (HM.out _).mono ?_); rintro e w1 ⟨rfl, x1, rfl⟩) | (go_at_call 40; (with_reducible refine (G1.out _).mono ?_); rintro e w1 ⟨rfl, x1, rfl⟩) | ((with_reducible show bodyPost _ _ _ _ _ _); exact rett_37 rfl rfl (by simp [go_sem]) rfl ⟨by simp [go_sem], (by repeat (first | exact World.grows.refl | apply World.grows.plus | apply World.grows.alloc | apply World.grows.drew))⟩))

set_option maxRecDepth 100000 in
set_option maxHeartbeats 2000000 in
theorem refChange14_any (e : En) (o : Od) (w : World) (he : e.Wf) (ho : o.Wf) (ht : e.may = true) (hk : o.k0 = 14) : Calls Try.prog 29 #[e.v, o.v] w (Gives w (chgV e o.why (o.res e))) := by
  have hm := fun w => refEnvMay_any e w he
  obtain ⟨k0, k1, k2, k3, n, wd, tp, tl, tc, a, b, c, d, bt, bs, b1, b2, b3, b4, on⟩ := o
  simp only at hk; subst hk
  simp only [chgV, chgE, chgW, ht, if_true, Od.res, Od.why]
  rw [ht] at hm
  clear he ht ho
  obtain ⟨p, w1, w2, h1, h2, f1, f2, c1, c2, s, h, q, m⟩ := e
  have HM := Lib.hid hm; clear hm
  simp only [Int.reduceEq, if_false]
  go_enter Try.func29, Try.ntmps29
  go_wp2_with (first | (go_at_call 23; (with_reducible refine (HM.out _).mono ?_); rintro e w1 ⟨rfl, x1, rfl⟩) | ((with_reducible show bodyPost _ _ _ _ _ _); exact rett_37 rfl rfl (by simp [go_sem]) rfl ⟨by simp [go_sem], (by repeat (first | exact World.grows.refl | apply World.grows.plus | apply World.grows.alloc | apply World.grows.drew))⟩))

set_option maxRecDepth 100000 in
set_option maxHeartbeats 2000000 in
theorem refChange4_any (e : En) (o : Od) (w : World) (he : e.Wf) (ho : o.Wf) (ht : e.may = true) (hk : o.k0 = 4) : Calls Try.prog 29 #[e.v, o.v] w (Gives w (chgV e o.why (o.res e))) := by
  have hm := fun w => refEnvMay_any e w he
  have hco := fun v w h => refHas_any v (wordsOf o.n) o.wd w h (wordsOf_len o.n)
  obtain ⟨k0, k1, k2, k3, n, wd, tp, tl, tc, a, b, c, d, bt, bs, b1, b2, b3, b4, on⟩ := o
  simp only at hk; subst hk
  simp only [chgV, chgE, chgW, ht, if_true, Od.res, Od.why]
  rw [ht] at hm
  clear he ht ho
  have HM := Lib.hid hm; clear hm
  simp only [Int.reduceEq, if_false]
  simp only at hco
  by_cases h0 : n.toList = [111, 114, 105, 101, 110, 116, 97, 116, 105, 111, 110]
  · rw [turn_ori h0]
    have hb0 : (n.toList == [111, 114, 105, 101, 110, 116, 97, 116, 105, 111, 110]) = true := by simpa using h0
    clear h0 hco
    simp only [En.zero]
    obtain ⟨p, w1, w2, h1, h2, f1, f2, c1, c2, s, h, q, m⟩ := e
    go_enter Try.func29, Try.ntmps29
    go_wp2_with (first | (go_at_call 23; (with_reducible refine (HM.out _).mono ?_); rintro e w1 ⟨rfl, x1, rfl⟩))
    refine wp_region_plus_seq (by kernel_rfl) (by kernel_rfl) (fun x0 => ?_)
    repeat (any_goals (first | (refine wpSeqL_free rfl ?_; first | (go_big_quiet_skip; refine wpQuiet_nil ?_) | (go_big_quiet_step (fail); refine wpQuiet_nil ?_) | (refine wpQuiet_step (fun K hK => ?_); go_simp; split <;> (refine hK _ ?_; clear hK K; refine wpQuiet_nil ?_))) | (refine wpSeqL_link rfl (fun K hK => ?_); go_simp; first | first | (refine hK _ _ (by show World.grows _ _; repeat (first | exact World.grows.refl | apply World.grows.plus | apply World.grows.alloc | apply World.grows.drew)) ?_; clear hK K) | ((fail); refine ⟨_, rfl, hK _ _ (by show World.grows _ _; repeat (first | exact World.grows.refl | apply World.grows.plus | apply World.grows.alloc | apply World.grows.drew)) ?_⟩; clear hK K) | (split <;> (first | (refine hK _ _ (by show World.grows _ _; repeat (first | exact World.grows.refl | apply World.grows.plus | apply World.grows.alloc | apply World.grows.drew)) ?_; clear hK K) | ((fail); refine ⟨_, rfl, hK _ _ (by show World.grows _ _; repeat (first | exact World.grows.refl | apply World.grows.plus | apply World.grows.alloc | apply World.grows.drew)) ?_⟩; clear hK K))))))
    all_goals (refine wpSeqL_end ?_)
    go_wp2_with (first | ((with_reducible show bodyPost _ _ _ _ _ _); exact rett_37 rfl rfl (by simp [go_sem]) rfl ⟨by simp [go_sem], (by repeat (first | exact World.grows.refl | apply World.grows.plus | apply World.grows.alloc | apply World.grows.drew))⟩))
  have hb0 : (n.toList == [111, 114, 105, 101, 110, 116, 97, 116, 105, 111, 110]) = false := by simpa using h0
  cases hw : hasW (wordsOf n) wd
  case false =>
    rw [turn_no hw]
    rw [hw] at hco
    have HC := Lib.hid hco; clear hco hw h0
    simp only [En.zero]
    obtain ⟨p, w1, w2, h1, h2, f1, f2, c1, c2, s, h, q, m⟩ := e
    go_enter Try.func29, Try.ntmps29
    go_wp2_with (first | (go_at_call 23; (with_reducible refine (HM.out _).mono ?_); rintro e w1 ⟨rfl, x1, rfl⟩))
    refine wp_region_plus_seq (by kernel_rfl) (by kernel_rfl) (fun x0 => ?_)
    repeat (any_goals (first | (refine wpSeqL_free rfl ?_; first | (go_big_quiet_skip; refine wpQuiet_nil ?_) | (go_big_quiet_step (fail); refine wpQuiet_nil ?_) | (refine wpQuiet_step (fun K hK => ?_); go_simp; split <;> (refine hK _ ?_; clear hK K; refine wpQuiet_nil ?_))) | (refine wpSeqL_link rfl (fun K hK => ?_); go_simp; first | first | (refine hK _ _ (by show World.grows _ _; repeat (first | exact World.grows.refl | apply World.grows.plus | apply World.grows.alloc | apply World.grows.drew)) ?_; clear hK K) | (((first | (go_at_call 35; (with_reducible refine (refWords_any _ _).mono ?_); rintro e w1 ⟨v, rfl, ⟨x1, rfl⟩, hrow⟩) | (go_at_call 48; (with_reducible refine (HC.out _ _ (by assumption)).mono ?_); rintro e w1 ⟨rfl, rfl⟩))); refine ⟨_, rfl, hK _ _ (by show World.grows _ _; repeat (first | exact World.grows.refl | apply World.grows.plus | apply World.grows.alloc | apply World.grows.drew)) ?_⟩; clear hK K) | (split <;> (first | (refine hK _ _ (by show World.grows _ _; repeat (first | exact World.grows.refl | apply World.grows.plus | apply World.grows.alloc | apply World.grows.drew)) ?_; clear hK K) | (((first | (go_at_call 35; (with_reducible refine (refWords_any _ _).mono ?_); rintro e w1 ⟨v, rfl, ⟨x1, rfl⟩, hrow⟩) | (go_at_call 48; (with_reducible refine (HC.out _ _ (by assumption)).mono ?_); rintro e w1 ⟨rfl, rfl⟩))); refine ⟨_, rfl, hK _ _ (by show World.grows _ _; repeat (first | exact World.grows.refl | apply World.grows.plus | apply World.grows.alloc | apply World.grows.drew)) ?_⟩; clear hK K))))))
    all_goals (refine wpSeqL_end ?_)
    go_wp2_with (first | ((with_reducible show bodyPost _ _ _ _ _ _); exact rett_37 rfl rfl (by simp [go_sem]) rfl ⟨by simp [go_sem], (by repeat (first | exact World.grows.refl | apply World.grows.plus | apply World.grows.alloc | apply World.grows.drew))⟩))
  case true =>
    have hy := turn_yes (e := e) h0 hw
    rw [hw] at hco
    have HC := Lib.hid hco; clear hco hw h0
    rcases hy with ⟨hn, hE⟩ | ⟨hn, hE⟩ | ⟨hn, hE⟩ | ⟨hn, hE⟩ <;> rw [hE] <;> clear hE <;> obtain ⟨p, w1, w2, h1, h2, f1, f2, c1, c2, s, h, q, m⟩ := e <;> simp only []
    · have q0 : (n.toList == [104, 111, 118, 101, 114]) = true := by rw [hn]; decide
      have q1 : (n.toList == [112, 111, 105, 110, 116, 101, 114]) = false := by rw [hn]; decide
      have q2 : (n.toList == [112, 114, 101, 102, 101, 114, 115, 45, 99, 111, 108, 111, 114, 45, 115, 99, 104, 101, 109, 101]) = false := by rw [hn]; decide
      have q3 : (n.toList == [112, 114, 101, 102, 101, 114, 115, 45, 114, 101, 100, 117, 99, 101, 100, 45, 109, 111, 116, 105, 111, 110]) = false := by rw [hn]; decide
      clear hn
      go_enter Try.func29, Try.ntmps29
      go_wp2_with (first | (go_at_call 23; (with_reducible refine (HM.out _).mono ?_); rintro e w1 ⟨rfl, x1, rfl⟩))
      refine wp_region_plus_seq (by kernel_rfl) (by kernel_rfl) (fun x0 => ?_)
      repeat (any_goals (first | (refine wpSeqL_free rfl ?_; first | (go_big_quiet_skip; refine wpQuiet_nil ?_) | (go_big_quiet_step (fail); refine wpQuiet_nil ?_) | (refine wpQuiet_step (fun K hK => ?_); go_simp; split <;> (refine hK _ ?_; clear hK K; refine wpQuiet_nil ?_))) | (refine wpSeqL_link rfl (fun K hK => ?_); go_simp; first | first | (refine hK _ _ (by show World.grows _ _; repeat (first | exact World.grows.refl | apply World.grows.plus | apply World.grows.alloc | apply World.grows.drew)) ?_; clear hK K) | (((first | (go_at_call 35; (with_reducible refine (refWords_any _ _).mono ?_); rintro e w1 ⟨v, rfl, ⟨x1, rfl⟩, hrow⟩) | (go_at_call 48; (with_reducible refine (HC.out _ _ (by assumption)).mono ?_); rintro e w1 ⟨rfl, rfl⟩))); refine ⟨_, rfl, hK _ _ (by show World.grows _ _; repeat (first | exact World.grows.refl | apply World.grows.plus | apply World.grows.alloc | apply World.grows.drew)) ?_⟩; clear hK K) | (split <;> (first | (refine hK _ _ (by show World.grows _ _; repeat (first | exact World.grows.refl | apply World.grows.plus | apply World.grows.alloc | apply World.grows.drew)) ?_; clear hK K) | (((first | (go_at_call 35; (with_reducible refine (refWords_any _ _).mono ?_); rintro e w1 ⟨v, rfl, ⟨x1, rfl⟩, hrow⟩) | (go_at_call 48; (with_reducible refine (HC.out _ _ (by assumption)).mono ?_); rintro e w1 ⟨rfl, rfl⟩))); refine ⟨_, rfl, hK _ _ (by show World.grows _ _; repeat (first | exact World.grows.refl | apply World.grows.plus | apply World.grows.alloc | apply World.grows.drew)) ?_⟩; clear hK K))))))
      all_goals (refine wpSeqL_end ?_)
      go_wp2_with (first | ((with_reducible show bodyPost _ _ _ _ _ _); exact rett_37 rfl rfl (by simp [go_sem]) rfl ⟨by simp [go_sem], (by repeat (first | exact World.grows.refl | apply World.grows.plus | apply World.grows.alloc | apply World.grows.drew))⟩))
    · have q0 : (n.toList == [104, 111, 118, 101, 114]) = false := by rw [hn]; decide
      have q1 : (n.toList == [112, 111, 105, 110, 116, 101, 114]) = true := by rw [hn]; decide
      have q2 : (n.toList == [112, 114, 101, 102, 101, 114, 115, 45, 99, 111, 108, 111, 114, 45, 115, 99, 104, 101, 109, 101]) = false := by rw [hn]; decide
      have q3 : (n.toList == [112, 114, 101, 102, 101, 114, 115, 45, 114, 101, 100, 117, 99, 101, 100, 45, 109, 111, 116, 105, 111, 110]) = false := by rw [hn]; decide
      clear hn
      go_enter Try.func29, Try.ntmps29
      go_wp2_with (first | (go_at_call 23; (with_reducible refine (HM.out _).mono ?_); rintro e w1 ⟨rfl, x1, rfl⟩))
      refine wp_region_plus_seq (by kernel_rfl) (by kernel_rfl) (fun x0 => ?_)
      repeat (any_goals (first | (refine wpSeqL_free rfl ?_; first | (go_big_quiet_skip; refine wpQuiet_nil ?_) | (go_big_quiet_step (fail); refine wpQuiet_nil ?_) | (refine wpQuiet_step (fun K hK => ?_); go_simp; split <;> (refine hK _ ?_; clear hK K; refine wpQuiet_nil ?_))) | (refine wpSeqL_link rfl (fun K hK => ?_); go_simp; first | first | (refine hK _ _ (by show World.grows _ _; repeat (first | exact World.grows.refl | apply World.grows.plus | apply World.grows.alloc | apply World.grows.drew)) ?_; clear hK K) | (((first | (go_at_call 35; (with_reducible refine (refWords_any _ _).mono ?_); rintro e w1 ⟨v, rfl, ⟨x1, rfl⟩, hrow⟩) | (go_at_call 48; (with_reducible refine (HC.out _ _ (by assumption)).mono ?_); rintro e w1 ⟨rfl, rfl⟩))); refine ⟨_, rfl, hK _ _ (by show World.grows _ _; repeat (first | exact World.grows.refl | apply World.grows.plus | apply World.grows.alloc | apply World.grows.drew)) ?_⟩; clear hK K) | (split <;> (first | (refine hK _ _ (by show World.grows _ _; repeat (first | exact World.grows.refl | apply World.grows.plus | apply World.grows.alloc | apply World.grows.drew)) ?_; clear hK K) | (((first | (go_at_call 35; (with_reducible refine (refWords_any _ _).mono ?_); rintro e w1 ⟨v, rfl, ⟨x1, rfl⟩, hrow⟩) | (go_at_call 48; (with_reducible refine (HC.out _ _ (by assumption)).mono ?_); rintro e w1 ⟨rfl, rfl⟩))); refine ⟨_, rfl, hK _ _ (by show World.grows _ _; repeat (first | exact World.grows.refl | apply World.grows.plus | apply World.grows.alloc | apply World.grows.drew)) ?_⟩; clear hK K))))))
      all_goals (refine wpSeqL_end ?_)
      go_wp2_with (first | ((with_reducible show bodyPost _ _ _ _ _ _); exact rett_37 rfl rfl (by simp [go_sem]) rfl ⟨by simp [go_sem], (by repeat (first | exact World.grows.refl | apply World.grows.plus | apply World.grows.alloc | apply World.grows.drew))⟩))
    · have q0 : (n.toList == [104, 111, 118, 101, 114]) = false := by rw [hn]; decide
      have q1 : (n.toList == [112, 111, 105, 110, 116, 101, 114]) = false := by rw [hn]; decide
      have q2 : (n.toList == [112, 114, 101, 102, 101, 114, 115, 45, 99, 111, 108, 111, 114, 45, 115, 99, 104, 101, 109, 101]) = true := by rw [hn]; decide
      have q3 : (n.toList == [112, 114, 101, 102, 101, 114, 115, 45, 114, 101, 100, 117, 99, 101, 100, 45, 109, 111, 116, 105, 111, 110]) = false := by rw [hn]; decide
      clear hn
      go_enter Try.func29, Try.ntmps29
      go_wp2_with (first | (go_at_call 23; (with_reducible refine (HM.out _).mono ?_); rintro e w1 ⟨rfl, x1, rfl⟩))
      refine wp_region_plus_seq (by kernel_rfl) (by kernel_rfl) (fun x0 => ?_)
      repeat (any_goals (first | (refine wpSeqL_free rfl ?_; first | (go_big_quiet_skip; refine wpQuiet_nil ?_) | (go_big_quiet_step (fail); refine wpQuiet_nil ?_) | (refine wpQuiet_step (fun K hK => ?_); go_simp; split <;> (refine hK _ ?_; clear hK K; refine wpQuiet_nil ?_))) | (refine wpSeqL_link rfl (fun K hK => ?_); go_simp; first | first | (refine hK _ _ (by show World.grows _ _; repeat (first | exact World.grows.refl | apply World.grows.plus | apply World.grows.alloc | apply World.grows.drew)) ?_; clear hK K) | (((first | (go_at_call 35; (with_reducible refine (refWords_any _ _).mono ?_); rintro e w1 ⟨v, rfl, ⟨x1, rfl⟩, hrow⟩) | (go_at_call 48; (with_reducible refine (HC.out _ _ (by assumption)).mono ?_); rintro e w1 ⟨rfl, rfl⟩))); refine ⟨_, rfl, hK _ _ (by show World.grows _ _; repeat (first | exact World.grows.refl | apply World.grows.plus | apply World.grows.alloc | apply World.grows.drew)) ?_⟩; clear hK K) | (split <;> (first | (refine hK _ _ (by show World.grows _ _; repeat (first | exact World.grows.refl | apply World.grows.plus | apply World.grows.alloc | apply World.grows.drew)) ?_; clear hK K) | (((first | (go_at_call 35; (with_reducible refine (refWords_any _ _).mono ?_); rintro e w1 ⟨v, rfl, ⟨x1, rfl⟩, hrow⟩) | (go_at_call 48; (with_reducible refine (HC.out _ _ (by assumption)).mono ?_); rintro e w1 ⟨rfl, rfl⟩))); refine ⟨_, rfl, hK _ _ (by show World.grows _ _; repeat (first | exact World.grows.refl | apply World.grows.plus | apply World.grows.alloc | apply World.grows.drew)) ?_⟩; clear hK K))))))
      all_goals (refine wpSeqL_end ?_)
      go_wp2_with (first | ((with_reducible show bodyPost _ _ _ _ _ _); exact rett_37 rfl rfl (by simp [go_sem]) rfl ⟨by simp [go_sem], (by repeat (first | exact World.grows.refl | apply World.grows.plus | apply World.grows.alloc | apply World.grows.drew))⟩))
    · have q0 : (n.toList == [104, 111, 118, 101, 114]) = false := by rw [hn]; decide
      have q1 : (n.toList == [112, 111, 105, 110, 116, 101, 114]) = false := by rw [hn]; decide
      have q2 : (n.toList == [112, 114, 101, 102, 101, 114, 115, 45, 99, 111, 108, 111, 114, 45, 115, 99, 104, 101, 109, 101]) = false := by rw [hn]; decide
      have q3 : (n.toList == [112, 114, 101, 102, 101, 114, 115, 45, 114, 101, 100, 117, 99, 101, 100, 45, 109, 111, 116, 105, 111, 110]) = true := by rw [hn]; decide
      clear hn
      go_enter Try.func29, Try.ntmps29
      go_wp2_with (first | (go_at_call 23; (with_reducible refine (HM.out _).mono ?_); rintro e w1 ⟨rfl, x1, rfl⟩))
      refine wp_region_plus_seq (by kernel_rfl) (by kernel_rfl) (fun x0 => ?_)
      repeat (any_goals (first | (refine wpSeqL_free rfl ?_; first | (go_big_quiet_skip; refine wpQuiet_nil ?_) | (go_big_quiet_step (fail); refine wpQuiet_nil ?_) | (refine wpQuiet_step (fun K hK => ?_); go_simp; split <;> (refine hK _ ?_; clear hK K; refine wpQuiet_nil ?_))) | (refine wpSeqL_link rfl (fun K hK => ?_); go_simp; first | first | (refine hK _ _ (by show World.grows _ _; repeat (first | exact World.grows.refl | apply World.grows.plus | apply World.grows.alloc | apply World.grows.drew)) ?_; clear hK K) | (((first | (go_at_call 35; (with_reducible refine (refWords_any _ _).mono ?_); rintro e w1 ⟨v, rfl, ⟨x1, rfl⟩, hrow⟩) | (go_at_call 48; (with_reducible refine (HC.out _ _ (by assumption)).mono ?_); rintro e w1 ⟨rfl, rfl⟩))); refine ⟨_, rfl, hK _ _ (by show World.grows _ _; repeat (first | exact World.grows.refl | apply World.grows.plus | apply World.grows.alloc | apply World.grows.drew)) ?_⟩; clear hK K) | (split <;> (first | (refine hK _ _ (by show World.grows _ _; repeat (first | exact World.grows.refl | apply World.grows.plus | apply World.grows.alloc | apply World.grows.drew)) ?_; clear hK K) | (((first | (go_at_call 35; (with_reducible refine (refWords_any _ _).mono ?_); rintro e w1 ⟨v, rfl, ⟨x1, rfl⟩, hrow⟩) | (go_at_call 48; (with_reducible refine (HC.out _ _ (by assumption)).mono ?_); rintro e w1 ⟨rfl, rfl⟩))); refine ⟨_, rfl, hK _ _ (by show World.grows _ _; repeat (first | exact World.grows.refl | apply World.grows.plus | apply World.grows.alloc | apply World.grows.drew)) ?_⟩; clear hK K))))))
      all_goals (refine wpSeqL_end ?_)
      go_wp2_with (first | ((with_reducible show bodyPost _ _ _ _ _ _); exact rett_37 rfl rfl (by simp [go_sem]) rfl ⟨by simp [go_sem], (by repeat (first | exact World.grows.refl | apply World.grows.plus | apply World.grows.alloc | apply World.grows.drew))⟩))

theorem refChange_any (e : En) (o : Od) (w : World) (he : e.Wf) (ho : o.Wf) : Calls Try.prog 29 #[e.v, o.five.v] w (Gives w (chgV e o.five.why (o.five.res e))) := by
  have hf := Od.five_wf ho
  cases ht : e.may with
  | false => exact refChangeNo_any e o.five w he ht
  | true =>
    have hk : o.five.k0 = 2 ∨ o.five.k0 = 3 ∨ o.five.k0 = 13 ∨ o.five.k0 = 14 ∨ o.five.k0 = 4 := by
      unfold Od.five
      split
      · rename_i h; simp [Od.is] at h; omega
      · simp
    rcases hk with h | h | h | h | h
    · exact refChange2_any e o.five w he hf ht h
    · exact refChange3_any e o.five w he hf ht h
    · exact refChange13_any e o.five w he hf ht h
    · exact refChange14_any e o.five w he hf ht h
    · exact refChange4_any e o.five w he hf ht h

end Go.Proofs.Ytkmpnkgelaaebaa
