/- EnvOrder, a part: changes of unlike kinds, both taken. No condition but that numbers are of their kinds. -/
import Derived.Test.YtkmpnkgelaaebaaEnvOrdP
import Derived.Test.YtkmpnkgelaaebaaAbs
namespace Go.Proofs.Ytkmpnkgelaaebaa
open Go.RowKit

set_option maxRecDepth 100000 in
set_option maxHeartbeats 4000000 in
theorem envOrderYes_any (e : En) (a b : Od) (w : World) (he : e.Wf) (ha : a.Wf) (hb : b.Wf) (hk : a.five.k0 ≠ b.five.k0 ∨ a.five.k0 = b.five.k0 ∧ a.five.k0 = 4 ∧ a.five.n.toList ≠ b.five.n.toList) (hy : e.may = true ∧ a.five.ok = true ∧ b.five.ok = true) :
    Calls Try.prog 7 #[e.v, a.v, b.v] w (Gives w (.bool true)) := by
  have fa := fun w => five_any a w
  have fb := fun w => five_any b w
  have hA := Od.five_wf ha
  have hB := Od.five_wf hb
  have h5a : a.five.five = a.five := by unfold Od.five; split <;> (first | (rename_i h; rw [if_pos h]; done) | rfl | (split <;> rfl))
  have h5b : b.five.five = b.five := by unfold Od.five; split <;> (first | (rename_i h; rw [if_pos h]; done) | rfl | (split <;> rfl))
  generalize a.five = A at *
  generalize b.five = B at *
  have hc : ∃ (E E' H : En), (∀ w, Calls Try.prog 28 #[e.v, A.v] w (Gives w (.tuple #[E.v, .int .i64 0]))) ∧ (∀ w, Calls Try.prog 28 #[e.v, B.v] w (Gives w (.tuple #[E'.v, .int .i64 0]))) ∧
      (∀ w, Calls Try.prog 28 #[E.v, B.v] w (Gives w (.tuple #[H.v, .int .i64 0]))) ∧ (∀ w, Calls Try.prog 28 #[E'.v, A.v] w (Gives w (.tuple #[H.v, .int .i64 0]))) := by
    refine ⟨e.upd A, e.upd B, (e.upd A).upd B, fun w => change_ok e A w he hA hy.1 hy.2.1, fun w => change_ok e B w he hB hy.1 hy.2.2, fun w => change_ok (e.upd A) B w (upd_wf he hA) hB (upd_may hy.1 hy.2.1) hy.2.2, fun w => ?_⟩
    have := change_ok (e.upd B) A w (upd_wf he hB) hA (upd_may hy.1 hy.2.2) hy.2.1
    rwa [← upd_swap hy.2.1 hy.2.2 (by rcases hk with h | h; exact .inl h; exact .inr h.2) h5a h5b] at this
  obtain ⟨k0, k1, k2, k3, n, wd, tp, tl, tc, a, b, c, d, bt, bs, b1, b2, b3, b4, on⟩ := A
  obtain ⟨k0', k1', k2', k3', n', wd', tp', tl', tc', a', b', c', d', bt', bs', b1', b2', b3', b4', on'⟩ := B
  obtain ⟨E, E', H, hc1, hc2, hc3, hc4⟩ := hc
  clear hA hB he ha hb hy h5a h5b
  simp only at hk
  have FA := Lib.hid fa; have FB := Lib.hid fb; clear fa fb
  have H1 := Lib.hid hc1; have H2 := Lib.hid hc2; have H3 := Lib.hid hc3; have H4 := Lib.hid hc4; clear hc1 hc2 hc3 hc4
  obtain ⟨p1, w11, w21, h11, h21, f11, f21, c11, c21, s1, h1, q1, m1⟩ := E
  obtain ⟨p2, w12, w22, h12, h22, f12, f22, c12, c22, s2, h2, q2, m2⟩ := E'
  obtain ⟨p3, w13, w23, h13, h23, f13, f23, c13, c23, s3, h3, q3, m3⟩ := H
  obtain ⟨p0, w10, w20, h10, h20, f10, f20, c10, c20, s0, h0, q0, m0⟩ := e
  rcases hk with hk | ⟨hk0, hk, hn⟩
  · have tst : (k0 == k0') = false := by simpa using hk
    clear hk
    as_aux_lemma =>
      go_enter Try.func7, Try.ntmps7
      go_wp2_with fail
      refine wp_region_plus_tail 4 (by kernel_rfl) (by kernel_rfl) ?_
      simp only [List.take_succ_cons, List.take_zero, List.drop_succ_cons, List.drop_zero]
      repeat (go_big_quiet_step (first | (go_at_call 27; (with_reducible exact Calls.plus_of (FA.out _))) | (go_at_call 27; (with_reducible exact Calls.plus_of (FB.out _)))))
      refine wpQuiet_nil ?_; intro _ hw'; obtain ⟨xq, hw''⟩ := hw'; subst hw''
      go_wp2_with fail
      refine abs_rows (w := w) (G := fun W => Calls _ _ _ W _) (by repeat (first | assumption | exact World.grows.refl | apply World.grows.plus | apply World.grows.alloc | apply World.grows.drew)) [(w.heap.size, .cells #[.bool p0, .int .i64 w10, .int .i64 w20, .int .i64 h10, .int .i64 h20, .int .i64 f10, .int .i64 f20, .int .i64 c10, .int .i64 c20, .string s0, .string h0, .string q0, .string m0] 37), (w.heap.size + 1, .cells #[.int .i64 k0, .int .i64 k1, .int .i64 k2, .int .i64 k3, .string n, .string wd, .slice tp tl tc, .int .i64 a, .int .i64 b, .int .i64 c, .int .i64 d, .int .i64 bt, .string bs, .int .i64 b1, .int .i64 b2, .int .i64 b3, .int .i64 b4, .bool on] 47), (w.heap.size + 1 + 1, .cells #[.int .i64 k0', .int .i64 k1', .int .i64 k2', .int .i64 k3', .string n', .string wd', .slice tp' tl' tc', .int .i64 a', .int .i64 b', .int .i64 c', .int .i64 d', .int .i64 bt', .string bs', .int .i64 b1', .int .i64 b2', .int .i64 b3', .int .i64 b4', .bool on'] 47)] (by go_simp) ?_
      intro V0 g0 hl
      simp only [List.forall_mem_cons, List.not_mem_nil, false_implies, implies_true, and_true] at hl
      obtain ⟨r0_0, r0_1, r0_2⟩ := hl
      have zr0_0 := row_sz r0_0
      have zr0_1 := row_sz r0_1
      have zr0_2 := row_sz r0_2
      go_at_call 28; (with_reducible refine (H1.out _).mono ?_); rintro e w1 ⟨rfl, x1, rfl⟩
      go_wp2_with fail
      refine abs_rows (w := w) (G := fun W => Calls _ _ _ W _) (by repeat (first | assumption | exact World.grows.refl | apply World.grows.plus | apply World.grows.alloc | apply World.grows.drew)) [(w.heap.size, .cells #[.bool p0, .int .i64 w10, .int .i64 w20, .int .i64 h10, .int .i64 h20, .int .i64 f10, .int .i64 f20, .int .i64 c10, .int .i64 c20, .string s0, .string h0, .string q0, .string m0] 37), (w.heap.size + 1, .cells #[.int .i64 k0, .int .i64 k1, .int .i64 k2, .int .i64 k3, .string n, .string wd, .slice tp tl tc, .int .i64 a, .int .i64 b, .int .i64 c, .int .i64 d, .int .i64 bt, .string bs, .int .i64 b1, .int .i64 b2, .int .i64 b3, .int .i64 b4, .bool on] 47), (w.heap.size + 1 + 1, .cells #[.int .i64 k0', .int .i64 k1', .int .i64 k2', .int .i64 k3', .string n', .string wd', .slice tp' tl' tc', .int .i64 a', .int .i64 b', .int .i64 c', .int .i64 d', .int .i64 bt', .string bs', .int .i64 b1', .int .i64 b2', .int .i64 b3', .int .i64 b4', .bool on'] 47), (V0.heap.size + x1.bs.size, .cells #[.bool p1, .int .i64 w11, .int .i64 w21, .int .i64 h11, .int .i64 h21, .int .i64 f11, .int .i64 f21, .int .i64 c11, .int .i64 c21, .string s1, .string h1, .string q1, .string m1] 37)] (by go_simp) ?_
      clear r0_0
      clear r0_1
      clear r0_2
      clear zr0_0
      clear zr0_1
      clear zr0_2
      intro V1 g1 hl
      simp only [List.forall_mem_cons, List.not_mem_nil, false_implies, implies_true, and_true] at hl
      obtain ⟨r1_0, r1_1, r1_2, r1_3⟩ := hl
      have zr1_0 := row_sz r1_0
      have zr1_1 := row_sz r1_1
      have zr1_2 := row_sz r1_2
      have zr1_3 := row_sz r1_3
      generalize V0.heap.size + x1.bs.size = j1 at *
      go_at_call 28; (with_reducible refine (H2.out _).mono ?_); rintro e w1 ⟨rfl, x1, rfl⟩
      go_wp2_with fail
      refine abs_rows (w := w) (G := fun W => Calls _ _ _ W _) (by repeat (first | assumption | exact World.grows.refl | apply World.grows.plus | apply World.grows.alloc | apply World.grows.drew)) [(w.heap.size, .cells #[.bool p0, .int .i64 w10, .int .i64 w20, .int .i64 h10, .int .i64 h20, .int .i64 f10, .int .i64 f20, .int .i64 c10, .int .i64 c20, .string s0, .string h0, .string q0, .string m0] 37), (w.heap.size + 1, .cells #[.int .i64 k0, .int .i64 k1, .int .i64 k2, .int .i64 k3, .string n, .string wd, .slice tp tl tc, .int .i64 a, .int .i64 b, .int .i64 c, .int .i64 d, .int .i64 bt, .string bs, .int .i64 b1, .int .i64 b2, .int .i64 b3, .int .i64 b4, .bool on] 47), (w.heap.size + 1 + 1, .cells #[.int .i64 k0', .int .i64 k1', .int .i64 k2', .int .i64 k3', .string n', .string wd', .slice tp' tl' tc', .int .i64 a', .int .i64 b', .int .i64 c', .int .i64 d', .int .i64 bt', .string bs', .int .i64 b1', .int .i64 b2', .int .i64 b3', .int .i64 b4', .bool on'] 47), (j1, .cells #[.bool p1, .int .i64 w11, .int .i64 w21, .int .i64 h11, .int .i64 h21, .int .i64 f11, .int .i64 f21, .int .i64 c11, .int .i64 c21, .string s1, .string h1, .string q1, .string m1] 37), (V1.heap.size + x1.bs.size, .cells #[.bool p2, .int .i64 w12, .int .i64 w22, .int .i64 h12, .int .i64 h22, .int .i64 f12, .int .i64 f22, .int .i64 c12, .int .i64 c22, .string s2, .string h2, .string q2, .string m2] 37)] (by go_simp) ?_
      clear r1_0
      clear r1_1
      clear r1_2
      clear r1_3
      clear zr1_0
      clear zr1_1
      clear zr1_2
      clear zr1_3
      clear g0
      intro V2 g2 hl
      simp only [List.forall_mem_cons, List.not_mem_nil, false_implies, implies_true, and_true] at hl
      obtain ⟨r2_0, r2_1, r2_2, r2_3, r2_4⟩ := hl
      have zr2_0 := row_sz r2_0
      have zr2_1 := row_sz r2_1
      have zr2_2 := row_sz r2_2
      have zr2_3 := row_sz r2_3
      have zr2_4 := row_sz r2_4
      generalize V1.heap.size + x1.bs.size = j2 at *
      go_at_call 28; (with_reducible refine (H3.out _).mono ?_); rintro e w1 ⟨rfl, x1, rfl⟩
      go_wp2_with fail
      refine abs_rows (w := w) (G := fun W => Calls _ _ _ W _) (by repeat (first | assumption | exact World.grows.refl | apply World.grows.plus | apply World.grows.alloc | apply World.grows.drew)) [(w.heap.size, .cells #[.bool p0, .int .i64 w10, .int .i64 w20, .int .i64 h10, .int .i64 h20, .int .i64 f10, .int .i64 f20, .int .i64 c10, .int .i64 c20, .string s0, .string h0, .string q0, .string m0] 37), (w.heap.size + 1, .cells #[.int .i64 k0, .int .i64 k1, .int .i64 k2, .int .i64 k3, .string n, .string wd, .slice tp tl tc, .int .i64 a, .int .i64 b, .int .i64 c, .int .i64 d, .int .i64 bt, .string bs, .int .i64 b1, .int .i64 b2, .int .i64 b3, .int .i64 b4, .bool on] 47), (w.heap.size + 1 + 1, .cells #[.int .i64 k0', .int .i64 k1', .int .i64 k2', .int .i64 k3', .string n', .string wd', .slice tp' tl' tc', .int .i64 a', .int .i64 b', .int .i64 c', .int .i64 d', .int .i64 bt', .string bs', .int .i64 b1', .int .i64 b2', .int .i64 b3', .int .i64 b4', .bool on'] 47), (j1, .cells #[.bool p1, .int .i64 w11, .int .i64 w21, .int .i64 h11, .int .i64 h21, .int .i64 f11, .int .i64 f21, .int .i64 c11, .int .i64 c21, .string s1, .string h1, .string q1, .string m1] 37), (j2, .cells #[.bool p2, .int .i64 w12, .int .i64 w22, .int .i64 h12, .int .i64 h22, .int .i64 f12, .int .i64 f22, .int .i64 c12, .int .i64 c22, .string s2, .string h2, .string q2, .string m2] 37), (V2.heap.size + x1.bs.size, .cells #[.bool p3, .int .i64 w13, .int .i64 w23, .int .i64 h13, .int .i64 h23, .int .i64 f13, .int .i64 f23, .int .i64 c13, .int .i64 c23, .string s3, .string h3, .string q3, .string m3] 37)] (by go_simp) ?_
      clear r2_0
      clear r2_1
      clear r2_2
      clear r2_3
      clear r2_4
      clear zr2_0
      clear zr2_1
      clear zr2_2
      clear zr2_3
      clear zr2_4
      clear g1
      intro V3 g3 hl
      simp only [List.forall_mem_cons, List.not_mem_nil, false_implies, implies_true, and_true] at hl
      obtain ⟨r3_0, r3_1, r3_2, r3_3, r3_4, r3_5⟩ := hl
      have zr3_0 := row_sz r3_0
      have zr3_1 := row_sz r3_1
      have zr3_2 := row_sz r3_2
      have zr3_3 := row_sz r3_3
      have zr3_4 := row_sz r3_4
      have zr3_5 := row_sz r3_5
      generalize V2.heap.size + x1.bs.size = j3 at *
      go_at_call 28; (with_reducible refine (H4.out _).mono ?_); rintro e w1 ⟨rfl, x1, rfl⟩
      go_wp2_with fail
      refine abs_rows (w := w) (G := fun W => Calls _ _ _ W _) (by repeat (first | assumption | exact World.grows.refl | apply World.grows.plus | apply World.grows.alloc | apply World.grows.drew)) [(w.heap.size, .cells #[.bool p0, .int .i64 w10, .int .i64 w20, .int .i64 h10, .int .i64 h20, .int .i64 f10, .int .i64 f20, .int .i64 c10, .int .i64 c20, .string s0, .string h0, .string q0, .string m0] 37), (w.heap.size + 1, .cells #[.int .i64 k0, .int .i64 k1, .int .i64 k2, .int .i64 k3, .string n, .string wd, .slice tp tl tc, .int .i64 a, .int .i64 b, .int .i64 c, .int .i64 d, .int .i64 bt, .string bs, .int .i64 b1, .int .i64 b2, .int .i64 b3, .int .i64 b4, .bool on] 47), (w.heap.size + 1 + 1, .cells #[.int .i64 k0', .int .i64 k1', .int .i64 k2', .int .i64 k3', .string n', .string wd', .slice tp' tl' tc', .int .i64 a', .int .i64 b', .int .i64 c', .int .i64 d', .int .i64 bt', .string bs', .int .i64 b1', .int .i64 b2', .int .i64 b3', .int .i64 b4', .bool on'] 47), (j1, .cells #[.bool p1, .int .i64 w11, .int .i64 w21, .int .i64 h11, .int .i64 h21, .int .i64 f11, .int .i64 f21, .int .i64 c11, .int .i64 c21, .string s1, .string h1, .string q1, .string m1] 37), (j2, .cells #[.bool p2, .int .i64 w12, .int .i64 w22, .int .i64 h12, .int .i64 h22, .int .i64 f12, .int .i64 f22, .int .i64 c12, .int .i64 c22, .string s2, .string h2, .string q2, .string m2] 37), (j3, .cells #[.bool p3, .int .i64 w13, .int .i64 w23, .int .i64 h13, .int .i64 h23, .int .i64 f13, .int .i64 f23, .int .i64 c13, .int .i64 c23, .string s3, .string h3, .string q3, .string m3] 37), (V3.heap.size + x1.bs.size, .cells #[.bool p3, .int .i64 w13, .int .i64 w23, .int .i64 h13, .int .i64 h23, .int .i64 f13, .int .i64 f23, .int .i64 c13, .int .i64 c23, .string s3, .string h3, .string q3, .string m3] 37)] (by go_simp) ?_
      clear r3_0
      clear r3_1
      clear r3_2
      clear r3_3
      clear r3_4
      clear r3_5
      clear zr3_0
      clear zr3_1
      clear zr3_2
      clear zr3_3
      clear zr3_4
      clear zr3_5
      clear g2
      intro V4 g4 hl
      simp only [List.forall_mem_cons, List.not_mem_nil, false_implies, implies_true, and_true] at hl
      obtain ⟨r4_0, r4_1, r4_2, r4_3, r4_4, r4_5, r4_6⟩ := hl
      have zr4_0 := row_sz r4_0
      have zr4_1 := row_sz r4_1
      have zr4_2 := row_sz r4_2
      have zr4_3 := row_sz r4_3
      have zr4_4 := row_sz r4_4
      have zr4_5 := row_sz r4_5
      have zr4_6 := row_sz r4_6
      go_at_call 26; (with_reducible refine (awake_any _).mono ?_); rintro e w1 ⟨rfl, x1, rfl⟩
      go_wp2_with fail
      go_ret
      exact ⟨rfl, (by repeat (first | assumption | exact World.grows.refl | apply World.grows.plus | apply World.grows.alloc | apply World.grows.drew))⟩
  · subst hk0
    subst hk
    have tst : (n.toList == n'.toList) = false := by simpa using hn
    clear hn
    as_aux_lemma =>
      go_enter Try.func7, Try.ntmps7
      go_wp2_with fail
      refine wp_region_plus_tail 4 (by kernel_rfl) (by kernel_rfl) ?_
      simp only [List.take_succ_cons, List.take_zero, List.drop_succ_cons, List.drop_zero]
      repeat (go_big_quiet_step (first | (go_at_call 27; (with_reducible exact Calls.plus_of (FA.out _))) | (go_at_call 27; (with_reducible exact Calls.plus_of (FB.out _)))))
      refine wpQuiet_nil ?_; intro _ hw'; obtain ⟨xq, hw''⟩ := hw'; subst hw''
      go_wp2_with fail
      refine abs_rows (w := w) (G := fun W => Calls _ _ _ W _) (by repeat (first | assumption | exact World.grows.refl | apply World.grows.plus | apply World.grows.alloc | apply World.grows.drew)) [(w.heap.size, .cells #[.bool p0, .int .i64 w10, .int .i64 w20, .int .i64 h10, .int .i64 h20, .int .i64 f10, .int .i64 f20, .int .i64 c10, .int .i64 c20, .string s0, .string h0, .string q0, .string m0] 37), (w.heap.size + 1, .cells #[.int .i64 4, .int .i64 k1, .int .i64 k2, .int .i64 k3, .string n, .string wd, .slice tp tl tc, .int .i64 a, .int .i64 b, .int .i64 c, .int .i64 d, .int .i64 bt, .string bs, .int .i64 b1, .int .i64 b2, .int .i64 b3, .int .i64 b4, .bool on] 47), (w.heap.size + 1 + 1, .cells #[.int .i64 4, .int .i64 k1', .int .i64 k2', .int .i64 k3', .string n', .string wd', .slice tp' tl' tc', .int .i64 a', .int .i64 b', .int .i64 c', .int .i64 d', .int .i64 bt', .string bs', .int .i64 b1', .int .i64 b2', .int .i64 b3', .int .i64 b4', .bool on'] 47)] (by go_simp) ?_
      intro V0 g0 hl
      simp only [List.forall_mem_cons, List.not_mem_nil, false_implies, implies_true, and_true] at hl
      obtain ⟨r0_0, r0_1, r0_2⟩ := hl
      have zr0_0 := row_sz r0_0
      have zr0_1 := row_sz r0_1
      have zr0_2 := row_sz r0_2
      go_at_call 28; (with_reducible refine (H1.out _).mono ?_); rintro e w1 ⟨rfl, x1, rfl⟩
      go_wp2_with fail
      refine abs_rows (w := w) (G := fun W => Calls _ _ _ W _) (by repeat (first | assumption | exact World.grows.refl | apply World.grows.plus | apply World.grows.alloc | apply World.grows.drew)) [(w.heap.size, .cells #[.bool p0, .int .i64 w10, .int .i64 w20, .int .i64 h10, .int .i64 h20, .int .i64 f10, .int .i64 f20, .int .i64 c10, .int .i64 c20, .string s0, .string h0, .string q0, .string m0] 37), (w.heap.size + 1, .cells #[.int .i64 4, .int .i64 k1, .int .i64 k2, .int .i64 k3, .string n, .string wd, .slice tp tl tc, .int .i64 a, .int .i64 b, .int .i64 c, .int .i64 d, .int .i64 bt, .string bs, .int .i64 b1, .int .i64 b2, .int .i64 b3, .int .i64 b4, .bool on] 47), (w.heap.size + 1 + 1, .cells #[.int .i64 4, .int .i64 k1', .int .i64 k2', .int .i64 k3', .string n', .string wd', .slice tp' tl' tc', .int .i64 a', .int .i64 b', .int .i64 c', .int .i64 d', .int .i64 bt', .string bs', .int .i64 b1', .int .i64 b2', .int .i64 b3', .int .i64 b4', .bool on'] 47), (V0.heap.size + x1.bs.size, .cells #[.bool p1, .int .i64 w11, .int .i64 w21, .int .i64 h11, .int .i64 h21, .int .i64 f11, .int .i64 f21, .int .i64 c11, .int .i64 c21, .string s1, .string h1, .string q1, .string m1] 37)] (by go_simp) ?_
      clear r0_0
      clear r0_1
      clear r0_2
      clear zr0_0
      clear zr0_1
      clear zr0_2
      intro V1 g1 hl
      simp only [List.forall_mem_cons, List.not_mem_nil, false_implies, implies_true, and_true] at hl
      obtain ⟨r1_0, r1_1, r1_2, r1_3⟩ := hl
      have zr1_0 := row_sz r1_0
      have zr1_1 := row_sz r1_1
      have zr1_2 := row_sz r1_2
      have zr1_3 := row_sz r1_3
      generalize V0.heap.size + x1.bs.size = j1 at *
      go_at_call 28; (with_reducible refine (H2.out _).mono ?_); rintro e w1 ⟨rfl, x1, rfl⟩
      go_wp2_with fail
      refine abs_rows (w := w) (G := fun W => Calls _ _ _ W _) (by repeat (first | assumption | exact World.grows.refl | apply World.grows.plus | apply World.grows.alloc | apply World.grows.drew)) [(w.heap.size, .cells #[.bool p0, .int .i64 w10, .int .i64 w20, .int .i64 h10, .int .i64 h20, .int .i64 f10, .int .i64 f20, .int .i64 c10, .int .i64 c20, .string s0, .string h0, .string q0, .string m0] 37), (w.heap.size + 1, .cells #[.int .i64 4, .int .i64 k1, .int .i64 k2, .int .i64 k3, .string n, .string wd, .slice tp tl tc, .int .i64 a, .int .i64 b, .int .i64 c, .int .i64 d, .int .i64 bt, .string bs, .int .i64 b1, .int .i64 b2, .int .i64 b3, .int .i64 b4, .bool on] 47), (w.heap.size + 1 + 1, .cells #[.int .i64 4, .int .i64 k1', .int .i64 k2', .int .i64 k3', .string n', .string wd', .slice tp' tl' tc', .int .i64 a', .int .i64 b', .int .i64 c', .int .i64 d', .int .i64 bt', .string bs', .int .i64 b1', .int .i64 b2', .int .i64 b3', .int .i64 b4', .bool on'] 47), (j1, .cells #[.bool p1, .int .i64 w11, .int .i64 w21, .int .i64 h11, .int .i64 h21, .int .i64 f11, .int .i64 f21, .int .i64 c11, .int .i64 c21, .string s1, .string h1, .string q1, .string m1] 37), (V1.heap.size + x1.bs.size, .cells #[.bool p2, .int .i64 w12, .int .i64 w22, .int .i64 h12, .int .i64 h22, .int .i64 f12, .int .i64 f22, .int .i64 c12, .int .i64 c22, .string s2, .string h2, .string q2, .string m2] 37)] (by go_simp) ?_
      clear r1_0
      clear r1_1
      clear r1_2
      clear r1_3
      clear zr1_0
      clear zr1_1
      clear zr1_2
      clear zr1_3
      clear g0
      intro V2 g2 hl
      simp only [List.forall_mem_cons, List.not_mem_nil, false_implies, implies_true, and_true] at hl
      obtain ⟨r2_0, r2_1, r2_2, r2_3, r2_4⟩ := hl
      have zr2_0 := row_sz r2_0
      have zr2_1 := row_sz r2_1
      have zr2_2 := row_sz r2_2
      have zr2_3 := row_sz r2_3
      have zr2_4 := row_sz r2_4
      generalize V1.heap.size + x1.bs.size = j2 at *
      go_at_call 28; (with_reducible refine (H3.out _).mono ?_); rintro e w1 ⟨rfl, x1, rfl⟩
      go_wp2_with fail
      refine abs_rows (w := w) (G := fun W => Calls _ _ _ W _) (by repeat (first | assumption | exact World.grows.refl | apply World.grows.plus | apply World.grows.alloc | apply World.grows.drew)) [(w.heap.size, .cells #[.bool p0, .int .i64 w10, .int .i64 w20, .int .i64 h10, .int .i64 h20, .int .i64 f10, .int .i64 f20, .int .i64 c10, .int .i64 c20, .string s0, .string h0, .string q0, .string m0] 37), (w.heap.size + 1, .cells #[.int .i64 4, .int .i64 k1, .int .i64 k2, .int .i64 k3, .string n, .string wd, .slice tp tl tc, .int .i64 a, .int .i64 b, .int .i64 c, .int .i64 d, .int .i64 bt, .string bs, .int .i64 b1, .int .i64 b2, .int .i64 b3, .int .i64 b4, .bool on] 47), (w.heap.size + 1 + 1, .cells #[.int .i64 4, .int .i64 k1', .int .i64 k2', .int .i64 k3', .string n', .string wd', .slice tp' tl' tc', .int .i64 a', .int .i64 b', .int .i64 c', .int .i64 d', .int .i64 bt', .string bs', .int .i64 b1', .int .i64 b2', .int .i64 b3', .int .i64 b4', .bool on'] 47), (j1, .cells #[.bool p1, .int .i64 w11, .int .i64 w21, .int .i64 h11, .int .i64 h21, .int .i64 f11, .int .i64 f21, .int .i64 c11, .int .i64 c21, .string s1, .string h1, .string q1, .string m1] 37), (j2, .cells #[.bool p2, .int .i64 w12, .int .i64 w22, .int .i64 h12, .int .i64 h22, .int .i64 f12, .int .i64 f22, .int .i64 c12, .int .i64 c22, .string s2, .string h2, .string q2, .string m2] 37), (V2.heap.size + x1.bs.size, .cells #[.bool p3, .int .i64 w13, .int .i64 w23, .int .i64 h13, .int .i64 h23, .int .i64 f13, .int .i64 f23, .int .i64 c13, .int .i64 c23, .string s3, .string h3, .string q3, .string m3] 37)] (by go_simp) ?_
      clear r2_0
      clear r2_1
      clear r2_2
      clear r2_3
      clear r2_4
      clear zr2_0
      clear zr2_1
      clear zr2_2
      clear zr2_3
      clear zr2_4
      clear g1
      intro V3 g3 hl
      simp only [List.forall_mem_cons, List.not_mem_nil, false_implies, implies_true, and_true] at hl
      obtain ⟨r3_0, r3_1, r3_2, r3_3, r3_4, r3_5⟩ := hl
      have zr3_0 := row_sz r3_0
      have zr3_1 := row_sz r3_1
      have zr3_2 := row_sz r3_2
      have zr3_3 := row_sz r3_3
      have zr3_4 := row_sz r3_4
      have zr3_5 := row_sz r3_5
      generalize V2.heap.size + x1.bs.size = j3 at *
      go_at_call 28; (with_reducible refine (H4.out _).mono ?_); rintro e w1 ⟨rfl, x1, rfl⟩
      go_wp2_with fail
      refine abs_rows (w := w) (G := fun W => Calls _ _ _ W _) (by repeat (first | assumption | exact World.grows.refl | apply World.grows.plus | apply World.grows.alloc | apply World.grows.drew)) [(w.heap.size, .cells #[.bool p0, .int .i64 w10, .int .i64 w20, .int .i64 h10, .int .i64 h20, .int .i64 f10, .int .i64 f20, .int .i64 c10, .int .i64 c20, .string s0, .string h0, .string q0, .string m0] 37), (w.heap.size + 1, .cells #[.int .i64 4, .int .i64 k1, .int .i64 k2, .int .i64 k3, .string n, .string wd, .slice tp tl tc, .int .i64 a, .int .i64 b, .int .i64 c, .int .i64 d, .int .i64 bt, .string bs, .int .i64 b1, .int .i64 b2, .int .i64 b3, .int .i64 b4, .bool on] 47), (w.heap.size + 1 + 1, .cells #[.int .i64 4, .int .i64 k1', .int .i64 k2', .int .i64 k3', .string n', .string wd', .slice tp' tl' tc', .int .i64 a', .int .i64 b', .int .i64 c', .int .i64 d', .int .i64 bt', .string bs', .int .i64 b1', .int .i64 b2', .int .i64 b3', .int .i64 b4', .bool on'] 47), (j1, .cells #[.bool p1, .int .i64 w11, .int .i64 w21, .int .i64 h11, .int .i64 h21, .int .i64 f11, .int .i64 f21, .int .i64 c11, .int .i64 c21, .string s1, .string h1, .string q1, .string m1] 37), (j2, .cells #[.bool p2, .int .i64 w12, .int .i64 w22, .int .i64 h12, .int .i64 h22, .int .i64 f12, .int .i64 f22, .int .i64 c12, .int .i64 c22, .string s2, .string h2, .string q2, .string m2] 37), (j3, .cells #[.bool p3, .int .i64 w13, .int .i64 w23, .int .i64 h13, .int .i64 h23, .int .i64 f13, .int .i64 f23, .int .i64 c13, .int .i64 c23, .string s3, .string h3, .string q3, .string m3] 37), (V3.heap.size + x1.bs.size, .cells #[.bool p3, .int .i64 w13, .int .i64 w23, .int .i64 h13, .int .i64 h23, .int .i64 f13, .int .i64 f23, .int .i64 c13, .int .i64 c23, .string s3, .string h3, .string q3, .string m3] 37)] (by go_simp) ?_
      clear r3_0
      clear r3_1
      clear r3_2
      clear r3_3
      clear r3_4
      clear r3_5
      clear zr3_0
      clear zr3_1
      clear zr3_2
      clear zr3_3
      clear zr3_4
      clear zr3_5
      clear g2
      intro V4 g4 hl
      simp only [List.forall_mem_cons, List.not_mem_nil, false_implies, implies_true, and_true] at hl
      obtain ⟨r4_0, r4_1, r4_2, r4_3, r4_4, r4_5, r4_6⟩ := hl
      have zr4_0 := row_sz r4_0
      have zr4_1 := row_sz r4_1
      have zr4_2 := row_sz r4_2
      have zr4_3 := row_sz r4_3
      have zr4_4 := row_sz r4_4
      have zr4_5 := row_sz r4_5
      have zr4_6 := row_sz r4_6
      go_at_call 26; (with_reducible refine (awake_any _).mono ?_); rintro e w1 ⟨rfl, x1, rfl⟩
      go_wp2_with fail
      go_ret
      exact ⟨rfl, (by repeat (first | assumption | exact World.grows.refl | apply World.grows.plus | apply World.grows.alloc | apply World.grows.drew))⟩

end Go.Proofs.Ytkmpnkgelaaebaa
