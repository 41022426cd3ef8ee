/- For every three claims the statement OrderGoesOn answers true: weaker goes on; of two that differ just one is weaker. No condition. -/
import Derived.Test.YtajkfmnnokkcaaaRows
import Derived.Test.YtajkfmnnokkcaaaOrdAwk
import Derived.Test.YtajkfmnnokkcaaaRefSort
import Derived.Test.YtajkfmnnokkcaaaArgsO
set_option linter.unusedSimpArgs false
set_option linter.unusedVariables false
namespace Go
/-- weaker, as the program tells it -/
def Cl.wk (x y : Cl) : Bool := x.may && (y.may && x.weak y)
theorem Cl.wk_iff {x y : Cl} : x.wk y = true ↔ x.may = true ∧ y.may = true ∧ x.lo y := by
  unfold Cl.wk
  rw [Bool.and_eq_true, Bool.and_eq_true]
  constructor
  · rintro ⟨a, b, c⟩; exact ⟨a, b, (weak_lo a b).1 c⟩
  · rintro ⟨a, b, c⟩; exact ⟨a, b, (weak_lo a b).2 c⟩
theorem Cl.wk_trans {x y z : Cl} (h : x.wk y = true) (h' : y.wk z = true) : x.wk z = true := by
  rw [Cl.wk_iff] at *
  exact ⟨h.1, h'.2.1, Cl.lo_trans h.2.2 h'.2.2⟩
theorem Cl.wk_asymm {x y : Cl} (h : x.wk y = true) (h' : y.wk x = true) : False := by
  rw [Cl.wk_iff] at *
  exact Cl.lo_irr _ (Cl.lo_trans h.2.2 h'.2.2)
theorem Cl.wk_irr (x : Cl) : x.wk x = false := by
  rw [Bool.eq_false_iff]; intro h; exact Cl.wk_asymm h h
theorem Cl.wk_none {x y : Cl} (hx : x.may = true) (hy : y.may = true) (h : x.wk y = false) (h' : y.wk x = false) : x.eqk y := by
  rcases Cl.lo_or x y with a | a | a
  · rw [Bool.eq_false_iff] at h; exact (h (Cl.wk_iff.2 ⟨hx, hy, a⟩)).elim
  · rw [Bool.eq_false_iff] at h'; exact (h' (Cl.wk_iff.2 ⟨hy, hx, a⟩)).elim
  · exact a
theorem Cl.wk_not {x y : Cl} (h : x.eqk y) : x.wk y = false := by
  rw [Bool.eq_false_iff]; intro e
  have := (Cl.wk_iff.1 e).2.2
  exact Cl.lo_irr _ ((Cl.lo_eqk h).2.1 this)
end Go
namespace Go.Proofs.Ytajkfmnnokkcaaa
open Go.ChangeShapes Go.WideShapes Go.ChangeAt Go.RowKit
open Go.ChangeMaps (open_string shut_string)

set_option maxRecDepth 100000 in
set_option maxHeartbeats 8000000 in
theorem orderGoesOn_any (x y z : Cl) (w : World) : Calls Try.prog 5 #[x.v, y.v, z.v] w (Gives w (.bool true)) := by
  have hxy := fun w => ordWeaker_any x y w
  have hyz := fun w => ordWeaker_any y z w
  have hxz := fun w => ordWeaker_any x z w
  have hyx := fun w => ordWeaker_any y x w
  have hxx := fun w => ordWeaker_any x x w
  have mx := fun w => ordMay_any x w
  have my := fun w => ordMay_any y w
  have lx := fun w => ordLevel_any x w
  have ly := fun w => ordLevel_any y w
  change ∀ w, Calls _ _ _ w (Gives w (.bool (x.wk y))) at hxy
  change ∀ w, Calls _ _ _ w (Gives w (.bool (y.wk z))) at hyz
  change ∀ w, Calls _ _ _ w (Gives w (.bool (x.wk z))) at hxz
  change ∀ w, Calls _ _ _ w (Gives w (.bool (y.wk x))) at hyx
  change ∀ w, Calls _ _ _ w (Gives w (.bool (x.wk x))) at hxx
  rw [Cl.wk_irr] at hxx
  have hE := fun w => eqWeight x.a x.b x.c y.a y.b y.c w
  have f1 : x.wk y = true → y.wk z = true → x.wk z = true := Cl.wk_trans
  have f2 : x.wk y = true → y.wk x = true → False := Cl.wk_asymm
  have f4 : x.wk y = true → x.may = true ∧ y.may = true := fun h => ⟨(Cl.wk_iff.1 h).1, (Cl.wk_iff.1 h).2.1⟩
  have f5 : y.wk x = true → x.may = true ∧ y.may = true := fun h => ⟨(Cl.wk_iff.1 h).2.1, (Cl.wk_iff.1 h).1⟩
  have f6 : x.may = true → y.may = true → x.wk y = false → y.wk x = false → x.eqk y := Cl.wk_none
  have f7 : x.eqk y → x.wk y = false ∧ y.wk x = false := fun h => ⟨Cl.wk_not h, Cl.wk_not (Cl.eqk_symm h)⟩
  have hD : ¬ x.level = y.level ∨ x.level = y.level ∧ ¬ (x.a = y.a ∧ x.b = y.b ∧ x.c = y.c) ∨ x.level = y.level ∧ (x.a = y.a ∧ x.b = y.b ∧ x.c = y.c) ∧ ¬ x.r = y.r ∨ x.level = y.level ∧ (x.a = y.a ∧ x.b = y.b ∧ x.c = y.c) ∧ x.r = y.r ∧ ¬ x.d = y.d ∨ x.eqk y := by unfold Cl.eqk; omega
  have hk : x.eqk y ↔ x.level = y.level ∧ x.a = y.a ∧ x.b = y.b ∧ x.c = y.c ∧ x.r = y.r ∧ x.d = y.d := Iff.rfl
  rw [hk] at f6 f7 hD
  clear hk
  generalize x.wk y = B1 at *
  generalize y.wk z = B2 at *
  generalize x.wk z = B3 at *
  generalize y.wk x = B4 at *
  generalize x.may = M1 at *
  generalize y.may = M2 at *
  generalize x.level = n at *
  generalize y.level = m at *
  obtain ⟨p, o, i, a, b, c, r, d⟩ := x
  obtain ⟨p', o', i', a', b', c', r', d'⟩ := y
  obtain ⟨p2, o2, i2, a2, b2, c2, r2, d2⟩ := z
  simp only at hE hD f6 f7
  have HXY := Lib.hid hxy; have HYZ := Lib.hid hyz; have HXZ := Lib.hid hxz; have HYX := Lib.hid hyx; have HXX := Lib.hid hxx; have MX := Lib.hid mx; have MY := Lib.hid my; have LX := Lib.hid lx; have LY := Lib.hid ly
  clear hxy hyz hxz hyx hxx mx my lx ly
  cases M1
  · cases B1
    · cases B4
      · clear f1 f2 f4 f5 f6 f7 hD hE
        go_enter Try.func5, Try.ntmps5
        go_wp2_with (first | (go_at_call 16; (with_reducible refine (HXY.out _).mono ?_); rintro e w1 ⟨rfl, x1, rfl⟩) | (go_at_call 16; (with_reducible refine (HYZ.out _).mono ?_); rintro e w1 ⟨rfl, x1, rfl⟩) | (go_at_call 16; (with_reducible refine (HXZ.out _).mono ?_); rintro e w1 ⟨rfl, x1, rfl⟩) | (go_at_call 16; (with_reducible refine (HYX.out _).mono ?_); rintro e w1 ⟨rfl, x1, rfl⟩) | (go_at_call 16; (with_reducible refine (HXX.out _).mono ?_); rintro e w1 ⟨rfl, x1, rfl⟩) | (go_at_call 17; (with_reducible refine (MX.out _).mono ?_); rintro e w1 ⟨rfl, x1, rfl⟩) | (go_at_call 17; (with_reducible refine (MY.out _).mono ?_); rintro e w1 ⟨rfl, x1, rfl⟩) | (go_at_call 11; (with_reducible refine (awake20_any _).mono ?_); rintro e w1 ⟨rfl, x1, rfl⟩))
        go_ret
        exact ⟨rfl, (by repeat (with_reducible first | assumption | exact grA | apply grB | apply grC | apply grD | refine grE ?_ (by omega) _ | refine grF ?_ (by omega) _ _))⟩
      · have := f5 rfl; cases this.1
    · have := f4 rfl; cases this.1
  · cases M2
    · cases B1
      · cases B4
        · clear f1 f2 f4 f5 f6 f7 hD hE
          go_enter Try.func5, Try.ntmps5
          go_wp2_with (first | (go_at_call 16; (with_reducible refine (HXY.out _).mono ?_); rintro e w1 ⟨rfl, x1, rfl⟩) | (go_at_call 16; (with_reducible refine (HYZ.out _).mono ?_); rintro e w1 ⟨rfl, x1, rfl⟩) | (go_at_call 16; (with_reducible refine (HXZ.out _).mono ?_); rintro e w1 ⟨rfl, x1, rfl⟩) | (go_at_call 16; (with_reducible refine (HYX.out _).mono ?_); rintro e w1 ⟨rfl, x1, rfl⟩) | (go_at_call 16; (with_reducible refine (HXX.out _).mono ?_); rintro e w1 ⟨rfl, x1, rfl⟩) | (go_at_call 17; (with_reducible refine (MX.out _).mono ?_); rintro e w1 ⟨rfl, x1, rfl⟩) | (go_at_call 17; (with_reducible refine (MY.out _).mono ?_); rintro e w1 ⟨rfl, x1, rfl⟩) | (go_at_call 11; (with_reducible refine (awake20_any _).mono ?_); rintro e w1 ⟨rfl, x1, rfl⟩))
          go_ret
          exact ⟨rfl, (by repeat (with_reducible first | assumption | exact grA | apply grB | apply grC | apply grD | refine grE ?_ (by omega) _ | refine grF ?_ (by omega) _ _))⟩
        · have := f5 rfl; cases this.2
      · have := f4 rfl; cases this.2
    · cases B1
      · cases B4
        · obtain ⟨rfl, rfl, rfl, rfl, rfl, rfl⟩ := f6 rfl rfl rfl rfl
          simp only [beq_self_eq_true, Bool.and_self] at hE
          clear f1 f2 f4 f5 f6 f7 hD
          go_enter Try.func5, Try.ntmps5
          go_upto_region 5 with (first | (go_at_call 16; (with_reducible refine (HXY.out _).mono ?_); rintro e w1 ⟨rfl, x1, rfl⟩) | (go_at_call 16; (with_reducible refine (HYZ.out _).mono ?_); rintro e w1 ⟨rfl, x1, rfl⟩) | (go_at_call 16; (with_reducible refine (HXZ.out _).mono ?_); rintro e w1 ⟨rfl, x1, rfl⟩) | (go_at_call 16; (with_reducible refine (HYX.out _).mono ?_); rintro e w1 ⟨rfl, x1, rfl⟩) | (go_at_call 16; (with_reducible refine (HXX.out _).mono ?_); rintro e w1 ⟨rfl, x1, rfl⟩) | (go_at_call 17; (with_reducible refine (MX.out _).mono ?_); rintro e w1 ⟨rfl, x1, rfl⟩) | (go_at_call 17; (with_reducible refine (MY.out _).mono ?_); rintro e w1 ⟨rfl, x1, rfl⟩) | (go_at_call 11; (with_reducible refine (awake20_any _).mono ?_); rintro e w1 ⟨rfl, x1, rfl⟩))
          refine wp_region_plus_lit (by kernel_rfl) (by kernel_rfl) ?_
          repeat (go_big_quiet_step ((first | (go_at_call 18; (with_reducible exact Calls.plus_of (LX.out _))) | (go_at_call 18; (with_reducible exact Calls.plus_of (LY.out _))))))
          (refine wpQuiet_nil ?_; intro _ hw'; obtain ⟨xq, hw''⟩ := hw'; subst hw'')
          go_wp2_with (first | (go_at_call 16; (with_reducible refine (HXY.out _).mono ?_); rintro e w1 ⟨rfl, x1, rfl⟩) | (go_at_call 16; (with_reducible refine (HYZ.out _).mono ?_); rintro e w1 ⟨rfl, x1, rfl⟩) | (go_at_call 16; (with_reducible refine (HXZ.out _).mono ?_); rintro e w1 ⟨rfl, x1, rfl⟩) | (go_at_call 16; (with_reducible refine (HYX.out _).mono ?_); rintro e w1 ⟨rfl, x1, rfl⟩) | (go_at_call 16; (with_reducible refine (HXX.out _).mono ?_); rintro e w1 ⟨rfl, x1, rfl⟩) | (go_at_call 17; (with_reducible refine (MX.out _).mono ?_); rintro e w1 ⟨rfl, x1, rfl⟩) | (go_at_call 17; (with_reducible refine (MY.out _).mono ?_); rintro e w1 ⟨rfl, x1, rfl⟩) | (go_at_call 11; (with_reducible refine (awake20_any _).mono ?_); rintro e w1 ⟨rfl, x1, rfl⟩))
          go_ret
          exact ⟨rfl, (by repeat (with_reducible first | assumption | exact grA | apply grB | apply grC | apply grD | refine grE ?_ (by omega) _ | refine grF ?_ (by omega) _ _))⟩
        · rcases hD with h1 | ⟨rfl, h2⟩ | ⟨rfl, ⟨rfl, rfl, rfl⟩, h2⟩ | ⟨rfl, ⟨rfl, rfl, rfl⟩, rfl, h2⟩ | ⟨rfl, rfl, rfl, rfl, rfl, rfl⟩
          · have hb : (n != m) = true := by simpa using h1
            clear h1
            clear f1 f2 f4 f5 f6 f7
            go_enter Try.func5, Try.ntmps5
            go_upto_region 5 with (first | (go_at_call 16; (with_reducible refine (HXY.out _).mono ?_); rintro e w1 ⟨rfl, x1, rfl⟩) | (go_at_call 16; (with_reducible refine (HYZ.out _).mono ?_); rintro e w1 ⟨rfl, x1, rfl⟩) | (go_at_call 16; (with_reducible refine (HXZ.out _).mono ?_); rintro e w1 ⟨rfl, x1, rfl⟩) | (go_at_call 16; (with_reducible refine (HYX.out _).mono ?_); rintro e w1 ⟨rfl, x1, rfl⟩) | (go_at_call 16; (with_reducible refine (HXX.out _).mono ?_); rintro e w1 ⟨rfl, x1, rfl⟩) | (go_at_call 17; (with_reducible refine (MX.out _).mono ?_); rintro e w1 ⟨rfl, x1, rfl⟩) | (go_at_call 17; (with_reducible refine (MY.out _).mono ?_); rintro e w1 ⟨rfl, x1, rfl⟩) | (go_at_call 11; (with_reducible refine (awake20_any _).mono ?_); rintro e w1 ⟨rfl, x1, rfl⟩))
            refine wp_region_plus_lit (by kernel_rfl) (by kernel_rfl) ?_
            repeat (go_big_quiet_step ((first | (go_at_call 18; (with_reducible exact Calls.plus_of (LX.out _))) | (go_at_call 18; (with_reducible exact Calls.plus_of (LY.out _))))))
            (refine wpQuiet_nil ?_; intro _ hw'; obtain ⟨xq, hw''⟩ := hw'; subst hw'')
            go_wp2_with (first | (go_at_call 16; (with_reducible refine (HXY.out _).mono ?_); rintro e w1 ⟨rfl, x1, rfl⟩) | (go_at_call 16; (with_reducible refine (HYZ.out _).mono ?_); rintro e w1 ⟨rfl, x1, rfl⟩) | (go_at_call 16; (with_reducible refine (HXZ.out _).mono ?_); rintro e w1 ⟨rfl, x1, rfl⟩) | (go_at_call 16; (with_reducible refine (HYX.out _).mono ?_); rintro e w1 ⟨rfl, x1, rfl⟩) | (go_at_call 16; (with_reducible refine (HXX.out _).mono ?_); rintro e w1 ⟨rfl, x1, rfl⟩) | (go_at_call 17; (with_reducible refine (MX.out _).mono ?_); rintro e w1 ⟨rfl, x1, rfl⟩) | (go_at_call 17; (with_reducible refine (MY.out _).mono ?_); rintro e w1 ⟨rfl, x1, rfl⟩) | (go_at_call 11; (with_reducible refine (awake20_any _).mono ?_); rintro e w1 ⟨rfl, x1, rfl⟩))
            go_ret
            exact ⟨rfl, (by repeat (with_reducible first | assumption | exact grA | apply grB | apply grC | apply grD | refine grE ?_ (by omega) _ | refine grF ?_ (by omega) _ _))⟩
          · have hE2 : (a == a' && (b == b' && c == c')) = false := by rw [Bool.eq_false_iff]; simp only [ne_eq, Bool.and_eq_true, beq_iff_eq]; exact h2
            rw [hE2] at hE; clear hE2
            have H2 := Lib.hid h2; clear h2
            clear f1 f2 f4 f5 f6 f7
            go_enter Try.func5, Try.ntmps5
            go_upto_region 5 with (first | (go_at_call 16; (with_reducible refine (HXY.out _).mono ?_); rintro e w1 ⟨rfl, x1, rfl⟩) | (go_at_call 16; (with_reducible refine (HYZ.out _).mono ?_); rintro e w1 ⟨rfl, x1, rfl⟩) | (go_at_call 16; (with_reducible refine (HXZ.out _).mono ?_); rintro e w1 ⟨rfl, x1, rfl⟩) | (go_at_call 16; (with_reducible refine (HYX.out _).mono ?_); rintro e w1 ⟨rfl, x1, rfl⟩) | (go_at_call 16; (with_reducible refine (HXX.out _).mono ?_); rintro e w1 ⟨rfl, x1, rfl⟩) | (go_at_call 17; (with_reducible refine (MX.out _).mono ?_); rintro e w1 ⟨rfl, x1, rfl⟩) | (go_at_call 17; (with_reducible refine (MY.out _).mono ?_); rintro e w1 ⟨rfl, x1, rfl⟩) | (go_at_call 11; (with_reducible refine (awake20_any _).mono ?_); rintro e w1 ⟨rfl, x1, rfl⟩))
            refine wp_region_plus_lit (by kernel_rfl) (by kernel_rfl) ?_
            repeat (go_big_quiet_step ((first | (go_at_call 18; (with_reducible exact Calls.plus_of (LX.out _))) | (go_at_call 18; (with_reducible exact Calls.plus_of (LY.out _))))))
            (refine wpQuiet_nil ?_; intro _ hw'; obtain ⟨xq, hw''⟩ := hw'; subst hw'')
            go_wp2_with (first | (go_at_call 16; (with_reducible refine (HXY.out _).mono ?_); rintro e w1 ⟨rfl, x1, rfl⟩) | (go_at_call 16; (with_reducible refine (HYZ.out _).mono ?_); rintro e w1 ⟨rfl, x1, rfl⟩) | (go_at_call 16; (with_reducible refine (HXZ.out _).mono ?_); rintro e w1 ⟨rfl, x1, rfl⟩) | (go_at_call 16; (with_reducible refine (HYX.out _).mono ?_); rintro e w1 ⟨rfl, x1, rfl⟩) | (go_at_call 16; (with_reducible refine (HXX.out _).mono ?_); rintro e w1 ⟨rfl, x1, rfl⟩) | (go_at_call 17; (with_reducible refine (MX.out _).mono ?_); rintro e w1 ⟨rfl, x1, rfl⟩) | (go_at_call 17; (with_reducible refine (MY.out _).mono ?_); rintro e w1 ⟨rfl, x1, rfl⟩) | (go_at_call 11; (with_reducible refine (awake20_any _).mono ?_); rintro e w1 ⟨rfl, x1, rfl⟩))
            go_ret
            exact ⟨rfl, (by repeat (with_reducible first | assumption | exact grA | apply grB | apply grC | apply grD | refine grE ?_ (by omega) _ | refine grF ?_ (by omega) _ _))⟩
          · simp only [beq_self_eq_true, Bool.and_self] at hE
            have hb : (r != r') = true := by simpa using h2
            clear h2
            clear f1 f2 f4 f5 f6 f7
            go_enter Try.func5, Try.ntmps5
            go_upto_region 5 with (first | (go_at_call 16; (with_reducible refine (HXY.out _).mono ?_); rintro e w1 ⟨rfl, x1, rfl⟩) | (go_at_call 16; (with_reducible refine (HYZ.out _).mono ?_); rintro e w1 ⟨rfl, x1, rfl⟩) | (go_at_call 16; (with_reducible refine (HXZ.out _).mono ?_); rintro e w1 ⟨rfl, x1, rfl⟩) | (go_at_call 16; (with_reducible refine (HYX.out _).mono ?_); rintro e w1 ⟨rfl, x1, rfl⟩) | (go_at_call 16; (with_reducible refine (HXX.out _).mono ?_); rintro e w1 ⟨rfl, x1, rfl⟩) | (go_at_call 17; (with_reducible refine (MX.out _).mono ?_); rintro e w1 ⟨rfl, x1, rfl⟩) | (go_at_call 17; (with_reducible refine (MY.out _).mono ?_); rintro e w1 ⟨rfl, x1, rfl⟩) | (go_at_call 11; (with_reducible refine (awake20_any _).mono ?_); rintro e w1 ⟨rfl, x1, rfl⟩))
            refine wp_region_plus_lit (by kernel_rfl) (by kernel_rfl) ?_
            repeat (go_big_quiet_step ((first | (go_at_call 18; (with_reducible exact Calls.plus_of (LX.out _))) | (go_at_call 18; (with_reducible exact Calls.plus_of (LY.out _))))))
            (refine wpQuiet_nil ?_; intro _ hw'; obtain ⟨xq, hw''⟩ := hw'; subst hw'')
            go_wp2_with (first | (go_at_call 16; (with_reducible refine (HXY.out _).mono ?_); rintro e w1 ⟨rfl, x1, rfl⟩) | (go_at_call 16; (with_reducible refine (HYZ.out _).mono ?_); rintro e w1 ⟨rfl, x1, rfl⟩) | (go_at_call 16; (with_reducible refine (HXZ.out _).mono ?_); rintro e w1 ⟨rfl, x1, rfl⟩) | (go_at_call 16; (with_reducible refine (HYX.out _).mono ?_); rintro e w1 ⟨rfl, x1, rfl⟩) | (go_at_call 16; (with_reducible refine (HXX.out _).mono ?_); rintro e w1 ⟨rfl, x1, rfl⟩) | (go_at_call 17; (with_reducible refine (MX.out _).mono ?_); rintro e w1 ⟨rfl, x1, rfl⟩) | (go_at_call 17; (with_reducible refine (MY.out _).mono ?_); rintro e w1 ⟨rfl, x1, rfl⟩) | (go_at_call 11; (with_reducible refine (awake20_any _).mono ?_); rintro e w1 ⟨rfl, x1, rfl⟩))
            go_ret
            exact ⟨rfl, (by repeat (with_reducible first | assumption | exact grA | apply grB | apply grC | apply grD | refine grE ?_ (by omega) _ | refine grF ?_ (by omega) _ _))⟩
          · simp only [beq_self_eq_true, Bool.and_self] at hE
            have hb : (d != d') = true := by simpa using h2
            clear h2
            clear f1 f2 f4 f5 f6 f7
            go_enter Try.func5, Try.ntmps5
            go_upto_region 5 with (first | (go_at_call 16; (with_reducible refine (HXY.out _).mono ?_); rintro e w1 ⟨rfl, x1, rfl⟩) | (go_at_call 16; (with_reducible refine (HYZ.out _).mono ?_); rintro e w1 ⟨rfl, x1, rfl⟩) | (go_at_call 16; (with_reducible refine (HXZ.out _).mono ?_); rintro e w1 ⟨rfl, x1, rfl⟩) | (go_at_call 16; (with_reducible refine (HYX.out _).mono ?_); rintro e w1 ⟨rfl, x1, rfl⟩) | (go_at_call 16; (with_reducible refine (HXX.out _).mono ?_); rintro e w1 ⟨rfl, x1, rfl⟩) | (go_at_call 17; (with_reducible refine (MX.out _).mono ?_); rintro e w1 ⟨rfl, x1, rfl⟩) | (go_at_call 17; (with_reducible refine (MY.out _).mono ?_); rintro e w1 ⟨rfl, x1, rfl⟩) | (go_at_call 11; (with_reducible refine (awake20_any _).mono ?_); rintro e w1 ⟨rfl, x1, rfl⟩))
            refine wp_region_plus_lit (by kernel_rfl) (by kernel_rfl) ?_
            repeat (go_big_quiet_step ((first | (go_at_call 18; (with_reducible exact Calls.plus_of (LX.out _))) | (go_at_call 18; (with_reducible exact Calls.plus_of (LY.out _))))))
            (refine wpQuiet_nil ?_; intro _ hw'; obtain ⟨xq, hw''⟩ := hw'; subst hw'')
            go_wp2_with (first | (go_at_call 16; (with_reducible refine (HXY.out _).mono ?_); rintro e w1 ⟨rfl, x1, rfl⟩) | (go_at_call 16; (with_reducible refine (HYZ.out _).mono ?_); rintro e w1 ⟨rfl, x1, rfl⟩) | (go_at_call 16; (with_reducible refine (HXZ.out _).mono ?_); rintro e w1 ⟨rfl, x1, rfl⟩) | (go_at_call 16; (with_reducible refine (HYX.out _).mono ?_); rintro e w1 ⟨rfl, x1, rfl⟩) | (go_at_call 16; (with_reducible refine (HXX.out _).mono ?_); rintro e w1 ⟨rfl, x1, rfl⟩) | (go_at_call 17; (with_reducible refine (MX.out _).mono ?_); rintro e w1 ⟨rfl, x1, rfl⟩) | (go_at_call 17; (with_reducible refine (MY.out _).mono ?_); rintro e w1 ⟨rfl, x1, rfl⟩) | (go_at_call 11; (with_reducible refine (awake20_any _).mono ?_); rintro e w1 ⟨rfl, x1, rfl⟩))
            go_ret
            exact ⟨rfl, (by repeat (with_reducible first | assumption | exact grA | apply grB | apply grC | apply grD | refine grE ?_ (by omega) _ | refine grF ?_ (by omega) _ _))⟩
          · cases (f7 ⟨rfl, rfl, rfl, rfl, rfl, rfl⟩).2
      · cases B4
        · cases B2
          · rcases hD with h1 | ⟨rfl, h2⟩ | ⟨rfl, ⟨rfl, rfl, rfl⟩, h2⟩ | ⟨rfl, ⟨rfl, rfl, rfl⟩, rfl, h2⟩ | ⟨rfl, rfl, rfl, rfl, rfl, rfl⟩
            · have hb : (n != m) = true := by simpa using h1
              clear h1
              clear f1 f2 f4 f5 f6 f7
              go_enter Try.func5, Try.ntmps5
              go_upto_region 5 with (first | (go_at_call 16; (with_reducible refine (HXY.out _).mono ?_); rintro e w1 ⟨rfl, x1, rfl⟩) | (go_at_call 16; (with_reducible refine (HYZ.out _).mono ?_); rintro e w1 ⟨rfl, x1, rfl⟩) | (go_at_call 16; (with_reducible refine (HXZ.out _).mono ?_); rintro e w1 ⟨rfl, x1, rfl⟩) | (go_at_call 16; (with_reducible refine (HYX.out _).mono ?_); rintro e w1 ⟨rfl, x1, rfl⟩) | (go_at_call 16; (with_reducible refine (HXX.out _).mono ?_); rintro e w1 ⟨rfl, x1, rfl⟩) | (go_at_call 17; (with_reducible refine (MX.out _).mono ?_); rintro e w1 ⟨rfl, x1, rfl⟩) | (go_at_call 17; (with_reducible refine (MY.out _).mono ?_); rintro e w1 ⟨rfl, x1, rfl⟩) | (go_at_call 11; (with_reducible refine (awake20_any _).mono ?_); rintro e w1 ⟨rfl, x1, rfl⟩))
              refine wp_region_plus_lit (by kernel_rfl) (by kernel_rfl) ?_
              repeat (go_big_quiet_step ((first | (go_at_call 18; (with_reducible exact Calls.plus_of (LX.out _))) | (go_at_call 18; (with_reducible exact Calls.plus_of (LY.out _))))))
              (refine wpQuiet_nil ?_; intro _ hw'; obtain ⟨xq, hw''⟩ := hw'; subst hw'')
              go_wp2_with (first | (go_at_call 16; (with_reducible refine (HXY.out _).mono ?_); rintro e w1 ⟨rfl, x1, rfl⟩) | (go_at_call 16; (with_reducible refine (HYZ.out _).mono ?_); rintro e w1 ⟨rfl, x1, rfl⟩) | (go_at_call 16; (with_reducible refine (HXZ.out _).mono ?_); rintro e w1 ⟨rfl, x1, rfl⟩) | (go_at_call 16; (with_reducible refine (HYX.out _).mono ?_); rintro e w1 ⟨rfl, x1, rfl⟩) | (go_at_call 16; (with_reducible refine (HXX.out _).mono ?_); rintro e w1 ⟨rfl, x1, rfl⟩) | (go_at_call 17; (with_reducible refine (MX.out _).mono ?_); rintro e w1 ⟨rfl, x1, rfl⟩) | (go_at_call 17; (with_reducible refine (MY.out _).mono ?_); rintro e w1 ⟨rfl, x1, rfl⟩) | (go_at_call 11; (with_reducible refine (awake20_any _).mono ?_); rintro e w1 ⟨rfl, x1, rfl⟩))
              go_ret
              exact ⟨rfl, (by repeat (with_reducible first | assumption | exact grA | apply grB | apply grC | apply grD | refine grE ?_ (by omega) _ | refine grF ?_ (by omega) _ _))⟩
            · have hE2 : (a == a' && (b == b' && c == c')) = false := by rw [Bool.eq_false_iff]; simp only [ne_eq, Bool.and_eq_true, beq_iff_eq]; exact h2
              rw [hE2] at hE; clear hE2
              have H2 := Lib.hid h2; clear h2
              clear f1 f2 f4 f5 f6 f7
              go_enter Try.func5, Try.ntmps5
              go_upto_region 5 with (first | (go_at_call 16; (with_reducible refine (HXY.out _).mono ?_); rintro e w1 ⟨rfl, x1, rfl⟩) | (go_at_call 16; (with_reducible refine (HYZ.out _).mono ?_); rintro e w1 ⟨rfl, x1, rfl⟩) | (go_at_call 16; (with_reducible refine (HXZ.out _).mono ?_); rintro e w1 ⟨rfl, x1, rfl⟩) | (go_at_call 16; (with_reducible refine (HYX.out _).mono ?_); rintro e w1 ⟨rfl, x1, rfl⟩) | (go_at_call 16; (with_reducible refine (HXX.out _).mono ?_); rintro e w1 ⟨rfl, x1, rfl⟩) | (go_at_call 17; (with_reducible refine (MX.out _).mono ?_); rintro e w1 ⟨rfl, x1, rfl⟩) | (go_at_call 17; (with_reducible refine (MY.out _).mono ?_); rintro e w1 ⟨rfl, x1, rfl⟩) | (go_at_call 11; (with_reducible refine (awake20_any _).mono ?_); rintro e w1 ⟨rfl, x1, rfl⟩))
              refine wp_region_plus_lit (by kernel_rfl) (by kernel_rfl) ?_
              repeat (go_big_quiet_step ((first | (go_at_call 18; (with_reducible exact Calls.plus_of (LX.out _))) | (go_at_call 18; (with_reducible exact Calls.plus_of (LY.out _))))))
              (refine wpQuiet_nil ?_; intro _ hw'; obtain ⟨xq, hw''⟩ := hw'; subst hw'')
              go_wp2_with (first | (go_at_call 16; (with_reducible refine (HXY.out _).mono ?_); rintro e w1 ⟨rfl, x1, rfl⟩) | (go_at_call 16; (with_reducible refine (HYZ.out _).mono ?_); rintro e w1 ⟨rfl, x1, rfl⟩) | (go_at_call 16; (with_reducible refine (HXZ.out _).mono ?_); rintro e w1 ⟨rfl, x1, rfl⟩) | (go_at_call 16; (with_reducible refine (HYX.out _).mono ?_); rintro e w1 ⟨rfl, x1, rfl⟩) | (go_at_call 16; (with_reducible refine (HXX.out _).mono ?_); rintro e w1 ⟨rfl, x1, rfl⟩) | (go_at_call 17; (with_reducible refine (MX.out _).mono ?_); rintro e w1 ⟨rfl, x1, rfl⟩) | (go_at_call 17; (with_reducible refine (MY.out _).mono ?_); rintro e w1 ⟨rfl, x1, rfl⟩) | (go_at_call 11; (with_reducible refine (awake20_any _).mono ?_); rintro e w1 ⟨rfl, x1, rfl⟩))
              go_ret
              exact ⟨rfl, (by repeat (with_reducible first | assumption | exact grA | apply grB | apply grC | apply grD | refine grE ?_ (by omega) _ | refine grF ?_ (by omega) _ _))⟩
            · simp only [beq_self_eq_true, Bool.and_self] at hE
              have hb : (r != r') = true := by simpa using h2
              clear h2
              clear f1 f2 f4 f5 f6 f7
              go_enter Try.func5, Try.ntmps5
              go_upto_region 5 with (first | (go_at_call 16; (with_reducible refine (HXY.out _).mono ?_); rintro e w1 ⟨rfl, x1, rfl⟩) | (go_at_call 16; (with_reducible refine (HYZ.out _).mono ?_); rintro e w1 ⟨rfl, x1, rfl⟩) | (go_at_call 16; (with_reducible refine (HXZ.out _).mono ?_); rintro e w1 ⟨rfl, x1, rfl⟩) | (go_at_call 16; (with_reducible refine (HYX.out _).mono ?_); rintro e w1 ⟨rfl, x1, rfl⟩) | (go_at_call 16; (with_reducible refine (HXX.out _).mono ?_); rintro e w1 ⟨rfl, x1, rfl⟩) | (go_at_call 17; (with_reducible refine (MX.out _).mono ?_); rintro e w1 ⟨rfl, x1, rfl⟩) | (go_at_call 17; (with_reducible refine (MY.out _).mono ?_); rintro e w1 ⟨rfl, x1, rfl⟩) | (go_at_call 11; (with_reducible refine (awake20_any _).mono ?_); rintro e w1 ⟨rfl, x1, rfl⟩))
              refine wp_region_plus_lit (by kernel_rfl) (by kernel_rfl) ?_
              repeat (go_big_quiet_step ((first | (go_at_call 18; (with_reducible exact Calls.plus_of (LX.out _))) | (go_at_call 18; (with_reducible exact Calls.plus_of (LY.out _))))))
              (refine wpQuiet_nil ?_; intro _ hw'; obtain ⟨xq, hw''⟩ := hw'; subst hw'')
              go_wp2_with (first | (go_at_call 16; (with_reducible refine (HXY.out _).mono ?_); rintro e w1 ⟨rfl, x1, rfl⟩) | (go_at_call 16; (with_reducible refine (HYZ.out _).mono ?_); rintro e w1 ⟨rfl, x1, rfl⟩) | (go_at_call 16; (with_reducible refine (HXZ.out _).mono ?_); rintro e w1 ⟨rfl, x1, rfl⟩) | (go_at_call 16; (with_reducible refine (HYX.out _).mono ?_); rintro e w1 ⟨rfl, x1, rfl⟩) | (go_at_call 16; (with_reducible refine (HXX.out _).mono ?_); rintro e w1 ⟨rfl, x1, rfl⟩) | (go_at_call 17; (with_reducible refine (MX.out _).mono ?_); rintro e w1 ⟨rfl, x1, rfl⟩) | (go_at_call 17; (with_reducible refine (MY.out _).mono ?_); rintro e w1 ⟨rfl, x1, rfl⟩) | (go_at_call 11; (with_reducible refine (awake20_any _).mono ?_); rintro e w1 ⟨rfl, x1, rfl⟩))
              go_ret
              exact ⟨rfl, (by repeat (with_reducible first | assumption | exact grA | apply grB | apply grC | apply grD | refine grE ?_ (by omega) _ | refine grF ?_ (by omega) _ _))⟩
            · simp only [beq_self_eq_true, Bool.and_self] at hE
              have hb : (d != d') = true := by simpa using h2
              clear h2
              clear f1 f2 f4 f5 f6 f7
              go_enter Try.func5, Try.ntmps5
              go_upto_region 5 with (first | (go_at_call 16; (with_reducible refine (HXY.out _).mono ?_); rintro e w1 ⟨rfl, x1, rfl⟩) | (go_at_call 16; (with_reducible refine (HYZ.out _).mono ?_); rintro e w1 ⟨rfl, x1, rfl⟩) | (go_at_call 16; (with_reducible refine (HXZ.out _).mono ?_); rintro e w1 ⟨rfl, x1, rfl⟩) | (go_at_call 16; (with_reducible refine (HYX.out _).mono ?_); rintro e w1 ⟨rfl, x1, rfl⟩) | (go_at_call 16; (with_reducible refine (HXX.out _).mono ?_); rintro e w1 ⟨rfl, x1, rfl⟩) | (go_at_call 17; (with_reducible refine (MX.out _).mono ?_); rintro e w1 ⟨rfl, x1, rfl⟩) | (go_at_call 17; (with_reducible refine (MY.out _).mono ?_); rintro e w1 ⟨rfl, x1, rfl⟩) | (go_at_call 11; (with_reducible refine (awake20_any _).mono ?_); rintro e w1 ⟨rfl, x1, rfl⟩))
              refine wp_region_plus_lit (by kernel_rfl) (by kernel_rfl) ?_
              repeat (go_big_quiet_step ((first | (go_at_call 18; (with_reducible exact Calls.plus_of (LX.out _))) | (go_at_call 18; (with_reducible exact Calls.plus_of (LY.out _))))))
              (refine wpQuiet_nil ?_; intro _ hw'; obtain ⟨xq, hw''⟩ := hw'; subst hw'')
              go_wp2_with (first | (go_at_call 16; (with_reducible refine (HXY.out _).mono ?_); rintro e w1 ⟨rfl, x1, rfl⟩) | (go_at_call 16; (with_reducible refine (HYZ.out _).mono ?_); rintro e w1 ⟨rfl, x1, rfl⟩) | (go_at_call 16; (with_reducible refine (HXZ.out _).mono ?_); rintro e w1 ⟨rfl, x1, rfl⟩) | (go_at_call 16; (with_reducible refine (HYX.out _).mono ?_); rintro e w1 ⟨rfl, x1, rfl⟩) | (go_at_call 16; (with_reducible refine (HXX.out _).mono ?_); rintro e w1 ⟨rfl, x1, rfl⟩) | (go_at_call 17; (with_reducible refine (MX.out _).mono ?_); rintro e w1 ⟨rfl, x1, rfl⟩) | (go_at_call 17; (with_reducible refine (MY.out _).mono ?_); rintro e w1 ⟨rfl, x1, rfl⟩) | (go_at_call 11; (with_reducible refine (awake20_any _).mono ?_); rintro e w1 ⟨rfl, x1, rfl⟩))
              go_ret
              exact ⟨rfl, (by repeat (with_reducible first | assumption | exact grA | apply grB | apply grC | apply grD | refine grE ?_ (by omega) _ | refine grF ?_ (by omega) _ _))⟩
            · cases (f7 ⟨rfl, rfl, rfl, rfl, rfl, rfl⟩).1
          · cases B3
            · have := f1 rfl rfl; cases this
            · rcases hD with h1 | ⟨rfl, h2⟩ | ⟨rfl, ⟨rfl, rfl, rfl⟩, h2⟩ | ⟨rfl, ⟨rfl, rfl, rfl⟩, rfl, h2⟩ | ⟨rfl, rfl, rfl, rfl, rfl, rfl⟩
              · have hb : (n != m) = true := by simpa using h1
                clear h1
                clear f1 f2 f4 f5 f6 f7
                go_enter Try.func5, Try.ntmps5
                go_upto_region 5 with (first | (go_at_call 16; (with_reducible refine (HXY.out _).mono ?_); rintro e w1 ⟨rfl, x1, rfl⟩) | (go_at_call 16; (with_reducible refine (HYZ.out _).mono ?_); rintro e w1 ⟨rfl, x1, rfl⟩) | (go_at_call 16; (with_reducible refine (HXZ.out _).mono ?_); rintro e w1 ⟨rfl, x1, rfl⟩) | (go_at_call 16; (with_reducible refine (HYX.out _).mono ?_); rintro e w1 ⟨rfl, x1, rfl⟩) | (go_at_call 16; (with_reducible refine (HXX.out _).mono ?_); rintro e w1 ⟨rfl, x1, rfl⟩) | (go_at_call 17; (with_reducible refine (MX.out _).mono ?_); rintro e w1 ⟨rfl, x1, rfl⟩) | (go_at_call 17; (with_reducible refine (MY.out _).mono ?_); rintro e w1 ⟨rfl, x1, rfl⟩) | (go_at_call 11; (with_reducible refine (awake20_any _).mono ?_); rintro e w1 ⟨rfl, x1, rfl⟩))
                refine wp_region_plus_lit (by kernel_rfl) (by kernel_rfl) ?_
                repeat (go_big_quiet_step ((first | (go_at_call 18; (with_reducible exact Calls.plus_of (LX.out _))) | (go_at_call 18; (with_reducible exact Calls.plus_of (LY.out _))))))
                (refine wpQuiet_nil ?_; intro _ hw'; obtain ⟨xq, hw''⟩ := hw'; subst hw'')
                go_wp2_with (first | (go_at_call 16; (with_reducible refine (HXY.out _).mono ?_); rintro e w1 ⟨rfl, x1, rfl⟩) | (go_at_call 16; (with_reducible refine (HYZ.out _).mono ?_); rintro e w1 ⟨rfl, x1, rfl⟩) | (go_at_call 16; (with_reducible refine (HXZ.out _).mono ?_); rintro e w1 ⟨rfl, x1, rfl⟩) | (go_at_call 16; (with_reducible refine (HYX.out _).mono ?_); rintro e w1 ⟨rfl, x1, rfl⟩) | (go_at_call 16; (with_reducible refine (HXX.out _).mono ?_); rintro e w1 ⟨rfl, x1, rfl⟩) | (go_at_call 17; (with_reducible refine (MX.out _).mono ?_); rintro e w1 ⟨rfl, x1, rfl⟩) | (go_at_call 17; (with_reducible refine (MY.out _).mono ?_); rintro e w1 ⟨rfl, x1, rfl⟩) | (go_at_call 11; (with_reducible refine (awake20_any _).mono ?_); rintro e w1 ⟨rfl, x1, rfl⟩))
                go_ret
                exact ⟨rfl, (by repeat (with_reducible first | assumption | exact grA | apply grB | apply grC | apply grD | refine grE ?_ (by omega) _ | refine grF ?_ (by omega) _ _))⟩
              · have hE2 : (a == a' && (b == b' && c == c')) = false := by rw [Bool.eq_false_iff]; simp only [ne_eq, Bool.and_eq_true, beq_iff_eq]; exact h2
                rw [hE2] at hE; clear hE2
                have H2 := Lib.hid h2; clear h2
                clear f1 f2 f4 f5 f6 f7
                go_enter Try.func5, Try.ntmps5
                go_upto_region 5 with (first | (go_at_call 16; (with_reducible refine (HXY.out _).mono ?_); rintro e w1 ⟨rfl, x1, rfl⟩) | (go_at_call 16; (with_reducible refine (HYZ.out _).mono ?_); rintro e w1 ⟨rfl, x1, rfl⟩) | (go_at_call 16; (with_reducible refine (HXZ.out _).mono ?_); rintro e w1 ⟨rfl, x1, rfl⟩) | (go_at_call 16; (with_reducible refine (HYX.out _).mono ?_); rintro e w1 ⟨rfl, x1, rfl⟩) | (go_at_call 16; (with_reducible refine (HXX.out _).mono ?_); rintro e w1 ⟨rfl, x1, rfl⟩) | (go_at_call 17; (with_reducible refine (MX.out _).mono ?_); rintro e w1 ⟨rfl, x1, rfl⟩) | (go_at_call 17; (with_reducible refine (MY.out _).mono ?_); rintro e w1 ⟨rfl, x1, rfl⟩) | (go_at_call 11; (with_reducible refine (awake20_any _).mono ?_); rintro e w1 ⟨rfl, x1, rfl⟩))
                refine wp_region_plus_lit (by kernel_rfl) (by kernel_rfl) ?_
                repeat (go_big_quiet_step ((first | (go_at_call 18; (with_reducible exact Calls.plus_of (LX.out _))) | (go_at_call 18; (with_reducible exact Calls.plus_of (LY.out _))))))
                (refine wpQuiet_nil ?_; intro _ hw'; obtain ⟨xq, hw''⟩ := hw'; subst hw'')
                go_wp2_with (first | (go_at_call 16; (with_reducible refine (HXY.out _).mono ?_); rintro e w1 ⟨rfl, x1, rfl⟩) | (go_at_call 16; (with_reducible refine (HYZ.out _).mono ?_); rintro e w1 ⟨rfl, x1, rfl⟩) | (go_at_call 16; (with_reducible refine (HXZ.out _).mono ?_); rintro e w1 ⟨rfl, x1, rfl⟩) | (go_at_call 16; (with_reducible refine (HYX.out _).mono ?_); rintro e w1 ⟨rfl, x1, rfl⟩) | (go_at_call 16; (with_reducible refine (HXX.out _).mono ?_); rintro e w1 ⟨rfl, x1, rfl⟩) | (go_at_call 17; (with_reducible refine (MX.out _).mono ?_); rintro e w1 ⟨rfl, x1, rfl⟩) | (go_at_call 17; (with_reducible refine (MY.out _).mono ?_); rintro e w1 ⟨rfl, x1, rfl⟩) | (go_at_call 11; (with_reducible refine (awake20_any _).mono ?_); rintro e w1 ⟨rfl, x1, rfl⟩))
                go_ret
                exact ⟨rfl, (by repeat (with_reducible first | assumption | exact grA | apply grB | apply grC | apply grD | refine grE ?_ (by omega) _ | refine grF ?_ (by omega) _ _))⟩
              · simp only [beq_self_eq_true, Bool.and_self] at hE
                have hb : (r != r') = true := by simpa using h2
                clear h2
                clear f1 f2 f4 f5 f6 f7
                go_enter Try.func5, Try.ntmps5
                go_upto_region 5 with (first | (go_at_call 16; (with_reducible refine (HXY.out _).mono ?_); rintro e w1 ⟨rfl, x1, rfl⟩) | (go_at_call 16; (with_reducible refine (HYZ.out _).mono ?_); rintro e w1 ⟨rfl, x1, rfl⟩) | (go_at_call 16; (with_reducible refine (HXZ.out _).mono ?_); rintro e w1 ⟨rfl, x1, rfl⟩) | (go_at_call 16; (with_reducible refine (HYX.out _).mono ?_); rintro e w1 ⟨rfl, x1, rfl⟩) | (go_at_call 16; (with_reducible refine (HXX.out _).mono ?_); rintro e w1 ⟨rfl, x1, rfl⟩) | (go_at_call 17; (with_reducible refine (MX.out _).mono ?_); rintro e w1 ⟨rfl, x1, rfl⟩) | (go_at_call 17; (with_reducible refine (MY.out _).mono ?_); rintro e w1 ⟨rfl, x1, rfl⟩) | (go_at_call 11; (with_reducible refine (awake20_any _).mono ?_); rintro e w1 ⟨rfl, x1, rfl⟩))
                refine wp_region_plus_lit (by kernel_rfl) (by kernel_rfl) ?_
                repeat (go_big_quiet_step ((first | (go_at_call 18; (with_reducible exact Calls.plus_of (LX.out _))) | (go_at_call 18; (with_reducible exact Calls.plus_of (LY.out _))))))
                (refine wpQuiet_nil ?_; intro _ hw'; obtain ⟨xq, hw''⟩ := hw'; subst hw'')
                go_wp2_with (first | (go_at_call 16; (with_reducible refine (HXY.out _).mono ?_); rintro e w1 ⟨rfl, x1, rfl⟩) | (go_at_call 16; (with_reducible refine (HYZ.out _).mono ?_); rintro e w1 ⟨rfl, x1, rfl⟩) | (go_at_call 16; (with_reducible refine (HXZ.out _).mono ?_); rintro e w1 ⟨rfl, x1, rfl⟩) | (go_at_call 16; (with_reducible refine (HYX.out _).mono ?_); rintro e w1 ⟨rfl, x1, rfl⟩) | (go_at_call 16; (with_reducible refine (HXX.out _).mono ?_); rintro e w1 ⟨rfl, x1, rfl⟩) | (go_at_call 17; (with_reducible refine (MX.out _).mono ?_); rintro e w1 ⟨rfl, x1, rfl⟩) | (go_at_call 17; (with_reducible refine (MY.out _).mono ?_); rintro e w1 ⟨rfl, x1, rfl⟩) | (go_at_call 11; (with_reducible refine (awake20_any _).mono ?_); rintro e w1 ⟨rfl, x1, rfl⟩))
                go_ret
                exact ⟨rfl, (by repeat (with_reducible first | assumption | exact grA | apply grB | apply grC | apply grD | refine grE ?_ (by omega) _ | refine grF ?_ (by omega) _ _))⟩
              · simp only [beq_self_eq_true, Bool.and_self] at hE
                have hb : (d != d') = true := by simpa using h2
                clear h2
                clear f1 f2 f4 f5 f6 f7
                go_enter Try.func5, Try.ntmps5
                go_upto_region 5 with (first | (go_at_call 16; (with_reducible refine (HXY.out _).mono ?_); rintro e w1 ⟨rfl, x1, rfl⟩) | (go_at_call 16; (with_reducible refine (HYZ.out _).mono ?_); rintro e w1 ⟨rfl, x1, rfl⟩) | (go_at_call 16; (with_reducible refine (HXZ.out _).mono ?_); rintro e w1 ⟨rfl, x1, rfl⟩) | (go_at_call 16; (with_reducible refine (HYX.out _).mono ?_); rintro e w1 ⟨rfl, x1, rfl⟩) | (go_at_call 16; (with_reducible refine (HXX.out _).mono ?_); rintro e w1 ⟨rfl, x1, rfl⟩) | (go_at_call 17; (with_reducible refine (MX.out _).mono ?_); rintro e w1 ⟨rfl, x1, rfl⟩) | (go_at_call 17; (with_reducible refine (MY.out _).mono ?_); rintro e w1 ⟨rfl, x1, rfl⟩) | (go_at_call 11; (with_reducible refine (awake20_any _).mono ?_); rintro e w1 ⟨rfl, x1, rfl⟩))
                refine wp_region_plus_lit (by kernel_rfl) (by kernel_rfl) ?_
                repeat (go_big_quiet_step ((first | (go_at_call 18; (with_reducible exact Calls.plus_of (LX.out _))) | (go_at_call 18; (with_reducible exact Calls.plus_of (LY.out _))))))
                (refine wpQuiet_nil ?_; intro _ hw'; obtain ⟨xq, hw''⟩ := hw'; subst hw'')
                go_wp2_with (first | (go_at_call 16; (with_reducible refine (HXY.out _).mono ?_); rintro e w1 ⟨rfl, x1, rfl⟩) | (go_at_call 16; (with_reducible refine (HYZ.out _).mono ?_); rintro e w1 ⟨rfl, x1, rfl⟩) | (go_at_call 16; (with_reducible refine (HXZ.out _).mono ?_); rintro e w1 ⟨rfl, x1, rfl⟩) | (go_at_call 16; (with_reducible refine (HYX.out _).mono ?_); rintro e w1 ⟨rfl, x1, rfl⟩) | (go_at_call 16; (with_reducible refine (HXX.out _).mono ?_); rintro e w1 ⟨rfl, x1, rfl⟩) | (go_at_call 17; (with_reducible refine (MX.out _).mono ?_); rintro e w1 ⟨rfl, x1, rfl⟩) | (go_at_call 17; (with_reducible refine (MY.out _).mono ?_); rintro e w1 ⟨rfl, x1, rfl⟩) | (go_at_call 11; (with_reducible refine (awake20_any _).mono ?_); rintro e w1 ⟨rfl, x1, rfl⟩))
                go_ret
                exact ⟨rfl, (by repeat (with_reducible first | assumption | exact grA | apply grB | apply grC | apply grD | refine grE ?_ (by omega) _ | refine grF ?_ (by omega) _ _))⟩
              · cases (f7 ⟨rfl, rfl, rfl, rfl, rfl, rfl⟩).1
        · exact (f2 rfl rfl).elim

theorem orderGoesOn_own : ownKnob Try.prog.godebug = none := by kernel_rfl
theorem orderGoesOn_laidOut : laidOutB Try.prog = true := by kernel_rfl
set_option maxRecDepth 100000 in
set_option maxHeartbeats 2000000 in
theorem orderGoesOn_lifted (os : Os) (started : os.Started) (H : Type) (enc : TypeId × Value → H) :
    ReturnsInHanded {} Try.checked os 5 .any (Rows.orderGoesOnSpec.pre6 enc Try.prog Try.f5 Rows.orderGoesOnRow.domain false) (Rows.orderGoesOnSpec.post enc Try.prog Try.f5 false true false false) := by
  refine returnsInHanded_of_change (C := Try.checked) orderGoesOn_own started (by kernel_rfl) Try.func5
    (ChangeSpec.witness6 (enc := enc) (C := Try.checked) false ⟨#[], #[.agg #[.string ByteArray.empty, .int .i64 0, .bool false, .int .i64 0, .int .i64 0, .int .i64 0, .int .i64 0, .int .i64 0], .agg #[.string ByteArray.empty, .int .i64 0, .bool false, .int .i64 0, .int .i64 0, .int .i64 0, .int .i64 0, .int .i64 0], .agg #[.string ByteArray.empty, .int .i64 0, .bool false, .int .i64 0, .int .i64 0, .int .i64 0, .int .i64 0, .int .i64 0]], []⟩ 8 (by kernel_rfl) (by kernel_rfl) (by kernel_rfl) (by kernel_rfl)) ?_
  intro W base args ds gs before hval0 hW hcnd _
  have hval : ∀ (j : Nat) t v, Try.f5.params[j]? = some t → args[j]? = some v → Value.okWide Try.prog W .any base t v := hval0
  have hW' := hW
  obtain ⟨p, q, hA0, hV, rfl, hfz, hnd⟩ := hW
  have hA : DataW.TrodAll enc Try.prog W 0 (fun _ => true) true Try.f5.params.toList args.toList ds p := hA0
  rw [Try.params5] at hA hval
  obtain ⟨v0, vs0, d0, ds0, p0, q0, hargs, rfl, rfl, h0, r0⟩ := trodAll_cons hA
  obtain ⟨v1, vs1, d1, ds1, p1, q1, rfl, rfl, rfl, h1, r1⟩ := trodAll_cons r0
  obtain ⟨v2, vs2, d2, ds2, p2, q2, rfl, rfl, rfl, h2, r2⟩ := trodAll_cons r1
  obtain ⟨rfl, rfl, rfl⟩ := trodAll_nil r2
  obtain rfl : args = #[v0, v1, v2] := by cases args; simp_all
  obtain ⟨rfl, rfl⟩ := trodVars_none hV
  have k0 := h0
  have lt0 : ∀ x ∈ p0, x.block < W.heap.size := by obtain ⟨m, hm⟩ := k0; exact DataW.trod_lt m _ _ _ hm
  have k1 := h1
  have lt1 : ∀ x ∈ p1, x.block < W.heap.size := by obtain ⟨m, hm⟩ := k1; exact DataW.trod_lt m _ _ _ hm
  have k2 := h2
  have lt2 : ∀ x ∈ p2, x.block < W.heap.size := by obtain ⟨m, hm⟩ := k2; exact DataW.trod_lt m _ _ _ hm
  obtain ⟨p, o, i, a, b, c, r, d, rfl, w0_0, w0_1, w0_2, w0_3, w0_4, w0_5, w0_6⟩ := claim_arg (hval 0 34 v0 rfl rfl) h0
  obtain ⟨p', o', i', a', b', c', r', d', rfl, w1_0, w1_1, w1_2, w1_3, w1_4, w1_5, w1_6⟩ := claim_arg (hval 1 34 v1 rfl rfl) h1
  obtain ⟨p2, o2, i2, a2, b2, c2, r2, d2, rfl, w2_0, w2_1, w2_2, w2_3, w2_4, w2_5, w2_6⟩ := claim_arg (hval 2 34 v2 rfl rfl) h2
  clear hA0 hval0
  refine (orderGoesOn_any ⟨p, o, i, a, b, c, r, d⟩ ⟨p', o', i', a', b', c', r', d'⟩ ⟨p2, o2, i2, a2, b2, c2, r2, d2⟩ W).mono fun e W' ⟨he, grw⟩ => ?_
  subst he
  have bel := grw.below
  exact ⟨_, rfl, _, _, _, [], _, [], hW', trodAll_mk1 (shut_bool Try.underlying4 _), (trodAll_cons_mk (Below.trod orderGoesOn_laidOut (by kernel_rfl) (of_decide_eq_true (by kernel_rfl)) k0 bel lt0) (trodAll_cons_mk (Below.trod orderGoesOn_laidOut (by kernel_rfl) (of_decide_eq_true (by kernel_rfl)) k1 bel lt1) (trodAll_cons_mk (Below.trod orderGoesOn_laidOut (by kernel_rfl) (of_decide_eq_true (by kernel_rfl)) k2 bel lt2) trodAll_mk0))), rfl, bel.frame _, fun h => by cases h⟩

/-- THE STATEMENT -/
theorem orderGoesOn_holds : Rows.OrderGoesOnSaid :=
  OpenClaim.holds_of_wide 5 Try.f5 rfl rfl rfl rfl rfl rfl rfl ⟨rfl, rfl, rfl, rfl, rfl⟩ rfl rfl rfl rfl rfl (by kernel_rfl) Try.func5 (by kernel_rfl)
    (of_decide_eq_true (by kernel_rfl)) (by unfold Func.isWrapper; first | (rw [if_pos (by decide +kernel)]; kernel_rfl) | (rw [if_neg (by decide +kernel)]; exact ⟨rfl, rfl⟩))
    (fun os started H enc _ => orderGoesOn_lifted os started H enc)
#print axioms orderGoesOn_holds

end Go.Proofs.Ytajkfmnnokkcaaa
