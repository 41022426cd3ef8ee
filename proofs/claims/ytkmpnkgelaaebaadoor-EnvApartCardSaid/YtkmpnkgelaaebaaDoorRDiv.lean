/- WALKS over rat: products of lists, quotients. No condition but that numbers are of their kinds. -/
import Derived.Test.YtkmpnkgelaaebaaDoorFold
set_option linter.unusedSimpArgs false
set_option linter.unusedVariables false
namespace Go
open Go.RowKit
theorem rats2 {W : World} {g : Nat} {a b c d : Int} {t : TypeId} (h : W.row g = some (.cells #[.int .i64 a, .int .i64 b, .int .i64 c, .int .i64 d] t)) (h1 : I64p (a, b)) (h2 : I64p (c, d)) :
    RatsAt W (.slice (some ⟨g, 0, none⟩) 2 2) [(a, b), (c, d)] := by
  refine ⟨_, 2, rfl, by simp, by omega, fun p hp => ?_, .inr ⟨g, 0, rfl, fun i p hi => ?_⟩⟩
  · simp at hp; rcases hp with rfl | rfl <;> assumption
  · unfold eltAt
    rw [h]
    match i with
    | 0 => simp at hi; subst hi; exact ⟨rfl, rfl⟩
    | 1 => simp at hi; subst hi; exact ⟨rfl, rfl⟩
    | i + 2 => simp at hi
theorem foldQ2 (n p q : Int × Int) : foldQ n mulQ [p, q] = mulQ p q := by
  show (if sureP p = true then goQ mulQ p [q] else (0, 0)) = _
  cases h : sureP p
  · unfold sureP at h; unfold mulQ; rw [h]; rfl
  · simp only [if_true]
    unfold goQ
    rw [h]
    cases h2 : sureP q
    · unfold sureP at h2; unfold mulQ; rw [h2]; simp
    · rfl
end Go
namespace Go.Proofs.YtkmpnkgelaaebaaDoor
open Go.RowKit

theorem mulF_any (p q : Int × Int) (w : World) (hp : I64p p) (hq : I64p q) (h1 : sureP p = true) (h2 : sureP q = true) : Calls Tryd.prog 38 #[ratV p, ratV q] w (Gives w (ratV (mulQ p q))) :=
  times_mul p.1 p.2 q.1 q.2 w hp.1 hp.2 hq.1 hq.2 h1 h2

set_option maxRecDepth 100000 in
theorem ratMul_any (v : Value) (l : List (Int × Int)) (w : World) (hr : RatsAt w v l) : Calls Tryd.prog 33 #[v] w (Gives w (ratV (foldQ (1, 1) mulQ l))) := by
  have h1 := fun W (hg : w.grows W) => folded_times mulQ (fun p q => mulQ_bd p q) mulF_any (1, 1) v l W (hr.grows hg)
  generalize foldQ (1, 1) mulQ l = R at *
  obtain ⟨R1, R2⟩ := R
  have H1 := Lib.hid h1; clear h1 hr
  go_enter Tryd.func33, Tryd.ntmps33
  go_wp2_with (first | (go_at_call 37; (with_reducible refine (H1.out _ (by repeat (with_reducible first | assumption | exact World.grows.refl | apply World.grows.plus | apply World.grows.alloc | apply World.grows.drew | (refine World.grows.setRow' ?_ (by omega) _) | (refine World.grows.setCell' ?_ (by omega) _ _)))).mono ?_); rintro e w1 ⟨rfl, x1, rfl⟩) | ((with_reducible show bodyPost _ _ _ _ _ _); exact ret_23 rfl rfl (by simp [go_sem]) rfl ⟨by simp [go_sem], (by repeat (first | exact World.grows.refl | apply World.grows.plus | apply World.grows.alloc | apply World.grows.drew))⟩))

set_option maxRecDepth 100000 in
theorem ratDiv_any (a b c d : Int) (w : World) (wa : I64 a) (wb : I64 b) (wc : I64 c) (wd : I64 d) :
    Calls Tryd.prog 21 #[.agg #[.int .i64 a, .int .i64 b], .agg #[.int .i64 c, .int .i64 d]] w (Gives w (ratV (divQ (a, b) (c, d)))) := by
  have s2 := fun w => sure_any c d w wc.1 wc.2 wd.1 wd.2
  cases t2 : sureB c d with
  | false =>
    rw [t2] at s2
    have er : divQ (a, b) (c, d) = (0, 0) := by unfold divQ; simp [t2]
    rw [er]
    have S2 := Lib.hid s2; clear s2 t2 er
    go_enter Tryd.func21, Tryd.ntmps21
    go_wp2_with (first | (go_at_call 32; (with_reducible refine (S2.out _).mono ?_); rintro e w1 ⟨rfl, x1, rfl⟩) | ((with_reducible show bodyPost _ _ _ _ _ _); exact ret_23 rfl rfl (by simp [go_sem]) rfl ⟨by simp [go_sem], (by repeat (first | exact World.grows.refl | apply World.grows.plus | apply World.grows.alloc | apply World.grows.drew))⟩))
  | true =>
    rw [t2] at s2
    by_cases hc : c = 0
    · have er : divQ (a, b) (c, d) = (0, 0) := by unfold divQ; simp [hc]
      rw [er]; subst hc
      have S2 := Lib.hid s2; clear s2 t2 er
      go_enter Tryd.func21, Tryd.ntmps21
      go_wp2_with (first | (go_at_call 32; (with_reducible refine (S2.out _).mono ?_); rintro e w1 ⟨rfl, x1, rfl⟩) | ((with_reducible show bodyPost _ _ _ _ _ _); exact ret_23 rfl rfl (by simp [go_sem]) rfl ⟨by simp [go_sem], (by repeat (first | exact World.grows.refl | apply World.grows.plus | apply World.grows.alloc | apply World.grows.drew))⟩))
    · rw [div_turn t2 wd.2 hc]
      have hy := sureB_yes t2
      have hc0 : (c == 0) = false := by simpa using hc
      have lc := wc.1; have uc := wc.2; have ld := wd.1; have ud := wd.2
      have h1 := fun W v hv => ratMul_any v [(a, b), turnQ (c, d)] W hv
      rw [foldQ2] at h1
      have S2 := Lib.hid s2
      by_cases hn : c < 0
      · have et : turnQ (c, d) = (-d, -c) := by unfold turnQ; exact if_pos hn
        rw [et] at h1 ⊢
        have i1 : I64p (a, b) := ⟨wa, wb⟩
        have i2 : I64p (-d, -c) := ⟨by unfold I64; omega, by unfold I64; omega⟩
        generalize mulQ (a, b) (-d, -c) = R at *
        obtain ⟨R1, R2⟩ := R
        have H1 := Lib.hid h1; have I1 := Lib.hid i1; have I2 := Lib.hid i2
        have nd : -9223372036854775807 ≤ -d := by omega
        have nd1 : 1 ≤ d := hy.1
        have nd2 : -d ≤ 9223372036854775807 := by omega
        have nc2 : -c ≤ 9223372036854775807 := by omega
        clear s2 t2 h1 i1 i2 hc wa wb wc wd et hy
        go_enter Tryd.func21, Tryd.ntmps21
        go_wp2_with (first | (go_at_call 32; (with_reducible refine (S2.out _).mono ?_); rintro e w1 ⟨rfl, x1, rfl⟩) | (go_at_call 33; (with_reducible refine (H1.out _ _ (rats2 (t := 23) ?_ I1.out I2.out)).mono ?_); (simp [go_sem]); rintro e w1 ⟨rfl, x1, rfl⟩) | ((with_reducible show bodyPost _ _ _ _ _ _); exact ret_23 rfl rfl (by simp [go_sem]) rfl ⟨by simp [go_sem], (by repeat (first | exact World.grows.refl | apply World.grows.plus | apply World.grows.alloc | apply World.grows.drew))⟩))
      · have et : turnQ (c, d) = (d, c) := by unfold turnQ; exact if_neg hn
        rw [et] at h1 ⊢
        have i1 : I64p (a, b) := ⟨wa, wb⟩
        have i2 : I64p (d, c) := ⟨wd, wc⟩
        generalize mulQ (a, b) (d, c) = R at *
        obtain ⟨R1, R2⟩ := R
        have H1 := Lib.hid h1; have I1 := Lib.hid i1; have I2 := Lib.hid i2
        clear s2 t2 h1 i1 i2 hc wa wb wc wd et hy
        go_enter Tryd.func21, Tryd.ntmps21
        go_wp2_with (first | (go_at_call 32; (with_reducible refine (S2.out _).mono ?_); rintro e w1 ⟨rfl, x1, rfl⟩) | (go_at_call 33; (with_reducible refine (H1.out _ _ (rats2 (t := 23) ?_ I1.out I2.out)).mono ?_); (simp [go_sem]); rintro e w1 ⟨rfl, x1, rfl⟩) | ((with_reducible show bodyPost _ _ _ _ _ _); exact ret_23 rfl rfl (by simp [go_sem]) rfl ⟨by simp [go_sem], (by repeat (first | exact World.grows.refl | apply World.grows.plus | apply World.grows.alloc | apply World.grows.drew))⟩))

end Go.Proofs.YtkmpnkgelaaebaaDoor
