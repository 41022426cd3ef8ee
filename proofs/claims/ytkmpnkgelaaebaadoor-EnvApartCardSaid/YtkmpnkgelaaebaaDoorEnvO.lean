/- WALKS over jalousielaw16: one of the five changes, and what it comes to. No condition but that numbers are of their kinds. -/
import Derived.Test.YtkmpnkgelaaebaaDoorEnvA
import Derived.Test.YtkmpnkgelaaebaaDoorEnvTF
import Derived.Test.YtkmpnkgelaaebaaDoorEnvTC
import Derived.Test.YtkmpnkgelaaebaaDoorEnvTP
set_option linter.unusedSimpArgs false
set_option linter.unusedVariables false
namespace Go
open Go.RowKit Go.Proofs.YtkmpnkgelaaebaaDoor
structure Od where
  k0 : Int
  k1 : Int
  k2 : Int
  k3 : Int
  n : ByteArray
  wd : ByteArray
  tp : Option Addr
  tl : Nat
  tc : Nat
  a : Int
  b : Int
  c : Int
  d : Int
  bt : Int
  bs : ByteArray
  b1 : Int
  b2 : Int
  b3 : Int
  b4 : Int
  on : Bool
abbrev Od.v (o : Od) : Value := .agg #[.int .i64 o.k0, .int .i64 o.k1, .int .i64 o.k2, .int .i64 o.k3, .string o.n, .string o.wd, .slice o.tp o.tl o.tc, .int .i64 o.a, .int .i64 o.b, .int .i64 o.c, .int .i64 o.d, .int .i64 o.bt, .string o.bs, .int .i64 o.b1, .int .i64 o.b2, .int .i64 o.b3, .int .i64 o.b4, .bool o.on]
def Od.Wf (o : Od) : Prop := I64 o.a ∧ I64 o.b ∧ I64 o.c ∧ I64 o.d
/-- one of the five -/
def Od.is (o : Od) : Bool := o.k0 == 2 || (o.k0 == 3 || (o.k0 == 13 || o.k0 == 14))
def Od.five (o : Od) : Od := if o.is then o else { o with k0 := 4 }
theorem Od.five_wf {o : Od} (h : o.Wf) : o.five.Wf := by unfold Od.five; split <;> exact h
/-- what a change comes to -/
def Od.res (e : En) (o : Od) : Option En :=
  if o.k0 = 2 then (if sizeB o.a o.b && sizeB o.c o.d then some { e with w1 := o.a, w2 := o.b, h1 := o.c, h2 := o.d } else none)
  else if o.k0 = 3 then (if sizeB o.a o.b then some { e with f1 := o.a, f2 := o.b } else none)
  else if o.k0 = 13 then (if sizeB o.a o.b && (o.b == 1) then some { e with c1 := o.a, c2 := o.b } else none)
  else if o.k0 = 14 then some { e with p := o.on }
  else e.turn o.n o.wd
def Od.why (o : Od) : Int := if o.k0 = 2 then 8 else if o.k0 = 3 then 8 else if o.k0 = 13 then 8 else if o.k0 = 14 then 0 else 9
end Go
namespace Go.Proofs.YtkmpnkgelaaebaaDoor
open Go.RowKit

set_option maxRecDepth 100000 in
set_option maxHeartbeats 1000000 in
theorem five_any (o : Od) (w : World) : Calls Tryd.prog 4 #[o.v] w (Gives w o.five.v) := by
  obtain ⟨k0, k1, k2, k3, n, wd, tp, tl, tc, a, b, c, d, bt, bs, b1, b2, b3, b4, on⟩ := o
  by_cases h1 : k0 = 2
  · subst h1
    rw [show Od.five ⟨2, k1, k2, k3, n, wd, tp, tl, tc, a, b, c, d, bt, bs, b1, b2, b3, b4, on⟩ = ⟨2, k1, k2, k3, n, wd, tp, tl, tc, a, b, c, d, bt, bs, b1, b2, b3, b4, on⟩ from rfl]
    go_enter Tryd.func4, Tryd.ntmps4
    go_wp2_with (first | ((with_reducible show bodyPost _ _ _ _ _ _); exact ret_30 rfl rfl (by simp [go_sem]) rfl ⟨by simp [go_sem], (by repeat (first | exact World.grows.refl | apply World.grows.plus | apply World.grows.alloc | apply World.grows.drew))⟩))
  by_cases h2 : k0 = 3
  · subst h2
    rw [show Od.five ⟨3, k1, k2, k3, n, wd, tp, tl, tc, a, b, c, d, bt, bs, b1, b2, b3, b4, on⟩ = ⟨3, k1, k2, k3, n, wd, tp, tl, tc, a, b, c, d, bt, bs, b1, b2, b3, b4, on⟩ from rfl]
    go_enter Tryd.func4, Tryd.ntmps4
    go_wp2_with (first | ((with_reducible show bodyPost _ _ _ _ _ _); exact ret_30 rfl rfl (by simp [go_sem]) rfl ⟨by simp [go_sem], (by repeat (first | exact World.grows.refl | apply World.grows.plus | apply World.grows.alloc | apply World.grows.drew))⟩))
  by_cases h3 : k0 = 13
  · subst h3
    rw [show Od.five ⟨13, k1, k2, k3, n, wd, tp, tl, tc, a, b, c, d, bt, bs, b1, b2, b3, b4, on⟩ = ⟨13, k1, k2, k3, n, wd, tp, tl, tc, a, b, c, d, bt, bs, b1, b2, b3, b4, on⟩ from rfl]
    go_enter Tryd.func4, Tryd.ntmps4
    go_wp2_with (first | ((with_reducible show bodyPost _ _ _ _ _ _); exact ret_30 rfl rfl (by simp [go_sem]) rfl ⟨by simp [go_sem], (by repeat (first | exact World.grows.refl | apply World.grows.plus | apply World.grows.alloc | apply World.grows.drew))⟩))
  by_cases h4 : k0 = 14
  · subst h4
    rw [show Od.five ⟨14, k1, k2, k3, n, wd, tp, tl, tc, a, b, c, d, bt, bs, b1, b2, b3, b4, on⟩ = ⟨14, k1, k2, k3, n, wd, tp, tl, tc, a, b, c, d, bt, bs, b1, b2, b3, b4, on⟩ from rfl]
    go_enter Tryd.func4, Tryd.ntmps4
    go_wp2_with (first | ((with_reducible show bodyPost _ _ _ _ _ _); exact ret_30 rfl rfl (by simp [go_sem]) rfl ⟨by simp [go_sem], (by repeat (first | exact World.grows.refl | apply World.grows.plus | apply World.grows.alloc | apply World.grows.drew))⟩))
  have e1 : (k0 == 2) = false := by simpa using h1
  have e2 : (k0 == 3) = false := by simpa using h2
  have e3 : (k0 == 13) = false := by simpa using h3
  have e4 : (k0 == 14) = false := by simpa using h4
  have E : Od.five ⟨k0, k1, k2, k3, n, wd, tp, tl, tc, a, b, c, d, bt, bs, b1, b2, b3, b4, on⟩ = ⟨4, k1, k2, k3, n, wd, tp, tl, tc, a, b, c, d, bt, bs, b1, b2, b3, b4, on⟩ := by
    unfold Od.five Od.is; simp only [e1, e2, e3, e4, Bool.or_self]; rfl
  rw [E]; clear E h1 h2 h3 h4
  go_enter Tryd.func4, Tryd.ntmps4
  go_wp2_with (first | ((with_reducible show bodyPost _ _ _ _ _ _); exact ret_30 rfl rfl (by simp [go_sem]) rfl ⟨by simp [go_sem], (by repeat (first | exact World.grows.refl | apply World.grows.plus | apply World.grows.alloc | apply World.grows.drew))⟩))

set_option maxRecDepth 100000 in
set_option maxHeartbeats 1000000 in
theorem change_any (e : En) (o : Od) (w : World) (he : e.Wf) (ho : o.Wf) : Calls Tryd.prog 5 #[e.v, o.v] w (Gives w (chgV e o.why (o.res e))) := by
  have hv := fun w => view_any e o.a o.b o.c o.d w he ho.1 ho.2.1 ho.2.2.1 ho.2.2.2
  have hf := fun w => font_any e o.a o.b w he ho.1 ho.2.1
  have hc := fun w => color_any e o.a o.b w he ho.1 ho.2.1
  have hp := fun w => print_any e o.on w he
  have ht := fun w => turn_any e o.n o.wd w he
  obtain ⟨k0, k1, k2, k3, n, wd, tp, tl, tc, a, b, c, d, bt, bs, b1, b2, b3, b4, on⟩ := o
  simp only [Od.res, Od.why]
  clear he ho
  by_cases h1 : k0 = 2
  · subst h1
    clear hf hc hp ht
    simp only [chgV, if_true] at hv ⊢
    generalize chgE e _ = E0 at *
    generalize chgW e _ _ = R0 at *
    obtain ⟨p', w1', w2', h1', h2', f1', f2', c1', c2', s', h', q', m'⟩ := E0
    obtain ⟨p, w1, w2, h1, h2, f1, f2, c1, c2, s, h, q, m⟩ := e
    have HV := Lib.hid hv; clear hv
    go_enter Tryd.func5, Tryd.ntmps5
    go_wp2_with (first | (go_at_call 10; (with_reducible refine (HV.out _).mono ?_); rintro e w1 ⟨rfl, x1, rfl⟩) | ((with_reducible show bodyPost _ _ _ _ _ _); exact rett_25 rfl rfl (by simp [go_sem]) rfl ⟨by simp [go_sem], (by repeat (first | exact World.grows.refl | apply World.grows.plus | apply World.grows.alloc | apply World.grows.drew))⟩))
  rw [if_neg h1, if_neg h1]
  have e1 : (k0 == 2) = false := by simpa using h1
  clear hv h1
  by_cases h1 : k0 = 3
  · subst h1
    clear hc hp ht
    simp only [chgV, if_true] at hf ⊢
    generalize chgE e _ = E0 at *
    generalize chgW e _ _ = R0 at *
    obtain ⟨p', w1', w2', h1', h2', f1', f2', c1', c2', s', h', q', m'⟩ := E0
    obtain ⟨p, w1, w2, h1, h2, f1, f2, c1, c2, s, h, q, m⟩ := e
    have HV := Lib.hid hf; clear hf
    go_enter Tryd.func5, Tryd.ntmps5
    go_wp2_with (first | (go_at_call 11; (with_reducible refine (HV.out _).mono ?_); rintro e w1 ⟨rfl, x1, rfl⟩) | ((with_reducible show bodyPost _ _ _ _ _ _); exact rett_25 rfl rfl (by simp [go_sem]) rfl ⟨by simp [go_sem], (by repeat (first | exact World.grows.refl | apply World.grows.plus | apply World.grows.alloc | apply World.grows.drew))⟩))
  rw [if_neg h1, if_neg h1]
  have e2 : (k0 == 3) = false := by simpa using h1
  clear hf h1
  by_cases h1 : k0 = 13
  · subst h1
    clear hp ht
    simp only [chgV, if_true] at hc ⊢
    generalize chgE e _ = E0 at *
    generalize chgW e _ _ = R0 at *
    obtain ⟨p', w1', w2', h1', h2', f1', f2', c1', c2', s', h', q', m'⟩ := E0
    obtain ⟨p, w1, w2, h1, h2, f1, f2, c1, c2, s, h, q, m⟩ := e
    have HV := Lib.hid hc; clear hc
    go_enter Tryd.func5, Tryd.ntmps5
    go_wp2_with (first | (go_at_call 12; (with_reducible refine (HV.out _).mono ?_); rintro e w1 ⟨rfl, x1, rfl⟩) | ((with_reducible show bodyPost _ _ _ _ _ _); exact rett_25 rfl rfl (by simp [go_sem]) rfl ⟨by simp [go_sem], (by repeat (first | exact World.grows.refl | apply World.grows.plus | apply World.grows.alloc | apply World.grows.drew))⟩))
  rw [if_neg h1, if_neg h1]
  have e3 : (k0 == 13) = false := by simpa using h1
  clear hc h1
  by_cases h1 : k0 = 14
  · subst h1
    clear ht
    simp only [chgV, if_true] at hp ⊢
    generalize chgE e _ = E0 at *
    generalize chgW e _ _ = R0 at *
    obtain ⟨p', w1', w2', h1', h2', f1', f2', c1', c2', s', h', q', m'⟩ := E0
    obtain ⟨p, w1, w2, h1, h2, f1, f2, c1, c2, s, h, q, m⟩ := e
    have HV := Lib.hid hp; clear hp
    go_enter Tryd.func5, Tryd.ntmps5
    go_wp2_with (first | (go_at_call 13; (with_reducible refine (HV.out _).mono ?_); rintro e w1 ⟨rfl, x1, rfl⟩) | ((with_reducible show bodyPost _ _ _ _ _ _); exact rett_25 rfl rfl (by simp [go_sem]) rfl ⟨by simp [go_sem], (by repeat (first | exact World.grows.refl | apply World.grows.plus | apply World.grows.alloc | apply World.grows.drew))⟩))
  rw [if_neg h1, if_neg h1]
  have e4 : (k0 == 14) = false := by simpa using h1
  clear hp h1
  simp only [chgV] at ht ⊢
  generalize chgE e _ = E0 at *
  generalize chgW e _ _ = R0 at *
  obtain ⟨p', w1', w2', h1', h2', f1', f2', c1', c2', s', h', q', m'⟩ := E0
  obtain ⟨p, w1, w2, h1, h2, f1, f2, c1, c2, s, h, q, m⟩ := e
  have HV := Lib.hid ht; clear ht
  go_enter Tryd.func5, Tryd.ntmps5
  go_wp2_with (first | (go_at_call 14; (with_reducible refine (HV.out _).mono ?_); rintro e w1 ⟨rfl, x1, rfl⟩) | ((with_reducible show bodyPost _ _ _ _ _ _); exact rett_25 rfl rfl (by simp [go_sem]) rfl ⟨by simp [go_sem], (by repeat (first | exact World.grows.refl | apply World.grows.plus | apply World.grows.alloc | apply World.grows.drew))⟩))

end Go.Proofs.YtkmpnkgelaaebaaDoor
