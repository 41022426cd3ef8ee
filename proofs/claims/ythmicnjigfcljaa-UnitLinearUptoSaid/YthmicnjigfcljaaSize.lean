/- WALKS over unit and jalousieref12: how great a unit is in a context. No condition but that numbers are of their kinds. -/
import Derived.Test.YthmicnjigfcljaaMn
import Derived.Test.YthmicnjigfcljaaMa
import Derived.Test.YthmicnjigfcljaaMg
import Derived.Test.YthmicnjigfcljaaMm
set_option linter.unusedSimpArgs false
set_option linter.unusedVariables false
namespace Go
open Go.RowKit
/-- a context: two numbers a fraction -/
structure Cx where
  (f r v h c d : Int × Int)
abbrev cxL (c : Cx) : List Value := [.int .i64 c.f.1, .int .i64 c.f.2, .int .i64 c.r.1, .int .i64 c.r.2, .int .i64 c.v.1, .int .i64 c.v.2, .int .i64 c.h.1, .int .i64 c.h.2, .int .i64 c.c.1, .int .i64 c.c.2, .int .i64 c.d.1, .int .i64 c.d.2]
def Cx.bd (c : Cx) : Prop := I64p c.f ∧ I64p c.r ∧ I64p c.v ∧ I64p c.h ∧ I64p c.c ∧ I64p c.d
def hunQ (p : Int × Int) : Int × Int := divQ (cleanQ p) (100, 1)
/-- a unit's size in px -/
def sizeQ (c : Cx) (u : Int) : Int × Int :=
  if u = 1 then (1, 1) else if u = 2 then cleanQ c.f else if u = 3 then cleanQ c.r else if u = 4 then hunQ c.v else if u = 5 then hunQ c.h else if u = 6 then hunQ c.c else if u = 7 then hunQ c.d else (0, 0)
theorem foldQ1 (none : Int × Int) (op : Int × Int → Int × Int → Int × Int) (p : Int × Int) : foldQ none op [p] = cleanQ p := by
  show (if sureP p = true then p else (0, 0)) = _
  unfold cleanQ mayB sureP
  by_cases h : sureB p.1 p.2 = true
  · simp [h]
  · have h' : sureB p.1 p.2 = false := by simpa using h
    rw [h']
    by_cases h0 : p.1 = 0 ∧ p.2 = 0
    · simp [h0.1, h0.2]; exact Prod.ext h0.1.symm h0.2.symm
    · rw [if_neg (by simp), if_neg (by simpa using h0)]
theorem hunQ_mul (p : Int × Int) : foldQ (1, 1) mulQ [p, (1, 100)] = hunQ p := by
  have h100 : sureB 1 100 = true := by decide
  have h1 : sureB 100 1 = true := by decide
  unfold hunQ
  show (if sureP p = true then (if (sureP p && sureP (1, 100)) = true then mulQ p (1, 100) else (0, 0)) else (0, 0)) = _
  unfold cleanQ mayB sureP
  by_cases h : sureB p.1 p.2 = true
  · simp only [h, h100, Bool.and_self, if_true, Bool.or_true]
    unfold mulQ divQ
    simp only [h, h100, h1, Bool.and_self, if_true, ne_eq, decide_true, Bool.true_and]
    rfl
  · have h' : sureB p.1 p.2 = false := by simpa using h
    rw [h']
    by_cases h0 : p.1 = 0 ∧ p.2 = 0
    · simp [h0.1, h0.2, divQ, sureB]
    · have h0' : (decide (p.1 = 0) && decide (p.2 = 0)) = false := by rw [Bool.and_eq_false_iff]; simp only [decide_eq_false_iff_not]; omega
      rw [h0']; simp [divQ, sureB]
theorem sizeQ_bd {c : Cx} (h : c.bd) (u : Int) : I64p (sizeQ c u) := by
  obtain ⟨h1, h2, h3, h4, h5, h6⟩ := h
  have cb : ∀ p, I64p p → I64p (cleanQ p) := fun p h => by unfold cleanQ; split; exact h; simp [I64p, I64]
  unfold sizeQ hunQ
  repeat' split
  all_goals first | exact cb _ ‹_› | exact divQ_bd _ _ | simp [I64p, I64]
end Go
namespace Go.Proofs.Ythmicnjigfcljaa
open Go.RowKit

set_option maxRecDepth 100000 in
set_option maxHeartbeats 4000000 in
theorem refHun_any (p : Int × Int) (w : World) (hp : I64p p) : Calls Try.prog 78 #[ratV p] w (Gives w (ratV (hunQ p))) := by
  have hq := cleanQ_bd hp
  have c1 := fun w => refClean_any p.1 p.2 w hp.1 hp.2
  have c2 := fun w => refDivQ_any (cleanQ p).1 (cleanQ p).2 100 1 w hq.1 hq.2 (by unfold I64; omega) (by unfold I64; omega)
  unfold hunQ
  change ∀ w, Calls _ _ _ w (Gives w (ratV (cleanQ p))) at c1
  change ∀ w, Calls _ _ _ w (Gives w (ratV (divQ (cleanQ p) (100, 1)))) at c2
  generalize cleanQ p = Q at *
  generalize divQ Q (100, 1) = R at *
  obtain ⟨p1, p2⟩ := p
  obtain ⟨q1, q2⟩ := Q
  obtain ⟨R1, R2⟩ := R
  have C1 := Lib.hid c1; have C2 := Lib.hid c2; clear c1 c2 hq hp
  go_enter Try.func78, Try.ntmps78
  go_wp2_with (first | (go_at_call 60; (with_reducible refine (C1.out _).mono ?_); rintro e w1 ⟨rfl, x1, rfl⟩) | (go_at_call 56; (with_reducible refine (refIntL_any _ _).mono ?_); rintro e w1 ⟨rfl, x1, rfl⟩) | (go_at_call 105; (with_reducible refine (C2.out _).mono ?_); rintro e w1 ⟨rfl, x1, rfl⟩) | ((with_reducible show bodyPost _ _ _ _ _ _); exact ret_23 rfl rfl (by simp [go_sem]) rfl ⟨by simp [go_sem], (by repeat (first | exact grA | apply grB | apply grC | apply grD))⟩))

/-- a slice of one -/
theorem rats1 {W : World} {g : Nat} {a b : Int} {t : TypeId} (h : W.row g = some (.cells #[.int .i64 a, .int .i64 b] t)) (h1 : I64p (a, b)) :
    RatsAt W (.slice (some ⟨g, 0, none⟩) 1 1) [(a, b)] := by
  refine ⟨_, 1, rfl, by simp, by omega, fun p hp => ?_, .inr ⟨g, 0, rfl, fun i p hi => ?_⟩⟩
  · simp at hp; subst hp; assumption
  · unfold eltAt
    rw [h]
    match i with
    | 0 => simp at hi; subst hi; exact ⟨rfl, rfl⟩
    | i + 1 => simp at hi

set_option maxRecDepth 100000 in
set_option maxHeartbeats 4000000 in
theorem refSize_1 (c : Cx) (w : World) (hcb : c.bd) : Calls Try.prog 46 #[.int .i64 1, .agg (cxL c).toArray] w (Gives w (ratV (sizeQ c 1))) := by
  show Calls _ _ _ w (Gives w (ratV (1, 1)))
  obtain ⟨⟨f1, f2⟩, ⟨r1, r2⟩, ⟨v1, v2⟩, ⟨h1, h2⟩, ⟨cc1, cc2⟩, ⟨d1, d2⟩⟩ := c
  change Calls Try.prog 46 #[_, .agg #[.int .i64 f1, .int .i64 f2, .int .i64 r1, .int .i64 r2, .int .i64 v1, .int .i64 v2, .int .i64 h1, .int .i64 h2, .int .i64 cc1, .int .i64 cc2, .int .i64 d1, .int .i64 d2]] w _
  clear hcb
  go_enter Try.func46, Try.ntmps46
  go_wp2_with (first | (go_at_call 56; (with_reducible refine (refIntL_any _ _).mono ?_); rintro e w1 ⟨rfl, x1, rfl⟩) | ((with_reducible show bodyPost _ _ _ _ _ _); exact ret_23 rfl rfl (by simp [go_sem]) rfl ⟨by simp [go_sem], (by repeat (first | exact grA | apply grB | apply grC | apply grD))⟩))

set_option maxRecDepth 100000 in
set_option maxHeartbeats 4000000 in
theorem refSize_2 (c : Cx) (w : World) (hcb : c.bd) : Calls Try.prog 46 #[.int .i64 2, .agg (cxL c).toArray] w (Gives w (ratV (sizeQ c 2))) := by
  show Calls _ _ _ w (Gives w (ratV (cleanQ c.f)))
  have hb : I64p c.f := hcb.1
  have c1 := fun W => refClean_any c.f.1 c.f.2 W hb.1 hb.2
  change ∀ W, Calls _ _ _ W (Gives W (ratV (cleanQ c.f))) at c1
  generalize cleanQ c.f = R at *
  obtain ⟨R1, R2⟩ := R
  obtain ⟨⟨f1, f2⟩, ⟨r1, r2⟩, ⟨v1, v2⟩, ⟨h1, h2⟩, ⟨cc1, cc2⟩, ⟨d1, d2⟩⟩ := c
  change Calls Try.prog 46 #[_, .agg #[.int .i64 f1, .int .i64 f2, .int .i64 r1, .int .i64 r2, .int .i64 v1, .int .i64 v2, .int .i64 h1, .int .i64 h2, .int .i64 cc1, .int .i64 cc2, .int .i64 d1, .int .i64 d2]] w _
  change ∀ W, Calls Try.prog _ #[.agg #[.int .i64 f1, .int .i64 f2]] W _ at c1
  have C1 := Lib.hid c1; clear c1 hcb hb
  go_enter Try.func46, Try.ntmps46
  go_wp2_with (first | (go_at_call 60; (with_reducible refine (C1.out _).mono ?_); rintro e w1 ⟨rfl, x1, rfl⟩) | ((with_reducible show bodyPost _ _ _ _ _ _); exact ret_23 rfl rfl (by simp [go_sem]) rfl ⟨by simp [go_sem], (by repeat (first | exact grA | apply grB | apply grC | apply grD))⟩))

set_option maxRecDepth 100000 in
set_option maxHeartbeats 4000000 in
theorem refSize_3 (c : Cx) (w : World) (hcb : c.bd) : Calls Try.prog 46 #[.int .i64 3, .agg (cxL c).toArray] w (Gives w (ratV (sizeQ c 3))) := by
  show Calls _ _ _ w (Gives w (ratV (cleanQ c.r)))
  have hb : I64p c.r := hcb.2.1
  have c1 := fun W => refClean_any c.r.1 c.r.2 W hb.1 hb.2
  change ∀ W, Calls _ _ _ W (Gives W (ratV (cleanQ c.r))) at c1
  generalize cleanQ c.r = R at *
  obtain ⟨R1, R2⟩ := R
  obtain ⟨⟨f1, f2⟩, ⟨r1, r2⟩, ⟨v1, v2⟩, ⟨h1, h2⟩, ⟨cc1, cc2⟩, ⟨d1, d2⟩⟩ := c
  change Calls Try.prog 46 #[_, .agg #[.int .i64 f1, .int .i64 f2, .int .i64 r1, .int .i64 r2, .int .i64 v1, .int .i64 v2, .int .i64 h1, .int .i64 h2, .int .i64 cc1, .int .i64 cc2, .int .i64 d1, .int .i64 d2]] w _
  change ∀ W, Calls Try.prog _ #[.agg #[.int .i64 r1, .int .i64 r2]] W _ at c1
  have C1 := Lib.hid c1; clear c1 hcb hb
  go_enter Try.func46, Try.ntmps46
  go_wp2_with (first | (go_at_call 60; (with_reducible refine (C1.out _).mono ?_); rintro e w1 ⟨rfl, x1, rfl⟩) | ((with_reducible show bodyPost _ _ _ _ _ _); exact ret_23 rfl rfl (by simp [go_sem]) rfl ⟨by simp [go_sem], (by repeat (first | exact grA | apply grB | apply grC | apply grD))⟩))

set_option maxRecDepth 100000 in
set_option maxHeartbeats 4000000 in
theorem refSize_4 (c : Cx) (w : World) (hcb : c.bd) : Calls Try.prog 46 #[.int .i64 4, .agg (cxL c).toArray] w (Gives w (ratV (sizeQ c 4))) := by
  show Calls _ _ _ w (Gives w (ratV (hunQ c.v)))
  have hb : I64p c.v := hcb.2.2.1
  have c1 := fun W => refHun_any c.v W hb
  generalize hunQ c.v = R at *
  obtain ⟨R1, R2⟩ := R
  obtain ⟨⟨f1, f2⟩, ⟨r1, r2⟩, ⟨v1, v2⟩, ⟨h1, h2⟩, ⟨cc1, cc2⟩, ⟨d1, d2⟩⟩ := c
  change Calls Try.prog 46 #[_, .agg #[.int .i64 f1, .int .i64 f2, .int .i64 r1, .int .i64 r2, .int .i64 v1, .int .i64 v2, .int .i64 h1, .int .i64 h2, .int .i64 cc1, .int .i64 cc2, .int .i64 d1, .int .i64 d2]] w _
  change ∀ W, Calls Try.prog _ #[.agg #[.int .i64 v1, .int .i64 v2]] W _ at c1
  have C1 := Lib.hid c1; clear c1 hcb hb
  go_enter Try.func46, Try.ntmps46
  go_wp2_with (first | (go_at_call 78; (with_reducible refine (C1.out _).mono ?_); rintro e w1 ⟨rfl, x1, rfl⟩) | ((with_reducible show bodyPost _ _ _ _ _ _); exact ret_23 rfl rfl (by simp [go_sem]) rfl ⟨by simp [go_sem], (by repeat (first | exact grA | apply grB | apply grC | apply grD))⟩))

set_option maxRecDepth 100000 in
set_option maxHeartbeats 4000000 in
theorem refSize_5 (c : Cx) (w : World) (hcb : c.bd) : Calls Try.prog 46 #[.int .i64 5, .agg (cxL c).toArray] w (Gives w (ratV (sizeQ c 5))) := by
  show Calls _ _ _ w (Gives w (ratV (hunQ c.h)))
  have hb : I64p c.h := hcb.2.2.2.1
  have c1 := fun W => refHun_any c.h W hb
  generalize hunQ c.h = R at *
  obtain ⟨R1, R2⟩ := R
  obtain ⟨⟨f1, f2⟩, ⟨r1, r2⟩, ⟨v1, v2⟩, ⟨h1, h2⟩, ⟨cc1, cc2⟩, ⟨d1, d2⟩⟩ := c
  change Calls Try.prog 46 #[_, .agg #[.int .i64 f1, .int .i64 f2, .int .i64 r1, .int .i64 r2, .int .i64 v1, .int .i64 v2, .int .i64 h1, .int .i64 h2, .int .i64 cc1, .int .i64 cc2, .int .i64 d1, .int .i64 d2]] w _
  change ∀ W, Calls Try.prog _ #[.agg #[.int .i64 h1, .int .i64 h2]] W _ at c1
  have C1 := Lib.hid c1; clear c1 hcb hb
  go_enter Try.func46, Try.ntmps46
  go_wp2_with (first | (go_at_call 78; (with_reducible refine (C1.out _).mono ?_); rintro e w1 ⟨rfl, x1, rfl⟩) | ((with_reducible show bodyPost _ _ _ _ _ _); exact ret_23 rfl rfl (by simp [go_sem]) rfl ⟨by simp [go_sem], (by repeat (first | exact grA | apply grB | apply grC | apply grD))⟩))

set_option maxRecDepth 100000 in
set_option maxHeartbeats 4000000 in
theorem refSize_6 (c : Cx) (w : World) (hcb : c.bd) : Calls Try.prog 46 #[.int .i64 6, .agg (cxL c).toArray] w (Gives w (ratV (sizeQ c 6))) := by
  show Calls _ _ _ w (Gives w (ratV (hunQ c.c)))
  have hb : I64p c.c := hcb.2.2.2.2.1
  have c1 := fun W => refHun_any c.c W hb
  generalize hunQ c.c = R at *
  obtain ⟨R1, R2⟩ := R
  obtain ⟨⟨f1, f2⟩, ⟨r1, r2⟩, ⟨v1, v2⟩, ⟨h1, h2⟩, ⟨cc1, cc2⟩, ⟨d1, d2⟩⟩ := c
  change Calls Try.prog 46 #[_, .agg #[.int .i64 f1, .int .i64 f2, .int .i64 r1, .int .i64 r2, .int .i64 v1, .int .i64 v2, .int .i64 h1, .int .i64 h2, .int .i64 cc1, .int .i64 cc2, .int .i64 d1, .int .i64 d2]] w _
  change ∀ W, Calls Try.prog _ #[.agg #[.int .i64 cc1, .int .i64 cc2]] W _ at c1
  have C1 := Lib.hid c1; clear c1 hcb hb
  go_enter Try.func46, Try.ntmps46
  go_wp2_with (first | (go_at_call 78; (with_reducible refine (C1.out _).mono ?_); rintro e w1 ⟨rfl, x1, rfl⟩) | ((with_reducible show bodyPost _ _ _ _ _ _); exact ret_23 rfl rfl (by simp [go_sem]) rfl ⟨by simp [go_sem], (by repeat (first | exact grA | apply grB | apply grC | apply grD))⟩))

set_option maxRecDepth 100000 in
set_option maxHeartbeats 4000000 in
theorem refSize_7 (c : Cx) (w : World) (hcb : c.bd) : Calls Try.prog 46 #[.int .i64 7, .agg (cxL c).toArray] w (Gives w (ratV (sizeQ c 7))) := by
  show Calls _ _ _ w (Gives w (ratV (hunQ c.d)))
  have hb : I64p c.d := hcb.2.2.2.2.2
  have c1 := fun W => refHun_any c.d W hb
  generalize hunQ c.d = R at *
  obtain ⟨R1, R2⟩ := R
  obtain ⟨⟨f1, f2⟩, ⟨r1, r2⟩, ⟨v1, v2⟩, ⟨h1, h2⟩, ⟨cc1, cc2⟩, ⟨d1, d2⟩⟩ := c
  change Calls Try.prog 46 #[_, .agg #[.int .i64 f1, .int .i64 f2, .int .i64 r1, .int .i64 r2, .int .i64 v1, .int .i64 v2, .int .i64 h1, .int .i64 h2, .int .i64 cc1, .int .i64 cc2, .int .i64 d1, .int .i64 d2]] w _
  change ∀ W, Calls Try.prog _ #[.agg #[.int .i64 d1, .int .i64 d2]] W _ at c1
  have C1 := Lib.hid c1; clear c1 hcb hb
  go_enter Try.func46, Try.ntmps46
  go_wp2_with (first | (go_at_call 78; (with_reducible refine (C1.out _).mono ?_); rintro e w1 ⟨rfl, x1, rfl⟩) | ((with_reducible show bodyPost _ _ _ _ _ _); exact ret_23 rfl rfl (by simp [go_sem]) rfl ⟨by simp [go_sem], (by repeat (first | exact grA | apply grB | apply grC | apply grD))⟩))

set_option maxRecDepth 100000 in
set_option maxHeartbeats 4000000 in
theorem refSize_x (c : Cx) (u : Int) (w : World) (h : u < 1 ∨ 7 < u) (wu : I64 u) : Calls Try.prog 46 #[.int .i64 u, .agg (cxL c).toArray] w (Gives w (ratV (sizeQ c u))) := by
  have e : sizeQ c u = (0, 0) := by unfold sizeQ; iterate 7 rw [if_neg (by omega)]
  rw [e]
  have g1 : (u == 1) = false := by rw [beq_eq_false_iff_ne]; omega
  have g2 : (u == 2) = false := by rw [beq_eq_false_iff_ne]; omega
  have g3 : (u == 3) = false := by rw [beq_eq_false_iff_ne]; omega
  have g4 : (u == 4) = false := by rw [beq_eq_false_iff_ne]; omega
  have g5 : (u == 5) = false := by rw [beq_eq_false_iff_ne]; omega
  have g6 : (u == 6) = false := by rw [beq_eq_false_iff_ne]; omega
  have g7 : (u == 7) = false := by rw [beq_eq_false_iff_ne]; omega
  obtain ⟨⟨f1, f2⟩, ⟨r1, r2⟩, ⟨v1, v2⟩, ⟨h1, h2⟩, ⟨cc1, cc2⟩, ⟨d1, d2⟩⟩ := c
  change Calls Try.prog 46 #[_, .agg #[.int .i64 f1, .int .i64 f2, .int .i64 r1, .int .i64 r2, .int .i64 v1, .int .i64 v2, .int .i64 h1, .int .i64 h2, .int .i64 cc1, .int .i64 cc2, .int .i64 d1, .int .i64 d2]] w _
  clear e
  rcases h with h | h
  · go_enter Try.func46, Try.ntmps46
    go_wp2_with (first | (go_at_call 79; (with_reducible refine (refOver_any _).mono ?_); rintro e w1 ⟨rfl, x1, rfl⟩) | ((with_reducible show bodyPost _ _ _ _ _ _); exact ret_23 rfl rfl (by simp [go_sem]) rfl ⟨by simp [go_sem], (by repeat (first | exact grA | apply grB | apply grC | apply grD))⟩))
    all_goals (exfalso; omega)
  · go_enter Try.func46, Try.ntmps46
    go_wp2_with (first | (go_at_call 79; (with_reducible refine (refOver_any _).mono ?_); rintro e w1 ⟨rfl, x1, rfl⟩) | ((with_reducible show bodyPost _ _ _ _ _ _); exact ret_23 rfl rfl (by simp [go_sem]) rfl ⟨by simp [go_sem], (by repeat (first | exact grA | apply grB | apply grC | apply grD))⟩))
    all_goals (exfalso; omega)

theorem refSize_any (c : Cx) (u : Int) (w : World) (hcb : c.bd) (wu : I64 u) : Calls Try.prog 46 #[.int .i64 u, .agg (cxL c).toArray] w (Gives w (ratV (sizeQ c u))) := by
  by_cases hx : u < 1 ∨ 7 < u
  · exact refSize_x c u w hx wu
  have hu : u = 1 ∨ u = 2 ∨ u = 3 ∨ u = 4 ∨ u = 5 ∨ u = 6 ∨ u = 7 := by omega
  rcases hu with rfl | rfl | rfl | rfl | rfl | rfl | rfl
  · exact refSize_1 c w hcb
  · exact refSize_2 c w hcb
  · exact refSize_3 c w hcb
  · exact refSize_4 c w hcb
  · exact refSize_5 c w hcb
  · exact refSize_6 c w hcb
  · exact refSize_7 c w hcb

set_option maxRecDepth 100000 in
set_option maxHeartbeats 4000000 in
theorem unitSize_1 (c : Cx) (w : World) (hcb : c.bd) : Calls Try.prog 45 #[.int .i64 1, .agg (cxL c).toArray] w (Gives w (ratV (sizeQ c 1))) := by
  show Calls _ _ _ w (Gives w (ratV (1, 1)))
  obtain ⟨⟨f1, f2⟩, ⟨r1, r2⟩, ⟨v1, v2⟩, ⟨h1, h2⟩, ⟨cc1, cc2⟩, ⟨d1, d2⟩⟩ := c
  change Calls Try.prog 45 #[_, .agg #[.int .i64 f1, .int .i64 f2, .int .i64 r1, .int .i64 r2, .int .i64 v1, .int .i64 v2, .int .i64 h1, .int .i64 h2, .int .i64 cc1, .int .i64 cc2, .int .i64 d1, .int .i64 d2]] w _
  clear hcb
  go_enter Try.func45, Try.ntmps45
  go_wp2_with (first | ((with_reducible show bodyPost _ _ _ _ _ _); exact ret_23 rfl rfl (by simp [go_sem]) rfl ⟨by simp [go_sem], (by repeat (first | exact grA | apply grB | apply grC | apply grD))⟩))

set_option maxRecDepth 100000 in
set_option maxHeartbeats 4000000 in
theorem unitSize_2 (c : Cx) (w : World) (hcb : c.bd) : Calls Try.prog 45 #[.int .i64 2, .agg (cxL c).toArray] w (Gives w (ratV (sizeQ c 2))) := by
  show Calls _ _ _ w (Gives w (ratV (cleanQ c.f)))
  have hb : I64p c.f := hcb.1
  have c1 : ∀ W G, W.row G = some (.cells #[.int .i64 c.f.1, .int .i64 c.f.2] 23) → Calls Try.prog 76 #[.slice (some ⟨G, 0, none⟩) 1 1] W (Gives W (ratV (cleanQ c.f))) :=
    fun W G h => foldQ1 (0, 1) addQ c.f ▸ ratAdd_any _ _ W (rats1 h hb)
  generalize cleanQ c.f = R at *
  obtain ⟨R1, R2⟩ := R
  obtain ⟨⟨f1, f2⟩, ⟨r1, r2⟩, ⟨v1, v2⟩, ⟨h1, h2⟩, ⟨cc1, cc2⟩, ⟨d1, d2⟩⟩ := c
  change Calls Try.prog 45 #[_, .agg #[.int .i64 f1, .int .i64 f2, .int .i64 r1, .int .i64 r2, .int .i64 v1, .int .i64 v2, .int .i64 h1, .int .i64 h2, .int .i64 cc1, .int .i64 cc2, .int .i64 d1, .int .i64 d2]] w _
  dsimp only at c1
  have C1 := Lib.hid c1; clear c1 hcb hb
  go_enter Try.func45, Try.ntmps45
  go_wp2_with (first | (go_at_call 76; (with_reducible refine (C1.out _ _ ?_).mono ?_); (simp [go_sem]); rintro e w1 ⟨rfl, x1, rfl⟩) | ((with_reducible show bodyPost _ _ _ _ _ _); exact ret_23 rfl rfl (by simp [go_sem]) rfl ⟨by simp [go_sem], (by repeat (first | exact grA | apply grB | apply grC | apply grD))⟩))

set_option maxRecDepth 100000 in
set_option maxHeartbeats 4000000 in
theorem unitSize_3 (c : Cx) (w : World) (hcb : c.bd) : Calls Try.prog 45 #[.int .i64 3, .agg (cxL c).toArray] w (Gives w (ratV (sizeQ c 3))) := by
  show Calls _ _ _ w (Gives w (ratV (cleanQ c.r)))
  have hb : I64p c.r := hcb.2.1
  have c1 : ∀ W G, W.row G = some (.cells #[.int .i64 c.r.1, .int .i64 c.r.2] 23) → Calls Try.prog 76 #[.slice (some ⟨G, 0, none⟩) 1 1] W (Gives W (ratV (cleanQ c.r))) :=
    fun W G h => foldQ1 (0, 1) addQ c.r ▸ ratAdd_any _ _ W (rats1 h hb)
  generalize cleanQ c.r = R at *
  obtain ⟨R1, R2⟩ := R
  obtain ⟨⟨f1, f2⟩, ⟨r1, r2⟩, ⟨v1, v2⟩, ⟨h1, h2⟩, ⟨cc1, cc2⟩, ⟨d1, d2⟩⟩ := c
  change Calls Try.prog 45 #[_, .agg #[.int .i64 f1, .int .i64 f2, .int .i64 r1, .int .i64 r2, .int .i64 v1, .int .i64 v2, .int .i64 h1, .int .i64 h2, .int .i64 cc1, .int .i64 cc2, .int .i64 d1, .int .i64 d2]] w _
  dsimp only at c1
  have C1 := Lib.hid c1; clear c1 hcb hb
  go_enter Try.func45, Try.ntmps45
  go_wp2_with (first | (go_at_call 76; (with_reducible refine (C1.out _ _ ?_).mono ?_); (simp [go_sem]); rintro e w1 ⟨rfl, x1, rfl⟩) | ((with_reducible show bodyPost _ _ _ _ _ _); exact ret_23 rfl rfl (by simp [go_sem]) rfl ⟨by simp [go_sem], (by repeat (first | exact grA | apply grB | apply grC | apply grD))⟩))

set_option maxRecDepth 100000 in
set_option maxHeartbeats 4000000 in
theorem unitSize_4 (c : Cx) (w : World) (hcb : c.bd) : Calls Try.prog 45 #[.int .i64 4, .agg (cxL c).toArray] w (Gives w (ratV (sizeQ c 4))) := by
  show Calls _ _ _ w (Gives w (ratV (hunQ c.v)))
  have hb : I64p c.v := hcb.2.2.1
  have c1 : ∀ W G, W.row G = some (.cells #[.int .i64 c.v.1, .int .i64 c.v.2, .int .i64 1, .int .i64 100] 23) → Calls Try.prog 77 #[.slice (some ⟨G, 0, none⟩) 2 2] W (Gives W (ratV (hunQ c.v))) :=
    fun W G h => hunQ_mul c.v ▸ ratMul_any _ _ W (rats2 h hb ⟨by unfold I64; omega, by unfold I64; omega⟩)
  generalize hunQ c.v = R at *
  obtain ⟨R1, R2⟩ := R
  obtain ⟨⟨f1, f2⟩, ⟨r1, r2⟩, ⟨v1, v2⟩, ⟨h1, h2⟩, ⟨cc1, cc2⟩, ⟨d1, d2⟩⟩ := c
  change Calls Try.prog 45 #[_, .agg #[.int .i64 f1, .int .i64 f2, .int .i64 r1, .int .i64 r2, .int .i64 v1, .int .i64 v2, .int .i64 h1, .int .i64 h2, .int .i64 cc1, .int .i64 cc2, .int .i64 d1, .int .i64 d2]] w _
  dsimp only at c1
  have C1 := Lib.hid c1; clear c1 hcb hb
  go_enter Try.func45, Try.ntmps45
  go_wp2_with fail
  refine wp_region_plus_tail 5 (by kernel_rfl) (by kernel_rfl) ?_
  simp only [List.take_succ_cons, List.take_zero, List.drop_succ_cons, List.drop_zero]
  repeat (go_big_quiet_step (fail))
  refine wpQuiet_nil ?_; intro _ hw'; obtain ⟨xq, hw''⟩ := hw'; subst hw''
  go_wp2_with (first | (go_at_call 77; (with_reducible refine (C1.out _ _ ?_).mono ?_); (simp [go_sem]); rintro e w1 ⟨rfl, x1, rfl⟩) | ((with_reducible show bodyPost _ _ _ _ _ _); exact ret_23 rfl rfl (by simp [go_sem]) rfl ⟨by simp [go_sem], (by repeat (first | exact grA | apply grB | apply grC | apply grD))⟩))

set_option maxRecDepth 100000 in
set_option maxHeartbeats 4000000 in
theorem unitSize_5 (c : Cx) (w : World) (hcb : c.bd) : Calls Try.prog 45 #[.int .i64 5, .agg (cxL c).toArray] w (Gives w (ratV (sizeQ c 5))) := by
  show Calls _ _ _ w (Gives w (ratV (hunQ c.h)))
  have hb : I64p c.h := hcb.2.2.2.1
  have c1 : ∀ W G, W.row G = some (.cells #[.int .i64 c.h.1, .int .i64 c.h.2, .int .i64 1, .int .i64 100] 23) → Calls Try.prog 77 #[.slice (some ⟨G, 0, none⟩) 2 2] W (Gives W (ratV (hunQ c.h))) :=
    fun W G h => hunQ_mul c.h ▸ ratMul_any _ _ W (rats2 h hb ⟨by unfold I64; omega, by unfold I64; omega⟩)
  generalize hunQ c.h = R at *
  obtain ⟨R1, R2⟩ := R
  obtain ⟨⟨f1, f2⟩, ⟨r1, r2⟩, ⟨v1, v2⟩, ⟨h1, h2⟩, ⟨cc1, cc2⟩, ⟨d1, d2⟩⟩ := c
  change Calls Try.prog 45 #[_, .agg #[.int .i64 f1, .int .i64 f2, .int .i64 r1, .int .i64 r2, .int .i64 v1, .int .i64 v2, .int .i64 h1, .int .i64 h2, .int .i64 cc1, .int .i64 cc2, .int .i64 d1, .int .i64 d2]] w _
  dsimp only at c1
  have C1 := Lib.hid c1; clear c1 hcb hb
  go_enter Try.func45, Try.ntmps45
  go_wp2_with fail
  refine wp_region_plus_tail 5 (by kernel_rfl) (by kernel_rfl) ?_
  simp only [List.take_succ_cons, List.take_zero, List.drop_succ_cons, List.drop_zero]
  repeat (go_big_quiet_step (fail))
  refine wpQuiet_nil ?_; intro _ hw'; obtain ⟨xq, hw''⟩ := hw'; subst hw''
  go_wp2_with (first | (go_at_call 77; (with_reducible refine (C1.out _ _ ?_).mono ?_); (simp [go_sem]); rintro e w1 ⟨rfl, x1, rfl⟩) | ((with_reducible show bodyPost _ _ _ _ _ _); exact ret_23 rfl rfl (by simp [go_sem]) rfl ⟨by simp [go_sem], (by repeat (first | exact grA | apply grB | apply grC | apply grD))⟩))

set_option maxRecDepth 100000 in
set_option maxHeartbeats 4000000 in
theorem unitSize_6 (c : Cx) (w : World) (hcb : c.bd) : Calls Try.prog 45 #[.int .i64 6, .agg (cxL c).toArray] w (Gives w (ratV (sizeQ c 6))) := by
  show Calls _ _ _ w (Gives w (ratV (hunQ c.c)))
  have hb : I64p c.c := hcb.2.2.2.2.1
  have c1 : ∀ W G, W.row G = some (.cells #[.int .i64 c.c.1, .int .i64 c.c.2, .int .i64 1, .int .i64 100] 23) → Calls Try.prog 77 #[.slice (some ⟨G, 0, none⟩) 2 2] W (Gives W (ratV (hunQ c.c))) :=
    fun W G h => hunQ_mul c.c ▸ ratMul_any _ _ W (rats2 h hb ⟨by unfold I64; omega, by unfold I64; omega⟩)
  generalize hunQ c.c = R at *
  obtain ⟨R1, R2⟩ := R
  obtain ⟨⟨f1, f2⟩, ⟨r1, r2⟩, ⟨v1, v2⟩, ⟨h1, h2⟩, ⟨cc1, cc2⟩, ⟨d1, d2⟩⟩ := c
  change Calls Try.prog 45 #[_, .agg #[.int .i64 f1, .int .i64 f2, .int .i64 r1, .int .i64 r2, .int .i64 v1, .int .i64 v2, .int .i64 h1, .int .i64 h2, .int .i64 cc1, .int .i64 cc2, .int .i64 d1, .int .i64 d2]] w _
  dsimp only at c1
  have C1 := Lib.hid c1; clear c1 hcb hb
  go_enter Try.func45, Try.ntmps45
  go_wp2_with fail
  refine wp_region_plus_tail 5 (by kernel_rfl) (by kernel_rfl) ?_
  simp only [List.take_succ_cons, List.take_zero, List.drop_succ_cons, List.drop_zero]
  repeat (go_big_quiet_step (fail))
  refine wpQuiet_nil ?_; intro _ hw'; obtain ⟨xq, hw''⟩ := hw'; subst hw''
  go_wp2_with (first | (go_at_call 77; (with_reducible refine (C1.out _ _ ?_).mono ?_); (simp [go_sem]); rintro e w1 ⟨rfl, x1, rfl⟩) | ((with_reducible show bodyPost _ _ _ _ _ _); exact ret_23 rfl rfl (by simp [go_sem]) rfl ⟨by simp [go_sem], (by repeat (first | exact grA | apply grB | apply grC | apply grD))⟩))

set_option maxRecDepth 100000 in
set_option maxHeartbeats 4000000 in
theorem unitSize_7 (c : Cx) (w : World) (hcb : c.bd) : Calls Try.prog 45 #[.int .i64 7, .agg (cxL c).toArray] w (Gives w (ratV (sizeQ c 7))) := by
  show Calls _ _ _ w (Gives w (ratV (hunQ c.d)))
  have hb : I64p c.d := hcb.2.2.2.2.2
  have c1 : ∀ W G, W.row G = some (.cells #[.int .i64 c.d.1, .int .i64 c.d.2, .int .i64 1, .int .i64 100] 23) → Calls Try.prog 77 #[.slice (some ⟨G, 0, none⟩) 2 2] W (Gives W (ratV (hunQ c.d))) :=
    fun W G h => hunQ_mul c.d ▸ ratMul_any _ _ W (rats2 h hb ⟨by unfold I64; omega, by unfold I64; omega⟩)
  generalize hunQ c.d = R at *
  obtain ⟨R1, R2⟩ := R
  obtain ⟨⟨f1, f2⟩, ⟨r1, r2⟩, ⟨v1, v2⟩, ⟨h1, h2⟩, ⟨cc1, cc2⟩, ⟨d1, d2⟩⟩ := c
  change Calls Try.prog 45 #[_, .agg #[.int .i64 f1, .int .i64 f2, .int .i64 r1, .int .i64 r2, .int .i64 v1, .int .i64 v2, .int .i64 h1, .int .i64 h2, .int .i64 cc1, .int .i64 cc2, .int .i64 d1, .int .i64 d2]] w _
  dsimp only at c1
  have C1 := Lib.hid c1; clear c1 hcb hb
  go_enter Try.func45, Try.ntmps45
  go_wp2_with fail
  refine wp_region_plus_tail 5 (by kernel_rfl) (by kernel_rfl) ?_
  simp only [List.take_succ_cons, List.take_zero, List.drop_succ_cons, List.drop_zero]
  repeat (go_big_quiet_step (fail))
  refine wpQuiet_nil ?_; intro _ hw'; obtain ⟨xq, hw''⟩ := hw'; subst hw''
  go_wp2_with (first | (go_at_call 77; (with_reducible refine (C1.out _ _ ?_).mono ?_); (simp [go_sem]); rintro e w1 ⟨rfl, x1, rfl⟩) | ((with_reducible show bodyPost _ _ _ _ _ _); exact ret_23 rfl rfl (by simp [go_sem]) rfl ⟨by simp [go_sem], (by repeat (first | exact grA | apply grB | apply grC | apply grD))⟩))

set_option maxRecDepth 100000 in
set_option maxHeartbeats 4000000 in
theorem unitSize_x (c : Cx) (u : Int) (w : World) (h : u < 1 ∨ 7 < u) (wu : I64 u) : Calls Try.prog 45 #[.int .i64 u, .agg (cxL c).toArray] w (Gives w (ratV (sizeQ c u))) := by
  have e : sizeQ c u = (0, 0) := by unfold sizeQ; iterate 7 rw [if_neg (by omega)]
  rw [e]
  have g1 : (u == 1) = false := by rw [beq_eq_false_iff_ne]; omega
  have g2 : (u == 2) = false := by rw [beq_eq_false_iff_ne]; omega
  have g3 : (u == 3) = false := by rw [beq_eq_false_iff_ne]; omega
  have g4 : (u == 4) = false := by rw [beq_eq_false_iff_ne]; omega
  have g5 : (u == 5) = false := by rw [beq_eq_false_iff_ne]; omega
  have g6 : (u == 6) = false := by rw [beq_eq_false_iff_ne]; omega
  have g7 : (u == 7) = false := by rw [beq_eq_false_iff_ne]; omega
  obtain ⟨⟨f1, f2⟩, ⟨r1, r2⟩, ⟨v1, v2⟩, ⟨h1, h2⟩, ⟨cc1, cc2⟩, ⟨d1, d2⟩⟩ := c
  change Calls Try.prog 45 #[_, .agg #[.int .i64 f1, .int .i64 f2, .int .i64 r1, .int .i64 r2, .int .i64 v1, .int .i64 v2, .int .i64 h1, .int .i64 h2, .int .i64 cc1, .int .i64 cc2, .int .i64 d1, .int .i64 d2]] w _
  clear e
  rcases h with h | h
  · go_enter Try.func45, Try.ntmps45
    go_wp2_with (first | (go_at_call 79; (with_reducible refine (refOver_any _).mono ?_); rintro e w1 ⟨rfl, x1, rfl⟩) | ((with_reducible show bodyPost _ _ _ _ _ _); exact ret_23 rfl rfl (by simp [go_sem]) rfl ⟨by simp [go_sem], (by repeat (first | exact grA | apply grB | apply grC | apply grD))⟩))
    all_goals (exfalso; omega)
  · go_enter Try.func45, Try.ntmps45
    go_wp2_with (first | (go_at_call 79; (with_reducible refine (refOver_any _).mono ?_); rintro e w1 ⟨rfl, x1, rfl⟩) | ((with_reducible show bodyPost _ _ _ _ _ _); exact ret_23 rfl rfl (by simp [go_sem]) rfl ⟨by simp [go_sem], (by repeat (first | exact grA | apply grB | apply grC | apply grD))⟩))
    all_goals (exfalso; omega)

theorem unitSize_any (c : Cx) (u : Int) (w : World) (hcb : c.bd) (wu : I64 u) : Calls Try.prog 45 #[.int .i64 u, .agg (cxL c).toArray] w (Gives w (ratV (sizeQ c u))) := by
  by_cases hx : u < 1 ∨ 7 < u
  · exact unitSize_x c u w hx wu
  have hu : u = 1 ∨ u = 2 ∨ u = 3 ∨ u = 4 ∨ u = 5 ∨ u = 6 ∨ u = 7 := by omega
  rcases hu with rfl | rfl | rfl | rfl | rfl | rfl | rfl
  · exact unitSize_1 c w hcb
  · exact unitSize_2 c w hcb
  · exact unitSize_3 c w hcb
  · exact unitSize_4 c w hcb
  · exact unitSize_5 c w hcb
  · exact unitSize_6 c w hcb
  · exact unitSize_7 c w hcb

end Go.Proofs.Ythmicnjigfcljaa
