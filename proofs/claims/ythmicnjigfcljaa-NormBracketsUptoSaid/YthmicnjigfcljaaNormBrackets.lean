/- For any three expressions whose values are no more than 1048576 in number the statement NormBrackets answers true: plain sums have one form, whichever of their parts are added first, where nothing is over. -/
import Derived.Test.YthmicnjigfcljaaRows
import Derived.Test.YthmicnjigfcljaaFit
import Derived.Test.YthmicnjigfcljaaSame
import Derived.Test.YthmicnjigfcljaaMp
import Derived.Test.YthmicnjigfcljaaOpenX
import Derived.Test.YthmicnjigfcljaaMi
import Derived.JoinedCond
set_option linter.unusedSimpArgs false
set_option linter.unusedVariables false
namespace Go.Proofs.Ythmicnjigfcljaa
open Go.ChangeShapes Go.WideShapes Go.ChangeAt Go.RowKit

set_option maxRecDepth 100000 in
set_option maxHeartbeats 8000000 in
theorem overPlain_any (us : List (Int × Int)) (h7 : us.length = 7) (a0 : Option Addr) (c0 : Nat) (w : World) : Calls Try.prog 25 #[.agg (formC us (.slice a0 0 c0)).toArray] w (Gives w (.bool (us.any fun p => p.2 == 0))) := by
  generalize hR : us.any (fun p => p.2 == 0) = R
  have HR := Lib.hid hR
  clear hR
  go_enter Try.func25, Try.ntmps25
  go_wp2_with fail
  go_loopg [11] 7 (fun gn v11 wj => ∃ (i : Nat), Hid (gn + i = 7) ∧ i ≤ 7 ∧ v11 = .int .i64 i ∧ Hid (∀ j, j < i → (uGet us j).2 ≠ 0) ∧ w.grows wj ∧ wj.row w.heap.size = some (.cells (formC us (.slice a0 0 c0)).toArray 30))
  case atStart => exact ⟨0, rfl, by omega, rfl, Lib.hid (fun j hj => absurd hj (Nat.not_lt_zero j)), (by repeat (with_reducible first | assumption | exact grA | apply grB | apply grC | apply grD | refine grE ?_ (by omega) _ | refine grF ?_ (by omega) _ _)), by simp [go_sem]⟩
  case round =>
    obtain ⟨i, HK, hi, rfl, HU, hg, hx⟩ := hrel
    have z1 := row_sz' hx
    by_cases hi7 : i < 7
    · by_cases hz : (uGet us i).2 = 0
      · have hany : us.any (fun p => p.2 == 0) = true := by
          rw [List.any_eq_true]
          exact ⟨uGet us i, by rw [uGet_eq (by omega)]; exact List.getElem_mem _, by simpa using hz⟩
        obtain rfl : R = true := HR.out.symm.trans hany
        clear hany HR
        go_wp2_with fail
        all_goals go_ret
        all_goals exact ⟨rfl, (by repeat (with_reducible first | assumption | exact grA | apply grB | apply grC | apply grD | refine grE ?_ (by omega) _ | refine grF ?_ (by omega) _ _))⟩
      · go_wp2_with fail
        go_roundg (7 - (i + 1))
        case rel => exact ⟨i + 1, Lib.hid (by omega), by omega, by go_num, Lib.hid (fun j hj => by
          rcases (by omega : j < i ∨ j = i) with h | rfl
          · exact HU.out j h
          · exact hz), (by repeat (with_reducible first | assumption | exact grA | apply grB | apply grC | apply grD | refine grE ?_ (by omega) _ | refine grF ?_ (by omega) _ _)), by simp [go_sem, hx, z1]⟩
        case measure => have := HK.out; omega
    · obtain rfl : i = 7 := by omega
      have hany : us.any (fun p => p.2 == 0) = false := by
        rw [List.any_eq_false]
        intro p hp
        obtain ⟨j, hj, rfl⟩ := List.mem_iff_getElem.1 hp
        have := HU.out j (by omega)
        rw [uGet_eq hj] at this
        simpa using this
      obtain rfl : R = false := HR.out.symm.trans hany
      clear hany HU HR
      go_wp2_with fail
      go_loopg [21] 0 (fun gn v21 wj => v21 = .int .i64 0 ∧ w.grows wj)
      case atStart => exact ⟨rfl, (by repeat (with_reducible first | assumption | exact grA | apply grB | apply grC | apply grD | refine grE ?_ (by omega) _ | refine grF ?_ (by omega) _ _))⟩
      case round =>
        clear hx z1 hg
        obtain ⟨rfl, hg⟩ := hrel
        go_wp2_with fail
        all_goals go_ret
        all_goals exact ⟨rfl, (by repeat (with_reducible first | assumption | exact grA | apply grB | apply grC | apply grD | refine grE ?_ (by omega) _ | refine grF ?_ (by omega) _ _))⟩

set_option maxRecDepth 100000 in
set_option maxHeartbeats 8000000 in
theorem jalousieOK_any (m : Nat) (ta tb tc : Ex) (csa csb csc : List Value) (w : World) (ha : ExAt w m ta csa) (hb : ExAt w m tb csb) (hc : ExAt w m tc csc) :
    Calls Try.prog 24 #[.agg csa.toArray, .agg csb.toArray, .agg csc.toArray] w (Gives w (.bool (askE (m + 1) (sumT [ta, tb, tc]) 2 == 0))) := by
  obtain ⟨v0, v1, v2, v3, va, vl, vc, rfl⟩ := ExAt_vals ha
  obtain ⟨u0, u1, u2, u3, ua, ul, uc, rfl⟩ := ExAt_vals hb
  obtain ⟨y0, y1, y2, y3, ya, yl, yc, rfl⟩ := ExAt_vals hc
  have k1 : ∀ W g, w.grows W → W.row g = some (.cells (exL v0 v1 v2 v3 va vl vc ++ (exL u0 u1 u2 u3 ua ul uc ++ exL y0 y1 y2 y3 ya yl yc)).toArray 26) → _ := fun W g hW hr => ref12Kind_any (m + 1) (sumT [ta, tb, tc]) _ W (sum3_at hr (ha.grows hW) (hb.grows hW) (hc.grows hW) rfl rfl)
  have hA : askE (m + 1) (sumT [ta, tb, tc]) 2 = if mayE (m + 1) 340 (sumT [ta, tb, tc]) then (if kindE (m + 1) (sumT [ta, tb, tc]) = 2 then 0 else 4) else 1 := rfl
  rw [hA]
  clear hA
  generalize mayE (m + 1) 340 (sumT [ta, tb, tc]) = B at *
  generalize kindE (m + 1) (sumT [ta, tb, tc]) = K at *
  have k2 : ∃ a b : Int, ((((b == 0) && (a == 2)) = ((if B then (if K = 2 then (0 : Int) else 4) else 1) == 0)) ∧ ((b == 0) = false ∨ b = 0 ∧ (a == 2) = true ∨ b = 0 ∧ (a == 2) = false)) ∧ ∀ W g, w.grows W → W.row g = some (.cells (exL v0 v1 v2 v3 va vl vc ++ (exL u0 u1 u2 u3 ua ul uc ++ exL y0 y1 y2 y3 ya yl yc)).toArray 26) → Calls Try.prog 17 #[.agg (exL 2 0 0 0 (some ⟨g, 0, none⟩) 3 3).toArray] W (Gives W (.tuple #[.int .i64 a, .int .i64 b])) := by
    cases B
    · refine ⟨0, 1, ⟨rfl, .inl rfl⟩, fun W g hW hr => ?_⟩
      have := k1 W g hW hr
      simpa using this
    · by_cases hK : K = 2
      · subst hK
        refine ⟨2, 0, ⟨rfl, .inr (.inl ⟨rfl, rfl⟩)⟩, fun W g hW hr => ?_⟩
        have := k1 W g hW hr
        simpa using this
      · by_cases hK0 : K = 0
        · subst hK0
          refine ⟨0, 4, ⟨rfl, .inl rfl⟩, fun W g hW hr => ?_⟩
          have := k1 W g hW hr
          simpa using this
        · refine ⟨K, 0, ⟨by simp [hK], .inr (.inr ⟨rfl, by simpa using hK⟩)⟩, fun W g hW hr => ?_⟩
          have := k1 W g hW hr
          simpa [hK0] using this
  obtain ⟨a, b, ⟨hab, hcs⟩, k2⟩ := k2
  rw [← hab]
  have K2 := Lib.hid k2
  clear k1 k2 ha hb hc hab
  go_enter Try.func24, Try.ntmps24
  rcases hcs with h | ⟨rfl, h⟩ | ⟨rfl, h⟩
  all_goals rw [h]
  all_goals go_wp2_with (first | (go_at_call 17; (with_reducible refine (K2.out _ _ (by repeat (with_reducible first | assumption | exact grA | apply grB | apply grC | apply grD | refine grE ?_ (by omega) _ | refine grF ?_ (by omega) _ _)) (by simp [go_sem])).mono ?_); rintro e w1 ⟨rfl, x1, rfl⟩))
  all_goals go_ret
  all_goals exact ⟨rfl, (by repeat (with_reducible first | assumption | exact grA | apply grB | apply grC | apply grD | refine grE ?_ (by omega) _ | refine grF ?_ (by omega) _ _))⟩

/-- what norm.Form answers, of any expression -/
def FormG (X : Int) (F : Fm) (w : World) (e : Ending) (w' : World) : Prop := ∃ (us : List (Int × Int)) (a : Option Addr) (n c : Nat), e = .returned (.tuple #[.agg (formC us (.slice a n c)).toArray, .int .i64 X]) ∧ us.length = 7 ∧ w.grows w' ∧ (X = 0 → us = F.us ∧ n = F.ps.length ∧ FormOk w' (fun _ => True) F (formC us (.slice a n c)))
theorem form_gen (m : Nat) (t : Ex) (cs : List Value) (W : World) (h : ExAt W m t cs) (hsz : szE m t ≤ 1048576) : Calls Try.prog 16 #[.agg cs.toArray] W (FormG (askE m t 2) (formE m t) W) := by
  by_cases h0 : askE m t 2 = 0
  · rw [h0]
    exact (normForm_ok m t cs W (fun _ => True) (fun _ _ => trivial) h h0 hsz).mono fun e w' ⟨a, c, h1, h2, h3, h4, h5⟩ => ⟨_, a, _, c, h1, h3, h2, fun _ => ⟨rfl, rfl, FormOk_of_parts h3 h4 h5⟩⟩
  · exact (normForm_no m t cs W h h0).mono fun e w' ⟨h1, x, h2⟩ => ⟨_, none, 0, 0, h1, zs_len 0, ⟨x, h2⟩, fun h => absurd h h0⟩
/-- what lies in blocks that stand stays as it is -/
theorem plain_parts {f g h : Fm} (hp : (addF [f, g, h]).ps = []) : (addF [f, addF [g, h]]).ps = [] ∧ (addF [addF [h, f], g]).ps = [] := by
  have e : (addF [f, g, h]).ps = f.ps ++ (g.ps ++ h.ps) := by simp [addF, Fm.ps]
  rw [e] at hp
  have h3 : f.ps = [] ∧ g.ps = [] ∧ h.ps = [] := by simpa using hp
  obtain ⟨p1, p2, p3⟩ := h3
  have e1 : (addF [f, addF [g, h]]).ps = f.ps ++ (g.ps ++ h.ps) := by simp [addF, Fm.ps]
  have e2 : (addF [addF [h, f], g]).ps = (h.ps ++ f.ps) ++ g.ps := by simp [addF, Fm.ps]
  rw [e1, e2, p1, p2, p3]; exact ⟨rfl, rfl⟩

set_option maxRecDepth 100000 in
set_option maxHeartbeats 8000000 in
theorem brackets_law (m : Nat) (ta tb tc : Ex) (csa csb csc : List Value) (w : World) (ha : ExAt w m ta csa) (hb : ExAt w m tb csb) (hc : ExAt w m tc csc) (hsz : szE m ta + szE m tb + szE m tc + 3 ≤ 1048576) :
    Calls Try.prog 6 #[.agg csa.toArray, .agg csb.toArray, .agg csc.toArray] w (Gives w (.bool true)) := by
  have k4 := fun W (hW : w.grows W) => jalousieOK_any m ta tb tc csa csb csc W (ha.grows hW) (hb.grows hW) (hc.grows hW)
  have fa := ExAt_fit m ta csa ha; have fb := ExAt_fit m tb csb hb; have fc := ExAt_fit m tc csc hc
  have ea := szE_up m ta fa; have eb := szE_up m tb fb; have ec := szE_up m tc fc
  obtain ⟨v0, v1, v2, v3, va, vl, vc, rfl⟩ := ExAt_vals ha
  obtain ⟨u0, u1, u2, u3, ua, ul, uc, rfl⟩ := ExAt_vals hb
  obtain ⟨y0, y1, y2, y3, ya, yl, yc, rfl⟩ := ExAt_vals hc
  have k1 : ∀ W g, w.grows W → W.row g = some (.cells (exL v0 v1 v2 v3 va vl vc ++ (exL u0 u1 u2 u3 ua ul uc ++ exL y0 y1 y2 y3 ya yl yc)).toArray 26) → _ := fun W g hW hr => form_gen (m + 1) (sumT [ta, tb, tc]) _ W (sum3_at hr (ha.grows hW) (hb.grows hW) (hc.grows hW) rfl rfl) (by rw [szE_sum]; simp; omega)
  have k2 : ∀ W g g', w.grows W → W.row g' = some (.cells (exL u0 u1 u2 u3 ua ul uc ++ exL y0 y1 y2 y3 ya yl yc).toArray 26) → W.row g = some (.cells (exL v0 v1 v2 v3 va vl vc ++ exL 2 0 0 0 (some ⟨g', 0, none⟩) 2 2).toArray 26) → _ := fun W g g' hW hr' hr => form_gen (m + 2) (sumT [ta, sumT [tb, tc]]) _ W (sum2_at hr (ExAt_up _ _ _ (ha.grows hW)) (sum2_at hr' (hb.grows hW) (hc.grows hW) rfl) rfl) (by rw [szE_sum]; simp [szE_sum]; omega)
  have k3 : ∀ W g g', w.grows W → W.row g' = some (.cells (exL y0 y1 y2 y3 ya yl yc ++ exL v0 v1 v2 v3 va vl vc).toArray 26) → W.row g = some (.cells (exL 2 0 0 0 (some ⟨g', 0, none⟩) 2 2 ++ exL u0 u1 u2 u3 ua ul uc).toArray 26) → _ := fun W g g' hW hr' hr => form_gen (m + 2) (sumT [sumT [tc, ta], tb]) _ W (sum2_at hr (sum2_at hr' (hc.grows hW) (ha.grows hW) rfl) (ExAt_up _ _ _ (hb.grows hW)) rfl) (by rw [szE_sum]; simp [szE_sum]; omega)
  have eF : formE (m + 1) (sumT [ta, tb, tc]) = addF [formE m ta, formE m tb, formE m tc] := by rw [formE_sum]; rfl
  have eG : formE (m + 2) (sumT [ta, sumT [tb, tc]]) = addF [formE m ta, addF [formE m tb, formE m tc]] := by
    rw [formE_sum]; simp only [List.map_cons, List.map_nil]; rw [formE_sum, formE_up m ta fa]; rfl
  have eH : formE (m + 2) (sumT [sumT [tc, ta], tb]) = addF [addF [formE m tc, formE m ta], formE m tb] := by
    rw [formE_sum]; simp only [List.map_cons, List.map_nil]; rw [formE_sum, formE_up m tb fb]; rfl
  rw [eF] at k1; rw [eG] at k2; rw [eH] at k3
  clear eF eG eH fa fb fc ea eb ec
  have br := @brackets (formE m ta) (formE m tb) (formE m tc)
  have pp := @plain_parts (formE m ta) (formE m tb) (formE m tc)
  have l1 := addF_len [formE m ta, formE m tb, formE m tc]; have l2 := addF_len [formE m ta, addF [formE m tb, formE m tc]]; have l3 := addF_len [addF [formE m tc, formE m ta], formE m tb]
  generalize addF [formE m ta, formE m tb, formE m tc] = F at *
  generalize addF [formE m ta, addF [formE m tb, formE m tc]] = G at *
  generalize addF [addF [formE m tc, formE m ta], formE m tb] = H at *
  generalize askE (m + 1) (sumT [ta, tb, tc]) 2 = X at *
  generalize askE (m + 2) (sumT [ta, sumT [tb, tc]]) 2 = Y at *
  generalize askE (m + 2) (sumT [sumT [tc, ta], tb]) 2 = Z at *
  have hx : ((X == 0) = false ∧ (X != 0) = true) ∨ (X = 0 ∧ ((Y == 0) = false ∧ (Y != 0) = true)) ∨ (X = 0 ∧ Y = 0 ∧ ((Z == 0) = false ∧ (Z != 0) = true)) ∨ (X = 0 ∧ Y = 0 ∧ Z = 0) := by
    by_cases h1 : X = 0
    · by_cases h2 : Y = 0
      · by_cases h3 : Z = 0
        · exact .inr (.inr (.inr ⟨h1, h2, h3⟩))
        · exact .inr (.inr (.inl ⟨h1, h2, by simpa using h3, by simpa using h3⟩))
      · exact .inr (.inl ⟨h1, by simpa using h2, by simpa using h2⟩)
    · exact .inl ⟨by simpa using h1, by simpa using h1⟩
  have K1 := Lib.hid k1; have K2 := Lib.hid k2; have K3 := Lib.hid k3; have K4 := Lib.hid k4; have BR := Lib.hid br; have PP := Lib.hid pp; have HC := Lib.hid hx
  clear k1 k2 k3 k4 ha hb hc hsz br pp hx
  go_enter Try.func6, Try.ntmps6
  go_upto_region 1 with fail
  refine abs_rows (w := w) (G := fun W => Code.wp _ _ _ _ W) (by repeat (with_reducible first | assumption | exact grA | apply grB | apply grC | apply grD | refine grE ?_ (by omega) _ | refine grF ?_ (by omega) _ _)) [(w.heap.size, .cells (exL v0 v1 v2 v3 va vl vc).toArray 26), (w.heap.size + 1, .cells (exL u0 u1 u2 u3 ua ul uc).toArray 26), (w.heap.size + 1 + 1, .cells (exL y0 y1 y2 y3 ya yl yc).toArray 26)] (by simp [go_sem, *]) ?_
  intro V0 gV0 hl
  simp only [List.forall_mem_cons, List.not_mem_nil, false_implies, implies_true, and_true] at hl
  obtain ⟨r0, r1, r2⟩ := hl
  have zr0 := row_sz' r0
  have zr1 := row_sz' r1
  have zr2 := row_sz' r2
  go_upto_region 2 with (first | (go_at_call 16; (with_reducible refine (K1.out _ _ (gV0.trans (by repeat (with_reducible first | assumption | exact grA | apply grB | apply grC | apply grD | refine grE ?_ (by omega) _ | refine grF ?_ (by omega) _ _))) (by simp [go_sem, *])).mono ?_); rintro e w1 ⟨us1, a1, n1, c1, rfl, h17, hg1, hX1⟩; have hgw1 : V0.grows w1 := World.grows.trans (by repeat (with_reducible first | assumption | exact grA | apply grB | apply grC | apply grD | refine grE ?_ (by omega) _ | refine grF ?_ (by omega) _ _)) hg1; have s0 := hgw1.row_eq zr0.1; have s1 := hgw1.row_eq zr1.1; have s2 := hgw1.row_eq zr2.1; rw [r0] at s0; rw [r1] at s1; rw [r2] at s2; have HX1 := Lib.hid hX1; clear hg1 hX1 r0 r1 r2 zr0 zr1 zr2))
  have hww1 : w.grows w1 := gV0.trans hgw1
  have x0 := row_sz' s0; have x1 := row_sz' s1; have x2 := row_sz' s2
  refine abs_rows (w := w1) (G := fun W => Code.wp _ _ _ _ W) (by repeat (with_reducible first | assumption | exact grA | apply grB | apply grC | apply grD | refine grE ?_ (by omega) _ | refine grF ?_ (by omega) _ _)) [(w.heap.size, .cells (exL v0 v1 v2 v3 va vl vc).toArray 26), (w.heap.size + 1, .cells (exL u0 u1 u2 u3 ua ul uc).toArray 26), (w.heap.size + 1 + 1, .cells (exL y0 y1 y2 y3 ya yl yc).toArray 26), (w1.heap.size, .cells (formC us1 (.slice a1 n1 c1)).toArray 30)] (by simp [go_sem, *]) ?_
  intro V1 gV1 hl
  simp only [List.forall_mem_cons, List.not_mem_nil, false_implies, implies_true, and_true] at hl
  obtain ⟨q0, q1, q2, f1⟩ := hl
  have zq0 := row_sz' q0
  have zq1 := row_sz' q1
  have zq2 := row_sz' q2
  have zf1 := row_sz' f1
  have hwV1 : w.grows V1 := hww1.trans gV1
  have hV1 := gV1
  generalize hb1 : w1.heap.size = b1 at *
  clear s0 s1 s2 x0 x1 x2 gV1
  go_upto_region 3 with (first | (go_at_call 16; (with_reducible refine (K2.out _ _ V1.heap.size (hwV1.trans (by repeat (with_reducible first | assumption | exact grA | apply grB | apply grC | apply grD | refine grE ?_ (by omega) _ | refine grF ?_ (by omega) _ _))) (by simp [go_sem, *]) (by simp [go_sem, *])).mono ?_); rintro e w2 ⟨us2, a2, n2, c2, rfl, h27, hg2, hX2⟩; have hgw2 : V1.grows w2 := World.grows.trans (by repeat (with_reducible first | assumption | exact grA | apply grB | apply grC | apply grD | refine grE ?_ (by omega) _ | refine grF ?_ (by omega) _ _)) hg2; have s0 := hgw2.row_eq zq0.1; rw [q0] at s0; have s1 := hgw2.row_eq zq1.1; rw [q1] at s1; have s2 := hgw2.row_eq zq2.1; rw [q2] at s2; have s3 := hgw2.row_eq zf1.1; rw [f1] at s3; have HX2 := Lib.hid hX2; clear hg2 hX2 q0 q1 q2 zq0 zq1 zq2))
  have hww2 : w.grows w2 := hwV1.trans hgw2
  have x0 := row_sz' s0; have x1 := row_sz' s1; have x2 := row_sz' s2; have x3 := row_sz' s3
  have h12 : w1.grows w2 := hV1.trans hgw2
  refine abs_rows (w := w2) (G := fun W => Code.wp _ _ _ _ W) (by repeat (with_reducible first | assumption | exact grA | apply grB | apply grC | apply grD | refine grE ?_ (by omega) _ | refine grF ?_ (by omega) _ _)) [(w.heap.size, .cells (exL v0 v1 v2 v3 va vl vc).toArray 26), (w.heap.size + 1, .cells (exL u0 u1 u2 u3 ua ul uc).toArray 26), (w.heap.size + 1 + 1, .cells (exL y0 y1 y2 y3 ya yl yc).toArray 26), (b1, .cells (formC us1 (.slice a1 n1 c1)).toArray 30), (w2.heap.size, .cells (formC us2 (.slice a2 n2 c2)).toArray 30)] (by simp [go_sem, *]) ?_
  intro V2 gV2 hl
  simp only [List.forall_mem_cons, List.not_mem_nil, false_implies, implies_true, and_true] at hl
  obtain ⟨t0, t1, t2, g1, f2⟩ := hl
  have zt0 := row_sz' t0
  have zt1 := row_sz' t1
  have zt2 := row_sz' t2
  have zg1 := row_sz' g1
  have zf2 := row_sz' f2
  have hwV2 : w.grows V2 := hww2.trans gV2
  have h1V2 : w1.grows V2 := h12.trans gV2
  have hV2 := gV2
  generalize hb2 : w2.heap.size = b2 at *
  clear s0 s1 s2 s3 x0 x1 x2 x3 gV2 f1 zf1 hV1 hgw2
  go_upto_region 4 with (first | (go_at_call 16; (with_reducible refine (K3.out _ _ V2.heap.size (hwV2.trans (by repeat (with_reducible first | assumption | exact grA | apply grB | apply grC | apply grD | refine grE ?_ (by omega) _ | refine grF ?_ (by omega) _ _))) (by simp [go_sem, *]) (by simp [go_sem, *])).mono ?_); rintro e w3 ⟨us3, a3, n3, c3, rfl, h37, hg3, hX3⟩; have hgw3 : V2.grows w3 := World.grows.trans (by repeat (with_reducible first | assumption | exact grA | apply grB | apply grC | apply grD | refine grE ?_ (by omega) _ | refine grF ?_ (by omega) _ _)) hg3; have s0 := hgw3.row_eq zt0.1; rw [t0] at s0; have s1 := hgw3.row_eq zt1.1; rw [t1] at s1; have s2 := hgw3.row_eq zt2.1; rw [t2] at s2; have s3 := hgw3.row_eq zg1.1; rw [g1] at s3; have s4 := hgw3.row_eq zf2.1; rw [f2] at s4; have HX3 := Lib.hid hX3; clear hg3 hX3 t0 t1 t2 zt0 zt1 zt2))
  have hww3 : w.grows w3 := hwV2.trans hgw3
  have h13 : w1.grows w3 := h1V2.trans hgw3
  have h23 : w2.grows w3 := hV2.trans hgw3
  have x0 := row_sz' s0; have x1 := row_sz' s1; have x2 := row_sz' s2; have x3 := row_sz' s3; have x4 := row_sz' s4
  refine abs_rows (w := w3) (G := fun W => Code.wp _ _ _ _ W) (by repeat (with_reducible first | assumption | exact grA | apply grB | apply grC | apply grD | refine grE ?_ (by omega) _ | refine grF ?_ (by omega) _ _)) [(w.heap.size, .cells (exL v0 v1 v2 v3 va vl vc).toArray 26), (w.heap.size + 1, .cells (exL u0 u1 u2 u3 ua ul uc).toArray 26), (w.heap.size + 1 + 1, .cells (exL y0 y1 y2 y3 ya yl yc).toArray 26), (b1, .cells (formC us1 (.slice a1 n1 c1)).toArray 30), (b2, .cells (formC us2 (.slice a2 n2 c2)).toArray 30), (w3.heap.size, .cells (formC us3 (.slice a3 n3 c3)).toArray 30)] (by simp [go_sem, *]) ?_
  intro V3 gV3 hl
  simp only [List.forall_mem_cons, List.not_mem_nil, false_implies, implies_true, and_true] at hl
  obtain ⟨r0, r1, r2, f1, f2, f3⟩ := hl
  have zr0 := row_sz' r0
  have zr1 := row_sz' r1
  have zr2 := row_sz' r2
  have zf1 := row_sz' f1
  have zf2 := row_sz' f2
  have zf3 := row_sz' f3
  have hwV3 : w.grows V3 := hww3.trans gV3
  have h1V3 : w1.grows V3 := h13.trans gV3
  have h2V3 : w2.grows V3 := h23.trans gV3
  have h3V3 := gV3
  generalize hb3 : w3.heap.size = b3 at *
  clear s0 s1 s2 s3 s4 x0 x1 x2 x3 x4 gV3 g1 zg1
  rcases HC.out with ⟨e1, e2⟩ | ⟨rfl, e1, e2⟩ | ⟨rfl, rfl, e1, e2⟩ | ⟨rfl, rfl, rfl⟩
  · clear HX1 HX2 HX3
    go_wp2_with (first | (go_at_call 24; (with_reducible refine (K4.out _ (by repeat (with_reducible first | assumption | exact grA | apply grB | apply grC | apply grD | refine grE ?_ (by omega) _ | refine grF ?_ (by omega) _ _))).mono ?_); rintro e w4 ⟨rfl, x4, rfl⟩) | (go_at_call 19; (with_reducible refine (awake12_any _).mono ?_); rintro e w1 ⟨rfl, x1, rfl⟩))
    all_goals go_ret
    all_goals exact ⟨rfl, (by repeat (with_reducible first | assumption | exact grA | apply grB | apply grC | apply grD | refine grE ?_ (by omega) _ | refine grF ?_ (by omega) _ _))⟩
  · clear HX1 HX2 HX3
    go_wp2_with (first | (go_at_call 24; (with_reducible refine (K4.out _ (by repeat (with_reducible first | assumption | exact grA | apply grB | apply grC | apply grD | refine grE ?_ (by omega) _ | refine grF ?_ (by omega) _ _))).mono ?_); rintro e w4 ⟨rfl, x4, rfl⟩) | (go_at_call 19; (with_reducible refine (awake12_any _).mono ?_); rintro e w1 ⟨rfl, x1, rfl⟩))
    all_goals go_ret
    all_goals exact ⟨rfl, (by repeat (with_reducible first | assumption | exact grA | apply grB | apply grC | apply grD | refine grE ?_ (by omega) _ | refine grF ?_ (by omega) _ _))⟩
  · clear HX1 HX2 HX3
    go_wp2_with (first | (go_at_call 24; (with_reducible refine (K4.out _ (by repeat (with_reducible first | assumption | exact grA | apply grB | apply grC | apply grD | refine grE ?_ (by omega) _ | refine grF ?_ (by omega) _ _))).mono ?_); rintro e w4 ⟨rfl, x4, rfl⟩) | (go_at_call 19; (with_reducible refine (awake12_any _).mono ?_); rintro e w1 ⟨rfl, x1, rfl⟩))
    all_goals go_ret
    all_goals exact ⟨rfl, (by repeat (with_reducible first | assumption | exact grA | apply grB | apply grC | apply grD | refine grE ?_ (by omega) _ | refine grF ?_ (by omega) _ _))⟩
  · obtain ⟨rfl, rfl, ok1⟩ := HX1.out rfl
    obtain ⟨rfl, rfl, ok2⟩ := HX2.out rfl
    obtain ⟨rfl, rfl, ok3⟩ := HX3.out rfl
    clear HX1 HX2 HX3 HC
    by_cases hps : F.ps = []
    · obtain ⟨hq1, hq2⟩ := PP.out hps
      have n1 : F.ps.length = 0 := by rw [hps]; rfl
      have n2 : G.ps.length = 0 := by rw [hq1]; rfl
      have n3 : H.ps.length = 0 := by rw [hq2]; rfl
      rw [n1] at f1 ok1; rw [n2] at f2 ok2; rw [n3] at f3 ok3
      have o1 := fun W => overPlain_any F.us l1 a1 c1 W
      have o2 := fun W => overPlain_any G.us l2 a2 c2 W
      have o3 := fun W => overPlain_any H.us l3 a3 c3 W
      have s1 : ∀ W, V3.grows W → G = F → _ := fun W hW e => same_any F (formC F.us (.slice a1 0 c1)) (formC G.us (.slice a2 0 c2)) W _ _ ((ok1.grows h1V3).grows hW) ((e ▸ ok2.grows h2V3 : FormOk V3 (fun _ => True) F (formC G.us (.slice a2 0 c2))).grows hW)
      have s2 : ∀ W, V3.grows W → H = F → _ := fun W hW e => same_any F (formC F.us (.slice a1 0 c1)) (formC H.us (.slice a3 0 c3)) W _ _ ((ok1.grows h1V3).grows hW) ((e ▸ ok3.grows h3V3 : FormOk V3 (fun _ => True) F (formC H.us (.slice a3 0 c3))).grows hW)
      have br := BR.out hps
      generalize F.us.any (fun p => p.2 == 0) = B1 at *
      generalize G.us.any (fun p => p.2 == 0) = B2 at *
      generalize H.us.any (fun p => p.2 == 0) = B3 at *
      have O1 := Lib.hid o1; have O2 := Lib.hid o2; have O3 := Lib.hid o3
      clear o1 o2 o3 ok1 ok2 ok3 hps hq1 hq2 BR PP
      cases B1
      · cases B2
        · cases B3
          · obtain ⟨eg, eh⟩ := br rfl rfl rfl
            have S1 := Lib.hid (fun W hW => s1 W hW eg); have S2 := Lib.hid (fun W hW => s2 W hW eh)
            clear s1 s2 br eg eh
            go_wp2_with (first | (go_at_call 25; (with_reducible refine (O1.out _).mono ?_); rintro e w6 ⟨rfl, x6, rfl⟩) | (go_at_call 25; (with_reducible refine (O2.out _).mono ?_); rintro e w7 ⟨rfl, x7, rfl⟩) | (go_at_call 25; (with_reducible refine (O3.out _).mono ?_); rintro e w8 ⟨rfl, x8, rfl⟩) | (go_at_call 26; (with_reducible refine (S1.out _ (by repeat (with_reducible first | assumption | exact grA | apply grB | apply grC | apply grD | refine grE ?_ (by omega) _ | refine grF ?_ (by omega) _ _))).mono ?_); rintro e w10 ⟨rfl, x10, rfl⟩) | (go_at_call 26; (with_reducible refine (S2.out _ (by repeat (with_reducible first | assumption | exact grA | apply grB | apply grC | apply grD | refine grE ?_ (by omega) _ | refine grF ?_ (by omega) _ _))).mono ?_); rintro e w11 ⟨rfl, x11, rfl⟩) | (go_at_call 19; (with_reducible refine (awake12_any _).mono ?_); rintro e w1 ⟨rfl, x1, rfl⟩))
            all_goals go_ret
            all_goals exact ⟨rfl, (by repeat (with_reducible first | assumption | exact grA | apply grB | apply grC | apply grD | refine grE ?_ (by omega) _ | refine grF ?_ (by omega) _ _))⟩
          · clear s1 s2 br
            go_wp2_with (first | (go_at_call 25; (with_reducible refine (O1.out _).mono ?_); rintro e w6 ⟨rfl, x6, rfl⟩) | (go_at_call 25; (with_reducible refine (O2.out _).mono ?_); rintro e w7 ⟨rfl, x7, rfl⟩) | (go_at_call 25; (with_reducible refine (O3.out _).mono ?_); rintro e w8 ⟨rfl, x8, rfl⟩) | (go_at_call 19; (with_reducible refine (awake12_any _).mono ?_); rintro e w1 ⟨rfl, x1, rfl⟩))
            all_goals go_ret
            all_goals exact ⟨rfl, (by repeat (with_reducible first | assumption | exact grA | apply grB | apply grC | apply grD | refine grE ?_ (by omega) _ | refine grF ?_ (by omega) _ _))⟩
        · clear s1 s2 br
          go_wp2_with (first | (go_at_call 25; (with_reducible refine (O1.out _).mono ?_); rintro e w6 ⟨rfl, x6, rfl⟩) | (go_at_call 25; (with_reducible refine (O2.out _).mono ?_); rintro e w7 ⟨rfl, x7, rfl⟩) | (go_at_call 25; (with_reducible refine (O3.out _).mono ?_); rintro e w8 ⟨rfl, x8, rfl⟩) | (go_at_call 19; (with_reducible refine (awake12_any _).mono ?_); rintro e w1 ⟨rfl, x1, rfl⟩))
          all_goals go_ret
          all_goals exact ⟨rfl, (by repeat (with_reducible first | assumption | exact grA | apply grB | apply grC | apply grD | refine grE ?_ (by omega) _ | refine grF ?_ (by omega) _ _))⟩
      · clear s1 s2 br
        go_wp2_with (first | (go_at_call 25; (with_reducible refine (O1.out _).mono ?_); rintro e w6 ⟨rfl, x6, rfl⟩) | (go_at_call 25; (with_reducible refine (O2.out _).mono ?_); rintro e w7 ⟨rfl, x7, rfl⟩) | (go_at_call 25; (with_reducible refine (O3.out _).mono ?_); rintro e w8 ⟨rfl, x8, rfl⟩) | (go_at_call 19; (with_reducible refine (awake12_any _).mono ?_); rintro e w1 ⟨rfl, x1, rfl⟩))
        all_goals go_ret
        all_goals exact ⟨rfl, (by repeat (with_reducible first | assumption | exact grA | apply grB | apply grC | apply grD | refine grE ?_ (by omega) _ | refine grF ?_ (by omega) _ _))⟩
    · have hpl : 0 < F.ps.length := List.length_pos_iff.2 hps
      clear hps BR PP ok1 ok2 ok3
      go_wp2_with (first | (go_at_call 19; (with_reducible refine (awake12_any _).mono ?_); rintro e w1 ⟨rfl, x1, rfl⟩))
      all_goals go_ret
      all_goals exact ⟨rfl, (by repeat (with_reducible first | assumption | exact grA | apply grB | apply grC | apply grD | refine grE ?_ (by omega) _ | refine grF ?_ (by omega) _ _))⟩

theorem brackets_law' (ma mb mc : Nat) (ta tb tc : Ex) (csa csb csc : List Value) (w : World) (ha : ExAt w ma ta csa) (hb : ExAt w mb tb csb) (hc : ExAt w mc tc csc) (hsz : szE ma ta + szE mb tb + szE mc tc + 3 ≤ 1048576) :
    Calls Try.prog 6 #[.agg csa.toArray, .agg csb.toArray, .agg csc.toArray] w (Gives w (.bool true)) := by
  obtain ⟨a1, a2, _⟩ := ExAt_le (M := ma + mb + mc) ha (by omega)
  obtain ⟨b1, b2, _⟩ := ExAt_le (M := ma + mb + mc) hb (by omega)
  obtain ⟨c1, c2, _⟩ := ExAt_le (M := ma + mb + mc) hc (by omega)
  exact brackets_law (ma + mb + mc) ta tb tc csa csb csc w a1 b1 c1 (by omega)

theorem normBrackets_own : ownKnob Try.prog.godebug = none := by kernel_rfl
theorem normBrackets_laidOut : laidOutB Try.prog = true := by kernel_rfl
set_option maxRecDepth 100000 in
set_option maxHeartbeats 2000000 in
theorem normBrackets_lifted (os : Os) (started : os.Started) (H : Type) (enc : TypeId × Value → H) (F : Stop.Interp) :
    ReturnsInHanded {} Try.checked os 6 .any ((Rows.OpenSpec.upto Rows.normBracketsSpec).pre6 enc Try.prog Try.f6 Rows.normBracketsUptoRow.domain false) (((Rows.OpenSpec.upto Rows.normBracketsSpec).at F).post enc Try.prog Try.f6 false true false false) := by
  refine returnsInHanded_of_cond (C := Try.checked) (s := Rows.OpenSpec.upto Rows.normBracketsSpec) (k := Rows.uptoSmall) rfl normBrackets_own started (by kernel_rfl) Try.func6
    (OpenSpec.witness (enc := enc) (C := Try.checked) (s := Rows.OpenSpec.upto Rows.normBracketsSpec) (k := Rows.uptoSmall) rfl false ⟨#[], #[.agg #[.int .i64 0, .int .i64 0, .int .i64 0, .int .i64 0, .slice none 0 0], .agg #[.int .i64 0, .int .i64 0, .int .i64 0, .int .i64 0, .slice none 0 0], .agg #[.int .i64 0, .int .i64 0, .int .i64 0, .int .i64 0, .slice none 0 0]], []⟩ 8 (by kernel_rfl) (by kernel_rfl) (by kernel_rfl)
      (x := ([.agg [.lit (.int .i64 0), .agg [.lit (.int .i64 0), .lit (.int .i64 0)], .lit (.int .i64 0), .nil], .agg [.lit (.int .i64 0), .agg [.lit (.int .i64 0), .lit (.int .i64 0)], .lit (.int .i64 0), .nil], .agg [.lit (.int .i64 0), .agg [.lit (.int .i64 0), .lit (.int .i64 0)], .lit (.int .i64 0), .nil]], [], [])) (by kernel_rfl) rfl (by kernel_rfl)) ?_
  intro W base args ds gs before hval0 hW hcnd hk _
  have hval : ∀ (j : Nat) t v, Try.f6.params[j]? = some t → args[j]? = some v → Value.okWide Try.prog W .any base t v := hval0
  have hW' := hW
  obtain ⟨p, q, hA0, hV, rfl, hfz, hnd⟩ := hW
  have hA : DataW.TrodAll enc Try.prog W 0 (fun _ => true) true Try.f6.params.toList args.toList ds p := hA0
  rw [Try.params6] at hA hval
  obtain ⟨v0, vs0, d0, ds0, p0, q0, hargs, rfl, rfl, h0, r0⟩ := trodAll_cons hA
  obtain ⟨v1, vs1, d1, ds1, p1, q1, rfl, rfl, rfl, h1, r1⟩ := trodAll_cons r0
  obtain ⟨v2, vs2, d2, ds2, p2, q2, rfl, rfl, rfl, h2, r2⟩ := trodAll_cons r1
  obtain ⟨rfl, rfl, rfl⟩ := trodAll_nil r2
  obtain rfl : args = #[v0, v1, v2] := by cases args; simp_all
  obtain ⟨rfl, rfl⟩ := trodVars_none hV
  have hbk := bulk_bound hk
  simp only [List.append_nil, Rows.uptoBulkAll] at hbk
  have k0 := h0
  have lt0 : ∀ x ∈ p0, x.block < W.heap.size := by obtain ⟨m, hm⟩ := k0; exact DataW.trod_lt m _ _ _ hm
  have k1 := h1
  have lt1 : ∀ x ∈ p1, x.block < W.heap.size := by obtain ⟨m, hm⟩ := k1; exact DataW.trod_lt m _ _ _ hm
  have k2 := h2
  have lt2 : ∀ x ∈ p2, x.block < W.heap.size := by obtain ⟨m, hm⟩ := k2; exact DataW.trod_lt m _ _ _ hm
  obtain ⟨m_E, t_E, cs_E, rfl, h_E, b_E⟩ := ex_arg (hval 0 26 v0 rfl rfl) h0
  obtain ⟨m_G, t_G, cs_G, rfl, h_G, b_G⟩ := ex_arg (hval 1 26 v1 rfl rfl) h1
  obtain ⟨m_H, t_H, cs_H, rfl, h_H, b_H⟩ := ex_arg (hval 2 26 v2 rfl rfl) h2
  clear hA0 hval0
  refine (brackets_law' m_E m_G m_H t_E t_G t_H cs_E cs_G cs_H W h_E h_G h_H (by omega)).mono fun e W' ⟨he, grw⟩ => ?_
  subst he
  have bel := grw.below
  exact ⟨_, rfl, _, _, _, [], _, [], hW', trodAll_mk1 (shut_bool Try.underlying4 _), (trodAll_cons_mk (Below.trod normBrackets_laidOut (by kernel_rfl) (of_decide_eq_true (by kernel_rfl)) k0 bel lt0) (trodAll_cons_mk (Below.trod normBrackets_laidOut (by kernel_rfl) (of_decide_eq_true (by kernel_rfl)) k1 bel lt1) (trodAll_cons_mk (Below.trod normBrackets_laidOut (by kernel_rfl) (of_decide_eq_true (by kernel_rfl)) k2 bel lt2) trodAll_mk0))), rfl, bel.frame _, fun h => by cases h⟩

/-- THE STATEMENT -/
theorem normBrackets_holds : Rows.NormBracketsUptoSaid :=
  OpenClaim.holds_of_cond 6 Try.f6 rfl rfl rfl rfl rfl rfl rfl ⟨rfl, rfl, rfl, rfl, rfl⟩ rfl rfl rfl rfl rfl (by kernel_rfl) Try.func6 (by kernel_rfl)
    (of_decide_eq_true (by kernel_rfl)) (by unfold Func.isWrapper; first | (rw [if_pos (by decide +kernel)]; kernel_rfl) | (rw [if_neg (by decide +kernel)]; exact ⟨rfl, rfl⟩))
    (fun os started H enc _ F => normBrackets_lifted os started H enc F)
#print axioms normBrackets_holds
end Go.Proofs.Ythmicnjigfcljaa
