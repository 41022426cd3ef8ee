/- WALKS over jalousieref20: Sort: each place where as many stand ahead of it. No condition but that the claims stand in memory, may be, and are not too many. -/
import Derived.Test.YtajkfmnnokkcaaaRefSort
set_option linter.unusedSimpArgs false
set_option linter.unusedVariables false
namespace Go.Proofs.Ytajkfmnnokkcaaa
open Go.RowKit

set_option maxRecDepth 100000 in
set_option maxHeartbeats 8000000 in
theorem refSort_any (v : Value) (l : List Cl) (w : World) (h : SlAt w (fun _ => True) 8 ClR v l) (hN : l.length ≤ 1048576) (hm : l.all Cl.may = true) (f : Nat → Int) (hR : Run (ltC (atC l)) f 0 l.length) :
    Calls Try.prog 13 #[v] w fun e w' => w.grows w' ∧ ∃ g, e = .returned (.slice (some ⟨g, 0, none⟩) l.length l.length) ∧ w'.row g = some (.cells (intsL f l.length).toArray 3) := by
  obtain ⟨a, cap, rfl, h1, h2, h3⟩ := h
  have H3 := Lib.hid h3
  have HM := Lib.hid (mayTo_all.1 hm)
  clear h3 hm
  have key : ∀ N, N = l.length → N ≤ cap → N ≤ 1048576 → Run (ltC (atC l)) f 0 N → Calls Try.prog 13 #[.slice a N cap] w fun e w' => w.grows w' ∧ ∃ g, e = .returned (.slice (some ⟨g, 0, none⟩) N N) ∧ w'.row g = some (.cells (intsL f N).toArray 3) := fun N eN h1 hN hR => by
    have EN := Lib.hid eN
    have HR := Lib.hid hR
    clear eN hR
    obtain ⟨i, hi, hz0, hz1, hz2⟩ := info_parts Sinfo3
    go_enter Try.func13, Try.ntmps13
    go_wp2_with (first | (at_make; refine wpList_make_full _ rfl _ _ 23 rfl w.heap.size 3 i _ 1 Try.underlying23 hi hz0 hz1 _ _ _ _ N rfl rfl rfl rfl (by rw [hz2]; omega) (by simp only [maxLen]; omega) (by simp) ?_; intro w1 hown hgrow; have hg1 : w.grows w1 := World.grows.grown (w := w) (by repeat (with_reducible first | assumption | exact grA | apply grB | apply grC | apply grD | refine grE ?_ (by omega) _ | refine grF ?_ (by omega) _ _)) hgrow (fun _ h => by cases h); rw [made_ints] at hown; have hx1 := owns_full hown; have zx1 := row_sz' hx1; clear hown hgrow))
    go_loopg [14] N (fun gn v14 wj => ∃ (i : Nat) (F : Nat → Int), Hid (gn + i = N ∧ i ≤ N) ∧ v14 = .int .i64 i ∧ w.grows wj ∧ wj.row w.heap.size = some (.cells (intsL F N).toArray 3) ∧ Hid (∀ j, j < i → F (aheadN l N j) = (j : Int)))
    case atStart => exact ⟨0, _, Lib.hid ⟨rfl, Nat.zero_le _⟩, by go_num, hg1, hx1, Lib.hid fun j h => by omega⟩
    case round =>
      clear hx1 hg1 zx1
      obtain ⟨i1, F, HK, rfl, hg, hx, HF⟩ := hrel
      obtain ⟨k1, k2⟩ := HK.out
      have zx := row_sz' hx
      by_cases hlt : i1 < N
      · have hNl := EN.out
        rcases H3.out with h0 | ⟨g, off, rfl, _, h4⟩
        · rw [h0] at hNl; simp at hNl; omega
        have hgt := List.getElem?_eq_getElem (by omega : i1 < l.length)
        obtain ⟨cs, _, el, ec, _⟩ := h4 i1 _ hgt
        have hatx := atC_get hgt
        have hmx := HM.out i1 _ (by omega) hgt
        generalize l[i1] = x at *
        subst ec
        replace el := el.grows hg
        have e1 : segOk (off + i1 * 8) 8 (wr.row g) = true := el.1
        have e2 : segV (off + i1 * 8) 8 (wr.row g) = x.v := el.2
        have zg := lt_sz el.lt
        have n1 : (i1 : Int) < (N : Int) := by omega
        have H4 := Lib.hid h4; have HAT := Lib.hid hatx; have HMX := Lib.hid hmx
        clear h4 hatx hmx el hgt hNl
        obtain ⟨q0, q1, q2, q3, q4, q5, q6, q7⟩ := x
        generalize wr = wo at *
        go_wp2_with fail
        go_loopg [6, 21] N (fun gn v6 v21 wj => ∃ k : Nat, Hid (gn + k = N ∧ k ≤ N) ∧ v21 = .int .i64 k ∧ v6 = .int .i64 (aheadN l k i1 : Int) ∧ wo.grows wj ∧ wj.row wo.heap.size = some (.cells #[.string q0, .int .i64 q1, .bool q2, .int .i64 q3, .int .i64 q4, .int .i64 q5, .int .i64 q6, .int .i64 q7] 34))
        case atStart => exact ⟨0, Lib.hid ⟨rfl, Nat.zero_le _⟩, by go_num, by simp [aheadN], (by repeat (with_reducible first | assumption | exact grA | apply grB | apply grC | apply grD | refine grE ?_ (by omega) _ | refine grF ?_ (by omega) _ _)), by simp [go_sem]⟩
        case round =>
          obtain ⟨k, HKi, rfl, rfl, hgi, hxi⟩ := hrel
          obtain ⟨m1, m2⟩ := HKi.out
          have zxi := row_sz' hxi
          by_cases hlk : k < N
          · have hNl := EN.out
            have hgt := List.getElem?_eq_getElem (by omega : k < l.length)
            obtain ⟨cs, _, el, ec, _⟩ := H4.out k _ hgt
            have haty := atC_get hgt
            have hmy := HM.out k _ (by omega) hgt
            generalize l[k] = y at *
            subst ec
            replace el := (el.grows hg).grows hgi
            have d1 : segOk (off + k * 8) 8 (wr.row g) = true := el.1
            have d2 : segV (off + k * 8) 8 (wr.row g) = y.v := el.2
            have zgi := lt_sz el.lt
            have n2 : (k : Int) < (N : Int) := by omega
            have c1 := fun W => refWeaker_any y _ W hmy HMX.out
            have c2 := fun W => refWeaker_any _ y W HMX.out hmy
            have hlo := asked_lt (atC l) k i1 (by rw [haty]; exact hmy) (by rw [HAT.out]; exact HMX.out)
            rw [haty, HAT.out] at hlo
            have hA := fun b hb => aheadN_succ l k i1 b hb
            have hA2 := aheadN_le l k i1
            generalize aheadN l k i1 = A at *
            generalize Cl.weak y ⟨q0, q1, q2, q3, q4, q5, q6, q7⟩ = B1 at *
            generalize Cl.weak ⟨q0, q1, q2, q3, q4, q5, q6, q7⟩ y = B2 at *
            replace hA := hA _ hlo
            clear hlo haty hmy el hgt hNl
            have C1 := Lib.hid c1; have C2 := Lib.hid c2; have HA := Lib.hid hA
            clear c1 c2 hA
            obtain ⟨y0, y1, y2, y3, y4, y5, y6, y7⟩ := y
            have n3 : decide ((k : Int) < (i1 : Int)) = decide (k < i1) := by simp
            have n4 : IntKind.wrap .i64 ((A : Int) + 1) = (A : Int) + 1 := wrapI (by omega) (by omega)
            cases B1
            · by_cases hki : k < i1
              · have n5 : (k : Int) < (i1 : Int) := by omega
                cases B2
                · go_wp2_with (first | (go_at_call 23; (with_reducible refine (C1.out _).mono ?_); rintro e w1 ⟨rfl, x1, rfl⟩) | (go_at_call 23; (with_reducible refine (C2.out _).mono ?_); rintro e w1 ⟨rfl, x1, rfl⟩))
                  go_roundg (N - (k + 1))
                  case rel => exact ⟨k + 1, Lib.hid ⟨by omega, by omega⟩, by go_num, by rw [HA.out]; simp [hki]; try go_num, (by repeat (with_reducible first | assumption | exact grA | apply grB | apply grC | apply grD | refine grE ?_ (by omega) _ | refine grF ?_ (by omega) _ _)), by simp [go_sem, hxi, zxi]⟩
                  case measure => omega
                · go_wp2_with (first | (go_at_call 23; (with_reducible refine (C1.out _).mono ?_); rintro e w1 ⟨rfl, x1, rfl⟩) | (go_at_call 23; (with_reducible refine (C2.out _).mono ?_); rintro e w1 ⟨rfl, x1, rfl⟩))
                  go_roundg (N - (k + 1))
                  case rel => exact ⟨k + 1, Lib.hid ⟨by omega, by omega⟩, by go_num, by rw [HA.out]; simp; try go_num, (by repeat (with_reducible first | assumption | exact grA | apply grB | apply grC | apply grD | refine grE ?_ (by omega) _ | refine grF ?_ (by omega) _ _)), by simp [go_sem, hxi, zxi]⟩
                  case measure => omega
              · have n5 : ¬ (k : Int) < (i1 : Int) := by omega
                go_wp2_with (first | (go_at_call 23; (with_reducible refine (C1.out _).mono ?_); rintro e w1 ⟨rfl, x1, rfl⟩) | (go_at_call 23; (with_reducible refine (C2.out _).mono ?_); rintro e w1 ⟨rfl, x1, rfl⟩))
                go_roundg (N - (k + 1))
                case rel => exact ⟨k + 1, Lib.hid ⟨by omega, by omega⟩, by go_num, by rw [HA.out]; simp [hki]; try go_num, (by repeat (with_reducible first | assumption | exact grA | apply grB | apply grC | apply grD | refine grE ?_ (by omega) _ | refine grF ?_ (by omega) _ _)), by simp [go_sem, hxi, zxi]⟩
                case measure => omega
            · go_wp2_with (first | (go_at_call 23; (with_reducible refine (C1.out _).mono ?_); rintro e w1 ⟨rfl, x1, rfl⟩) | (go_at_call 23; (with_reducible refine (C2.out _).mono ?_); rintro e w1 ⟨rfl, x1, rfl⟩))
              go_roundg (N - (k + 1))
              case rel => exact ⟨k + 1, Lib.hid ⟨by omega, by omega⟩, by go_num, by rw [HA.out]; simp; try go_num, (by repeat (with_reducible first | assumption | exact grA | apply grB | apply grC | apply grD | refine grE ?_ (by omega) _ | refine grF ?_ (by omega) _ _)), by simp [go_sem, hxi, zxi]⟩
              case measure => omega
          · obtain rfl : k = N := by omega
            have n2 : ¬ (k : Int) < (k : Int) := by omega
            obtain ⟨hA1, hA2⟩ := HR.out.ahead hlt
            have hinj : ∀ j, j < k → aheadN l k j = aheadN l k i1 → j = i1 := fun j hj e => by
              have := (HR.out.ahead hj).2
              rw [e, hA2] at this; omega
            have HI := Lib.hid hinj
            have n3 : ((aheadN l k i1 : Nat) : Int) < (k : Int) := by omega
            have hx2 : wr.row w.heap.size = some (.cells (intsL F k).toArray 3) := (hgi.row_eq zx.1).trans hx
            have z2 := row_sz' hx2
            have hgw : w.grows wr := hg.trans hgi
            clear hinj hA2
            generalize hAA : aheadN l k i1 = A at *
            have HAA := Lib.hid hAA
            clear hAA
            have ia : (intsL F k)[A]? = some (.int .i64 (F A)) := intsL_get F hA1
            go_wp2_with fail
            go_roundg (k - (i1 + 1))
            case rel => exact ⟨i1 + 1, upF F A i1, Lib.hid ⟨by omega, by omega⟩, by go_num, (by repeat (with_reducible first | assumption | exact grA | apply grB | apply grC | apply grD | refine grE ?_ (by omega) _ | refine grF ?_ (by omega) _ _)), by simp only [go_sem, hx2, z2, if_true]; rw [List.setIfInBounds_toArray, intsL_set], Lib.hid fun j hj => by
              unfold upF
              by_cases hji : j = i1
              · rw [hji, if_pos HAA.out]
              · rw [if_neg (fun e => hji (HI.out j (by omega) e)), HF.out j (by omega)]⟩
            case measure => omega
      · obtain rfl : i1 = N := by omega
        have n1 : ¬ (i1 : Int) < (i1 : Int) := by omega
        go_wp2_with fail
        go_ret
        exact ⟨(by repeat (with_reducible first | assumption | exact grA | apply grB | apply grC | apply grD | refine grE ?_ (by omega) _ | refine grF ?_ (by omega) _ _)), _, rfl, by rw [← HR.out.eq HF.out]; simp [go_sem, hx, zx]⟩
  exact key _ rfl h1 hN hR
end Go.Proofs.Ytajkfmnnokkcaaa
