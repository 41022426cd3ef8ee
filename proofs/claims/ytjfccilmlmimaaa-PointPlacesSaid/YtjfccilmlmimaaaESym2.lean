/- WALKS over slices: merging where the second run holds one number. No condition but that the places are there, and that the function goes on. -/
import Derived.Test.YtjfccilmlmimaaaMn
set_option linter.unusedSimpArgs false
set_option linter.unusedVariables false
namespace Go.Proofs.Ytjfccilmlmimaaa
open Go.RowKit

set_option maxRecDepth 100000 in
set_option maxHeartbeats 8000000 in
theorem sym2E_any {Z : Int → List Value} {RR0 : List Value} (hZ : ElZ 5 Z) {c : Int → Int → Int} {lt : Int → Int → Prop} {PW : World → Prop} (g cap a m N : Nat) (C : CmpFnE Try.prog 27 Z g N c lt PW) (f : Nat → Int) (w : World) (hP : PW w)
    (hr : w.row g = some (.cells (elsL Z f N ++ RR0).toArray 37)) (ham : a + 1 < m) (hb : m + 1 ≤ N) (hN : N ≤ 1048576) (hc : N ≤ cap) (hc2 : cap ≤ 9223372036854775807)
    (hv : ∀ k, a ≤ k → k < m + 1 → ∃ j : Nat, j < N ∧ f k = (j : Int)) (s1 : srt lt f a m) (ap : apartF f a m (m + 1)) :
    Calls Try.prog 56 #[.slice (some ⟨g, 0, none⟩) N cap, .int .i64 a, .int .i64 m, .int .i64 ((m + 1 : Nat) : Int), .func (.func 27) #[] #[]] w fun e w' => e = .returned (.tuple #[]) ∧
      ∃ f', w'.row g = some (.cells (elsL Z f' N ++ RR0).toArray 37) ∧ On g w w' ∧ Pm f f' a (m + 1) ∧ srt lt f' a (m + 1) := by
  have HC := Lib.hid C
  have HV := Lib.hid hv; have HS := Lib.hid s1; have HA := Lib.hid ap
  clear C hv s1 ap
  have e1 : ¬ (m : Int) - (a : Int) = 1 := by omega
  have e1b : ((m : Int) - (a : Int) == 1) = false := by simpa using e1
  have e2 : (((m + 1 : Nat) : Int) - (m : Int)) = 1 := by omega
  generalize hm : m + 1 = b at *
  go_enter Try.func56, Try.ntmps56
  go_wp2_with fail
  go_loopg [14, 15] (m - a) (fun gn v10 v11 wj => ∃ i j : Nat, Hid (gn = j - i ∧ a ≤ i ∧ i ≤ j ∧ j ≤ m) ∧ v10 = .int .i64 i ∧ v11 = .int .i64 j ∧ wj.row g = some (.cells (elsL Z f N ++ RR0).toArray 37) ∧ On g w wj ∧ Hid ((∀ q, a ≤ q → q < i → lt (f q) (f m)) ∧ ∀ q, j ≤ q → q < m → lt (f m) (f q)))
  case atStart => exact ⟨a, m, Lib.hid ⟨rfl, Nat.le_refl _, by omega, Nat.le_refl _⟩, rfl, rfl, hr, On.refl _ _, Lib.hid ⟨fun q h1 h2 => by omega, fun q h1 h2 => by omega⟩⟩
  case round =>
    obtain ⟨i, j, HK, rfl, rfl, hx, HO, HL⟩ := hrel
    obtain ⟨k1, k2, k3, k4⟩ := HK.out
    have z := row_sz' hx
    by_cases hij : i < j
    · obtain ⟨h, hh, h1, h2⟩ : ∃ h : Nat, ((i : Int) + (j : Int)) / 2 = (h : Int) ∧ i ≤ h ∧ h < j := ⟨(i + j) / 2, by omega, by omega, by omega⟩
      obtain ⟨x, x1, ex⟩ := HV.out m (by omega) (by omega)
      obtain ⟨y, y1, ey⟩ := HV.out h (by omega) (by omega)
      have hyx : y < x := by have := HA.out h m (by omega) (by omega) (by omega) (by omega); omega
      have la : m < N := by omega
      have lb : h < N := by omega
      obtain ⟨ia1, ia2, ia3⟩ := els_seg hZ hx la; rw [ex] at ia2
      obtain ⟨ib1, ib2, ib3⟩ := els_seg hZ hx lb; rw [ey] at ib2
      have HX := Lib.hid hx
      clear hx
      have hst := stE hZ
      have n4 : (h : Int) < (N : Int) := by omega
      have n5 : (m : Int) < (N : Int) := by omega
      have hPj : PW wr := HC.out.keep _ _ hP HO
      have k4' : ∀ W, wr.grows W → Calls Try.prog 27 #[.agg (Z (x : Int)).toArray, .agg (Z (y : Int)).toArray] W (Gives W (.int .i64 (c x y))) := fun W hW => HC.out.call W x y (HC.out.keep _ _ hPj ((On.refl g wr).grow hW)) x1 y1
      have K4 := Lib.hid k4'
      clear k4'
      have HLS := Lib.hid (HC.out.less x y hyx x1)
      by_cases hl : c x y < 0
      · have hl' : ¬ 0 ≤ c x y := by omega
        go_upto_region 17 with fail
        refine wp_region_plus_tail 9 (by kernel_rfl) (by kernel_rfl) ?_
        simp only [List.take_succ_cons, List.take_zero, List.drop_succ_cons, List.drop_zero]
        repeat (go_big_quiet_step (fail))
        refine wpQuiet_nil ?_; intro _ hw'; obtain ⟨xq, hw''⟩ := hw'; subst hw''
        go_wp2_with (go_at_call 27; (with_reducible refine (K4.out _ (by repeat (with_reducible first | assumption | exact grA | apply grB | apply grC | apply grD | refine grE ?_ (by omega) _ | refine grF ?_ (by omega) _ _))).mono ?_); rintro e w1 ⟨rfl, x1, rfl⟩)
        go_roundg (h - i)
        case rel => exact ⟨i, h, Lib.hid ⟨rfl, k2, h1, by omega⟩, rfl, rfl, by simp [go_sem, HX.out, z], HO.grow (by repeat (with_reducible first | assumption | exact grA | apply grB | apply grC | apply grD | refine grE ?_ (by omega) _ | refine grF ?_ (by omega) _ _)), Lib.hid ⟨HL.out.1, fun q q1 q2 => by
            have hax : lt (f m) (f h) := by rw [ex, ey]; exact HLS.out.1 hl
            by_cases hq : q = h
            · rw [hq]; exact hax
            · exact HC.out.tr _ _ _ hax (HS.out h q (by omega) (by omega) q2)⟩⟩
        case measure => omega
      · have hl' : decide (c x y < 0) = false := decide_eq_false hl
        go_upto_region 17 with fail
        refine wp_region_plus_tail 9 (by kernel_rfl) (by kernel_rfl) ?_
        simp only [List.take_succ_cons, List.take_zero, List.drop_succ_cons, List.drop_zero]
        repeat (go_big_quiet_step (fail))
        refine wpQuiet_nil ?_; intro _ hw'; obtain ⟨xq, hw''⟩ := hw'; subst hw''
        go_wp2_with (go_at_call 27; (with_reducible refine (K4.out _ (by repeat (with_reducible first | assumption | exact grA | apply grB | apply grC | apply grD | refine grE ?_ (by omega) _ | refine grF ?_ (by omega) _ _))).mono ?_); rintro e w1 ⟨rfl, x1, rfl⟩)
        go_roundg (j - (h + 1))
        case rel => exact ⟨h + 1, j, Lib.hid ⟨rfl, by omega, by omega, k4⟩, by go_num, rfl, by simp [go_sem, HX.out, z], HO.grow (by repeat (with_reducible first | assumption | exact grA | apply grB | apply grC | apply grD | refine grE ?_ (by omega) _ | refine grF ?_ (by omega) _ _)), Lib.hid ⟨fun q q1 q2 => by
            have hxa : lt (f h) (f m) := by
              rw [ex, ey]
              rcases HC.out.or x y (by omega) with h3 | h3
              · have := HLS.out.2 h3; omega
              · exact h3
            by_cases hq : q = h
            · rw [hq]; exact hxa
            · exact HC.out.tr _ _ _ (HS.out q h q1 (by omega) (by omega)) hxa, HL.out.2⟩⟩
        case measure => omega
    · obtain rfl : j = i := by omega
      obtain ⟨l1, l2⟩ := HL.out
      go_wp2_with fail
      go_loopg [17] (m - j) (fun gn v17 wj => ∃ k : Nat, Hid (gn = k - j ∧ j ≤ k ∧ k ≤ m) ∧ v17 = .int .i64 k ∧ wj.row g = some (.cells (elsL Z (rotF f k m b) N ++ RR0).toArray 37) ∧ On g w wj)
      case atStart => exact ⟨m, Lib.hid ⟨rfl, by omega, Nat.le_refl _⟩, rfl, by rw [rot_none' f m b (by omega)]; exact hx, HO⟩
      case round =>
        clear hx HO z
        obtain ⟨k, HK2, rfl, hx, HO⟩ := hrel
        obtain ⟨q1, q2, q3⟩ := HK2.out
        have z := row_sz' hx
        by_cases hk : j < k
        · have hstep := ins_step f (show 0 < k by omega) q3
          rw [hm] at hstep
          generalize hG : rotF f k m b = G at *
          have la : k < N := by omega
          have lb : k - 1 < N := by omega
          obtain ⟨ia1, ia2, ia3⟩ := els_seg hZ hx la; obtain ⟨ib1, ib2, ib3⟩ := els_seg hZ hx lb
          have HX := Lib.hid hx
          clear hx
          have hst := stE hZ
          have n1 : (k : Int) - 1 = ((k - 1 : Nat) : Int) := by omega
          have n3 : ((k - 1 : Nat) : Int) < (N : Int) := by omega
          have n4 : (k : Int) < (N : Int) := by omega
          have n5 : (j : Int) < (k : Int) := by omega
          go_upto_region 23 with fail
          go_region
          go_wp2_with fail
          go_roundg (k - 1 - j)
          case rel => exact ⟨k - 1, Lib.hid ⟨rfl, by omega, by omega⟩, by go_num, by
              rw [← hstep, sw_comm, ← up_sw]
              rw [World.row_setCells, if_pos rfl, World.row_setCells, if_pos rfl, World.grows.row_eq (w := wr) (by repeat (with_reducible first | assumption | exact grA | apply grB | apply grC | apply grD | refine grE ?_ (by omega) _ | refine grF ?_ (by omega) _ _)) z.1, HX.out, segSet_els hZ _ _ _ _ _ (by omega), segSet_els hZ _ _ _ _ _ (by omega)], ((HO.grow (by repeat (with_reducible first | assumption | exact grA | apply grB | apply grC | apply grD | refine grE ?_ (by omega) _ | refine grF ?_ (by omega) _ _))).setCells _ _).setCells _ _⟩
          case measure => omega
        · obtain rfl : k = j := by omega
          have n5 : ¬ (k : Int) < (k : Int) := by omega
          go_wp2_with fail
          refine bodyPost_ret (results_none rfl _ _ _) rfl ?_
          refine ⟨rfl, _, hx, HO, (Pm.rot f q3 (by omega)).wide k2 (Nat.le_refl _), ?_⟩
          rw [← hm]
          exact ins_srt k2 q3 HS.out l1 l2
end Go.Proofs.Ytjfccilmlmimaaa
