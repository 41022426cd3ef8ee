/- WALKS over slices: merging two sorted runs where they stand. No condition but that the places are there, and that the function goes on. -/
import Derived.Test.YtjfccilmlmimaaaESym1
import Derived.Test.YtjfccilmlmimaaaESym2
set_option linter.unusedSimpArgs false
set_option linter.unusedVariables false
namespace Go.Proofs.Ytjfccilmlmimaaa
open Go.RowKit

/-- two runs are merged -/
def SymOKE (Z : Int → List Value) (RR0 : List Value) (g cap N : Nat) (lt : Int → Int → Prop) (PW : World → Prop) (a m b : Nat) : Prop := ∀ (f : Nat → Int) (w : World), PW w → w.row g = some (.cells (elsL Z f N ++ RR0).toArray 37) →
    (∀ k, a ≤ k → k < b → ∃ j : Nat, j < N ∧ f k = (j : Int)) → srt lt f a m → srt lt f m b → apartF f a m b →
    Calls Try.prog 56 #[.slice (some ⟨g, 0, none⟩) N cap, .int .i64 a, .int .i64 m, .int .i64 b, .func (.func 27) #[] #[]] w fun e w' => e = .returned (.tuple #[]) ∧
      ∃ f', w'.row g = some (.cells (elsL Z f' N ++ RR0).toArray 37) ∧ On g w w' ∧ Pm f f' a b ∧ srt lt f' a b

set_option maxRecDepth 100000 in
set_option maxHeartbeats 8000000 in
theorem sym3E_any {Z : Int → List Value} {RR0 : List Value} (hZ : ElZ 5 Z) {c : Int → Int → Int} {lt : Int → Int → Prop} {PW : World → Prop} (g cap a m b mid N : Nat) (C : CmpFnE Try.prog 27 Z g N c lt PW) (f : Nat → Int) (w : World) (hP : PW w)
    (hr : w.row g = some (.cells (elsL Z f N ++ RR0).toArray 37)) (ham : a + 1 < m) (hmb : m + 1 < b) (hb : b ≤ N) (hN : N ≤ 1048576) (hc : N ≤ cap) (hc2 : cap ≤ 9223372036854775807) (hmid : mid = (a + b) / 2)
    (hv : ∀ k, a ≤ k → k < b → ∃ j : Nat, j < N ∧ f k = (j : Int)) (s1 : srt lt f a m) (s2 : srt lt f m b) (ap : apartF f a m b)
    (IHl : ∀ s, a < s → s < mid → SymOKE Z RR0 g cap N lt PW a s mid) (IHr : ∀ e, mid < e → e < b → SymOKE Z RR0 g cap N lt PW mid e b) :
    Calls Try.prog 56 #[.slice (some ⟨g, 0, none⟩) N cap, .int .i64 a, .int .i64 m, .int .i64 b, .func (.func 27) #[] #[]] w fun e w' => e = .returned (.tuple #[]) ∧
      ∃ f', w'.row g = some (.cells (elsL Z f' N ++ RR0).toArray 37) ∧ On g w w' ∧ Pm f f' a b ∧ srt lt f' a b := by
  have HC := Lib.hid C
  have HV := Lib.hid hv; have HS := Lib.hid s1; have HT := Lib.hid s2; have HA := Lib.hid ap; have HIl := Lib.hid IHl; have HIr := Lib.hid IHr
  clear C hv s1 s2 ap IHl IHr
  have m1 : a < mid := by omega
  have m2 : mid < b := by omega
  have e0 : ((a : Int) + (b : Int)) / 2 = (mid : Int) := by omega
  have e1 : ((m : Int) - (a : Int) == 1) = false := by simpa using (by omega : ¬ (m : Int) - (a : Int) = 1)
  have e1' : ¬ (m : Int) - (a : Int) = 1 := by omega
  have e2 : ((b : Int) - (m : Int) == 1) = false := by simpa using (by omega : ¬ (b : Int) - (m : Int) = 1)
  have e2' : ¬ (b : Int) - (m : Int) = 1 := by omega
  have e3 : (mid : Int) + (m : Int) - (b : Int) = (((mid + m : Nat) : Int) - (b : Int)) := by omega
  -- where the search begins and ends
  obtain ⟨lo, r0, hlo, b1, b2, b3, b4, b5⟩ : ∃ lo r0 : Nat, (m > mid ∧ lo = mid + m - b ∧ b ≤ mid + m ∧ r0 = mid ∨ m ≤ mid ∧ lo = a ∧ r0 = m) ∧ a ≤ lo ∧ lo ≤ r0 ∧ r0 ≤ m ∧ r0 ≤ mid ∧ mid + m ≤ b + lo := by
    by_cases h : m > mid
    · exact ⟨mid + m - b, mid, .inl ⟨h, rfl, by omega, rfl⟩, by omega, by omega, by omega, by omega, by omega⟩
    · exact ⟨a, m, .inr ⟨by omega, rfl, rfl⟩, by omega, by omega, by omega, by omega, by omega⟩
  go_enter Try.func56, Try.ntmps56
  have HLO := Lib.hid hlo
  have HE := Lib.hid e0
  clear hlo e0 e3 hmid
  have la : a ≤ 1048576 := by omega
  have lb : b ≤ 1048576 := by omega
  go_upto_region 25 with fail
  have e0 := HE.out
  rw [e0]
  clear e0 HE
  go_upto_if 140 with fail
  go_cut [20, 21] (fun v20 v21 wx => v20 = .int .i64 lo ∧ v21 = .int .i64 r0 ∧ wx = w)
  case first =>
    rcases HLO.out with ⟨h1, h2, h3, h4⟩ | ⟨h1, h2, h4⟩
    · have q1 : (mid : Int) < (m : Int) := by omega
      have q2 : (mid : Int) + (m : Int) - (b : Int) = (lo : Int) := by omega
      go_wp2_with fail
      go_meet
      exact ⟨by rw [h2], by rw [h4], rfl⟩
    · have q1 : ¬ (mid : Int) < (m : Int) := by omega
      go_wp2_with fail
      go_meet
      exact ⟨by rw [h2], by rw [h4], rfl⟩
  case rest =>
    obtain ⟨rfl, rfl, rfl⟩ := hcut
    go_wp2_with fail
    go_loopg [20, 21] (r0 - lo) (fun gn v10 v11 wj => ∃ i j : Nat, Hid (gn = j - i ∧ lo ≤ i ∧ i ≤ j ∧ j ≤ r0) ∧ v10 = .int .i64 i ∧ v11 = .int .i64 j ∧ wj.row g = some (.cells (elsL Z f N ++ RR0).toArray 37) ∧ On g wc wj ∧ Hid ((∀ q, lo ≤ q → q < i → lt (f q) (f (mid + m - 1 - q))) ∧ ∀ q, j ≤ q → q < r0 → lt (f (mid + m - 1 - q)) (f q)))
    case atStart => exact ⟨lo, r0, Lib.hid ⟨rfl, Nat.le_refl _, b2, Nat.le_refl _⟩, rfl, rfl, hr, On.refl _ _, Lib.hid ⟨fun q h1 h2 => by omega, fun q h1 h2 => by omega⟩⟩
    case round =>
      obtain ⟨i, j, HK, rfl, rfl, hx, HO, HL⟩ := hrel
      obtain ⟨k1, k2, k3, k4⟩ := HK.out
      have z := row_sz' hx
      by_cases hij : i < j
      · obtain ⟨h, hh, h1, h2⟩ : ∃ h : Nat, ((i : Int) + (j : Int)) / 2 = (h : Int) ∧ i ≤ h ∧ h < j := ⟨(i + j) / 2, by omega, by omega, by omega⟩
        have hlo := HLO.out
        obtain ⟨p, hp, p1, p2⟩ : ∃ p : Nat, mid + m - 1 - h = p ∧ m ≤ p ∧ p < b := ⟨_, rfl, by omega, by omega⟩
        clear hlo
        obtain ⟨x, x1, ex⟩ := HV.out p (by omega) (by omega)
        obtain ⟨y, y1, ey⟩ := HV.out h (by omega) (by omega)
        have hyx : y < x := by have := HA.out h p (by omega) (by omega) (by omega) (by omega); omega
        have la' : p < N := by omega
        have lb' : h < N := by omega
        obtain ⟨ia1, ia2, ia3⟩ := els_seg hZ hx la'; rw [ex] at ia2
        obtain ⟨ib1, ib2, ib3⟩ := els_seg hZ hx lb'; rw [ey] at ib2
        have HX := Lib.hid hx
        clear hx
        have hst := stE hZ
        have n4 : (h : Int) < (N : Int) := by omega
        have n5 : (p : Int) < (N : Int) := by omega
        have n6 : (mid : Int) + (m : Int) - 1 - (h : Int) = (p : Int) := by omega
        have hPj : PW wr := HC.out.keep _ _ hP HO
        have k4' : ∀ W, wr.grows W → Calls Try.prog 27 #[.agg (Z (x : Int)).toArray, .agg (Z (y : Int)).toArray] W (Gives W (.int .i64 (c x y))) := fun W hW => HC.out.call W x y (HC.out.keep _ _ hPj ((On.refl g wr).grow hW)) x1 y1
        have K4 := Lib.hid k4'
        clear k4'
        have HLS := Lib.hid (HC.out.less x y hyx x1)
        have HP2 := Lib.hid hp
        clear hp
        by_cases hl : c x y < 0
        · go_upto_region 35 with fail
          refine wp_region_plus_tail 11 (by kernel_rfl) (by kernel_rfl) ?_
          simp only [List.take_succ_cons, List.take_zero, List.drop_succ_cons, List.drop_zero]
          repeat (go_big_quiet_step (fail))
          refine wpQuiet_nil ?_; intro _ hw'; obtain ⟨xq, hw''⟩ := hw'; subst hw''
          go_wp2_with (go_at_call 27; (with_reducible refine (K4.out _ (by repeat (with_reducible first | assumption | exact grA | apply grB | apply grC | apply grD | refine grE ?_ (by omega) _ | refine grF ?_ (by omega) _ _))).mono ?_); rintro e w1 ⟨rfl, x1, rfl⟩)
          go_roundg (h - i)
          case rel => exact ⟨i, h, Lib.hid ⟨rfl, k2, h1, by omega⟩, rfl, rfl, by simp [go_sem, HX.out, z], HO.grow (by repeat (with_reducible first | assumption | exact grA | apply grB | apply grC | apply grD | refine grE ?_ (by omega) _ | refine grF ?_ (by omega) _ _)), Lib.hid ⟨HL.out.1, fun q q1 q2 => by
              have hp := HP2.out
              have hax : lt (f p) (f h) := by rw [ex, ey]; exact HLS.out.1 hl
              by_cases hq : q = h
              · rw [hq, hp]; exact hax
              · have t1 : lt (f p) (f q) := HC.out.tr _ _ _ hax (HS.out h q (by omega) (by omega) (by omega))
                have hlo := HLO.out
                exact HC.out.tr _ _ _ (HT.out (mid + m - 1 - q) p (by omega) (by omega) p2) t1⟩⟩
          case measure => omega
        · have hl' : decide (c x y < 0) = false := decide_eq_false hl
          go_upto_region 35 with fail
          refine wp_region_plus_tail 11 (by kernel_rfl) (by kernel_rfl) ?_
          simp only [List.take_succ_cons, List.take_zero, List.drop_succ_cons, List.drop_zero]
          repeat (go_big_quiet_step (fail))
          refine wpQuiet_nil ?_; intro _ hw'; obtain ⟨xq, hw''⟩ := hw'; subst hw''
          go_wp2_with (go_at_call 27; (with_reducible refine (K4.out _ (by repeat (with_reducible first | assumption | exact grA | apply grB | apply grC | apply grD | refine grE ?_ (by omega) _ | refine grF ?_ (by omega) _ _))).mono ?_); rintro e w1 ⟨rfl, x1, rfl⟩)
          go_roundg (j - (h + 1))
          case rel => exact ⟨h + 1, j, Lib.hid ⟨rfl, by omega, by omega, k4⟩, by go_num, rfl, by simp [go_sem, HX.out, z], HO.grow (by repeat (with_reducible first | assumption | exact grA | apply grB | apply grC | apply grD | refine grE ?_ (by omega) _ | refine grF ?_ (by omega) _ _)), Lib.hid ⟨fun q q1 q2 => by
              have hp := HP2.out
              have hxa : lt (f h) (f p) := by
                rw [ex, ey]
                rcases HC.out.or x y (by omega) with h3 | h3
                · have := HLS.out.2 h3; omega
                · exact h3
              by_cases hq : q = h
              · rw [hq, hp]; exact hxa
              · have t1 : lt (f q) (f p) := HC.out.tr _ _ _ (HS.out q h (by omega) (by omega) (by omega)) hxa
                have hlo := HLO.out
                exact HC.out.tr _ _ _ t1 (HT.out p (mid + m - 1 - q) p1 (by omega) (by omega)), HL.out.2⟩⟩
          case measure => omega
      · obtain rfl : j = i := by omega
        obtain ⟨l1, l2⟩ := HL.out
        have hlo := HLO.out
        obtain ⟨e, he, e1b, e2b⟩ : ∃ e : Nat, mid + m - j = e ∧ m ≤ e ∧ e ≤ b := ⟨_, rfl, by omega, by omega⟩
        have t1 : ∀ q, a ≤ q → q < j → mid + m - j < b → lt (f q) (f (mid + m - j)) := fun q q1 q2 q3 => by
          have := l1 (j - 1) (by omega) (by omega)
          rw [show mid + m - 1 - (j - 1) = mid + m - j by omega] at this
          by_cases hq : q = j - 1
          · rw [hq]; exact this
          · exact HC.out.tr _ _ _ (HS.out q (j - 1) q1 (by omega) (by omega)) this
        have t2 : ∀ q, j ≤ q → q < m → m < mid + m - j → lt (f (mid + m - j - 1)) (f q) := fun q q1 q2 q3 => by
          have := l2 j (Nat.le_refl _) (by omega)
          rw [show mid + m - 1 - j = mid + m - j - 1 by omega] at this
          by_cases hq : q = j
          · rw [hq]; exact this
          · exact HC.out.tr _ _ _ this (HS.out j q (by omega) (by omega) q2)
        obtain ⟨g1, g2, g3, g4, gx⟩ := sym_cut HC.out.tr (by omega : a ≤ j) (by omega) (by omega) (by omega) (by omega) (by omega) (by omega) HS.out HT.out t1 t2
        have pG := (Pm.rot f (show j ≤ m by omega) (show m ≤ mid + m - j by omega)).wide (show a ≤ j by omega) (show mid + m - j ≤ b by omega)
        rw [he] at g3 g4 pG gx g1 g2
        have rG0 : ¬ (j < m ∧ m < e) → rotF f j m e = f := fun h => by
          by_cases h1 : j = m
          · rw [h1]; exact rot_none' f m e (by omega)
          · rw [show e = m by omega]; exact rot_none f j m (by omega)
        have R0 : j < m ∧ m < e → _ := fun h => rotateE_any hZ (.func (.func 27) #[] #[]) g cap j m e N f wr hx h.1 h.2 (by omega) hN hc hc2
        generalize rotF f j m e = G at *
        have vG : ∀ k, a ≤ k → k < b → ∃ x : Nat, x < N ∧ G k = (x : Int) := fun k h1 h2 => by
          obtain ⟨y, y1, y2, ey⟩ := pG.to k h1 h2
          obtain ⟨x, x1, ex⟩ := HV.out y y1 y2
          exact ⟨x, x1, by rw [ey, ex]⟩
        have sG1 : srt lt G a j := (HS.out.mono (Nat.le_refl _) (by omega)).congr fun k h1 h2 => g1 k h1 h2
        have sG2 : srt lt G j mid := fun x y h1 h2 h3 => by rw [g2 x h1 (by omega), g2 y (by omega) h3]; exact HT.out _ _ (by omega) (by omega) (by omega)
        have sG3 : srt lt G mid e := fun x y h1 h2 h3 => by rw [g3 x h1 (by omega), g3 y (by omega) h3]; exact HS.out _ _ (by omega) (by omega) (by omega)
        have sG4 : srt lt G e b := (HT.out.mono (by omega) (Nat.le_refl _)).congr fun k h1 h2 => g4 k h1 h2
        have aG1 : apartF G a j mid := fun x y h1 h2 h3 h4 => by rw [g1 x h1 h2, g2 y h3 h4]; exact HA.out _ _ (by omega) (by omega) (by omega) (by omega)
        have aG2 : apartF G mid e b := fun x y h1 h2 h3 h4 => by rw [g3 x h1 h2, g4 y h3 h4]; exact HA.out _ _ (by omega) (by omega) (by omega) (by omega)
        have hPr : PW wr := HC.out.keep _ _ hP HO
        have kl : a < j → j < mid → ∀ W, PW W → W.row g = some (.cells (elsL Z G N ++ RR0).toArray 37) → _ := fun h1 h2 W hW hr => HIl.out j h1 h2 G W hW hr (fun k a1 a2 => vG k a1 (by omega)) sG1 sG2 aG1
        have kr : mid < e → e < b → ∀ W (h : Nat → Int), PW W → W.row g = some (.cells (elsL Z h N ++ RR0).toArray 37) → Pm G h a mid → _ := fun h1 h2 W h hW hr ph => HIr.out e h1 h2 h W hW hr (fun k a1 a2 => by rw [ph.out k (by omega)]; exact vG k (by omega) a2) (sG3.congr fun k a1 a2 => ph.out k (by omega)) (sG4.congr fun k a1 a2 => ph.out k (by omega)) (fun x y a1 a2 a3 a4 => by rw [ph.out x (by omega), ph.out y (by omega)]; exact aG2 x y a1 a2 a3 a4)
        have lftS : ¬ (a < j ∧ j < mid) → srt lt G a mid := fun h => by
          by_cases h1 : j = a
          · rw [h1] at sG2; exact sG2
          · rw [show j = mid by omega] at sG1; exact sG1
        have rgtS : ¬ (mid < e ∧ e < b) → srt lt G mid b := fun h => by
          by_cases h1 : e = mid
          · rw [h1] at sG4; exact sG4
          · rw [show e = b by omega] at sG3; exact sG3
        have fin : ∀ h k, Pm G h a mid → srt lt h a mid → Pm h k mid b → srt lt k mid b → Pm f k a b ∧ srt lt k a b := fun h k p1 p2 p3 p4 => sym_join (by omega) (by omega) pG gx p1 p2 p3 p4
        have en : (mid : Int) + (m : Int) - (j : Int) = (e : Int) := by omega
        have FIN := Lib.hid fin; have LS := Lib.hid lftS; have RS := Lib.hid rgtS; have HG := Lib.hid rG0; have SG3 := Lib.hid sG3; have SG4 := Lib.hid sG4
        clear fin lftS rgtS rG0 sG1 sG2 sG3 sG4 aG1 aG2 vG pG gx g1 g2 g3 g4 t1 t2 l1 l2 HL hlo
        by_cases hA : j < m ∧ m < e
        · have R := Lib.hid (R0 hA)
          clear R0
          obtain ⟨a1, a2⟩ := hA
          have n1 : (j : Int) < (m : Int) := by omega
          have n2 : (m : Int) < (e : Int) := by omega
          by_cases hB : a < j ∧ j < mid
          · have KL := Lib.hid (kl hB.1 hB.2); obtain ⟨a3, a4⟩ := hB; have n3 : (a : Int) < (j : Int) := (by omega); have n4 : (j : Int) < (mid : Int) := by omega
            clear kl
            by_cases hC : mid < e ∧ e < b
            · have KR := Lib.hid (kr hC.1 hC.2); obtain ⟨a5, a6⟩ := hC; have n5 : (mid : Int) < (e : Int) := (by omega); have n6 : (e : Int) < (b : Int) := by omega
              clear kr
              go_wp2_with (first | (go_at_call 62; (with_reducible refine (R.out).mono ?_); rintro e' w1 ⟨rfl, hx1, HO1⟩; have hP1 : PW w1 := HC.out.keep _ _ hPr HO1) | (go_at_call 56; (with_reducible refine (KL.out w1 hP1 hx1).mono ?_); rintro e' w2 ⟨rfl, h, hx2, HO2, ph, sh⟩; have hP2 : PW w2 := HC.out.keep _ _ hP1 HO2) | (go_at_call 56; (with_reducible refine (KR.out w2 h hP2 hx2 ph).mono ?_); rintro e' w3 ⟨rfl, k', hx3, HO3, pk, sk⟩))
              go_end0
              exact ⟨rfl, _, hx3, (((HO.trans HO1).trans HO2).trans HO3), FIN.out _ _ ph sh pk sk⟩
            · have rs := RS.out hC; have n5 : (decide ((mid : Int) < (e : Int)) && decide ((e : Int) < (b : Int))) = false := by first | (simp; done) | (simp; omega)
              clear kr
              go_wp2_with (first | (go_at_call 62; (with_reducible refine (R.out).mono ?_); rintro e' w1 ⟨rfl, hx1, HO1⟩; have hP1 : PW w1 := HC.out.keep _ _ hPr HO1) | (go_at_call 56; (with_reducible refine (KL.out w1 hP1 hx1).mono ?_); rintro e' w2 ⟨rfl, h, hx2, HO2, ph, sh⟩; have hP2 : PW w2 := HC.out.keep _ _ hP1 HO2))
              go_end0
              exact ⟨rfl, _, hx2, ((HO.trans HO1).trans HO2), FIN.out _ _ ph sh (Pm.refl _ _ _) (rs.congr fun k h1 h2 => ph.out k (by omega))⟩
          · have ls := LS.out hB; have n3 : (decide ((a : Int) < (j : Int)) && decide ((j : Int) < (mid : Int))) = false := by first | (simp; done) | (simp; omega)
            clear kl
            by_cases hC : mid < e ∧ e < b
            · have KR := Lib.hid (kr hC.1 hC.2); obtain ⟨a5, a6⟩ := hC; have n5 : (mid : Int) < (e : Int) := (by omega); have n6 : (e : Int) < (b : Int) := by omega
              clear kr
              go_wp2_with (first | (go_at_call 62; (with_reducible refine (R.out).mono ?_); rintro e' w1 ⟨rfl, hx1, HO1⟩; have hP1 : PW w1 := HC.out.keep _ _ hPr HO1) | (go_at_call 56; (with_reducible refine (KR.out w1 G hP1 hx1 (Pm.refl _ _ _)).mono ?_); rintro e' w3 ⟨rfl, k', hx3, HO3, pk, sk⟩))
              go_end0
              exact ⟨rfl, _, hx3, ((HO.trans HO1).trans HO3), FIN.out _ _ (Pm.refl _ _ _) ls pk sk⟩
            · have rs := RS.out hC; have n5 : (decide ((mid : Int) < (e : Int)) && decide ((e : Int) < (b : Int))) = false := by first | (simp; done) | (simp; omega)
              clear kr
              go_wp2_with (first | (go_at_call 62; (with_reducible refine (R.out).mono ?_); rintro e' w1 ⟨rfl, hx1, HO1⟩; have hP1 : PW w1 := HC.out.keep _ _ hPr HO1))
              go_end0
              exact ⟨rfl, _, hx1, (HO.trans HO1), FIN.out _ _ (Pm.refl _ _ _) ls (Pm.refl _ _ _) rs⟩
        · have hG := HG.out hA; have hx1 : wr.row g = some (.cells (elsL Z G N ++ RR0).toArray 37) := by rw [hG]; exact hx
          clear R0
          have n1 : (decide ((j : Int) < (m : Int)) && decide ((m : Int) < (e : Int))) = false := by first | (simp; done) | (simp; omega)
          by_cases hB : a < j ∧ j < mid
          · have KL := Lib.hid (kl hB.1 hB.2); obtain ⟨a3, a4⟩ := hB; have n3 : (a : Int) < (j : Int) := (by omega); have n4 : (j : Int) < (mid : Int) := by omega
            clear kl
            by_cases hC : mid < e ∧ e < b
            · have KR := Lib.hid (kr hC.1 hC.2); obtain ⟨a5, a6⟩ := hC; have n5 : (mid : Int) < (e : Int) := (by omega); have n6 : (e : Int) < (b : Int) := by omega
              clear kr
              go_wp2_with (first | (go_at_call 56; (with_reducible refine (KL.out wr hPr hx1).mono ?_); rintro e' w2 ⟨rfl, h, hx2, HO2, ph, sh⟩; have hP2 : PW w2 := HC.out.keep _ _ hPr HO2) | (go_at_call 56; (with_reducible refine (KR.out w2 h hP2 hx2 ph).mono ?_); rintro e' w3 ⟨rfl, k', hx3, HO3, pk, sk⟩))
              all_goals (exfalso; omega)
            · have rs := RS.out hC; have n5 : (decide ((mid : Int) < (e : Int)) && decide ((e : Int) < (b : Int))) = false := by first | (simp; done) | (simp; omega)
              clear kr
              go_wp2_with (first | (go_at_call 56; (with_reducible refine (KL.out wr hPr hx1).mono ?_); rintro e' w2 ⟨rfl, h, hx2, HO2, ph, sh⟩; have hP2 : PW w2 := HC.out.keep _ _ hPr HO2))
              go_end0
              exact ⟨rfl, _, hx2, (HO.trans HO2), FIN.out _ _ ph sh (Pm.refl _ _ _) (rs.congr fun k h1 h2 => ph.out k (by omega))⟩
          · have ls := LS.out hB; have n3 : (decide ((a : Int) < (j : Int)) && decide ((j : Int) < (mid : Int))) = false := by first | (simp; done) | (simp; omega)
            clear kl
            by_cases hC : mid < e ∧ e < b
            · have KR := Lib.hid (kr hC.1 hC.2); obtain ⟨a5, a6⟩ := hC; have n5 : (mid : Int) < (e : Int) := (by omega); have n6 : (e : Int) < (b : Int) := by omega
              clear kr
              go_wp2_with (first | (go_at_call 56; (with_reducible refine (KR.out wr G hPr hx1 (Pm.refl _ _ _)).mono ?_); rintro e' w3 ⟨rfl, k', hx3, HO3, pk, sk⟩))
              go_end0
              exact ⟨rfl, _, hx3, (HO.trans HO3), FIN.out _ _ (Pm.refl _ _ _) ls pk sk⟩
            · have rs := RS.out hC; have n5 : (decide ((mid : Int) < (e : Int)) && decide ((e : Int) < (b : Int))) = false := by first | (simp; done) | (simp; omega)
              clear kr
              go_wp2_with fail
              go_end0
              exact ⟨rfl, _, hx1, HO, FIN.out _ _ (Pm.refl _ _ _) ls (Pm.refl _ _ _) rs⟩

/-- two runs are merged, whatever they are -/
theorem symMergeE_any {Z : Int → List Value} {RR0 : List Value} (hZ : ElZ 5 Z) {c : Int → Int → Int} {lt : Int → Int → Prop} {PW : World → Prop} (g cap N : Nat) (C : CmpFnE Try.prog 27 Z g N c lt PW) (hN : N ≤ 1048576) (hc : N ≤ cap) (hc2 : cap ≤ 9223372036854775807) :
    ∀ (d a m b : Nat), b - a ≤ d → a < m → m < b → b ≤ N → SymOKE Z RR0 g cap N lt PW a m b
  | 0, a, m, b, h, h1, h2, _ => by omega
  | d + 1, a, m, b, h, h1, h2, hb => by
    intro f w hP hr hv s1 s2 ap
    by_cases e1 : m = a + 1
    · subst e1
      exact sym1E_any hZ g cap a b N C f w hP hr (by omega) hb hN hc hc2 hv s2 ap
    · by_cases e2 : b = m + 1
      · subst e2
        exact sym2E_any hZ g cap a m N C f w hP hr (by omega) hb hN hc hc2 hv s1 ap
      · exact sym3E_any hZ g cap a m b ((a + b) / 2) N C f w hP hr (by omega) (by omega) hb hN hc hc2 rfl hv s1 s2 ap
          (fun s q1 q2 => symMergeE_any hZ g cap N C hN hc hc2 d a s _ (by omega) q1 q2 (by omega)) (fun e q1 q2 => symMergeE_any hZ g cap N C hN hc hc2 d _ e b (by omega) q1 q2 hb)
end Go.Proofs.Ytjfccilmlmimaaa
