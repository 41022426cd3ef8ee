/- WALK over the document's answer: jalousieref12.Uses: the units' bits of a form. No condition but that the form stands in memory. -/
import Derived.Test.YthmicnjigfcljaaUsesP
import Derived.Test.YthmicnjigfcljaaMn
set_option linter.unusedSimpArgs false
set_option linter.unusedVariables false
namespace Go.Proofs.Ythmicnjigfcljaa
open Go.RowKit

def UsesIH (m : Nat) : Prop := ∀ (f : Fm) (cs : List Value) (w : World) (S : Nat → Prop), FormAt w S m f cs → Calls Try.prog 42 #[.agg cs.toArray] w (Gives w (.int .i64 (usF f : Nat)))

set_option maxRecDepth 100000 in
set_option maxHeartbeats 8000000 in
theorem uses_step (m : Nat) (IH0 : UsesIH m) (us : List (Int × Int)) (ps : List (Bool × List Fm)) (a0 : Option Addr) (c0 : Nat) (w : World) (S : Nat → Prop) (hu7 : us.length = 7) (hub : ∀ p ∈ us, I64p p)
    (hps : SlAt w S 2 (PartR (FormAt w S m) w S) (.slice a0 ps.length c0) ps) :
    Calls Try.prog 42 #[.agg (formC us (.slice a0 ps.length c0)).toArray] w (Gives w (.int .i64 (usF (.mk us ps) : Nat))) := by
  have IH := Lib.hid IH0; have HP := Lib.hid hps; have HUB := Lib.hid hub
  clear IH0 hps hub
  go_enter Try.func42, Try.ntmps42
  go_wp2_with fail
  go_loopg [3, 12] 7 (fun gn v3 v12 wj => ∃ (i u : Nat), Hid (gn + i = 7) ∧ i ≤ 7 ∧ v12 = .int .i64 i ∧ v3 = .int .i64 u ∧ Hid (u = mskU us i) ∧ w.grows wj ∧ wj.row w.heap.size = some (.cells (formC us (.slice a0 ps.length c0)).toArray 30))
  case atStart => exact ⟨0, 0, rfl, by omega, rfl, rfl, rfl, (by repeat (with_reducible first | assumption | exact grA | apply grB | apply grC | apply grD | refine grE ?_ (by omega) _ | refine grF ?_ (by omega) _ _)), by simp [go_sem]⟩
  case round =>
    obtain ⟨i, u, HK, hi, rfl, rfl, HU, hg, hx⟩ := hrel
    have z1 := row_sz' hx
    by_cases hi7 : i < 7
    · have hu8 : u < 256 := by rw [HU.out]; exact mskU_lt us i (by omega)
      by_cases hz : uGet us i = (0, 1)
      · have hq1 : (uGet us i).1 = 0 := by rw [hz]
        have hq2 : (uGet us i).2 = 1 := by rw [hz]
        have hm : u = mskU us (i + 1) := by rw [HU.out]; show _ = if uGet us i = (0, 1) then _ else _; rw [if_pos hz]
        have HM := Lib.hid hm
        clear hm hz
        go_wp2_with fail
        refine wp_region_plus_lit (by kernel_rfl) (by kernel_rfl) ?_
        repeat (go_big_quiet_step ((go_at_call 56; (with_reducible exact Calls.plus_of (refIntL_any _ _)))))
        (refine wpQuiet_nil ?_; intro _ hw'; obtain ⟨xq, hw''⟩ := hw'; subst hw'')
        go_wp2_with fail
        go_roundg (7 - (i + 1))
        case rel => exact ⟨i + 1, u, Lib.hid (by omega), by omega, by go_num, rfl, HM, (by repeat (with_reducible first | assumption | exact grA | apply grB | apply grC | apply grD | refine grE ?_ (by omega) _ | refine grF ?_ (by omega) _ _)), by simp [go_sem, hx, z1]⟩
        case measure => have := HK.out; omega
      · have hm : (u ||| 2 ^ (i + 1)) = mskU us (i + 1) := by rw [HU.out]; show _ = if uGet us i = (0, 1) then _ else _; rw [if_neg hz]
        have hor : bits .or .i64 (u : Int) (wrap64 (2 ^ (i + 1))) = ((u ||| 2 ^ (i + 1) : Nat) : Int) := by
          rw [wrap_pow8 hi7]; exact bits_or_nat hu8 (Nat.pow_lt_pow_right (by omega) (by omega : i + 1 < 8))
        have hne : ((uGet us i).1 == 0) = false ∨ (((uGet us i).1 == 0) = true ∧ ((uGet us i).2 == 1) = false) := by
          generalize uGet us i = q at hz
          obtain ⟨q1, q2⟩ := q
          by_cases h1 : q1 = 0
          · subst h1
            refine .inr ⟨rfl, ?_⟩
            rw [beq_eq_false_iff_ne]; intro h; exact hz (by rw [show q2 = 1 from h])
          · exact .inl (by rw [beq_eq_false_iff_ne]; exact h1)
        have HM := Lib.hid hm; have HOR := Lib.hid hor
        clear hm hor hz
        rcases hne with hb1 | ⟨hb1, hb2⟩
        · go_wp2_with fail
          refine wp_region_plus_lit (by kernel_rfl) (by kernel_rfl) ?_
          repeat (go_big_quiet_step ((go_at_call 56; (with_reducible exact Calls.plus_of (refIntL_any _ _)))))
          (refine wpQuiet_nil ?_; intro _ hw'; obtain ⟨xq, hw''⟩ := hw'; subst hw'')
          go_wp2_with fail
          go_roundg (7 - (i + 1))
          case rel => exact ⟨i + 1, u ||| 2 ^ (i + 1), Lib.hid (by omega), by omega, by go_num, by rw [← HOR.out], HM, (by repeat (with_reducible first | assumption | exact grA | apply grB | apply grC | apply grD | refine grE ?_ (by omega) _ | refine grF ?_ (by omega) _ _)), by simp [go_sem, hx, z1]⟩
          case measure => have := HK.out; omega
        · go_wp2_with fail
          refine wp_region_plus_lit (by kernel_rfl) (by kernel_rfl) ?_
          repeat (go_big_quiet_step ((go_at_call 56; (with_reducible exact Calls.plus_of (refIntL_any _ _)))))
          (refine wpQuiet_nil ?_; intro _ hw'; obtain ⟨xq, hw''⟩ := hw'; subst hw'')
          go_wp2_with fail
          go_roundg (7 - (i + 1))
          case rel => exact ⟨i + 1, u ||| 2 ^ (i + 1), Lib.hid (by omega), by omega, by go_num, by rw [← HOR.out], HM, (by repeat (with_reducible first | assumption | exact grA | apply grB | apply grC | apply grD | refine grE ?_ (by omega) _ | refine grF ?_ (by omega) _ _)), by simp [go_sem, hx, z1]⟩
          case measure => have := HK.out; omega
    · obtain rfl : i = 7 := by omega
      have hu8 : u < 256 := by rw [HU.out]; exact mskU_lt us 7 (by omega)
      go_wp2_with fail
      go_loopg [3, 29] ps.length (fun gn v3 v29 wj => ∃ (k q : Nat), Hid (gn + k = ps.length) ∧ k ≤ ps.length ∧ v29 = .int .i64 k ∧ v3 = .int .i64 q ∧ Hid (q = u ||| usP (ps.take k)) ∧ w.grows wj)
      case atStart => exact ⟨0, u, rfl, Nat.zero_le _, rfl, rfl, Lib.hid (by rw [List.take_zero, usP, Nat.or_zero]), (by repeat (with_reducible first | assumption | exact grA | apply grB | apply grC | apply grD | refine grE ?_ (by omega) _ | refine grF ?_ (by omega) _ _))⟩
      case round =>
        clear hx z1 hg
        obtain ⟨k, q, HK, hk, rfl, rfl, HQ, hg⟩ := hrel
        by_cases hlt : k < ps.length
        · obtain ⟨a0', cap0, e0, hl0, hc0, hE0⟩ := HP.out
          injection e0 with e1 e2 e3
          subst e1; subst e3
          rcases hE0 with h | ⟨g, off, rfl, hSg, hcell⟩
          · rw [h] at hlt; cases hlt
          obtain ⟨cs', hl2, hel, v', rfl, hsl⟩ := hcell k ps[k] (by simp [hlt])
          have he := hel.grows hg
          unfold eltAt at he
          have zr := lt_sz (hel.grows hg).lt
          have htk : ps.take (k + 1) = ps.take k ++ [ps[k]] := List.take_succ_eq_append_getElem hlt
          generalize ps[k] = p at *
          obtain ⟨b, args⟩ := p
          obtain ⟨a1, c1, rfl, hn1, hn2⟩ := hsl.len
          have e3 : segOk (off + k * 2) 2 (wr.row g) = true := he.1
          have e4 : segV (off + k * 2) 2 (wr.row g) = .agg #[.bool b, .slice a1 args.length c1] := he.2
          have hq8 : q < 256 := by rw [HQ.out]; exact or8 hu8 (usP_lt _)
          have HSL := Lib.hid hsl; have HTK := Lib.hid htk
          clear hcell hel he hsl hl2 htk
          go_wp2_with fail
          go_loopg [3, 36] args.length (fun gn v3 v36 wj => ∃ (j r : Nat), Hid (gn + j = args.length) ∧ j ≤ args.length ∧ v36 = .int .i64 j ∧ v3 = .int .i64 r ∧ Hid (r = q ||| usL (args.take j)) ∧ w.grows wj)
          case atStart => exact ⟨0, q, rfl, Nat.zero_le _, rfl, rfl, Lib.hid (by rw [List.take_zero, usL, Nat.or_zero]), (by repeat (with_reducible first | assumption | exact grA | apply grB | apply grC | apply grD | refine grE ?_ (by omega) _ | refine grF ?_ (by omega) _ _))⟩
          case round =>
            clear e3 e4 zr hg
            obtain ⟨j, r, HK2, hj, rfl, rfl, HR, hg⟩ := hrel
            by_cases hlt2 : j < args.length
            · obtain ⟨a1', cap1, e0, hl1, hc1, hE1⟩ := HSL.out
              injection e0 with e1 e2 e3
              subst e1; subst e3
              rcases hE1 with h | ⟨g2, off2, rfl, hSg2, hcell2⟩
              · rw [h] at hlt2; cases hlt2
              obtain ⟨cs3, hl15, hel2, hfa⟩ := hcell2 j args[j] (by simp [hlt2])
              have htj : args.take (j + 1) = args.take j ++ [args[j]] := List.take_succ_eq_append_getElem hlt2
              have he2 := hel2.grows hg
              unfold eltAt at he2
              rw [hl15] at he2
              have zr2 := lt_sz (hel2.grows hg).lt
              have e5 : segOk (off2 + j * 15) 15 (wr.row g2) = true := he2.1
              have e6 : segV (off2 + j * 15) 15 (wr.row g2) = .agg cs3.toArray := he2.2
              have c2 := fun W (hW : w.grows W) => IH.out args[j] cs3 W S (hfa.grows hW)
              have hn8 : r < 256 := by rw [HR.out]; exact or8 hq8 (usL_lt _)
              have hf8 := usF_lt args[j]
              have hor := bits_or_nat hn8 hf8
              have hnx : (r ||| usF args[j]) = q ||| usL (args.take (j + 1)) := by rw [htj, usL_snoc, HR.out, Nat.or_assoc]
              generalize usF args[j] = X at *
              generalize args[j] = f at *
              obtain ⟨us2, ps2⟩ := f
              obtain ⟨hu72, hub2, v3, rfl, hps3⟩ := FormOk_us (⟨m, hfa⟩ : FormOk w S _ _)
              obtain ⟨a3, c3, rfl, hn3, hn4⟩ := hps3.len
              have C2 := Lib.hid c2; have HNX := Lib.hid hnx; have HOR := Lib.hid hor
              clear c2 hel2 he2 hfa hl15 hcell2 IH HP HUB HSL hub2 hps3 hnx hor htj
              go_wp2_with (first | (go_at_call 42; (with_reducible refine (C2.out _ (by repeat (with_reducible first | assumption | exact grA | apply grB | apply grC | apply grD | refine grE ?_ (by omega) _ | refine grF ?_ (by omega) _ _))).mono ?_); rintro e w1 ⟨rfl, x1, rfl⟩))
              go_roundg (args.length - (j + 1))
              case rel => exact ⟨j + 1, r ||| X, Lib.hid (by omega), by omega, by go_num, by rw [← HOR.out], HNX, (by repeat (with_reducible first | assumption | exact grA | apply grB | apply grC | apply grD | refine grE ?_ (by omega) _ | refine grF ?_ (by omega) _ _))⟩
              case measure => have := HK2.out; omega
            · obtain rfl : j = args.length := by omega
              have hr := HR.out
              rw [List.take_length] at hr
              have hr2 : r = u ||| usP (ps.take (k + 1)) := by rw [HTK.out, usP_snoc, hr, HQ.out, usQ, Nat.or_assoc]
              have HR2 := Lib.hid hr2
              clear hr hr2 HR
              go_wp2_with fail
              go_roundg (ps.length - (k + 1))
              case rel => exact ⟨k + 1, r, Lib.hid (by omega), by omega, by go_num, rfl, HR2, (by repeat (with_reducible first | assumption | exact grA | apply grB | apply grC | apply grD | refine grE ?_ (by omega) _ | refine grF ?_ (by omega) _ _))⟩
              case measure => have := HK.out; omega
        · obtain rfl : k = ps.length := by omega
          have hq := HQ.out
          rw [List.take_length, HU.out, ← usF] at hq
          have HQ2 := Lib.hid hq
          clear HQ HU hq
          go_wp2_with fail
          go_ret
          exact ⟨by rw [← HQ2.out]; rfl, (by repeat (with_reducible first | assumption | exact grA | apply grB | apply grC | apply grD | refine grE ?_ (by omega) _ | refine grF ?_ (by omega) _ _))⟩

theorem uses_all : ∀ (m : Nat), UsesIH m
  | 0 => fun _ _ _ _ h => h.elim
  | m + 1 => by
    intro f cs w S h
    obtain ⟨us, ps⟩ := f
    have IH := uses_all m
    obtain ⟨hu7, hub, v, rfl, hps⟩ := h
    obtain ⟨a, cap, rfl, h1, h2⟩ := hps.len
    exact uses_step m IH us ps a cap w S hu7 hub hps
end Go.Proofs.Ythmicnjigfcljaa
