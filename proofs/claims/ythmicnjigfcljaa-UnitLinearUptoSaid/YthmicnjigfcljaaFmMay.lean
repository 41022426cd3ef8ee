/- WALKS over norm and over the document's answer: which forms may be. No condition but that the form stands in memory. (printed by wip/mkfmmay.py) -/
import Derived.Test.YthmicnjigfcljaaMo
import Derived.Test.YthmicnjigfcljaaMq
import Derived.Test.YthmicnjigfcljaaMi
set_option linter.unusedSimpArgs false
set_option linter.unusedVariables false
namespace Go.Proofs.Ythmicnjigfcljaa
open Go.RowKit

def normMayFIH (n : Nat) : Prop := ∀ (f : Fm) (cs : List Value) (d : Nat) (w : World) (S : Nat → Prop), FormOk w S f cs → d + n = 341 → Calls Try.prog 91 #[.agg cs.toArray, .int .i64 (d : Int)] w (Gives w (.bool (mayF n f)))

set_option maxRecDepth 100000 in
set_option maxHeartbeats 4000000 in
theorem normMayF_zero (us : List (Int × Int)) (ps : List (Bool × List Fm)) (a0 : Option Addr) (c0 : Nat) (w : World) (hu7 : us.length = 7) :
    Calls Try.prog 91 #[.agg (formC us (.slice a0 ps.length c0)).toArray, .int .i64 341] w (Gives w (.bool false)) := by
  go_enter Try.func91, Try.ntmps91
  go_wp2_with fail
  go_ret
  exact ⟨rfl, (by repeat (with_reducible first | assumption | exact grA | apply grB | apply grC | apply grD | refine grE ?_ (by omega) _ | refine grF ?_ (by omega) _ _))⟩

set_option maxRecDepth 100000 in
set_option maxHeartbeats 4000000 in
theorem normMayF_step (n : Nat) (IH0 : normMayFIH n) (us : List (Int × Int)) (ps : List (Bool × List Fm)) (a0 : Option Addr) (c0 : Nat) (d : Nat) (w : World) (S : Nat → Prop) (hu7 : us.length = 7) (hub : ∀ p ∈ us, I64p p)
    (hps : SlAt w S 2 (PartR (FormOk w S) w S) (.slice a0 ps.length c0) ps) (hd : d + (n + 1) = 341) :
    Calls Try.prog 91 #[.agg (formC us (.slice a0 ps.length c0)).toArray, .int .i64 (d : Int)] w (Gives w (.bool (mayF (n + 1) (.mk us ps)))) := by
  have t0 : ¬ (340 : Int) < (d : Int) := by omega
  generalize hres : mayF (n + 1) (.mk us ps) = res
  rw [mayF_succ] at hres
  have IH := Lib.hid IH0; have HP := Lib.hid hps; have HUB := Lib.hid hub; have HRES := Lib.hid hres
  clear IH0 hps hub hres
  go_enter Try.func91, Try.ntmps91
  go_wp2_with fail
  go_loopg [15] 7 (fun gn v15 wj => ∃ i : Nat, Hid (gn + i = 7) ∧ i ≤ 7 ∧ v15 = .int .i64 i ∧ w.grows wj ∧ wj.row w.heap.size = some (.cells (formC us (.slice a0 ps.length c0)).toArray 30) ∧ Hid (((us.drop i).all mayU && ps.all (mayPart n)) = res))
  case atStart => exact ⟨0, rfl, by omega, rfl, (by repeat (with_reducible first | assumption | exact grA | apply grB | apply grC | apply grD | refine grE ?_ (by omega) _ | refine grF ?_ (by omega) _ _)), by simp [go_sem], HRES.out⟩
  case round =>
    obtain ⟨i, HK, hi, rfl, hg, hx0, HB⟩ := hrel
    have z0 := row_sz' hx0
    by_cases hi7 : i < 7
    · have hb := uGet_bd HUB.out i
      have c1 := fun W => may_any (uGet us i).1 (uGet us i).2 W hb.1.1 hb.1.2 hb.2.1 hb.2.2
      have hB := HB.out
      rw [all_drop _ (by omega : i < us.length), Bool.and_assoc, ← uGet_eq, mayU] at hB
      generalize mayB (uGet us i).1 (uGet us i).2 = B at *
      have C1 := Lib.hid c1; have HIB := Lib.hid hb; clear c1 hb HB HRES IH HP HUB
      cases B
      · rw [Bool.false_and] at hB
        subst hB
        go_wp2_with (first | (go_at_call 93; (with_reducible refine (C1.out _).mono ?_); rintro e w1 ⟨rfl, x1, rfl⟩))
        go_ret
        exact ⟨rfl, (by repeat (with_reducible first | assumption | exact grA | apply grB | apply grC | apply grD | refine grE ?_ (by omega) _ | refine grF ?_ (by omega) _ _))⟩
      · rw [Bool.true_and] at hB
        have HB' := Lib.hid hB; clear hB
        go_wp2_with (first | (go_at_call 93; (with_reducible refine (C1.out _).mono ?_); rintro e w1 ⟨rfl, x1, rfl⟩))
        go_roundg (7 - (i + 1))
        case rel => exact ⟨i + 1, Lib.hid (by omega), by omega, by go_num, (by repeat (with_reducible first | assumption | exact grA | apply grB | apply grC | apply grD | refine grE ?_ (by omega) _ | refine grF ?_ (by omega) _ _)), by simp [go_sem, hx0, z0], HB'.out⟩
        case measure => have := HK.out; omega
    · obtain rfl : i = 7 := by omega
      have hB := HB.out
      rw [List.drop_of_length_le (by omega), List.all_nil, Bool.true_and] at hB
      have HB2 := Lib.hid hB
      clear HB HRES hB HK hi hi7
      go_wp2_with fail
      go_loopg [25] ps.length (fun gn v25 wj => ∃ k : Nat, Hid (gn + k = ps.length) ∧ k ≤ ps.length ∧ v25 = .int .i64 k ∧ w.grows wj ∧ Hid ((ps.drop k).all (mayPart n) = res))
      case atStart => exact ⟨0, rfl, Nat.zero_le _, rfl, (by repeat (with_reducible first | assumption | exact grA | apply grB | apply grC | apply grD | refine grE ?_ (by omega) _ | refine grF ?_ (by omega) _ _)), HB2.out⟩
      case round =>
        clear hx0 z0 hg HB2
        obtain ⟨k, HK, hk, rfl, hg, HB⟩ := hrel
        by_cases hlt : k < ps.length
        · obtain ⟨a0', cap0, e0, hl0, hc0, hE0⟩ := HP.out
          injection e0 with e1 e2 e3
          subst e1; subst e3
          rcases hE0 with h | ⟨g, off, rfl, hSg, hcell⟩
          · rw [h] at hlt; cases hlt
          obtain ⟨cs', hl2, hel, v', rfl, hsl⟩ := hcell k ps[k] (by simp [hlt])
          have he := hel.grows hg
          unfold eltAt at he
          have zr := lt_sz (hel.grows hg).lt
          have hB := HB.out
          rw [all_drop _ hlt] at hB
          generalize hpk : ps[k] = p at *
          obtain ⟨b, args⟩ := p
          obtain ⟨a1, c1, rfl, hn1, hn2⟩ := hsl.len
          have e3 : segOk (off + k * 2) 2 (wr.row g) = true := he.1
          have e4 : segV (off + k * 2) 2 (wr.row g) = .agg #[.bool b, .slice a1 args.length c1] := he.2
          have HSL := Lib.hid hsl
          clear hcell hel he hsl hl2 HB hpk
          by_cases ha : args.length = 0
          · obtain rfl := List.length_eq_zero_iff.1 ha
            have : mayPart n (b, []) = false := rfl
            rw [this, Bool.false_and] at hB
            subst hB
            clear ha this HSL
            go_wp2_with fail
            go_ret
            exact ⟨rfl, (by repeat (with_reducible first | assumption | exact grA | apply grB | apply grC | apply grD | refine grE ?_ (by omega) _ | refine grF ?_ (by omega) _ _))⟩
          · have ha1 : (args.length == 0) = false := by simpa using ha
            have ha2 : ((args.length : Int) == 0) = false := by simpa using ha
            have hq : mayPart n (b, args) = args.all (mayF n) := by simp [mayPart, ha]
            rw [hq] at hB
            have HB3 := Lib.hid hB
            clear hB hq ha
            go_wp2_with fail
            clear ha1 ha2
            go_loopg [36] args.length (fun gn v36 wj => ∃ j : Nat, Hid (gn + j = args.length) ∧ j ≤ args.length ∧ v36 = .int .i64 j ∧ w.grows wj ∧ Hid (((args.drop j).all (mayF n) && (ps.drop (k + 1)).all (mayPart n)) = res))
            case atStart => exact ⟨0, rfl, Nat.zero_le _, rfl, (by repeat (with_reducible first | assumption | exact grA | apply grB | apply grC | apply grD | refine grE ?_ (by omega) _ | refine grF ?_ (by omega) _ _)), HB3.out⟩
            case round =>
              clear e3 e4 zr hg HB3
              obtain ⟨j, HK2, hj, rfl, hg, HB⟩ := hrel
              by_cases hlt2 : j < args.length
              · obtain ⟨a1', cap1, e0, hl1, hc1, hE1⟩ := HSL.out
                injection e0 with e1 e2 e3
                subst e1; subst e3
                rcases hE1 with h | ⟨g2, off2, rfl, hSg2, hcell2⟩
                · rw [h] at hlt2; cases hlt2
                obtain ⟨cs3, hl15, hel2, hfa⟩ := hcell2 j args[j] (by simp [hlt2])
                have he2 := hel2.grows hg
                unfold eltAt at he2
                rw [hl15] at he2
                have zr2 := lt_sz (hel2.grows hg).lt
                have e5 : segOk (off2 + j * 15) 15 (wr.row g2) = true := he2.1
                have e6 : segV (off2 + j * 15) 15 (wr.row g2) = .agg cs3.toArray := he2.2
                have hB := HB.out
                rw [all_drop _ hlt2, Bool.and_assoc] at hB
                have c2 := fun W (hW : w.grows W) => IH.out args[j] cs3 (d + 1) W S (hfa.grows hW) (by omega)
                rw [show ((d + 1 : Nat) : Int) = (d : Int) + 1 by omega] at c2
                generalize mayF n args[j] = B at *
                generalize args[j] = f at *
                obtain ⟨us2, ps2⟩ := f
                obtain ⟨hu72, hub2, v3, rfl, hps3⟩ := FormOk_us hfa
                obtain ⟨a3, c3, rfl, hn3, hn4⟩ := hps3.len
                have C2 := Lib.hid c2; clear c2 HB hel2 he2 hfa hl15 hcell2 IH HP HUB HSL hub2 hps3
                cases B
                · rw [Bool.false_and] at hB
                  subst hB
                  go_wp2_with (first | (go_at_call 91; (with_reducible refine (C2.out _ (by repeat (with_reducible first | assumption | exact grA | apply grB | apply grC | apply grD | refine grE ?_ (by omega) _ | refine grF ?_ (by omega) _ _))).mono ?_); rintro e w1 ⟨rfl, x1, rfl⟩))
                  go_ret
                  exact ⟨rfl, (by repeat (with_reducible first | assumption | exact grA | apply grB | apply grC | apply grD | refine grE ?_ (by omega) _ | refine grF ?_ (by omega) _ _))⟩
                · rw [Bool.true_and] at hB
                  have HB' := Lib.hid hB; clear hB
                  go_wp2_with (first | (go_at_call 91; (with_reducible refine (C2.out _ (by repeat (with_reducible first | assumption | exact grA | apply grB | apply grC | apply grD | refine grE ?_ (by omega) _ | refine grF ?_ (by omega) _ _))).mono ?_); rintro e w1 ⟨rfl, x1, rfl⟩))
                  go_roundg (args.length - (j + 1))
                  case rel => exact ⟨j + 1, Lib.hid (by omega), by omega, by go_num, (by repeat (with_reducible first | assumption | exact grA | apply grB | apply grC | apply grD | refine grE ?_ (by omega) _ | refine grF ?_ (by omega) _ _)), HB'.out⟩
                  case measure => have := HK2.out; omega
              · obtain rfl : j = args.length := by omega
                have hB := HB.out
                rw [List.drop_length, List.all_nil, Bool.true_and] at hB
                have HB' := Lib.hid hB; clear hB HB
                go_wp2_with fail
                go_roundg (ps.length - (k + 1))
                case rel => exact ⟨k + 1, Lib.hid (by omega), by omega, by go_num, (by repeat (with_reducible first | assumption | exact grA | apply grB | apply grC | apply grD | refine grE ?_ (by omega) _ | refine grF ?_ (by omega) _ _)), HB'.out⟩
                case measure => have := HK.out; omega
        · obtain rfl : k = ps.length := by omega
          have hB := HB.out
          rw [List.drop_length, List.all_nil] at hB
          subst hB
          clear HB
          go_wp2_with fail
          go_ret
          exact ⟨rfl, (by repeat (with_reducible first | assumption | exact grA | apply grB | apply grC | apply grD | refine grE ?_ (by omega) _ | refine grF ?_ (by omega) _ _))⟩

theorem normMayF_all : ∀ (n : Nat), normMayFIH n
  | 0 => by
    intro f cs d w S h hd
    obtain ⟨us, ps⟩ := f
    obtain ⟨hu7, _, v, rfl, hps⟩ := FormOk_us h
    obtain ⟨a, c, rfl, _⟩ := hps.len
    obtain rfl : d = 341 := by omega
    exact normMayF_zero us ps a c w hu7
  | n + 1 => by
    intro f cs d w S h hd
    obtain ⟨us, ps⟩ := f
    obtain ⟨hu7, hub, v, rfl, hps⟩ := FormOk_us h
    obtain ⟨a, c, rfl, _⟩ := hps.len
    exact normMayF_step n (normMayF_all n) us ps a c d w S hu7 hub hps hd

set_option maxRecDepth 100000 in
set_option maxHeartbeats 4000000 in
theorem normMayFMay_any (f : Fm) (cs : List Value) (w : World) (S : Nat → Prop) (h : FormOk w S f cs) :
    Calls Try.prog 61 #[.agg cs.toArray] w (Gives w (.bool (mayF 340 f))) := by
  have c1 : ∀ W, w.grows W → Calls Try.prog 91 #[.agg cs.toArray, .int .i64 1] W (Gives W (.bool (mayF 340 f))) := fun W (hW : w.grows W) => normMayF_all 340 f cs 1 W S (h.grows hW) rfl
  generalize mayF 340 f = B at *
  obtain ⟨us, ps⟩ := f
  obtain ⟨hu7, _, v, rfl, hps⟩ := FormOk_us h
  obtain ⟨a, c, rfl, _⟩ := hps.len
  have C1 := Lib.hid c1; clear c1 h hps
  go_enter Try.func61, Try.ntmps61
  go_wp2_with (first | (go_at_call 91; (with_reducible refine (C1.out _ (by repeat (with_reducible first | assumption | exact grA | apply grB | apply grC | apply grD | refine grE ?_ (by omega) _ | refine grF ?_ (by omega) _ _))).mono ?_); rintro e w1 ⟨rfl, x1, rfl⟩))
  go_ret
  exact ⟨rfl, (by repeat (with_reducible first | assumption | exact grA | apply grB | apply grC | apply grD | refine grE ?_ (by omega) _ | refine grF ?_ (by omega) _ _))⟩

end Go.Proofs.Ythmicnjigfcljaa
