/- For every list of claims the statement OrderShuffled answers true: the winners of a list turned about are the same claims, if no two are alike. No condition. -/
import Derived.Test.YtajkfmnnokkcaaaRows
import Derived.Test.YtajkfmnnokkcaaaShufP
import Derived.Test.YtajkfmnnokkcaaaArgsC
import Derived.Test.YtajkfmnnokkcaaaOrderTake
set_option linter.unusedSimpArgs false
set_option linter.unusedVariables false
namespace Go.Proofs.Ytajkfmnnokkcaaa
open Go.ChangeShapes Go.WideShapes Go.ChangeAt Go.RowKit
open Go.ChangeMaps (open_string shut_string)

set_option maxRecDepth 100000 in
set_option maxHeartbeats 8000000 in
theorem shuf_body (a : Option Addr) (cap N0 N : Nat) (l : List Cl) (w : World) (eN : l.length = N) (hN : N ≤ 60) (hNc : N0 ≤ cap) (hor : N = N0 ∧ ¬ 60 < N0 ∨ N = 60 ∧ 60 < N0) (hs : SlAt w (fun _ => True) 8 ClR (.slice a N cap) l) :
    Calls Try.prog 8 #[.slice a N0 cap] w (Gives w (.bool true)) := by
  have EN := Lib.hid eN; have HS := Lib.hid hs
  have h2 : cap ≤ 9223372036854775807 := by obtain ⟨_, _, e, _, h, _⟩ := hs; injection e with _ _ e3; omega
  have HOR := Lib.hid hor
  clear eN hs hor
  go_enter Try.func8, Try.ntmps8
  go_upto_if 14 with fail
  go_cut [0] (fun v0 wx => v0 = .slice a N cap ∧ wx = w)
  case first =>
    rcases HOR.out with ⟨rfl, h4⟩ | ⟨rfl, h4⟩
    · have n1 : ¬ (60 : Int) < (N : Int) := by omega
      go_wp2_with fail
      go_meet
      exact ⟨rfl, rfl⟩
    · have n1 : (60 : Int) < (N0 : Int) := by omega
      go_wp2_with fail
      go_meet
      exact ⟨rfl, rfl⟩
  case rest =>
    obtain ⟨rfl, rfl⟩ := hcut
    go_wp2_with fail
    go_loopg [19] N (fun gn v19 wj => ∃ i : Nat, Hid (gn + i = N ∧ i ≤ N ∧ Differ l i) ∧ v19 = .int .i64 i ∧ wc.grows wj)
    case atStart => exact ⟨0, Lib.hid ⟨rfl, Nat.zero_le _, fun i k h1 h2 => by omega⟩, by go_num, (by repeat (with_reducible first | assumption | exact grA | apply grB | apply grC | apply grD | refine grE ?_ (by omega) _ | refine grF ?_ (by omega) _ _))⟩
    case round =>
      obtain ⟨i1, HK, rfl, hg⟩ := hrel
      obtain ⟨k1, k2, k3⟩ := HK.out
      by_cases hlt : i1 < N
      · have n1 : (i1 : Int) < (N : Int) := by omega
        generalize wr = wo at *
        go_wp2_with fail
        go_loopg [23] i1 (fun gn v23 wj => ∃ k : Nat, Hid (gn + k = i1 ∧ k ≤ i1 ∧ ∀ q : Nat, q < k → (atC l i1).wk (atC l q) = true ∨ (atC l q).wk (atC l i1) = true) ∧ v23 = .int .i64 k ∧ wo.grows wj)
        case atStart => exact ⟨0, Lib.hid ⟨rfl, Nat.zero_le _, fun q h => by omega⟩, by go_num, (by repeat (with_reducible first | assumption | exact grA | apply grB | apply grC | apply grD | refine grE ?_ (by omega) _ | refine grF ?_ (by omega) _ _))⟩
        case round =>
          obtain ⟨k, HKi, rfl, hgi⟩ := hrel
          obtain ⟨m1, m2, m3⟩ := HKi.out
          have hgr : wc.grows wr := hg.trans hgi
          by_cases hlk : k < i1
          · have n2 : (k : Int) < (i1 : Int) := by omega
            have n3 : (k : Int) < (N : Int) := by omega
            have hNl := EN.out
            obtain ⟨a', cap', e', _, _, h3⟩ := HS.out
            injection e' with e1' e2' e3'
            subst e1'
            rcases h3 with h0 | ⟨g, off, rfl, _, h4⟩
            · rw [h0] at hNl; simp at hNl; omega
            have hgx := List.getElem?_eq_getElem (by omega : i1 < l.length)
            obtain ⟨cs, _, elx, ec, _⟩ := h4 i1 _ hgx
            have hatx := atC_get hgx
            generalize l[i1] = x at *
            subst ec
            have hgy := List.getElem?_eq_getElem (by omega : k < l.length)
            obtain ⟨cs, _, ely, ec, _⟩ := h4 k _ hgy
            have haty := atC_get hgy
            generalize l[k] = y at *
            subst ec
            replace elx := elx.grows hgr
            replace ely := ely.grows hgr
            have e1 : segOk (off + i1 * 8) 8 (wr.row g) = true := elx.1
            have e2 : segV (off + i1 * 8) 8 (wr.row g) = x.v := elx.2
            have e3 : segOk (off + k * 8) 8 (wr.row g) = true := ely.1
            have e4 : segV (off + k * 8) 8 (wr.row g) = y.v := ely.2
            have zg := lt_sz elx.lt
            have c1 := fun W => ordWeaker_any x y W
            have c2 := fun W => ordWeaker_any y x W
            change ∀ w, Calls _ _ _ w (Gives w (.bool (x.wk y))) at c1
            change ∀ w, Calls _ _ _ w (Gives w (.bool (y.wk x))) at c2
            have M3 : x.wk y = true ∨ y.wk x = true → ∀ q : Nat, q < k + 1 → (atC l i1).wk (atC l q) = true ∨ (atC l q).wk (atC l i1) = true := fun h q hq => by
              by_cases e : q = k
              · rw [e, hatx, haty]; exact h
              · exact m3 q (by omega)
            generalize x.wk y = B1 at *
            generalize y.wk x = B2 at *
            have C1 := Lib.hid c1; have C2 := Lib.hid c2; have MM := Lib.hid M3
            clear c1 c2 M3 hatx haty hgx hgy elx ely h4 hNl m3 HKi e2' e3'
            obtain ⟨q0, q1, q2, q3, q4, q5, q6, q7⟩ := x
            obtain ⟨y0, y1, y2, y3, y4, y5, y6, y7⟩ := y
            cases B1
            · cases B2
              · go_upto_region 9 with fail
                refine wp_region_plus_lit (by kernel_rfl) (by kernel_rfl) ?_
                repeat (go_big_quiet_step (first | (go_at_call 16; (with_reducible exact Calls.plus_of (C1.out _))) | (go_at_call 16; (with_reducible exact Calls.plus_of (C2.out _)))))
                (refine wpQuiet_nil ?_; intro _ hw'; obtain ⟨xq, hw''⟩ := hw'; subst hw'')
                go_wp2_with (first | (go_at_call 11; (with_reducible refine (awake20_any _).mono ?_); rintro e w1 ⟨rfl, x1, rfl⟩))
                go_ret
                exact ⟨rfl, (by repeat (with_reducible first | assumption | exact grA | apply grB | apply grC | apply grD | refine grE ?_ (by omega) _ | refine grF ?_ (by omega) _ _))⟩
              · go_upto_region 9 with fail
                refine wp_region_plus_lit (by kernel_rfl) (by kernel_rfl) ?_
                repeat (go_big_quiet_step (first | (go_at_call 16; (with_reducible exact Calls.plus_of (C1.out _))) | (go_at_call 16; (with_reducible exact Calls.plus_of (C2.out _)))))
                (refine wpQuiet_nil ?_; intro _ hw'; obtain ⟨xq, hw''⟩ := hw'; subst hw'')
                go_wp2_with fail
                go_roundg (i1 - (k + 1))
                case rel => exact ⟨k + 1, Lib.hid ⟨by omega, by omega, MM.out (.inr (by trivial))⟩, by go_num, (by repeat (with_reducible first | assumption | exact grA | apply grB | apply grC | apply grD | refine grE ?_ (by omega) _ | refine grF ?_ (by omega) _ _))⟩
                case measure => omega
            · go_upto_region 9 with fail
              refine wp_region_plus_lit (by kernel_rfl) (by kernel_rfl) ?_
              repeat (go_big_quiet_step (first | (go_at_call 16; (with_reducible exact Calls.plus_of (C1.out _))) | (go_at_call 16; (with_reducible exact Calls.plus_of (C2.out _)))))
              (refine wpQuiet_nil ?_; intro _ hw'; obtain ⟨xq, hw''⟩ := hw'; subst hw'')
              go_wp2_with fail
              go_roundg (i1 - (k + 1))
              case rel => exact ⟨k + 1, Lib.hid ⟨by omega, by omega, MM.out (.inl (by trivial))⟩, by go_num, (by repeat (with_reducible first | assumption | exact grA | apply grB | apply grC | apply grD | refine grE ?_ (by omega) _ | refine grF ?_ (by omega) _ _))⟩
              case measure => omega
          · obtain rfl : k = i1 := by omega
            have n2 : ¬ (k : Int) < (k : Int) := by omega
            go_wp2_with fail
            go_roundg (N - (k + 1))
            case rel => exact ⟨k + 1, Lib.hid ⟨by omega, by omega, fun i q h1 h2 => by
              by_cases e : i = k
              · rw [e]; exact m3 q (by omega)
              · exact k3 i q h1 (by omega)⟩, by go_num, hgr⟩
            case measure => omega
      · obtain rfl : i1 = N := by omega
        have n1 : ¬ (i1 : Int) < (i1 : Int) := by omega
        have HDF := Lib.hid k3
        clear HK k1 k2 k3
        generalize wr = wo at *
        go_wp2_with fail
        go_loopg [5, 6] i1 (fun gn v5 v6 wj => ∃ j : Nat, Hid (gn + j = i1 ∧ j ≤ i1) ∧ v6 = .int .i64 ((i1 : Int) - 1 - (j : Int)) ∧ wc.grows wj ∧ Hid (OwnAt wj wc.heap.size 34 8 ClR v5 (l.reverse.take j)))
        case atStart => exact ⟨0, Lib.hid ⟨rfl, Nat.zero_le _⟩, by go_num, (by repeat (with_reducible first | assumption | exact grA | apply grB | apply grC | apply grD | refine grE ?_ (by omega) _ | refine grF ?_ (by omega) _ _)), Lib.hid (OwnAt_nil _ _ _ _ _)⟩
        case round =>
          clear hg
          obtain ⟨j, HJ, rfl, hg, HO⟩ := hrel
          obtain ⟨j1, j2⟩ := HJ.out
          by_cases hlj : j < i1
          · obtain ⟨q, hq⟩ : ∃ q, q = i1 - 1 - j := ⟨_, rfl⟩
            have e6 : (i1 : Int) - 1 - (j : Int) = (q : Int) := by omega
            have n2 : (q : Int) < (i1 : Int) := by omega
            rw [e6]
            have hNl := EN.out
            obtain ⟨a', cap', e', _, _, h3⟩ := HS.out
            injection e' with e1' e2' e3'
            subst e1'
            rcases h3 with h0 | ⟨g, off, rfl, _, h4⟩
            · rw [h0] at hNl; simp at hNl; omega
            have hgx := List.getElem?_eq_getElem (by omega : q < l.length)
            obtain ⟨cs, _, elx, ec, wf⟩ := h4 q _ hgx
            have hrv : l.reverse[j]? = some l[q] := by rw [List.getElem?_reverse (by omega), show l.length - 1 - j = q by omega, hgx]
            generalize l[q] = x at *
            subst ec
            replace elx := elx.grows hg
            have e1 : segOk (off + q * 8) 8 (wr.row g) = true := elx.1
            have e2 : segV (off + q * 8) 8 (wr.row g) = x.v := elx.2
            have zg := lt_sz elx.lt
            obtain ⟨css, p1, p2, p3⟩ := HO.out
            have hlj2 : (l.reverse.take j).length = j := by simp; omega
            rw [hlj2] at p3
            have htk : l.reverse.take (j + 1) = l.reverse.take j ++ [x] := by rw [List.take_add_one, hrv]; rfl
            have q9 := hg.below.size
            have P1 := Lib.hid p1; have P2 := Lib.hid p2; have P3 := Lib.hid p3; have HTK := Lib.hid htk; have WF := Lib.hid wf; have HL2 := Lib.hid hlj2
            clear p1 p2 p3 htk wf hlj2 hrv hgx elx h4 hNl e2' e3' HO HJ e6
            have e7 : IntKind.wrap .i64 ((q : Int) - 1) = (i1 : Int) - 1 - ((j + 1 : Nat) : Int) := by rw [wrapI (by omega) (by omega)]; omega
            have e8 : (q : Int) - 1 = (i1 : Int) - 1 - ((j + 1 : Nat) : Int) := by omega
            have E8 := Lib.hid e8
            clear e8 hq
            obtain ⟨q0, q1, q2, q3, q4, q5, q6, q7⟩ := x
            go_wp2_with (first | (at_builtin; refine wpList_app wc (wc.heap.size) rfl (.tmp 58) (.tmp 63) _ rfl 34 (.agg #[.string ByteArray.empty, .int .i64 0, .bool false, .int .i64 0, .int .i64 0, .int .i64 0, .int .i64 0, .int .i64 0]) 8 72 Try.underlying22 (by kernel_rfl) rfl (by omega) (by omega) _ j _ rfl (P3.out.grows (by repeat (with_reducible first | assumption | exact grA | apply grB | apply grC | apply grD | refine grE ?_ (by omega) _ | refine grF ?_ (by omega) _ _))) _ 1 _ [.string q0, .int .i64 q1, .bool q2, .int .i64 q3, .int .i64 q4, .int .i64 q5, .int .i64 q6, .int .i64 q7] rfl rfl (cells_of_row (e := 34) (fr := (0, 0)) (by simp [go_sem])) (by simp [Value.oneCell']) (by omega) (by repeat (with_reducible first | assumption | exact grA | apply grB | apply grC | apply grD | refine grE ?_ (by omega) _ | refine grF ?_ (by omega) _ _)) (by omega) (by simp; omega) ?_; intro v' w' hg' HO' HR' HG' HA'))
            go_roundg (i1 - (j + 1))
            case rel => exact ⟨j + 1, Lib.hid ⟨by omega, by omega⟩, by go_num, hg', Lib.hid (by
              rw [HTK.out]
              refine OwnAt.append (R := ClR) (css' := [[.string q0, .int .i64 q1, .bool q2, .int .i64 q3, .int .i64 q4, .int .i64 q5, .int .i64 q6, .int .i64 q7]]) P1.out P2.out rfl (fun i x c hx hc => ?_) (fun _ _ h => h) (by rw [HL2.out]; simpa using HO'.out)
              match i with
              | 0 =>
                cases hx; cases hc
                exact ⟨rfl, rfl, WF.out⟩
              | i + 1 => simp at hx)⟩
            case measure => omega
          · obtain rfl : j = i1 := by omega
            have n2 : ¬ (0 : Int) ≤ (j : Int) - 1 - (j : Int) := by omega
            have hB : SlAt wr (fun _ => True) 8 ClR u5 l.reverse := by
              have := HO.out.slAt (S := fun _ => True) (by omega) fun _ _ => trivial
              rw [List.take_of_length_le (by rw [List.length_reverse, EN.out]; omega)] at this
              exact this
            have hA : SlAt wr (fun _ => True) 8 ClR (.slice a j cap) l := HS.out.cl hg
            have hNl := EN.out
            obtain ⟨a5, c5, rfl, hc5, hc6⟩ := hB.len
            rw [List.length_reverse, hNl] at hB hc5
            have c1 := ordWinners_any _ l wr hA (by omega)
            have c2 := fun W hgW => ordWinners_any _ l.reverse W (SlAt.cl hB (W := W) hgW) (by rw [List.length_reverse]; omega)
            have hrl : (l.reverse).length = j := by rw [List.length_reverse, hNl]
            rw [hrl]
            have hrm : l.reverse.all Cl.may = l.all Cl.may := List.all_reverse
            cases hall : l.all Cl.may with
            | false =>
              have d1 : Calls Try.prog 14 #[.slice a j cap] wr fun e w' => e = .returned (.tuple #[.slice none 0 0, .int .i64 1]) ∧ wr.grows w' := c1.mono fun e w' hs => by
                obtain ⟨hg, ⟨_, e1⟩ | ⟨hh, _⟩⟩ := hs
                · exact ⟨e1, hg⟩
                · rw [hall] at hh; cases hh
              have d2 : ∀ W, wr.grows W → Calls Try.prog 14 #[.slice a5 j c5] W fun e w' => e = .returned (.tuple #[.slice none 0 0, .int .i64 1]) ∧ W.grows w' := fun W hgW => (c2 W hgW).mono fun e w' hs => by
                obtain ⟨hg, ⟨_, e1⟩ | ⟨hh, _⟩⟩ := hs
                · exact ⟨e1, hg⟩
                · rw [hrm, hall] at hh; cases hh
              have D1 := Lib.hid d1; have D2 := Lib.hid d2
              clear d1 d2 c1 c2 hA hB hrl hrm hall hNl HO
              go_wp2_with (first | (go_at_call 14; (with_reducible refine (D1.out).mono ?_); rintro e w1 ⟨rfl, hg1⟩) | (go_at_call 14; (with_reducible refine (D2.out _ (by repeat (with_reducible first | assumption | exact grA | apply grB | apply grC | apply grD | refine grE ?_ (by omega) _ | refine grF ?_ (by omega) _ _))).mono ?_); rintro e w2 ⟨rfl, hg2⟩; have hgw2 : wc.grows w2 := (hg.trans hg1).trans hg2))
              go_loopg [87] 0 (fun gn v87 wj => gn = 0 ∧ v87 = .int .i64 0 ∧ wc.grows wj)
              case atStart => exact ⟨rfl, by go_num, hgw2⟩
              case round =>
                obtain ⟨_, rfl, hgx⟩ := hrel
                go_wp2_with (first | (go_at_call 11; (with_reducible refine (awake20_any _).mono ?_); rintro e w1 ⟨rfl, x1, rfl⟩))
                go_ret
                exact ⟨rfl, (by repeat (with_reducible first | assumption | exact grA | apply grB | apply grC | apply grD | refine grE ?_ (by omega) _ | refine grF ?_ (by omega) _ _))⟩
            | true =>
              have hdf : Differ l l.length := by rw [hNl]; exact HDF.out
              have d1 : Calls Try.prog 14 #[.slice a j cap] wr fun e w' => ∃ (v : Value) (V : List Int), e = .returned (.tuple #[v, .int .i64 0]) ∧ wr.grows w' ∧ Hid (IntsAt w' v V ∧ Wins l V) := c1.mono fun e w' hs => by
                obtain ⟨hg, ⟨hh, _⟩ | ⟨_, v, V, h1, h2, h3⟩⟩ := hs
                · rw [hall] at hh; cases hh
                · exact ⟨v, V, h1, hg, Lib.hid ⟨IntsAt_own h3, h2⟩⟩
              have d2 : ∀ W, wr.grows W → Calls Try.prog 14 #[.slice a5 j c5] W fun e w' => ∃ (v : Value) (V : List Int), e = .returned (.tuple #[v, .int .i64 0]) ∧ W.grows w' ∧ Hid (IntsAt w' v V ∧ Wins l.reverse V) := fun W hgW => (c2 W hgW).mono fun e w' hs => by
                obtain ⟨hg, ⟨hh, _⟩ | ⟨_, v, V, h1, h2, h3⟩⟩ := hs
                · rw [hrm, hall] at hh; cases hh
                · exact ⟨v, V, h1, hg, Lib.hid ⟨IntsAt_own h3, h2⟩⟩
              have D1 := Lib.hid d1; have D2 := Lib.hid d2; have HA := Lib.hid hA; have HB := Lib.hid hB; have DF := Lib.hid hdf
              clear d1 d2 c1 c2 hA hB hrl hrm hall hNl HO hdf
              go_upto_region 20 with (first | (go_at_call 14; (with_reducible refine (D1.out).mono ?_); rintro e w1 ⟨v1, V1, rfl, hg1, HI1⟩) | (go_at_call 14; (with_reducible refine (D2.out _ (by repeat (with_reducible first | assumption | exact grA | apply grB | apply grC | apply grD | refine grE ?_ (by omega) _ | refine grF ?_ (by omega) _ _))).mono ?_); rintro e w2 ⟨v2, V2, rfl, hg2, HI2⟩; have hgr2 : wr.grows w2 := hg1.trans hg2; have hgw2 : wc.grows w2 := hg.trans hgr2))
              have hEq := rev_wins DF.out HI1.out.2 HI2.out.2
              have hlen : V2.length = V1.length := by have := congrArg List.length hEq; simpa using this.symm
              obtain ⟨b1, c1, rfl, hc1, hc1', k1⟩ := HI1.out.1
              obtain ⟨b2, c2, rfl, hc2, hc2', k2⟩ := HI2.out.1
              rw [hlen] at hc2 ⊢
              have hat : ∀ (i : Nat) (u v : Int), V1[i]? = some u → V2[i]? = some v → atC l u = atC l.reverse v := fun i u v hu hv => by
                have := congrArg (fun x => x[i]?) hEq
                simpa [hu, hv] using this
              have K1 := Lib.hid k1; have K2 := Lib.hid k2; have HAT := Lib.hid hat; have HV1 := Lib.hid HI1.out.2; have HV2 := Lib.hid HI2.out.2; have HLN := Lib.hid hlen
              clear k1 k2 hat hEq hlen HI1 HI2 D1 D2
              generalize hM : V1.length = M at *
              have HMM := Lib.hid hM
              clear hM
              generalize wr = wq at *
              go_wp2_with fail
              go_loopg [87] M (fun gn v87 wj => ∃ i : Nat, Hid (gn + i = M ∧ i ≤ M) ∧ v87 = .int .i64 i ∧ w2.grows wj)
              case atStart => exact ⟨0, Lib.hid ⟨rfl, Nat.zero_le _⟩, by go_num, (by repeat (with_reducible first | assumption | exact grA | apply grB | apply grC | apply grD | refine grE ?_ (by omega) _ | refine grF ?_ (by omega) _ _))⟩
              case round =>
                obtain ⟨i, HKi, rfl, hgi⟩ := hrel
                obtain ⟨m1, m2⟩ := HKi.out
                by_cases hli : i < M
                · have n3 : (i : Int) < (M : Int) := by omega
                  have hm1 := HMM.out; have hm2 := HLN.out
                  have t1 := List.getElem?_eq_getElem (by omega : i < V1.length)
                  have t2 := List.getElem?_eq_getElem (by omega : i < V2.length)
                  obtain ⟨m, em, hm, _⟩ := HV1.out.val _ (List.getElem_mem (by omega : i < V1.length))
                  obtain ⟨q, eq, hq, _⟩ := HV2.out.val _ (List.getElem_mem (by omega : i < V2.length))
                  rw [em] at t1; rw [eq] at t2
                  have hxy := HAT.out i _ _ t1 t2
                  rcases K1.out with hnil | ⟨g1, o1, rfl, _, hel1⟩
                  · rw [hnil] at t1; simp at t1
                  rcases K2.out with hnil | ⟨g2, o2, rfl, _, hel2⟩
                  · rw [hnil] at t2; simp at t2
                  obtain ⟨cs1, _, el1, rfl⟩ := hel1 i _ t1
                  obtain ⟨cs2, _, el2, rfl⟩ := hel2 i _ t2
                  have a1 := ((el1.grows hg2).grows hgi).cell (j := 0) rfl
                  have a2 := (el2.grows hgi).cell (j := 0) rfl
                  rw [World.cell?_row, Nat.add_zero, Nat.mul_one] at a1 a2
                  have za1 := lt_sz ((el1.grows hg2).grows hgi).lt
                  have za2 := lt_sz (el2.grows hgi).lt
                  have hNl := EN.out
                  obtain ⟨a', cap', e', _, _, h3⟩ := HA.out
                  injection e' with e1' e2' e3'
                  subst e1'
                  rcases h3 with h0 | ⟨g, off, rfl, _, h4⟩
                  · rw [h0] at hm; simp at hm
                  obtain ⟨a'', cap'', e'', _, _, h5⟩ := HB.out
                  injection e'' with e1'' e2'' e3''
                  subst e1''
                  rcases h5 with h0 | ⟨g5, o5, rfl, _, h6⟩
                  · rw [h0] at hq; simp at hq
                  have hgx := List.getElem?_eq_getElem hm
                  have hgy := List.getElem?_eq_getElem hq
                  rw [atC_get hgx, atC_get hgy] at hxy
                  obtain ⟨cs, _, elx, ec, wf1⟩ := h4 m _ hgx
                  obtain ⟨cs', _, ely, ec', wf2⟩ := h6 q _ hgy
                  clear wf1 wf2
                  rw [← hxy] at ec'
                  generalize l[m] = x at *
                  subst ec; subst ec'
                  replace elx := (elx.grows hgr2).grows hgi
                  replace ely := (ely.grows hgr2).grows hgi
                  have e1 : segOk (off + m * 8) 8 (wr.row g) = true := elx.1
                  have e2 : segV (off + m * 8) 8 (wr.row g) = x.v := elx.2
                  have e3 : segOk (o5 + q * 8) 8 (wr.row g5) = true := ely.1
                  have e4 : segV (o5 + q * 8) 8 (wr.row g5) = x.v := ely.2
                  have zg := lt_sz elx.lt
                  have zg5 := lt_sz ely.lt
                  have n4 : (m : Int) < (j : Int) := by omega
                  have n5 : (q : Int) < (j : Int) := by rw [List.length_reverse] at hq; omega
                  have hE := fun W => eqClaim_same x W
                  clear hel1 hel2 el1 el2 h4 h6 elx ely hgx hgy t1 t2 hm hq hxy hNl em eq e2' e3' e2'' e3'' hm1 hm2
                  obtain ⟨q0, q1, q2, q3, q4, q5, q6, q7⟩ := x
                  go_upto_region 25 with fail
                  refine wp_region_plus_lit (by kernel_rfl) (by kernel_rfl) ?_
                  repeat (go_big_quiet_step (fail))
                  (refine wpQuiet_nil ?_; intro _ hw'; obtain ⟨xq, hw''⟩ := hw'; subst hw'')
                  go_wp2_with fail
                  go_roundg (M - (i + 1))
                  case rel => exact ⟨i + 1, Lib.hid ⟨by omega, by omega⟩, by go_num, (by repeat (with_reducible first | assumption | exact grA | apply grB | apply grC | apply grD | refine grE ?_ (by omega) _ | refine grF ?_ (by omega) _ _))⟩
                  case measure => omega
                · have n3 : ¬ (i : Int) < (M : Int) := by omega
                  have hgz : wc.grows wr := hgw2.trans hgi
                  go_wp2_with (first | (go_at_call 11; (with_reducible refine (awake20_any _).mono ?_); rintro e w1 ⟨rfl, x1, rfl⟩))
                  go_ret
                  exact ⟨rfl, (by repeat (with_reducible first | assumption | exact grA | apply grB | apply grC | apply grD | refine grE ?_ (by omega) _ | refine grF ?_ (by omega) _ _))⟩

theorem orderShuffled_any (v : Value) (l : List Cl) (w : World) (h : SlAt w (fun _ => True) 8 ClR v l) : Calls Try.prog 8 #[v] w (Gives w (.bool true)) := by
  have h0 := h
  obtain ⟨a, cap, rfl, h1, h2, _⟩ := h
  by_cases h4 : 60 < l.length
  · exact shuf_body a cap _ 60 (l.take 60) w (by simp; omega) (by omega) h1 (.inr ⟨rfl, h4⟩) (h0.take (by omega))
  · exact shuf_body a cap _ _ l w rfl (by omega) h1 (.inl ⟨rfl, h4⟩) h0

theorem orderShuffled_own : ownKnob Try.prog.godebug = none := by kernel_rfl
theorem orderShuffled_laidOut : laidOutB Try.prog = true := by kernel_rfl
set_option maxRecDepth 100000 in
set_option maxHeartbeats 2000000 in
theorem orderShuffled_lifted (os : Os) (started : os.Started) (H : Type) (enc : TypeId × Value → H) :
    ReturnsInHanded {} Try.checked os 8 .any (Rows.orderShuffledSpec.pre6 enc Try.prog Try.f8 Rows.orderShuffledRow.domain false) (Rows.orderShuffledSpec.post enc Try.prog Try.f8 false true false false) := by
  refine returnsInHanded_of_change (C := Try.checked) orderShuffled_own started (by kernel_rfl) Try.func8
    (ChangeSpec.witness6 (enc := enc) (C := Try.checked) false ⟨#[], #[.slice none 0 0], []⟩ 8 (by kernel_rfl) (by kernel_rfl) (by kernel_rfl) (by kernel_rfl)) ?_
  intro W base args ds gs before hval0 hW hcnd _
  have hval : ∀ (j : Nat) t v, Try.f8.params[j]? = some t → args[j]? = some v → Value.okWide Try.prog W .any base t v := hval0
  have hW' := hW
  obtain ⟨p, q, hA0, hV, rfl, hfz, hnd⟩ := hW
  have hA : DataW.TrodAll enc Try.prog W 0 (fun _ => true) true Try.f8.params.toList args.toList ds p := hA0
  rw [Try.params8] at hA hval
  obtain ⟨v0, vs0, d0, ds0, p0, q0, hargs, rfl, rfl, h0, r0⟩ := trodAll_cons hA
  obtain ⟨rfl, rfl, rfl⟩ := trodAll_nil r0
  obtain rfl : args = #[v0] := by cases args; simp_all
  obtain ⟨rfl, rfl⟩ := trodVars_none hV
  have k0 := h0
  have lt0 : ∀ x ∈ p0, x.block < W.heap.size := by obtain ⟨m, hm⟩ := k0; exact DataW.trod_lt m _ _ _ hm
  obtain ⟨l, h_l⟩ := claims_arg (hval 0 22 v0 rfl rfl) h0
  clear hA0 hval0
  refine (orderShuffled_any v0 l W h_l).mono fun e W' ⟨he, grw⟩ => ?_
  subst he
  have bel := grw.below
  exact ⟨_, rfl, _, _, _, [], _, [], hW', trodAll_mk1 (shut_bool Try.underlying4 _), (trodAll_cons_mk (Below.trod orderShuffled_laidOut (by kernel_rfl) (of_decide_eq_true (by kernel_rfl)) k0 bel lt0) trodAll_mk0), rfl, bel.frame _, fun h => by cases h⟩

/-- THE STATEMENT -/
theorem orderShuffled_holds : Rows.OrderShuffledSaid :=
  OpenClaim.holds_of_wide 8 Try.f8 rfl rfl rfl rfl rfl rfl rfl ⟨rfl, rfl, rfl, rfl, rfl⟩ rfl rfl rfl rfl rfl (by kernel_rfl) Try.func8 (by kernel_rfl)
    (of_decide_eq_true (by kernel_rfl)) (by unfold Func.isWrapper; first | (rw [if_pos (by decide +kernel)]; kernel_rfl) | (rw [if_neg (by decide +kernel)]; exact ⟨rfl, rfl⟩))
    (fun os started H enc _ => orderShuffled_lifted os started H enc)
#print axioms orderShuffled_holds

end Go.Proofs.Ytajkfmnnokkcaaa
