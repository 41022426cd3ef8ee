/- For every list of claims and every place the statement OrderTaken answers true: a claim that is weaker than another one of its name may be taken away; a winner is weaker than none. No condition. -/
import Derived.Test.YtajkfmnnokkcaaaRows
import Derived.Test.YtajkfmnnokkcaaaTakeP
import Derived.Test.YtajkfmnnokkcaaaArgsC
import Derived.Test.YtajkfmnnokkcaaaOrderTake
import Derived.Test.YtajkfmnnokkcaaaSeqOwn
set_option linter.unusedSimpArgs false
set_option linter.unusedVariables false
namespace Go.Proofs.Ytajkfmnnokkcaaa
open Go.ChangeShapes Go.WideShapes Go.ChangeAt Go.RowKit
open Go.ChangeMaps (open_string shut_string)

set_option maxRecDepth 100000 in
set_option maxHeartbeats 8000000 in
theorem taken_body (a : Option Addr) (cap N0 N : Nat) (K : Int) (l : List Cl) (w : World) (wK : I64 K) (eN : l.length = N) (hN : N ≤ 200) (hNc : N0 ≤ cap) (hor : N = N0 ∧ ¬ 200 < N0 ∨ N = 200 ∧ 200 < N0) (hs : SlAt w (fun _ => True) 8 ClR (.slice a N cap) l) :
    Calls Try.prog 6 #[.slice a N0 cap, .int .i64 K] w (Gives w (.bool true)) := by
  have EN := Lib.hid eN; have HS := Lib.hid hs
  have h2 : cap ≤ 9223372036854775807 := by obtain ⟨_, _, e, _, h, _⟩ := hs; injection e with _ _ e3; omega
  have hNc2 : N ≤ cap := by obtain ⟨_, _, e, h, _, _⟩ := hs; injection e with _ e2 e3; omega
  have HOR := Lib.hid hor
  have c1 := ordWinners_any _ l w hs (by omega)
  have C1 := Lib.hid c1
  clear eN hs hor c1
  go_enter Try.func6, Try.ntmps6
  go_upto_if 20 with fail
  go_cut [0] (fun v0 wx => v0 = .slice a N cap ∧ wx = w)
  case first =>
    rcases HOR.out with ⟨rfl, h4⟩ | ⟨rfl, h4⟩
    · have n1 : ¬ (200 : Int) < (N : Int) := by omega
      go_wp2_with fail
      go_meet
      exact ⟨rfl, rfl⟩
    · have n1 : (200 : Int) < (N0 : Int) := by omega
      go_wp2_with fail
      go_meet
      exact ⟨rfl, rfl⟩
  case rest =>
    obtain ⟨rfl, rfl⟩ := hcut
    cases hall : l.all Cl.may with
    | false =>
      have d1 : Calls Try.prog 14 #[.slice a N cap] wc fun e w' => e = .returned (.tuple #[.slice none 0 0, .int .i64 1]) ∧ wc.grows w' := C1.out.mono fun e w' hs => by
        obtain ⟨hg, ⟨_, e1⟩ | ⟨hh, _⟩⟩ := hs
        · exact ⟨e1, hg⟩
        · rw [hall] at hh; cases hh
      have D1 := Lib.hid d1
      clear d1 C1 hall
      go_wp2_with (first | (go_at_call 14; (with_reducible refine (D1.out).mono ?_); rintro e w1 ⟨rfl, hg1⟩) | (go_at_call 11; (with_reducible refine (awake20_any _).mono ?_); rintro e w1 ⟨rfl, x1, rfl⟩))
      go_ret
      exact ⟨rfl, (by repeat (with_reducible first | assumption | exact grA | apply grB | apply grC | apply grD | refine grE ?_ (by omega) _ | refine grF ?_ (by omega) _ _))⟩
    | true =>
      have d1 : Calls Try.prog 14 #[.slice a N cap] wc fun e w' => ∃ (v : Value) (V : List Int), e = .returned (.tuple #[v, .int .i64 0]) ∧ wc.grows w' ∧ Hid (IntsAt w' v V ∧ Wins l V) := C1.out.mono fun e w' hs => by
        obtain ⟨hg, ⟨hh, _⟩ | ⟨_, v, V, h1, h2, h3⟩⟩ := hs
        · rw [hall] at hh; cases hh
        · exact ⟨v, V, h1, hg, Lib.hid ⟨IntsAt_own h3, h2⟩⟩
      have D1 := Lib.hid d1; have HALL := Lib.hid hall
      clear d1 C1 hall
      by_cases hK : K < 0
      · go_wp2_with (first | (go_at_call 14; (with_reducible refine (D1.out).mono ?_); rintro e w1 ⟨v1, V1, rfl, hg1, HI1⟩) | (go_at_call 11; (with_reducible refine (awake20_any _).mono ?_); rintro e w1 ⟨rfl, x1, rfl⟩))
        go_ret
        exact ⟨rfl, (by repeat (with_reducible first | assumption | exact grA | apply grB | apply grC | apply grD | refine grE ?_ (by omega) _ | refine grF ?_ (by omega) _ _))⟩
      · by_cases hKN : (N : Int) ≤ K
        · go_wp2_with (first | (go_at_call 14; (with_reducible refine (D1.out).mono ?_); rintro e w1 ⟨v1, V1, rfl, hg1, HI1⟩) | (go_at_call 11; (with_reducible refine (awake20_any _).mono ?_); rintro e w1 ⟨rfl, x1, rfl⟩))
          go_ret
          exact ⟨rfl, (by repeat (with_reducible first | assumption | exact grA | apply grB | apply grC | apply grD | refine grE ?_ (by omega) _ | refine grF ?_ (by omega) _ _))⟩
        · obtain ⟨k, rfl⟩ : ∃ k : Nat, K = (k : Int) := ⟨K.toNat, by omega⟩
          have hk : k < N := by omega
          have hk2 : (k : Int) < (N : Int) := by omega
          obtain ⟨a', cap', e', _, _, h3⟩ := HS.out
          injection e' with e1' e2' e3'
          subst e1'
          rcases h3 with h0 | ⟨g, off, rfl, _, h4⟩
          · have := EN.out; rw [h0] at this; simp at this; omega
          have H4 := Lib.hid h4
          clear h4 e2' e3' hK hKN wK
          go_upto_region 6 with (first | (go_at_call 14; (with_reducible refine (D1.out).mono ?_); rintro e w1 ⟨v1, V1, rfl, hg1, HI1⟩))
          obtain ⟨b1, c1, rfl, hc1, hc1', k1⟩ := HI1.out.1
          have K1 := Lib.hid k1; have HV1 := Lib.hid HI1.out.2
          clear k1 HI1 D1
          generalize hM : V1.length = M at *
          have HMM := Lib.hid hM
          clear hM
          go_wp2_with fail
          go_loopg [43] M (fun gn v43 wj => ∃ i : Nat, Hid (gn + i = M ∧ i ≤ M) ∧ v43 = .int .i64 i ∧ w1.grows wj)
          case atStart => exact ⟨0, Lib.hid ⟨rfl, Nat.zero_le _⟩, by go_num, (by repeat (with_reducible first | assumption | exact grA | apply grB | apply grC | apply grD | refine grE ?_ (by omega) _ | refine grF ?_ (by omega) _ _))⟩
          case round =>
            obtain ⟨i, HK, rfl, hg2⟩ := hrel
            obtain ⟨i1, i2⟩ := HK.out
            by_cases hlt : i < M
            · have n1 : (i : Int) < (M : Int) := by omega
              have hm1 := HMM.out
              have t1 := List.getElem?_eq_getElem (by omega : i < V1.length)
              obtain ⟨m, em, hm, _⟩ := HV1.out.val _ (List.getElem_mem (by omega : i < V1.length))
              have hst : ∀ q : Nat, q < l.length → (atC l q).n = (atC l (m : Nat)).n → (atC l (m : Nat)).wk (atC l q) = false := fun q hq e => HV1.out.strong (v := (m : Int)) (by rw [← em]; exact List.getElem_mem _) hq e
              rw [em] at t1
              rcases K1.out with hnil | ⟨g1, o1, rfl, _, hel1⟩
              · rw [hnil] at t1; simp at t1
              obtain ⟨cs1, _, el1, rfl⟩ := hel1 i _ t1
              have a1 := (el1.grows hg2).cell (j := 0) rfl
              rw [World.cell?_row, Nat.add_zero, Nat.mul_one] at a1
              have za1 := lt_sz (el1.grows hg2).lt
              have hNl := EN.out
              have n4 : (m : Int) < (N : Int) := by omega
              have n5 : ¬ (m : Int) < 0 := by omega
              have hgx := List.getElem?_eq_getElem hm
              have hatx := atC_get hgx
              obtain ⟨cs, _, elx, ec, wfx⟩ := H4.out m _ hgx
              clear wfx
              generalize l[m] = x at *
              subst ec
              have ELX := Lib.hid elx; have HST := Lib.hid hst; have HATX := Lib.hid hatx
              clear hel1 el1 t1 hm hgx em hm1 elx hst hatx hNl
              generalize wr = wo at *
              go_wp2_with fail
              go_loopg [57] N (fun gn v57 wj => ∃ j : Nat, Hid (gn + j = N ∧ j ≤ N) ∧ v57 = .int .i64 j ∧ wo.grows wj)
              case atStart => exact ⟨0, Lib.hid ⟨rfl, Nat.zero_le _⟩, by go_num, (by repeat (with_reducible first | assumption | exact grA | apply grB | apply grC | apply grD | refine grE ?_ (by omega) _ | refine grF ?_ (by omega) _ _))⟩
              case round =>
                obtain ⟨j, HKj, rfl, hgj⟩ := hrel
                obtain ⟨j1, j2⟩ := HKj.out
                have hgr : wc.grows wr := (hg1.trans hg2).trans hgj
                by_cases hlj : j < N
                · have n6 : (j : Int) < (N : Int) := by omega
                  have hNl := EN.out
                  have hgy := List.getElem?_eq_getElem (by omega : j < l.length)
                  have haty := atC_get hgy
                  obtain ⟨cs, _, ely, ec, wfy⟩ := H4.out j _ hgy
                  clear wfy
                  have hsy := HST.out j (by omega)
                  rw [haty, HATX.out] at hsy
                  generalize l[j] = y at *
                  subst ec
                  replace ely := ely.grows hgr
                  have elx := ELX.out.grows hgr
                  have e1 : segOk (off + m * 8) 8 (wr.row g) = true := elx.1
                  have e2 : segV (off + m * 8) 8 (wr.row g) = x.v := elx.2
                  have e3 : segOk (off + j * 8) 8 (wr.row g) = true := ely.1
                  have e4 : segV (off + j * 8) 8 (wr.row g) = y.v := ely.2
                  have c0 := elx.cell (j := 0) rfl
                  rw [World.cell?_row, Nat.add_zero] at c0
                  have zg := lt_sz elx.lt
                  have c2 := fun W => ordWeaker_any x y W
                  change ∀ w, Calls _ _ _ w (Gives w (.bool (x.wk y))) at c2
                  by_cases hp : y.p = x.p
                  · have hsy2 := hsy (by unfold Cl.n; rw [hp])
                    rw [hsy2] at c2
                    have C2 := Lib.hid c2
                    clear c2 hsy hsy2 hgy haty ely elx hNl
                    obtain ⟨q0, q1, q2, q3, q4, q5, q6, q7⟩ := x
                    obtain ⟨y0, y1, y2, y3, y4, y5, y6, y7⟩ := y
                    obtain rfl : y0 = q0 := hp
                    go_upto_region 14 with fail
                    refine wp_region_plus_lit (by kernel_rfl) (by kernel_rfl) ?_
                    repeat (go_big_quiet_step (first | (go_at_call 16; (with_reducible exact Calls.plus_of (C2.out _)))))
                    (refine wpQuiet_nil ?_; intro _ hw'; obtain ⟨xq, hw''⟩ := hw'; subst hw'')
                    go_wp2_with fail
                    go_roundg (N - (j + 1))
                    case rel => exact ⟨j + 1, Lib.hid ⟨by omega, by omega⟩, by go_num, (by repeat (with_reducible first | assumption | exact grA | apply grB | apply grC | apply grD | refine grE ?_ (by omega) _ | refine grF ?_ (by omega) _ _))⟩
                    case measure => omega
                  · have hq : ¬ y.p.toList = x.p.toList := by rw [ByteArray.toList_eq, ByteArray.toList_eq, name_eq]; exact hp
                    clear c2 hsy hgy haty ely elx hNl
                    obtain ⟨q0, q1, q2, q3, q4, q5, q6, q7⟩ := x
                    obtain ⟨y0, y1, y2, y3, y4, y5, y6, y7⟩ := y
                    change ¬ y0.toList = q0.toList at hq
                    have hq2 : (y0.toList == q0.toList) = false := by simpa using hq
                    clear hq
                    go_upto_region 14 with fail
                    refine wp_region_plus_lit (by kernel_rfl) (by kernel_rfl) ?_
                    repeat (go_big_quiet_step (fail))
                    (refine wpQuiet_nil ?_; intro _ hw'; obtain ⟨xq, hw''⟩ := hw'; subst hw'')
                    go_wp2_with fail
                    go_roundg (N - (j + 1))
                    case rel => exact ⟨j + 1, Lib.hid ⟨by omega, by omega⟩, by go_num, (by repeat (with_reducible first | assumption | exact grA | apply grB | apply grC | apply grD | refine grE ?_ (by omega) _ | refine grF ?_ (by omega) _ _))⟩
                    case measure => omega
                · have n6 : ¬ (j : Int) < (N : Int) := by omega
                  have hg3 : w1.grows wr := hg2.trans hgj
                  go_wp2_with fail
                  go_roundg (M - (i + 1))
                  case rel => exact ⟨i + 1, Lib.hid ⟨by omega, by omega⟩, by go_num, (by repeat (with_reducible first | assumption | exact grA | apply grB | apply grC | apply grD | refine grE ?_ (by omega) _ | refine grF ?_ (by omega) _ _))⟩
                  case measure => omega
            · have n1 : ¬ (i : Int) < (M : Int) := by omega
              have hgo : wc.grows wr := hg1.trans hg2
              generalize wr = wo at *
              go_wp2_with fail
              go_loopg [11, 81] N (fun gn v11 v81 wj => ∃ (j : Nat) (b : Bool), Hid (gn + j = N ∧ j ≤ N) ∧ v81 = .int .i64 j ∧ v11 = .bool b ∧ Hid (b = true ↔ Weak l k j) ∧ wo.grows wj)
              case atStart => exact ⟨0, false, Lib.hid ⟨rfl, Nat.zero_le _⟩, by go_num, rfl, Lib.hid ⟨fun h => (by cases h), fun ⟨q, hq, _⟩ => (by omega)⟩, (by repeat (with_reducible first | assumption | exact grA | apply grB | apply grC | apply grD | refine grE ?_ (by omega) _ | refine grF ?_ (by omega) _ _))⟩
              case round =>
                obtain ⟨j, b, HKj, rfl, rfl, HB, hgj⟩ := hrel
                obtain ⟨j1, j2⟩ := HKj.out
                have hgr : wc.grows wr := hgo.trans hgj
                have hNl := EN.out
                by_cases hlj : j < N
                · have n6 : (j : Int) < (N : Int) := by omega
                  have hgx := List.getElem?_eq_getElem (by omega : k < l.length)
                  have hatx := atC_get hgx
                  obtain ⟨cs, _, elx, ec, wfx⟩ := H4.out k _ hgx
                  clear wfx
                  generalize l[k] = x at *
                  subst ec
                  have hgy := List.getElem?_eq_getElem (by omega : j < l.length)
                  have haty := atC_get hgy
                  obtain ⟨cs, _, ely, ec, wfy⟩ := H4.out j _ hgy
                  clear wfy
                  generalize l[j] = y at *
                  subst ec
                  have hws := @Weak_succ l k j
                  rw [← HB.out, haty, hatx] at hws
                  replace ely := ely.grows hgr
                  replace elx := elx.grows hgr
                  have e1 : segOk (off + k * 8) 8 (wr.row g) = true := elx.1
                  have e2 : segV (off + k * 8) 8 (wr.row g) = x.v := elx.2
                  have e3 : segOk (off + j * 8) 8 (wr.row g) = true := ely.1
                  have e4 : segV (off + j * 8) 8 (wr.row g) = y.v := ely.2
                  have c0 := elx.cell (j := 0) rfl
                  rw [World.cell?_row, Nat.add_zero] at c0
                  have zg := lt_sz elx.lt
                  have c2 := fun W => ordWeaker_any x y W
                  change ∀ w, Calls _ _ _ w (Gives w (.bool (x.wk y))) at c2
                  have hnn : y.n = x.n ↔ y.p = x.p := by unfold Cl.n; exact name_eq _ _
                  rw [hnn] at hws
                  generalize x.wk y = B1 at *
                  have C2 := Lib.hid c2; have HWS := Lib.hid hws
                  clear c2 hws hnn hgx hgy hatx haty elx ely hNl
                  cases b
                  · by_cases hp : y.p = x.p
                    · have HR : Hid (B1 = true ↔ Weak l k (j + 1)) := Lib.hid (by rw [HWS.out]; simp [hp])
                      obtain ⟨q0, q1, q2, q3, q4, q5, q6, q7⟩ := x
                      obtain ⟨y0, y1, y2, y3, y4, y5, y6, y7⟩ := y
                      obtain rfl : y0 = q0 := hp
                      go_upto_region 22 with fail
                      refine wp_region_plus_lit (by kernel_rfl) (by kernel_rfl) ?_
                      repeat (go_big_quiet_step (first | (go_at_call 16; (with_reducible exact Calls.plus_of (C2.out _)))))
                      (refine wpQuiet_nil ?_; intro _ hw'; obtain ⟨xq, hw''⟩ := hw'; subst hw'')
                      go_wp2_with fail
                      go_roundg (N - (j + 1))
                      case rel => exact ⟨j + 1, B1, Lib.hid ⟨by omega, by omega⟩, by go_num, rfl, HR, (by repeat (with_reducible first | assumption | exact grA | apply grB | apply grC | apply grD | refine grE ?_ (by omega) _ | refine grF ?_ (by omega) _ _))⟩
                      case measure => omega
                    · have HR : Hid (false = true ↔ Weak l k (j + 1)) := Lib.hid (by rw [HWS.out]; simp [hp])
                      have hq : ¬ y.p.toList = x.p.toList := by rw [ByteArray.toList_eq, ByteArray.toList_eq, name_eq]; exact hp
                      obtain ⟨q0, q1, q2, q3, q4, q5, q6, q7⟩ := x
                      obtain ⟨y0, y1, y2, y3, y4, y5, y6, y7⟩ := y
                      change ¬ y0.toList = q0.toList at hq
                      have hq2 : (y0.toList == q0.toList) = false := by simpa using hq
                      clear hq
                      go_upto_region 22 with fail
                      refine wp_region_plus_lit (by kernel_rfl) (by kernel_rfl) ?_
                      repeat (go_big_quiet_step (fail))
                      (refine wpQuiet_nil ?_; intro _ hw'; obtain ⟨xq, hw''⟩ := hw'; subst hw'')
                      go_wp2_with fail
                      go_roundg (N - (j + 1))
                      case rel => exact ⟨j + 1, false, Lib.hid ⟨by omega, by omega⟩, by go_num, rfl, HR, (by repeat (with_reducible first | assumption | exact grA | apply grB | apply grC | apply grD | refine grE ?_ (by omega) _ | refine grF ?_ (by omega) _ _))⟩
                      case measure => omega
                  · have HR : Hid (true = true ↔ Weak l k (j + 1)) := Lib.hid (by rw [HWS.out]; simp)
                    obtain ⟨q0, q1, q2, q3, q4, q5, q6, q7⟩ := x
                    obtain ⟨y0, y1, y2, y3, y4, y5, y6, y7⟩ := y
                    go_upto_region 22 with fail
                    refine wp_region_plus_lit (by kernel_rfl) (by kernel_rfl) ?_
                    repeat (go_big_quiet_step (fail))
                    (refine wpQuiet_nil ?_; intro _ hw'; obtain ⟨xq, hw''⟩ := hw'; subst hw'')
                    go_wp2_with fail
                    go_roundg (N - (j + 1))
                    case rel => exact ⟨j + 1, true, Lib.hid ⟨by omega, by omega⟩, by go_num, rfl, Lib.hid (by simpa using HR.out), (by repeat (with_reducible first | assumption | exact grA | apply grB | apply grC | apply grD | refine grE ?_ (by omega) _ | refine grF ?_ (by omega) _ _))⟩
                    case measure => omega
                · obtain rfl : j = N := by omega
                  have n6 : ¬ (j : Int) < (j : Int) := by omega
                  have hw := HB.out
                  rw [← hNl] at hw
                  have HW := Lib.hid hw
                  clear hw hNl HB HKj HK
                  cases b
                  · go_wp2_with (first | (go_at_call 11; (with_reducible refine (awake20_any _).mono ?_); rintro e w1 ⟨rfl, x1, rfl⟩))
                    go_ret
                    exact ⟨rfl, (by repeat (with_reducible first | assumption | exact grA | apply grB | apply grC | apply grD | refine grE ?_ (by omega) _ | refine grF ?_ (by omega) _ _))⟩
                  · generalize wr = wq at *
                    go_upto_region 26 with fail
                    go_cut [14] (fun s14 wx => ∃ (a2 : Option Addr) (c2 : Nat), s14 = .slice a2 (j - 1) c2 ∧ wq.grows wx ∧ Hid (SlAt wx (fun _ => True) 8 ClR (.slice a2 (j - 1) c2) (lessL l k)))
                    case first =>
                      have hA : SlAt wq (fun _ => True) 8 ClR (.slice (some ⟨g, off, none⟩) j cap) l := HS.out.cl hgr
                      have hone : ∀ (x : Cl) (cs : List Value), ClR x cs → ∀ u ∈ cs, u.oneCell' = true := fun x cs hc u hu => by
                        rw [hc.1] at hu
                        simp only [Cl.cs, List.mem_cons, List.not_mem_nil, or_false] at hu
                        rcases hu with rfl | rfl | rfl | rfl | rfl | rfl | rfl | rfl <;> simp [Value.oneCell']
                      have hlj := EN.out
                      obtain ⟨css1, p1, p2, p3, p4, p5⟩ := (hA.take (k := k) (by omega)).news (by omega) hone
                      have hlk : (l.take k).length = k := by simp; omega
                      have hld : (l.drop (k + 1)).length = j - (k + 1) := by simp; omega
                      obtain ⟨ad2, hc2, css2, r1, r2, r3, r4, r5⟩ : ∃ ad2 : Addr, ((cap = k + 1 ∧ ad2 = ⟨g, off, none⟩) ∨ (¬ cap = k + 1 ∧ ad2 = ⟨g, off + (k + 1) * 8, none⟩)) ∧ ∃ css2 : List (List Value), css2.length = (l.drop (k + 1)).length ∧ (∀ (i : Nat) (x : Cl) (cs : List Value), (l.drop (k + 1))[i]? = some x → css2[i]? = some cs → cs.length = 8 ∧ ClR x cs) ∧ css2.flatten.length = (l.drop (k + 1)).length * 8 ∧ (∀ j u, css2.flatten[j]? = some u → wq.cell? (ad2.add j) = some u) ∧ ∀ u ∈ css2.flatten, u.oneCell' = true := by
                        by_cases hc : cap = k + 1
                        · refine ⟨_, .inl ⟨hc, rfl⟩, [], by rw [hld]; simp; omega, fun i x cs _ h => by simp at h, by rw [hld]; simp; omega, fun j u h => by simp at h, fun u h => by simp at h⟩
                        · exact ⟨_, .inr ⟨hc, rfl⟩, (hA.drop (k := k + 1) (by omega)).news (by omega) hone⟩
                      rw [hlk] at p3; rw [hld] at r3
                      have P1 := Lib.hid p1; have P2 := Lib.hid p2; have P3 := Lib.hid p3; have P4 := Lib.hid p4; have P5 := Lib.hid p5
                      have R1 := Lib.hid r1; have R2 := Lib.hid r2; have R3 := Lib.hid r3; have R4 := Lib.hid r4; have R5 := Lib.hid r5
                      have HLK := Lib.hid hlk; have HLD := Lib.hid hld
                      clear p1 p2 p3 p4 p5 r1 r2 r3 r4 r5 hlk hld hone hA hlj
                      have e3 : (k : Int) + 1 ≤ (cap : Int) := by omega
                      rcases hc2 with ⟨hc, rfl⟩ | ⟨hc, rfl⟩
                      · subst hc
                        refine wp_region_plus_seq (by kernel_rfl) (by kernel_rfl) (fun x0 => ?_)
                        repeat (any_goals (first | (refine wpSeqL_free rfl ?_; first | (go_big_quiet_skip; refine wpQuiet_nil ?_) | (go_big_quiet_step (fail); refine wpQuiet_nil ?_) | (refine wpQuiet_step (fun K hK => ?_); go_simp; split <;> (refine hK _ ?_; clear hK K; refine wpQuiet_nil ?_))) | (refine wpSeqL_link rfl (fun K hK => ?_); go_simp; first | first | (refine hK _ _ (by show World.grows _ _; repeat (first | assumption | exact grA | apply grB | apply grC | apply grD)) ?_; clear hK K) | ((fail); refine ⟨_, rfl, hK _ _ (by show World.grows _ _; repeat (first | assumption | exact grA | apply grB | apply grC | apply grD)) ?_⟩; clear hK K) | (split <;> (first | (refine hK _ _ (by show World.grows _ _; repeat (first | assumption | exact grA | apply grB | apply grC | apply grD)) ?_; clear hK K) | ((fail); refine ⟨_, rfl, hK _ _ (by show World.grows _ _; repeat (first | assumption | exact grA | apply grB | apply grC | apply grD)) ?_⟩; clear hK K))))))
                        refine wpSeqL_own wq wq.heap.size rfl rfl (.tmp 108) (.tmp 111) 22 rfl 34 (.agg #[.string ByteArray.empty, .int .i64 0, .bool false, .int .i64 0, .int .i64 0, .int .i64 0, .int .i64 0, .int .i64 0]) 8 72 Try.underlying22 (by kernel_rfl) rfl (by omega) (by omega) _ 0 [] rfl (ownsRow_empty (by simp [go_sem]) (by simp)) _ k _ css1.flatten rfl P3.out (fun q u hq => World.grows.cell_eq (w := wq) (by repeat (with_reducible first | assumption | exact grA | apply grB | apply grC | apply grD | refine grE ?_ (by omega) _ | refine grF ?_ (by omega) _ _)) (P4.out q u hq)) P5.out (by omega) (by repeat (with_reducible first | assumption | exact grA | apply grB | apply grC | apply grD | refine grE ?_ (by omega) _ | refine grF ?_ (by omega) _ _)) (Nat.le_refl _) (by simp; omega) ?_
                        intro v' w' hg' HO' HR' HG' HA'
                        refine ⟨hg', ?_⟩
                        have ho := HO'.out
                        simp only [Nat.zero_add, List.nil_append] at ho
                        obtain ⟨a', c', rfl⟩ := own_slice ho
                        have HO3 := Lib.hid ho
                        clear ho HO'
                        go_simp
                        repeat (any_goals (first | (refine wpSeqL_free rfl ?_; first | (go_big_quiet_skip; refine wpQuiet_nil ?_) | (go_big_quiet_step (fail); refine wpQuiet_nil ?_) | (refine wpQuiet_step (fun K hK => ?_); go_simp; split <;> (refine hK _ ?_; clear hK K; refine wpQuiet_nil ?_))) | (refine wpSeqL_link rfl (fun K hK => ?_); go_simp; first | first | (refine hK _ _ (by show World.grows _ _; repeat (first | assumption | exact grA | apply grB | apply grC | apply grD)) ?_; clear hK K) | ((fail); refine ⟨_, rfl, hK _ _ (by show World.grows _ _; repeat (first | assumption | exact grA | apply grB | apply grC | apply grD)) ?_⟩; clear hK K) | (split <;> (first | (refine hK _ _ (by show World.grows _ _; repeat (first | assumption | exact grA | apply grB | apply grC | apply grD)) ?_; clear hK K) | ((fail); refine ⟨_, rfl, hK _ _ (by show World.grows _ _; repeat (first | assumption | exact grA | apply grB | apply grC | apply grD)) ?_⟩; clear hK K))))))
                        refine wpSeqL_own wq wq.heap.size rfl rfl (.tmp 112) (.tmp 116) 22 rfl 34 (.agg #[.string ByteArray.empty, .int .i64 0, .bool false, .int .i64 0, .int .i64 0, .int .i64 0, .int .i64 0, .int .i64 0]) 8 72 Try.underlying22 (by kernel_rfl) rfl (by omega) (by omega) _ _ _ rfl HO3.out _ _ _ css2.flatten rfl (by have := R3.out; omega) (fun q u hq => World.grows.cell_eq (w := wq) hg' (R4.out q u hq)) R5.out (by omega) hg' (Nat.le_refl _) (by have := hg'.below.size; omega) ?_
                        intro v2 w2 hg2' HO2 HR2 HG2 HA2
                        refine ⟨hg2', ?_⟩
                        have ho2 := HO2.out
                        simp only [Nat.add_zero] at ho2
                        obtain ⟨a2, c2, rfl⟩ := own_slice ho2
                        go_simp
                        repeat (any_goals (first | (refine wpSeqL_free rfl ?_; first | (go_big_quiet_skip; refine wpQuiet_nil ?_) | (go_big_quiet_step (fail); refine wpQuiet_nil ?_) | (refine wpQuiet_step (fun K hK => ?_); go_simp; split <;> (refine hK _ ?_; clear hK K; refine wpQuiet_nil ?_))) | (refine wpSeqL_link rfl (fun K hK => ?_); go_simp; first | first | (refine hK _ _ (by show World.grows _ _; repeat (first | assumption | exact grA | apply grB | apply grC | apply grD)) ?_; clear hK K) | ((fail); refine ⟨_, rfl, hK _ _ (by show World.grows _ _; repeat (first | assumption | exact grA | apply grB | apply grC | apply grD)) ?_⟩; clear hK K) | (split <;> (first | (refine hK _ _ (by show World.grows _ _; repeat (first | assumption | exact grA | apply grB | apply grC | apply grD)) ?_; clear hK K) | ((fail); refine ⟨_, rfl, hK _ _ (by show World.grows _ _; repeat (first | assumption | exact grA | apply grB | apply grC | apply grD)) ?_⟩; clear hK K))))))
                        refine wpSeqL_end ?_
                        go_wp2_with fail
                        go_meet
                        have hfin : OwnAt w2 wq.heap.size 34 8 ClR (.slice a2 k c2) (l.take k ++ l.drop (k + 1)) := OwnAt.append (R := ClR) P1.out P2.out R1.out R2.out (fun _ _ h => h) (by rw [HLK.out, HLD.out, show k + (j - (k + 1)) = k by omega]; exact ho2)
                        have e5 : k = j - 1 := by omega
                        exact ⟨a2, c2, by rw [← e5], hg2', Lib.hid (by rw [← e5]; exact hfin.slAt (by omega) fun _ _ => trivial)⟩
                      · refine wp_region_plus_seq (by kernel_rfl) (by kernel_rfl) (fun x0 => ?_)
                        repeat (any_goals (first | (refine wpSeqL_free rfl ?_; first | (go_big_quiet_skip; refine wpQuiet_nil ?_) | (go_big_quiet_step (fail); refine wpQuiet_nil ?_) | (refine wpQuiet_step (fun K hK => ?_); go_simp; split <;> (refine hK _ ?_; clear hK K; refine wpQuiet_nil ?_))) | (refine wpSeqL_link rfl (fun K hK => ?_); go_simp; first | first | (refine hK _ _ (by show World.grows _ _; repeat (first | assumption | exact grA | apply grB | apply grC | apply grD)) ?_; clear hK K) | ((fail); refine ⟨_, rfl, hK _ _ (by show World.grows _ _; repeat (first | assumption | exact grA | apply grB | apply grC | apply grD)) ?_⟩; clear hK K) | (split <;> (first | (refine hK _ _ (by show World.grows _ _; repeat (first | assumption | exact grA | apply grB | apply grC | apply grD)) ?_; clear hK K) | ((fail); refine ⟨_, rfl, hK _ _ (by show World.grows _ _; repeat (first | assumption | exact grA | apply grB | apply grC | apply grD)) ?_⟩; clear hK K))))))
                        refine wpSeqL_own wq wq.heap.size rfl rfl (.tmp 108) (.tmp 111) 22 rfl 34 (.agg #[.string ByteArray.empty, .int .i64 0, .bool false, .int .i64 0, .int .i64 0, .int .i64 0, .int .i64 0, .int .i64 0]) 8 72 Try.underlying22 (by kernel_rfl) rfl (by omega) (by omega) _ 0 [] rfl (ownsRow_empty (by simp [go_sem]) (by simp)) _ k _ css1.flatten rfl P3.out (fun q u hq => World.grows.cell_eq (w := wq) (by repeat (with_reducible first | assumption | exact grA | apply grB | apply grC | apply grD | refine grE ?_ (by omega) _ | refine grF ?_ (by omega) _ _)) (P4.out q u hq)) P5.out (by omega) (by repeat (with_reducible first | assumption | exact grA | apply grB | apply grC | apply grD | refine grE ?_ (by omega) _ | refine grF ?_ (by omega) _ _)) (Nat.le_refl _) (by simp; omega) ?_
                        intro v' w' hg' HO' HR' HG' HA'
                        refine ⟨hg', ?_⟩
                        have ho := HO'.out
                        simp only [Nat.zero_add, List.nil_append] at ho
                        obtain ⟨a', c', rfl⟩ := own_slice ho
                        have HO3 := Lib.hid ho
                        clear ho HO'
                        go_simp
                        repeat (any_goals (first | (refine wpSeqL_free rfl ?_; first | (go_big_quiet_skip; refine wpQuiet_nil ?_) | (go_big_quiet_step (fail); refine wpQuiet_nil ?_) | (refine wpQuiet_step (fun K hK => ?_); go_simp; split <;> (refine hK _ ?_; clear hK K; refine wpQuiet_nil ?_))) | (refine wpSeqL_link rfl (fun K hK => ?_); go_simp; first | first | (refine hK _ _ (by show World.grows _ _; repeat (first | assumption | exact grA | apply grB | apply grC | apply grD)) ?_; clear hK K) | ((fail); refine ⟨_, rfl, hK _ _ (by show World.grows _ _; repeat (first | assumption | exact grA | apply grB | apply grC | apply grD)) ?_⟩; clear hK K) | (split <;> (first | (refine hK _ _ (by show World.grows _ _; repeat (first | assumption | exact grA | apply grB | apply grC | apply grD)) ?_; clear hK K) | ((fail); refine ⟨_, rfl, hK _ _ (by show World.grows _ _; repeat (first | assumption | exact grA | apply grB | apply grC | apply grD)) ?_⟩; clear hK K))))))
                        refine wpSeqL_own wq wq.heap.size rfl rfl (.tmp 112) (.tmp 116) 22 rfl 34 (.agg #[.string ByteArray.empty, .int .i64 0, .bool false, .int .i64 0, .int .i64 0, .int .i64 0, .int .i64 0, .int .i64 0]) 8 72 Try.underlying22 (by kernel_rfl) rfl (by omega) (by omega) _ _ _ rfl HO3.out _ _ _ css2.flatten rfl R3.out (fun q u hq => World.grows.cell_eq (w := wq) hg' (R4.out q u hq)) R5.out (by omega) hg' (Nat.le_refl _) (by have := hg'.below.size; omega) ?_
                        intro v2 w2 hg2' HO2 HR2 HG2 HA2
                        refine ⟨hg2', ?_⟩
                        obtain ⟨a2, c2, rfl⟩ := own_slice HO2.out
                        go_simp
                        repeat (any_goals (first | (refine wpSeqL_free rfl ?_; first | (go_big_quiet_skip; refine wpQuiet_nil ?_) | (go_big_quiet_step (fail); refine wpQuiet_nil ?_) | (refine wpQuiet_step (fun K hK => ?_); go_simp; split <;> (refine hK _ ?_; clear hK K; refine wpQuiet_nil ?_))) | (refine wpSeqL_link rfl (fun K hK => ?_); go_simp; first | first | (refine hK _ _ (by show World.grows _ _; repeat (first | assumption | exact grA | apply grB | apply grC | apply grD)) ?_; clear hK K) | ((fail); refine ⟨_, rfl, hK _ _ (by show World.grows _ _; repeat (first | assumption | exact grA | apply grB | apply grC | apply grD)) ?_⟩; clear hK K) | (split <;> (first | (refine hK _ _ (by show World.grows _ _; repeat (first | assumption | exact grA | apply grB | apply grC | apply grD)) ?_; clear hK K) | ((fail); refine ⟨_, rfl, hK _ _ (by show World.grows _ _; repeat (first | assumption | exact grA | apply grB | apply grC | apply grD)) ?_⟩; clear hK K))))))
                        refine wpSeqL_end ?_
                        go_wp2_with fail
                        go_meet
                        have hfin : OwnAt w2 wq.heap.size 34 8 ClR (.slice a2 (k + (j - (k + 1))) c2) (l.take k ++ l.drop (k + 1)) := OwnAt.append (R := ClR) P1.out P2.out R1.out R2.out (fun _ _ h => h) (by rw [HLK.out, HLD.out]; exact HO2.out)
                        have e5 : k + (j - (k + 1)) = j - 1 := by omega
                        rw [e5] at hfin
                        exact ⟨a2, c2, by rw [e5], hg2', Lib.hid (hfin.slAt (by omega) fun _ _ => trivial)⟩
                    case rest =>
                      obtain ⟨a2, c2, rfl, hgw, HL2⟩ := hcut
                      generalize wc = wz at *
                      have hNl := EN.out
                      have hll : (lessL l k).length = j - 1 := by rw [lessL_len (by omega)]; omega
                      have hmay := lessL_may k HALL.out
                      have d2 : Calls Try.prog 14 #[.slice a2 (j - 1) c2] wz fun e w' => ∃ (v : Value) (V : List Int), e = .returned (.tuple #[v, .int .i64 0]) ∧ wz.grows w' ∧ Hid (IntsAt w' v V ∧ Wins (lessL l k) V) := (ordWinners_any _ (lessL l k) wz HL2.out (by omega)).mono fun e w' hs => by
                        obtain ⟨hg, ⟨hh, _⟩ | ⟨_, v, V, h1, h2, h3⟩⟩ := hs
                        · rw [hmay] at hh; cases hh
                        · exact ⟨v, V, h1, hg, Lib.hid ⟨IntsAt_own h3, h2⟩⟩
                      have D2 := Lib.hid d2; have HLL := Lib.hid hll
                      clear d2 hmay hll
                      go_upto_region 28 with (first | (go_at_call 14; (with_reducible refine (D2.out).mono ?_); rintro e w2 ⟨v2, V2, rfl, hgz, HI2⟩))
                      have hEq := less_wins (by omega) (HW.out.1 (by trivial)) HV1.out HI2.out.2
                      have hlen : V2.length = M := by have := congrArg List.length hEq; rw [← HMM.out]; simpa using this
                      obtain ⟨b2, c3, rfl, hc2, hc2', k2⟩ := HI2.out.1
                      rw [hlen] at hc2 ⊢
                      have hat : ∀ (i : Nat) (u v : Int), V1[i]? = some u → V2[i]? = some v → atC l u = atC (lessL l k) v := fun i u v hu hv => by
                        have := congrArg (fun x => x[i]?) hEq
                        simpa [hu, hv] using this.symm
                      have K2 := Lib.hid k2; have HAT := Lib.hid hat; have HV2 := Lib.hid HI2.out.2; have HLN := Lib.hid hlen
                      have hgq2 : wq.grows w2 := hgw.trans hgz
                      have hgr2 := hgr.trans hgq2
                      have hg12 : w1.grows w2 := (hg2.trans hgj).trans hgq2
                      clear k2 hat hEq hlen HI2 D2 hNl
                      go_wp2_with fail
                      go_loopg [134] M (fun gn v87 wj => ∃ i : Nat, Hid (gn + i = M ∧ i ≤ M) ∧ v87 = .int .i64 i ∧ w2.grows wj)
                      case atStart => exact ⟨0, Lib.hid ⟨rfl, Nat.zero_le _⟩, by go_num, (by repeat (with_reducible first | assumption | exact grA | apply grB | apply grC | apply grD | refine grE ?_ (by omega) _ | refine grF ?_ (by omega) _ _))⟩
                      case round =>
                        obtain ⟨i, HKi, rfl, hgi⟩ := hrel
                        obtain ⟨m1, m2⟩ := HKi.out
                        by_cases hli : i < M
                        · have n3 : (i : Int) < (M : Int) := by omega
                          have hm1 := HMM.out; have hm2 := HLN.out
                          have t1 := List.getElem?_eq_getElem (by omega : i < V1.length)
                          have t2 := List.getElem?_eq_getElem (by omega : i < V2.length)
                          obtain ⟨m, em, hm, _⟩ := HV1.out.val _ (List.getElem_mem (by omega : i < V1.length))
                          obtain ⟨q, eq, hq, _⟩ := HV2.out.val _ (List.getElem_mem (by omega : i < V2.length))
                          rw [em] at t1; rw [eq] at t2
                          have hxy := HAT.out i _ _ t1 t2
                          rcases K1.out with hnil | ⟨g1, o1, rfl, _, hel1⟩
                          · rw [hnil] at t1; simp at t1
                          rcases K2.out with hnil | ⟨g2, o2, rfl, _, hel2⟩
                          · rw [hnil] at t2; simp at t2
                          obtain ⟨cs1, _, el1, rfl⟩ := hel1 i _ t1
                          obtain ⟨cs2, _, el2, rfl⟩ := hel2 i _ t2
                          have a1 := ((el1.grows hg12).grows hgi).cell (j := 0) rfl
                          have a2' := (el2.grows hgi).cell (j := 0) rfl
                          rw [World.cell?_row, Nat.add_zero, Nat.mul_one] at a1 a2'
                          have za1 := lt_sz ((el1.grows hg12).grows hgi).lt
                          have za2 := lt_sz (el2.grows hgi).lt
                          have hNl := EN.out
                          have hLl := HLL.out
                          obtain ⟨a'', cap'', e'', _, _, h5⟩ := HL2.out
                          injection e'' with e1'' e2'' e3''
                          subst e1''
                          rcases h5 with h0 | ⟨g5, o5, rfl, _, h6⟩
                          · rw [h0] at hq; simp at hq
                          have hgx := List.getElem?_eq_getElem hm
                          have hgy := List.getElem?_eq_getElem hq
                          rw [atC_get hgx, atC_get hgy] at hxy
                          obtain ⟨cs, _, elx, ec, wf1⟩ := H4.out m _ hgx
                          obtain ⟨cs', _, ely, ec', wf2⟩ := h6 q _ hgy
                          clear wf1 wf2
                          rw [← hxy] at ec'
                          generalize l[m] = x at *
                          subst ec; subst ec'
                          replace elx := (elx.grows hgr2).grows hgi
                          replace ely := (ely.grows hgz).grows hgi
                          have e1 : segOk (off + m * 8) 8 (wr.row g) = true := elx.1
                          have e2 : segV (off + m * 8) 8 (wr.row g) = x.v := elx.2
                          have e3 : segOk (o5 + q * 8) 8 (wr.row g5) = true := ely.1
                          have e4 : segV (o5 + q * 8) 8 (wr.row g5) = x.v := ely.2
                          have zg := lt_sz elx.lt
                          have zg5 := lt_sz ely.lt
                          have n4 : (m : Int) < (j : Int) := by omega
                          have n5 : q < j - 1 := by omega
                          have n6 : (q : Int) < ((j - 1 : Nat) : Int) := by omega
                          have hE := fun W => eqClaim_same x W
                          clear hel1 hel2 el1 el2 h6 elx ely hgx hgy t1 t2 hm hq hxy hNl hLl em eq e2'' e3'' hm1 hm2
                          obtain ⟨q0, q1, q2, q3, q4, q5, q6, q7⟩ := x
                          go_upto_region 33 with fail
                          refine wp_region_plus_lit (by kernel_rfl) (by kernel_rfl) ?_
                          repeat (go_big_quiet_step (fail))
                          (refine wpQuiet_nil ?_; intro _ hw'; obtain ⟨xq, hw''⟩ := hw'; subst hw'')
                          go_wp2_with fail
                          go_roundg (M - (i + 1))
                          case rel => exact ⟨i + 1, Lib.hid ⟨by omega, by omega⟩, by go_num, (by repeat (with_reducible first | assumption | exact grA | apply grB | apply grC | apply grD | refine grE ?_ (by omega) _ | refine grF ?_ (by omega) _ _))⟩
                          case measure => omega
                        · have n3 : ¬ (i : Int) < (M : Int) := by omega
                          have hgz2 := hgr2.trans hgi
                          go_wp2_with (first | (go_at_call 11; (with_reducible refine (awake20_any _).mono ?_); rintro e w1 ⟨rfl, x1, rfl⟩))
                          go_ret
                          exact ⟨rfl, (by repeat (with_reducible first | assumption | exact grA | apply grB | apply grC | apply grD | refine grE ?_ (by omega) _ | refine grF ?_ (by omega) _ _))⟩

theorem orderTaken_any (v : Value) (l : List Cl) (K : Int) (w : World) (wK : I64 K) (h : SlAt w (fun _ => True) 8 ClR v l) : Calls Try.prog 6 #[v, .int .i64 K] w (Gives w (.bool true)) := by
  have h0 := h
  obtain ⟨a, cap, rfl, h1, h2, _⟩ := h
  by_cases h4 : 200 < l.length
  · exact taken_body a cap _ 200 K (l.take 200) w wK (by simp; omega) (by omega) h1 (.inr ⟨rfl, h4⟩) (h0.take (by omega))
  · exact taken_body a cap _ _ K l w wK rfl (by omega) h1 (.inl ⟨rfl, h4⟩) h0

theorem orderTaken_own : ownKnob Try.prog.godebug = none := by kernel_rfl
theorem orderTaken_laidOut : laidOutB Try.prog = true := by kernel_rfl
set_option maxRecDepth 100000 in
set_option maxHeartbeats 2000000 in
theorem orderTaken_lifted (os : Os) (started : os.Started) (H : Type) (enc : TypeId × Value → H) :
    ReturnsInHanded {} Try.checked os 6 .any (Rows.orderTakenSpec.pre6 enc Try.prog Try.f6 Rows.orderTakenRow.domain false) (Rows.orderTakenSpec.post enc Try.prog Try.f6 false true false false) := by
  refine returnsInHanded_of_change (C := Try.checked) orderTaken_own started (by kernel_rfl) Try.func6
    (ChangeSpec.witness6 (enc := enc) (C := Try.checked) false ⟨#[], #[.slice none 0 0, .int .i64 0], []⟩ 8 (by kernel_rfl) (by kernel_rfl) (by kernel_rfl) (by kernel_rfl)) ?_
  intro W base args ds gs before hval0 hW hcnd _
  have hval : ∀ (j : Nat) t v, Try.f6.params[j]? = some t → args[j]? = some v → Value.okWide Try.prog W .any base t v := hval0
  have hW' := hW
  obtain ⟨p, q, hA0, hV, rfl, hfz, hnd⟩ := hW
  have hA : DataW.TrodAll enc Try.prog W 0 (fun _ => true) true Try.f6.params.toList args.toList ds p := hA0
  rw [Try.params6] at hA hval
  obtain ⟨v0, vs0, d0, ds0, p0, q0, hargs, rfl, rfl, h0, r0⟩ := trodAll_cons hA
  obtain ⟨v1, vs1, d1, ds1, p1, q1, rfl, rfl, rfl, h1, r1⟩ := trodAll_cons r0
  obtain ⟨rfl, rfl, rfl⟩ := trodAll_nil r1
  obtain rfl : args = #[v0, v1] := by cases args; simp_all
  obtain ⟨rfl, rfl⟩ := trodVars_none hV
  have k0 := h0
  have lt0 : ∀ x ∈ p0, x.block < W.heap.size := by obtain ⟨m, hm⟩ := k0; exact DataW.trod_lt m _ _ _ hm
  have k1 := h1
  have lt1 : ∀ x ∈ p1, x.block < W.heap.size := by obtain ⟨m, hm⟩ := k1; exact DataW.trod_lt m _ _ _ hm
  obtain ⟨l, h_l⟩ := claims_arg (hval 0 22 v0 rfl rfl) h0
  obtain ⟨k, rfl, _, _, wk⟩ := open_int Try.underlying3 (hval 1 3 v1 rfl rfl) h1
  clear hA0 hval0
  refine (orderTaken_any v0 l k W (i64_of wk) h_l).mono fun e W' ⟨he, grw⟩ => ?_
  subst he
  have bel := grw.below
  exact ⟨_, rfl, _, _, _, [], _, [], hW', trodAll_mk1 (shut_bool Try.underlying4 _), (trodAll_cons_mk (Below.trod orderTaken_laidOut (by kernel_rfl) (of_decide_eq_true (by kernel_rfl)) k0 bel lt0) (trodAll_cons_mk (Below.trod orderTaken_laidOut (by kernel_rfl) (of_decide_eq_true (by kernel_rfl)) k1 bel lt1) trodAll_mk0)), rfl, bel.frame _, fun h => by cases h⟩

/-- THE STATEMENT -/
theorem orderTaken_holds : Rows.OrderTakenSaid :=
  OpenClaim.holds_of_wide 6 Try.f6 rfl rfl rfl rfl rfl rfl rfl ⟨rfl, rfl, rfl, rfl, rfl⟩ rfl rfl rfl rfl rfl (by kernel_rfl) Try.func6 (by kernel_rfl)
    (of_decide_eq_true (by kernel_rfl)) (by unfold Func.isWrapper; first | (rw [if_pos (by decide +kernel)]; kernel_rfl) | (rw [if_neg (by decide +kernel)]; exact ⟨rfl, rfl⟩))
    (fun os started H enc _ => orderTaken_lifted os started H enc)
#print axioms orderTaken_holds

end Go.Proofs.Ytajkfmnnokkcaaa
