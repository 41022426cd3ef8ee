/- For every list of claims the statement OrderWins answers true: of each name the strongest claim wins. No condition. -/
import Derived.Test.YtajkfmnnokkcaaaRows
import Derived.Test.YtajkfmnnokkcaaaRefWin
import Derived.Test.YtajkfmnnokkcaaaArgsC
import Derived.Test.YtajkfmnnokkcaaaOrderTake
set_option linter.unusedSimpArgs false
set_option linter.unusedVariables false
namespace Go.Proofs.Ytajkfmnnokkcaaa
open Go.ChangeShapes Go.WideShapes Go.ChangeAt Go.RowKit
open Go.ChangeMaps (open_string shut_string)

set_option maxRecDepth 100000 in
set_option maxHeartbeats 4000000 in
theorem ints_eq (v v' : Value) (W : List Int) (w : World) (h1 : IntsAt w v W) (h2 : IntsAt w v' W) : Calls Try.prog 12 #[v, v'] w (Gives w (.bool true)) := by
  obtain ⟨a, c, rfl, hc1, hc2, k1⟩ := h1
  obtain ⟨a', c', rfl, hc3, hc4, k2⟩ := h2
  have K1 := Lib.hid k1; have K2 := Lib.hid k2
  clear k1 k2
  go_enter Try.func12, Try.ntmps12
  go_wp2_with fail
  go_loopg [13] W.length (fun gn v7 wj => ∃ i : Nat, Hid (gn + i = W.length ∧ i ≤ W.length) ∧ v7 = .int .i64 i ∧ w.grows wj)
  case atStart => exact ⟨0, Lib.hid ⟨rfl, Nat.zero_le _⟩, by go_num, (by repeat (with_reducible first | assumption | exact grA | apply grB | apply grC | apply grD | refine grE ?_ (by omega) _ | refine grF ?_ (by omega) _ _))⟩
  case round =>
    obtain ⟨i1, HK, rfl, hg⟩ := hrel
    obtain ⟨j1, j2⟩ := HK.out
    by_cases hlt : i1 < W.length
    · have n1 : (i1 : Int) < (W.length : Int) := by omega
      have hgt := List.getElem?_eq_getElem hlt
      rcases K1.out with hnil | ⟨g, off, rfl, _, h4⟩
      · rw [hnil] at hlt; cases hlt
      rcases K2.out with hnil | ⟨g', off', rfl, _, h4'⟩
      · rw [hnil] at hlt; cases hlt
      obtain ⟨cs, _, el, rfl⟩ := h4 i1 _ hgt
      obtain ⟨cs', _, el', rfl⟩ := h4' i1 _ hgt
      have c0 := (el.grows hg).cell (j := 0) rfl
      have c1 := (el'.grows hg).cell (j := 0) rfl
      rw [World.cell?_row, Nat.add_zero, Nat.mul_one] at c0 c1
      have z1 := lt_sz (el.grows hg).lt
      have z2 := lt_sz (el'.grows hg).lt
      generalize W[i1] = X at *
      clear h4 h4' el el' hgt
      go_upto_region 6 with fail
      go_region
      go_wp2_with fail
      go_roundg (W.length - (i1 + 1))
      case rel => exact ⟨i1 + 1, Lib.hid ⟨by omega, by omega⟩, by go_num, (by repeat (with_reducible first | assumption | exact grA | apply grB | apply grC | apply grD | refine grE ?_ (by omega) _ | refine grF ?_ (by omega) _ _))⟩
      case measure => omega
    · have n1 : ¬ (i1 : Int) < (W.length : Int) := by omega
      go_wp2_with fail
      go_ret
      exact ⟨rfl, (by repeat (with_reducible first | assumption | exact grA | apply grB | apply grC | apply grD | refine grE ?_ (by omega) _ | refine grF ?_ (by omega) _ _))⟩

set_option maxRecDepth 100000 in
set_option maxHeartbeats 4000000 in
theorem orderWins_any (v : Value) (l : List Cl) (w : World) (h : SlAt w (fun _ => True) 8 ClR v l) : Calls Try.prog 4 #[v] w (Gives w (.bool true)) := by
  have h0 := h
  obtain ⟨a, cap, rfl, h1, h2, _⟩ := h
  have body : ∀ (N N' : Nat) (l' : List Cl), l'.length = N' → N' ≤ 400 → N ≤ cap → (N' = N ∧ ¬ 400 < N ∨ N' = 400 ∧ 400 < N) → SlAt w (fun _ => True) 8 ClR (.slice a N' cap) l' → Calls Try.prog 4 #[.slice a N cap] w (Gives w (.bool true)) := by
    intro N N' l' hl hN hNc hor hs
    have cA : ∀ W, w.grows W → Calls Try.prog 10 #[.slice a N' cap] W (Gives W (.bool (l'.all Cl.may))) := fun W hg => refAll_any _ l' W (hs.cl hg)
    have cS := ordWinners_any _ l' w hs (by omega)
    cases hall : l'.all Cl.may with
    | false =>
      rw [hall] at cA
      have c2 : Calls Try.prog 14 #[.slice a N' cap] w fun e w' => e = .returned (.tuple #[.slice none 0 0, .int .i64 1]) ∧ w.grows w' := cS.mono fun e w' hs => by
        obtain ⟨hg, ⟨_, e1⟩ | ⟨hh, _⟩⟩ := hs
        · exact ⟨e1, hg⟩
        · rw [hall] at hh; cases hh
      have CA := Lib.hid cA; have CS := Lib.hid c2
      clear cA cS c2 hs hl hall h0
      rcases hor with ⟨rfl, h4⟩ | ⟨rfl, h4⟩
      · have n1 : ¬ (400 : Int) < (N' : Int) := by omega
        go_enter Try.func4, Try.ntmps4
        go_wp2_with (first | (go_at_call 14; (with_reducible refine (CS.out).mono ?_); rintro e w1 ⟨rfl, hg1⟩) | (go_at_call 10; (with_reducible refine (CA.out _ (by repeat (with_reducible first | assumption | exact grA | apply grB | apply grC | apply grD | refine grE ?_ (by omega) _ | refine grF ?_ (by omega) _ _))).mono ?_); rintro e w1 ⟨rfl, x1, rfl⟩) | (go_at_call 11; (with_reducible refine (awake20_any _).mono ?_); rintro e w1 ⟨rfl, x1, rfl⟩))
        go_ret
        exact ⟨rfl, (by repeat (with_reducible first | assumption | exact grA | apply grB | apply grC | apply grD | refine grE ?_ (by omega) _ | refine grF ?_ (by omega) _ _))⟩
      · have n1 : (400 : Int) < (N : Int) := by omega
        go_enter Try.func4, Try.ntmps4
        go_wp2_with (first | (go_at_call 14; (with_reducible refine (CS.out).mono ?_); rintro e w1 ⟨rfl, hg1⟩) | (go_at_call 10; (with_reducible refine (CA.out _ (by repeat (with_reducible first | assumption | exact grA | apply grB | apply grC | apply grD | refine grE ?_ (by omega) _ | refine grF ?_ (by omega) _ _))).mono ?_); rintro e w1 ⟨rfl, x1, rfl⟩) | (go_at_call 11; (with_reducible refine (awake20_any _).mono ?_); rintro e w1 ⟨rfl, x1, rfl⟩))
        go_ret
        exact ⟨rfl, (by repeat (with_reducible first | assumption | exact grA | apply grB | apply grC | apply grD | refine grE ?_ (by omega) _ | refine grF ?_ (by omega) _ _))⟩
    | true =>
      rw [hall] at cA
      have c2 : Calls Try.prog 14 #[.slice a N' cap] w fun e w' => ∃ (v : Value) (V : List Int), e = .returned (.tuple #[v, .int .i64 0]) ∧ w.grows w' ∧ Hid (IntsAt w' v V ∧ Wins l' V) := cS.mono fun e w' hs => by
        obtain ⟨hg, ⟨hh, _⟩ | ⟨_, v, V, h1, h2, h3⟩⟩ := hs
        · rw [hall] at hh; cases hh
        · exact ⟨v, V, h1, hg, Lib.hid ⟨IntsAt_own h3, h2⟩⟩
      have c3 : ∀ W V, w.grows W → Wins l' V → Calls Try.prog 15 #[.slice a N' cap] W fun e w' => ∃ v', e = .returned v' ∧ W.grows w' ∧ Hid (IntsAt w' v' V) := fun W V hg hV =>
        (refWinners_any (.slice a N' cap) l' W (hs.cl hg) (by omega) hall V hV).mono fun e w' ⟨v', h1, h2, h3⟩ => ⟨v', h1, h2, Lib.hid h3⟩
      have CA := Lib.hid cA; have CS := Lib.hid c2; have C3 := Lib.hid c3
      clear cA cS c2 c3 hs hl hall h0
      rcases hor with ⟨rfl, h4⟩ | ⟨rfl, h4⟩
      · have n1 : ¬ (400 : Int) < (N' : Int) := by omega
        go_enter Try.func4, Try.ntmps4
        go_wp2_with (first | (go_at_call 14; (with_reducible refine (CS.out).mono ?_); rintro e w1 ⟨v1, V, rfl, hg1, HI⟩) | (go_at_call 10; (with_reducible refine (CA.out _ (by repeat (with_reducible first | assumption | exact grA | apply grB | apply grC | apply grD | refine grE ?_ (by omega) _ | refine grF ?_ (by omega) _ _))).mono ?_); rintro e w2 ⟨rfl, x1, rfl⟩) | (go_at_call 15; (with_reducible refine (C3.out _ _ (by repeat (with_reducible first | assumption | exact grA | apply grB | apply grC | apply grD | refine grE ?_ (by omega) _ | refine grF ?_ (by omega) _ _)) HI.out.2).mono ?_); rintro e w3 ⟨v3, rfl, hg3, HI3⟩; have hgw : w.grows w3 := World.grows.trans (by repeat (with_reducible first | assumption | exact grA | apply grB | apply grC | apply grD | refine grE ?_ (by omega) _ | refine grF ?_ (by omega) _ _)) hg3; have hg13 : w1.grows w3 := World.grows.trans (by repeat (with_reducible first | assumption | exact grA | apply grB | apply grC | apply grD | refine grE ?_ (by omega) _ | refine grF ?_ (by omega) _ _)) hg3) | (go_at_call 12; (with_reducible refine (ints_eq _ _ V _ (HI.out.1.grow hg13) HI3.out).mono ?_); rintro e w4 ⟨rfl, x4, rfl⟩) | (go_at_call 11; (with_reducible refine (awake20_any _).mono ?_); rintro e w1 ⟨rfl, x1, rfl⟩))
        go_ret
        exact ⟨rfl, (by repeat (with_reducible first | assumption | exact grA | apply grB | apply grC | apply grD | refine grE ?_ (by omega) _ | refine grF ?_ (by omega) _ _))⟩
      · have n1 : (400 : Int) < (N : Int) := by omega
        go_enter Try.func4, Try.ntmps4
        go_wp2_with (first | (go_at_call 14; (with_reducible refine (CS.out).mono ?_); rintro e w1 ⟨v1, V, rfl, hg1, HI⟩) | (go_at_call 10; (with_reducible refine (CA.out _ (by repeat (with_reducible first | assumption | exact grA | apply grB | apply grC | apply grD | refine grE ?_ (by omega) _ | refine grF ?_ (by omega) _ _))).mono ?_); rintro e w2 ⟨rfl, x1, rfl⟩) | (go_at_call 15; (with_reducible refine (C3.out _ _ (by repeat (with_reducible first | assumption | exact grA | apply grB | apply grC | apply grD | refine grE ?_ (by omega) _ | refine grF ?_ (by omega) _ _)) HI.out.2).mono ?_); rintro e w3 ⟨v3, rfl, hg3, HI3⟩; have hgw : w.grows w3 := World.grows.trans (by repeat (with_reducible first | assumption | exact grA | apply grB | apply grC | apply grD | refine grE ?_ (by omega) _ | refine grF ?_ (by omega) _ _)) hg3; have hg13 : w1.grows w3 := World.grows.trans (by repeat (with_reducible first | assumption | exact grA | apply grB | apply grC | apply grD | refine grE ?_ (by omega) _ | refine grF ?_ (by omega) _ _)) hg3) | (go_at_call 12; (with_reducible refine (ints_eq _ _ V _ (HI.out.1.grow hg13) HI3.out).mono ?_); rintro e w4 ⟨rfl, x4, rfl⟩) | (go_at_call 11; (with_reducible refine (awake20_any _).mono ?_); rintro e w1 ⟨rfl, x1, rfl⟩))
        go_ret
        exact ⟨rfl, (by repeat (with_reducible first | assumption | exact grA | apply grB | apply grC | apply grD | refine grE ?_ (by omega) _ | refine grF ?_ (by omega) _ _))⟩
  by_cases h4 : 400 < l.length
  · exact body _ 400 (l.take 400) (by simp; omega) (by omega) h1 (.inr ⟨rfl, h4⟩) (h0.take (by omega))
  · exact body _ _ l rfl (by omega) h1 (.inl ⟨rfl, h4⟩) h0

theorem orderWins_own : ownKnob Try.prog.godebug = none := by kernel_rfl
theorem orderWins_laidOut : laidOutB Try.prog = true := by kernel_rfl
set_option maxRecDepth 100000 in
set_option maxHeartbeats 2000000 in
theorem orderWins_lifted (os : Os) (started : os.Started) (H : Type) (enc : TypeId × Value → H) :
    ReturnsInHanded {} Try.checked os 4 .any (Rows.orderWinsSpec.pre6 enc Try.prog Try.f4 Rows.orderWinsRow.domain false) (Rows.orderWinsSpec.post enc Try.prog Try.f4 false true false false) := by
  refine returnsInHanded_of_change (C := Try.checked) orderWins_own started (by kernel_rfl) Try.func4
    (ChangeSpec.witness6 (enc := enc) (C := Try.checked) false ⟨#[], #[.slice none 0 0], []⟩ 8 (by kernel_rfl) (by kernel_rfl) (by kernel_rfl) (by kernel_rfl)) ?_
  intro W base args ds gs before hval0 hW hcnd _
  have hval : ∀ (j : Nat) t v, Try.f4.params[j]? = some t → args[j]? = some v → Value.okWide Try.prog W .any base t v := hval0
  have hW' := hW
  obtain ⟨p, q, hA0, hV, rfl, hfz, hnd⟩ := hW
  have hA : DataW.TrodAll enc Try.prog W 0 (fun _ => true) true Try.f4.params.toList args.toList ds p := hA0
  rw [Try.params4] at hA hval
  obtain ⟨v0, vs0, d0, ds0, p0, q0, hargs, rfl, rfl, h0, r0⟩ := trodAll_cons hA
  obtain ⟨rfl, rfl, rfl⟩ := trodAll_nil r0
  obtain rfl : args = #[v0] := by cases args; simp_all
  obtain ⟨rfl, rfl⟩ := trodVars_none hV
  have k0 := h0
  have lt0 : ∀ x ∈ p0, x.block < W.heap.size := by obtain ⟨m, hm⟩ := k0; exact DataW.trod_lt m _ _ _ hm
  obtain ⟨l, h_l⟩ := claims_arg (hval 0 22 v0 rfl rfl) h0
  clear hA0 hval0
  refine (orderWins_any v0 l W h_l).mono fun e W' ⟨he, grw⟩ => ?_
  subst he
  have bel := grw.below
  exact ⟨_, rfl, _, _, _, [], _, [], hW', trodAll_mk1 (shut_bool Try.underlying4 _), (trodAll_cons_mk (Below.trod orderWins_laidOut (by kernel_rfl) (of_decide_eq_true (by kernel_rfl)) k0 bel lt0) trodAll_mk0), rfl, bel.frame _, fun h => by cases h⟩

/-- THE STATEMENT -/
theorem orderWins_holds : Rows.OrderWinsSaid :=
  OpenClaim.holds_of_wide 4 Try.f4 rfl rfl rfl rfl rfl rfl rfl ⟨rfl, rfl, rfl, rfl, rfl⟩ rfl rfl rfl rfl rfl (by kernel_rfl) Try.func4 (by kernel_rfl)
    (of_decide_eq_true (by kernel_rfl)) (by unfold Func.isWrapper; first | (rw [if_pos (by decide +kernel)]; kernel_rfl) | (rw [if_neg (by decide +kernel)]; exact ⟨rfl, rfl⟩))
    (fun os started H enc _ => orderWins_lifted os started H enc)
#print axioms orderWins_holds

end Go.Proofs.Ytajkfmnnokkcaaa
