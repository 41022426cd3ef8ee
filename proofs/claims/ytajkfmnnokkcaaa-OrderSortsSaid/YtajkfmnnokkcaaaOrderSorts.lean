/- For every list of claims the statement OrderSorts answers true: the places in order, the weaker ones ahead, are those of the document. No condition. -/
import Derived.Test.YtajkfmnnokkcaaaRows
import Derived.Test.YtajkfmnnokkcaaaOrdAwk
import Derived.Test.YtajkfmnnokkcaaaRefSort2
import Derived.Test.YtajkfmnnokkcaaaArgsC
set_option linter.unusedSimpArgs false
set_option linter.unusedVariables false
namespace Go
open Go.RowKit
theorem SlAt.take {α : Type} {w : World} {S : Nat → Prop} {n : Nat} {R : α → List Value → Prop} {a : Option Addr} {len cap : Nat} {l : List α} (h : SlAt w S n R (.slice a len cap) l) {k : Nat} (hk : k ≤ l.length) :
    SlAt w S n R (.slice a k cap) (l.take k) := by
  obtain ⟨a', cap', e, h2, h3, h4⟩ := h
  injection e with e1 e2 e3
  subst e1; subst e3
  have hl : (l.take k).length = k := by simp [hk]
  refine ⟨a, cap, by rw [hl], by omega, h3, ?_⟩
  rcases h4 with rfl | ⟨g, off, rfl, hS, h7⟩
  · exact .inl (by simp)
  · exact .inr ⟨g, off, rfl, hS, fun i x hx => h7 i x (by
      have := (List.getElem?_eq_some_iff.1 hx).1
      rw [List.getElem?_take_of_lt (by omega)] at hx; exact hx)⟩
end Go
namespace Go.Proofs.Ytajkfmnnokkcaaa
open Go.ChangeShapes Go.WideShapes Go.ChangeAt Go.RowKit
open Go.ChangeMaps (open_string shut_string)

set_option maxRecDepth 100000 in
set_option maxHeartbeats 4000000 in
theorem orderSorts_any (v : Value) (l : List Cl) (w : World) (h : SlAt w (fun _ => True) 8 ClR v l) : Calls Try.prog 3 #[v] w (Gives w (.bool true)) := by
  have h0 := h
  obtain ⟨a, cap, rfl, h1, h2, _⟩ := h
  have body : ∀ (N N' : Nat) (l' : List Cl), l'.length = N' → N' ≤ 400 → N ≤ cap → (N' = N ∧ ¬ 400 < N ∨ N' = 400 ∧ 400 < N) → SlAt w (fun _ => True) 8 ClR (.slice a N' cap) l' → Calls Try.prog 3 #[.slice a N cap] w (Gives w (.bool true)) := by
    intro N N' l' hl hN hNc hor hs
    have cA : ∀ W, w.grows W → Calls Try.prog 10 #[.slice a N' cap] W (Gives W (.bool (l'.all Cl.may))) := fun W hg => refAll_any _ l' W (hs.cl hg)
    have cS := ordSort_any _ l' w hs (by omega)
    cases hall : l'.all Cl.may with
    | false =>
      rw [hall] at cA
      have c2 : Calls Try.prog 9 #[.slice a N' cap] w fun e w' => e = .returned (.tuple #[.slice none 0 0, .int .i64 1]) ∧ w.grows w' := cS.mono fun e w' hs => by
        obtain ⟨hg, ⟨_, e1⟩ | ⟨hh, _⟩⟩ := hs
        · exact ⟨e1, hg⟩
        · rw [hall] at hh; cases hh
      have CA := Lib.hid cA; have CS := Lib.hid c2
      clear cA cS c2 hs hl hall h0
      rcases hor with ⟨rfl, h4⟩ | ⟨rfl, h4⟩
      · have n1 : ¬ (400 : Int) < (N' : Int) := by omega
        go_enter Try.func3, Try.ntmps3
        go_wp2_with (first | (go_at_call 9; (with_reducible refine (CS.out).mono ?_); rintro e w1 ⟨rfl, hg1⟩) | (go_at_call 10; (with_reducible refine (CA.out _ (by repeat (with_reducible first | assumption | exact grA | apply grB | apply grC | apply grD | refine grE ?_ (by omega) _ | refine grF ?_ (by omega) _ _))).mono ?_); rintro e w1 ⟨rfl, x1, rfl⟩) | (go_at_call 11; (with_reducible refine (awake20_any _).mono ?_); rintro e w1 ⟨rfl, x1, rfl⟩))
        go_ret
        exact ⟨rfl, (by repeat (with_reducible first | assumption | exact grA | apply grB | apply grC | apply grD | refine grE ?_ (by omega) _ | refine grF ?_ (by omega) _ _))⟩
      · have n1 : (400 : Int) < (N : Int) := by omega
        go_enter Try.func3, Try.ntmps3
        go_wp2_with (first | (go_at_call 9; (with_reducible refine (CS.out).mono ?_); rintro e w1 ⟨rfl, hg1⟩) | (go_at_call 10; (with_reducible refine (CA.out _ (by repeat (with_reducible first | assumption | exact grA | apply grB | apply grC | apply grD | refine grE ?_ (by omega) _ | refine grF ?_ (by omega) _ _))).mono ?_); rintro e w1 ⟨rfl, x1, rfl⟩) | (go_at_call 11; (with_reducible refine (awake20_any _).mono ?_); rintro e w1 ⟨rfl, x1, rfl⟩))
        go_ret
        exact ⟨rfl, (by repeat (with_reducible first | assumption | exact grA | apply grB | apply grC | apply grD | refine grE ?_ (by omega) _ | refine grF ?_ (by omega) _ _))⟩
    | true =>
      rw [hall] at cA
      have c2 : Calls Try.prog 9 #[.slice a N' cap] w fun e w' => ∃ (g : Nat) (f : Nat → Int), e = .returned (.tuple #[.slice (some ⟨g, 0, none⟩) N' N', .int .i64 0]) ∧ w.grows w' ∧ w'.row g = some (.cells (intsL f N').toArray 3) ∧ Hid (Run (ltC (atC l')) f 0 N') := cS.mono fun e w' hs => by
        obtain ⟨hg, ⟨hh, _⟩ | ⟨_, g, f, h1, h2, h3, h4⟩⟩ := hs
        · rw [hall] at hh; cases hh
        · rw [hl] at h1 h3 h4; exact ⟨g, f, h1, hg, h3, Lib.hid h4⟩
      have c3 : ∀ W f, w.grows W → Run (ltC (atC l')) f 0 N' → Calls Try.prog 13 #[.slice a N' cap] W fun e w' => W.grows w' ∧ ∃ g, e = .returned (.slice (some ⟨g, 0, none⟩) N' N') ∧ w'.row g = some (.cells (intsL f N').toArray 3) := fun W f hg hR => by
        have := refSort_any (.slice a N' cap) l' W (hs.cl hg) (by omega) hall f (by rw [hl]; exact hR)
        rw [hl] at this; exact this
      have CA := Lib.hid cA; have CS := Lib.hid c2; have C3 := Lib.hid c3
      clear cA cS c2 c3 hs hl hall h0
      rcases hor with ⟨rfl, h4⟩ | ⟨rfl, h4⟩
      · have n1 : ¬ (400 : Int) < (N' : Int) := by omega
        go_enter Try.func3, Try.ntmps3
        go_wp2_with (first | (go_at_call 9; (with_reducible refine (CS.out).mono ?_); rintro e w1 ⟨g, f, rfl, hg1, hx1, HR⟩; have z1 := row_sz' hx1) | (go_at_call 10; (with_reducible refine (CA.out _ (by repeat (with_reducible first | assumption | exact grA | apply grB | apply grC | apply grD | refine grE ?_ (by omega) _ | refine grF ?_ (by omega) _ _))).mono ?_); rintro e w2 ⟨rfl, x1, rfl⟩) | (go_at_call 13; (with_reducible refine (C3.out _ _ (by repeat (with_reducible first | assumption | exact grA | apply grB | apply grC | apply grD | refine grE ?_ (by omega) _ | refine grF ?_ (by omega) _ _)) HR.out).mono ?_); rintro e w3 ⟨hg3, k, rfl, hx3⟩; have hgw : w.grows w3 := World.grows.trans (by repeat (with_reducible first | assumption | exact grA | apply grB | apply grC | apply grD | refine grE ?_ (by omega) _ | refine grF ?_ (by omega) _ _)) hg3; have hx4 : w3.row g = some (.cells (intsL f N').toArray 3) := (hg3.row_eq (by simp [z1])).trans (by simp [go_sem, hx1, z1])) | (go_at_call 12; (with_reducible refine (ints_same g k _ _ N' f _ hx4 hx3 (by omega) (Nat.le_refl _) (Nat.le_refl _) (by omega) (by omega)).mono ?_); rintro e w4 ⟨rfl, x4, rfl⟩) | (go_at_call 11; (with_reducible refine (awake20_any _).mono ?_); rintro e w1 ⟨rfl, x1, rfl⟩))
        go_ret
        exact ⟨rfl, (by repeat (with_reducible first | assumption | exact grA | apply grB | apply grC | apply grD | refine grE ?_ (by omega) _ | refine grF ?_ (by omega) _ _))⟩
      · have n1 : (400 : Int) < (N : Int) := by omega
        go_enter Try.func3, Try.ntmps3
        go_wp2_with (first | (go_at_call 9; (with_reducible refine (CS.out).mono ?_); rintro e w1 ⟨g, f, rfl, hg1, hx1, HR⟩; have z1 := row_sz' hx1) | (go_at_call 10; (with_reducible refine (CA.out _ (by repeat (with_reducible first | assumption | exact grA | apply grB | apply grC | apply grD | refine grE ?_ (by omega) _ | refine grF ?_ (by omega) _ _))).mono ?_); rintro e w2 ⟨rfl, x1, rfl⟩) | (go_at_call 13; (with_reducible refine (C3.out _ _ (by repeat (with_reducible first | assumption | exact grA | apply grB | apply grC | apply grD | refine grE ?_ (by omega) _ | refine grF ?_ (by omega) _ _)) HR.out).mono ?_); rintro e w3 ⟨hg3, k, rfl, hx3⟩; have hgw : w.grows w3 := World.grows.trans (by repeat (with_reducible first | assumption | exact grA | apply grB | apply grC | apply grD | refine grE ?_ (by omega) _ | refine grF ?_ (by omega) _ _)) hg3; have hx4 : w3.row g = some (.cells (intsL f 400).toArray 3) := (hg3.row_eq (by simp [z1])).trans (by simp [go_sem, hx1, z1])) | (go_at_call 12; (with_reducible refine (ints_same g k _ _ 400 f _ hx4 hx3 (by omega) (Nat.le_refl _) (Nat.le_refl _) (by omega) (by omega)).mono ?_); rintro e w4 ⟨rfl, x4, rfl⟩) | (go_at_call 11; (with_reducible refine (awake20_any _).mono ?_); rintro e w1 ⟨rfl, x1, rfl⟩))
        go_ret
        exact ⟨rfl, (by repeat (with_reducible first | assumption | exact grA | apply grB | apply grC | apply grD | refine grE ?_ (by omega) _ | refine grF ?_ (by omega) _ _))⟩
  by_cases h4 : 400 < l.length
  · exact body _ 400 (l.take 400) (by simp; omega) (by omega) h1 (.inr ⟨rfl, h4⟩) (h0.take (by omega))
  · exact body _ _ l rfl (by omega) h1 (.inl ⟨rfl, h4⟩) h0

theorem orderSorts_own : ownKnob Try.prog.godebug = none := by kernel_rfl
theorem orderSorts_laidOut : laidOutB Try.prog = true := by kernel_rfl
set_option maxRecDepth 100000 in
set_option maxHeartbeats 2000000 in
theorem orderSorts_lifted (os : Os) (started : os.Started) (H : Type) (enc : TypeId × Value → H) :
    ReturnsInHanded {} Try.checked os 3 .any (Rows.orderSortsSpec.pre6 enc Try.prog Try.f3 Rows.orderSortsRow.domain false) (Rows.orderSortsSpec.post enc Try.prog Try.f3 false true false false) := by
  refine returnsInHanded_of_change (C := Try.checked) orderSorts_own started (by kernel_rfl) Try.func3
    (ChangeSpec.witness6 (enc := enc) (C := Try.checked) false ⟨#[], #[.slice none 0 0], []⟩ 8 (by kernel_rfl) (by kernel_rfl) (by kernel_rfl) (by kernel_rfl)) ?_
  intro W base args ds gs before hval0 hW hcnd _
  have hval : ∀ (j : Nat) t v, Try.f3.params[j]? = some t → args[j]? = some v → Value.okWide Try.prog W .any base t v := hval0
  have hW' := hW
  obtain ⟨p, q, hA0, hV, rfl, hfz, hnd⟩ := hW
  have hA : DataW.TrodAll enc Try.prog W 0 (fun _ => true) true Try.f3.params.toList args.toList ds p := hA0
  rw [Try.params3] at hA hval
  obtain ⟨v0, vs0, d0, ds0, p0, q0, hargs, rfl, rfl, h0, r0⟩ := trodAll_cons hA
  obtain ⟨rfl, rfl, rfl⟩ := trodAll_nil r0
  obtain rfl : args = #[v0] := by cases args; simp_all
  obtain ⟨rfl, rfl⟩ := trodVars_none hV
  have k0 := h0
  have lt0 : ∀ x ∈ p0, x.block < W.heap.size := by obtain ⟨m, hm⟩ := k0; exact DataW.trod_lt m _ _ _ hm
  obtain ⟨l, h_l⟩ := claims_arg (hval 0 22 v0 rfl rfl) h0
  clear hA0 hval0
  refine (orderSorts_any v0 l W h_l).mono fun e W' ⟨he, grw⟩ => ?_
  subst he
  have bel := grw.below
  exact ⟨_, rfl, _, _, _, [], _, [], hW', trodAll_mk1 (shut_bool Try.underlying4 _), (trodAll_cons_mk (Below.trod orderSorts_laidOut (by kernel_rfl) (of_decide_eq_true (by kernel_rfl)) k0 bel lt0) trodAll_mk0), rfl, bel.frame _, fun h => by cases h⟩

/-- THE STATEMENT -/
theorem orderSorts_holds : Rows.OrderSortsSaid :=
  OpenClaim.holds_of_wide 3 Try.f3 rfl rfl rfl rfl rfl rfl rfl ⟨rfl, rfl, rfl, rfl, rfl⟩ rfl rfl rfl rfl rfl (by kernel_rfl) Try.func3 (by kernel_rfl)
    (of_decide_eq_true (by kernel_rfl)) (by unfold Func.isWrapper; first | (rw [if_pos (by decide +kernel)]; kernel_rfl) | (rw [if_neg (by decide +kernel)]; exact ⟨rfl, rfl⟩))
    (fun os started H enc _ => orderSorts_lifted os started H enc)
#print axioms orderSorts_holds

end Go.Proofs.Ytajkfmnnokkcaaa
