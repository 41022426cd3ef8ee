/- THE TIED CARD of VarsDown: for all that is declared and all that is inherited, as great as memory may be: without anything declared all that is inherited stays; what is told is in order, each once; what is not declared is told as it is inherited. The arguments' bulk is at most 2^20. -/
import Derived.Test.YthcaphoejplecaaDoorVr2
import Derived.Test.YthcaphoejplecaaDoorLaidK
import Derived.Test.YthcaphoejplecaaDoorCards
import Derived.Test.YthcaphoejplecaaDoorTie
import Derived.SevenTiedAt
set_option linter.unusedSimpArgs false
set_option linter.unusedVariables false
namespace Go.Proofs.YthcaphoejplecaaDoor
open Go.ChangeShapes Go.WideShapes Go.ChangeAt Go.WideMaps Go.WideElems Go.RowKit
open Go.ChangeMaps (open_string shut_string)

theorem varsDown_own : ownKnob Tryd.prog.godebug = none := by kernel_rfl
theorem varsDown_laidOut : laidOutB Tryd.prog = true := by kernel_rfl
set_option maxRecDepth 100000 in
set_option maxHeartbeats 2000000 in
theorem varsDown_lifted (os : Os) (started : os.Started) (H : Type) (enc : TypeId × Value → H) (F : Stop.Interp) :
    ReturnsInHanded {} Tryd.checked os 6 .any (fun w args => ((Rows.OpenSpec.upto Rows.varsDownSpec).pre enc Tryd.prog Tryd.f6 [] false w args ∧ laidMetH Tryd.prog laidA w) ∧ sizedMet enc Tryd.prog Tryd.f6 (Rows.OpenSpec.upto Rows.varsDownSpec) false w args) (((Rows.OpenSpec.upto Rows.varsDownSpec).at F).post enc Tryd.prog Tryd.f6 false true false false) := by
  refine returnsInHanded_of_cond_and (C := Tryd.checked) (s := Rows.OpenSpec.upto Rows.varsDownSpec) (k := Rows.uptoSmall) rfl (X := fun w _ => laidMetH Tryd.prog laidA w) (fun _ _ _ hh h => h.of_heap hh) varsDown_own started (by kernel_rfl) Tryd.func6
    (OpenSpec.witness_laid (enc := enc) (C := Tryd.checked) (os := os) (s := Rows.OpenSpec.upto Rows.varsDownSpec) (k := Rows.uptoSmall) rfl (X := fun w _ => laidMetH Tryd.prog laidA w) false (World.doorLaid Tryd.prog 400 os) #[.slice none 0 0, .slice none 0 0] 8 rfl (World.shaped_of_RefB (by kernel_rfl) (by kernel_rfl)) (by kernel_rfl)
      (x := ([.nil, .nil], [], [])) (by kernel_rfl) rfl (by kernel_rfl) (by kernel_rfl) (door_met os _)) ?_
  intro W base args ds gs before hval0 hW hcnd hk hL _
  have hval : ∀ (j : Nat) t v, Tryd.f6.params[j]? = some t → args[j]? = some v → Value.okWide Tryd.prog W .any base t v := hval0
  have hW' := hW
  obtain ⟨p, q, hA0, hV, rfl, hfz, hnd⟩ := hW
  have hA : DataW.TrodAll enc Tryd.prog W 0 (fun _ => true) true Tryd.f6.params.toList args.toList ds p := hA0
  rw [Tryd.params6] at hA hval
  obtain ⟨v0, vs0, d0, ds0, p0, q0, hargs, rfl, rfl, h0, r0⟩ := trodAll_cons hA
  obtain ⟨v1, vs1, d1, ds1, p1, q1, rfl, rfl, rfl, h1, r1⟩ := trodAll_cons r0
  obtain ⟨rfl, rfl, rfl⟩ := trodAll_nil r1
  obtain rfl : args = #[v0, v1] := by cases args; simp_all
  obtain ⟨rfl, rfl⟩ := trodVars_none hV
  have hbk := bulk_bound hk
  simp only [List.append_nil, Rows.uptoBulkAll] at hbk
  have kinds := of_laid hL
  have k0 := h0
  have lt0 : ∀ x ∈ p0, x.block < W.heap.size := by obtain ⟨m, hm⟩ := k0; exact DataW.trod_lt m _ _ _ hm
  have k1 := h1
  have lt1 : ∀ x ∈ p1, x.block < W.heap.size := by obtain ⟨m, hm⟩ := k1; exact DataW.trod_lt m _ _ _ hm
  obtain ⟨l_o, h_o, b_o⟩ := cus_arg (hval 0 23 v0 rfl rfl) h0 (by omega)
  obtain ⟨l_d, h_d, b_d⟩ := cus_arg (hval 1 23 v1 rfl rfl) h1 (by omega)
  clear hA0 hval0
  refine (down_any h_o (by omega) h_d (by omega) (fun _ h => h) (fun _ h => h) kinds).mono fun e W' ⟨he, grw⟩ => ?_
  subst he
  have bel := grw.below
  exact ⟨_, rfl, _, _, _, [], _, [], hW', trodAll_mk1 (shut_bool Tryd.underlying4 _), (trodAll_cons_mk (Below.trod varsDown_laidOut (by kernel_rfl) (of_decide_eq_true (by kernel_rfl)) k0 bel lt0) (trodAll_cons_mk (Below.trod varsDown_laidOut (by kernel_rfl) (of_decide_eq_true (by kernel_rfl)) k1 bel lt1) trodAll_mk0)), rfl, bel.frame _, fun h => by cases h⟩
theorem varsDown_holds : Rows.VarsDownUptoSaid :=
  OpenClaim.holds_of_cond 6 Tryd.f6 rfl rfl rfl rfl rfl rfl rfl ⟨rfl, rfl, rfl, rfl, rfl⟩ rfl rfl rfl rfl rfl (by kernel_rfl) Tryd.func6 (by kernel_rfl)
    (of_decide_eq_true (by kernel_rfl)) (by unfold Func.isWrapper; first | (rw [if_pos (by decide +kernel)]; kernel_rfl) | (rw [if_neg (by decide +kernel)]; exact ⟨rfl, rfl⟩))
    (fun os started H enc _ F => varsDown_lifted os started H enc F)
set_option maxRecDepth 100000 in
/-- THE STATEMENT -/
theorem varsDownUptoCard_holds : Rows.VarsDownUptoCardSaid :=
  Claim7.holds_tied_plain_at .later [] [.data] true (true, "565610b08cad54df0edb74376f7ef65f7f42e8935a0d6a584f8895b85a024494") false
    varsDown_holds (fun _ h => by cases h) (by kernel_rfl) (fun _ h => by cases h) varsDownUpto_row_tie rfl ⟨rfl, rfl⟩ (by kernel_rfl) rfl
    (fun f fn hf hfn => by
      obtain rfl : f = 6 := Option.some.inj ((show Tryd.prog.funcNamed "jalousie/jalousielaw21.VarsDown" = some 6 by kernel_rfl).symm.trans hf) |>.symm
      obtain rfl : fn = Tryd.f6 := (Option.some.inj (Tryd.func6.symm.trans hfn)).symm
      exact ⟨by kernel_rfl, fun j t ht => by
        rw [Tryd.params6] at ht
        have hm : t ∈ [23, 23] := by simpa using Array.mem_of_getElem? ht
        have hall : ([23, 23].all fun u => !Tryd.prog.wantsStandIn u) = true := by kernel_rfl
        exact (show Tryd.prog.wantsStandIn t = false by simpa using List.all_eq_true.1 hall t hm)⟩)
    (by kernel_rfl)
#print axioms varsDownUptoCard_holds

end Go.Proofs.YthcaphoejplecaaDoor
