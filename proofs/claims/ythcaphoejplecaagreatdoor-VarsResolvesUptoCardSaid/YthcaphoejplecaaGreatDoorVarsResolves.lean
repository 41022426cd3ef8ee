/- THE TIED CARD of VarsResolves: for all that is declared and all that is inherited, as great as memory may be: the program's custom properties are the reference's. The arguments' bulk is at most 2^20. -/
import Derived.Test.YthcaphoejplecaaGreatDoorVs2
import Derived.Test.YthcaphoejplecaaGreatDoorLaidK
import Derived.Test.YthcaphoejplecaaGreatDoorCards
import Derived.Test.YthcaphoejplecaaGreatDoorTie
import Derived.SevenTiedAt
set_option linter.unusedSimpArgs false
set_option linter.unusedVariables false
namespace Go.Proofs.YthcaphoejplecaaGreatDoor
open Go.ChangeShapes Go.WideShapes Go.ChangeAt Go.WideMaps Go.WideElems Go.RowKit
open Go.ChangeMaps (open_string shut_string)

theorem varsResolves_own : ownKnob Tryz.prog.godebug = none := by kernel_rfl
theorem varsResolves_laidOut : laidOutB Tryz.prog = true := by kernel_rfl
set_option maxRecDepth 100000 in
set_option maxHeartbeats 2000000 in
theorem varsResolves_lifted (os : Os) (started : os.Started) (H : Type) (enc : TypeId × Value → H) (F : Stop.Interp) :
    ReturnsInHanded {} Tryz.checked os 3 .any (fun w args => ((Rows.OpenSpec.upto Rows.varsResolvesSpec).pre enc Tryz.prog Tryz.f3 [] false w args ∧ laidMetH Tryz.prog laidA w) ∧ sizedMet enc Tryz.prog Tryz.f3 (Rows.OpenSpec.upto Rows.varsResolvesSpec) false w args) (((Rows.OpenSpec.upto Rows.varsResolvesSpec).at F).post enc Tryz.prog Tryz.f3 false true false false) := by
  refine returnsInHanded_of_cond_and (C := Tryz.checked) (s := Rows.OpenSpec.upto Rows.varsResolvesSpec) (k := Rows.uptoSmall) rfl (X := fun w _ => laidMetH Tryz.prog laidA w) (fun _ _ _ hh h => h.of_heap hh) varsResolves_own started (by kernel_rfl) Tryz.func3
    (OpenSpec.witness_laid (enc := enc) (C := Tryz.checked) (os := os) (s := Rows.OpenSpec.upto Rows.varsResolvesSpec) (k := Rows.uptoSmall) rfl (X := fun w _ => laidMetH Tryz.prog laidA w) false (World.doorLaid Tryz.prog 400 os) #[.slice none 0 0, .slice none 0 0] 8 rfl (World.shaped_of_RefB (by kernel_rfl) (by kernel_rfl)) (by kernel_rfl)
      (x := ([.nil, .nil], [], [])) (by kernel_rfl) rfl (by kernel_rfl) (by kernel_rfl) (door_met os _)) ?_
  intro W base args ds gs before hval0 hW hcnd hk hL _
  have hval : ∀ (j : Nat) t v, Tryz.f3.params[j]? = some t → args[j]? = some v → Value.okWide Tryz.prog W .any base t v := hval0
  have hW' := hW
  obtain ⟨p, q, hA0, hV, rfl, hfz, hnd⟩ := hW
  have hA : DataW.TrodAll enc Tryz.prog W 0 (fun _ => true) true Tryz.f3.params.toList args.toList ds p := hA0
  rw [Tryz.params3] at hA hval
  obtain ⟨v0, vs0, d0, ds0, p0, q0, hargs, rfl, rfl, h0, r0⟩ := trodAll_cons hA
  obtain ⟨v1, vs1, d1, ds1, p1, q1, rfl, rfl, rfl, h1, r1⟩ := trodAll_cons r0
  obtain ⟨rfl, rfl, rfl⟩ := trodAll_nil r1
  obtain rfl : args = #[v0, v1] := by cases args; simp_all
  obtain ⟨rfl, rfl⟩ := trodVars_none hV
  have hbk := bulk_bound hk
  simp only [List.append_nil, Rows.uptoBulkAll] at hbk
  have kinds := of_laid hL
  have k0 := h0
  have lt0 : ∀ x ∈ p0, x.block < W.heap.size := by obtain ⟨m, hm⟩ := k0; exact DataW.trod_lt m _ _ _ hm
  have k1 := h1
  have lt1 : ∀ x ∈ p1, x.block < W.heap.size := by obtain ⟨m, hm⟩ := k1; exact DataW.trod_lt m _ _ _ hm
  obtain ⟨l_o, h_o, b_o⟩ := cus_arg (hval 0 22 v0 rfl rfl) h0 (by omega)
  obtain ⟨l_d, h_d, b_d⟩ := cus_arg (hval 1 22 v1 rfl rfl) h1 (by omega)
  clear hA0 hval0
  refine (resolves_any h_o (by omega) h_d (by omega) (fun _ h => h) (fun _ h => h) kinds).mono fun e W' ⟨he, grw⟩ => ?_
  subst he
  have bel := grw.below
  exact ⟨_, rfl, _, _, _, [], _, [], hW', trodAll_mk1 (shut_bool Tryz.underlying4 _), (trodAll_cons_mk (Below.trod varsResolves_laidOut (by kernel_rfl) (of_decide_eq_true (by kernel_rfl)) k0 bel lt0) (trodAll_cons_mk (Below.trod varsResolves_laidOut (by kernel_rfl) (of_decide_eq_true (by kernel_rfl)) k1 bel lt1) trodAll_mk0)), rfl, bel.frame _, fun h => by cases h⟩
theorem varsResolves_holds : Rows.VarsResolvesUptoSaid :=
  OpenClaim.holds_of_cond 3 Tryz.f3 rfl rfl rfl rfl rfl rfl rfl ⟨rfl, rfl, rfl, rfl, rfl⟩ rfl rfl rfl rfl rfl (by kernel_rfl) Tryz.func3 (by kernel_rfl)
    (of_decide_eq_true (by kernel_rfl)) (by unfold Func.isWrapper; first | (rw [if_pos (by decide +kernel)]; kernel_rfl) | (rw [if_neg (by decide +kernel)]; exact ⟨rfl, rfl⟩))
    (fun os started H enc _ F => varsResolves_lifted os started H enc F)
set_option maxRecDepth 100000 in
/-- THE STATEMENT -/
theorem varsResolvesUptoCard_holds : Rows.VarsResolvesUptoCardSaid :=
  Claim7.holds_tied_plain_at .later [] [.data] true (true, "bc608d9d9a40b5f7f90fa9f3f8667bd82b6075d4de90993ca4ecdeda20a3c264") false
    varsResolves_holds (fun _ h => by cases h) (by kernel_rfl) (fun _ h => by cases h) varsResolvesUpto_row_tie rfl ⟨rfl, rfl⟩ (by kernel_rfl) rfl
    (fun f fn hf hfn => by
      obtain rfl : f = 3 := Option.some.inj ((show Tryz.prog.funcNamed "jalousie/jalousielaw21.VarsResolves" = some 3 by kernel_rfl).symm.trans hf) |>.symm
      obtain rfl : fn = Tryz.f3 := (Option.some.inj (Tryz.func3.symm.trans hfn)).symm
      exact ⟨by kernel_rfl, fun j t ht => by
        rw [Tryz.params3] at ht
        have hm : t ∈ [22, 22] := by simpa using Array.mem_of_getElem? ht
        have hall : ([22, 22].all fun u => !Tryz.prog.wantsStandIn u) = true := by kernel_rfl
        exact (show Tryz.prog.wantsStandIn t = false by simpa using List.all_eq_true.1 hall t hm)⟩)
    (by kernel_rfl)
#print axioms varsResolvesUptoCard_holds

end Go.Proofs.YthcaphoejplecaaGreatDoor
