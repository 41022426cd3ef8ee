/- THE TABLE OF KINDS as the program's text lays it; a law under a condition and with a laid variable. No condition. -/
import Derived.Test.YthcaphoejplecaaGreatDoorRows
import Derived.Test.YthcaphoejplecaaGreatDoorOpenV
import Derived.Test.YthcaphoejplecaaGreatDoorTk3
import Derived.ProofKit
import Derived.LaidMore
import Derived.OpenShut
import Derived.Stop.Joined
import Derived.JoinedCond
import Derived.LaidLaws
set_option linter.unusedSimpArgs false
set_option linter.unusedVariables false
namespace Go
theorem OpenSpec.witness_laid {H : Type} {enc : TypeId × Value → H} {C : Checked} {os : Os} {f : FuncId} {fn : Func} {s : OpenSpec} {k : (H : Type) → List (DataW H) → Bool} (hk : s.cond = some k) {conds : List PathCond} {apart : Bool} {X : World → Array Value → Prop} (modest : Bool) (w0 : World) (args : Array Value) (fuel : Nat) (hos : w0.os = os)
    (hsh : (w0.forCall (fun _ _ => 0) ⟨#[], args, []⟩).Shaped C.prog)
    (hok : Input.okWideB C.prog (w0.forCall (fun _ _ => 0) ⟨#[], args, []⟩) f ⟨#[], args, []⟩ = true)
    {x : List (DataW H) × List (DataW H) × List MemPlace} (hx : DataW.whole enc C.prog (w0.forCall (fun _ _ => 0) ⟨#[], args, []⟩).memory fn.params.toList s.vars apart args.toList fuel = some x)
    (hconds : conds.all (PathCond.test C.prog ⟨fn.params.toList, x.1, s.bare.plain.varTypes C.prog, x.2.1⟩) = true) (hkk : k H (x.1 ++ x.2.1) = true)
    (hsz : s.bare.sizedB enc C.prog fn apart (w0.forCall (fun _ _ => 0) ⟨#[], args, []⟩).memory args fuel = true)
    (hX : X (w0.forCall (fun _ _ => 0) ⟨#[], args, []⟩).memory args) :
    ∃ (w : World) (tape : Tape) (i : Input), w.os = os ∧ (w.forCall tape i).Shaped C.prog ∧ i.vars = [] ∧ Input.okWide C.prog (w.forCall tape i) .any w.heap.size f i ∧
      ((s.pre enc C.prog fn conds apart (w.forCall tape i).memory i.args ∧ X (w.forCall tape i).memory i.args) ∧ sizedMet enc C.prog fn s apart (w.forCall tape i).memory i.args) ∧ ({ modest := modest } : Assume).holds C.prog (lone (Frame.enter C.prog f i.args .normal) [] (w.forCall tape i)) :=
  ⟨w0, fun _ _ => 0, ⟨#[], args, []⟩, hos, hsh, (Input.okWide_of_okWideB (base := 0) hok).1, (Input.okWide_of_okWideB hok).2, ⟨⟨(OpenSpec.pre_some hk conds apart _ _).2 ⟨x.1, x.2.1, x.2.2, DataW.Whole_of_whole hx, hconds, hkk⟩, hX⟩, sizedMet_of_sizedB hsz⟩, by
    simp only [Assume.holds]
    exact ⟨by simp, by simp, fun _ => Modest.zero, by simp, by simp⟩⟩
theorem returnsInHanded_of_cond_and {H : Type} {enc : TypeId × Value → H} {a : Assume} {C : Checked} {os : Os} {f : FuncId} {fn : Func} {s : OpenSpec} {k : (H : Type) → List (DataW H) → Bool} (hk : s.cond = some k) {F : Stop.Interp} {conds : List PathCond} {apart fresh handsOn again : Bool} {X : World → Array Value → Prop}
    (hX : ∀ (w w' : World) (args : Array Value), w.heap = w'.heap → X w args → X w' args)
    (own : ownKnob C.prog.godebug = none) (started : os.Started) (noInit : C.prog.inits.idxOf? f = none) (hfn : C.prog.funcs[f]? = some fn)
    (witness : ∃ (w : World) (tape : Tape) (i : Input), w.os = os ∧ (w.forCall tape i).Shaped C.prog ∧ i.vars = [] ∧ Input.okWide C.prog (w.forCall tape i) .any w.heap.size f i ∧
      ((s.pre enc C.prog fn conds apart (w.forCall tape i).memory i.args ∧ X (w.forCall tape i).memory i.args) ∧ sizedMet enc C.prog fn s apart (w.forCall tape i).memory i.args) ∧ a.holds C.prog (lone (Frame.enter C.prog f i.args .normal) [] (w.forCall tape i)))
    (contract : ∀ (W : World) (base : Nat) (args : Array Value) (ds gs : List (DataW H)) (before : List MemPlace),
      (∀ (j : Nat) t v, fn.params[j]? = some t → args[j]? = some v → Value.okWide C.prog W .any base t v) →
      DataW.Whole enc C.prog fn.params.toList s.vars apart W args.toList ds gs before →
      conds.all (PathCond.test C.prog ⟨fn.params.toList, ds, s.bare.plain.varTypes C.prog, gs⟩) = true → k H (ds ++ gs) = true → X W args →
      a.holds C.prog (lone (Frame.enter C.prog f args .normal) [] W) →
      Calls C.prog f args W fun e W' => ∃ v, e = .returned v ∧ (s.at F).post enc C.prog fn apart fresh handsOn again W args v W') :
    ReturnsInHanded a C os f .any (fun w args => (s.pre enc C.prog fn conds apart w args ∧ X w args) ∧ sizedMet enc C.prog fn s apart w args) ((s.at F).post enc C.prog fn apart fresh handsOn again) := by
  refine returnsInHanded_of_calls own started noInit witness ?_
  intro w tape i _ _ _ hok hpre hholds
  obtain ⟨_, _, _, fn', hfn', _, _, _, _, hval⟩ := hok
  have e : fn' = fn := Option.some.inj (hfn'.symm.trans hfn)
  subst e
  obtain ⟨ds, gs, before, hw, hc, hkk⟩ := (OpenSpec.pre_some hk conds apart _ _).1 hpre.1.1
  have hw' := DataW.Whole.of_heap (w' := w.forCall tape i) (by rfl) hw
  refine (contract (w.forCall tape i) w.heap.size i.args ds gs before hval hw' hc hkk (hX _ _ _ (by rfl) hpre.1.2) hholds).mono fun e W' ⟨v, he, hp⟩ => ?_
  subst he
  exact ChangeSpec.post_blind hp
end Go
namespace Go.Proofs.YthcaphoejplecaaGreatDoor
open Go.ChangeShapes Go.WideShapes Go.ChangeAt Go.WideMaps Go.WideElems Go.RowKit
def laidA {H : Type} : List (String × DataW H) := [("jalousie/jalousieref3.kinds", Rows.laid_jalousie_jalousieref3_kinds)]
theorem gAll : Tryz.prog.globalNamed "jalousie/jalousieref3.kinds" = some 0 := by kernel_rfl
theorem tAll : (Tryz.prog.globals[0]?).map (·.type) = some 117 := by kernel_rfl
theorem door_met (os : Os) (args : Array Value) : laidMetH Tryz.prog laidA ((World.doorLaid Tryz.prog 400 os).forCall (fun _ _ => 0) ⟨#[], args, []⟩).memory :=
  laidMetH_of_parts3 (fuel := 8) (laidMet_of_run' 8 (by kernel_rfl) (by kernel_rfl)) (by kernel_rfl) (by kernel_rfl)
set_option maxRecDepth 100000 in
theorem of_laid {W : World} (h : laidMetH Tryz.prog laidA W) : KindsAt W := by
  rw [MakeChecks.laidMetH_plain _ _ _ (by kernel_rfl)] at h
  obtain ⟨ps, ⟨g, t, cs, fuel, p, q, hg, ht, hv, hd, _, _⟩, _, _⟩ := h
  obtain rfl := Option.some.inj (gAll.symm.trans hg)
  obtain rfl := Option.some.inj (tAll.symm.trans ht)
  obtain ⟨xs, m, _, ex, hl, hn, hel⟩ := DataW.trod_array Tryz.underlying117 hd
  have c9 : Tryz.prog.cellsOf 3 = 1 := by kernel_rfl
  have c37 : Tryz.prog.cellsOf 117 = 9 := by kernel_rfl
  rw [c9] at hel; rw [c37] at hl
  have hrow : ∃ ty fr, W.row 0 = some (.cells cs ty fr) := by
    unfold World.var? at hv
    rw [gAll] at hv
    simp only [Option.bind_some] at hv
    unfold World.row
    split at hv
    · rename_i c ty fr e; cases hv; exact ⟨ty, fr, e⟩
    · cases hv
  obtain ⟨ty, fr, hrow⟩ := hrow
  refine ⟨ty, fr, ?_⟩
  rw [hrow]
  obtain ⟨l⟩ := cs
  simp only at hl hel
  obtain ⟨c0, c1, c2, c3, c4, c5, c6, c7, c8, rfl⟩ := len9 hl
  match xs, hn with
  | [x0, x1, x2, x3, x4, x5, x6, x7, x8], _ =>
    simp only [List.map_cons, List.map_nil, Prod.mk.injEq, Rows.laid_jalousie_jalousieref3_kinds, DataW.agg.injEq, List.cons.injEq, and_true] at ex
    obtain ⟨⟨e0, e1, e2, e3, e4, e5, e6, e7, e8⟩, _⟩ := ex
    obtain ⟨s0, a0, b0, _⟩ := DataW.trod_int (k := .i64) Tryz.underlying3 (show DataW.trod _ Tryz.prog W 0 _ false m 3 [c0] = some x0 from hel 0 (by decide))
    simp only [List.cons.injEq, and_true] at a0; subst a0; subst b0
    simp only [DataW.lit.injEq, Lit.int.injEq, true_and] at e0
    subst e0
    obtain ⟨s1, a1, b1, _⟩ := DataW.trod_int (k := .i64) Tryz.underlying3 (show DataW.trod _ Tryz.prog W 0 _ false m 3 [c1] = some x1 from hel 1 (by decide))
    simp only [List.cons.injEq, and_true] at a1; subst a1; subst b1
    simp only [DataW.lit.injEq, Lit.int.injEq, true_and] at e1
    subst e1
    obtain ⟨s2, a2, b2, _⟩ := DataW.trod_int (k := .i64) Tryz.underlying3 (show DataW.trod _ Tryz.prog W 0 _ false m 3 [c2] = some x2 from hel 2 (by decide))
    simp only [List.cons.injEq, and_true] at a2; subst a2; subst b2
    simp only [DataW.lit.injEq, Lit.int.injEq, true_and] at e2
    subst e2
    obtain ⟨s3, a3, b3, _⟩ := DataW.trod_int (k := .i64) Tryz.underlying3 (show DataW.trod _ Tryz.prog W 0 _ false m 3 [c3] = some x3 from hel 3 (by decide))
    simp only [List.cons.injEq, and_true] at a3; subst a3; subst b3
    simp only [DataW.lit.injEq, Lit.int.injEq, true_and] at e3
    subst e3
    obtain ⟨s4, a4, b4, _⟩ := DataW.trod_int (k := .i64) Tryz.underlying3 (show DataW.trod _ Tryz.prog W 0 _ false m 3 [c4] = some x4 from hel 4 (by decide))
    simp only [List.cons.injEq, and_true] at a4; subst a4; subst b4
    simp only [DataW.lit.injEq, Lit.int.injEq, true_and] at e4
    subst e4
    obtain ⟨s5, a5, b5, _⟩ := DataW.trod_int (k := .i64) Tryz.underlying3 (show DataW.trod _ Tryz.prog W 0 _ false m 3 [c5] = some x5 from hel 5 (by decide))
    simp only [List.cons.injEq, and_true] at a5; subst a5; subst b5
    simp only [DataW.lit.injEq, Lit.int.injEq, true_and] at e5
    subst e5
    obtain ⟨s6, a6, b6, _⟩ := DataW.trod_int (k := .i64) Tryz.underlying3 (show DataW.trod _ Tryz.prog W 0 _ false m 3 [c6] = some x6 from hel 6 (by decide))
    simp only [List.cons.injEq, and_true] at a6; subst a6; subst b6
    simp only [DataW.lit.injEq, Lit.int.injEq, true_and] at e6
    subst e6
    obtain ⟨s7, a7, b7, _⟩ := DataW.trod_int (k := .i64) Tryz.underlying3 (show DataW.trod _ Tryz.prog W 0 _ false m 3 [c7] = some x7 from hel 7 (by decide))
    simp only [List.cons.injEq, and_true] at a7; subst a7; subst b7
    simp only [DataW.lit.injEq, Lit.int.injEq, true_and] at e7
    subst e7
    obtain ⟨s8, a8, b8, _⟩ := DataW.trod_int (k := .i64) Tryz.underlying3 (show DataW.trod _ Tryz.prog W 0 _ false m 3 [c8] = some x8 from hel 8 (by decide))
    simp only [List.cons.injEq, and_true] at a8; subst a8; subst b8
    simp only [DataW.lit.injEq, Lit.int.injEq, true_and] at e8
    subst e8
    rfl
end Go.Proofs.YthcaphoejplecaaGreatDoor
