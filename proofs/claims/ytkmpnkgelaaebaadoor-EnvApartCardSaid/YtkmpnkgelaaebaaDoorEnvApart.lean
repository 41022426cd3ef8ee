/- For every environment and every change the statement EnvApart answers true: a change changes its own features alone. Condition: the package's list of nine names is as the program's text lays it (the card ties it). -/
import Derived.Test.YtkmpnkgelaaebaaDoorRows
import Derived.Test.YtkmpnkgelaaebaaDoorEnvAp
import Derived.Test.YtkmpnkgelaaebaaDoorArgsE
import Derived.Test.YtkmpnkgelaaebaaDoorArgsQ
import Derived.ProofKit
import Derived.LaidMore
import Derived.OpenShut
import Derived.Stop.Joined
set_option linter.unusedSimpArgs false
set_option linter.unusedVariables false
namespace Go
theorem bytes_of {l : List UInt8} {k : ByteArray} (h : l = k.data.toList) : k = ⟨l.toArray⟩ := by
  cases k; simp at h; simp [h]
end Go
namespace Go.Proofs.YtkmpnkgelaaebaaDoor
open Go.ChangeShapes Go.WideShapes Go.ChangeAt Go.WideMaps Go.WideElems Go.RowKit
open Go.ChangeMaps (open_string shut_string)

def laidA {H : Type} : List (String × DataW H) := [("jalousie/jalousielaw16.all", Rows.laid_jalousie_jalousielaw16_all)]
theorem gAll : Tryd.prog.globalNamed "jalousie/jalousielaw16.all" = some 0 := by kernel_rfl
theorem tAll : (Tryd.prog.globals[0]?).map (·.type) = some 37 := by kernel_rfl
theorem door_met (os : Os) (args : Array Value) : laidMetH Tryd.prog laidA ((World.doorLaid Tryd.prog 400 os).forCall (fun _ _ => 0) ⟨#[], args, []⟩).memory :=
  laidMetH_of_parts3 (fuel := 8) (laidMet_of_run' 8 (by kernel_rfl) (by kernel_rfl)) (by kernel_rfl) (by kernel_rfl)

set_option maxRecDepth 100000 in
theorem of_laid {W : World} (h : laidMetH Tryd.prog laidA W) : ∃ (ty : TypeId) (fr : Nat × Nat), W.row 0 = some (.cells #[.string ⟨#[119, 105, 100, 116, 104]⟩, .string ⟨#[104, 101, 105, 103, 104, 116]⟩, .string ⟨#[97, 115, 112, 101, 99, 116, 45, 114, 97, 116, 105, 111]⟩, .string ⟨#[99, 111, 108, 111, 114]⟩, .string ⟨#[104, 111, 118, 101, 114]⟩, .string ⟨#[111, 114, 105, 101, 110, 116, 97, 116, 105, 111, 110]⟩, .string ⟨#[112, 111, 105, 110, 116, 101, 114]⟩, .string ⟨#[112, 114, 101, 102, 101, 114, 115, 45, 99, 111, 108, 111, 114, 45, 115, 99, 104, 101, 109, 101]⟩, .string ⟨#[112, 114, 101, 102, 101, 114, 115, 45, 114, 101, 100, 117, 99, 101, 100, 45, 109, 111, 116, 105, 111, 110]⟩] ty fr) := by
  rw [MakeChecks.laidMetH_plain _ _ _ (by kernel_rfl)] at h
  obtain ⟨ps, ⟨g, t, cs, fuel, p, q, hg, ht, hv, hd, _, _⟩, _, _⟩ := h
  obtain rfl := Option.some.inj (gAll.symm.trans hg)
  obtain rfl := Option.some.inj (tAll.symm.trans ht)
  obtain ⟨xs, m, _, ex, hl, hn, hel⟩ := DataW.trod_array Tryd.underlying37 hd
  have c9 : Tryd.prog.cellsOf 9 = 1 := by kernel_rfl
  have c37 : Tryd.prog.cellsOf 37 = 9 := by kernel_rfl
  rw [c9] at hel; rw [c37] at hl
  have hrow : ∃ ty fr, W.row 0 = some (.cells cs ty fr) := by
    unfold World.var? at hv
    rw [gAll] at hv
    simp only [Option.bind_some] at hv
    unfold World.row
    split at hv
    · rename_i c ty fr e; cases hv; exact ⟨ty, fr, e⟩
    · cases hv
  obtain ⟨ty, fr, hrow⟩ := hrow
  refine ⟨ty, fr, ?_⟩
  rw [hrow]
  obtain ⟨l⟩ := cs
  simp only at hl hel
  obtain ⟨c0, c1, c2, c3, c4, c5, c6, c7, c8, rfl⟩ := len9 hl
  match xs, hn with
  | [x0, x1, x2, x3, x4, x5, x6, x7, x8], _ =>
    simp only [List.map_cons, List.map_nil, Prod.mk.injEq, Rows.laid_jalousie_jalousielaw16_all, DataW.agg.injEq, List.cons.injEq, and_true] at ex
    obtain ⟨⟨e0, e1, e2, e3, e4, e5, e6, e7, e8⟩, _⟩ := ex
    obtain ⟨s0, a0, b0, _⟩ := DataW.trod_string Tryd.underlying9 (show DataW.trod _ Tryd.prog W 0 _ false m 9 [c0] = some x0 from hel 0 (by decide))
    simp only [List.cons.injEq, and_true] at a0; subst a0; subst b0
    simp only [DataW.lit.injEq, Lit.string.injEq] at e0
    obtain rfl := bytes_of e0
    obtain ⟨s1, a1, b1, _⟩ := DataW.trod_string Tryd.underlying9 (show DataW.trod _ Tryd.prog W 0 _ false m 9 [c1] = some x1 from hel 1 (by decide))
    simp only [List.cons.injEq, and_true] at a1; subst a1; subst b1
    simp only [DataW.lit.injEq, Lit.string.injEq] at e1
    obtain rfl := bytes_of e1
    obtain ⟨s2, a2, b2, _⟩ := DataW.trod_string Tryd.underlying9 (show DataW.trod _ Tryd.prog W 0 _ false m 9 [c2] = some x2 from hel 2 (by decide))
    simp only [List.cons.injEq, and_true] at a2; subst a2; subst b2
    simp only [DataW.lit.injEq, Lit.string.injEq] at e2
    obtain rfl := bytes_of e2
    obtain ⟨s3, a3, b3, _⟩ := DataW.trod_string Tryd.underlying9 (show DataW.trod _ Tryd.prog W 0 _ false m 9 [c3] = some x3 from hel 3 (by decide))
    simp only [List.cons.injEq, and_true] at a3; subst a3; subst b3
    simp only [DataW.lit.injEq, Lit.string.injEq] at e3
    obtain rfl := bytes_of e3
    obtain ⟨s4, a4, b4, _⟩ := DataW.trod_string Tryd.underlying9 (show DataW.trod _ Tryd.prog W 0 _ false m 9 [c4] = some x4 from hel 4 (by decide))
    simp only [List.cons.injEq, and_true] at a4; subst a4; subst b4
    simp only [DataW.lit.injEq, Lit.string.injEq] at e4
    obtain rfl := bytes_of e4
    obtain ⟨s5, a5, b5, _⟩ := DataW.trod_string Tryd.underlying9 (show DataW.trod _ Tryd.prog W 0 _ false m 9 [c5] = some x5 from hel 5 (by decide))
    simp only [List.cons.injEq, and_true] at a5; subst a5; subst b5
    simp only [DataW.lit.injEq, Lit.string.injEq] at e5
    obtain rfl := bytes_of e5
    obtain ⟨s6, a6, b6, _⟩ := DataW.trod_string Tryd.underlying9 (show DataW.trod _ Tryd.prog W 0 _ false m 9 [c6] = some x6 from hel 6 (by decide))
    simp only [List.cons.injEq, and_true] at a6; subst a6; subst b6
    simp only [DataW.lit.injEq, Lit.string.injEq] at e6
    obtain rfl := bytes_of e6
    obtain ⟨s7, a7, b7, _⟩ := DataW.trod_string Tryd.underlying9 (show DataW.trod _ Tryd.prog W 0 _ false m 9 [c7] = some x7 from hel 7 (by decide))
    simp only [List.cons.injEq, and_true] at a7; subst a7; subst b7
    simp only [DataW.lit.injEq, Lit.string.injEq] at e7
    obtain rfl := bytes_of e7
    obtain ⟨s8, a8, b8, _⟩ := DataW.trod_string Tryd.underlying9 (show DataW.trod _ Tryd.prog W 0 _ false m 9 [c8] = some x8 from hel 8 (by decide))
    simp only [List.cons.injEq, and_true] at a8; subst a8; subst b8
    simp only [DataW.lit.injEq, Lit.string.injEq] at e8
    obtain rfl := bytes_of e8
    rfl

theorem envApart_own : ownKnob Tryd.prog.godebug = none := by kernel_rfl
theorem envApart_laidOut : laidOutB Tryd.prog = true := by kernel_rfl
set_option maxRecDepth 100000 in
set_option maxHeartbeats 2000000 in
theorem envApart_lifted (os : Os) (started : os.Started) (H : Type) (enc : TypeId × Value → H) :
    ReturnsInHanded {} Tryd.checked os 3 .any (fun w args => (Rows.envApartSpec.pre enc Tryd.prog Tryd.f3 [] false w args ∧ laidMetH Tryd.prog laidA w) ∧ sizedMet enc Tryd.prog Tryd.f3 (OpenSpec.ofChange Rows.envApartSpec) false w args)
      (Rows.envApartSpec.post enc Tryd.prog Tryd.f3 false true false false) := by
  refine returnsInHanded_of_change_and (C := Tryd.checked) (X := fun w _ => laidMetH Tryd.prog laidA w) (fun _ _ _ hh h => h.of_heap hh) envApart_own started (by kernel_rfl) Tryd.func3
    (ChangeSpec.witness_shaped (enc := enc) (C := Tryd.checked) (os := os) (X := fun w _ => laidMetH Tryd.prog laidA w) false (World.doorLaid Tryd.prog 400 os) #[.agg #[.bool false, .int .i64 0, .int .i64 0, .int .i64 0, .int .i64 0, .int .i64 0, .int .i64 0, .int .i64 0, .int .i64 0, .string ByteArray.empty, .string ByteArray.empty, .string ByteArray.empty, .string ByteArray.empty], .agg #[.int .i64 0, .int .i64 0, .int .i64 0, .int .i64 0, .string ByteArray.empty, .string ByteArray.empty, .slice none 0 0, .int .i64 0, .int .i64 0, .int .i64 0, .int .i64 0, .int .i64 0, .string ByteArray.empty, .int .i64 0, .int .i64 0, .int .i64 0, .int .i64 0, .bool false]] 8 rfl (World.shaped_of_RefB (by kernel_rfl) (by kernel_rfl)) (by kernel_rfl) (by kernel_rfl) (by kernel_rfl) (door_met os _)) ?_
  intro W base args ds gs before hval0 hW _ _ hL _
  have hval : ∀ (j : Nat) t v, Tryd.f3.params[j]? = some t → args[j]? = some v → Value.okWide Tryd.prog W .any base t v := hval0
  have hW' := hW
  obtain ⟨p, q, hA0, hV, rfl, hfz, hnd⟩ := hW
  have hA : DataW.TrodAll enc Tryd.prog W 0 (fun _ => true) true Tryd.f3.params.toList args.toList ds p := hA0
  rw [Tryd.params3] at hA hval
  obtain ⟨v0, vs0, d0, ds0, p0, q0, hargs, rfl, rfl, h0, r0⟩ := trodAll_cons hA
  obtain ⟨v1, vs1, d1, ds1, p1, q1, rfl, rfl, rfl, h1, r1⟩ := trodAll_cons r0
  obtain ⟨rfl, rfl, rfl⟩ := trodAll_nil r1
  obtain rfl : args = #[v0, v1] := by cases args; simp_all
  obtain ⟨rfl, rfl⟩ := trodVars_none hV
  have k0 := h0
  have lt0 : ∀ x ∈ p0, x.block < W.heap.size := by obtain ⟨m, hm⟩ := k0; exact DataW.trod_lt m _ _ _ hm
  have k1 := h1
  have lt1 : ∀ x ∈ p1, x.block < W.heap.size := by obtain ⟨m, hm⟩ := k1; exact DataW.trod_lt m _ _ _ hm
  obtain ⟨E_p, E_w1, E_w2, E_h1, E_h2, E_f1, E_f2, E_c1, E_c2, E_s, E_h, E_q, E_m, rfl, w0_0, w0_1, w0_2, w0_3, w0_4, w0_5, w0_6, w0_7, w0_8, w0_9, w0_10, w0_11⟩ := en_arg (hval 0 25 v0 rfl rfl) h0
  obtain ⟨A_k0, A_k1, A_k2, A_k3, A_n, A_wd, A_tp, A_tl, A_tc, A_a, A_b, A_c, A_d, A_bt, A_bs, A_b1, A_b2, A_b3, A_b4, A_on, rfl, w1_0, w1_1, w1_2, w1_3, w1_4, w1_5, w1_6, w1_7, w1_8, w1_9, w1_10, w1_11, w1_12, w1_13, w1_14, w1_15⟩ := op_arg (hval 1 30 v1 rfl rfl) h1
  obtain ⟨ty, fr, hall⟩ := of_laid hL
  clear hA0 hval0
  refine (envApartLaw_any ⟨E_p, E_w1, E_w2, E_h1, E_h2, E_f1, E_f2, E_c1, E_c2, E_s, E_h, E_q, E_m⟩ ⟨A_k0, A_k1, A_k2, A_k3, A_n, A_wd, A_tp, A_tl, A_tc, A_a, A_b, A_c, A_d, A_bt, A_bs, A_b1, A_b2, A_b3, A_b4, A_on⟩ W ty fr ⟨w0_0, w0_1, w0_2, w0_3, w0_4, w0_5, w0_6, w0_7⟩ ⟨w1_6, w1_7, w1_8, w1_9⟩ hall).mono fun e W' ⟨he, grw⟩ => ?_
  subst he
  have bel := grw.below
  exact ⟨_, rfl, _, _, _, [], _, [], hW', trodAll_mk1 (shut_bool Tryd.underlying4 _), (trodAll_cons_mk (Below.trod envApart_laidOut (by kernel_rfl) (of_decide_eq_true (by kernel_rfl)) k0 bel lt0) (trodAll_cons_mk (Below.trod envApart_laidOut (by kernel_rfl) (of_decide_eq_true (by kernel_rfl)) k1 bel lt1) trodAll_mk0)), rfl, bel.frame _, fun h => by cases h⟩

theorem envApart_holds : Rows.EnvApartSaid :=
  OpenClaim.holds_of_wide 3 Tryd.f3 rfl rfl rfl rfl rfl rfl rfl ⟨rfl, rfl, rfl, rfl, rfl⟩ rfl rfl rfl rfl rfl (by kernel_rfl) Tryd.func3 (by kernel_rfl)
    (of_decide_eq_true (by kernel_rfl)) (by unfold Func.isWrapper; first | (rw [if_pos (by decide +kernel)]; kernel_rfl) | (rw [if_neg (by decide +kernel)]; exact ⟨rfl, rfl⟩))
    (fun os started H enc _ => envApart_lifted os started H enc)

end Go.Proofs.YtkmpnkgelaaebaaDoor
