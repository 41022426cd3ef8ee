/- For every environment and any list of changes the statement EnvChanges answers true: each change comes to what the reference has. No condition. -/
import Derived.Test.YtkmpnkgelaaebaaRows
import Derived.Test.YtkmpnkgelaaebaaEnvCh
import Derived.Test.YtkmpnkgelaaebaaArgsQ
namespace Go.Proofs.Ytkmpnkgelaaebaa
open Go.ChangeShapes Go.WideShapes Go.ChangeAt Go.RowKit
open Go.ChangeMaps (open_string shut_string)

theorem ops_open {H : Type} {enc : TypeId × Value → H} {w : World} {sp : Nat → Bool} {hd : Bool} {a : Option Addr} {len cap : Nat} {d : DataW H} {p : List MemPlace}
    (h : DataW.Trod enc Try.prog w 0 sp hd 44 (.slice a len cap) d p) :
    len ≤ maxLen ∧ (len = 0 ∨ ∃ (g off : Nat) (f : Nat → Od), a = some ⟨g, off, none⟩ ∧ ∀ i, i < len → (f i).Wf ∧ w.rangeAt g (off + i * 18) (f i).l) := by
  obtain ⟨fuel, h⟩ := h
  rcases Go.Deep.open_slice Try.underlying44 h with ⟨h0, _⟩ | ⟨b, l, c, m, n, D, Pl, h0, _, hlc, hc, hm, _, hi⟩
  · simp [Value.cells] at h0
    obtain ⟨_, rfl, _⟩ := h0
    exact ⟨Nat.zero_le _, .inl rfl⟩
  · simp [Value.cells] at h0
    obtain ⟨rfl, rfl, rfl⟩ := h0
    have hlm : len ≤ m := by rw [hm]; split <;> omega
    refine ⟨by omega, ?_⟩
    rcases Nat.eq_zero_or_pos len with h0 | h0
    · exact .inl h0
    have h18 : Try.prog.cellsOf 47 = 18 := by kernel_rfl
    have hx : ∀ i, i < len → ∃ o : Od, o.Wf ∧ ∀ j v, o.l[j]? = some v → w.cell? (b.add (i * 18 + j)) = some v := by
      intro i him
      obtain ⟨cs, hcs, ht⟩ := hi i (by omega)
      rw [h18] at hcs
      obtain ⟨_, hl, hat⟩ := World.cells?_some hcs
      obtain ⟨k0, k1, k2, k3, n, wd, tp, tl, tc, a, b, c, d, bt, bs, b1, b2, b3, b4, on, rfl, g0, g1, g2, g3, g4, g5, g6, g7, g8, g9, _⟩ := op_cells ht
      refine ⟨⟨k0, k1, k2, k3, n, wd, tp, tl, tc, a, b, c, d, bt, bs, b1, b2, b3, b4, on⟩, ⟨g6, g7, g8, g9⟩, fun j v hj => ?_⟩
      have hj18 : j < 18 := by have := (List.getElem?_eq_some_iff.1 hj).1; simpa [Od.l] using this
      have := hat j hj18
      rw [Go.Deep.add_add] at this
      rw [this]; exact hj
    have hs : b.spot = none := by
      obtain ⟨o, _, ho⟩ := hx 0 h0
      have := ho 0 (.int .i64 o.k0) rfl
      simp [Addr.add] at this
      exact World.cell?_spot this
    obtain ⟨g, off, sp⟩ := b
    simp only at hs; subst hs
    have hch := fun i => Classical.propDecidable (i < len)
    refine .inr ⟨g, off, fun i => if h : i < len then (hx i h).choose else ⟨0, 0, 0, 0, ⟨#[]⟩, ⟨#[]⟩, none, 0, 0, 0, 0, 0, 0, 0, ⟨#[]⟩, 0, 0, 0, 0, false⟩, rfl, fun i him => ?_⟩
    have hq := (hx i him).choose_spec
    simp only [him, dif_pos]
    refine ⟨hq.1, fun j v hj => ?_⟩
    have := hq.2 j v hj
    rw [Addr.add_mid, ← Nat.add_assoc] at this
    exact this

theorem envChanges_own : ownKnob Try.prog.godebug = none := by kernel_rfl
theorem envChanges_laidOut : laidOutB Try.prog = true := by kernel_rfl
set_option maxRecDepth 100000 in
set_option maxHeartbeats 2000000 in
theorem envChanges_lifted (os : Os) (started : os.Started) (H : Type) (enc : TypeId × Value → H) :
    ReturnsInHanded {} Try.checked os 6 .any (Rows.envChangesSpec.pre6 enc Try.prog Try.f6 Rows.envChangesRow.domain false) (Rows.envChangesSpec.post enc Try.prog Try.f6 false true false false) := by
  refine returnsInHanded_of_change (C := Try.checked) envChanges_own started (by kernel_rfl) Try.func6
    (ChangeSpec.witness6 (enc := enc) (C := Try.checked) false ⟨#[], #[.agg #[.bool false, .int .i64 0, .int .i64 0, .int .i64 0, .int .i64 0, .int .i64 0, .int .i64 0, .int .i64 0, .int .i64 0, .string ByteArray.empty, .string ByteArray.empty, .string ByteArray.empty, .string ByteArray.empty], .slice none 0 0], []⟩ 8 (by kernel_rfl) (by kernel_rfl) (by kernel_rfl) (by kernel_rfl)) ?_
  intro W base args ds gs before hval0 hW hcnd _
  have hval : ∀ (j : Nat) t v, Try.f6.params[j]? = some t → args[j]? = some v → Value.okWide Try.prog W .any base t v := hval0
  have hW' := hW
  obtain ⟨p, q, hA0, hV, rfl, hfz, hnd⟩ := hW
  have hA : DataW.TrodAll enc Try.prog W 0 (fun _ => true) true Try.f6.params.toList args.toList ds p := hA0
  rw [Try.params6] at hA hval
  obtain ⟨v0, vs0, d0, ds0, p0, q0, hargs, rfl, rfl, h0, r0⟩ := trodAll_cons hA
  obtain ⟨v1, vs1, d1, ds1, p1, q1, rfl, rfl, rfl, h1, r1⟩ := trodAll_cons r0
  obtain ⟨rfl, rfl, rfl⟩ := trodAll_nil r1
  obtain rfl : args = #[v0, v1] := by cases args; simp_all
  obtain ⟨rfl, rfl⟩ := trodVars_none hV
  have k0 := h0
  have lt0 : ∀ x ∈ p0, x.block < W.heap.size := by obtain ⟨m, hm⟩ := k0; exact DataW.trod_lt m _ _ _ hm
  have k1 := h1
  have lt1 : ∀ x ∈ p1, x.block < W.heap.size := by obtain ⟨m, hm⟩ := k1; exact DataW.trod_lt m _ _ _ hm
  obtain ⟨E_p, E_w1, E_w2, E_h1, E_h2, E_f1, E_f2, E_c1, E_c2, E_s, E_h, E_q, E_m, rfl, w0_0, w0_1, w0_2, w0_3, w0_4, w0_5, w0_6, w0_7, w0_8, w0_9, w0_10, w0_11⟩ := en_arg (hval 0 37 v0 rfl rfl) h0
  obtain ⟨L_a, L_len, L_cap, rfl⟩ := okWide_slice Try.underlying44 (hval 1 44 v1 rfl rfl)
  clear hA0 hval0
  refine (envChangesLaw_any ⟨E_p, E_w1, E_w2, E_h1, E_h2, E_f1, E_f2, E_c1, E_c2, E_s, E_h, E_q, E_m⟩ L_a L_len L_cap W ⟨w0_0, w0_1, w0_2, w0_3, w0_4, w0_5, w0_6, w0_7⟩ (ops_open h1).1 (ops_open h1).2).mono fun e W' ⟨he, grw⟩ => ?_
  subst he
  have bel := grw.below
  exact ⟨_, rfl, _, _, _, [], _, [], hW', trodAll_mk1 (shut_bool Try.underlying4 _), (trodAll_cons_mk (Below.trod envChanges_laidOut (by kernel_rfl) (of_decide_eq_true (by kernel_rfl)) k0 bel lt0) (trodAll_cons_mk (Below.trod envChanges_laidOut (by kernel_rfl) (of_decide_eq_true (by kernel_rfl)) k1 bel lt1) trodAll_mk0)), rfl, bel.frame _, fun h => by cases h⟩

/-- THE STATEMENT -/
theorem envChanges_holds : Rows.EnvChangesSaid :=
  OpenClaim.holds_of_wide 6 Try.f6 rfl rfl rfl rfl rfl rfl rfl ⟨rfl, rfl, rfl, rfl, rfl⟩ rfl rfl rfl rfl rfl (by kernel_rfl) Try.func6 (by kernel_rfl)
    (of_decide_eq_true (by kernel_rfl)) (by unfold Func.isWrapper; first | (rw [if_pos (by decide +kernel)]; kernel_rfl) | (rw [if_neg (by decide +kernel)]; exact ⟨rfl, rfl⟩))
    (fun os started H enc _ => envChanges_lifted os started H enc)
#print axioms envChanges_holds

end Go.Proofs.Ytkmpnkgelaaebaa
