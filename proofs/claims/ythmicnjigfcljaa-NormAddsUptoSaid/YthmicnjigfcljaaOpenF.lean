/- OPENING ARGUMENTS: a form, a list of forms that the reading of an argument has read; how great they are. No condition. -/
import Derived.Test.YthmicnjigfcljaaOpenX
set_option linter.unusedSimpArgs false
set_option linter.unusedVariables false
namespace Go.Proofs.Ythmicnjigfcljaa
open Go.ChangeShapes Go.WideShapes Go.ChangeAt Go.RowKit

theorem szP_sum : ∀ ps : List (Bool × List Fm), szP ps = (ps.map szQ).sum
  | [] => by rw [szP]; rfl
  | p :: ps => by rw [szP, szP_sum ps]; rfl
theorem szM_sum : ∀ l : List Fm, szM l = (l.map szF).sum
  | [] => by rw [szM]; rfl
  | f :: l => by rw [szM, szM_sum l]; rfl
set_option maxRecDepth 100000 in
theorem units_cells {H : Type} {enc : TypeId × Value → H} {w : World} {base : Nat} {sp : Nat → Bool} {hd : Bool} {n : Nat} {cs : List Value} {x : DataW H × List MemPlace}
    (h : DataW.trod enc Try.prog w base sp hd n 27 cs = some x) : ∃ us : List (Int × Int), us.length = 7 ∧ (∀ p ∈ us, I64p p) ∧ cs = us.flatMap ratL := by
  obtain ⟨hl, m, hf⟩ := trod_items Try.underlying27 h
  have hl2 : cs.length = 14 := hl.trans (by kernel_rfl)
  obtain ⟨c0, c1, c2, c3, c4, c5, c6, c7, c8, c9, c10, c11, c12, c13, rfl⟩ := len14 hl2
  have one : ∀ (i : Nat) (a b : Value), i < 7 → ((([c0, c1, c2, c3, c4, c5, c6, c7, c8, c9, c10, c11, c12, c13] : List Value).drop (i * 2)).take 2) = [a, b] → ∃ p : Int × Int, I64p p ∧ [a, b] = ratL p := fun i a b hi e => by
    obtain ⟨y, hy⟩ := hf i hi
    have hc : Try.prog.cellsOf 23 = 2 := by kernel_rfl
    rw [hc, e] at hy
    obtain ⟨v1, v2, e1, w1, w2⟩ := rat_cells hy
    exact ⟨(v1, v2), ⟨w1, w2⟩, e1⟩
  obtain ⟨p0, b0, e0⟩ := one 0 c0 c1 (by omega) rfl
  obtain ⟨p1, b1, e1⟩ := one 1 c2 c3 (by omega) rfl
  obtain ⟨p2, b2, e2⟩ := one 2 c4 c5 (by omega) rfl
  obtain ⟨p3, b3, e3⟩ := one 3 c6 c7 (by omega) rfl
  obtain ⟨p4, b4, e4⟩ := one 4 c8 c9 (by omega) rfl
  obtain ⟨p5, b5, e5⟩ := one 5 c10 c11 (by omega) rfl
  obtain ⟨p6, b6, e6⟩ := one 6 c12 c13 (by omega) rfl
  refine ⟨[p0, p1, p2, p3, p4, p5, p6], rfl, ?_, ?_⟩
  · simp only [List.forall_mem_cons]
    exact ⟨b0, b1, b2, b3, b4, b5, b6, fun _ h => by cases h⟩
  · simp only [List.cons.injEq, and_true] at e0 e1 e2 e3 e4 e5 e6
    simp only [List.flatMap_cons, List.flatMap_nil, List.cons_append, List.nil_append, e0.1, e0.2, e1.1, e1.2, e2.1, e2.2, e3.1, e3.2, e4.1, e4.2, e5.1, e5.2, e6.1, e6.2]

set_option maxRecDepth 100000 in
/-- a form that was read -/
theorem open_form {H : Type} {enc : TypeId × Value → H} {w : World} {base : Nat} {sp : Nat → Bool} {hd : Bool} : ∀ (k n : Nat) (cs : List Value) (x : DataW H × List MemPlace), n ≤ k →
    DataW.trod enc Try.prog w base sp hd n 30 cs = some x → ∃ f : Fm, FormOk w (fun _ => True) f cs ∧ szF f ≤ Rows.uptoBulk x.1
  | 0, n, cs, x, hk, h => by obtain rfl : n = 0 := by omega
                             simp [DataW.trod] at h
  | k + 1, n, cs, x, hk, h => by
    obtain ⟨hl, m, rfl, hf⟩ := trod_parts Try.underlying30 h
    have hl2 : cs.length = 15 := hl.trans (by kernel_rfl)
    obtain ⟨c0, c1, c2, c3, c4, c5, c6, c7, c8, c9, c10, c11, c12, c13, c14, rfl⟩ := len15 hl2
    obtain ⟨y0, h0, _⟩ := hf 0 _ rfl
    replace h0 : DataW.trod enc Try.prog w base sp hd m 27 [c0, c1, c2, c3, c4, c5, c6, c7, c8, c9, c10, c11, c12, c13] = some y0 := h0
    obtain ⟨us, hu7, hub, hus⟩ := units_cells h0
    obtain ⟨y1, h1, b1⟩ := hf 1 _ rfl
    replace h1 : DataW.trod enc Try.prog w base sp hd m 28 [c14] = some y1 := h1
    obtain ⟨n', rfl⟩ := trod_pos h1
    obtain ⟨ps, v, e4, hs, hb⟩ := trod_slat (n0 := 2) (α := Bool × List Fm) Try.underlying28 (by kernel_rfl) (by decide) (PartR (FormOk w fun _ => True) w fun _ => True) szQ (fun cs' y hl' hy => by
      obtain ⟨hl3, m2, rfl, hf2⟩ := trod_parts Try.underlying76 hy
      obtain ⟨d0, d1, rfl⟩ := len2 hl'
      obtain ⟨z0, g0, _⟩ := hf2 0 _ rfl
      replace g0 : DataW.trod enc Try.prog w base sp hd m2 _ [d0] = some z0 := g0
      obtain ⟨b, eb, _⟩ := DataW.trod_bool (by kernel_rfl) g0
      simp only [List.cons.injEq, and_true] at eb
      subst eb
      obtain ⟨z1, g1, b2⟩ := hf2 1 _ rfl
      replace g1 : DataW.trod enc Try.prog w base sp hd m2 49 [d1] = some z1 := g1
      obtain ⟨n2, rfl⟩ := trod_pos g1
      obtain ⟨l, v2, e5, hs2, hb2⟩ := trod_slat (n0 := 15) (α := Fm) Try.underlying49 (by kernel_rfl) (by decide) (FormOk w fun _ => True) szF (fun cs2 y2 _ hy2 => open_form k n2 cs2 y2 (by omega) hy2) g1
      simp only [List.cons.injEq, and_true] at e5
      subst e5
      refine ⟨(b, l), ⟨d1, rfl, hs2⟩, ?_⟩
      rw [szQ, szM_sum]; omega) h1
    simp only [List.cons.injEq, and_true] at e4
    subst e4
    refine ⟨.mk us ps, ?_, ?_⟩
    · have := FormOk_mk hu7 hub hs
      rw [← hus] at this
      exact this
    · rw [szF, szP_sum]; omega
set_option maxRecDepth 100000 in
theorem form_arg {H : Type} {enc : TypeId × Value → H} {w : World} {base b0 : Nat} {sp : Nat → Bool} {hd : Bool} {r : Reach} {v : Value} {d : DataW H} {p : List MemPlace}
    (hv : Value.okWide Try.prog w r b0 30 v) (h : DataW.Trod enc Try.prog w base sp hd 30 v d p) : ∃ (f : Fm) (cs : List Value), v = .agg cs.toArray ∧ FormOk w (fun _ => True) f cs ∧ szF f ≤ Rows.uptoBulk d := by
  obtain ⟨cs, rfl, _⟩ := okWide_struct Try.underlying30 hv
  obtain ⟨fuel, hf⟩ := h
  obtain ⟨t, h1, h2⟩ := open_form fuel fuel _ _ (Nat.le_refl _) hf
  exact ⟨t, cs.toList, by simp, h1, h2⟩
set_option maxRecDepth 100000 in
theorem forms_arg {H : Type} {enc : TypeId × Value → H} {w : World} {base b0 : Nat} {sp : Nat → Bool} {hd : Bool} {r : Reach} {v : Value} {d : DataW H} {p : List MemPlace}
    (hv : Value.okWide Try.prog w r b0 49 v) (h : DataW.Trod enc Try.prog w base sp hd 49 v d p) : ∃ (l : List Fm) (v' : Value), v = v' ∧ SlAt w (fun _ => True) 15 (FormOk w fun _ => True) v' l ∧ 1 + (l.map szF).sum ≤ Rows.uptoBulk d := by
  obtain ⟨a, len, cap, rfl⟩ := okWide_slice Try.underlying49 hv
  obtain ⟨fuel, hf⟩ := h
  obtain ⟨n, rfl⟩ := trod_pos hf
  obtain ⟨l, v', e, h1, h2⟩ := trod_slat (n0 := 15) (α := Fm) Try.underlying49 (by kernel_rfl) (by decide) (FormOk w fun _ => True) szF (fun cs2 y2 _ hy2 => open_form n n cs2 y2 (Nat.le_refl _) hy2) hf
  refine ⟨l, v', ?_, h1, h2⟩
  have : ([.slice a len cap] : List Value) = [v'] := e
  simpa using this
end Go.Proofs.Ythmicnjigfcljaa
