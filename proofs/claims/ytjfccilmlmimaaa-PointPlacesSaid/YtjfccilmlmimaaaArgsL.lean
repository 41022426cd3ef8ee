/- OPENING ARGUMENTS: a list of lines, a rat. No condition. -/
import Derived.Test.YtjfccilmlmimaaaOpenS
import Derived.Test.YtjfccilmlmimaaaPt0
set_option linter.unusedSimpArgs false
set_option linter.unusedVariables false
namespace Go.Proofs.Ytjfccilmlmimaaa
open Go.ChangeShapes Go.WideShapes Go.ChangeAt Go.RowKit

set_option maxRecDepth 100000 in
theorem rat_cells {H : Type} {enc : TypeId × Value → H} {w : World} {base : Nat} {sp : Nat → Bool} {hd : Bool} {n : Nat} {cs : List Value} {x : DataW H × List MemPlace}
    (h : DataW.trod enc Try.prog w base sp hd n 24 cs = some x) : ∃ (a : Int) (b : Int), cs = [.int .i64 a, .int .i64 b] ∧ I64 a ∧ I64 b := by
  obtain ⟨hl, m, hf⟩ := trod_fields Try.underlying24 h
  have hl2 : cs.length = 2 := hl.trans (by kernel_rfl)
  obtain ⟨c0, c1, rfl⟩ := len2 hl2
  obtain ⟨y0, h0⟩ := hf 0 _ rfl
  replace h0 : DataW.trod enc Try.prog w base sp hd m _ [c0] = some y0 := h0
  obtain ⟨v0, e0, _, w0⟩ := DataW.trod_int (k := .i64) (by kernel_rfl) h0
  simp only [List.cons.injEq, and_true] at e0
  subst e0
  obtain ⟨y1, h1⟩ := hf 1 _ rfl
  replace h1 : DataW.trod enc Try.prog w base sp hd m _ [c1] = some y1 := h1
  obtain ⟨v1, e1, _, w1⟩ := DataW.trod_int (k := .i64) (by kernel_rfl) h1
  simp only [List.cons.injEq, and_true] at e1
  subst e1
  exact ⟨v0, v1, rfl, i64_of w0, i64_of w1⟩
set_option maxRecDepth 100000 in
theorem rat_arg {H : Type} {enc : TypeId × Value → H} {w : World} {base b0 : Nat} {sp : Nat → Bool} {hd : Bool} {r : Reach} {v : Value} {d : DataW H} {p : List MemPlace}
    (hv : Value.okWide Try.prog w r b0 24 v) (h : DataW.Trod enc Try.prog w base sp hd 24 v d p) : ∃ (a : Int) (b : Int), v = .agg #[.int .i64 a, .int .i64 b] ∧ I64 a ∧ I64 b := by
  obtain ⟨cs, rfl, _⟩ := okWide_struct Try.underlying24 hv
  obtain ⟨fuel, hf⟩ := h
  obtain ⟨a, b, e, w0, w1⟩ := rat_cells hf
  exact ⟨_, _, agg_of e, w0, w1⟩
set_option maxRecDepth 100000 in
theorem line_cells {H : Type} {enc : TypeId × Value → H} {w : World} {base : Nat} {sp : Nat → Bool} {hd : Bool} {n : Nat} {cs : List Value} {x : DataW H × List MemPlace}
    (h : DataW.trod enc Try.prog w base sp hd n 37 cs = some x) : ∃ (p : ByteArray) (o : Int) (a : Int) (b : Int) (i : Int), cs = [.string p, .int .i64 o, .int .i64 a, .int .i64 b, .int .i64 i] ∧ p.size ≤ maxLen ∧ I64 o ∧ I64 a ∧ I64 b ∧ I64 i := by
  obtain ⟨hl, m, hf⟩ := trod_fields Try.underlying37 h
  have hl2 : cs.length = 5 := hl.trans (by kernel_rfl)
  obtain ⟨c0, c1, c2, c3, c4, rfl⟩ := len5 hl2
  obtain ⟨y0, h0⟩ := hf 0 _ rfl
  replace h0 : DataW.trod enc Try.prog w base sp hd m _ [c0] = some y0 := h0
  obtain ⟨v0, e0, _, w0⟩ := DataW.trod_string (by kernel_rfl) h0
  simp only [List.cons.injEq, and_true] at e0
  subst e0
  obtain ⟨y1, h1⟩ := hf 1 _ rfl
  replace h1 : DataW.trod enc Try.prog w base sp hd m _ [c1] = some y1 := h1
  obtain ⟨v1, e1, _, w1⟩ := DataW.trod_int (k := .i64) (by kernel_rfl) h1
  simp only [List.cons.injEq, and_true] at e1
  subst e1
  obtain ⟨y2, h2⟩ := hf 2 _ rfl
  replace h2 : DataW.trod enc Try.prog w base sp hd m _ [c2, c3] = some y2 := h2
  obtain ⟨v2_0, v2_1, e2, w2_0, w2_1⟩ := rat_cells h2
  simp only [List.cons.injEq, and_true] at e2
  obtain ⟨rfl, rfl⟩ := e2
  obtain ⟨y3, h3⟩ := hf 3 _ rfl
  replace h3 : DataW.trod enc Try.prog w base sp hd m _ [c4] = some y3 := h3
  obtain ⟨v3, e3, _, w3⟩ := DataW.trod_int (k := .i64) (by kernel_rfl) h3
  simp only [List.cons.injEq, and_true] at e3
  subst e3
  exact ⟨v0, v1, v2_0, v2_1, v3, rfl, w0, i64_of w1, w2_0, w2_1, i64_of w3⟩
set_option maxRecDepth 100000 in
theorem line_arg {H : Type} {enc : TypeId × Value → H} {w : World} {base b0 : Nat} {sp : Nat → Bool} {hd : Bool} {r : Reach} {v : Value} {d : DataW H} {p : List MemPlace}
    (hv : Value.okWide Try.prog w r b0 37 v) (h : DataW.Trod enc Try.prog w base sp hd 37 v d p) : ∃ (p : ByteArray) (o : Int) (a : Int) (b : Int) (i : Int), v = .agg #[.string p, .int .i64 o, .int .i64 a, .int .i64 b, .int .i64 i] ∧ p.size ≤ maxLen ∧ I64 o ∧ I64 a ∧ I64 b ∧ I64 i := by
  obtain ⟨cs, rfl, _⟩ := okWide_struct Try.underlying37 hv
  obtain ⟨fuel, hf⟩ := h
  obtain ⟨p, o, a, b, i, e, w0, w1, w2, w3, w4⟩ := line_cells hf
  exact ⟨_, _, _, _, _, agg_of e, w0, w1, w2, w3, w4⟩

set_option maxRecDepth 100000 in
theorem lines_arg {H : Type} {enc : TypeId × Value → H} {w : World} {base b0 : Nat} {sp : Nat → Bool} {hd : Bool} {r : Reach} {v : Value} {d : DataW H} {p : List MemPlace}
    (hv : Value.okWide Try.prog w r b0 22 v) (h : DataW.Trod enc Try.prog w base sp hd 22 v d p) : ∃ l : List Ln, SlAt w (fun _ => True) 5 LnR v l := by
  obtain ⟨a, len, cap, rfl⟩ := okWide_slice Try.underlying22 hv
  obtain ⟨fuel, hf⟩ := h
  obtain ⟨n, rfl⟩ := trod_pos0 hf
  obtain ⟨l, v, e, hs⟩ := trod_slat0 (n0 := 5) (α := Ln) Try.underlying22 (by kernel_rfl) (by decide) LnR (fun cs' y _ hy => by
    obtain ⟨q0, q1, q2, q3, q4, rfl, w0, w1, w2, w3, w4⟩ := line_cells hy
    exact ⟨⟨q0, q1, q2, q3, q4⟩, rfl, w0, w1, w2, w3, w4⟩) hf
  simp only [Value.cells] at e
  have e : [Value.slice a len cap] = [v] := by simpa using e
  injection e with e
  subst e
  exact ⟨l, hs⟩
end Go.Proofs.Ytjfccilmlmimaaa
