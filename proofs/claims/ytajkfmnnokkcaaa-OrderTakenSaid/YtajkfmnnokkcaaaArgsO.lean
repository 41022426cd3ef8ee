/- OPENING ARGUMENTS of this program's struct types: claims. No condition. -/
import Derived.Test.YtajkfmnnokkcaaaProg
import Derived.Test.YtajkfmnnokkcaaaOpen
set_option linter.unusedSimpArgs false
set_option linter.unusedVariables false
namespace Go.Proofs.Ytajkfmnnokkcaaa
open Go.ChangeShapes Go.WideShapes Go.ChangeAt Go.RowKit

set_option maxRecDepth 100000 in
theorem weight_cells {H : Type} {enc : TypeId × Value → H} {w : World} {base : Nat} {sp : Nat → Bool} {hd : Bool} {n : Nat} {cs : List Value} {x : DataW H × List MemPlace}
    (h : DataW.trod enc Try.prog w base sp hd n 32 cs = some x) : ∃ (a : Int) (b : Int) (c : Int), cs = [.int .i64 a, .int .i64 b, .int .i64 c] ∧ I64 a ∧ I64 b ∧ I64 c := by
  obtain ⟨hl, m, hf⟩ := trod_items Try.underlying32 h
  have hl2 : cs.length = 3 := hl.trans (by kernel_rfl)
  obtain ⟨c0, c1, c2, rfl⟩ := len3 hl2
  obtain ⟨y0, h0⟩ := hf 0 (by decide)
  replace h0 : DataW.trod enc Try.prog w base sp hd m _ [c0] = some y0 := h0
  obtain ⟨v0, e0, _, w0⟩ := DataW.trod_int (k := .i64) (by kernel_rfl) h0
  simp only [List.cons.injEq, and_true] at e0
  subst e0
  obtain ⟨y1, h1⟩ := hf 1 (by decide)
  replace h1 : DataW.trod enc Try.prog w base sp hd m _ [c1] = some y1 := h1
  obtain ⟨v1, e1, _, w1⟩ := DataW.trod_int (k := .i64) (by kernel_rfl) h1
  simp only [List.cons.injEq, and_true] at e1
  subst e1
  obtain ⟨y2, h2⟩ := hf 2 (by decide)
  replace h2 : DataW.trod enc Try.prog w base sp hd m _ [c2] = some y2 := h2
  obtain ⟨v2, e2, _, w2⟩ := DataW.trod_int (k := .i64) (by kernel_rfl) h2
  simp only [List.cons.injEq, and_true] at e2
  subst e2
  exact ⟨v0, v1, v2, rfl, i64_of w0, i64_of w1, i64_of w2⟩
set_option maxRecDepth 100000 in
theorem claim_cells {H : Type} {enc : TypeId × Value → H} {w : World} {base : Nat} {sp : Nat → Bool} {hd : Bool} {n : Nat} {cs : List Value} {x : DataW H × List MemPlace}
    (h : DataW.trod enc Try.prog w base sp hd n 34 cs = some x) : ∃ (p : ByteArray) (o : Int) (i : Bool) (a : Int) (b : Int) (c : Int) (r : Int) (d : Int), cs = [.string p, .int .i64 o, .bool i, .int .i64 a, .int .i64 b, .int .i64 c, .int .i64 r, .int .i64 d] ∧ p.size ≤ maxLen ∧ I64 o ∧ I64 a ∧ I64 b ∧ I64 c ∧ I64 r ∧ I64 d := by
  obtain ⟨hl, m, hf⟩ := trod_fields Try.underlying34 h
  have hl2 : cs.length = 8 := hl.trans (by kernel_rfl)
  obtain ⟨c0, c1, c2, c3, c4, c5, c6, c7, rfl⟩ := len8 hl2
  obtain ⟨y0, h0⟩ := hf 0 _ rfl
  replace h0 : DataW.trod enc Try.prog w base sp hd m _ [c0] = some y0 := h0
  obtain ⟨v0, e0, _, w0⟩ := DataW.trod_string (by kernel_rfl) h0
  simp only [List.cons.injEq, and_true] at e0
  subst e0
  obtain ⟨y1, h1⟩ := hf 1 _ rfl
  replace h1 : DataW.trod enc Try.prog w base sp hd m _ [c1] = some y1 := h1
  obtain ⟨v1, e1, _, w1⟩ := DataW.trod_int (k := .i64) (by kernel_rfl) h1
  simp only [List.cons.injEq, and_true] at e1
  subst e1
  obtain ⟨y2, h2⟩ := hf 2 _ rfl
  replace h2 : DataW.trod enc Try.prog w base sp hd m _ [c2] = some y2 := h2
  obtain ⟨v2, e2, _⟩ := DataW.trod_bool (by kernel_rfl) h2
  simp only [List.cons.injEq, and_true] at e2
  subst e2
  obtain ⟨y3, h3⟩ := hf 3 _ rfl
  replace h3 : DataW.trod enc Try.prog w base sp hd m _ [c3, c4, c5] = some y3 := h3
  obtain ⟨v3_0, v3_1, v3_2, e3, w3_0, w3_1, w3_2⟩ := weight_cells h3
  simp only [List.cons.injEq, and_true] at e3
  obtain ⟨rfl, rfl, rfl⟩ := e3
  obtain ⟨y4, h4⟩ := hf 4 _ rfl
  replace h4 : DataW.trod enc Try.prog w base sp hd m _ [c6] = some y4 := h4
  obtain ⟨v4, e4, _, w4⟩ := DataW.trod_int (k := .i64) (by kernel_rfl) h4
  simp only [List.cons.injEq, and_true] at e4
  subst e4
  obtain ⟨y5, h5⟩ := hf 5 _ rfl
  replace h5 : DataW.trod enc Try.prog w base sp hd m _ [c7] = some y5 := h5
  obtain ⟨v5, e5, _, w5⟩ := DataW.trod_int (k := .i64) (by kernel_rfl) h5
  simp only [List.cons.injEq, and_true] at e5
  subst e5
  exact ⟨v0, v1, v2, v3_0, v3_1, v3_2, v4, v5, rfl, w0, i64_of w1, w3_0, w3_1, w3_2, i64_of w4, i64_of w5⟩
set_option maxRecDepth 100000 in
theorem claim_arg {H : Type} {enc : TypeId × Value → H} {w : World} {base b0 : Nat} {sp : Nat → Bool} {hd : Bool} {r : Reach} {v : Value} {d : DataW H} {p : List MemPlace}
    (hv : Value.okWide Try.prog w r b0 34 v) (h : DataW.Trod enc Try.prog w base sp hd 34 v d p) : ∃ (p : ByteArray) (o : Int) (i : Bool) (a : Int) (b : Int) (c : Int) (r : Int) (d : Int), v = .agg #[.string p, .int .i64 o, .bool i, .int .i64 a, .int .i64 b, .int .i64 c, .int .i64 r, .int .i64 d] ∧ p.size ≤ maxLen ∧ I64 o ∧ I64 a ∧ I64 b ∧ I64 c ∧ I64 r ∧ I64 d := by
  obtain ⟨cs, rfl, _⟩ := okWide_struct Try.underlying34 hv
  obtain ⟨fuel, hf⟩ := h
  obtain ⟨p, o, i, a, b, c, r, d, e, w0, w1, w2, w3, w4, w5, w6⟩ := claim_cells hf
  exact ⟨_, _, _, _, _, _, _, _, agg_of e, w0, w1, w2, w3, w4, w5, w6⟩

end Go.Proofs.Ytajkfmnnokkcaaa
