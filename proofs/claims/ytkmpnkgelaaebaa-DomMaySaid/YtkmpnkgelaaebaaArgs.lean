/- OPENING ARGUMENTS of this program's struct types. No condition. -/
import Derived.Test.YtkmpnkgelaaebaaProg
import Derived.Test.YtkmpnkgelaaebaaOpen
namespace Go.Proofs.Ytkmpnkgelaaebaa
open Go.ChangeShapes Go.WideShapes Go.ChangeAt Go.RowKit

set_option maxRecDepth 100000 in
theorem rat_cells {H : Type} {enc : TypeId × Value → H} {w : World} {base : Nat} {sp : Nat → Bool} {hd : Bool} {n : Nat} {cs : List Value} {x : DataW H × List MemPlace}
    (h : DataW.trod enc Try.prog w base sp hd n 23 cs = some x) : ∃ (a : Int) (b : Int), cs = [.int .i64 a, .int .i64 b] ∧ I64 a ∧ I64 b := by
  obtain ⟨hl, m, hf⟩ := trod_fields Try.underlying23 h
  have hl2 : cs.length = 2 := hl.trans (by kernel_rfl)
  obtain ⟨c0, c1, rfl⟩ := len2 hl2
  obtain ⟨y0, h0⟩ := hf 0 _ rfl
  replace h0 : DataW.trod enc Try.prog w base sp hd m _ [c0] = some y0 := h0
  obtain ⟨v0, e0, _, w0⟩ := DataW.trod_int (k := .i64) (by kernel_rfl) h0
  simp only [List.cons.injEq, and_true] at e0
  subst e0
  obtain ⟨y1, h1⟩ := hf 1 _ rfl
  replace h1 : DataW.trod enc Try.prog w base sp hd m _ [c1] = some y1 := h1
  obtain ⟨v1, e1, _, w1⟩ := DataW.trod_int (k := .i64) (by kernel_rfl) h1
  simp only [List.cons.injEq, and_true] at e1
  subst e1
  exact ⟨v0, v1, rfl, i64_of w0, i64_of w1⟩
set_option maxRecDepth 100000 in
theorem rat_arg {H : Type} {enc : TypeId × Value → H} {w : World} {base b0 : Nat} {sp : Nat → Bool} {hd : Bool} {r : Reach} {v : Value} {d : DataW H} {p : List MemPlace}
    (hv : Value.okWide Try.prog w r b0 23 v) (h : DataW.Trod enc Try.prog w base sp hd 23 v d p) : ∃ (a : Int) (b : Int), v = .agg #[.int .i64 a, .int .i64 b] ∧ I64 a ∧ I64 b := by
  obtain ⟨cs, rfl, _⟩ := okWide_struct Try.underlying23 hv
  obtain ⟨fuel, hf⟩ := h
  obtain ⟨a, b, e, w0, w1⟩ := rat_cells hf
  exact ⟨_, _, agg_of e, w0, w1⟩
set_option maxRecDepth 100000 in
theorem box_cells {H : Type} {enc : TypeId × Value → H} {w : World} {base : Nat} {sp : Nat → Bool} {hd : Bool} {n : Nat} {cs : List Value} {x : DataW H × List MemPlace}
    (h : DataW.trod enc Try.prog w base sp hd n 25 cs = some x) : ∃ (t : Int) (s : ByteArray) (a : Int) (b : Int) (c : Int) (d : Int), cs = [.int .i64 t, .string s, .int .i64 a, .int .i64 b, .int .i64 c, .int .i64 d] ∧ I64 t ∧ s.size ≤ maxLen ∧ I64 a ∧ I64 b ∧ I64 c ∧ I64 d := by
  obtain ⟨hl, m, hf⟩ := trod_fields Try.underlying25 h
  have hl2 : cs.length = 6 := hl.trans (by kernel_rfl)
  obtain ⟨c0, c1, c2, c3, c4, c5, rfl⟩ := len6 hl2
  obtain ⟨y0, h0⟩ := hf 0 _ rfl
  replace h0 : DataW.trod enc Try.prog w base sp hd m _ [c0] = some y0 := h0
  obtain ⟨v0, e0, _, w0⟩ := DataW.trod_int (k := .i64) (by kernel_rfl) h0
  simp only [List.cons.injEq, and_true] at e0
  subst e0
  obtain ⟨y1, h1⟩ := hf 1 _ rfl
  replace h1 : DataW.trod enc Try.prog w base sp hd m _ [c1] = some y1 := h1
  obtain ⟨v1, e1, _, w1⟩ := DataW.trod_string (by kernel_rfl) h1
  simp only [List.cons.injEq, and_true] at e1
  subst e1
  obtain ⟨y2, h2⟩ := hf 2 _ rfl
  replace h2 : DataW.trod enc Try.prog w base sp hd m _ [c2, c3] = some y2 := h2
  obtain ⟨v2_0, v2_1, e2, w2_0, w2_1⟩ := rat_cells h2
  simp only [List.cons.injEq, and_true] at e2
  obtain ⟨rfl, rfl⟩ := e2
  obtain ⟨y3, h3⟩ := hf 3 _ rfl
  replace h3 : DataW.trod enc Try.prog w base sp hd m _ [c4, c5] = some y3 := h3
  obtain ⟨v3_0, v3_1, e3, w3_0, w3_1⟩ := rat_cells h3
  simp only [List.cons.injEq, and_true] at e3
  obtain ⟨rfl, rfl⟩ := e3
  exact ⟨v0, v1, v2_0, v2_1, v3_0, v3_1, rfl, i64_of w0, w1, w2_0, w2_1, w3_0, w3_1⟩
set_option maxRecDepth 100000 in
theorem box_arg {H : Type} {enc : TypeId × Value → H} {w : World} {base b0 : Nat} {sp : Nat → Bool} {hd : Bool} {r : Reach} {v : Value} {d : DataW H} {p : List MemPlace}
    (hv : Value.okWide Try.prog w r b0 25 v) (h : DataW.Trod enc Try.prog w base sp hd 25 v d p) : ∃ (t : Int) (s : ByteArray) (a : Int) (b : Int) (c : Int) (d : Int), v = .agg #[.int .i64 t, .string s, .int .i64 a, .int .i64 b, .int .i64 c, .int .i64 d] ∧ I64 t ∧ s.size ≤ maxLen ∧ I64 a ∧ I64 b ∧ I64 c ∧ I64 d := by
  obtain ⟨cs, rfl, _⟩ := okWide_struct Try.underlying25 hv
  obtain ⟨fuel, hf⟩ := h
  obtain ⟨t, s, a, b, c, d, e, w0, w1, w2, w3, w4, w5⟩ := box_cells hf
  exact ⟨_, _, _, _, _, _, agg_of e, w0, w1, w2, w3, w4, w5⟩

end Go.Proofs.Ytkmpnkgelaaebaa
