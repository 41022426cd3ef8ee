/- OPENING ARGUMENTS of this program's struct types. No condition. -/
import Derived.Test.YtkmpnkgelaaebaaDoorProg
import Derived.Test.YtkmpnkgelaaebaaDoorOpen
set_option linter.unusedSimpArgs false
set_option linter.unusedVariables false
namespace Go.Proofs.YtkmpnkgelaaebaaDoor
open Go.ChangeShapes Go.WideShapes Go.ChangeAt Go.RowKit

set_option maxRecDepth 100000 in
theorem rat_cells {H : Type} {enc : TypeId × Value → H} {w : World} {base : Nat} {sp : Nat → Bool} {hd : Bool} {n : Nat} {cs : List Value} {x : DataW H × List MemPlace}
    (h : DataW.trod enc Tryd.prog w base sp hd n 23 cs = some x) : ∃ (a : Int) (b : Int), cs = [.int .i64 a, .int .i64 b] ∧ I64 a ∧ I64 b := by
  obtain ⟨hl, m, hf⟩ := trod_fields Tryd.underlying23 h
  have hl2 : cs.length = 2 := hl.trans (by kernel_rfl)
  obtain ⟨c0, c1, rfl⟩ := len2 hl2
  obtain ⟨y0, h0⟩ := hf 0 _ rfl
  replace h0 : DataW.trod enc Tryd.prog w base sp hd m _ [c0] = some y0 := h0
  obtain ⟨v0, e0, _, w0⟩ := DataW.trod_int (k := .i64) (by kernel_rfl) h0
  simp only [List.cons.injEq, and_true] at e0
  subst e0
  obtain ⟨y1, h1⟩ := hf 1 _ rfl
  replace h1 : DataW.trod enc Tryd.prog w base sp hd m _ [c1] = some y1 := h1
  obtain ⟨v1, e1, _, w1⟩ := DataW.trod_int (k := .i64) (by kernel_rfl) h1
  simp only [List.cons.injEq, and_true] at e1
  subst e1
  exact ⟨v0, v1, rfl, i64_of w0, i64_of w1⟩
set_option maxRecDepth 100000 in
theorem rat_arg {H : Type} {enc : TypeId × Value → H} {w : World} {base b0 : Nat} {sp : Nat → Bool} {hd : Bool} {r : Reach} {v : Value} {d : DataW H} {p : List MemPlace}
    (hv : Value.okWide Tryd.prog w r b0 23 v) (h : DataW.Trod enc Tryd.prog w base sp hd 23 v d p) : ∃ (a : Int) (b : Int), v = .agg #[.int .i64 a, .int .i64 b] ∧ I64 a ∧ I64 b := by
  obtain ⟨cs, rfl, _⟩ := okWide_struct Tryd.underlying23 hv
  obtain ⟨fuel, hf⟩ := h
  obtain ⟨a, b, e, w0, w1⟩ := rat_cells hf
  exact ⟨_, _, agg_of e, w0, w1⟩
set_option maxRecDepth 100000 in
theorem en_cells {H : Type} {enc : TypeId × Value → H} {w : World} {base : Nat} {sp : Nat → Bool} {hd : Bool} {n : Nat} {cs : List Value} {x : DataW H × List MemPlace}
    (h : DataW.trod enc Tryd.prog w base sp hd n 25 cs = some x) : ∃ (p : Bool) (w1 : Int) (w2 : Int) (h1 : Int) (h2 : Int) (f1 : Int) (f2 : Int) (c1 : Int) (c2 : Int) (s : ByteArray) (h : ByteArray) (q : ByteArray) (m : ByteArray), cs = [.bool p, .int .i64 w1, .int .i64 w2, .int .i64 h1, .int .i64 h2, .int .i64 f1, .int .i64 f2, .int .i64 c1, .int .i64 c2, .string s, .string h, .string q, .string m] ∧ I64 w1 ∧ I64 w2 ∧ I64 h1 ∧ I64 h2 ∧ I64 f1 ∧ I64 f2 ∧ I64 c1 ∧ I64 c2 ∧ s.size ≤ maxLen ∧ h.size ≤ maxLen ∧ q.size ≤ maxLen ∧ m.size ≤ maxLen := by
  obtain ⟨hl, m, hf⟩ := trod_fields Tryd.underlying25 h
  have hl2 : cs.length = 13 := hl.trans (by kernel_rfl)
  obtain ⟨c0, c1, c2, c3, c4, c5, c6, c7, c8, c9, c10, c11, c12, rfl⟩ := len13 hl2
  obtain ⟨y0, h0⟩ := hf 0 _ rfl
  replace h0 : DataW.trod enc Tryd.prog w base sp hd m _ [c0] = some y0 := h0
  obtain ⟨v0, e0, _⟩ := DataW.trod_bool (by kernel_rfl) h0
  simp only [List.cons.injEq, and_true] at e0
  subst e0
  obtain ⟨y1, h1⟩ := hf 1 _ rfl
  replace h1 : DataW.trod enc Tryd.prog w base sp hd m _ [c1, c2] = some y1 := h1
  obtain ⟨v1_0, v1_1, e1, w1_0, w1_1⟩ := rat_cells h1
  simp only [List.cons.injEq, and_true] at e1
  obtain ⟨rfl, rfl⟩ := e1
  obtain ⟨y2, h2⟩ := hf 2 _ rfl
  replace h2 : DataW.trod enc Tryd.prog w base sp hd m _ [c3, c4] = some y2 := h2
  obtain ⟨v2_0, v2_1, e2, w2_0, w2_1⟩ := rat_cells h2
  simp only [List.cons.injEq, and_true] at e2
  obtain ⟨rfl, rfl⟩ := e2
  obtain ⟨y3, h3⟩ := hf 3 _ rfl
  replace h3 : DataW.trod enc Tryd.prog w base sp hd m _ [c5, c6] = some y3 := h3
  obtain ⟨v3_0, v3_1, e3, w3_0, w3_1⟩ := rat_cells h3
  simp only [List.cons.injEq, and_true] at e3
  obtain ⟨rfl, rfl⟩ := e3
  obtain ⟨y4, h4⟩ := hf 4 _ rfl
  replace h4 : DataW.trod enc Tryd.prog w base sp hd m _ [c7, c8] = some y4 := h4
  obtain ⟨v4_0, v4_1, e4, w4_0, w4_1⟩ := rat_cells h4
  simp only [List.cons.injEq, and_true] at e4
  obtain ⟨rfl, rfl⟩ := e4
  obtain ⟨y5, h5⟩ := hf 5 _ rfl
  replace h5 : DataW.trod enc Tryd.prog w base sp hd m _ [c9] = some y5 := h5
  obtain ⟨v5, e5, _, w5⟩ := DataW.trod_string (by kernel_rfl) h5
  simp only [List.cons.injEq, and_true] at e5
  subst e5
  obtain ⟨y6, h6⟩ := hf 6 _ rfl
  replace h6 : DataW.trod enc Tryd.prog w base sp hd m _ [c10] = some y6 := h6
  obtain ⟨v6, e6, _, w6⟩ := DataW.trod_string (by kernel_rfl) h6
  simp only [List.cons.injEq, and_true] at e6
  subst e6
  obtain ⟨y7, h7⟩ := hf 7 _ rfl
  replace h7 : DataW.trod enc Tryd.prog w base sp hd m _ [c11] = some y7 := h7
  obtain ⟨v7, e7, _, w7⟩ := DataW.trod_string (by kernel_rfl) h7
  simp only [List.cons.injEq, and_true] at e7
  subst e7
  obtain ⟨y8, h8⟩ := hf 8 _ rfl
  replace h8 : DataW.trod enc Tryd.prog w base sp hd m _ [c12] = some y8 := h8
  obtain ⟨v8, e8, _, w8⟩ := DataW.trod_string (by kernel_rfl) h8
  simp only [List.cons.injEq, and_true] at e8
  subst e8
  exact ⟨v0, v1_0, v1_1, v2_0, v2_1, v3_0, v3_1, v4_0, v4_1, v5, v6, v7, v8, rfl, w1_0, w1_1, w2_0, w2_1, w3_0, w3_1, w4_0, w4_1, w5, w6, w7, w8⟩
set_option maxRecDepth 100000 in
theorem en_arg {H : Type} {enc : TypeId × Value → H} {w : World} {base b0 : Nat} {sp : Nat → Bool} {hd : Bool} {r : Reach} {v : Value} {d : DataW H} {p : List MemPlace}
    (hv : Value.okWide Tryd.prog w r b0 25 v) (h : DataW.Trod enc Tryd.prog w base sp hd 25 v d p) : ∃ (p : Bool) (w1 : Int) (w2 : Int) (h1 : Int) (h2 : Int) (f1 : Int) (f2 : Int) (c1 : Int) (c2 : Int) (s : ByteArray) (h : ByteArray) (q : ByteArray) (m : ByteArray), v = .agg #[.bool p, .int .i64 w1, .int .i64 w2, .int .i64 h1, .int .i64 h2, .int .i64 f1, .int .i64 f2, .int .i64 c1, .int .i64 c2, .string s, .string h, .string q, .string m] ∧ I64 w1 ∧ I64 w2 ∧ I64 h1 ∧ I64 h2 ∧ I64 f1 ∧ I64 f2 ∧ I64 c1 ∧ I64 c2 ∧ s.size ≤ maxLen ∧ h.size ≤ maxLen ∧ q.size ≤ maxLen ∧ m.size ≤ maxLen := by
  obtain ⟨cs, rfl, _⟩ := okWide_struct Tryd.underlying25 hv
  obtain ⟨fuel, hf⟩ := h
  obtain ⟨p, w1, w2, h1, h2, f1, f2, c1, c2, s, h, q, m, e, w0, w1, w2, w3, w4, w5, w6, w7, w8, w9, w10, w11⟩ := en_cells hf
  exact ⟨_, _, _, _, _, _, _, _, _, _, _, _, _, agg_of e, w0, w1, w2, w3, w4, w5, w6, w7, w8, w9, w10, w11⟩

end Go.Proofs.YtkmpnkgelaaebaaDoor
