/- OPENING ARGUMENTS of this program's operations. No condition. -/
import Derived.Test.YtkmpnkgelaaebaaDoorArgsE
set_option linter.unusedSimpArgs false
set_option linter.unusedVariables false
namespace Go.Proofs.YtkmpnkgelaaebaaDoor
open Go.ChangeShapes Go.WideShapes Go.ChangeAt Go.RowKit

set_option maxRecDepth 100000 in
theorem box_cells {H : Type} {enc : TypeId × Value → H} {w : World} {base : Nat} {sp : Nat → Bool} {hd : Bool} {n : Nat} {cs : List Value} {x : DataW H × List MemPlace}
    (h : DataW.trod enc Tryd.prog w base sp hd n 28 cs = some x) : ∃ (t : Int) (s : ByteArray) (a : Int) (b : Int) (c : Int) (d : Int), cs = [.int .i64 t, .string s, .int .i64 a, .int .i64 b, .int .i64 c, .int .i64 d] ∧ I64 t ∧ s.size ≤ maxLen ∧ I64 a ∧ I64 b ∧ I64 c ∧ I64 d := by
  obtain ⟨hl, m, hf⟩ := trod_fields Tryd.underlying28 h
  have hl2 : cs.length = 6 := hl.trans (by kernel_rfl)
  obtain ⟨c0, c1, c2, c3, c4, c5, rfl⟩ := len6 hl2
  obtain ⟨y0, h0⟩ := hf 0 _ rfl
  replace h0 : DataW.trod enc Tryd.prog w base sp hd m _ [c0] = some y0 := h0
  obtain ⟨v0, e0, _, w0⟩ := DataW.trod_int (k := .i64) (by kernel_rfl) h0
  simp only [List.cons.injEq, and_true] at e0
  subst e0
  obtain ⟨y1, h1⟩ := hf 1 _ rfl
  replace h1 : DataW.trod enc Tryd.prog w base sp hd m _ [c1] = some y1 := h1
  obtain ⟨v1, e1, _, w1⟩ := DataW.trod_string (by kernel_rfl) h1
  simp only [List.cons.injEq, and_true] at e1
  subst e1
  obtain ⟨y2, h2⟩ := hf 2 _ rfl
  replace h2 : DataW.trod enc Tryd.prog w base sp hd m _ [c2, c3] = some y2 := h2
  obtain ⟨v2_0, v2_1, e2, w2_0, w2_1⟩ := rat_cells h2
  simp only [List.cons.injEq, and_true] at e2
  obtain ⟨rfl, rfl⟩ := e2
  obtain ⟨y3, h3⟩ := hf 3 _ rfl
  replace h3 : DataW.trod enc Tryd.prog w base sp hd m _ [c4, c5] = some y3 := h3
  obtain ⟨v3_0, v3_1, e3, w3_0, w3_1⟩ := rat_cells h3
  simp only [List.cons.injEq, and_true] at e3
  obtain ⟨rfl, rfl⟩ := e3
  exact ⟨v0, v1, v2_0, v2_1, v3_0, v3_1, rfl, i64_of w0, w1, w2_0, w2_1, w3_0, w3_1⟩
set_option maxRecDepth 100000 in
theorem box_arg {H : Type} {enc : TypeId × Value → H} {w : World} {base b0 : Nat} {sp : Nat → Bool} {hd : Bool} {r : Reach} {v : Value} {d : DataW H} {p : List MemPlace}
    (hv : Value.okWide Tryd.prog w r b0 28 v) (h : DataW.Trod enc Tryd.prog w base sp hd 28 v d p) : ∃ (t : Int) (s : ByteArray) (a : Int) (b : Int) (c : Int) (d : Int), v = .agg #[.int .i64 t, .string s, .int .i64 a, .int .i64 b, .int .i64 c, .int .i64 d] ∧ I64 t ∧ s.size ≤ maxLen ∧ I64 a ∧ I64 b ∧ I64 c ∧ I64 d := by
  obtain ⟨cs, rfl, _⟩ := okWide_struct Tryd.underlying28 hv
  obtain ⟨fuel, hf⟩ := h
  obtain ⟨t, s, a, b, c, d, e, w0, w1, w2, w3, w4, w5⟩ := box_cells hf
  exact ⟨_, _, _, _, _, _, agg_of e, w0, w1, w2, w3, w4, w5⟩
set_option maxRecDepth 100000 in
theorem op_cells {H : Type} {enc : TypeId × Value → H} {w : World} {base : Nat} {sp : Nat → Bool} {hd : Bool} {n : Nat} {cs : List Value} {x : DataW H × List MemPlace}
    (h : DataW.trod enc Tryd.prog w base sp hd n 30 cs = some x) : ∃ (k0 : Int) (k1 : Int) (k2 : Int) (k3 : Int) (n : ByteArray) (wd : ByteArray) (tp : Option Addr) (tl : Nat) (tc : Nat) (a : Int) (b : Int) (c : Int) (d : Int) (bt : Int) (bs : ByteArray) (b1 : Int) (b2 : Int) (b3 : Int) (b4 : Int) (on : Bool), cs = [.int .i64 k0, .int .i64 k1, .int .i64 k2, .int .i64 k3, .string n, .string wd, .slice tp tl tc, .int .i64 a, .int .i64 b, .int .i64 c, .int .i64 d, .int .i64 bt, .string bs, .int .i64 b1, .int .i64 b2, .int .i64 b3, .int .i64 b4, .bool on] ∧ I64 k0 ∧ I64 k1 ∧ I64 k2 ∧ I64 k3 ∧ n.size ≤ maxLen ∧ wd.size ≤ maxLen ∧ I64 a ∧ I64 b ∧ I64 c ∧ I64 d ∧ I64 bt ∧ bs.size ≤ maxLen ∧ I64 b1 ∧ I64 b2 ∧ I64 b3 ∧ I64 b4 := by
  obtain ⟨hl, m, hf⟩ := trod_fields Tryd.underlying30 h
  have hl2 : cs.length = 18 := hl.trans (by kernel_rfl)
  obtain ⟨c0, c1, c2, c3, c4, c5, c6, c7, c8, c9, c10, c11, c12, c13, c14, c15, c16, c17, rfl⟩ := len18 hl2
  obtain ⟨y0, h0⟩ := hf 0 _ rfl
  replace h0 : DataW.trod enc Tryd.prog w base sp hd m _ [c0] = some y0 := h0
  obtain ⟨v0, e0, _, w0⟩ := DataW.trod_int (k := .i64) (by kernel_rfl) h0
  simp only [List.cons.injEq, and_true] at e0
  subst e0
  obtain ⟨y1, h1⟩ := hf 1 _ rfl
  replace h1 : DataW.trod enc Tryd.prog w base sp hd m _ [c1] = some y1 := h1
  obtain ⟨v1, e1, _, w1⟩ := DataW.trod_int (k := .i64) (by kernel_rfl) h1
  simp only [List.cons.injEq, and_true] at e1
  subst e1
  obtain ⟨y2, h2⟩ := hf 2 _ rfl
  replace h2 : DataW.trod enc Tryd.prog w base sp hd m _ [c2] = some y2 := h2
  obtain ⟨v2, e2, _, w2⟩ := DataW.trod_int (k := .i64) (by kernel_rfl) h2
  simp only [List.cons.injEq, and_true] at e2
  subst e2
  obtain ⟨y3, h3⟩ := hf 3 _ rfl
  replace h3 : DataW.trod enc Tryd.prog w base sp hd m _ [c3] = some y3 := h3
  obtain ⟨v3, e3, _, w3⟩ := DataW.trod_int (k := .i64) (by kernel_rfl) h3
  simp only [List.cons.injEq, and_true] at e3
  subst e3
  obtain ⟨y4, h4⟩ := hf 4 _ rfl
  replace h4 : DataW.trod enc Tryd.prog w base sp hd m _ [c4] = some y4 := h4
  obtain ⟨v4, e4, _, w4⟩ := DataW.trod_string (by kernel_rfl) h4
  simp only [List.cons.injEq, and_true] at e4
  subst e4
  obtain ⟨y5, h5⟩ := hf 5 _ rfl
  replace h5 : DataW.trod enc Tryd.prog w base sp hd m _ [c5] = some y5 := h5
  obtain ⟨v5, e5, _, w5⟩ := DataW.trod_string (by kernel_rfl) h5
  simp only [List.cons.injEq, and_true] at e5
  subst e5
  obtain ⟨y6, h6⟩ := hf 6 _ rfl
  replace h6 : DataW.trod enc Tryd.prog w base sp hd m _ [c6] = some y6 := h6
  obtain ⟨v6a, v6b, v6c, e6⟩ := trod_osl Tryd.underlying26 h6
  simp only [List.cons.injEq, and_true] at e6
  subst e6
  obtain ⟨y7, h7⟩ := hf 7 _ rfl
  replace h7 : DataW.trod enc Tryd.prog w base sp hd m _ [c7, c8] = some y7 := h7
  obtain ⟨v7_0, v7_1, e7, w7_0, w7_1⟩ := rat_cells h7
  simp only [List.cons.injEq, and_true] at e7
  obtain ⟨rfl, rfl⟩ := e7
  obtain ⟨y8, h8⟩ := hf 8 _ rfl
  replace h8 : DataW.trod enc Tryd.prog w base sp hd m _ [c9, c10] = some y8 := h8
  obtain ⟨v8_0, v8_1, e8, w8_0, w8_1⟩ := rat_cells h8
  simp only [List.cons.injEq, and_true] at e8
  obtain ⟨rfl, rfl⟩ := e8
  obtain ⟨y9, h9⟩ := hf 9 _ rfl
  replace h9 : DataW.trod enc Tryd.prog w base sp hd m _ [c11, c12, c13, c14, c15, c16] = some y9 := h9
  obtain ⟨v9_0, v9_1, v9_2, v9_3, v9_4, v9_5, e9, w9_0, w9_1, w9_2, w9_3, w9_4, w9_5⟩ := box_cells h9
  simp only [List.cons.injEq, and_true] at e9
  obtain ⟨rfl, rfl, rfl, rfl, rfl, rfl⟩ := e9
  obtain ⟨y10, h10⟩ := hf 10 _ rfl
  replace h10 : DataW.trod enc Tryd.prog w base sp hd m _ [c17] = some y10 := h10
  obtain ⟨v10, e10, _⟩ := DataW.trod_bool (by kernel_rfl) h10
  simp only [List.cons.injEq, and_true] at e10
  subst e10
  exact ⟨v0, v1, v2, v3, v4, v5, v6a, v6b, v6c, v7_0, v7_1, v8_0, v8_1, v9_0, v9_1, v9_2, v9_3, v9_4, v9_5, v10, rfl, i64_of w0, i64_of w1, i64_of w2, i64_of w3, w4, w5, w7_0, w7_1, w8_0, w8_1, w9_0, w9_1, w9_2, w9_3, w9_4, w9_5⟩
set_option maxRecDepth 100000 in
theorem op_arg {H : Type} {enc : TypeId × Value → H} {w : World} {base b0 : Nat} {sp : Nat → Bool} {hd : Bool} {r : Reach} {v : Value} {d : DataW H} {p : List MemPlace}
    (hv : Value.okWide Tryd.prog w r b0 30 v) (h : DataW.Trod enc Tryd.prog w base sp hd 30 v d p) : ∃ (k0 : Int) (k1 : Int) (k2 : Int) (k3 : Int) (n : ByteArray) (wd : ByteArray) (tp : Option Addr) (tl : Nat) (tc : Nat) (a : Int) (b : Int) (c : Int) (d : Int) (bt : Int) (bs : ByteArray) (b1 : Int) (b2 : Int) (b3 : Int) (b4 : Int) (on : Bool), v = .agg #[.int .i64 k0, .int .i64 k1, .int .i64 k2, .int .i64 k3, .string n, .string wd, .slice tp tl tc, .int .i64 a, .int .i64 b, .int .i64 c, .int .i64 d, .int .i64 bt, .string bs, .int .i64 b1, .int .i64 b2, .int .i64 b3, .int .i64 b4, .bool on] ∧ I64 k0 ∧ I64 k1 ∧ I64 k2 ∧ I64 k3 ∧ n.size ≤ maxLen ∧ wd.size ≤ maxLen ∧ I64 a ∧ I64 b ∧ I64 c ∧ I64 d ∧ I64 bt ∧ bs.size ≤ maxLen ∧ I64 b1 ∧ I64 b2 ∧ I64 b3 ∧ I64 b4 := by
  obtain ⟨cs, rfl, _⟩ := okWide_struct Tryd.underlying30 hv
  obtain ⟨fuel, hf⟩ := h
  obtain ⟨k0, k1, k2, k3, n, wd, tp, tl, tc, a, b, c, d, bt, bs, b1, b2, b3, b4, on, e, w0, w1, w2, w3, w4, w5, w6, w7, w8, w9, w10, w11, w12, w13, w14, w15⟩ := op_cells hf
  exact ⟨_, _, _, _, _, _, _, _, _, _, _, _, _, _, _, _, _, _, _, _, agg_of e, w0, w1, w2, w3, w4, w5, w6, w7, w8, w9, w10, w11, w12, w13, w14, w15⟩

end Go.Proofs.YtkmpnkgelaaebaaDoor
