/- OPENING ARGUMENTS: steps at a tree, a list of them. No condition. -/
import Derived.Test.YtdbddnkjiehaiaaGreatOpenS
import Derived.Test.YtdbddnkjiehaiaaGreatMk
set_option linter.unusedSimpArgs false
set_option linter.unusedVariables false
namespace Go.Proofs.YtdbddnkjiehaiaaGreat
open Go.ChangeShapes Go.WideShapes Go.ChangeAt Go.RowKit

set_option maxRecDepth 100000 in
theorem rat_cells {H : Type} {enc : TypeId × Value → H} {w : World} {base : Nat} {sp : Nat → Bool} {hd : Bool} {n : Nat} {cs : List Value} {x : DataW H × List MemPlace}
    (h : DataW.trod enc Tryz.prog w base sp hd n 36 cs = some x) : ∃ (a : Int) (b : Int), cs = [.int .i64 a, .int .i64 b] ∧ I64 a ∧ I64 b := by
  obtain ⟨hl, m, hf⟩ := trod_fields Tryz.underlying36 h
  have hl2 : cs.length = 2 := hl.trans (by kernel_rfl)
  obtain ⟨c0, c1, rfl⟩ := len2 hl2
  obtain ⟨y0, h0⟩ := hf 0 _ rfl
  replace h0 : DataW.trod enc Tryz.prog w base sp hd m _ [c0] = some y0 := h0
  obtain ⟨v0, e0, _, w0⟩ := DataW.trod_int (k := .i64) (by kernel_rfl) h0
  simp only [List.cons.injEq, and_true] at e0
  subst e0
  obtain ⟨y1, h1⟩ := hf 1 _ rfl
  replace h1 : DataW.trod enc Tryz.prog w base sp hd m _ [c1] = some y1 := h1
  obtain ⟨v1, e1, _, w1⟩ := DataW.trod_int (k := .i64) (by kernel_rfl) h1
  simp only [List.cons.injEq, and_true] at e1
  subst e1
  exact ⟨v0, v1, rfl, i64_of w0, i64_of w1⟩
set_option maxRecDepth 100000 in
theorem rat_arg {H : Type} {enc : TypeId × Value → H} {w : World} {base b0 : Nat} {sp : Nat → Bool} {hd : Bool} {r : Reach} {v : Value} {d : DataW H} {p : List MemPlace}
    (hv : Value.okWide Tryz.prog w r b0 36 v) (h : DataW.Trod enc Tryz.prog w base sp hd 36 v d p) : ∃ (a : Int) (b : Int), v = .agg #[.int .i64 a, .int .i64 b] ∧ I64 a ∧ I64 b := by
  obtain ⟨cs, rfl, _⟩ := okWide_struct Tryz.underlying36 hv
  obtain ⟨fuel, hf⟩ := h
  obtain ⟨a, b, e, w0, w1⟩ := rat_cells hf
  exact ⟨_, _, agg_of e, w0, w1⟩
set_option maxRecDepth 100000 in
theorem box_cells {H : Type} {enc : TypeId × Value → H} {w : World} {base : Nat} {sp : Nat → Bool} {hd : Bool} {n : Nat} {cs : List Value} {x : DataW H × List MemPlace}
    (h : DataW.trod enc Tryz.prog w base sp hd n 38 cs = some x) : ∃ (t : Int) (s : ByteArray) (a : Int) (b : Int) (c : Int) (d : Int), cs = [.int .i64 t, .string s, .int .i64 a, .int .i64 b, .int .i64 c, .int .i64 d] ∧ I64 t ∧ s.size ≤ maxLen ∧ I64 a ∧ I64 b ∧ I64 c ∧ I64 d := by
  obtain ⟨hl, m, hf⟩ := trod_fields Tryz.underlying38 h
  have hl2 : cs.length = 6 := hl.trans (by kernel_rfl)
  obtain ⟨c0, c1, c2, c3, c4, c5, rfl⟩ := len6 hl2
  obtain ⟨y0, h0⟩ := hf 0 _ rfl
  replace h0 : DataW.trod enc Tryz.prog w base sp hd m _ [c0] = some y0 := h0
  obtain ⟨v0, e0, _, w0⟩ := DataW.trod_int (k := .i64) (by kernel_rfl) h0
  simp only [List.cons.injEq, and_true] at e0
  subst e0
  obtain ⟨y1, h1⟩ := hf 1 _ rfl
  replace h1 : DataW.trod enc Tryz.prog w base sp hd m _ [c1] = some y1 := h1
  obtain ⟨v1, e1, _, w1⟩ := DataW.trod_string (by kernel_rfl) h1
  simp only [List.cons.injEq, and_true] at e1
  subst e1
  obtain ⟨y2, h2⟩ := hf 2 _ rfl
  replace h2 : DataW.trod enc Tryz.prog w base sp hd m _ [c2, c3] = some y2 := h2
  obtain ⟨v2_0, v2_1, e2, w2_0, w2_1⟩ := rat_cells h2
  simp only [List.cons.injEq, and_true] at e2
  obtain ⟨rfl, rfl⟩ := e2
  obtain ⟨y3, h3⟩ := hf 3 _ rfl
  replace h3 : DataW.trod enc Tryz.prog w base sp hd m _ [c4, c5] = some y3 := h3
  obtain ⟨v3_0, v3_1, e3, w3_0, w3_1⟩ := rat_cells h3
  simp only [List.cons.injEq, and_true] at e3
  obtain ⟨rfl, rfl⟩ := e3
  exact ⟨v0, v1, v2_0, v2_1, v3_0, v3_1, rfl, i64_of w0, w1, w2_0, w2_1, w3_0, w3_1⟩
set_option maxRecDepth 100000 in
theorem box_arg {H : Type} {enc : TypeId × Value → H} {w : World} {base b0 : Nat} {sp : Nat → Bool} {hd : Bool} {r : Reach} {v : Value} {d : DataW H} {p : List MemPlace}
    (hv : Value.okWide Tryz.prog w r b0 38 v) (h : DataW.Trod enc Tryz.prog w base sp hd 38 v d p) : ∃ (t : Int) (s : ByteArray) (a : Int) (b : Int) (c : Int) (d : Int), v = .agg #[.int .i64 t, .string s, .int .i64 a, .int .i64 b, .int .i64 c, .int .i64 d] ∧ I64 t ∧ s.size ≤ maxLen ∧ I64 a ∧ I64 b ∧ I64 c ∧ I64 d := by
  obtain ⟨cs, rfl, _⟩ := okWide_struct Tryz.underlying38 hv
  obtain ⟨fuel, hf⟩ := h
  obtain ⟨t, s, a, b, c, d, e, w0, w1, w2, w3, w4, w5⟩ := box_cells hf
  exact ⟨_, _, _, _, _, _, agg_of e, w0, w1, w2, w3, w4, w5⟩
set_option maxRecDepth 100000 in
theorem dop_cells {H : Type} {enc : TypeId × Value → H} {w : World} {base : Nat} {sp : Nat → Bool} {hd : Bool} {n : Nat} {cs : List Value} {x : DataW H × List MemPlace}
    (h : DataW.trod enc Tryz.prog w base sp hd n 40 cs = some x) : ∃ (kq : Int) (iq : Int) (pq : Int) (nq : ByteArray) (vq : ByteArray) (bt : Int) (bs : ByteArray) (b1 : Int) (b2 : Int) (b3 : Int) (b4 : Int), cs = [.int .i64 kq, .int .i64 iq, .int .i64 pq, .string nq, .string vq, .int .i64 bt, .string bs, .int .i64 b1, .int .i64 b2, .int .i64 b3, .int .i64 b4] ∧ I64 kq ∧ I64 iq ∧ I64 pq ∧ nq.size ≤ maxLen ∧ vq.size ≤ maxLen ∧ I64 bt ∧ bs.size ≤ maxLen ∧ I64 b1 ∧ I64 b2 ∧ I64 b3 ∧ I64 b4 := by
  obtain ⟨hl, m, hf⟩ := trod_fields Tryz.underlying40 h
  have hl2 : cs.length = 11 := hl.trans (by kernel_rfl)
  obtain ⟨c0, c1, c2, c3, c4, c5, c6, c7, c8, c9, c10, rfl⟩ := len11 hl2
  obtain ⟨y0, h0⟩ := hf 0 _ rfl
  replace h0 : DataW.trod enc Tryz.prog w base sp hd m _ [c0] = some y0 := h0
  obtain ⟨v0, e0, _, w0⟩ := DataW.trod_int (k := .i64) (by kernel_rfl) h0
  simp only [List.cons.injEq, and_true] at e0
  subst e0
  obtain ⟨y1, h1⟩ := hf 1 _ rfl
  replace h1 : DataW.trod enc Tryz.prog w base sp hd m _ [c1] = some y1 := h1
  obtain ⟨v1, e1, _, w1⟩ := DataW.trod_int (k := .i64) (by kernel_rfl) h1
  simp only [List.cons.injEq, and_true] at e1
  subst e1
  obtain ⟨y2, h2⟩ := hf 2 _ rfl
  replace h2 : DataW.trod enc Tryz.prog w base sp hd m _ [c2] = some y2 := h2
  obtain ⟨v2, e2, _, w2⟩ := DataW.trod_int (k := .i64) (by kernel_rfl) h2
  simp only [List.cons.injEq, and_true] at e2
  subst e2
  obtain ⟨y3, h3⟩ := hf 3 _ rfl
  replace h3 : DataW.trod enc Tryz.prog w base sp hd m _ [c3] = some y3 := h3
  obtain ⟨v3, e3, _, w3⟩ := DataW.trod_string (by kernel_rfl) h3
  simp only [List.cons.injEq, and_true] at e3
  subst e3
  obtain ⟨y4, h4⟩ := hf 4 _ rfl
  replace h4 : DataW.trod enc Tryz.prog w base sp hd m _ [c4] = some y4 := h4
  obtain ⟨v4, e4, _, w4⟩ := DataW.trod_string (by kernel_rfl) h4
  simp only [List.cons.injEq, and_true] at e4
  subst e4
  obtain ⟨y5, h5⟩ := hf 5 _ rfl
  replace h5 : DataW.trod enc Tryz.prog w base sp hd m _ [c5, c6, c7, c8, c9, c10] = some y5 := h5
  obtain ⟨v5_0, v5_1, v5_2, v5_3, v5_4, v5_5, e5, w5_0, w5_1, w5_2, w5_3, w5_4, w5_5⟩ := box_cells h5
  simp only [List.cons.injEq, and_true] at e5
  obtain ⟨rfl, rfl, rfl, rfl, rfl, rfl⟩ := e5
  exact ⟨v0, v1, v2, v3, v4, v5_0, v5_1, v5_2, v5_3, v5_4, v5_5, rfl, i64_of w0, i64_of w1, i64_of w2, w3, w4, w5_0, w5_1, w5_2, w5_3, w5_4, w5_5⟩
set_option maxRecDepth 100000 in
theorem dop_arg {H : Type} {enc : TypeId × Value → H} {w : World} {base b0 : Nat} {sp : Nat → Bool} {hd : Bool} {r : Reach} {v : Value} {d : DataW H} {p : List MemPlace}
    (hv : Value.okWide Tryz.prog w r b0 40 v) (h : DataW.Trod enc Tryz.prog w base sp hd 40 v d p) : ∃ (kq : Int) (iq : Int) (pq : Int) (nq : ByteArray) (vq : ByteArray) (bt : Int) (bs : ByteArray) (b1 : Int) (b2 : Int) (b3 : Int) (b4 : Int), v = .agg #[.int .i64 kq, .int .i64 iq, .int .i64 pq, .string nq, .string vq, .int .i64 bt, .string bs, .int .i64 b1, .int .i64 b2, .int .i64 b3, .int .i64 b4] ∧ I64 kq ∧ I64 iq ∧ I64 pq ∧ nq.size ≤ maxLen ∧ vq.size ≤ maxLen ∧ I64 bt ∧ bs.size ≤ maxLen ∧ I64 b1 ∧ I64 b2 ∧ I64 b3 ∧ I64 b4 := by
  obtain ⟨cs, rfl, _⟩ := okWide_struct Tryz.underlying40 hv
  obtain ⟨fuel, hf⟩ := h
  obtain ⟨kq, iq, pq, nq, vq, bt, bs, b1, b2, b3, b4, e, w0, w1, w2, w3, w4, w5, w6, w7, w8, w9, w10⟩ := dop_cells hf
  exact ⟨_, _, _, _, _, _, _, _, _, _, _, agg_of e, w0, w1, w2, w3, w4, w5, w6, w7, w8, w9, w10⟩

def OpR (o : Opn) (cs : List Value) : Prop := cs = opC o ∧ o.Ok
set_option maxRecDepth 100000 in
theorem ops_arg {H : Type} {enc : TypeId × Value → H} {w : World} {base b0 : Nat} {sp : Nat → Bool} {hd : Bool} {r : Reach} {v : Value} {d : DataW H} {p : List MemPlace}
    (hv : Value.okWide Tryz.prog w r b0 23 v) (h : DataW.Trod enc Tryz.prog w base sp hd 23 v d p) : ∃ l : List Opn, SlAt w (fun _ => True) 11 OpR v l := by
  obtain ⟨a, len, cap, rfl⟩ := okWide_slice Tryz.underlying23 hv
  obtain ⟨fuel, hf⟩ := h
  obtain ⟨n, rfl⟩ := trod_pos0 hf
  obtain ⟨l, v, e, hs⟩ := trod_slat0 (n0 := 11) (α := Opn) Tryz.underlying23 (by kernel_rfl) (by decide) OpR (fun cs' y _ hy => by
    obtain ⟨q0, q1, q2, q3, q4, q5, q6, q7, q8, q9, q10, rfl, w0, w1, w2, w3, w4, w5, w6, w7, w8, w9, w10⟩ := dop_cells hy
    exact ⟨⟨q0, q1, q2, q3, q4, ⟨q5, q6, q7, q8, q9, q10⟩⟩, rfl, w0, w1, w2, w3, w4, w5, w6, w7, w8, w9, w10⟩) hf
  simp only [Value.cells] at e
  have e : [Value.slice a len cap] = [v] := by simpa using e
  injection e with e
  subst e
  exact ⟨l, hs⟩
end Go.Proofs.YtdbddnkjiehaiaaGreat
