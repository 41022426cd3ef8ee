/- OPENING ARGUMENTS: an expression, a form, a list of forms that the reading of an argument has read; how great they are. No condition. -/
import Derived.Test.YthmicnjigfcljaaRows
import Derived.Test.YthmicnjigfcljaaMa
import Derived.Test.YthmicnjigfcljaaMq
set_option linter.unusedSimpArgs false
set_option linter.unusedVariables false
namespace Go
open Go.RowKit

theorem list_pick {α : Type} : ∀ (n : Nat) (p : Nat → α → Prop), (∀ i, i < n → ∃ x, p i x) → ∃ l : List α, l.length = n ∧ ∀ i x, l[i]? = some x → p i x
  | 0, _, _ => ⟨[], rfl, fun i x h => by simp at h⟩
  | n + 1, p, h => by
    obtain ⟨l, h1, h2⟩ := list_pick n p fun i hi => h i (by omega)
    obtain ⟨x, hx⟩ := h n (by omega)
    refine ⟨l ++ [x], by simp [h1], fun i y hy => ?_⟩
    by_cases hi : i < l.length
    · rw [List.getElem?_append_left hi] at hy; exact h2 i y hy
    · rw [List.getElem?_append_right (by omega)] at hy
      have : i - l.length = 0 := by
        have := (List.getElem?_eq_some_iff.1 hy).1; simp at this; omega
      rw [this] at hy
      simp at hy
      subst hy
      rw [show i = n by omega]; exact hx
theorem sum_le_sum {α β : Type} (f : α → Nat) (g : β → Nat) : ∀ (l : List α) (r : List β), l.length = r.length → (∀ (i : Nat) (x : α) (y : β), l[i]? = some x → r[i]? = some y → f x ≤ g y) → (l.map f).sum ≤ (r.map g).sum
  | [], [], _, _ => Nat.le_refl _
  | [], _ :: _, h, _ => by simp at h
  | _ :: _, [], h, _ => by simp at h
  | x :: l, y :: r, h, hp => by
    have h0 := hp 0 x y rfl rfl
    have := sum_le_sum f g l r (by simpa using h) fun i a b ha hb => hp (i + 1) a b (by simpa using ha) (by simpa using hb)
    simp only [List.map_cons, List.sum_cons]; omega
end Go
namespace Go.Proofs.Ythmicnjigfcljaa
open Go.ChangeShapes Go.WideShapes Go.ChangeAt Go.RowKit

theorem bulkAll_sum {H : Type} : ∀ l : List (DataW H), Rows.uptoBulkAll l = (l.map Rows.uptoBulk).sum
  | [] => by simp [Rows.uptoBulkAll]
  | d :: l => by simp [Rows.uptoBulkAll, bulkAll_sum l]
theorem bulk_mem {H : Type} {d : DataW H} {l : List (DataW H)} (h : d ∈ l) : Rows.uptoBulk d ≤ Rows.uptoBulkAll l := by
  rw [bulkAll_sum]; exact sum_ge_mem _ l d h
theorem bulk_bound {H : Type} {l : List (DataW H)} (hk : Rows.uptoSmall H l = true) : Rows.uptoBulkAll l ≤ 1048576 := by
  simpa [Rows.uptoSmall] using hk
/-- a slice that was read, as a list -/
theorem trod_slat {α : Type} {H : Type} {enc : TypeId × Value → H} {w : World} {base : Nat} {sp : Nat → Bool} {hd : Bool} {t e : TypeId} {n n0 : Nat} {cs : List Value} {x : DataW H × List MemPlace}
    (ht : Try.prog.underlying t = some (.slice e)) (hc : Try.prog.cellsOf e = n0) (h0 : 0 < n0) (R : α → List Value → Prop) (sz : α → Nat)
    (hR : ∀ cs' y, cs'.length = n0 → DataW.trod enc Try.prog w base sp hd n e cs' = some y → ∃ z, R z cs' ∧ sz z ≤ Rows.uptoBulk y.1)
    (h : DataW.trod enc Try.prog w base sp hd (n + 1) t cs = some x) :
    ∃ (l : List α) (v : Value), cs = [v] ∧ SlAt w (fun _ => True) n0 R v l ∧ 1 + (l.map sz).sum ≤ Rows.uptoBulk x.1 := by
  rcases DataW.trod_slice ht h with ⟨rfl, rfl⟩ | ⟨a, len, cap, elems, rest, n', hn, rfl, rfl, hb, hl, hm, hlen, hel, _, _⟩
  · exact ⟨[], _, rfl, SlAt_nil _ _ _ _, by simp [Rows.uptoBulk]⟩
  · obtain rfl : n = n' := by omega
    rw [hc] at hel
    have hget : ∀ i, i < len → ∃ cs', w.cells? base (a.add (i * n0)) n0 = some cs' ∧ ∃ y, elems[i]? = some y ∧ DataW.trod enc Try.prog w base sp hd n e cs' = some y := fun i hi => by
      have h1 := hel i hi
      rw [List.getElem?_eq_getElem (by omega : i < elems.length)] at h1
      obtain ⟨cs', h2, h3⟩ := Option.bind_eq_some_iff.1 h1
      exact ⟨cs', h2, _, List.getElem?_eq_getElem (by omega), h3⟩
    obtain ⟨l, hll, hlp⟩ := list_pick len (fun i z => ∃ cs', cs'.length = n0 ∧ w.cells? base (a.add (i * n0)) n0 = some cs' ∧ R z cs' ∧ ∃ y, elems[i]? = some y ∧ sz z ≤ Rows.uptoBulk y.1) fun i hi => by
      obtain ⟨cs', h2, y, h3, h4⟩ := hget i hi
      have hl' := (World.cells?_some h2).2.1
      obtain ⟨z, z1, z2⟩ := hR cs' y hl' h4
      exact ⟨z, cs', hl', h2, z1, y, h3, z2⟩
    refine ⟨l, _, rfl, ⟨some a, cap, by rw [hll], by omega, by simpa [maxLen] using hm, ?_⟩, ?_⟩
    · cases l with
      | nil => exact .inl rfl
      | cons z0 l0 =>
        right
        have hsp : a.spot = none := by
          obtain ⟨cs', h1, h2, _⟩ := hlp 0 z0 rfl
          obtain ⟨_, _, h5⟩ := World.cells?_some h2
          have h6 := h5 0 h0
          rw [List.getElem?_eq_getElem (by omega : 0 < cs'.length)] at h6
          have := World.cell?_spot h6
          simpa [Addr.add] using this
        obtain ⟨g, off, spt⟩ := a
        obtain rfl : spt = none := hsp
        refine ⟨g, off, rfl, trivial, fun i z hi => ?_⟩
        obtain ⟨cs', h1, h2, h3, _⟩ := hlp i z hi
        refine ⟨cs', h1, eltAt_of_range (by intro e; rw [e] at h1; simp at h1; omega) fun j u hj => ?_, h3⟩
        have hjl : j < n0 := by rw [← h1]; exact (List.getElem?_eq_some_iff.1 hj).1
        have := (World.cells?_some h2).2.2 j hjl
        rw [hj, Addr.add_mid, Addr.add_mid] at this
        exact this
    · have := sum_le_sum sz (fun y : DataW H × List MemPlace => Rows.uptoBulk y.1) l elems (by omega) fun i z y hz hy => by
        obtain ⟨_, _, _, _, y', h5, h6⟩ := hlp i z hz
        rw [hy] at h5; cases h5; exact h6
      simp only [Rows.uptoBulk]
      rw [bulkAll_sum, List.map_map]
      have e : (elems.map (Rows.uptoBulk ∘ fun x => x.1)).sum = (elems.map fun y => Rows.uptoBulk y.1).sum := rfl
      omega

/-- the fields of a struct that was read, with their bulk -/
theorem trod_parts {H : Type} {enc : TypeId × Value → H} {w : World} {base : Nat} {sp : Nat → Bool} {hd : Bool} {t : TypeId} {fuel : Nat} {cs : List Value} {x : DataW H × List MemPlace} {fs : Array Field}
    (ht : Try.prog.underlying t = some (.struct fs)) (h : DataW.trod enc Try.prog w base sp hd fuel t cs = some x) :
    cs.length = Try.prog.cellsOf t ∧ ∃ n, fuel = n + 1 ∧ ∀ (i : Nat) (f : Field), fs[i]? = some f → ∃ y, DataW.trod enc Try.prog w base sp hd n f.type ((cs.drop f.offset).take (Try.prog.cellsOf f.type)) = some y ∧ Rows.uptoBulk y.1 + 1 ≤ Rows.uptoBulk x.1 := by
  obtain ⟨xs, n, hn, rfl, hl, hx, hf⟩ := DataW.trod_struct ht h
  refine ⟨hl, n, hn, fun i f hi => ?_⟩
  have h1 := hf i f hi
  have hlt : i < xs.length := by rw [hx]; exact (Array.getElem?_eq_some_iff.1 hi).1
  refine ⟨xs[i], by rw [h1, List.getElem?_eq_getElem hlt], ?_⟩
  have := bulk_mem (List.mem_map_of_mem (f := fun y : DataW H × List MemPlace => y.1) (List.getElem_mem hlt))
  simp only [Rows.uptoBulk]; omega
theorem trod_pos {H : Type} {enc : TypeId × Value → H} {w : World} {base : Nat} {sp : Nat → Bool} {hd : Bool} {t : TypeId} {n : Nat} {cs : List Value} {x : DataW H × List MemPlace}
    (h : DataW.trod enc Try.prog w base sp hd n t cs = some x) : ∃ k, n = k + 1 := by
  cases n with
  | zero => simp [DataW.trod] at h
  | succ n => exact ⟨n, rfl⟩

set_option maxRecDepth 100000 in
theorem rat_cells {H : Type} {enc : TypeId × Value → H} {w : World} {base : Nat} {sp : Nat → Bool} {hd : Bool} {n : Nat} {cs : List Value} {x : DataW H × List MemPlace}
    (h : DataW.trod enc Try.prog w base sp hd n 23 cs = some x) : ∃ (a : Int) (b : Int), cs = [.int .i64 a, .int .i64 b] ∧ I64 a ∧ I64 b := by
  obtain ⟨hl, m, hf⟩ := trod_fields Try.underlying23 h
  have hl2 : cs.length = 2 := hl.trans (by kernel_rfl)
  obtain ⟨c0, c1, rfl⟩ := len2 hl2
  obtain ⟨y0, h0⟩ := hf 0 _ rfl
  replace h0 : DataW.trod enc Try.prog w base sp hd m _ [c0] = some y0 := h0
  obtain ⟨v0, e0, _, w0⟩ := DataW.trod_int (k := .i64) (by kernel_rfl) h0
  simp only [List.cons.injEq, and_true] at e0
  subst e0
  obtain ⟨y1, h1⟩ := hf 1 _ rfl
  replace h1 : DataW.trod enc Try.prog w base sp hd m _ [c1] = some y1 := h1
  obtain ⟨v1, e1, _, w1⟩ := DataW.trod_int (k := .i64) (by kernel_rfl) h1
  simp only [List.cons.injEq, and_true] at e1
  subst e1
  exact ⟨v0, v1, rfl, i64_of w0, i64_of w1⟩
set_option maxRecDepth 100000 in
theorem rat_arg {H : Type} {enc : TypeId × Value → H} {w : World} {base b0 : Nat} {sp : Nat → Bool} {hd : Bool} {r : Reach} {v : Value} {d : DataW H} {p : List MemPlace}
    (hv : Value.okWide Try.prog w r b0 23 v) (h : DataW.Trod enc Try.prog w base sp hd 23 v d p) : ∃ (a : Int) (b : Int), v = .agg #[.int .i64 a, .int .i64 b] ∧ I64 a ∧ I64 b := by
  obtain ⟨cs, rfl, _⟩ := okWide_struct Try.underlying23 hv
  obtain ⟨fuel, hf⟩ := h
  obtain ⟨a, b, e, w0, w1⟩ := rat_cells hf
  exact ⟨_, _, agg_of e, w0, w1⟩
set_option maxRecDepth 100000 in
theorem ctx_cells {H : Type} {enc : TypeId × Value → H} {w : World} {base : Nat} {sp : Nat → Bool} {hd : Bool} {n : Nat} {cs : List Value} {x : DataW H × List MemPlace}
    (h : DataW.trod enc Try.prog w base sp hd n 58 cs = some x) : ∃ (a1 : Int) (a2 : Int) (b1 : Int) (b2 : Int) (c1 : Int) (c2 : Int) (d1 : Int) (d2 : Int) (e1 : Int) (e2 : Int) (f1 : Int) (f2 : Int), cs = [.int .i64 a1, .int .i64 a2, .int .i64 b1, .int .i64 b2, .int .i64 c1, .int .i64 c2, .int .i64 d1, .int .i64 d2, .int .i64 e1, .int .i64 e2, .int .i64 f1, .int .i64 f2] ∧ I64 a1 ∧ I64 a2 ∧ I64 b1 ∧ I64 b2 ∧ I64 c1 ∧ I64 c2 ∧ I64 d1 ∧ I64 d2 ∧ I64 e1 ∧ I64 e2 ∧ I64 f1 ∧ I64 f2 := by
  obtain ⟨hl, m, hf⟩ := trod_fields Try.underlying58 h
  have hl2 : cs.length = 12 := hl.trans (by kernel_rfl)
  obtain ⟨c0, c1, c2, c3, c4, c5, c6, c7, c8, c9, c10, c11, rfl⟩ := len12 hl2
  obtain ⟨y0, h0⟩ := hf 0 _ rfl
  replace h0 : DataW.trod enc Try.prog w base sp hd m _ [c0, c1] = some y0 := h0
  obtain ⟨v0_0, v0_1, e0, w0_0, w0_1⟩ := rat_cells h0
  simp only [List.cons.injEq, and_true] at e0
  obtain ⟨rfl, rfl⟩ := e0
  obtain ⟨y1, h1⟩ := hf 1 _ rfl
  replace h1 : DataW.trod enc Try.prog w base sp hd m _ [c2, c3] = some y1 := h1
  obtain ⟨v1_0, v1_1, e1, w1_0, w1_1⟩ := rat_cells h1
  simp only [List.cons.injEq, and_true] at e1
  obtain ⟨rfl, rfl⟩ := e1
  obtain ⟨y2, h2⟩ := hf 2 _ rfl
  replace h2 : DataW.trod enc Try.prog w base sp hd m _ [c4, c5] = some y2 := h2
  obtain ⟨v2_0, v2_1, e2, w2_0, w2_1⟩ := rat_cells h2
  simp only [List.cons.injEq, and_true] at e2
  obtain ⟨rfl, rfl⟩ := e2
  obtain ⟨y3, h3⟩ := hf 3 _ rfl
  replace h3 : DataW.trod enc Try.prog w base sp hd m _ [c6, c7] = some y3 := h3
  obtain ⟨v3_0, v3_1, e3, w3_0, w3_1⟩ := rat_cells h3
  simp only [List.cons.injEq, and_true] at e3
  obtain ⟨rfl, rfl⟩ := e3
  obtain ⟨y4, h4⟩ := hf 4 _ rfl
  replace h4 : DataW.trod enc Try.prog w base sp hd m _ [c8, c9] = some y4 := h4
  obtain ⟨v4_0, v4_1, e4, w4_0, w4_1⟩ := rat_cells h4
  simp only [List.cons.injEq, and_true] at e4
  obtain ⟨rfl, rfl⟩ := e4
  obtain ⟨y5, h5⟩ := hf 5 _ rfl
  replace h5 : DataW.trod enc Try.prog w base sp hd m _ [c10, c11] = some y5 := h5
  obtain ⟨v5_0, v5_1, e5, w5_0, w5_1⟩ := rat_cells h5
  simp only [List.cons.injEq, and_true] at e5
  obtain ⟨rfl, rfl⟩ := e5
  exact ⟨v0_0, v0_1, v1_0, v1_1, v2_0, v2_1, v3_0, v3_1, v4_0, v4_1, v5_0, v5_1, rfl, w0_0, w0_1, w1_0, w1_1, w2_0, w2_1, w3_0, w3_1, w4_0, w4_1, w5_0, w5_1⟩
set_option maxRecDepth 100000 in
theorem ctx_arg {H : Type} {enc : TypeId × Value → H} {w : World} {base b0 : Nat} {sp : Nat → Bool} {hd : Bool} {r : Reach} {v : Value} {d : DataW H} {p : List MemPlace}
    (hv : Value.okWide Try.prog w r b0 58 v) (h : DataW.Trod enc Try.prog w base sp hd 58 v d p) : ∃ (a1 : Int) (a2 : Int) (b1 : Int) (b2 : Int) (c1 : Int) (c2 : Int) (d1 : Int) (d2 : Int) (e1 : Int) (e2 : Int) (f1 : Int) (f2 : Int), v = .agg #[.int .i64 a1, .int .i64 a2, .int .i64 b1, .int .i64 b2, .int .i64 c1, .int .i64 c2, .int .i64 d1, .int .i64 d2, .int .i64 e1, .int .i64 e2, .int .i64 f1, .int .i64 f2] ∧ I64 a1 ∧ I64 a2 ∧ I64 b1 ∧ I64 b2 ∧ I64 c1 ∧ I64 c2 ∧ I64 d1 ∧ I64 d2 ∧ I64 e1 ∧ I64 e2 ∧ I64 f1 ∧ I64 f2 := by
  obtain ⟨cs, rfl, _⟩ := okWide_struct Try.underlying58 hv
  obtain ⟨fuel, hf⟩ := h
  obtain ⟨a1, a2, b1, b2, c1, c2, d1, d2, e1, e2, f1, f2, e, w0, w1, w2, w3, w4, w5, w6, w7, w8, w9, w10, w11⟩ := ctx_cells hf
  exact ⟨_, _, _, _, _, _, _, _, _, _, _, _, agg_of e, w0, w1, w2, w3, w4, w5, w6, w7, w8, w9, w10, w11⟩

set_option maxRecDepth 100000 in
/-- an expression that was read -/
theorem open_ex {H : Type} {enc : TypeId × Value → H} {w : World} {base : Nat} {sp : Nat → Bool} {hd : Bool} : ∀ (k n : Nat) (cs : List Value) (x : DataW H × List MemPlace), n ≤ k →
    DataW.trod enc Try.prog w base sp hd n 26 cs = some x → ∃ t : Ex, ExAt w (n / 2) t cs ∧ szE (n / 2) t + 1 ≤ Rows.uptoBulk x.1
  | 0, n, cs, x, hk, h => by obtain rfl : n = 0 := by omega
                             simp [DataW.trod] at h
  | k + 1, n, cs, x, hk, h => by
    obtain ⟨hl, m, rfl, hf⟩ := trod_parts Try.underlying26 h
    have hl2 : cs.length = 5 := hl.trans (by kernel_rfl)
    obtain ⟨c0, c1, c2, c3, c4, rfl⟩ := len5 hl2
    obtain ⟨y0, h0, _⟩ := hf 0 _ rfl
    replace h0 : DataW.trod enc Try.prog w base sp hd m _ [c0] = some y0 := h0
    obtain ⟨v0, e0, _, w0⟩ := DataW.trod_int (k := .i64) (by kernel_rfl) h0
    simp only [List.cons.injEq, and_true] at e0
    subst e0
    obtain ⟨y1, h1, _⟩ := hf 1 _ rfl
    replace h1 : DataW.trod enc Try.prog w base sp hd m _ [c1, c2] = some y1 := h1
    obtain ⟨v1, v2, e1, w1, w2⟩ := rat_cells h1
    simp only [List.cons.injEq, and_true] at e1
    obtain ⟨rfl, rfl⟩ := e1
    obtain ⟨y2, h2, _⟩ := hf 2 _ rfl
    replace h2 : DataW.trod enc Try.prog w base sp hd m _ [c3] = some y2 := h2
    obtain ⟨v3, e3, _, w3⟩ := DataW.trod_int (k := .i64) (by kernel_rfl) h2
    simp only [List.cons.injEq, and_true] at e3
    subst e3
    obtain ⟨y3, h3, b3⟩ := hf 3 _ rfl
    replace h3 : DataW.trod enc Try.prog w base sp hd m _ [c4] = some y3 := h3
    obtain ⟨n', rfl⟩ := trod_pos h3
    obtain ⟨l, v, e4, hs, hb⟩ := trod_slat (n0 := 5) (α := Ex) (by kernel_rfl) (by kernel_rfl) (by decide) (ExAt w (n' / 2)) (szE (n' / 2)) (fun cs' y _ hy => by obtain ⟨t, q1, q2⟩ := open_ex k n' cs' y (by omega) hy; exact ⟨t, q1, by omega⟩) h3
    simp only [List.cons.injEq, and_true] at e4
    subst e4
    rw [show (n' + 1 + 1) / 2 = n' / 2 + 1 by omega]
    obtain ⟨a, cap, rfl, q1, q2, q3⟩ := hs
    refine ⟨.mk v0 v1 v2 v3 l, ⟨i64_of w0, w1, w2, i64_of w3, a, cap, rfl, q1, q2, ?_⟩, ?_⟩
    · rcases q3 with q3 | ⟨g, off, q4, _, q5⟩
      · exact .inl q3
      · exact .inr ⟨g, off, q4, fun i t hi => by obtain ⟨cs', _, z1, z2⟩ := q5 i t hi; exact ⟨cs', z1, z2⟩⟩
    · unfold szE; omega
set_option maxRecDepth 100000 in
theorem ex_arg {H : Type} {enc : TypeId × Value → H} {w : World} {base b0 : Nat} {sp : Nat → Bool} {hd : Bool} {r : Reach} {v : Value} {d : DataW H} {p : List MemPlace}
    (hv : Value.okWide Try.prog w r b0 26 v) (h : DataW.Trod enc Try.prog w base sp hd 26 v d p) : ∃ (m : Nat) (t : Ex) (cs : List Value), v = .agg cs.toArray ∧ ExAt w m t cs ∧ szE m t + 1 ≤ Rows.uptoBulk d := by
  obtain ⟨cs, rfl, _⟩ := okWide_struct Try.underlying26 hv
  obtain ⟨fuel, hf⟩ := h
  obtain ⟨t, h1, h2⟩ := open_ex fuel fuel _ _ (Nat.le_refl _) hf
  exact ⟨_, t, cs.toList, by simp, h1, h2⟩
end Go.Proofs.Ythmicnjigfcljaa
