/- Texts of the walk, one after the other; what each proves stands ahead of it. -/
import Derived.JoinedCond
import Derived.LaidLaws
import Derived.LaidMore
import Derived.OpenShut
import Derived.ProofKit
import Derived.Stop.Joined
import Derived.Test.YthcaphoejplecaaGreatDoorOpen
import Derived.Test.YthcaphoejplecaaGreatDoorRows
import Derived.Test.YthcaphoejplecaaGreatDoorTk3
import Derived.Test.YthcaphoejplecaaGreatDoorVaB
import Derived.Test.YthcaphoejplecaaGreatDoorVaY
set_option linter.unusedSimpArgs false
set_option linter.unusedVariables false
/- OPENING ARGUMENTS: tokens and custom properties that the reading of an argument has read; how long their lists are. No condition. -/
namespace Go
open Go.RowKit
theorem list_pick {α : Type} : ∀ (n : Nat) (p : Nat → α → Prop), (∀ i, i < n → ∃ x, p i x) → ∃ l : List α, l.length = n ∧ ∀ i x, l[i]? = some x → p i x
  | 0, _, _ => ⟨[], rfl, fun i x h => by simp at h⟩
  | n + 1, p, h => by
    obtain ⟨l, h1, h2⟩ := list_pick n p fun i hi => h i (by omega)
    obtain ⟨x, hx⟩ := h n (by omega)
    refine ⟨l ++ [x], by simp [h1], fun i y hy => ?_⟩
    by_cases hi : i < l.length
    · rw [List.getElem?_append_left hi] at hy; exact h2 i y hy
    · rw [List.getElem?_append_right (by omega)] at hy
      have : i - l.length = 0 := by
        have := (List.getElem?_eq_some_iff.1 hy).1; simp at this; omega
      rw [this] at hy
      simp at hy
      subst hy
      rw [show i = n by omega]; exact hx
theorem sum_ge_memE {α : Type} (f : α → Nat) (l : List α) (x : α) (h : x ∈ l) : f x ≤ (l.map f).sum := by
  induction l with
  | nil => cases h
  | cons y t ih =>
    simp only [List.map_cons, List.sum_cons]
    rcases List.mem_cons.1 h with rfl | h
    · omega
    · have := ih h; omega
theorem sum_le_sum {α β : Type} (f : α → Nat) (g : β → Nat) : ∀ (l : List α) (r : List β), l.length = r.length → (∀ (i : Nat) (x : α) (y : β), l[i]? = some x → r[i]? = some y → f x ≤ g y) → (l.map f).sum ≤ (r.map g).sum
  | [], [], _, _ => Nat.le_refl _
  | [], _ :: _, h, _ => by simp at h
  | _ :: _, [], h, _ => by simp at h
  | x :: l, y :: r, h, hp => by
    have h0 := hp 0 x y rfl rfl
    have := sum_le_sum f g l r (by simpa using h) fun i a b ha hb => hp (i + 1) a b (by simpa using ha) (by simpa using hb)
    simp only [List.map_cons, List.sum_cons]; omega
theorem sum_one {α : Type} (l : List α) : (l.map fun _ => 1).sum = l.length := by
  induction l with
  | nil => rfl
  | cons a t ih => simp only [List.map_cons, List.sum_cons, ih, List.length_cons]; omega
theorem SlAt.each {α : Type} {w : World} {S : Nat → Prop} {n : Nat} {R : α → List Value → Prop} {v : Value} {l : List α} (h : SlAt w S n R v l) : ∀ x ∈ l, ∃ cs, R x cs := by
  intro x hx
  obtain ⟨_, _, _, _, _, h1⟩ := h
  rcases h1 with rfl | ⟨g, off, _, _, h2⟩
  · cases hx
  · obtain ⟨i, hi, rfl⟩ := List.mem_iff_getElem.1 hx
    obtain ⟨cs, _, _, h3⟩ := h2 i _ (List.getElem?_eq_getElem hi)
    exact ⟨cs, h3⟩
end Go
namespace Go.Proofs.YthcaphoejplecaaGreatDoor
open Go.ChangeShapes Go.WideShapes Go.ChangeAt Go.RowKit
theorem bulkAll_sum {H : Type} : ∀ l : List (DataW H), Rows.uptoBulkAll l = (l.map Rows.uptoBulk).sum
  | [] => by simp [Rows.uptoBulkAll]
  | d :: l => by simp [Rows.uptoBulkAll, bulkAll_sum l]
theorem bulk_mem {H : Type} {d : DataW H} {l : List (DataW H)} (h : d ∈ l) : Rows.uptoBulk d ≤ Rows.uptoBulkAll l := by
  rw [bulkAll_sum]; exact sum_ge_memE _ l d h
theorem bulk_bound {H : Type} {l : List (DataW H)} (hk : Rows.uptoSmall H l = true) : Rows.uptoBulkAll l ≤ 1048576 := by
  simpa [Rows.uptoSmall] using hk
theorem bulk_pos {H : Type} (d : DataW H) : 1 ≤ Rows.uptoBulk d := by
  cases d with
  | lit l => cases l <;> simp [Rows.uptoBulk]
  | nil => simp [Rows.uptoBulk]
  | ptr d => simp [Rows.uptoBulk]
  | slice elems spare => simp [Rows.uptoBulk]
  | agg parts => simp [Rows.uptoBulk]
  | iface t d => simp [Rows.uptoBulk]
  | map entries => simp [Rows.uptoBulk]
  | held h => simp [Rows.uptoBulk]

/-- a slice that was read, as a list -/
theorem trod_slat {α : Type} {H : Type} {enc : TypeId × Value → H} {w : World} {base : Nat} {sp : Nat → Bool} {hd : Bool} {t e : TypeId} {n n0 : Nat} {cs : List Value} {x : DataW H × List MemPlace}
    (ht : Tryz.prog.underlying t = some (.slice e)) (hc : Tryz.prog.cellsOf e = n0) (h0 : 0 < n0) (R : α → List Value → Prop) (sz : α → Nat)
    (hR : ∀ cs' y, cs'.length = n0 → DataW.trod enc Tryz.prog w base sp hd n e cs' = some y → ∃ z, R z cs' ∧ sz z ≤ Rows.uptoBulk y.1)
    (h : DataW.trod enc Tryz.prog w base sp hd (n + 1) t cs = some x) :
    ∃ (l : List α) (v : Value), cs = [v] ∧ SlAt w (fun _ => True) n0 R v l ∧ 1 + (l.map sz).sum ≤ Rows.uptoBulk x.1 := by
  rcases DataW.trod_slice ht h with ⟨rfl, rfl⟩ | ⟨a, len, cap, elems, rest, n', hn, rfl, rfl, hb, hl, hm, hlen, hel, _, _⟩
  · exact ⟨[], _, rfl, SlAt_nil _ _ _ _, by simp [Rows.uptoBulk]⟩
  · obtain rfl : n = n' := by omega
    rw [hc] at hel
    have hget : ∀ i, i < len → ∃ cs', w.cells? base (a.add (i * n0)) n0 = some cs' ∧ ∃ y, elems[i]? = some y ∧ DataW.trod enc Tryz.prog w base sp hd n e cs' = some y := fun i hi => by
      have h1 := hel i hi
      rw [List.getElem?_eq_getElem (by omega : i < elems.length)] at h1
      obtain ⟨cs', h2, h3⟩ := Option.bind_eq_some_iff.1 h1
      exact ⟨cs', h2, _, List.getElem?_eq_getElem (by omega), h3⟩
    obtain ⟨l, hll, hlp⟩ := list_pick len (fun i z => ∃ cs', cs'.length = n0 ∧ w.cells? base (a.add (i * n0)) n0 = some cs' ∧ R z cs' ∧ ∃ y, elems[i]? = some y ∧ sz z ≤ Rows.uptoBulk y.1) fun i hi => by
      obtain ⟨cs', h2, y, h3, h4⟩ := hget i hi
      have hl' := (World.cells?_some h2).2.1
      obtain ⟨z, z1, z2⟩ := hR cs' y hl' h4
      exact ⟨z, cs', hl', h2, z1, y, h3, z2⟩
    refine ⟨l, _, rfl, ⟨some a, cap, by rw [hll], by omega, by simpa [maxLen] using hm, ?_⟩, ?_⟩
    · cases l with
      | nil => exact .inl rfl
      | cons z0 l0 =>
        right
        have hsp : a.spot = none := by
          obtain ⟨cs', h1, h2, _⟩ := hlp 0 z0 rfl
          obtain ⟨_, _, h5⟩ := World.cells?_some h2
          have h6 := h5 0 h0
          rw [List.getElem?_eq_getElem (by omega : 0 < cs'.length)] at h6
          have := World.cell?_spot h6
          simpa [Addr.add] using this
        obtain ⟨g, off, spt⟩ := a
        obtain rfl : spt = none := hsp
        refine ⟨g, off, rfl, trivial, fun i z hi => ?_⟩
        obtain ⟨cs', h1, h2, h3, _⟩ := hlp i z hi
        refine ⟨cs', h1, eltAt_of_range (by intro e; rw [e] at h1; simp at h1; omega) fun j u hj => ?_, h3⟩
        have hjl : j < n0 := by rw [← h1]; exact (List.getElem?_eq_some_iff.1 hj).1
        have := (World.cells?_some h2).2.2 j hjl
        rw [hj, Addr.add_mid, Addr.add_mid] at this
        exact this
    · have := sum_le_sum sz (fun y : DataW H × List MemPlace => Rows.uptoBulk y.1) l elems (by omega) fun i z y hz hy => by
        obtain ⟨_, _, _, _, y', h5, h6⟩ := hlp i z hz
        rw [hy] at h5; cases h5; exact h6
      simp only [Rows.uptoBulk]
      rw [bulkAll_sum, List.map_map]
      have e : (elems.map (Rows.uptoBulk ∘ fun x => x.1)).sum = (elems.map fun y => Rows.uptoBulk y.1).sum := rfl
      omega

/-- the fields of a struct that was read, with their bulk -/
theorem trod_parts {H : Type} {enc : TypeId × Value → H} {w : World} {base : Nat} {sp : Nat → Bool} {hd : Bool} {t : TypeId} {fuel : Nat} {cs : List Value} {x : DataW H × List MemPlace} {fs : Array Field}
    (ht : Tryz.prog.underlying t = some (.struct fs)) (h : DataW.trod enc Tryz.prog w base sp hd fuel t cs = some x) :
    cs.length = Tryz.prog.cellsOf t ∧ ∃ n, fuel = n + 1 ∧ ∀ (i : Nat) (f : Field), fs[i]? = some f → ∃ y, DataW.trod enc Tryz.prog w base sp hd n f.type ((cs.drop f.offset).take (Tryz.prog.cellsOf f.type)) = some y ∧ Rows.uptoBulk y.1 + 1 ≤ Rows.uptoBulk x.1 := by
  obtain ⟨xs, n, hn, rfl, hl, hx, hf⟩ := DataW.trod_struct ht h
  refine ⟨hl, n, hn, fun i f hi => ?_⟩
  have h1 := hf i f hi
  have hlt : i < xs.length := by rw [hx]; exact (Array.getElem?_eq_some_iff.1 hi).1
  refine ⟨xs[i], by rw [h1, List.getElem?_eq_getElem hlt], ?_⟩
  have := bulk_mem (List.mem_map_of_mem (f := fun y : DataW H × List MemPlace => y.1) (List.getElem_mem hlt))
  simp only [Rows.uptoBulk]; omega
theorem trod_pos {H : Type} {enc : TypeId × Value → H} {w : World} {base : Nat} {sp : Nat → Bool} {hd : Bool} {t : TypeId} {n : Nat} {cs : List Value} {x : DataW H × List MemPlace}
    (h : DataW.trod enc Tryz.prog w base sp hd n t cs = some x) : ∃ k, n = k + 1 := by
  cases n with
  | zero => simp [DataW.trod] at h
  | succ n => exact ⟨n, rfl⟩



set_option maxRecDepth 100000 in
/-- a token that was read -/
theorem open_tk {H : Type} {enc : TypeId × Value → H} {w : World} {base : Nat} {sp : Nat → Bool} {hd : Bool} {n : Nat} {cs : List Value} {x : DataW H × List MemPlace} (h : DataW.trod enc Tryz.prog w base sp hd n 65 cs = some x) :
    ∃ t : Tk, TkR t cs := by
  obtain ⟨hl, m, rfl, hf⟩ := trod_parts Tryz.underlying65 h
  have hl2 : cs.length = 6 := hl.trans (by kernel_rfl)
  obtain ⟨c0, c1, c2, c3, c4, c5, rfl⟩ := len6 hl2
  obtain ⟨y0, h0, _⟩ := hf 0 _ rfl
  replace h0 : DataW.trod enc Tryz.prog w base sp hd m _ [c0] = some y0 := h0
  obtain ⟨v0, e0, _, w0⟩ := DataW.trod_int (k := .i64) (by kernel_rfl) h0
  simp only [List.cons.injEq, and_true] at e0
  subst e0
  obtain ⟨y1, h1, _⟩ := hf 1 _ rfl
  replace h1 : DataW.trod enc Tryz.prog w base sp hd m _ [c1] = some y1 := h1
  obtain ⟨v1, e1, _, w1⟩ := DataW.trod_string (by kernel_rfl) h1
  simp only [List.cons.injEq, and_true] at e1
  subst e1
  obtain ⟨y2, h2, _⟩ := hf 2 _ rfl
  replace h2 : DataW.trod enc Tryz.prog w base sp hd m 63 [c2, c3] = some y2 := h2
  obtain ⟨hl3, m3, rfl, hf3⟩ := trod_parts Tryz.underlying63 h2
  obtain ⟨z0, g0, _⟩ := hf3 0 _ rfl
  replace g0 : DataW.trod enc Tryz.prog w base sp hd m3 _ [c2] = some z0 := g0
  obtain ⟨v2, e2, _, w2⟩ := DataW.trod_int (k := .i64) (by kernel_rfl) g0
  simp only [List.cons.injEq, and_true] at e2
  subst e2
  obtain ⟨z1, g1, _⟩ := hf3 1 _ rfl
  replace g1 : DataW.trod enc Tryz.prog w base sp hd m3 _ [c3] = some z1 := g1
  obtain ⟨v3, e3, _, w3⟩ := DataW.trod_int (k := .i64) (by kernel_rfl) g1
  simp only [List.cons.injEq, and_true] at e3
  subst e3
  obtain ⟨y4, h4, _⟩ := hf 3 _ rfl
  replace h4 : DataW.trod enc Tryz.prog w base sp hd (m3 + 1) _ [c4] = some y4 := h4
  obtain ⟨v4, e4, _⟩ := DataW.trod_bool (by kernel_rfl) h4
  simp only [List.cons.injEq, and_true] at e4
  subst e4
  obtain ⟨y5, h5, _⟩ := hf 4 _ rfl
  replace h5 : DataW.trod enc Tryz.prog w base sp hd (m3 + 1) _ [c5] = some y5 := h5
  obtain ⟨v5, e5, _⟩ := DataW.trod_bool (by kernel_rfl) h5
  simp only [List.cons.injEq, and_true] at e5
  subst e5
  exact ⟨⟨v0, v1, v2, v3, v4, v5⟩, rfl, i64_of w0, w1, i64_of w2, i64_of w3⟩
set_option maxRecDepth 100000 in
/-- tokens that were read -/
theorem open_tks {H : Type} {enc : TypeId × Value → H} {w : World} {base : Nat} {sp : Nat → Bool} {hd : Bool} {n : Nat} {cs : List Value} {x : DataW H × List MemPlace} (h : DataW.trod enc Tryz.prog w base sp hd n 27 cs = some x) :
    ∃ (l : List Tk) (v : Value), cs = [v] ∧ TksAt w v l ∧ l.length ≤ Rows.uptoBulk x.1 := by
  obtain ⟨k, rfl⟩ := trod_pos h
  obtain ⟨l, v, e, hs, hb⟩ := trod_slat (n0 := 6) (α := Tk) Tryz.underlying27 (by kernel_rfl) (by decide) TkR (fun _ => 1) (fun cs' y _ hy => by
    obtain ⟨t, ht⟩ := open_tk hy
    exact ⟨t, ht, bulk_pos _⟩) h
  rw [sum_one] at hb
  exact ⟨l, v, e, hs, by omega⟩
set_option maxRecDepth 100000 in
/-- a custom property that was read -/
theorem open_cu {H : Type} {enc : TypeId × Value → H} {w : World} {base : Nat} {sp : Nat → Bool} {hd : Bool} {n : Nat} {cs : List Value} {x : DataW H × List MemPlace} (h : DataW.trod enc Tryz.prog w base sp hd n 30 cs = some x) :
    ∃ c : Cu, c.n.size ≤ maxLen ∧ (∃ u, cs = [.string c.n, u] ∧ TksAt w u c.ts) ∧ c.ts.length ≤ Rows.uptoBulk x.1 := by
  obtain ⟨hl, m, rfl, hf⟩ := trod_parts Tryz.underlying30 h
  have hl2 : cs.length = 2 := hl.trans (by kernel_rfl)
  obtain ⟨c0, c1, rfl⟩ := len2 hl2
  obtain ⟨y0, h0, _⟩ := hf 0 _ rfl
  replace h0 : DataW.trod enc Tryz.prog w base sp hd m _ [c0] = some y0 := h0
  obtain ⟨v0, e0, _, w0⟩ := DataW.trod_string (by kernel_rfl) h0
  simp only [List.cons.injEq, and_true] at e0
  subst e0
  obtain ⟨y1, h1, b1⟩ := hf 1 _ rfl
  replace h1 : DataW.trod enc Tryz.prog w base sp hd m 27 [c1] = some y1 := h1
  obtain ⟨ts, v, e1, hts, hb⟩ := open_tks h1
  simp only [List.cons.injEq, and_true] at e1
  subst e1
  exact ⟨⟨v0, ts⟩, w0, ⟨_, rfl, hts⟩, by show ts.length ≤ _; omega⟩
set_option maxRecDepth 100000 in
theorem tks_arg {H : Type} {enc : TypeId × Value → H} {w : World} {base b0 : Nat} {sp : Nat → Bool} {hd : Bool} {r : Reach} {v : Value} {d : DataW H} {p : List MemPlace}
    (hv : Value.okWide Tryz.prog w r b0 27 v) (h : DataW.Trod enc Tryz.prog w base sp hd 27 v d p) : ∃ l : List Tk, TksAt w v l ∧ l.length ≤ Rows.uptoBulk d := by
  obtain ⟨a, len, cap, rfl⟩ := okWide_slice Tryz.underlying27 hv
  obtain ⟨fuel, hf⟩ := h
  obtain ⟨l, v, e, hs, hb⟩ := open_tks hf
  simp only [Value.cells] at e
  have e : [Value.slice a len cap] = [v] := by simpa using e
  injection e with e
  subst e
  exact ⟨l, hs, hb⟩
/-- blocks that there are alone -/
theorem SlAt.below {α : Type} {w : World} {n : Nat} {R : α → List Value → Prop} {v : Value} {l : List α} (h0 : 0 < n) (h : SlAt w (fun _ => True) n R v l) : SlAt w (fun g => g < w.heap.size) n R v l := by
  obtain ⟨a, c, h1, h2, h3, h4⟩ := h
  refine ⟨a, c, h1, h2, h3, ?_⟩
  cases l with
  | nil => exact .inl rfl
  | cons x l =>
    rcases h4 with h4 | ⟨g, off, e, _, h7⟩
    · cases h4
    · obtain ⟨cs, q1, q2, _⟩ := h7 0 x rfl
      exact .inr ⟨g, off, e, q2.lt, h7⟩
set_option maxRecDepth 100000 in
theorem cus_arg {H : Type} {enc : TypeId × Value → H} {w : World} {base b0 : Nat} {sp : Nat → Bool} {hd : Bool} {r : Reach} {v : Value} {d : DataW H} {p : List MemPlace}
    (hv : Value.okWide Tryz.prog w r b0 22 v) (h : DataW.Trod enc Tryz.prog w base sp hd 22 v d p) (hB : Rows.uptoBulk d ≤ 1048576) : ∃ l : List Cu, CusAt w (fun g => g < w.heap.size) v l ∧ l.length ≤ 1048576 := by
  obtain ⟨a, len, cap, rfl⟩ := okWide_slice Tryz.underlying22 hv
  obtain ⟨fuel, hf⟩ := h
  obtain ⟨n, rfl⟩ := trod_pos hf
  obtain ⟨l, v, e, hs, hb⟩ := trod_slat (n0 := 2) (α := Nat × Cu) Tryz.underlying22 (by kernel_rfl) (by decide) (fun z cs' => z.2.n.size ≤ maxLen ∧ (∃ u, cs' = [.string z.2.n, u] ∧ TksAt w u z.2.ts) ∧ z.2.ts.length ≤ z.1 ∧ 1 ≤ z.1) (fun z => z.1) (fun cs' y _ hy => by
    obtain ⟨c, q1, q2, q3⟩ := open_cu hy
    exact ⟨(_, c), ⟨q1, q2, q3, bulk_pos _⟩, Nat.le_refl _⟩) hf
  simp only [Value.cells] at e
  have e : [Value.slice a len cap] = [v] := by simpa using e
  injection e with e
  subst e
  have hlt : ∀ z ∈ l, z.1 ≤ 1048576 := fun z hz => by
    have h2 : z.1 ≤ (l.map fun z : Nat × Cu => z.1).sum := sum_ge_memE (fun z : Nat × Cu => z.1) l z hz
    have hb' : 1 + (l.map fun z : Nat × Cu => z.1).sum ≤ Rows.uptoBulk d := hb
    omega
  have hlen : l.length ≤ 1048576 := by
    have h2 := sum_le_sum (fun _ : Nat × Cu => 1) (fun z : Nat × Cu => z.1) l l rfl (fun i x y hx hy => by
      rw [hx] at hy; cases hy
      obtain ⟨_, _, _, _, h1⟩ := hs.each x (List.mem_of_getElem? hx)
      exact h1)
    rw [sum_one] at h2
    have hb' : 1 + (l.map fun z : Nat × Cu => z.1).sum ≤ Rows.uptoBulk d := hb
    omega
  have hs2 := SlAt.below (by omega) hs
  refine ⟨l.map (·.2), ?_, by rw [List.length_map]; exact hlen⟩
  obtain ⟨a', c', q1, q2, q3, q4⟩ := hs2
  refine ⟨a', c', by rw [List.length_map]; exact q1, by rw [List.length_map]; exact q2, q3, ?_⟩
  rcases q4 with rfl | ⟨g, off, q5, q6, q7⟩
  · exact .inl rfl
  · refine .inr ⟨g, off, q5, q6, fun i x hx => ?_⟩
    rw [List.getElem?_map] at hx
    obtain ⟨z, hz, rfl⟩ := Option.map_eq_some_iff.1 hx
    obtain ⟨cs, z1, z2, z3, ⟨u, z4, z5⟩, z6, z7⟩ := q7 i z hz
    exact ⟨cs, z1, z2, z3, u, z4, SlAt.below (by omega) z5, by have := hlt z (List.mem_of_getElem? hz); omega⟩
end Go.Proofs.YthcaphoejplecaaGreatDoor

/- THE TABLE OF KINDS as the program's text lays it; a law under a condition and with a laid variable. No condition. -/
namespace Go
theorem OpenSpec.witness_laid {H : Type} {enc : TypeId × Value → H} {C : Checked} {os : Os} {f : FuncId} {fn : Func} {s : OpenSpec} {k : (H : Type) → List (DataW H) → Bool} (hk : s.cond = some k) {conds : List PathCond} {apart : Bool} {X : World → Array Value → Prop} (modest : Bool) (w0 : World) (args : Array Value) (fuel : Nat) (hos : w0.os = os)
    (hsh : (w0.forCall (fun _ _ => 0) ⟨#[], args, []⟩).Shaped C.prog)
    (hok : Input.okWideB C.prog (w0.forCall (fun _ _ => 0) ⟨#[], args, []⟩) f ⟨#[], args, []⟩ = true)
    {x : List (DataW H) × List (DataW H) × List MemPlace} (hx : DataW.whole enc C.prog (w0.forCall (fun _ _ => 0) ⟨#[], args, []⟩).memory fn.params.toList s.vars apart args.toList fuel = some x)
    (hconds : conds.all (PathCond.test C.prog ⟨fn.params.toList, x.1, s.bare.plain.varTypes C.prog, x.2.1⟩) = true) (hkk : k H (x.1 ++ x.2.1) = true)
    (hsz : s.bare.sizedB enc C.prog fn apart (w0.forCall (fun _ _ => 0) ⟨#[], args, []⟩).memory args fuel = true)
    (hX : X (w0.forCall (fun _ _ => 0) ⟨#[], args, []⟩).memory args) :
    ∃ (w : World) (tape : Tape) (i : Input), w.os = os ∧ (w.forCall tape i).Shaped C.prog ∧ i.vars = [] ∧ Input.okWide C.prog (w.forCall tape i) .any w.heap.size f i ∧
      ((s.pre enc C.prog fn conds apart (w.forCall tape i).memory i.args ∧ X (w.forCall tape i).memory i.args) ∧ sizedMet enc C.prog fn s apart (w.forCall tape i).memory i.args) ∧ ({ modest := modest } : Assume).holds C.prog (lone (Frame.enter C.prog f i.args .normal) [] (w.forCall tape i)) :=
  ⟨w0, fun _ _ => 0, ⟨#[], args, []⟩, hos, hsh, (Input.okWide_of_okWideB (base := 0) hok).1, (Input.okWide_of_okWideB hok).2, ⟨⟨(OpenSpec.pre_some hk conds apart _ _).2 ⟨x.1, x.2.1, x.2.2, DataW.Whole_of_whole hx, hconds, hkk⟩, hX⟩, sizedMet_of_sizedB hsz⟩, by
    simp only [Assume.holds]
    exact ⟨by simp, by simp, fun _ => Modest.zero, by simp, by simp⟩⟩
theorem returnsInHanded_of_cond_and {H : Type} {enc : TypeId × Value → H} {a : Assume} {C : Checked} {os : Os} {f : FuncId} {fn : Func} {s : OpenSpec} {k : (H : Type) → List (DataW H) → Bool} (hk : s.cond = some k) {F : Stop.Interp} {conds : List PathCond} {apart fresh handsOn again : Bool} {X : World → Array Value → Prop}
    (hX : ∀ (w w' : World) (args : Array Value), w.heap = w'.heap → X w args → X w' args)
    (own : ownKnob C.prog.godebug = none) (started : os.Started) (noInit : C.prog.inits.idxOf? f = none) (hfn : C.prog.funcs[f]? = some fn)
    (witness : ∃ (w : World) (tape : Tape) (i : Input), w.os = os ∧ (w.forCall tape i).Shaped C.prog ∧ i.vars = [] ∧ Input.okWide C.prog (w.forCall tape i) .any w.heap.size f i ∧
      ((s.pre enc C.prog fn conds apart (w.forCall tape i).memory i.args ∧ X (w.forCall tape i).memory i.args) ∧ sizedMet enc C.prog fn s apart (w.forCall tape i).memory i.args) ∧ a.holds C.prog (lone (Frame.enter C.prog f i.args .normal) [] (w.forCall tape i)))
    (contract : ∀ (W : World) (base : Nat) (args : Array Value) (ds gs : List (DataW H)) (before : List MemPlace),
      (∀ (j : Nat) t v, fn.params[j]? = some t → args[j]? = some v → Value.okWide C.prog W .any base t v) →
      DataW.Whole enc C.prog fn.params.toList s.vars apart W args.toList ds gs before →
      conds.all (PathCond.test C.prog ⟨fn.params.toList, ds, s.bare.plain.varTypes C.prog, gs⟩) = true → k H (ds ++ gs) = true → X W args →
      a.holds C.prog (lone (Frame.enter C.prog f args .normal) [] W) →
      Calls C.prog f args W fun e W' => ∃ v, e = .returned v ∧ (s.at F).post enc C.prog fn apart fresh handsOn again W args v W') :
    ReturnsInHanded a C os f .any (fun w args => (s.pre enc C.prog fn conds apart w args ∧ X w args) ∧ sizedMet enc C.prog fn s apart w args) ((s.at F).post enc C.prog fn apart fresh handsOn again) := by
  refine returnsInHanded_of_calls own started noInit witness ?_
  intro w tape i _ _ _ hok hpre hholds
  obtain ⟨_, _, _, fn', hfn', _, _, _, _, hval⟩ := hok
  have e : fn' = fn := Option.some.inj (hfn'.symm.trans hfn)
  subst e
  obtain ⟨ds, gs, before, hw, hc, hkk⟩ := (OpenSpec.pre_some hk conds apart _ _).1 hpre.1.1
  have hw' := DataW.Whole.of_heap (w' := w.forCall tape i) (by rfl) hw
  refine (contract (w.forCall tape i) w.heap.size i.args ds gs before hval hw' hc hkk (hX _ _ _ (by rfl) hpre.1.2) hholds).mono fun e W' ⟨v, he, hp⟩ => ?_
  subst he
  exact ChangeSpec.post_blind hp
end Go
namespace Go.Proofs.YthcaphoejplecaaGreatDoor
open Go.ChangeShapes Go.WideShapes Go.ChangeAt Go.WideMaps Go.WideElems Go.RowKit
def laidA {H : Type} : List (String × DataW H) := [("jalousie/jalousieref3.kinds", Rows.laid_jalousie_jalousieref3_kinds)]
theorem gAll : Tryz.prog.globalNamed "jalousie/jalousieref3.kinds" = some 0 := by kernel_rfl
theorem tAll : (Tryz.prog.globals[0]?).map (·.type) = some 117 := by kernel_rfl
theorem door_met (os : Os) (args : Array Value) : laidMetH Tryz.prog laidA ((World.doorLaid Tryz.prog 400 os).forCall (fun _ _ => 0) ⟨#[], args, []⟩).memory :=
  laidMetH_of_parts3 (fuel := 8) (laidMet_of_run' 8 (by kernel_rfl) (by kernel_rfl)) (by kernel_rfl) (by kernel_rfl)
set_option maxRecDepth 100000 in
theorem of_laid {W : World} (h : laidMetH Tryz.prog laidA W) : KindsAt W := by
  rw [MakeChecks.laidMetH_plain _ _ _ (by kernel_rfl)] at h
  obtain ⟨ps, ⟨g, t, cs, fuel, p, q, hg, ht, hv, hd, _, _⟩, _, _⟩ := h
  obtain rfl := Option.some.inj (gAll.symm.trans hg)
  obtain rfl := Option.some.inj (tAll.symm.trans ht)
  obtain ⟨xs, m, _, ex, hl, hn, hel⟩ := DataW.trod_array Tryz.underlying117 hd
  have c9 : Tryz.prog.cellsOf 3 = 1 := by kernel_rfl
  have c37 : Tryz.prog.cellsOf 117 = 9 := by kernel_rfl
  rw [c9] at hel; rw [c37] at hl
  have hrow : ∃ ty fr, W.row 0 = some (.cells cs ty fr) := by
    unfold World.var? at hv
    rw [gAll] at hv
    simp only [Option.bind_some] at hv
    unfold World.row
    split at hv
    · rename_i c ty fr e; cases hv; exact ⟨ty, fr, e⟩
    · cases hv
  obtain ⟨ty, fr, hrow⟩ := hrow
  refine ⟨ty, fr, ?_⟩
  rw [hrow]
  obtain ⟨l⟩ := cs
  simp only at hl hel
  obtain ⟨c0, c1, c2, c3, c4, c5, c6, c7, c8, rfl⟩ := len9 hl
  match xs, hn with
  | [x0, x1, x2, x3, x4, x5, x6, x7, x8], _ =>
    simp only [List.map_cons, List.map_nil, Prod.mk.injEq, Rows.laid_jalousie_jalousieref3_kinds, DataW.agg.injEq, List.cons.injEq, and_true] at ex
    obtain ⟨⟨e0, e1, e2, e3, e4, e5, e6, e7, e8⟩, _⟩ := ex
    obtain ⟨s0, a0, b0, _⟩ := DataW.trod_int (k := .i64) Tryz.underlying3 (show DataW.trod _ Tryz.prog W 0 _ false m 3 [c0] = some x0 from hel 0 (by decide))
    simp only [List.cons.injEq, and_true] at a0; subst a0; subst b0
    simp only [DataW.lit.injEq, Lit.int.injEq, true_and] at e0
    subst e0
    obtain ⟨s1, a1, b1, _⟩ := DataW.trod_int (k := .i64) Tryz.underlying3 (show DataW.trod _ Tryz.prog W 0 _ false m 3 [c1] = some x1 from hel 1 (by decide))
    simp only [List.cons.injEq, and_true] at a1; subst a1; subst b1
    simp only [DataW.lit.injEq, Lit.int.injEq, true_and] at e1
    subst e1
    obtain ⟨s2, a2, b2, _⟩ := DataW.trod_int (k := .i64) Tryz.underlying3 (show DataW.trod _ Tryz.prog W 0 _ false m 3 [c2] = some x2 from hel 2 (by decide))
    simp only [List.cons.injEq, and_true] at a2; subst a2; subst b2
    simp only [DataW.lit.injEq, Lit.int.injEq, true_and] at e2
    subst e2
    obtain ⟨s3, a3, b3, _⟩ := DataW.trod_int (k := .i64) Tryz.underlying3 (show DataW.trod _ Tryz.prog W 0 _ false m 3 [c3] = some x3 from hel 3 (by decide))
    simp only [List.cons.injEq, and_true] at a3; subst a3; subst b3
    simp only [DataW.lit.injEq, Lit.int.injEq, true_and] at e3
    subst e3
    obtain ⟨s4, a4, b4, _⟩ := DataW.trod_int (k := .i64) Tryz.underlying3 (show DataW.trod _ Tryz.prog W 0 _ false m 3 [c4] = some x4 from hel 4 (by decide))
    simp only [List.cons.injEq, and_true] at a4; subst a4; subst b4
    simp only [DataW.lit.injEq, Lit.int.injEq, true_and] at e4
    subst e4
    obtain ⟨s5, a5, b5, _⟩ := DataW.trod_int (k := .i64) Tryz.underlying3 (show DataW.trod _ Tryz.prog W 0 _ false m 3 [c5] = some x5 from hel 5 (by decide))
    simp only [List.cons.injEq, and_true] at a5; subst a5; subst b5
    simp only [DataW.lit.injEq, Lit.int.injEq, true_and] at e5
    subst e5
    obtain ⟨s6, a6, b6, _⟩ := DataW.trod_int (k := .i64) Tryz.underlying3 (show DataW.trod _ Tryz.prog W 0 _ false m 3 [c6] = some x6 from hel 6 (by decide))
    simp only [List.cons.injEq, and_true] at a6; subst a6; subst b6
    simp only [DataW.lit.injEq, Lit.int.injEq, true_and] at e6
    subst e6
    obtain ⟨s7, a7, b7, _⟩ := DataW.trod_int (k := .i64) Tryz.underlying3 (show DataW.trod _ Tryz.prog W 0 _ false m 3 [c7] = some x7 from hel 7 (by decide))
    simp only [List.cons.injEq, and_true] at a7; subst a7; subst b7
    simp only [DataW.lit.injEq, Lit.int.injEq, true_and] at e7
    subst e7
    obtain ⟨s8, a8, b8, _⟩ := DataW.trod_int (k := .i64) Tryz.underlying3 (show DataW.trod _ Tryz.prog W 0 _ false m 3 [c8] = some x8 from hel 8 (by decide))
    simp only [List.cons.injEq, and_true] at a8; subst a8; subst b8
    simp only [DataW.lit.injEq, Lit.int.injEq, true_and] at e8
    subst e8
    rfl
end Go.Proofs.YthcaphoejplecaaGreatDoor
