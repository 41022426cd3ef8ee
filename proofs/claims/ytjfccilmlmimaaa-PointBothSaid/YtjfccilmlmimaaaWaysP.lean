/- PLAIN and CONTRACTS: rising numbers put among rising ones; what an index keeps to itself. No condition. -/
import Derived.Test.YtjfccilmlmimaaaAwk24
import Derived.Test.YtjfccilmlmimaaaPtAsk
set_option linter.unusedSimpArgs false
set_option linter.unusedVariables false
namespace Go
open Go.RowKit
/-- numbers put among others, one behind the other -/
def putAll (R l : List Int) : List Int := l.foldl putL R
theorem putAll_succ {R l : List Int} {i : Nat} {x : Int} (h : l[i]? = some x) : putAll R (l.take (i + 1)) = putL (putAll R (l.take i)) x := by
  unfold putAll
  rw [List.take_add_one, h, List.foldl_append]
  rfl
theorem putAll_len (R l : List Int) : ∀ i, (putAll R (l.take i)).length ≤ R.length + i
  | 0 => by simp [putAll]
  | i + 1 => by
    have ih := putAll_len R l i
    cases h : l[i]? with
    | none =>
      rw [List.take_of_length_le (by have := List.getElem?_eq_none_iff.1 h; omega : l.length ≤ i + 1)]
      rw [List.take_of_length_le (by have := List.getElem?_eq_none_iff.1 h; omega : l.length ≤ i)] at ih
      omega
    | some x => rw [putAll_succ h]; have := putL_len (putAll R (l.take i)) x; omega
theorem putAll_up {R : List Int} (h : R.Pairwise (· < ·)) : ∀ l : List Int, (putAll R l).Pairwise (· < ·) ∧ ∀ z, z ∈ putAll R l ↔ z ∈ R ∨ z ∈ l := by
  intro l
  induction l generalizing R with
  | nil => exact ⟨h, fun z => by simp [putAll]⟩
  | cons a t ih =>
    obtain ⟨h1, h2⟩ := ih (putL_up R a h)
    refine ⟨h1, fun z => (h2 z).trans ?_⟩
    rw [putL_mem, List.mem_cons]
    constructor
    · rintro ((h | h) | h)
      · exact .inr (.inl h)
      · exact .inl h
      · exact .inr (.inr h)
    · rintro (h | h | h)
      · exact .inl (.inr h)
      · exact .inl (.inl h)
      · exact .inr h
theorem putL_in {R : List Int} (h : R.Pairwise (· < ·)) {z : Int} (hz : z ∈ R) : putL R z = R :=
  up_uniq (putL_up R z h) h fun y => by
    rw [putL_mem]
    constructor
    · rintro (rfl | h)
      · exact hz
      · exact h
    · exact .inr
theorem idsOf_app (f : Ln → Bool) (l m : List Ln) : idsOf f (l ++ m) = idsOf f l ++ idsOf f m := by simp [idsOf, List.filter_append]
theorem flipR_swap (nm : ByteArray) (a b c d : Int) : flipR nm a b c d = flipR nm c d a b := by funext x; unfold flipR; rw [flip_swap]
theorem flipR_spot (nm : ByteArray) (a b : Int) (l : List Ln) : idsOf (flipR nm a b a b) l = [] := by
  unfold idsOf
  have : l.filter (flipR nm a b a b) = [] := List.filter_eq_nil_iff.2 fun x _ => by simp [flipR, flipAt]
  rw [this]; rfl
/-- what turns on the way by a third value turns on one half of it -/
theorem way_half {nm : ByteArray} {a b c d e f z : Int} {l : List Ln} (h : z ∈ idsOf (flipR nm a b e f) l) : z ∈ idsOf (flipR nm a b c d) l ∨ z ∈ idsOf (flipR nm c d e f) l := by
  obtain ⟨x, h1, h2, h3⟩ := idsOf_mem.1 h
  simp only [flipR, flipAt, Bool.and_eq_true, decide_eq_true_eq] at h2
  by_cases hh : truth x.o a b x.p x.q = truth x.o c d x.p x.q
  · right; exact idsOf_mem.2 ⟨x, h1, by simp only [flipR, flipAt, Bool.and_eq_true, decide_eq_true_eq]; exact ⟨h2.1, fun e => h2.2 (hh.trans e)⟩, h3⟩
  · left; exact idsOf_mem.2 ⟨x, h1, by simp only [flipR, flipAt, Bool.and_eq_true, decide_eq_true_eq]; exact ⟨h2.1, hh⟩, h3⟩
/-- what is true at one value is true at the other, or turns -/
theorem true_or {nm : ByteArray} {a b c d z : Int} {l : List Ln} (h : z ∈ idsOf (trueR nm a b) l) : z ∈ idsOf (trueR nm c d) l ∨ z ∈ idsOf (flipR nm a b c d) l := by
  obtain ⟨x, h1, h2, h3⟩ := idsOf_mem.1 h
  simp only [trueR, trueAt, Bool.and_eq_true, decide_eq_true_eq] at h2
  by_cases hh : truth x.o c d x.p x.q = 2
  · left; exact idsOf_mem.2 ⟨x, h1, by simp only [trueR, trueAt, Bool.and_eq_true, decide_eq_true_eq]; exact ⟨h2.1, hh⟩, h3⟩
  · right; exact idsOf_mem.2 ⟨x, h1, by simp only [flipR, flipAt, Bool.and_eq_true, decide_eq_true_eq]; exact ⟨h2.1, fun e => hh (by rw [← e]; exact h2.2)⟩, h3⟩
/-- a slice of whole numbers that lies elsewhere than an index -/
abbrev IntsOff (ix : Nat) (w : World) (v : Value) (W : List Int) : Prop := SlAt w (fun g => g ≠ ix) 1 (fun (x : Int) cs => cs = [Value.int .i64 x]) v W
theorem IntsOff.at {ix : Nat} {w : World} {v : Value} {W : List Int} (h : IntsOff ix w v W) : IntsAt w v W := by
  obtain ⟨a, cap, h1, h2, h3, h4⟩ := h
  refine ⟨a, cap, h1, h2, h3, ?_⟩
  rcases h4 with h | ⟨g, off, e, _, h5⟩
  · exact .inl h
  · exact .inr ⟨g, off, e, trivial, h5⟩
theorem IntsFrom.off {B ix : Nat} {w : World} {v : Value} {W : List Int} (h : IntsFrom B w v W) (hB : ix < B) : IntsOff ix w v W := by
  obtain ⟨a, cap, h1, h2, h3, h4⟩ := h
  refine ⟨a, cap, h1, h2, h3, ?_⟩
  rcases h4 with h | ⟨g, off, e, h6, h5⟩
  · exact .inl h
  · exact .inr ⟨g, off, e, by omega, h5⟩
theorem IntsOff.on {w W : World} {ix : Nat} {v : Value} {l : List Int} (h : IntsOff ix w v l) (ho : On ix w W) : IntsOff ix W v l :=
  h.keep (fun g hg hl => ⟨ho.row g hg hl, hg⟩) fun _ _ _ h => h
theorem IntsOff.grow {w W : World} {ix : Nat} {v : Value} {l : List Int} (h : IntsOff ix w v l) (hg : w.grows W) : IntsOff ix W v l := h.on (On.grow (On.refl ix w) hg)
theorem ids_len (f : Ln → Bool) (l : List Ln) {r : List Int} (h : Rise r (idsOf f l)) : r.length ≤ l.length := by
  obtain ⟨h1, h2⟩ := putAll_up (R := []) (by simp) (idsOf f l)
  have e : r = putAll [] (idsOf f l) := up_uniq h.1 h1 fun z => (h.2 z).trans ((h2 z).trans (by simp)).symm
  have h3 := putAll_len [] (idsOf f l) (idsOf f l).length
  rw [List.take_length, ← e] at h3
  have h4 := idsOf_len f l l.length
  rw [List.take_length] at h4
  simp at h3
  omega
theorem On.row3 {ix b : Nat} {W w' : World} {o7 o8 o9 : Array Value × TypeId} (ho : On ix W w') (hx : b + 3 ≤ ix) (h : W.row b = some (.cells o7.1 o7.2) ∧ W.row (b + 1) = some (.cells o8.1 o8.2) ∧ W.row (b + 2) = some (.cells o9.1 o9.2)) : w'.row b = some (.cells o7.1 o7.2) ∧ w'.row (b + 1) = some (.cells o8.1 o8.2) ∧ w'.row (b + 2) = some (.cells o9.1 o9.2) :=
  ⟨(ho.row b (by omega) (row_sz' h.1).1).trans h.1, (ho.row (b + 1) (by omega) (row_sz' h.2.1).1).trans h.2.1, (ho.row (b + 2) (by omega) (row_sz' h.2.2).1).trans h.2.2⟩
end Go
namespace Go.Proofs.Ytjfccilmlmimaaa
open Go.RowKit Go.Maps
/-- an index stays where none of its blocks is written -/
theorem Idx.rows {w W : World} {ix B : Nat} {n : Int} {l : List Ln} (h : Idx w ix n B l) (hr : ∀ k, B ≤ k + 2 → k < w.heap.size → W.row k = w.row k) : Idx W ix n B l := by
  obtain ⟨b, i, D, mv, pp, h1, h2, h3, h4, h5, h6, h7, h8⟩ := h
  have hlt := h5.lt
  refine ⟨b, i, D, mv, pp, h1, h2, h3, (hr ix (by omega) (row_sz' h4).1).trans h4, ?_, h6, ⟨fun s => own_kept (h7.own s) fun g hg => ?_, h7.apart⟩, h8⟩
  · obtain ⟨es, clock, hb, F, hs, hD⟩ := h5
    exact ⟨es, clock, (hr b (by omega) hlt).trans hb, F, hs, hD⟩
  · have := (h7.own s).lt g hg
    exact hr g (by omega) this.2
theorem ixNew2_any (v : Value) (l : List Ln) (w : World) (h : SlAt w (fun _ => True) 5 LnR v l) (hN : l.length ≤ 1048576) :
    Calls Try.prog 12 #[v] w fun e w' => ∃ ix B, e = .returned (.pointer (some ⟨ix, 0, none⟩)) ∧ w.heap.size < ix ∧ w.heap.size + 2 ≤ B ∧ w.grows w' ∧ Idx w' ix 0 B l := by
  obtain ⟨a, c, e, h1, h2, h3⟩ := id h
  have := ptNew_any a c l.length l w rfl hN (by rw [← e]; exact h)
  rw [e]
  exact this.mono fun e w' ⟨q1, q2, q3⟩ => ⟨_, _, q1, by omega, by omega, q2, q3⟩
/-- what walks over several questions to one index lean on -/
structure IxC (ix B : Nat) (l : List Ln) (nm : ByteArray) : Prop where
  flips : ∀ (a b c d : Int) (W : World) (n : Int), I64 a → I64 b → I64 c → I64 d → Idx W ix n B l → 0 ≤ n → n ≤ 1000000 → Calls Try.prog 14 #[.pointer (some ⟨ix, 0, none⟩), .string nm, .agg #[.int .i64 a, .int .i64 b], .agg #[.int .i64 c, .int .i64 d]] W fun e w' => ∃ (v2 : Value) (r : List Int) (n2 : Int), e = .returned v2 ∧ On ix W w' ∧ Hid (Idx w' ix n2 B l ∧ n ≤ n2 ∧ n2 ≤ n + l.length ∧ IntsOff ix w' v2 r ∧ Rise r (idsOf (flipR nm a b c d) l))
  cross : ∀ (a b c d : Int) (W : World) (n : Int), I64 a → I64 b → I64 c → I64 d → Idx W ix n B l → 0 ≤ n → n ≤ 1000000 → Calls Try.prog 15 #[.pointer (some ⟨ix, 0, none⟩), .string nm, .agg #[.int .i64 a, .int .i64 b], .agg #[.int .i64 c, .int .i64 d]] W fun e w' => ∃ (n2 : Int), e = .returned (.bool (!(idsOf (flipR nm a b c d) l).isEmpty)) ∧ On ix W w' ∧ Hid (Idx w' ix n2 B l ∧ n ≤ n2 ∧ n2 ≤ n + l.length)
  true : ∀ (a b : Int) (W : World) (n : Int), I64 a → I64 b → Idx W ix n B l → Calls Try.prog 20 #[.pointer (some ⟨ix, 0, none⟩), .string nm, .agg #[.int .i64 a, .int .i64 b]] W fun e w' => ∃ (v2 : Value) (r : List Int), e = .returned v2 ∧ W.grows w' ∧ Hid (IntsOff ix w' v2 r ∧ Rise r (idsOf (trueR nm a b) l))
theorem ixC (ix B : Nat) (l : List Ln) (nm : ByteArray) (hw : AllWf l) (hs : nm.size ≤ maxLen) (hN : l.length ≤ 1048576) : IxC ix B l nm where
  flips := fun a b c d W n wa wb wc wd hI h0 h1 => (ixFlips_any ix B n l nm a b c d W hI hw hs wa wb wc wd hN h0 (by omega)).mono fun e w' ⟨v2, r, m, q1, q2, q3, q4, q5, q6⟩ => by
    obtain ⟨b', hx⟩ := idx_seg hI
    have := looks_len q6
    exact ⟨v2, r, _, q1, q2, Lib.hid ⟨q3, by omega, by omega, q4.off (row_sz' hx).1, q5⟩⟩
  cross := fun a b c d W n wa wb wc wd hI h0 h1 => (ixCross_any ix B n l nm a b c d W hI hw hs wa wb wc wd hN h0 (by omega)).mono fun e w' ⟨m, q1, q2, q3, q4⟩ => by
    have := looks_len q4
    exact ⟨_, q1, q2, Lib.hid ⟨q3, by omega, by omega⟩⟩
  true := fun a b W n wa wb hI => (ixTrue_any ix B n l nm a b W hI hw hs wa wb hN).mono fun e w' ⟨v2, r, q1, q2, q3, q4⟩ => by
    obtain ⟨b', hx⟩ := idx_seg hI
    exact ⟨v2, r, q1, q2, Lib.hid ⟨q3.off (row_sz' hx).1, q4⟩⟩
end Go.Proofs.Ytjfccilmlmimaaa
