/- CONTRACTS: several indexes side by side; numbers that lie behind them all. No condition. -/
import Derived.Test.YtjfccilmlmimaaaWaysP
import Derived.Test.YtjfccilmlmimaaaPutS
set_option linter.unusedSimpArgs false
set_option linter.unusedVariables false
namespace Go
open Go.RowKit
theorem IntsFrom.on {Z ix : Nat} {w W : World} {v : Value} {l : List Int} (h : IntsFrom Z w v l) (ho : On ix w W) (hx : ix < Z) : IntsFrom Z W v l :=
  h.keep (fun g hg hl => ⟨ho.row g (by omega) hl, hg⟩) fun _ _ _ h => h
theorem IntsFrom.grow {Z : Nat} {w W : World} {v : Value} {l : List Int} (h : IntsFrom Z w v l) (hg : w.grows W) : IntsFrom Z W v l := h.grows hg fun _ _ _ h => h
theorem putAll_rise {f : Ln → Bool} {l m : List Ln} {r s : List Int} (h1 : Rise r (idsOf f l)) (h2 : Rise s (idsOf f m)) : Rise (putAll r s) (idsOf f (l ++ m)) := by
  obtain ⟨q1, q2⟩ := putAll_up h1.1 s
  refine ⟨q1, fun z => (q2 z).trans ?_⟩
  rw [idsOf_app, List.mem_append, h1.2 z, h2.2 z]
end Go
namespace Go.Proofs.Ytjfccilmlmimaaa
open Go.RowKit Go.Maps
/-- what the walk over one of several indexes leans on: its numbers lie from Z on -/
structure IxZ (Z ix B : Nat) (l : List Ln) (nm : ByteArray) : Prop where
  flips : ∀ (a b c d : Int) (W : World) (n : Int), Z ≤ W.heap.size → I64 a → I64 b → I64 c → I64 d → Idx W ix n B l → 0 ≤ n → n ≤ 1000000 → Calls Try.prog 14 #[.pointer (some ⟨ix, 0, none⟩), .string nm, .agg #[.int .i64 a, .int .i64 b], .agg #[.int .i64 c, .int .i64 d]] W fun e w' => ∃ (v2 : Value) (r : List Int) (n2 : Int), e = .returned v2 ∧ On ix W w' ∧ Hid (Idx w' ix n2 B l ∧ IntsFrom Z w' v2 r ∧ Rise r (idsOf (flipR nm a b c d) l))
  true : ∀ (a b : Int) (W : World) (n : Int), Z ≤ W.heap.size → I64 a → I64 b → Idx W ix n B l → Calls Try.prog 20 #[.pointer (some ⟨ix, 0, none⟩), .string nm, .agg #[.int .i64 a, .int .i64 b]] W fun e w' => ∃ (v2 : Value) (r : List Int), e = .returned v2 ∧ W.grows w' ∧ Hid (IntsFrom Z w' v2 r ∧ Rise r (idsOf (trueR nm a b) l))
theorem ixZ (Z ix B : Nat) (l : List Ln) (nm : ByteArray) (hw : AllWf l) (hs : nm.size ≤ maxLen) (hN : l.length ≤ 1048576) : IxZ Z ix B l nm where
  flips := fun a b c d W n hZ wa wb wc wd hI h0 h1 => (ixFlips_any ix B n l nm a b c d W hI hw hs wa wb wc wd hN h0 (by omega)).mono fun e w' ⟨v2, r, m, q1, q2, q3, q4, q5, q6⟩ => ⟨v2, r, _, q1, q2, Lib.hid ⟨q3, q4.mono hZ, q5⟩⟩
  true := fun a b W n hZ wa wb hI => (ixTrue_any ix B n l nm a b W hI hw hs wa wb hN).mono fun e w' ⟨v2, r, q1, q2, q3, q4⟩ => ⟨v2, r, q1, q2, Lib.hid ⟨q3.mono hZ, q4⟩⟩
theorem putZ_any (Z : Nat) (v : Value) (W : List Int) (x : Int) (w : World) (h : IntsFrom Z w v W) (hZ : Z ≤ w.heap.size) (hN : W.length ≤ 1048576) : Calls Try.prog 22 #[v, .int .i64 x] w fun e w' => ∃ v', e = .returned v' ∧ w.grows w' ∧ IntsFrom Z w' v' (putL W x) :=
  (putS_any (fun g => Z ≤ g) v W x w h h.at hN).mono fun e w' ⟨v', q1, q2, q3⟩ => ⟨v', q1, q2, by
    obtain ⟨a, cap, h1, h2, h3, h4⟩ := q3
    refine ⟨a, cap, h1, h2, h3, ?_⟩
    rcases h4 with h | ⟨g, off, e, h6, h5⟩
    · exact .inl h
    · exact .inr ⟨g, off, e, by rcases h6 with h6 | h6 <;> omega, h5⟩⟩
end Go.Proofs.Ytjfccilmlmimaaa
