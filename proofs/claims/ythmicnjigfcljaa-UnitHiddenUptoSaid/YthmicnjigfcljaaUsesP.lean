/- PLAIN: which units a form uses, as bits; a form in px does not change with a unit that it does not use. No condition; no program. -/
import Derived.Test.YthmicnjigfcljaaMo
import Derived.Test.YthmicnjigfcljaaFmC
import Derived.Test.YthmicnjigfcljaaSize
set_option linter.unusedSimpArgs false
set_option linter.unusedVariables false
namespace Go
open Go.RowKit

/-- the first n units' bits -/
def mskU (us : List (Int × Int)) : Nat → Nat
  | 0 => 0
  | n + 1 => if uGet us n = (0, 1) then mskU us n else mskU us n ||| 2 ^ (n + 1)
mutual
def usF : Fm → Nat
  | .mk us ps => mskU us 7 ||| usP ps
def usP : List (Bool × List Fm) → Nat
  | [] => 0
  | p :: ps => usQ p ||| usP ps
def usQ : Bool × List Fm → Nat
  | (_, l) => usL l
def usL : List Fm → Nat
  | [] => 0
  | f :: l => usF f ||| usL l
end
theorem mskU_lt (us : List (Int × Int)) : ∀ n, n ≤ 7 → mskU us n < 256
  | 0, _ => by show (0 : Nat) < 256; omega
  | n + 1, h => by
    have := mskU_lt us n (by omega)
    unfold mskU
    split
    · exact this
    · exact Nat.or_lt_two_pow (n := 8) this (Nat.pow_lt_pow_right (by omega) (by omega))
theorem or8 {a b : Nat} (ha : a < 256) (hb : b < 256) : a ||| b < 256 := Nat.or_lt_two_pow (n := 8) ha hb
mutual
theorem usF_lt : ∀ f, usF f < 256
  | .mk us ps => by rw [usF]; exact or8 (mskU_lt us 7 (by omega)) (usP_lt ps)
theorem usP_lt : ∀ ps, usP ps < 256
  | [] => by rw [usP]; decide
  | p :: ps => by rw [usP]; exact or8 (usQ_lt p) (usP_lt ps)
theorem usQ_lt : ∀ p, usQ p < 256
  | (b, l) => by rw [usQ]; exact usL_lt l
theorem usL_lt : ∀ l, usL l < 256
  | [] => by rw [usL]; decide
  | f :: l => by rw [usL]; exact or8 (usF_lt f) (usL_lt l)
end
theorem usP_snoc (p : Bool × List Fm) : ∀ ps, usP (ps ++ [p]) = usP ps ||| usQ p
  | [] => by rw [List.nil_append, usP]; show usQ p ||| usP [] = usP [] ||| usQ p; rw [usP, Nat.or_zero, Nat.zero_or]
  | q :: ps => by rw [List.cons_append, usP, usP, usP_snoc p ps, Nat.or_assoc]
theorem usL_snoc (f : Fm) : ∀ l, usL (l ++ [f]) = usL l ||| usF f
  | [] => by rw [List.nil_append, usL]; show usF f ||| usL [] = usL [] ||| usF f; rw [usL, Nat.or_zero, Nat.zero_or]
  | g :: l => by rw [List.cons_append, usL, usL, usL_snoc f l, Nat.or_assoc]
theorem bits_or_nat {a b : Nat} (ha : a < 256) (hb : b < 256) : bits .or .i64 (a : Int) (b : Int) = ((a ||| b : Nat) : Int) := by
  have h := or8 ha hb
  have e1 : (BitVec.ofInt 64 (a : Int)).toNat = a := by rw [BitVec.ofInt_natCast, BitVec.toNat_ofNat, Nat.mod_eq_of_lt (by omega)]
  have e2 : (BitVec.ofInt 64 (b : Int)).toNat = b := by rw [BitVec.ofInt_natCast, BitVec.toNat_ofNat, Nat.mod_eq_of_lt (by omega)]
  show IntKind.wrap .i64 (((BitVec.ofInt 64 (a : Int) ||| BitVec.ofInt 64 (b : Int)).toNat : Nat) : Int) = _
  rw [BitVec.toNat_or, e1, e2]
  generalize a ||| b = c at *
  simp [IntKind.wrap, IntKind.signed, IntKind.bits]
  omega
theorem wrap_pow8 {i : Nat} (hi : i < 7) : wrap64 (2 ^ (i + 1)) = ((2 ^ (i + 1) : Nat) : Int) := by
  have h : ∀ (i : Fin 7), wrap64 (2 ^ (i.val + 1)) = ((2 ^ (i.val + 1) : Nat) : Int) := by decide +kernel
  exact h ⟨i, hi⟩

/-- a bit of the whole comes of one of its parts -/
theorem mskU_bit {us : List (Int × Int)} : ∀ {n i : Nat}, i < n → ¬ uGet us i = (0, 1) → (mskU us n).testBit (i + 1) = true
  | n + 1, i, hi, h => by
    unfold mskU
    by_cases hin : i = n
    · subst hin
      rw [if_neg h, Nat.testBit_or, Nat.testBit_two_pow_self, Bool.or_true]
    · have := mskU_bit (us := us) (n := n) (i := i) (by omega) h
      split
      · exact this
      · rw [Nat.testBit_or, this, Bool.true_or]
/-- two readings of the units that agree on what is used -/
def AgreeU (sz sz' : Int → Int × Int) (m : Nat) : Prop := ∀ i, i < 7 → m.testBit (i + 1) = true → sz ((i : Int) + 1) = sz' ((i : Int) + 1)
theorem AgreeU.left {sz sz' : Int → Int × Int} {a b : Nat} (h : AgreeU sz sz' (a ||| b)) : AgreeU sz sz' a := fun i hi hb => h i hi (by rw [Nat.testBit_or, hb, Bool.true_or])
theorem AgreeU.right {sz sz' : Int → Int × Int} {a b : Nat} (h : AgreeU sz sz' (a ||| b)) : AgreeU sz sz' b := fun i hi hb => h i hi (by rw [Nat.testBit_or, hb, Bool.or_true])
theorem usPx_agree {sz sz' : Int → Int × Int} {us : List (Int × Int)} (h : AgreeU sz sz' (mskU us 7)) : usPx sz us = usPx sz' us := by
  unfold usPx
  refine List.map_congr_left fun i hi => ?_
  obtain ⟨h1, h2⟩ := List.mem_filter.1 hi
  have hi7 := List.mem_range.1 h1
  rw [h i hi7 (mskU_bit hi7 (by simpa using h2))]
mutual
theorem pxF_agree {sz sz' : Int → Int × Int} : ∀ f, AgreeU sz sz' (usF f) → pxF sz f = pxF sz' f
  | .mk us ps, h => by
    rw [usF] at h
    rw [pxF, pxF, usPx_agree h.left, pxP_agree ps h.right]
theorem pxP_agree {sz sz' : Int → Int × Int} : ∀ ps, AgreeU sz sz' (usP ps) → pxP sz ps = pxP sz' ps
  | [], _ => by rw [pxP, pxP]
  | p :: ps, h => by
    rw [usP] at h
    rw [pxP, pxP, pxQ_agree p h.left, pxP_agree ps h.right]
theorem pxQ_agree {sz sz' : Int → Int × Int} : ∀ p, AgreeU sz sz' (usQ p) → pxQ sz p = pxQ sz' p
  | (b, l), h => by
    rw [usQ] at h
    rw [pxQ, pxQ, pxL_agree l h]
theorem pxL_agree {sz sz' : Int → Int × Int} : ∀ l, AgreeU sz sz' (usL l) → pxL sz l = pxL sz' l
  | [], _ => by rw [pxL, pxL]
  | f :: l, h => by
    rw [usL] at h
    rw [pxL, pxL, pxF_agree f h.left, pxL_agree l h.right]
end
/-- the context of which what is used is the one's, and the rest the other's -/
def mixC (m : Nat) (c d : Cx) : Cx := ⟨if m.testBit 2 then c.f else d.f, if m.testBit 3 then c.r else d.r, if m.testBit 4 then c.v else d.v, if m.testBit 5 then c.h else d.h, if m.testBit 6 then c.c else d.c, if m.testBit 7 then c.d else d.d⟩
theorem mixC_agree (m : Nat) (c d : Cx) : AgreeU (sizeQ c) (sizeQ (mixC m c d)) m := by
  intro i hi hb
  rcases (by omega : i = 0 ∨ i = 1 ∨ i = 2 ∨ i = 3 ∨ i = 4 ∨ i = 5 ∨ i = 6) with rfl | rfl | rfl | rfl | rfl | rfl | rfl
  · rfl
  · show cleanQ c.f = cleanQ (if m.testBit 2 then c.f else d.f); rw [if_pos hb]
  · show cleanQ c.r = cleanQ (if m.testBit 3 then c.r else d.r); rw [if_pos hb]
  · show hunQ c.v = hunQ (if m.testBit 4 then c.v else d.v); rw [if_pos hb]
  · show hunQ c.h = hunQ (if m.testBit 5 then c.h else d.h); rw [if_pos hb]
  · show hunQ c.c = hunQ (if m.testBit 6 then c.c else d.c); rw [if_pos hb]
  · show hunQ c.d = hunQ (if m.testBit 7 then c.d else d.d); rw [if_pos hb]
theorem mixC_bd {m : Nat} {c d : Cx} (hc : c.bd) (hd : d.bd) : (mixC m c d).bd := by
  obtain ⟨h1, h2, h3, h4, h5, h6⟩ := hc
  obtain ⟨k1, k2, k3, k4, k5, k6⟩ := hd
  have pick : ∀ {b : Bool} {p q : Int × Int}, I64p p → I64p q → I64p (if b then p else q) := fun hp hq => by split <;> assumption
  exact ⟨pick h1 k1, pick h2 k2, pick h3 k3, pick h4 k4, pick h5 k5, pick h6 k6⟩
end Go
