/- PLAIN ARITHMETIC: fractions in lowest terms as rational numbers: sums and products that are not over are exact. No condition; no program. -/
import Derived.Test.YthmicnjigfcljaaMg
set_option linter.unusedSimpArgs false
set_option linter.unusedVariables false
namespace Go
open Go.RowKit

def valQ (p : Int × Int) : Rat := mkRat p.1 p.2.natAbs
theorem valQ_zero : valQ (0, 1) = 0 := Rat.zero_mkRat _
theorem valQ_parts {p : Int × Int} (h : sureP p = true) : (valQ p).num = p.1 ∧ (valQ p).den = p.2.natAbs := by
  have hd := (sureB_yes h).1
  have hg := sure_gcd h
  have e : (⟨p.1, p.2.natAbs, by omega, hg⟩ : Rat) = valQ p := Rat.mk_eq_mkRat _ _ _ _
  rw [← e]; exact ⟨rfl, rfl⟩
theorem valQ_inj {p q : Int × Int} (hp : sureP p = true) (hq : sureP q = true) (h : valQ p = valQ q) : p = q := by
  have h1 := valQ_parts hp; have h2 := valQ_parts hq
  have d1 := (sureB_yes hp).1; have d2 := (sureB_yes hq).1
  rw [h] at h1
  have e2 : p.2.natAbs = q.2.natAbs := h1.2.symm.trans h2.2
  exact Prod.ext (h1.1.symm.trans h2.1) (by omega)
theorem sure_or_none {p : Int × Int} (h : mayB p.1 p.2 = true) : sureP p = true ∨ p = (0, 0) := by
  unfold mayB at h
  rw [Bool.or_eq_true, Bool.and_eq_true] at h
  rcases h with ⟨h1, h2⟩ | h
  · exact .inr (Prod.ext (by simpa using h1) (by simpa using h2))
  · exact .inl h
theorem sure_none : sureP (0, 0) = false := by decide
theorem valQ_mkQ {neg : Bool} {n d : Nat} (h : sureP (mkQ neg n d) = true) : valQ (mkQ neg n d) = mkRat (if neg then -(n : Int) else n) d := by
  by_cases hd : d = 0
  · subst hd; rw [mkQ_none, sure_none] at h; cases h
  have hg : 0 < Nat.gcd n d := Nat.gcd_pos_of_pos_right _ (by omega)
  have e1 := Nat.div_mul_cancel (Nat.gcd_dvd_left n d)
  have e2 := Nat.div_mul_cancel (Nat.gcd_dvd_right n d)
  unfold mkQ madeQ at h ⊢
  split at h
  · rw [sure_none] at h; cases h
  · rename_i hc
    rw [if_neg hc]
    show mkRat (if neg then -((n / Nat.gcd n d : Nat) : Int) else ((n / Nat.gcd n d : Nat) : Int)) (((d / Nat.gcd n d : Nat) : Int).natAbs) = _
    rw [Int.natAbs_natCast, ← Rat.mkRat_mul_right (a := Nat.gcd n d) (by omega), e2]
    congr 1
    cases neg
    · simp only [Bool.false_eq_true, if_false]; rw [← Int.natCast_mul, e1]
    · simp only [if_true]; rw [Int.neg_mul, ← Int.natCast_mul, e1]
theorem addQ_val {p q : Int × Int} (h : sureP (addQ p q) = true) : sureP p = true ∧ sureP q = true ∧ valQ (addQ p q) = valQ p + valQ q := by
  unfold addQ at h ⊢
  split at h
  · rename_i hc
    rw [if_pos hc]
    rw [Bool.and_eq_true] at hc
    refine ⟨hc.1, hc.2, ?_⟩
    have hb := (sureB_yes hc.1).1; have hd := (sureB_yes hc.2).1
    rw [valQ_mkQ h]
    unfold valQ
    rw [Rat.mkRat_add_mkRat _ _ (by omega) (by omega)]
    congr 1
    unfold numS negB
    have e1 : (q.2.natAbs : Int) = q.2 := by omega
    have e2 : (p.2.natAbs : Int) = p.2 := by omega
    rw [e1, e2]
    generalize p.1 * q.2 + q.1 * p.2 = s
    by_cases hs : s < 0
    · rw [if_pos (by simpa using hs)]; omega
    · rw [if_neg (by simpa using hs)]; omega
  · rw [sure_none] at h; cases h
theorem mulQ_val {p q : Int × Int} (h : sureP (mulQ p q) = true) : sureP p = true ∧ sureP q = true ∧ valQ (mulQ p q) = valQ p * valQ q := by
  unfold mulQ at h ⊢
  split at h
  · rename_i hc
    rw [if_pos hc]
    rw [Bool.and_eq_true] at hc
    refine ⟨hc.1, hc.2, ?_⟩
    rw [valQ_mkQ h]
    unfold valQ
    rw [Rat.mkRat_mul_mkRat]
    congr 1
    unfold negB
    rw [Int.natCast_mul]
    by_cases h1 : p.1 < 0 <;> by_cases h2 : q.1 < 0
    · have e1 : (p.1.natAbs : Int) = -p.1 := by omega
      have e2 : (q.1.natAbs : Int) = -q.1 := by omega
      simp [h1, h2, e1, e2, Int.neg_mul, Int.mul_neg]
    · have e1 : (p.1.natAbs : Int) = -p.1 := by omega
      have e2 : (q.1.natAbs : Int) = q.1 := by omega
      simp [h1, h2, e1, e2, Int.neg_mul, Int.mul_neg]
    · have e1 : (p.1.natAbs : Int) = p.1 := by omega
      have e2 : (q.1.natAbs : Int) = -q.1 := by omega
      simp [h1, h2, e1, e2, Int.neg_mul, Int.mul_neg]
    · have e1 : (p.1.natAbs : Int) = p.1 := by omega
      have e2 : (q.1.natAbs : Int) = q.1 := by omega
      simp [h1, h2, e1, e2, Int.neg_mul, Int.mul_neg]
  · rw [sure_none] at h; cases h
/-- a sum of rational numbers -/
def sumR : List Rat → Rat
  | [] => 0
  | x :: l => x + sumR l
theorem sumR_append : ∀ (l m : List Rat), sumR (l ++ m) = sumR l + sumR m
  | [], m => (Rat.zero_add _).symm
  | x :: l, m => by
    show x + sumR (l ++ m) = x + sumR l + sumR m
    rw [sumR_append l m, Rat.add_assoc]
theorem goAdd_val : ∀ (l : List (Int × Int)) (out : Int × Int), sureP (goQ addQ out l) = true → sureP out = true ∧ (∀ p ∈ l, sureP p = true) ∧ valQ (goQ addQ out l) = valQ out + sumR (l.map valQ)
  | [], out, h => ⟨h, fun _ hp => (List.not_mem_nil hp).elim, (Rat.add_zero _).symm⟩
  | r :: l, out, h => by
    have e : goQ addQ out (r :: l) = if (sureP out && sureP r) = true then goQ addQ (addQ out r) l else (0, 0) := rfl
    rw [e] at h ⊢
    split at h
    · rename_i hc
      rw [if_pos hc]
      rw [Bool.and_eq_true] at hc
      obtain ⟨h1, h2, h3⟩ := goAdd_val l _ h
      obtain ⟨_, _, h4⟩ := addQ_val h1
      refine ⟨hc.1, fun p hp => ?_, ?_⟩
      · rcases List.mem_cons.1 hp with rfl | hp
        · exact hc.2
        · exact h2 p hp
      · rw [h3, h4, Rat.add_assoc]; rfl
    · rw [sure_none] at h; cases h
theorem foldAdd_val {l : List (Int × Int)} (h : sureP (foldQ (0, 1) addQ l) = true) : (∀ p ∈ l, sureP p = true) ∧ valQ (foldQ (0, 1) addQ l) = sumR (l.map valQ) := by
  cases l with
  | nil => exact ⟨fun _ hp => (List.not_mem_nil hp).elim, valQ_zero⟩
  | cons p l =>
    have e : foldQ (0, 1) addQ (p :: l) = if sureP p = true then goQ addQ p l else (0, 0) := rfl
    rw [e] at h ⊢
    split at h
    · rename_i hc
      rw [if_pos hc]
      obtain ⟨_, h2, h3⟩ := goAdd_val l _ h
      refine ⟨fun q hq => ?_, h3⟩
      rcases List.mem_cons.1 hq with rfl | hq
      · exact hc
      · exact h2 q hq
    · rw [sure_none] at h; cases h
/-- the product of two, as a fold -/
theorem foldMul_val {p q : Int × Int} (h : sureP (foldQ (1, 1) mulQ [p, q]) = true) : sureP p = true ∧ sureP q = true ∧ valQ (foldQ (1, 1) mulQ [p, q]) = valQ p * valQ q := by
  have e : foldQ (1, 1) mulQ [p, q] = if sureP p = true then (if (sureP p && sureP q) = true then mulQ p q else (0, 0)) else (0, 0) := rfl
  rw [e] at h ⊢
  split at h
  · rename_i hc
    rw [if_pos hc]
    split at h
    · rename_i hc2
      rw [if_pos hc2]
      exact mulQ_val h
    · rw [sure_none] at h; cases h
  · rw [sure_none] at h; cases h
end Go
