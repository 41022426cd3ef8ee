/- PLAIN: claims of the cascade: which may be, their levels, which of two is weaker. No condition; no program. -/
import Derived.IntWalk
import Derived.Test.YtajkfmnnokkcaaaKit
set_option linter.unusedSimpArgs false
set_option linter.unusedVariables false
namespace Go

structure Cl where
  p : ByteArray
  o : Int
  i : Bool
  a : Int
  b : Int
  c : Int
  r : Int
  d : Int

def Cl.Wf (x : Cl) : Prop := x.p.size ≤ maxLen ∧ I64 x.o ∧ I64 x.a ∧ I64 x.b ∧ I64 x.c ∧ I64 x.r ∧ I64 x.d
abbrev Cl.v (x : Cl) : Value := .agg #[.string x.p, .int .i64 x.o, .bool x.i, .int .i64 x.a, .int .i64 x.b, .int .i64 x.c, .int .i64 x.r, .int .i64 x.d]

/-- may it be? -/
def Cl.may (x : Cl) : Bool := (decide (0 ≤ x.a) && decide (0 ≤ x.b) && decide (0 ≤ x.c)) && ((((!x.p.data.toList.isEmpty && decide (0 ≤ x.o)) && decide (x.o ≤ 2)) && decide (0 ≤ x.r)) && decide (0 ≤ x.d))
/-- the level of one that may be -/
def Cl.lev (x : Cl) : Int := if x.i then 5 - x.o else x.o
/-- the program's level -/
def Cl.level (x : Cl) : Int := if x.may then x.lev else -1

def cmpC (x y : Int) : Int := if x < y then -1 else if y < x then 1 else 0
def orI (x y : Int) : Int := if x ≠ 0 then x else y
/-- the first difference of two rows -/
def cmpL : List Int → List Int → Int
  | x :: l, y :: m => orI (cmpC x y) (cmpL l m)
  | [], [] => 0
  | [], _ => -1
  | _, [] => 1
/-- the program's way -/
def Cl.against (x y : Cl) : Int := if x.level - y.level ≠ 0 then x.level - y.level else if ¬ (x.a = y.a ∧ x.b = y.b ∧ x.c = y.c) then cmpL [x.a, x.b, x.c] [y.a, y.b, y.c] else orI (cmpC x.r y.r) (cmpC x.d y.d)
/-- weaker, where both may be: the reference's way -/
def Cl.weak (x y : Cl) : Bool := decide (cmpL [x.lev, x.a, x.b, x.c, x.r, x.d] [y.lev, y.a, y.b, y.c, y.r, y.d] < 0)

theorem orI_neg (x y : Int) : orI x y < 0 ↔ x < 0 ∨ x = 0 ∧ y < 0 := by unfold orI; split <;> omega
theorem orI_zero (x y : Int) : orI x y = 0 ↔ x = 0 ∧ y = 0 := by unfold orI; split <;> omega
theorem cmpC_neg (x y : Int) : cmpC x y < 0 ↔ x < y := by unfold cmpC; split <;> (try split) <;> omega
theorem cmpC_zero (x y : Int) : cmpC x y = 0 ↔ x = y := by unfold cmpC; split <;> (try split) <;> omega
theorem cmpL_all : ∀ (l m : List Int), l.length = m.length → (∀ i, i < l.length → l.getD i 0 = m.getD i 0) → cmpL l m = 0
  | [], [], _, _ => rfl
  | x :: l, y :: m, h, e => by
    have e0 := e 0 (by simp)
    simp only [List.getD_cons_zero] at e0
    simp only [cmpL, orI_zero, cmpC_zero]
    exact ⟨e0, cmpL_all l m (by simpa using h) fun i hi => by simpa using e (i + 1) (by simpa using hi)⟩
theorem cmpL_at : ∀ (l m : List Int) (k : Nat), l.length = m.length → k < l.length → (∀ i, i < k → l.getD i 0 = m.getD i 0) → l.getD k 0 ≠ m.getD k 0 → (cmpL l m < 0 ↔ l.getD k 0 < m.getD k 0)
  | [], _, _, _, hk, _, _ => by simp at hk
  | _ :: _, [], _, h, _, _, _ => by simp at h
  | x :: l, y :: m, 0, _, _, _, hne => by
    simp only [List.getD_cons_zero] at hne ⊢
    simp only [cmpL, orI_neg, cmpC_neg, cmpC_zero]; omega
  | x :: l, y :: m, k + 1, h, hk, e, hne => by
    have e0 := e 0 (by omega)
    simp only [List.getD_cons_zero] at e0
    have ih := cmpL_at l m k (by simpa using h) (by simpa using hk) (fun i hi => by simpa using e (i + 1) (by omega)) (by simpa using hne)
    simp only [cmpL, orI_neg, cmpC_neg, cmpC_zero, List.getD_cons_succ]
    rw [ih]; omega
theorem against_weak (x y : Cl) (hx : x.may = true) (hy : y.may = true) : decide (x.against y < 0) = x.weak y := by
  unfold Cl.against Cl.weak Cl.level
  simp only [hx, hy, if_true, cmpL, decide_eq_decide, orI_neg, cmpC_neg, cmpC_zero]
  split
  · omega
  · split
    · simp only [orI_neg, cmpC_neg, cmpC_zero]; omega
    · simp only [orI_neg, cmpC_neg, cmpC_zero]; omega

theorem level_bd (x : Cl) : -1 ≤ x.level ∧ x.level ≤ 5 := by
  unfold Cl.level Cl.lev Cl.may
  split
  · rename_i h; simp only [Bool.and_eq_true, decide_eq_true_eq] at h; split <;> omega
  · omega

end Go
