/- WALKS over point, cond, jalousieref15: lines in a slice; the truth of a comparison; which of two lines stands ahead. No condition but that numbers are of their kinds. -/
import Derived.Test.YtjfccilmlmimaaaEStab
import Derived.Test.YtjfccilmlmimaaaRCmp
set_option linter.unusedSimpArgs false
set_option linter.unusedVariables false
namespace Go
open Go.RowKit
/-- a line: a name, an operation, a place, a number -/
structure Ln where
  n : ByteArray
  o : Int
  p : Int
  q : Int
  i : Int
instance : Inhabited Ln := ⟨⟨ByteArray.empty, 0, 0, 1, 0⟩⟩
abbrev Ln.cs (x : Ln) : List Value := [.string x.n, .int .i64 x.o, .int .i64 x.p, .int .i64 x.q, .int .i64 x.i]
abbrev Ln.v (x : Ln) : Value := .agg #[.string x.n, .int .i64 x.o, .int .i64 x.p, .int .i64 x.q, .int .i64 x.i]
def Ln.Wf (x : Ln) : Prop := x.n.size ≤ maxLen ∧ I64 x.o ∧ I64 x.p ∧ I64 x.q ∧ I64 x.i
def LnR (x : Ln) (cs : List Value) : Prop := cs = x.cs ∧ x.Wf
def atL (l : List Ln) (i : Int) : Ln := l.getD i.toNat default
theorem atL_get {l : List Ln} {i : Nat} {x : Ln} (h : l[i]? = some x) : atL l (i : Int) = x := by
  unfold atL
  rw [Int.toNat_natCast, List.getD_eq_getElem?_getD, h]; rfl
theorem atL_all {l : List Ln} {p : Ln → Prop} (h : ∀ x ∈ l, p x) (hd : p default) (i : Int) : p (atL l i) := by
  unfold atL
  rw [List.getD_eq_getElem?_getD]
  cases e : l[i.toNat]? with
  | none => exact hd
  | some x => exact h x (List.mem_of_getElem? e)
/-- the cells of the line at a place -/
def cellsL (l : List Ln) (i : Int) : List Value := (atL l i).cs
theorem cellsL_el (l : List Ln) : ElZ 5 (cellsL l) := ⟨by omega, fun x => ⟨rfl, fun v hv => by
  simp only [cellsL, Ln.cs, List.mem_cons, List.not_mem_nil, or_false] at hv
  rcases hv with rfl | rfl | rfl | rfl | rfl <;> simp [Value.oneCell']⟩⟩
/-- the truth of a comparison: of what compares, and whether it is sure -/
def truthN (op : Int) (ok : Bool) (n : Int) : Int :=
  if ok = false ∨ op < 1 ∨ 5 < op then 1
  else if op = 1 ∧ n < 0 ∨ op = 2 ∧ n ≤ 0 ∨ op = 3 ∧ n = 0 ∨ op = 4 ∧ 0 ≤ n ∨ op = 5 ∧ 0 < n then 2 else 0
/-- two fractions are both sure -/
def both (a b c d : Int) : Bool := sureB a b && sureB c d
def truth (op a b c d : Int) : Int := truthN op (both a b c d) (cmpI a b c d)
/-- the order of lines: by place; of one place the earlier one -/
def ltP (l : List Ln) (i k : Int) : Prop := cmpI (atL l i).p (atL l i).q (atL l k).p (atL l k).q < 0 ∨ cmpI (atL l i).p (atL l i).q (atL l k).p (atL l k).q = 0 ∧ i < k
theorem cmpI_lt {a b c d : Int} : cmpI a b c d < 0 ↔ a * d < c * b := by unfold cmpI; split <;> (try split) <;> omega
theorem cmpI_eq {a b c d : Int} : cmpI a b c d = 0 ↔ a * d = c * b := by unfold cmpI; split <;> (try split) <;> omega
theorem frac_lt_trans {a b c d e f : Int} (hb : 1 ≤ b) (hd : 1 ≤ d) (hf : 1 ≤ f) (h1 : a * d ≤ c * b) (h2 : c * f ≤ e * d) : a * f ≤ e * b ∧ (a * d < c * b ∨ c * f < e * d → a * f < e * b) := by
  have k1 : a * d * f ≤ c * b * f := Int.mul_le_mul_of_nonneg_right h1 (by omega)
  have k2 : c * f * b ≤ e * d * b := Int.mul_le_mul_of_nonneg_right h2 (by omega)
  have e1 : c * b * f = c * f * b := by rw [Int.mul_assoc, Int.mul_comm b f, ← Int.mul_assoc]
  have e2 : a * d * f = a * f * d := by rw [Int.mul_assoc, Int.mul_comm d f, ← Int.mul_assoc]
  have e3 : e * d * b = e * b * d := by rw [Int.mul_assoc, Int.mul_comm d b, ← Int.mul_assoc]
  have k3 : a * f * d ≤ e * b * d := by omega
  refine ⟨Int.le_of_mul_le_mul_right k3 (by omega), fun h => ?_⟩
  have k4 : a * f * d < e * b * d := by
    rcases h with h | h
    · have : a * d * f < c * b * f := Int.mul_lt_mul_of_pos_right h (by omega)
      omega
    · have : c * f * b < e * d * b := Int.mul_lt_mul_of_pos_right h (by omega)
      omega
  exact Int.lt_of_mul_lt_mul_right k4 (by omega)
theorem ltP_trans {l : List Ln} (hl : ∀ x ∈ l, 1 ≤ x.q) : ∀ x y z, ltP l x y → ltP l y z → ltP l x z := by
  intro x y z h1 h2
  have hq := fun i => atL_all (p := fun x => 1 ≤ x.q) hl (Int.le_refl 1) i
  unfold ltP at *
  rw [cmpI_lt, cmpI_eq] at *
  obtain ⟨a, b⟩ := frac_lt_trans (hq x) (hq y) (hq z) (show (atL l x).p * (atL l y).q ≤ (atL l y).p * (atL l x).q by omega) (show (atL l y).p * (atL l z).q ≤ (atL l z).p * (atL l y).q by omega)
  omega
theorem ltP_or {l : List Ln} {x y : Int} (h : x ≠ y) : ltP l x y ∨ ltP l y x := by
  unfold ltP
  rw [cmpI_lt, cmpI_eq, cmpI_lt, cmpI_eq]
  omega
end Go
namespace Go.Proofs.Ytjfccilmlmimaaa
open Go.RowKit

set_option maxRecDepth 100000 in
set_option maxHeartbeats 2000000 in
theorem before_any (a b c d : Int) (w : World) (wa : I64 a) (wb : I64 b) (wc : I64 c) (wd : I64 d) : Calls Try.prog 28 #[.agg #[.int .i64 a, .int .i64 b], .agg #[.int .i64 c, .int .i64 d]] w (Gives w (.int .i64 (if both a b c d = true then cmpI a b c d else 0))) := by
  have c1 : ∀ w, Calls Try.prog 42 #[.agg #[.int .i64 a, .int .i64 b], .agg #[.int .i64 c, .int .i64 d]] w (Gives w (.tuple #[.int .i64 (if both a b c d = true then cmpI a b c d else 0), .bool (both a b c d)])) := fun w => by
    have := ratCmp_any a b c d w wa wb wc wd
    unfold cmpV at this
    unfold both
    cases h : (sureB a b && sureB c d) <;> simpa [h] using this
  generalize both a b c d = B at *
  generalize (if B = true then cmpI a b c d else 0) = n at *
  have C1 := Lib.hid c1
  clear c1
  go_enter Try.func28, Try.ntmps28
  go_wp2_with (first | (go_at_call 42; (with_reducible refine (C1.out _).mono ?_); rintro e w1 ⟨rfl, x1, rfl⟩))
  go_ret
  exact ⟨rfl, (by repeat (with_reducible first | assumption | exact grA | apply grB | apply grC | apply grD | refine grE ?_ (by omega) _ | refine grF ?_ (by omega) _ _))⟩
end Go.Proofs.Ytjfccilmlmimaaa
