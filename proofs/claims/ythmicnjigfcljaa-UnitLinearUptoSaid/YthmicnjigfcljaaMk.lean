/- Texts of the walk, one after the other; what each proves stands ahead of it. -/
import Derived.Test.YthmicnjigfcljaaDiv64
import Derived.Test.YthmicnjigfcljaaMa
import Derived.Test.YthmicnjigfcljaaMg
set_option linter.unusedSimpArgs false
set_option linter.unusedVariables false
/- LAWS of sizes: a block is older than another one. No condition. -/
namespace Go
@[go_sem] theorem szl_0_2_4 {a b0 b1 b2 b3 : Nat} : (a < a + 1 + 1 + b0 + b1 + b2 + b3) = True := by apply eq_true; omega
@[go_sem] theorem szl_0_2_5 {a b0 b1 b2 b3 b4 : Nat} : (a < a + 1 + 1 + b0 + b1 + b2 + b3 + b4) = True := by apply eq_true; omega
@[go_sem] theorem szl_0_2_6 {a b0 b1 b2 b3 b4 b5 : Nat} : (a < a + 1 + 1 + b0 + b1 + b2 + b3 + b4 + b5) = True := by apply eq_true; omega
@[go_sem] theorem szl_1_2_4 {a b0 b1 b2 b3 : Nat} : (a + 1 < a + 1 + 1 + b0 + b1 + b2 + b3) = True := by apply eq_true; omega
@[go_sem] theorem szl_1_2_5 {a b0 b1 b2 b3 b4 : Nat} : (a + 1 < a + 1 + 1 + b0 + b1 + b2 + b3 + b4) = True := by apply eq_true; omega
@[go_sem] theorem szl_1_2_6 {a b0 b1 b2 b3 b4 b5 : Nat} : (a + 1 < a + 1 + 1 + b0 + b1 + b2 + b3 + b4 + b5) = True := by apply eq_true; omega
@[go_sem] theorem szl_1_2_7 {a b0 b1 b2 b3 b4 b5 b6 : Nat} : (a + 1 < a + 1 + 1 + b0 + b1 + b2 + b3 + b4 + b5 + b6) = True := by apply eq_true; omega
@[go_sem] theorem szl_1_2_8 {a b0 b1 b2 b3 b4 b5 b6 b7 : Nat} : (a + 1 < a + 1 + 1 + b0 + b1 + b2 + b3 + b4 + b5 + b6 + b7) = True := by apply eq_true; omega
@[go_sem] theorem szl_1_2_9 {a b0 b1 b2 b3 b4 b5 b6 b7 b8 : Nat} : (a + 1 < a + 1 + 1 + b0 + b1 + b2 + b3 + b4 + b5 + b6 + b7 + b8) = True := by apply eq_true; omega
end Go

/- WALKS over rat: sums of two fractions. No condition but that both may be and are not over. -/
namespace Go
open Go.RowKit
theorem addLo (x y : Nat) : (((x % 18446744073709551616 + y % 18446744073709551616 + 0) % 18446744073709551616 : Nat) : Int) = loW (x + y) := by unfold loW; omega
theorem addHi {x y : Nat} (h : x + y < endW) : (((x / 18446744073709551616 + y / 18446744073709551616 + (x % 18446744073709551616 + y % 18446744073709551616 + 0) / 18446744073709551616) % 18446744073709551616 : Nat) : Int) = hiW (x + y) := by unfold hiW; unfold endW at h; omega
theorem mod_hi (h l y : Nat) : (h % y * 18446744073709551616 + l) % y = (h * 18446744073709551616 + l) % y := by
  rw [Nat.add_mod, Nat.mul_mod, Nat.mod_mod, ← Nat.mul_mod, ← Nat.add_mod]
theorem whole_split (x : Nat) : x / 18446744073709551616 * 18446744073709551616 + x % 18446744073709551616 = x := by omega
/-- the sum as the program reckons it -/
theorem addQ_prog {a b c d : Int} (h1 : sureB a b = true) (h2 : sureB c d = true) {neg : Bool} {S : Nat}
    (h : (negB a = negB c ∧ neg = negB a ∧ S = a.natAbs * (d.natAbs / Nat.gcd b.natAbs d.natAbs) + c.natAbs * (b.natAbs / Nat.gcd b.natAbs d.natAbs)) ∨
      (negB a ≠ negB c ∧ neg = negB a ∧ S = a.natAbs * (d.natAbs / Nat.gcd b.natAbs d.natAbs) - c.natAbs * (b.natAbs / Nat.gcd b.natAbs d.natAbs) ∧ c.natAbs * (b.natAbs / Nat.gcd b.natAbs d.natAbs) ≤ a.natAbs * (d.natAbs / Nat.gcd b.natAbs d.natAbs)) ∨
      (negB a ≠ negB c ∧ neg = negB c ∧ S = c.natAbs * (b.natAbs / Nat.gcd b.natAbs d.natAbs) - a.natAbs * (d.natAbs / Nat.gcd b.natAbs d.natAbs) ∧ a.natAbs * (d.natAbs / Nat.gcd b.natAbs d.natAbs) < c.natAbs * (b.natAbs / Nat.gcd b.natAbs d.natAbs))) :
    addQ (a, b) (c, d) = if S = 0 then (0, 1) else madeQ neg (S / Nat.gcd (S % Nat.gcd b.natAbs d.natAbs) (Nat.gcd b.natAbs d.natAbs)) (b.natAbs / Nat.gcd b.natAbs d.natAbs * (d.natAbs / Nat.gcd (S % Nat.gcd b.natAbs d.natAbs) (Nat.gcd b.natAbs d.natAbs))) := by
  have hb := (sureB_yes h1).1; have hd := (sureB_yes h2).1
  have hg : 0 < Nat.gcd b.natAbs d.natAbs := Nat.gcd_pos_of_pos_left _ (by omega)
  have key : addQ (a, b) (c, d) = mkQ neg (S * Nat.gcd b.natAbs d.natAbs) (b.natAbs * d.natAbs) := by
    rw [addQ_ref h1 h2]
    obtain ⟨p1, p2⟩ := plus_num (a := a.natAbs) (b := b.natAbs) (c := c.natAbs) (d := d.natAbs) (by omega)
    rw [p1, p2]
    rcases h with ⟨e1, e2, e3⟩ | ⟨e1, e2, e3, e4⟩ | ⟨e1, e2, e3, e4⟩
    · rw [if_pos e1, e2, e3, Nat.add_mul]
    · rw [if_neg e1, if_neg (by have := Nat.mul_le_mul_right (Nat.gcd b.natAbs d.natAbs) e4; omega), e2, e3, Nat.sub_mul]
    · rw [if_neg e1, if_pos (Nat.mul_lt_mul_of_pos_right e4 hg), e2, e3, Nat.sub_mul]
  rw [key]
  by_cases h0 : S = 0
  · rw [if_pos h0, h0, Nat.zero_mul, mkQ_zero _ (Nat.mul_pos (by omega) (by omega))]
  · rw [if_neg h0]
    exact plus_law (by omega) (by omega) (sure_gcd h1) (sure_gcd h2) (by
      rcases h with ⟨_, _, e⟩ | ⟨_, _, e, l⟩ | ⟨_, _, e, l⟩
      · exact .inl e
      · exact .inr (.inl ⟨e, l⟩)
      · exact .inr (.inr ⟨e, Nat.le_of_lt l⟩))
end Go
namespace Go.Proofs.Ythmicnjigfcljaa
open Go.RowKit

theorem run_add64 (x y c : Nat) (hc : c ≤ 1) (hx : x < 18446744073709551616) (hy : y < 18446744073709551616) (w : World) :
    (callFunc 117 #[.int .u64 x, .int .u64 y, .int .u64 c]).run Try.prog w =
      .ok (.value (.tuple #[.int .u64 (((x + y + c) % 18446744073709551616 : Nat) : Int), .int .u64 (((x + y + c) / 18446744073709551616 : Nat) : Int)])) w := by
  rw [run_callFunc_extern Try.func117 (by kernel_rfl) (by kernel_rfl) (by kernel_rfl) (e := add64Entry) (by kernel_rfl), Go.run_add64 x y c (by omega) (by omega) (by omega) (by omega)]
  simp only [Result.andThen]
  congr 5 <;> omega

set_option maxRecDepth 100000 in
theorem rem64_any (h l y : Nat) (hh : h < 18446744073709551616) (hl : l < 18446744073709551616) (hy0 : 0 < y) (hy : y < 18446744073709551616) (w : World) :
    Calls Try.prog 121 #[.int .u64 (h : Int), .int .u64 (l : Int), .int .u64 (y : Int)] w (Gives w (.int .u64 (((h * 18446744073709551616 + l) % y : Nat) : Int))) := by
  have c := fun w => div64_any (h % y) l y (Nat.mod_lt _ hy0) hl hy w
  rw [mod_hi] at c
  generalize (((h % y * 18446744073709551616 + l) / y : Nat) : Int) = Q at *
  generalize (((h * 18446744073709551616 + l) % y : Nat) : Int) = R at *
  have d2 : (h : Int).tmod (y : Int) = ((h % y : Nat) : Int) := (Int.ofNat_tmod h y).symm
  have w2 : IntKind.u64.wrap ((h % y : Nat) : Int) = ((h % y : Nat) : Int) := wrapN _ (Nat.lt_of_le_of_lt (Nat.mod_le _ _) hh)
  have d3 : (h : Int) % (y : Int) = ((h % y : Nat) : Int) := (Int.natCast_emod h y).symm
  obtain ⟨M, gm⟩ : ∃ v : Int, v = ((h % y : Nat) : Int) := ⟨_, rfl⟩
  rw [← gm] at c d2 w2 d3
  have e5 : (y : Int) ≠ 0 := by omega
  have b1 : 0 ≤ (h : Int) := by omega
  have b2 : (h : Int) ≤ 18446744073709551615 := by omega
  have b3 : 1 ≤ (y : Int) := by omega
  generalize (h : Int) = hI at *
  generalize (l : Int) = lI at *
  generalize (y : Int) = yI at *
  have C := Lib.hid c; clear c gm hh hl hy0 hy
  go_enter Try.func121, Try.ntmps121
  go_wp2_with (first | (go_at_call 122; (with_reducible refine (C.out _).mono ?_); rintro e w1 ⟨rfl, x1, rfl⟩))
  go_ret
  exact ⟨rfl, (by repeat (first | exact grA | apply grB | apply grC | apply grD))⟩

end Go.Proofs.Ythmicnjigfcljaa
