/- WALKS over order and jalousieref20: which claims may be, levels, which is weaker. No condition but that numbers and texts are of their kinds. -/
import Derived.Test.YtajkfmnnokkcaaaProg
import Derived.Test.YtajkfmnnokkcaaaTail
import Derived.Test.YtajkfmnnokkcaaaOrd
import Derived.Handy
set_option linter.unusedSimpArgs false
set_option linter.unusedVariables false
namespace Go.Proofs.Ytajkfmnnokkcaaa
open Go.RowKit

set_option maxRecDepth 100000 in
set_option maxHeartbeats 1000000 in
theorem ordMay_any (x : Cl) (w : World) : Calls Try.prog 17 #[x.v] w (Gives w (.bool x.may)) := by
  obtain ⟨p, o, i, a, b, c, r, d⟩ := x
  show Calls Try.prog 17 #[.agg #[.string p, .int .i64 o, .bool i, .int .i64 a, .int .i64 b, .int .i64 c, .int .i64 r, .int .i64 d]] w _
  have i0 : ∀ w, (Instr.index 32 (.agg #[.int .i64 a, .int .i64 b, .int .i64 c]) (.int .i64 0)).run Try.prog w = .ok (.int .i64 a) w := fun _ => by kernel_rfl
  have i1 : ∀ w, (Instr.index 32 (.agg #[.int .i64 a, .int .i64 b, .int .i64 c]) (.int .i64 1)).run Try.prog w = .ok (.int .i64 b) w := fun _ => by kernel_rfl
  have i2 : ∀ w, (Instr.index 32 (.agg #[.int .i64 a, .int .i64 b, .int .i64 c]) (.int .i64 2)).run Try.prog w = .ok (.int .i64 c) w := fun _ => by kernel_rfl
  go_enter Try.func17, Try.ntmps17
  go_wp2
  go_rounds 4
  all_goals (go_ret; refine ⟨ret_bool ?_, (by repeat (first | exact grA | apply grB | apply grC | apply grD))⟩; (try simp only [ByteArray.toList_eq] at *); simp_all [Cl.may]; try omega)

set_option maxRecDepth 100000 in
set_option maxHeartbeats 1000000 in
theorem refOMay_any (x : Cl) (w : World) : Calls Try.prog 22 #[x.v] w (Gives w (.bool x.may)) := by
  obtain ⟨p, o, i, a, b, c, r, d⟩ := x
  show Calls Try.prog 22 #[.agg #[.string p, .int .i64 o, .bool i, .int .i64 a, .int .i64 b, .int .i64 c, .int .i64 r, .int .i64 d]] w _
  go_enter Try.func22, Try.ntmps22
  go_wp2
  all_goals (go_ret; refine ⟨ret_bool ?_, (by repeat (first | exact grA | apply grB | apply grC | apply grD))⟩; (try simp only [ByteArray.toList_eq] at *); simp_all [Cl.may]; try omega)

set_option maxRecDepth 100000 in
set_option maxHeartbeats 1000000 in
theorem refLevel_may (x : Cl) (w : World) (h : x.may = true) : Calls Try.prog 30 #[x.v] w (Gives w (.int .i64 x.lev)) := by
  obtain ⟨p, o, i, a, b, c, r, d⟩ := x
  have ho : 0 ≤ o ∧ o ≤ 2 := by simp only [Cl.may, Bool.and_eq_true, decide_eq_true_eq] at h; omega
  clear h
  show Calls Try.prog 30 #[.agg #[.string p, .int .i64 o, .bool i, .int .i64 a, .int .i64 b, .int .i64 c, .int .i64 r, .int .i64 d]] w _
  cases i
  all_goals
    go_enter Try.func30, Try.ntmps30
    go_wp2
    go_ret
    exact ⟨rfl, (by repeat (first | exact grA | apply grB | apply grC | apply grD))⟩

set_option maxRecDepth 100000 in
set_option maxHeartbeats 1000000 in
theorem ordLevel_any (x : Cl) (w : World) : Calls Try.prog 18 #[x.v] w (Gives w (.int .i64 x.level)) := by
  cases hm : x.may with
  | false =>
    have e : x.level = -1 := by simp [Cl.level, hm]
    rw [e]; clear e
    have hc := fun w => ordMay_any x w
    rw [hm] at hc; clear hm
    obtain ⟨p, o, i, a, b, c, r, d⟩ := x
    have HC := Lib.hid hc; clear hc
    show Calls Try.prog 18 #[.agg #[.string p, .int .i64 o, .bool i, .int .i64 a, .int .i64 b, .int .i64 c, .int .i64 r, .int .i64 d]] w _
    go_enter Try.func18, Try.ntmps18
    go_wp2_with (first | (go_at_call 17; (with_reducible refine (HC.out _).mono ?_); rintro e w1 ⟨rfl, x1, rfl⟩))
    go_ret
    exact ⟨rfl, (by repeat (first | exact grA | apply grB | apply grC | apply grD))⟩
  | true =>
    have e : x.level = x.lev := by simp [Cl.level, hm]
    rw [e]; clear e
    have ho : 0 ≤ x.o ∧ x.o ≤ 2 := by simp only [Cl.may, Bool.and_eq_true, decide_eq_true_eq] at hm; omega
    have hc := fun w => ordMay_any x w
    rw [hm] at hc; clear hm
    obtain ⟨p, o, i, a, b, c, r, d⟩ := x
    have HC := Lib.hid hc; clear hc
    show Calls Try.prog 18 #[.agg #[.string p, .int .i64 o, .bool i, .int .i64 a, .int .i64 b, .int .i64 c, .int .i64 r, .int .i64 d]] w _
    cases i
    all_goals
      go_enter Try.func18, Try.ntmps18
      go_wp2_with (first | (go_at_call 17; (with_reducible refine (HC.out _).mono ?_); rintro e w1 ⟨rfl, x1, rfl⟩))
      go_ret
      exact ⟨rfl, (by repeat (first | exact grA | apply grB | apply grC | apply grD))⟩

theorem isNaN_any (x : Int) (w : World) : Calls Try.prog 36 #[.int .i64 x] w fun e w' => e = .returned (.bool false) ∧ w = w' := by
  go_enter Try.func36, Try.ntmps36
  go_wp2
  go_ret
  exact ⟨rfl, rfl⟩

theorem cmpCompare_any (x y : Int) (w : World) : Calls Try.prog 29 #[.int .i64 x, .int .i64 y] w fun e w' => e = .returned (.int .i64 (cmpC x y)) ∧ w = w' := by
  go_enter Try.func29, Try.ntmps29
  go_wp2
  all_goals (go_ret; exact ⟨ret_int (by unfold cmpC; split <;> (try split) <;> first | rfl | omega), rfl⟩)

set_option maxRecDepth 100000 in
set_option maxHeartbeats 1000000 in
theorem cmpOr_any (k off cap : Nat) (x y : Int) (w : World) (h0 : w.cell? ⟨k, off, none⟩ = some (.int .i64 x)) (h1 : w.cell? ⟨k, off + 1, none⟩ = some (.int .i64 y)) :
    Calls Try.prog 28 #[.slice (some ⟨k, off, none⟩) 2 cap] w fun e w' => e = .returned (.int .i64 (orI x y)) ∧ w = w' := by
  go_enter Try.func28, Try.ntmps28
  go_wp2
  go_rounds 3
  all_goals (go_ret; refine ⟨ret_int ?_, rfl⟩; simp_all [orI])

set_option maxRecDepth 100000 in
set_option maxHeartbeats 2000000 in
theorem slicesCompare_any (k off cap k' off' cap' : Nat) (a b c a' b' c' : Int) (w : World) (h0 : w.cell? ⟨k, off, none⟩ = some (.int .i64 a)) (h1 : w.cell? ⟨k, off + 1, none⟩ = some (.int .i64 b)) (h2 : w.cell? ⟨k, off + 2, none⟩ = some (.int .i64 c))
    (g0 : w.cell? ⟨k', off', none⟩ = some (.int .i64 a')) (g1 : w.cell? ⟨k', off' + 1, none⟩ = some (.int .i64 b')) (g2 : w.cell? ⟨k', off' + 2, none⟩ = some (.int .i64 c')) :
    Calls Try.prog 27 #[.slice (some ⟨k, off, none⟩) 3 cap, .slice (some ⟨k', off', none⟩) 3 cap'] w fun e w' => e = .returned (.int .i64 (cmpL [a, b, c] [a', b', c'])) ∧ w = w' := by
  have hc := fun x y w => cmpCompare_any x y w
  have HC := Lib.hid hc; clear hc
  go_enter Try.func27, Try.ntmps27
  go_wp2
  refine wp_loop_rounds 4 ?_
  repeat any_goals (rw [rounds_succ]; go_wp2_with (first | (go_at_call 29; (with_reducible refine (HC.out _ _ _).mono ?_); rintro e w1 ⟨rfl, rfl⟩)))
  all_goals (go_ret; refine ⟨ret_int ?_, rfl⟩; simp_all [cmpL, orI])

set_option maxRecDepth 100000 in
theorem eqWeight (a b c a' b' c' : Int) (w : World) : (Op.equalIn 10000 32 (.agg #[.int .i64 a, .int .i64 b, .int .i64 c]) (.agg #[.int .i64 a', .int .i64 b', .int .i64 c'])).run Try.prog w = .ok (a == a' && (b == b' && c == c')) w := by
  have u3 := Try.underlying3
  have a3 := Try.isAgg3
  have z3 := Try.sizeOf3
  rw [show (10000 : Nat) = 9999 + 1 from rfl, Op.equalIn]
  simp only [Sem.run_bind, run_underlying Try.underlying32, Result.andThen_ok]
  simp only [Std.Legacy.Range.forIn_eq_forIn_range', Std.Legacy.Range.size, Nat.sub_zero, Nat.add_sub_cancel, Nat.div_one, List.range'_succ, List.range'_zero, List.forIn_cons, List.forIn_nil]
  go_simp
  by_cases h1 : a = a' <;> by_cases h2 : b = b' <;> by_cases h3 : c = c' <;> simp [h1, h2, h3]

end Go.Proofs.Ytajkfmnnokkcaaa
