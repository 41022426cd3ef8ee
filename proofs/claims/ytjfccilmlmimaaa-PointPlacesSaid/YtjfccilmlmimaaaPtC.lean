/- WALKS over cond, jalousieref15, point, slices: the truth of a comparison; lines sorted by their places. No condition but that numbers are of their kinds. (printed by wip/mkcond.py) -/
import Derived.Test.YtjfccilmlmimaaaPt0
set_option linter.unusedSimpArgs false
set_option linter.unusedVariables false
namespace Go.Proofs.Ytjfccilmlmimaaa
open Go.RowKit

set_option maxRecDepth 100000 in
set_option maxHeartbeats 4000000 in
theorem condCmp_any (op a b c d : Int) (w : World) (wo : I64 op) (wa : I64 a) (wb : I64 b) (wc : I64 c) (wd : I64 d) : Calls Try.prog 38 #[.int .i64 op, .agg #[.int .i64 a, .int .i64 b], .agg #[.int .i64 c, .int .i64 d]] w (Gives w (.int .i64 (truth op a b c d))) := by
  have c1 : ∀ w, Calls Try.prog 42 #[.agg #[.int .i64 a, .int .i64 b], .agg #[.int .i64 c, .int .i64 d]] w (Gives w (.tuple #[.int .i64 (if both a b c d = true then cmpI a b c d else 0), .bool (both a b c d)])) := fun w => by
    have := ratCmp_any a b c d w wa wb wc wd
    unfold cmpV at this
    unfold both
    cases h : (sureB a b && sureB c d) <;> simpa [h] using this
  unfold truth
  generalize both a b c d = B at *
  generalize cmpI a b c d = n at *
  obtain ⟨t, ht⟩ : ∃ t, truthN op B n = t := ⟨_, rfl⟩
  rw [ht]
  unfold truthN at ht
  cases B
  · have C1 := Lib.hid c1
    clear c1
    obtain rfl : t = 1 := by rw [← ht]; simp
    clear ht
    go_enter Try.func38, Try.ntmps38
    go_wp2_with (first | (go_at_call 42; (with_reducible refine (C1.out _).mono ?_); rintro e w1 ⟨rfl, x1, rfl⟩))
    go_ret
    exact ⟨rfl, (by repeat (with_reducible first | assumption | exact grA | apply grB | apply grC | apply grD | refine grE ?_ (by omega) _ | refine grF ?_ (by omega) _ _))⟩
  · simp only [if_true] at c1
    have C1 := Lib.hid c1
    clear c1
    by_cases h0 : op < 1 ∨ 5 < op
    · obtain rfl : t = 1 := by rw [← ht, if_pos (by omega)]
      clear ht
      have HO := Lib.hid h0
      have e1 : (op == 1) = false := by simp; omega
      have e2 : (op == 2) = false := by simp; omega
      have e3 : (op == 3) = false := by simp; omega
      have e4 : (op == 4) = false := by simp; omega
      have e5 : (op == 5) = false := by simp; omega
      have q1 : ¬ op = 1 := by omega
      have q2 : ¬ op = 2 := by omega
      have q3 : ¬ op = 3 := by omega
      have q4 : ¬ op = 4 := by omega
      have q5 : ¬ op = 5 := by omega
      clear e1 e2 e3 e4 e5
      clear h0
      go_enter Try.func38, Try.ntmps38
      go_wp2_with (first | (go_at_call 42; (with_reducible refine (C1.out _).mono ?_); rintro e w1 ⟨rfl, x1, rfl⟩))
      go_ret
      exact ⟨rfl, (by repeat (with_reducible first | assumption | exact grA | apply grB | apply grC | apply grD | refine grE ?_ (by omega) _ | refine grF ?_ (by omega) _ _))⟩
    · rw [if_neg (by simp; omega)] at ht
      have h1 : op = 1 ∨ op = 2 ∨ op = 3 ∨ op = 4 ∨ op = 5 := by omega
      clear h0
      rcases h1 with rfl | rfl | rfl | rfl | rfl
      · by_cases h : n < 0
        · obtain rfl : t = 2 := by rw [← ht, if_pos (by omega)]
          clear ht
          go_enter Try.func38, Try.ntmps38
          go_wp2_with (first | (go_at_call 42; (with_reducible refine (C1.out _).mono ?_); rintro e w1 ⟨rfl, x1, rfl⟩))
          go_ret
          exact ⟨rfl, (by repeat (with_reducible first | assumption | exact grA | apply grB | apply grC | apply grD | refine grE ?_ (by omega) _ | refine grF ?_ (by omega) _ _))⟩
        · obtain rfl : t = 0 := by rw [← ht, if_neg (by omega)]
          clear ht
          go_enter Try.func38, Try.ntmps38
          go_wp2_with (first | (go_at_call 42; (with_reducible refine (C1.out _).mono ?_); rintro e w1 ⟨rfl, x1, rfl⟩))
          go_ret
          exact ⟨rfl, (by repeat (with_reducible first | assumption | exact grA | apply grB | apply grC | apply grD | refine grE ?_ (by omega) _ | refine grF ?_ (by omega) _ _))⟩
      · by_cases h : n ≤ 0
        · obtain rfl : t = 2 := by rw [← ht, if_pos (by omega)]
          clear ht
          go_enter Try.func38, Try.ntmps38
          go_wp2_with (first | (go_at_call 42; (with_reducible refine (C1.out _).mono ?_); rintro e w1 ⟨rfl, x1, rfl⟩))
          go_ret
          exact ⟨rfl, (by repeat (with_reducible first | assumption | exact grA | apply grB | apply grC | apply grD | refine grE ?_ (by omega) _ | refine grF ?_ (by omega) _ _))⟩
        · obtain rfl : t = 0 := by rw [← ht, if_neg (by omega)]
          clear ht
          go_enter Try.func38, Try.ntmps38
          go_wp2_with (first | (go_at_call 42; (with_reducible refine (C1.out _).mono ?_); rintro e w1 ⟨rfl, x1, rfl⟩))
          go_ret
          exact ⟨rfl, (by repeat (with_reducible first | assumption | exact grA | apply grB | apply grC | apply grD | refine grE ?_ (by omega) _ | refine grF ?_ (by omega) _ _))⟩
      · by_cases h : n = 0
        · obtain rfl : t = 2 := by rw [← ht, if_pos (by omega)]
          clear ht
          go_enter Try.func38, Try.ntmps38
          go_wp2_with (first | (go_at_call 42; (with_reducible refine (C1.out _).mono ?_); rintro e w1 ⟨rfl, x1, rfl⟩))
          go_ret
          exact ⟨rfl, (by repeat (with_reducible first | assumption | exact grA | apply grB | apply grC | apply grD | refine grE ?_ (by omega) _ | refine grF ?_ (by omega) _ _))⟩
        · obtain rfl : t = 0 := by rw [← ht, if_neg (by omega)]
          clear ht
          go_enter Try.func38, Try.ntmps38
          go_wp2_with (first | (go_at_call 42; (with_reducible refine (C1.out _).mono ?_); rintro e w1 ⟨rfl, x1, rfl⟩))
          go_ret
          exact ⟨rfl, (by repeat (with_reducible first | assumption | exact grA | apply grB | apply grC | apply grD | refine grE ?_ (by omega) _ | refine grF ?_ (by omega) _ _))⟩
      · by_cases h : 0 ≤ n
        · obtain rfl : t = 2 := by rw [← ht, if_pos (by omega)]
          clear ht
          go_enter Try.func38, Try.ntmps38
          go_wp2_with (first | (go_at_call 42; (with_reducible refine (C1.out _).mono ?_); rintro e w1 ⟨rfl, x1, rfl⟩))
          go_ret
          exact ⟨rfl, (by repeat (with_reducible first | assumption | exact grA | apply grB | apply grC | apply grD | refine grE ?_ (by omega) _ | refine grF ?_ (by omega) _ _))⟩
        · obtain rfl : t = 0 := by rw [← ht, if_neg (by omega)]
          clear ht
          go_enter Try.func38, Try.ntmps38
          go_wp2_with (first | (go_at_call 42; (with_reducible refine (C1.out _).mono ?_); rintro e w1 ⟨rfl, x1, rfl⟩))
          go_ret
          exact ⟨rfl, (by repeat (with_reducible first | assumption | exact grA | apply grB | apply grC | apply grD | refine grE ?_ (by omega) _ | refine grF ?_ (by omega) _ _))⟩
      · by_cases h : 0 < n
        · obtain rfl : t = 2 := by rw [← ht, if_pos (by omega)]
          clear ht
          go_enter Try.func38, Try.ntmps38
          go_wp2_with (first | (go_at_call 42; (with_reducible refine (C1.out _).mono ?_); rintro e w1 ⟨rfl, x1, rfl⟩))
          go_ret
          exact ⟨rfl, (by repeat (with_reducible first | assumption | exact grA | apply grB | apply grC | apply grD | refine grE ?_ (by omega) _ | refine grF ?_ (by omega) _ _))⟩
        · obtain rfl : t = 0 := by rw [← ht, if_neg (by omega)]
          clear ht
          go_enter Try.func38, Try.ntmps38
          go_wp2_with (first | (go_at_call 42; (with_reducible refine (C1.out _).mono ?_); rintro e w1 ⟨rfl, x1, rfl⟩))
          go_ret
          exact ⟨rfl, (by repeat (with_reducible first | assumption | exact grA | apply grB | apply grC | apply grD | refine grE ?_ (by omega) _ | refine grF ?_ (by omega) _ _))⟩

set_option maxRecDepth 100000 in
set_option maxHeartbeats 4000000 in
theorem refCond_any (op a b c d : Int) (w : World) (wo : I64 op) (wa : I64 a) (wb : I64 b) (wc : I64 c) (wd : I64 d) : Calls Try.prog 24 #[.int .i64 op, .agg #[.int .i64 a, .int .i64 b], .agg #[.int .i64 c, .int .i64 d]] w (Gives w (.int .i64 (truth op a b c d))) := by
  have c1 : ∀ w, Calls Try.prog 18 #[.agg #[.int .i64 a, .int .i64 b], .agg #[.int .i64 c, .int .i64 d]] w (Gives w (.tuple #[.int .i64 (if both a b c d = true then cmpI a b c d else 0), .bool (both a b c d)])) := fun w => by
    have := refCmp_any a b c d w wa wb wc wd
    unfold cmpV at this
    unfold both
    cases h : (sureB a b && sureB c d) <;> simpa [h] using this
  unfold truth
  generalize both a b c d = B at *
  generalize cmpI a b c d = n at *
  obtain ⟨t, ht⟩ : ∃ t, truthN op B n = t := ⟨_, rfl⟩
  rw [ht]
  unfold truthN at ht
  cases B
  · have C1 := Lib.hid c1
    clear c1
    obtain rfl : t = 1 := by rw [← ht]; simp
    clear ht
    go_enter Try.func24, Try.ntmps24
    go_wp2_with (first | (go_at_call 18; (with_reducible refine (C1.out _).mono ?_); rintro e w1 ⟨rfl, x1, rfl⟩))
    go_ret
    exact ⟨rfl, (by repeat (with_reducible first | assumption | exact grA | apply grB | apply grC | apply grD | refine grE ?_ (by omega) _ | refine grF ?_ (by omega) _ _))⟩
  · simp only [if_true] at c1
    have C1 := Lib.hid c1
    clear c1
    by_cases h0 : op < 1 ∨ 5 < op
    · obtain rfl : t = 1 := by rw [← ht, if_pos (by omega)]
      clear ht
      have HO := Lib.hid h0
      have e1 : (op == 1) = false := by simp; omega
      have e2 : (op == 2) = false := by simp; omega
      have e3 : (op == 3) = false := by simp; omega
      have e4 : (op == 4) = false := by simp; omega
      have e5 : (op == 5) = false := by simp; omega
      have q1 : ¬ op = 1 := by omega
      have q2 : ¬ op = 2 := by omega
      have q3 : ¬ op = 3 := by omega
      have q4 : ¬ op = 4 := by omega
      have q5 : ¬ op = 5 := by omega
      clear e1 e2 e3 e4 e5
      rcases h0 with h0 | h0
      · go_enter Try.func24, Try.ntmps24
        go_wp2_with (first | (go_at_call 18; (with_reducible refine (C1.out _).mono ?_); rintro e w1 ⟨rfl, x1, rfl⟩))
        go_ret
        exact ⟨rfl, (by repeat (with_reducible first | assumption | exact grA | apply grB | apply grC | apply grD | refine grE ?_ (by omega) _ | refine grF ?_ (by omega) _ _))⟩
      · have h6 : ¬ op < 1 := by omega
        go_enter Try.func24, Try.ntmps24
        go_wp2_with (first | (go_at_call 18; (with_reducible refine (C1.out _).mono ?_); rintro e w1 ⟨rfl, x1, rfl⟩))
        go_ret
        exact ⟨rfl, (by repeat (with_reducible first | assumption | exact grA | apply grB | apply grC | apply grD | refine grE ?_ (by omega) _ | refine grF ?_ (by omega) _ _))⟩
    · rw [if_neg (by simp; omega)] at ht
      have h1 : op = 1 ∨ op = 2 ∨ op = 3 ∨ op = 4 ∨ op = 5 := by omega
      clear h0
      rcases h1 with rfl | rfl | rfl | rfl | rfl
      · by_cases h : n < 0
        · obtain rfl : t = 2 := by rw [← ht, if_pos (by omega)]
          clear ht
          go_enter Try.func24, Try.ntmps24
          go_wp2_with (first | (go_at_call 18; (with_reducible refine (C1.out _).mono ?_); rintro e w1 ⟨rfl, x1, rfl⟩))
          go_ret
          exact ⟨rfl, (by repeat (with_reducible first | assumption | exact grA | apply grB | apply grC | apply grD | refine grE ?_ (by omega) _ | refine grF ?_ (by omega) _ _))⟩
        · obtain rfl : t = 0 := by rw [← ht, if_neg (by omega)]
          clear ht
          go_enter Try.func24, Try.ntmps24
          go_wp2_with (first | (go_at_call 18; (with_reducible refine (C1.out _).mono ?_); rintro e w1 ⟨rfl, x1, rfl⟩))
          go_ret
          exact ⟨rfl, (by repeat (with_reducible first | assumption | exact grA | apply grB | apply grC | apply grD | refine grE ?_ (by omega) _ | refine grF ?_ (by omega) _ _))⟩
      · by_cases h : n ≤ 0
        · obtain rfl : t = 2 := by rw [← ht, if_pos (by omega)]
          clear ht
          go_enter Try.func24, Try.ntmps24
          go_wp2_with (first | (go_at_call 18; (with_reducible refine (C1.out _).mono ?_); rintro e w1 ⟨rfl, x1, rfl⟩))
          go_ret
          exact ⟨rfl, (by repeat (with_reducible first | assumption | exact grA | apply grB | apply grC | apply grD | refine grE ?_ (by omega) _ | refine grF ?_ (by omega) _ _))⟩
        · obtain rfl : t = 0 := by rw [← ht, if_neg (by omega)]
          clear ht
          go_enter Try.func24, Try.ntmps24
          go_wp2_with (first | (go_at_call 18; (with_reducible refine (C1.out _).mono ?_); rintro e w1 ⟨rfl, x1, rfl⟩))
          go_ret
          exact ⟨rfl, (by repeat (with_reducible first | assumption | exact grA | apply grB | apply grC | apply grD | refine grE ?_ (by omega) _ | refine grF ?_ (by omega) _ _))⟩
      · by_cases h : n = 0
        · obtain rfl : t = 2 := by rw [← ht, if_pos (by omega)]
          clear ht
          go_enter Try.func24, Try.ntmps24
          go_wp2_with (first | (go_at_call 18; (with_reducible refine (C1.out _).mono ?_); rintro e w1 ⟨rfl, x1, rfl⟩))
          go_ret
          exact ⟨rfl, (by repeat (with_reducible first | assumption | exact grA | apply grB | apply grC | apply grD | refine grE ?_ (by omega) _ | refine grF ?_ (by omega) _ _))⟩
        · obtain rfl : t = 0 := by rw [← ht, if_neg (by omega)]
          clear ht
          go_enter Try.func24, Try.ntmps24
          go_wp2_with (first | (go_at_call 18; (with_reducible refine (C1.out _).mono ?_); rintro e w1 ⟨rfl, x1, rfl⟩))
          go_ret
          exact ⟨rfl, (by repeat (with_reducible first | assumption | exact grA | apply grB | apply grC | apply grD | refine grE ?_ (by omega) _ | refine grF ?_ (by omega) _ _))⟩
      · by_cases h : 0 ≤ n
        · obtain rfl : t = 2 := by rw [← ht, if_pos (by omega)]
          clear ht
          go_enter Try.func24, Try.ntmps24
          go_wp2_with (first | (go_at_call 18; (with_reducible refine (C1.out _).mono ?_); rintro e w1 ⟨rfl, x1, rfl⟩))
          go_ret
          exact ⟨rfl, (by repeat (with_reducible first | assumption | exact grA | apply grB | apply grC | apply grD | refine grE ?_ (by omega) _ | refine grF ?_ (by omega) _ _))⟩
        · obtain rfl : t = 0 := by rw [← ht, if_neg (by omega)]
          clear ht
          go_enter Try.func24, Try.ntmps24
          go_wp2_with (first | (go_at_call 18; (with_reducible refine (C1.out _).mono ?_); rintro e w1 ⟨rfl, x1, rfl⟩))
          go_ret
          exact ⟨rfl, (by repeat (with_reducible first | assumption | exact grA | apply grB | apply grC | apply grD | refine grE ?_ (by omega) _ | refine grF ?_ (by omega) _ _))⟩
      · by_cases h : 0 < n
        · obtain rfl : t = 2 := by rw [← ht, if_pos (by omega)]
          clear ht
          go_enter Try.func24, Try.ntmps24
          go_wp2_with (first | (go_at_call 18; (with_reducible refine (C1.out _).mono ?_); rintro e w1 ⟨rfl, x1, rfl⟩))
          go_ret
          exact ⟨rfl, (by repeat (with_reducible first | assumption | exact grA | apply grB | apply grC | apply grD | refine grE ?_ (by omega) _ | refine grF ?_ (by omega) _ _))⟩
        · obtain rfl : t = 0 := by rw [← ht, if_neg (by omega)]
          clear ht
          go_enter Try.func24, Try.ntmps24
          go_wp2_with (first | (go_at_call 18; (with_reducible refine (C1.out _).mono ?_); rintro e w1 ⟨rfl, x1, rfl⟩))
          go_ret
          exact ⟨rfl, (by repeat (with_reducible first | assumption | exact grA | apply grB | apply grC | apply grD | refine grE ?_ (by omega) _ | refine grF ?_ (by omega) _ _))⟩

end Go.Proofs.Ytjfccilmlmimaaa
