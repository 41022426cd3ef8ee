/- WALKS over the document's answer: jalousieref12.Zero and One. No condition but that numbers are of their kinds. -/
import Derived.Test.YthmicnjigfcljaaMq
import Derived.Test.YthmicnjigfcljaaMn
set_option linter.unusedSimpArgs false
set_option linter.unusedVariables false
namespace Go.Proofs.Ythmicnjigfcljaa
open Go.RowKit

set_option maxRecDepth 100000 in
set_option maxHeartbeats 4000000 in
theorem refZero_any (w : World) : Calls Try.prog 27 #[] w (Gives w (.agg (formC zeroU (.slice none 0 0)).toArray)) := by
  go_enter Try.func27, Try.ntmps27
  go_wp2_with fail
  go_loopw [4] (fun v4 wr => ∃ i : Nat, i ≤ 7 ∧ v4 = .int .i64 i ∧ w.grows wr ∧ wr.row w.heap.size = some (.cells (formC (zs 0) (.slice none 0 0)).toArray 30) ∧ wr.row (w.heap.size + 1) = some (.cells (formC (zs i) (.slice none 0 0)).toArray 30)) (fun i _ => 7 - (intOf i).toNat)
  case atStart => exact ⟨0, by omega, rfl, (by repeat (with_reducible first | assumption | exact grA | apply grB | apply grC | apply grD | refine grE ?_ (by omega) _ | refine grF ?_ (by omega) _ _)), by simp [go_sem]; rfl, by simp [go_sem]; rfl⟩
  case round =>
    obtain ⟨i, hi, rfl, hg, hx, hy⟩ := hrel
    have z2 := row_sz' hy
    have hl := zs_len i
    have z1 := row_sz' hx
    by_cases hlt : i < 7
    · have hset : setL (formC (zs i) (.slice none 0 0)).toArray (i * 2) [.int .i64 0, .int .i64 1] = (formC (zs (i + 1)) (.slice none 0 0)).toArray := by
        have := formC_set (us := zs i) (v := .slice none 0 0) (i := i) (by omega) (0, 1)
        rw [zs_set hlt] at this; exact this
      have hi2 : i * 2 + 2 ≤ 15 := by omega
      have HS := Lib.hid hset; clear hset
      go_wp2_with (first | (go_at_call 56; (with_reducible refine (refIntL_any _ _).mono ?_); rintro e w1 ⟨rfl, x1, rfl⟩))
      go_roundw
      case rel => exact ⟨i + 1, by omega, by go_num, (by repeat (with_reducible first | assumption | exact grA | apply grB | apply grC | apply grD | refine grE ?_ (by omega) _ | refine grF ?_ (by omega) _ _)), by simp [go_sem, hx, hy, z1, z2], by simp [go_sem, hx, hy, z1, z2, HS.out]⟩
      case measure => simp [intOf]; omega
    · obtain rfl : i = 7 := by omega
      have e7 : zs 7 = zeroU := rfl
      rw [e7] at hy hl
      go_wp2_with (first | ((with_reducible show bodyPost _ _ _ _ _ _); exact ret_30 rfl rfl (by simp [go_sem, hx, hy, z1, z2]) rfl ⟨by simp [go_sem, hx, hy, z1, z2], (by repeat (with_reducible first | assumption | exact grA | apply grB | apply grC | apply grD | refine grE ?_ (by omega) _ | refine grF ?_ (by omega) _ _))⟩))

set_option maxRecDepth 100000 in
set_option maxHeartbeats 4000000 in
theorem refOne_any (u : Int) (a b : Int) (w : World) (wu : I64 u) (wa : I64 a) (wb : I64 b) : Calls Try.prog 33 #[.int .i64 u, .agg #[.int .i64 a, .int .i64 b]] w (Gives w (.agg (formC (oneU u (a, b)) (.slice none 0 0)).toArray)) := by
  have c1 := fun W => refClean_any a b W wa wb
  by_cases hu : 1 ≤ u ∧ u ≤ 7
  · obtain ⟨k, hk, rfl⟩ : ∃ k : Nat, k < 7 ∧ u = (k : Int) + 1 := ⟨(u - 1).toNat, by omega, by omega⟩
    have e : oneU ((k : Int) + 1) (a, b) = zeroU.set k (cleanQ (a, b)) := by
      unfold oneU; rw [if_pos (by omega)]; congr 1; omega
    rw [e]
    have hset : setL (formC zeroU (.slice none 0 0)).toArray (k * 2) [.int .i64 (cleanQ (a, b)).1, .int .i64 (cleanQ (a, b)).2] = (formC (zeroU.set k (cleanQ (a, b))) (.slice none 0 0)).toArray :=
      formC_set (us := zeroU) (v := .slice none 0 0) (i := k) (by rw [zeroU_len]; exact hk) _
    have hln : (zeroU.set k (cleanQ (a, b))).length = 7 := by rw [List.length_set]; rfl
    generalize zeroU.set k (cleanQ (a, b)) = us at *
    generalize cleanQ (a, b) = q at *
    obtain ⟨q1, q2⟩ := q
    have hi2 : k * 2 + 2 ≤ 15 := by omega
    have h7 : k < 7 := hk
    have hk1 : 1 ≤ (k : Int) + 1 := by omega
    have hk2 : (k : Int) + 1 ≤ 7 := by omega
    have C1 := Lib.hid c1; clear c1 wa wb e hu wu
    go_enter Try.func33, Try.ntmps33
    go_wp2_with (first | (go_at_call 27; (with_reducible refine (refZero_any _).mono ?_); rintro e w1 ⟨rfl, x1, rfl⟩) | (go_at_call 60; (with_reducible refine (C1.out _).mono ?_); rintro e w1 ⟨rfl, x1, rfl⟩) | ((with_reducible show bodyPost _ _ _ _ _ _); exact ret_30 rfl rfl (by simp [go_sem, hset, hln]) rfl ⟨by simp [go_sem, hset, hln], (by repeat (with_reducible first | assumption | exact grA | apply grB | apply grC | apply grD | refine grE ?_ (by omega) _ | refine grF ?_ (by omega) _ _))⟩))
  · have e : oneU u (a, b) = zeroU := by unfold oneU; rw [if_neg hu]
    rw [e]
    clear c1 wa wb e
    by_cases h1 : 1 ≤ u
    · have h2 : ¬ u ≤ 7 := by omega
      have h2' : decide (u ≤ 7) = false := by simpa using h2
      have h1' : decide (1 ≤ u) = true := by simpa using h1
      clear hu
      go_enter Try.func33, Try.ntmps33
      go_wp2_with (first | (go_at_call 27; (with_reducible refine (refZero_any _).mono ?_); rintro e w1 ⟨rfl, x1, rfl⟩) | ((with_reducible show bodyPost _ _ _ _ _ _); exact ret_30 rfl rfl (by simp [go_sem]) rfl ⟨by simp [go_sem], (by repeat (first | exact grA | apply grB | apply grC | apply grD))⟩))
      all_goals (exfalso; omega)
    · have h1' : decide (1 ≤ u) = false := by simpa using h1
      clear hu
      go_enter Try.func33, Try.ntmps33
      go_wp2_with (first | (go_at_call 27; (with_reducible refine (refZero_any _).mono ?_); rintro e w1 ⟨rfl, x1, rfl⟩) | ((with_reducible show bodyPost _ _ _ _ _ _); exact ret_30 rfl rfl (by simp [go_sem]) rfl ⟨by simp [go_sem], (by repeat (first | exact grA | apply grB | apply grC | apply grD))⟩))
      all_goals (exfalso; omega)

end Go.Proofs.Ythmicnjigfcljaa
