/- Texts of the walk, one after the other; what each proves stands ahead of it. -/
import Derived.Test.YthmicnjigfcljaaMc
import Derived.Test.YthmicnjigfcljaaMh
set_option linter.unusedSimpArgs false
set_option linter.unusedVariables false
/- WALKS over the document's answer: which expressions may be. No condition but that the expression stands in memory. (printed by wip/mkrefmay.py) -/
namespace Go.Proofs.Ythmicnjigfcljaa
open Go.RowKit

/-- what jalousieref11.may is to answer of every expression of this depth -/
def RMayIH (m : Nat) : Prop := ∀ (t : Ex) (cs : List Value) (left : Nat) (w : World), ExAt w m t cs → left ≤ 340 →
    Calls Try.prog 85 #[.agg cs.toArray, .int .i64 (left : Int)] w (Gives w (.bool (mayE m left t)))

set_option maxRecDepth 100000 in
set_option maxHeartbeats 4000000 in
theorem refMay_one (n d u : Int) (kids : List Ex) (a : Option Addr) (cap left : Nat) (w : World) (wn : I64 n) (wd : I64 d) (wu : I64 u) (hlc : kids.length ≤ cap) (hc : cap ≤ 9223372036854775807) (hd1 : 1 ≤ left) (hd2 : left ≤ 340) :
    Calls Try.prog 85 #[.agg #[.int .i64 1, .int .i64 n, .int .i64 d, .int .i64 u, .slice a kids.length cap], .int .i64 (left : Int)] w (Gives w (.bool (decide (kids.length = 0) && (mayB n d && (decide (0 ≤ u) && decide (u ≤ 7)))))) := by
  have t0 : (left == 0) = false := by simp; omega
  have t0' : ((left : Int) == 0) = false := by rw [beq_eq_false_iff_ne]; omega
  have c1 := fun w => refMay_any n d w wn.1 wn.2 wd.1 wd.2
  generalize mayB n d = B at *
  have C1 := Lib.hid c1; clear c1
  by_cases hl : kids.length = 0
  · rw [hl]
    have hl' : (kids.length == 0) = true := by simpa using hl
    clear hl hlc
    cases B
    · simp only [decide_true, Bool.true_and, Bool.false_and]
      generalize kids.length = len at *
      go_enter Try.func85, Try.ntmps85
      go_wp2_with (first | (go_at_call 90; (with_reducible refine (C1.out _).mono ?_); rintro e w1 ⟨rfl, x1, rfl⟩))
      all_goals (go_ret; exact ⟨ret_bool (by simp_all), (by repeat (first | exact grA | apply grB | apply grC | apply grD))⟩)
    · simp only [decide_true, Bool.true_and]
      generalize kids.length = len at *
      by_cases u1 : 0 ≤ u
      · by_cases u2 : u ≤ 7
        · go_enter Try.func85, Try.ntmps85
          go_wp2_with (first | (go_at_call 90; (with_reducible refine (C1.out _).mono ?_); rintro e w1 ⟨rfl, x1, rfl⟩))
          all_goals (go_ret; exact ⟨ret_bool (by first | rfl | (simp_all; done) | (simp_all; intros; omega)), (by repeat (first | exact grA | apply grB | apply grC | apply grD))⟩)
        · have u2' : decide (u ≤ 7) = false := by simpa using u2
          rw [u2', Bool.and_false]
          clear u2'
          go_enter Try.func85, Try.ntmps85
          go_wp2_with (first | (go_at_call 90; (with_reducible refine (C1.out _).mono ?_); rintro e w1 ⟨rfl, x1, rfl⟩))
          all_goals (go_ret; exact ⟨ret_bool (by first | rfl | (simp_all; done) | (simp_all; intros; omega)), (by repeat (first | exact grA | apply grB | apply grC | apply grD))⟩)
      · have u1' : decide (0 ≤ u) = false := by simpa using u1
        rw [u1', Bool.false_and]
        clear u1'
        go_enter Try.func85, Try.ntmps85
        go_wp2_with (first | (go_at_call 90; (with_reducible refine (C1.out _).mono ?_); rintro e w1 ⟨rfl, x1, rfl⟩))
        all_goals (go_ret; exact ⟨ret_bool (by first | rfl | (simp_all; done) | (simp_all; intros; omega)), (by repeat (first | exact grA | apply grB | apply grC | apply grD))⟩)
  · have hl' : (kids.length == 0) = false := by simpa using hl
    have e : decide (kids.length = 0) = false := by simpa using hl
    rw [e]; simp only [Bool.false_and]
    clear hl e
    go_enter Try.func85, Try.ntmps85
    go_wp2_with (first | (go_at_call 90; (with_reducible refine (C1.out _).mono ?_); rintro e w1 ⟨rfl, x1, rfl⟩))
    all_goals (go_ret; exact ⟨ret_bool (by first | rfl | (simp_all; done)), (by repeat (first | exact grA | apply grB | apply grC | apply grD))⟩)

set_option maxRecDepth 100000 in
set_option maxHeartbeats 4000000 in
theorem refMay_k2 (m : Nat) (IH0 : RMayIH m) (kids : List Ex) (a : Option Addr) (cap left : Nat) (w : World) (hlc : kids.length ≤ cap) (hc : cap ≤ 9223372036854775807) (hkids : KidsAt w m kids a) (hd1 : 1 ≤ left) (hd2 : left ≤ 340) (hok : lenOk 2 kids.length = true) :
    Calls Try.prog 85 #[.agg #[.int .i64 2, .int .i64 0, .int .i64 0, .int .i64 0, .slice a kids.length cap], .int .i64 (left : Int)] w (Gives w (.bool (kids.all (mayE m (left - 1))))) := by
  have t0 : (left == 0) = false := by simp; omega
  have t0' : ((left : Int) == 0) = false := by rw [beq_eq_false_iff_ne]; omega
  have hok' : 1 ≤ kids.length := by simpa [lenOk] using hok
  have l0 : (kids.length == 0) = false := beq_eq_false_iff_ne.mpr (by omega)
  have l0' : ((kids.length : Int) == 0) = false := by rw [beq_eq_false_iff_ne]; omega
  clear hok hok'
  have IH := Lib.hid IH0; clear IH0
  have HK := Lib.hid hkids; clear hkids
  generalize hres : kids.all (mayE m (left - 1)) = res at *
  have HRES := Lib.hid hres; clear hres
  go_enter Try.func85, Try.ntmps85
  go_wp2_with fail
  go_loopw [82] (fun s82 wr => ∃ (i : Nat), i ≤ kids.length ∧ s82 = .int .i64 i ∧ Hid (((kids.drop i).all (mayE m (left - 1))) = res) ∧ w.grows wr ∧ wr.row w.heap.size = some (.cells #[.int .i64 2, .int .i64 0, .int .i64 0, .int .i64 0, .slice a kids.length cap] 26)) (fun i _ => kids.length - (intOf i).toNat)
  case atStart => exact ⟨0, Nat.zero_le _, rfl, HRES.out, (by repeat (with_reducible first | assumption | exact grA | apply grB | apply grC | apply grD | refine grE ?_ (by omega) _ | refine grF ?_ (by omega) _ _)), by simp [go_sem]⟩
  case round =>
    obtain ⟨i, hi, rfl, HB, hg, hx⟩ := hrel
    have z1 := row_sz' hx
    by_cases hlt : i < kids.length
    · rcases HK.out with h | ⟨g, off, rfl, hcell⟩
      · rw [h] at hlt; cases hlt
      obtain ⟨cs', hel, hex⟩ := hcell i kids[i] (by simp [hlt])
      have hl5 := ExAt_len hex
      have he := hel.grows hg
      unfold eltAt at he
      rw [hl5] at he
      have zr := lt_sz (hel.grows hg).lt
      have e3 : segOk (off + i * 5) 5 (wr.row g) = true := he.1
      have e4 : segV (off + i * 5) 5 (wr.row g) = .agg cs'.toArray := he.2
      have c1 := fun W (hW : w.grows W) => IH.out kids[i] cs' (left - 1) W (hex.grows hW) (by omega)
      rw [show ((left - 1 : Nat) : Int) = (left : Int) - 1 by omega] at c1
      have hB := HB.out
      rw [all_drop _ hlt] at hB
      obtain ⟨v0, v1, v2, v3, va, vl, vc, rfl⟩ := ExAt_vals hex
      generalize mayE m (left - 1) kids[i] = B at *
      have C1 := Lib.hid c1; clear c1 HB HRES hel he hex hl5 hcell IH HK
      cases B
      · rw [Bool.false_and] at hB; subst hB
        go_wp2_with (first | (go_at_call 85; (with_reducible refine (C1.out _ (by repeat (with_reducible first | assumption | exact grA | apply grB | apply grC | apply grD | refine grE ?_ (by omega) _ | refine grF ?_ (by omega) _ _))).mono ?_); rintro e w1 ⟨rfl, x1, rfl⟩))
        go_ret
        exact ⟨rfl, (by repeat (with_reducible first | assumption | exact grA | apply grB | apply grC | apply grD | refine grE ?_ (by omega) _ | refine grF ?_ (by omega) _ _))⟩
      · rw [Bool.true_and] at hB
        have HB' := Lib.hid hB; clear hB
        go_wp2_with (first | (go_at_call 85; (with_reducible refine (C1.out _ (by repeat (with_reducible first | assumption | exact grA | apply grB | apply grC | apply grD | refine grE ?_ (by omega) _ | refine grF ?_ (by omega) _ _))).mono ?_); rintro e w1 ⟨rfl, x1, rfl⟩))
        go_roundw
        case rel => exact ⟨i + 1, by omega, by go_num, HB'.out, (by repeat (with_reducible first | assumption | exact grA | apply grB | apply grC | apply grD | refine grE ?_ (by omega) _ | refine grF ?_ (by omega) _ _)), by simp [go_sem, hx, z1]⟩
        case measure => simp [intOf]; omega
    · obtain rfl : i = kids.length := by omega
      have e := HB.out
      rw [List.drop_length, List.all_nil] at e
      subst e
      clear HB HRES
      go_wp2_with fail
      go_ret
      exact ⟨rfl, (by repeat (with_reducible first | assumption | exact grA | apply grB | apply grC | apply grD | refine grE ?_ (by omega) _ | refine grF ?_ (by omega) _ _))⟩

set_option maxRecDepth 100000 in
set_option maxHeartbeats 4000000 in
theorem refMay_n2 (len : Nat) (a : Option Addr) (cap left : Nat) (w : World) (hlc : len ≤ cap) (hc : cap ≤ 9223372036854775807) (hd1 : 1 ≤ left) (hd2 : left ≤ 340) (hok : lenOk 2 len = false) :
    Calls Try.prog 85 #[.agg #[.int .i64 2, .int .i64 0, .int .i64 0, .int .i64 0, .slice a len cap], .int .i64 (left : Int)] w (Gives w (.bool false)) := by
  have t0 : (left == 0) = false := by simp; omega
  have t0' : ((left : Int) == 0) = false := by rw [beq_eq_false_iff_ne]; omega
  have hok' : ¬ (1 ≤ len) := by simpa [lenOk] using hok
  by_cases h0 : len = 0
  · subst h0
    clear hok hok'
    go_enter Try.func85, Try.ntmps85
    go_wp2_with fail
    go_ret
    exact ⟨rfl, (by repeat (first | exact grA | apply grB | apply grC | apply grD))⟩
  · have l0 : (len == 0) = false := by simpa using h0
    have l0' : ((len : Int) == 0) = false := by rw [beq_eq_false_iff_ne]; omega
    exact absurd (by omega) hok'

set_option maxRecDepth 100000 in
set_option maxHeartbeats 4000000 in
theorem refMay_k4 (m : Nat) (IH0 : RMayIH m) (kids : List Ex) (a : Option Addr) (cap left : Nat) (w : World) (hlc : kids.length ≤ cap) (hc : cap ≤ 9223372036854775807) (hkids : KidsAt w m kids a) (hd1 : 1 ≤ left) (hd2 : left ≤ 340) (hok : lenOk 4 kids.length = true) :
    Calls Try.prog 85 #[.agg #[.int .i64 4, .int .i64 0, .int .i64 0, .int .i64 0, .slice a kids.length cap], .int .i64 (left : Int)] w (Gives w (.bool (kids.all (mayE m (left - 1))))) := by
  have t0 : (left == 0) = false := by simp; omega
  have t0' : ((left : Int) == 0) = false := by rw [beq_eq_false_iff_ne]; omega
  have hok' : 1 ≤ kids.length := by simpa [lenOk] using hok
  have l0 : (kids.length == 0) = false := beq_eq_false_iff_ne.mpr (by omega)
  have l0' : ((kids.length : Int) == 0) = false := by rw [beq_eq_false_iff_ne]; omega
  clear hok hok'
  have IH := Lib.hid IH0; clear IH0
  have HK := Lib.hid hkids; clear hkids
  generalize hres : kids.all (mayE m (left - 1)) = res at *
  have HRES := Lib.hid hres; clear hres
  go_enter Try.func85, Try.ntmps85
  go_wp2_with fail
  go_loopw [82] (fun s82 wr => ∃ (i : Nat), i ≤ kids.length ∧ s82 = .int .i64 i ∧ Hid (((kids.drop i).all (mayE m (left - 1))) = res) ∧ w.grows wr ∧ wr.row w.heap.size = some (.cells #[.int .i64 4, .int .i64 0, .int .i64 0, .int .i64 0, .slice a kids.length cap] 26)) (fun i _ => kids.length - (intOf i).toNat)
  case atStart => exact ⟨0, Nat.zero_le _, rfl, HRES.out, (by repeat (with_reducible first | assumption | exact grA | apply grB | apply grC | apply grD | refine grE ?_ (by omega) _ | refine grF ?_ (by omega) _ _)), by simp [go_sem]⟩
  case round =>
    obtain ⟨i, hi, rfl, HB, hg, hx⟩ := hrel
    have z1 := row_sz' hx
    by_cases hlt : i < kids.length
    · rcases HK.out with h | ⟨g, off, rfl, hcell⟩
      · rw [h] at hlt; cases hlt
      obtain ⟨cs', hel, hex⟩ := hcell i kids[i] (by simp [hlt])
      have hl5 := ExAt_len hex
      have he := hel.grows hg
      unfold eltAt at he
      rw [hl5] at he
      have zr := lt_sz (hel.grows hg).lt
      have e3 : segOk (off + i * 5) 5 (wr.row g) = true := he.1
      have e4 : segV (off + i * 5) 5 (wr.row g) = .agg cs'.toArray := he.2
      have c1 := fun W (hW : w.grows W) => IH.out kids[i] cs' (left - 1) W (hex.grows hW) (by omega)
      rw [show ((left - 1 : Nat) : Int) = (left : Int) - 1 by omega] at c1
      have hB := HB.out
      rw [all_drop _ hlt] at hB
      obtain ⟨v0, v1, v2, v3, va, vl, vc, rfl⟩ := ExAt_vals hex
      generalize mayE m (left - 1) kids[i] = B at *
      have C1 := Lib.hid c1; clear c1 HB HRES hel he hex hl5 hcell IH HK
      cases B
      · rw [Bool.false_and] at hB; subst hB
        go_wp2_with (first | (go_at_call 85; (with_reducible refine (C1.out _ (by repeat (with_reducible first | assumption | exact grA | apply grB | apply grC | apply grD | refine grE ?_ (by omega) _ | refine grF ?_ (by omega) _ _))).mono ?_); rintro e w1 ⟨rfl, x1, rfl⟩))
        go_ret
        exact ⟨rfl, (by repeat (with_reducible first | assumption | exact grA | apply grB | apply grC | apply grD | refine grE ?_ (by omega) _ | refine grF ?_ (by omega) _ _))⟩
      · rw [Bool.true_and] at hB
        have HB' := Lib.hid hB; clear hB
        go_wp2_with (first | (go_at_call 85; (with_reducible refine (C1.out _ (by repeat (with_reducible first | assumption | exact grA | apply grB | apply grC | apply grD | refine grE ?_ (by omega) _ | refine grF ?_ (by omega) _ _))).mono ?_); rintro e w1 ⟨rfl, x1, rfl⟩))
        go_roundw
        case rel => exact ⟨i + 1, by omega, by go_num, HB'.out, (by repeat (with_reducible first | assumption | exact grA | apply grB | apply grC | apply grD | refine grE ?_ (by omega) _ | refine grF ?_ (by omega) _ _)), by simp [go_sem, hx, z1]⟩
        case measure => simp [intOf]; omega
    · obtain rfl : i = kids.length := by omega
      have e := HB.out
      rw [List.drop_length, List.all_nil] at e
      subst e
      clear HB HRES
      go_wp2_with fail
      go_ret
      exact ⟨rfl, (by repeat (with_reducible first | assumption | exact grA | apply grB | apply grC | apply grD | refine grE ?_ (by omega) _ | refine grF ?_ (by omega) _ _))⟩

set_option maxRecDepth 100000 in
set_option maxHeartbeats 4000000 in
theorem refMay_n4 (len : Nat) (a : Option Addr) (cap left : Nat) (w : World) (hlc : len ≤ cap) (hc : cap ≤ 9223372036854775807) (hd1 : 1 ≤ left) (hd2 : left ≤ 340) (hok : lenOk 4 len = false) :
    Calls Try.prog 85 #[.agg #[.int .i64 4, .int .i64 0, .int .i64 0, .int .i64 0, .slice a len cap], .int .i64 (left : Int)] w (Gives w (.bool false)) := by
  have t0 : (left == 0) = false := by simp; omega
  have t0' : ((left : Int) == 0) = false := by rw [beq_eq_false_iff_ne]; omega
  have hok' : ¬ (1 ≤ len) := by simpa [lenOk] using hok
  by_cases h0 : len = 0
  · subst h0
    clear hok hok'
    go_enter Try.func85, Try.ntmps85
    go_wp2_with fail
    go_ret
    exact ⟨rfl, (by repeat (first | exact grA | apply grB | apply grC | apply grD))⟩
  · have l0 : (len == 0) = false := by simpa using h0
    have l0' : ((len : Int) == 0) = false := by rw [beq_eq_false_iff_ne]; omega
    exact absurd (by omega) hok'

set_option maxRecDepth 100000 in
set_option maxHeartbeats 4000000 in
theorem refMay_k6 (m : Nat) (IH0 : RMayIH m) (kids : List Ex) (a : Option Addr) (cap left : Nat) (w : World) (hlc : kids.length ≤ cap) (hc : cap ≤ 9223372036854775807) (hkids : KidsAt w m kids a) (hd1 : 1 ≤ left) (hd2 : left ≤ 340) (hok : lenOk 6 kids.length = true) :
    Calls Try.prog 85 #[.agg #[.int .i64 6, .int .i64 0, .int .i64 0, .int .i64 0, .slice a kids.length cap], .int .i64 (left : Int)] w (Gives w (.bool (kids.all (mayE m (left - 1))))) := by
  have t0 : (left == 0) = false := by simp; omega
  have t0' : ((left : Int) == 0) = false := by rw [beq_eq_false_iff_ne]; omega
  have hok' : 1 ≤ kids.length := by simpa [lenOk] using hok
  have l0 : (kids.length == 0) = false := beq_eq_false_iff_ne.mpr (by omega)
  have l0' : ((kids.length : Int) == 0) = false := by rw [beq_eq_false_iff_ne]; omega
  clear hok hok'
  have IH := Lib.hid IH0; clear IH0
  have HK := Lib.hid hkids; clear hkids
  generalize hres : kids.all (mayE m (left - 1)) = res at *
  have HRES := Lib.hid hres; clear hres
  go_enter Try.func85, Try.ntmps85
  go_wp2_with fail
  go_loopw [82] (fun s82 wr => ∃ (i : Nat), i ≤ kids.length ∧ s82 = .int .i64 i ∧ Hid (((kids.drop i).all (mayE m (left - 1))) = res) ∧ w.grows wr ∧ wr.row w.heap.size = some (.cells #[.int .i64 6, .int .i64 0, .int .i64 0, .int .i64 0, .slice a kids.length cap] 26)) (fun i _ => kids.length - (intOf i).toNat)
  case atStart => exact ⟨0, Nat.zero_le _, rfl, HRES.out, (by repeat (with_reducible first | assumption | exact grA | apply grB | apply grC | apply grD | refine grE ?_ (by omega) _ | refine grF ?_ (by omega) _ _)), by simp [go_sem]⟩
  case round =>
    obtain ⟨i, hi, rfl, HB, hg, hx⟩ := hrel
    have z1 := row_sz' hx
    by_cases hlt : i < kids.length
    · rcases HK.out with h | ⟨g, off, rfl, hcell⟩
      · rw [h] at hlt; cases hlt
      obtain ⟨cs', hel, hex⟩ := hcell i kids[i] (by simp [hlt])
      have hl5 := ExAt_len hex
      have he := hel.grows hg
      unfold eltAt at he
      rw [hl5] at he
      have zr := lt_sz (hel.grows hg).lt
      have e3 : segOk (off + i * 5) 5 (wr.row g) = true := he.1
      have e4 : segV (off + i * 5) 5 (wr.row g) = .agg cs'.toArray := he.2
      have c1 := fun W (hW : w.grows W) => IH.out kids[i] cs' (left - 1) W (hex.grows hW) (by omega)
      rw [show ((left - 1 : Nat) : Int) = (left : Int) - 1 by omega] at c1
      have hB := HB.out
      rw [all_drop _ hlt] at hB
      obtain ⟨v0, v1, v2, v3, va, vl, vc, rfl⟩ := ExAt_vals hex
      generalize mayE m (left - 1) kids[i] = B at *
      have C1 := Lib.hid c1; clear c1 HB HRES hel he hex hl5 hcell IH HK
      cases B
      · rw [Bool.false_and] at hB; subst hB
        go_wp2_with (first | (go_at_call 85; (with_reducible refine (C1.out _ (by repeat (with_reducible first | assumption | exact grA | apply grB | apply grC | apply grD | refine grE ?_ (by omega) _ | refine grF ?_ (by omega) _ _))).mono ?_); rintro e w1 ⟨rfl, x1, rfl⟩))
        go_ret
        exact ⟨rfl, (by repeat (with_reducible first | assumption | exact grA | apply grB | apply grC | apply grD | refine grE ?_ (by omega) _ | refine grF ?_ (by omega) _ _))⟩
      · rw [Bool.true_and] at hB
        have HB' := Lib.hid hB; clear hB
        go_wp2_with (first | (go_at_call 85; (with_reducible refine (C1.out _ (by repeat (with_reducible first | assumption | exact grA | apply grB | apply grC | apply grD | refine grE ?_ (by omega) _ | refine grF ?_ (by omega) _ _))).mono ?_); rintro e w1 ⟨rfl, x1, rfl⟩))
        go_roundw
        case rel => exact ⟨i + 1, by omega, by go_num, HB'.out, (by repeat (with_reducible first | assumption | exact grA | apply grB | apply grC | apply grD | refine grE ?_ (by omega) _ | refine grF ?_ (by omega) _ _)), by simp [go_sem, hx, z1]⟩
        case measure => simp [intOf]; omega
    · obtain rfl : i = kids.length := by omega
      have e := HB.out
      rw [List.drop_length, List.all_nil] at e
      subst e
      clear HB HRES
      go_wp2_with fail
      go_ret
      exact ⟨rfl, (by repeat (with_reducible first | assumption | exact grA | apply grB | apply grC | apply grD | refine grE ?_ (by omega) _ | refine grF ?_ (by omega) _ _))⟩

set_option maxRecDepth 100000 in
set_option maxHeartbeats 4000000 in
theorem refMay_n6 (len : Nat) (a : Option Addr) (cap left : Nat) (w : World) (hlc : len ≤ cap) (hc : cap ≤ 9223372036854775807) (hd1 : 1 ≤ left) (hd2 : left ≤ 340) (hok : lenOk 6 len = false) :
    Calls Try.prog 85 #[.agg #[.int .i64 6, .int .i64 0, .int .i64 0, .int .i64 0, .slice a len cap], .int .i64 (left : Int)] w (Gives w (.bool false)) := by
  have t0 : (left == 0) = false := by simp; omega
  have t0' : ((left : Int) == 0) = false := by rw [beq_eq_false_iff_ne]; omega
  have hok' : ¬ (1 ≤ len) := by simpa [lenOk] using hok
  by_cases h0 : len = 0
  · subst h0
    clear hok hok'
    go_enter Try.func85, Try.ntmps85
    go_wp2_with fail
    go_ret
    exact ⟨rfl, (by repeat (first | exact grA | apply grB | apply grC | apply grD))⟩
  · have l0 : (len == 0) = false := by simpa using h0
    have l0' : ((len : Int) == 0) = false := by rw [beq_eq_false_iff_ne]; omega
    exact absurd (by omega) hok'

set_option maxRecDepth 100000 in
set_option maxHeartbeats 4000000 in
theorem refMay_k7 (m : Nat) (IH0 : RMayIH m) (kids : List Ex) (a : Option Addr) (cap left : Nat) (w : World) (hlc : kids.length ≤ cap) (hc : cap ≤ 9223372036854775807) (hkids : KidsAt w m kids a) (hd1 : 1 ≤ left) (hd2 : left ≤ 340) (hok : lenOk 7 kids.length = true) :
    Calls Try.prog 85 #[.agg #[.int .i64 7, .int .i64 0, .int .i64 0, .int .i64 0, .slice a kids.length cap], .int .i64 (left : Int)] w (Gives w (.bool (kids.all (mayE m (left - 1))))) := by
  have t0 : (left == 0) = false := by simp; omega
  have t0' : ((left : Int) == 0) = false := by rw [beq_eq_false_iff_ne]; omega
  have hok' : 1 ≤ kids.length := by simpa [lenOk] using hok
  have l0 : (kids.length == 0) = false := beq_eq_false_iff_ne.mpr (by omega)
  have l0' : ((kids.length : Int) == 0) = false := by rw [beq_eq_false_iff_ne]; omega
  clear hok hok'
  have IH := Lib.hid IH0; clear IH0
  have HK := Lib.hid hkids; clear hkids
  generalize hres : kids.all (mayE m (left - 1)) = res at *
  have HRES := Lib.hid hres; clear hres
  go_enter Try.func85, Try.ntmps85
  go_wp2_with fail
  go_loopw [82] (fun s82 wr => ∃ (i : Nat), i ≤ kids.length ∧ s82 = .int .i64 i ∧ Hid (((kids.drop i).all (mayE m (left - 1))) = res) ∧ w.grows wr ∧ wr.row w.heap.size = some (.cells #[.int .i64 7, .int .i64 0, .int .i64 0, .int .i64 0, .slice a kids.length cap] 26)) (fun i _ => kids.length - (intOf i).toNat)
  case atStart => exact ⟨0, Nat.zero_le _, rfl, HRES.out, (by repeat (with_reducible first | assumption | exact grA | apply grB | apply grC | apply grD | refine grE ?_ (by omega) _ | refine grF ?_ (by omega) _ _)), by simp [go_sem]⟩
  case round =>
    obtain ⟨i, hi, rfl, HB, hg, hx⟩ := hrel
    have z1 := row_sz' hx
    by_cases hlt : i < kids.length
    · rcases HK.out with h | ⟨g, off, rfl, hcell⟩
      · rw [h] at hlt; cases hlt
      obtain ⟨cs', hel, hex⟩ := hcell i kids[i] (by simp [hlt])
      have hl5 := ExAt_len hex
      have he := hel.grows hg
      unfold eltAt at he
      rw [hl5] at he
      have zr := lt_sz (hel.grows hg).lt
      have e3 : segOk (off + i * 5) 5 (wr.row g) = true := he.1
      have e4 : segV (off + i * 5) 5 (wr.row g) = .agg cs'.toArray := he.2
      have c1 := fun W (hW : w.grows W) => IH.out kids[i] cs' (left - 1) W (hex.grows hW) (by omega)
      rw [show ((left - 1 : Nat) : Int) = (left : Int) - 1 by omega] at c1
      have hB := HB.out
      rw [all_drop _ hlt] at hB
      obtain ⟨v0, v1, v2, v3, va, vl, vc, rfl⟩ := ExAt_vals hex
      generalize mayE m (left - 1) kids[i] = B at *
      have C1 := Lib.hid c1; clear c1 HB HRES hel he hex hl5 hcell IH HK
      cases B
      · rw [Bool.false_and] at hB; subst hB
        go_wp2_with (first | (go_at_call 85; (with_reducible refine (C1.out _ (by repeat (with_reducible first | assumption | exact grA | apply grB | apply grC | apply grD | refine grE ?_ (by omega) _ | refine grF ?_ (by omega) _ _))).mono ?_); rintro e w1 ⟨rfl, x1, rfl⟩))
        go_ret
        exact ⟨rfl, (by repeat (with_reducible first | assumption | exact grA | apply grB | apply grC | apply grD | refine grE ?_ (by omega) _ | refine grF ?_ (by omega) _ _))⟩
      · rw [Bool.true_and] at hB
        have HB' := Lib.hid hB; clear hB
        go_wp2_with (first | (go_at_call 85; (with_reducible refine (C1.out _ (by repeat (with_reducible first | assumption | exact grA | apply grB | apply grC | apply grD | refine grE ?_ (by omega) _ | refine grF ?_ (by omega) _ _))).mono ?_); rintro e w1 ⟨rfl, x1, rfl⟩))
        go_roundw
        case rel => exact ⟨i + 1, by omega, by go_num, HB'.out, (by repeat (with_reducible first | assumption | exact grA | apply grB | apply grC | apply grD | refine grE ?_ (by omega) _ | refine grF ?_ (by omega) _ _)), by simp [go_sem, hx, z1]⟩
        case measure => simp [intOf]; omega
    · obtain rfl : i = kids.length := by omega
      have e := HB.out
      rw [List.drop_length, List.all_nil] at e
      subst e
      clear HB HRES
      go_wp2_with fail
      go_ret
      exact ⟨rfl, (by repeat (with_reducible first | assumption | exact grA | apply grB | apply grC | apply grD | refine grE ?_ (by omega) _ | refine grF ?_ (by omega) _ _))⟩

set_option maxRecDepth 100000 in
set_option maxHeartbeats 4000000 in
theorem refMay_n7 (len : Nat) (a : Option Addr) (cap left : Nat) (w : World) (hlc : len ≤ cap) (hc : cap ≤ 9223372036854775807) (hd1 : 1 ≤ left) (hd2 : left ≤ 340) (hok : lenOk 7 len = false) :
    Calls Try.prog 85 #[.agg #[.int .i64 7, .int .i64 0, .int .i64 0, .int .i64 0, .slice a len cap], .int .i64 (left : Int)] w (Gives w (.bool false)) := by
  have t0 : (left == 0) = false := by simp; omega
  have t0' : ((left : Int) == 0) = false := by rw [beq_eq_false_iff_ne]; omega
  have hok' : ¬ (1 ≤ len) := by simpa [lenOk] using hok
  by_cases h0 : len = 0
  · subst h0
    clear hok hok'
    go_enter Try.func85, Try.ntmps85
    go_wp2_with fail
    go_ret
    exact ⟨rfl, (by repeat (first | exact grA | apply grB | apply grC | apply grD))⟩
  · have l0 : (len == 0) = false := by simpa using h0
    have l0' : ((len : Int) == 0) = false := by rw [beq_eq_false_iff_ne]; omega
    exact absurd (by omega) hok'

set_option maxRecDepth 100000 in
set_option maxHeartbeats 4000000 in
theorem refMay_k3 (m : Nat) (IH0 : RMayIH m) (kids : List Ex) (a : Option Addr) (cap left : Nat) (w : World) (hlc : kids.length ≤ cap) (hc : cap ≤ 9223372036854775807) (hkids : KidsAt w m kids a) (hd1 : 1 ≤ left) (hd2 : left ≤ 340) (hl : kids.length = 1) :
    Calls Try.prog 85 #[.agg #[.int .i64 3, .int .i64 0, .int .i64 0, .int .i64 0, .slice a 1 cap], .int .i64 (left : Int)] w (Gives w (.bool (kids.all (mayE m (left - 1))))) := by
  have t0 : (left == 0) = false := by simp; omega
  have t0' : ((left : Int) == 0) = false := by rw [beq_eq_false_iff_ne]; omega
  have HL := Lib.hid hl; rw [hl] at hlc; clear hl
  have IH := Lib.hid IH0; clear IH0
  have HK := Lib.hid hkids; clear hkids
  generalize hres : kids.all (mayE m (left - 1)) = res at *
  have HRES := Lib.hid hres; clear hres
  go_enter Try.func85, Try.ntmps85
  go_wp2_with fail
  go_loopw [82] (fun s82 wr => ∃ (i : Nat), i ≤ 1 ∧ s82 = .int .i64 i ∧ Hid (((kids.drop i).all (mayE m (left - 1))) = res) ∧ w.grows wr ∧ wr.row w.heap.size = some (.cells #[.int .i64 3, .int .i64 0, .int .i64 0, .int .i64 0, .slice a 1 cap] 26)) (fun i _ => 1 - (intOf i).toNat)
  case atStart => exact ⟨0, Nat.zero_le _, rfl, HRES.out, (by repeat (with_reducible first | assumption | exact grA | apply grB | apply grC | apply grD | refine grE ?_ (by omega) _ | refine grF ?_ (by omega) _ _)), by simp [go_sem]⟩
  case round =>
    obtain ⟨i, hi, rfl, HB, hg, hx⟩ := hrel
    have z1 := row_sz' hx
    by_cases hlt0 : i < 1
    · have hlt : i < kids.length := by rw [HL.out]; exact hlt0
      rcases HK.out with h | ⟨g, off, rfl, hcell⟩
      · rw [h] at hlt; cases hlt
      obtain ⟨cs', hel, hex⟩ := hcell i kids[i] (by simp [hlt])
      have hl5 := ExAt_len hex
      have he := hel.grows hg
      unfold eltAt at he
      rw [hl5] at he
      have zr := lt_sz (hel.grows hg).lt
      have e3 : segOk (off + i * 5) 5 (wr.row g) = true := he.1
      have e4 : segV (off + i * 5) 5 (wr.row g) = .agg cs'.toArray := he.2
      have c1 := fun W (hW : w.grows W) => IH.out kids[i] cs' (left - 1) W (hex.grows hW) (by omega)
      rw [show ((left - 1 : Nat) : Int) = (left : Int) - 1 by omega] at c1
      have hB := HB.out
      rw [all_drop _ hlt] at hB
      obtain ⟨v0, v1, v2, v3, va, vl, vc, rfl⟩ := ExAt_vals hex
      generalize mayE m (left - 1) kids[i] = B at *
      have C1 := Lib.hid c1; clear c1 HB HRES hel he hex hl5 hcell IH HK
      cases B
      · rw [Bool.false_and] at hB; subst hB
        go_wp2_with (first | (go_at_call 85; (with_reducible refine (C1.out _ (by repeat (with_reducible first | assumption | exact grA | apply grB | apply grC | apply grD | refine grE ?_ (by omega) _ | refine grF ?_ (by omega) _ _))).mono ?_); rintro e w1 ⟨rfl, x1, rfl⟩))
        go_ret
        exact ⟨rfl, (by repeat (with_reducible first | assumption | exact grA | apply grB | apply grC | apply grD | refine grE ?_ (by omega) _ | refine grF ?_ (by omega) _ _))⟩
      · rw [Bool.true_and] at hB
        have HB' := Lib.hid hB; clear hB
        go_wp2_with (first | (go_at_call 85; (with_reducible refine (C1.out _ (by repeat (with_reducible first | assumption | exact grA | apply grB | apply grC | apply grD | refine grE ?_ (by omega) _ | refine grF ?_ (by omega) _ _))).mono ?_); rintro e w1 ⟨rfl, x1, rfl⟩))
        go_roundw
        case rel => exact ⟨i + 1, by omega, by go_num, HB'.out, (by repeat (with_reducible first | assumption | exact grA | apply grB | apply grC | apply grD | refine grE ?_ (by omega) _ | refine grF ?_ (by omega) _ _)), by simp [go_sem, hx, z1]⟩
        case measure => simp [intOf]; omega
    · obtain rfl : i = 1 := by omega
      have e := HB.out
      rw [List.drop_eq_nil_of_le (by rw [HL.out]; exact Nat.le_refl _), List.all_nil] at e
      subst e
      clear HB HRES
      go_wp2_with fail
      go_ret
      exact ⟨rfl, (by repeat (with_reducible first | assumption | exact grA | apply grB | apply grC | apply grD | refine grE ?_ (by omega) _ | refine grF ?_ (by omega) _ _))⟩

set_option maxRecDepth 100000 in
set_option maxHeartbeats 4000000 in
theorem refMay_n3 (len : Nat) (a : Option Addr) (cap left : Nat) (w : World) (hlc : len ≤ cap) (hc : cap ≤ 9223372036854775807) (hd1 : 1 ≤ left) (hd2 : left ≤ 340) (hok : lenOk 3 len = false) :
    Calls Try.prog 85 #[.agg #[.int .i64 3, .int .i64 0, .int .i64 0, .int .i64 0, .slice a len cap], .int .i64 (left : Int)] w (Gives w (.bool false)) := by
  have t0 : (left == 0) = false := by simp; omega
  have t0' : ((left : Int) == 0) = false := by rw [beq_eq_false_iff_ne]; omega
  have hok' : ¬ (len = 1) := by simpa [lenOk] using hok
  by_cases h0 : len = 0
  · subst h0
    clear hok hok'
    go_enter Try.func85, Try.ntmps85
    go_wp2_with fail
    go_ret
    exact ⟨rfl, (by repeat (first | exact grA | apply grB | apply grC | apply grD))⟩
  · have l0 : (len == 0) = false := by simpa using h0
    have l0' : ((len : Int) == 0) = false := by rw [beq_eq_false_iff_ne]; omega
    have l1 : (len == 1) = false := by simpa using hok'
    have l1' : ¬ ((len : Int) = 1) := by omega
    clear hok hok'
    go_enter Try.func85, Try.ntmps85
    go_wp2_with fail
    go_ret
    exact ⟨rfl, (by repeat (first | exact grA | apply grB | apply grC | apply grD))⟩

set_option maxRecDepth 100000 in
set_option maxHeartbeats 4000000 in
theorem refMay_k5 (m : Nat) (IH0 : RMayIH m) (kids : List Ex) (a : Option Addr) (cap left : Nat) (w : World) (hlc : kids.length ≤ cap) (hc : cap ≤ 9223372036854775807) (hkids : KidsAt w m kids a) (hd1 : 1 ≤ left) (hd2 : left ≤ 340) (hl : kids.length = 1) :
    Calls Try.prog 85 #[.agg #[.int .i64 5, .int .i64 0, .int .i64 0, .int .i64 0, .slice a 1 cap], .int .i64 (left : Int)] w (Gives w (.bool (kids.all (mayE m (left - 1))))) := by
  have t0 : (left == 0) = false := by simp; omega
  have t0' : ((left : Int) == 0) = false := by rw [beq_eq_false_iff_ne]; omega
  have HL := Lib.hid hl; rw [hl] at hlc; clear hl
  have IH := Lib.hid IH0; clear IH0
  have HK := Lib.hid hkids; clear hkids
  generalize hres : kids.all (mayE m (left - 1)) = res at *
  have HRES := Lib.hid hres; clear hres
  go_enter Try.func85, Try.ntmps85
  go_wp2_with fail
  go_loopw [82] (fun s82 wr => ∃ (i : Nat), i ≤ 1 ∧ s82 = .int .i64 i ∧ Hid (((kids.drop i).all (mayE m (left - 1))) = res) ∧ w.grows wr ∧ wr.row w.heap.size = some (.cells #[.int .i64 5, .int .i64 0, .int .i64 0, .int .i64 0, .slice a 1 cap] 26)) (fun i _ => 1 - (intOf i).toNat)
  case atStart => exact ⟨0, Nat.zero_le _, rfl, HRES.out, (by repeat (with_reducible first | assumption | exact grA | apply grB | apply grC | apply grD | refine grE ?_ (by omega) _ | refine grF ?_ (by omega) _ _)), by simp [go_sem]⟩
  case round =>
    obtain ⟨i, hi, rfl, HB, hg, hx⟩ := hrel
    have z1 := row_sz' hx
    by_cases hlt0 : i < 1
    · have hlt : i < kids.length := by rw [HL.out]; exact hlt0
      rcases HK.out with h | ⟨g, off, rfl, hcell⟩
      · rw [h] at hlt; cases hlt
      obtain ⟨cs', hel, hex⟩ := hcell i kids[i] (by simp [hlt])
      have hl5 := ExAt_len hex
      have he := hel.grows hg
      unfold eltAt at he
      rw [hl5] at he
      have zr := lt_sz (hel.grows hg).lt
      have e3 : segOk (off + i * 5) 5 (wr.row g) = true := he.1
      have e4 : segV (off + i * 5) 5 (wr.row g) = .agg cs'.toArray := he.2
      have c1 := fun W (hW : w.grows W) => IH.out kids[i] cs' (left - 1) W (hex.grows hW) (by omega)
      rw [show ((left - 1 : Nat) : Int) = (left : Int) - 1 by omega] at c1
      have hB := HB.out
      rw [all_drop _ hlt] at hB
      obtain ⟨v0, v1, v2, v3, va, vl, vc, rfl⟩ := ExAt_vals hex
      generalize mayE m (left - 1) kids[i] = B at *
      have C1 := Lib.hid c1; clear c1 HB HRES hel he hex hl5 hcell IH HK
      cases B
      · rw [Bool.false_and] at hB; subst hB
        go_wp2_with (first | (go_at_call 85; (with_reducible refine (C1.out _ (by repeat (with_reducible first | assumption | exact grA | apply grB | apply grC | apply grD | refine grE ?_ (by omega) _ | refine grF ?_ (by omega) _ _))).mono ?_); rintro e w1 ⟨rfl, x1, rfl⟩))
        go_ret
        exact ⟨rfl, (by repeat (with_reducible first | assumption | exact grA | apply grB | apply grC | apply grD | refine grE ?_ (by omega) _ | refine grF ?_ (by omega) _ _))⟩
      · rw [Bool.true_and] at hB
        have HB' := Lib.hid hB; clear hB
        go_wp2_with (first | (go_at_call 85; (with_reducible refine (C1.out _ (by repeat (with_reducible first | assumption | exact grA | apply grB | apply grC | apply grD | refine grE ?_ (by omega) _ | refine grF ?_ (by omega) _ _))).mono ?_); rintro e w1 ⟨rfl, x1, rfl⟩))
        go_roundw
        case rel => exact ⟨i + 1, by omega, by go_num, HB'.out, (by repeat (with_reducible first | assumption | exact grA | apply grB | apply grC | apply grD | refine grE ?_ (by omega) _ | refine grF ?_ (by omega) _ _)), by simp [go_sem, hx, z1]⟩
        case measure => simp [intOf]; omega
    · obtain rfl : i = 1 := by omega
      have e := HB.out
      rw [List.drop_eq_nil_of_le (by rw [HL.out]; exact Nat.le_refl _), List.all_nil] at e
      subst e
      clear HB HRES
      go_wp2_with fail
      go_ret
      exact ⟨rfl, (by repeat (with_reducible first | assumption | exact grA | apply grB | apply grC | apply grD | refine grE ?_ (by omega) _ | refine grF ?_ (by omega) _ _))⟩

set_option maxRecDepth 100000 in
set_option maxHeartbeats 4000000 in
theorem refMay_n5 (len : Nat) (a : Option Addr) (cap left : Nat) (w : World) (hlc : len ≤ cap) (hc : cap ≤ 9223372036854775807) (hd1 : 1 ≤ left) (hd2 : left ≤ 340) (hok : lenOk 5 len = false) :
    Calls Try.prog 85 #[.agg #[.int .i64 5, .int .i64 0, .int .i64 0, .int .i64 0, .slice a len cap], .int .i64 (left : Int)] w (Gives w (.bool false)) := by
  have t0 : (left == 0) = false := by simp; omega
  have t0' : ((left : Int) == 0) = false := by rw [beq_eq_false_iff_ne]; omega
  have hok' : ¬ (len = 1) := by simpa [lenOk] using hok
  by_cases h0 : len = 0
  · subst h0
    clear hok hok'
    go_enter Try.func85, Try.ntmps85
    go_wp2_with fail
    go_ret
    exact ⟨rfl, (by repeat (first | exact grA | apply grB | apply grC | apply grD))⟩
  · have l0 : (len == 0) = false := by simpa using h0
    have l0' : ((len : Int) == 0) = false := by rw [beq_eq_false_iff_ne]; omega
    have l1 : (len == 1) = false := by simpa using hok'
    have l1' : ¬ ((len : Int) = 1) := by omega
    clear hok hok'
    go_enter Try.func85, Try.ntmps85
    go_wp2_with fail
    go_ret
    exact ⟨rfl, (by repeat (first | exact grA | apply grB | apply grC | apply grD))⟩

set_option maxRecDepth 100000 in
set_option maxHeartbeats 4000000 in
theorem refMay_k8 (m : Nat) (IH0 : RMayIH m) (kids : List Ex) (a : Option Addr) (cap left : Nat) (w : World) (hlc : kids.length ≤ cap) (hc : cap ≤ 9223372036854775807) (hkids : KidsAt w m kids a) (hd1 : 1 ≤ left) (hd2 : left ≤ 340) (hl : kids.length = 3) :
    Calls Try.prog 85 #[.agg #[.int .i64 8, .int .i64 0, .int .i64 0, .int .i64 0, .slice a 3 cap], .int .i64 (left : Int)] w (Gives w (.bool (kids.all (mayE m (left - 1))))) := by
  have t0 : (left == 0) = false := by simp; omega
  have t0' : ((left : Int) == 0) = false := by rw [beq_eq_false_iff_ne]; omega
  have HL := Lib.hid hl; rw [hl] at hlc; clear hl
  have IH := Lib.hid IH0; clear IH0
  have HK := Lib.hid hkids; clear hkids
  generalize hres : kids.all (mayE m (left - 1)) = res at *
  have HRES := Lib.hid hres; clear hres
  go_enter Try.func85, Try.ntmps85
  go_wp2_with fail
  go_loopw [82] (fun s82 wr => ∃ (i : Nat), i ≤ 3 ∧ s82 = .int .i64 i ∧ Hid (((kids.drop i).all (mayE m (left - 1))) = res) ∧ w.grows wr ∧ wr.row w.heap.size = some (.cells #[.int .i64 8, .int .i64 0, .int .i64 0, .int .i64 0, .slice a 3 cap] 26)) (fun i _ => 3 - (intOf i).toNat)
  case atStart => exact ⟨0, Nat.zero_le _, rfl, HRES.out, (by repeat (with_reducible first | assumption | exact grA | apply grB | apply grC | apply grD | refine grE ?_ (by omega) _ | refine grF ?_ (by omega) _ _)), by simp [go_sem]⟩
  case round =>
    obtain ⟨i, hi, rfl, HB, hg, hx⟩ := hrel
    have z1 := row_sz' hx
    by_cases hlt0 : i < 3
    · have hlt : i < kids.length := by rw [HL.out]; exact hlt0
      rcases HK.out with h | ⟨g, off, rfl, hcell⟩
      · rw [h] at hlt; cases hlt
      obtain ⟨cs', hel, hex⟩ := hcell i kids[i] (by simp [hlt])
      have hl5 := ExAt_len hex
      have he := hel.grows hg
      unfold eltAt at he
      rw [hl5] at he
      have zr := lt_sz (hel.grows hg).lt
      have e3 : segOk (off + i * 5) 5 (wr.row g) = true := he.1
      have e4 : segV (off + i * 5) 5 (wr.row g) = .agg cs'.toArray := he.2
      have c1 := fun W (hW : w.grows W) => IH.out kids[i] cs' (left - 1) W (hex.grows hW) (by omega)
      rw [show ((left - 1 : Nat) : Int) = (left : Int) - 1 by omega] at c1
      have hB := HB.out
      rw [all_drop _ hlt] at hB
      obtain ⟨v0, v1, v2, v3, va, vl, vc, rfl⟩ := ExAt_vals hex
      generalize mayE m (left - 1) kids[i] = B at *
      have C1 := Lib.hid c1; clear c1 HB HRES hel he hex hl5 hcell IH HK
      cases B
      · rw [Bool.false_and] at hB; subst hB
        go_wp2_with (first | (go_at_call 85; (with_reducible refine (C1.out _ (by repeat (with_reducible first | assumption | exact grA | apply grB | apply grC | apply grD | refine grE ?_ (by omega) _ | refine grF ?_ (by omega) _ _))).mono ?_); rintro e w1 ⟨rfl, x1, rfl⟩))
        go_ret
        exact ⟨rfl, (by repeat (with_reducible first | assumption | exact grA | apply grB | apply grC | apply grD | refine grE ?_ (by omega) _ | refine grF ?_ (by omega) _ _))⟩
      · rw [Bool.true_and] at hB
        have HB' := Lib.hid hB; clear hB
        go_wp2_with (first | (go_at_call 85; (with_reducible refine (C1.out _ (by repeat (with_reducible first | assumption | exact grA | apply grB | apply grC | apply grD | refine grE ?_ (by omega) _ | refine grF ?_ (by omega) _ _))).mono ?_); rintro e w1 ⟨rfl, x1, rfl⟩))
        go_roundw
        case rel => exact ⟨i + 1, by omega, by go_num, HB'.out, (by repeat (with_reducible first | assumption | exact grA | apply grB | apply grC | apply grD | refine grE ?_ (by omega) _ | refine grF ?_ (by omega) _ _)), by simp [go_sem, hx, z1]⟩
        case measure => simp [intOf]; omega
    · obtain rfl : i = 3 := by omega
      have e := HB.out
      rw [List.drop_eq_nil_of_le (by rw [HL.out]; exact Nat.le_refl _), List.all_nil] at e
      subst e
      clear HB HRES
      go_wp2_with fail
      go_ret
      exact ⟨rfl, (by repeat (with_reducible first | assumption | exact grA | apply grB | apply grC | apply grD | refine grE ?_ (by omega) _ | refine grF ?_ (by omega) _ _))⟩

set_option maxRecDepth 100000 in
set_option maxHeartbeats 4000000 in
theorem refMay_n8 (len : Nat) (a : Option Addr) (cap left : Nat) (w : World) (hlc : len ≤ cap) (hc : cap ≤ 9223372036854775807) (hd1 : 1 ≤ left) (hd2 : left ≤ 340) (hok : lenOk 8 len = false) :
    Calls Try.prog 85 #[.agg #[.int .i64 8, .int .i64 0, .int .i64 0, .int .i64 0, .slice a len cap], .int .i64 (left : Int)] w (Gives w (.bool false)) := by
  have t0 : (left == 0) = false := by simp; omega
  have t0' : ((left : Int) == 0) = false := by rw [beq_eq_false_iff_ne]; omega
  have hok' : ¬ (len = 3) := by simpa [lenOk] using hok
  by_cases h0 : len = 0
  · subst h0
    clear hok hok'
    go_enter Try.func85, Try.ntmps85
    go_wp2_with fail
    go_ret
    exact ⟨rfl, (by repeat (first | exact grA | apply grB | apply grC | apply grD))⟩
  · have l0 : (len == 0) = false := by simpa using h0
    have l0' : ((len : Int) == 0) = false := by rw [beq_eq_false_iff_ne]; omega
    have l1 : (len == 3) = false := by simpa using hok'
    have l1' : ¬ ((len : Int) = 3) := by omega
    clear hok hok'
    go_enter Try.func85, Try.ntmps85
    go_wp2_with fail
    go_ret
    exact ⟨rfl, (by repeat (first | exact grA | apply grB | apply grC | apply grD))⟩

set_option maxRecDepth 100000 in
set_option maxHeartbeats 4000000 in
theorem refMay_kx (k n d u : Int) (len : Nat) (a : Option Addr) (cap left : Nat) (w : World) (wk : I64 k) (hlc : len ≤ cap) (hc : cap ≤ 9223372036854775807) (hd1 : 1 ≤ left) (hd2 : left ≤ 340) (hk : k < 1 ∨ 8 < k) :
    Calls Try.prog 85 #[.agg #[.int .i64 k, .int .i64 n, .int .i64 d, .int .i64 u, .slice a len cap], .int .i64 (left : Int)] w (Gives w (.bool false)) := by
  have t0 : (left == 0) = false := by simp; omega
  have t0' : ((left : Int) == 0) = false := by rw [beq_eq_false_iff_ne]; omega
  rcases hk with hk | hk
  · have hk' : decide (k < 1) = true := by simpa using hk
    go_enter Try.func85, Try.ntmps85
    go_wp2_with fail
    all_goals first | (go_ret; exact ⟨rfl, (by repeat (first | exact grA | apply grB | apply grC | apply grD))⟩) | (exfalso; omega)
  · have hk' : ¬ k < 1 := by omega
    have hk'' : ¬ k ≤ 0 := by omega
    go_enter Try.func85, Try.ntmps85
    go_wp2_with fail
    all_goals first | (go_ret; exact ⟨rfl, (by repeat (first | exact grA | apply grB | apply grC | apply grD))⟩) | (exfalso; omega)

set_option maxRecDepth 100000 in
set_option maxHeartbeats 4000000 in
theorem refMay_no (k n d u : Int) (len : Nat) (a : Option Addr) (cap left : Nat) (w : World) (wk : I64 k) (wn : I64 n) (wd : I64 d) (wu : I64 u) (hlc : len ≤ cap) (hc : cap ≤ 9223372036854775807) (hd1 : 1 ≤ left) (hd2 : left ≤ 340) (k1 : (k == 1) = false) (k2 : 1 ≤ k) (k3 : k ≤ 8) (h : (decide (n = 0) && decide (d = 0) && decide (u = 0)) = false) :
    Calls Try.prog 85 #[.agg #[.int .i64 k, .int .i64 n, .int .i64 d, .int .i64 u, .slice a len cap], .int .i64 (left : Int)] w (Gives w (.bool false)) := by
  have t0 : (left == 0) = false := by simp; omega
  have t0' : ((left : Int) == 0) = false := by rw [beq_eq_false_iff_ne]; omega
  have hb : (n == 0) = false ∨ ((n == 0) = true ∧ (d == 0) = false) ∨ (n = 0 ∧ d = 0 ∧ (u == 0) = false) := by
    by_cases h1 : n = 0
    · by_cases h2 : d = 0
      · by_cases h3 : u = 0
        · simp [h1, h2, h3] at h
        · exact .inr (.inr ⟨h1, h2, by simpa using h3⟩)
      · exact .inr (.inl ⟨by simpa using h1, by simpa using h2⟩)
    · exact .inl (by simpa using h1)
  clear h
  rcases hb with b1 | ⟨b1, b2⟩ | ⟨rfl, rfl, b3⟩
  · go_enter Try.func85, Try.ntmps85
    go_wp2_with fail
    go_ret
    exact ⟨rfl, (by repeat (first | exact grA | apply grB | apply grC | apply grD))⟩
  · go_enter Try.func85, Try.ntmps85
    go_wp2_with fail
    go_ret
    exact ⟨rfl, (by repeat (first | exact grA | apply grB | apply grC | apply grD))⟩
  · have b3' : ¬ u = 0 := by simpa using b3
    go_enter Try.func85, Try.ntmps85
    go_wp2_with fail
    go_ret
    exact ⟨rfl, (by repeat (first | exact grA | apply grB | apply grC | apply grD))⟩

set_option maxRecDepth 100000 in
set_option maxHeartbeats 4000000 in
theorem refMay_deep (k n d u : Int) (len : Nat) (a : Option Addr) (cap : Nat) (w : World) (hlc : len ≤ cap) (hc : cap ≤ 9223372036854775807) :
    Calls Try.prog 85 #[.agg #[.int .i64 k, .int .i64 n, .int .i64 d, .int .i64 u, .slice a len cap], .int .i64 0] w (Gives w (.bool false)) := by
  go_enter Try.func85, Try.ntmps85
  go_wp2_with fail
  go_ret
  exact ⟨rfl, (by repeat (first | exact grA | apply grB | apply grC | apply grD))⟩

theorem refMayE_any : ∀ (m : Nat), RMayIH m
  | 0 => fun _ _ _ _ h _ => h.elim
  | m + 1 => by
    intro t cs left w h hd2
    have IH := refMayE_any m
    obtain ⟨k, n, d, u, kids⟩ := t
    obtain ⟨wk, wn, wd, wu, a, cap, rfl, hlc, hc, hkids⟩ := h
    show Calls Try.prog 85 #[.agg #[.int .i64 k, .int .i64 n, .int .i64 d, .int .i64 u, .slice a kids.length cap], .int .i64 (left : Int)] w _
    unfold mayE
    by_cases h0 : left = 0
    · rw [if_pos h0]; subst h0
      exact refMay_deep k n d u kids.length a cap w hlc hc
    rw [if_neg h0]
    have hd1 : 1 ≤ left := by omega
    by_cases hkx : k < 1 ∨ 8 < k
    · have e : lenOk k kids.length = false := by unfold lenOk; rw [if_neg (by omega), if_neg (by omega), if_neg (by omega)]
      rw [if_neg (by omega), e]
      simp only [Bool.false_and, Bool.and_false]
      exact refMay_kx k n d u kids.length a cap left w wk hlc hc hd1 hd2 hkx
    by_cases hk1 : k = 1
    · rw [if_pos hk1]; subst hk1
      exact refMay_one n d u kids a cap left w wn wd wu hlc hc hd1 hd2
    · rw [if_neg hk1]
      have k1 : (k == 1) = false := by simpa using hk1
      by_cases hnd : n = 0 ∧ d = 0 ∧ u = 0
      · obtain ⟨rfl, rfl, rfl⟩ := hnd
        simp only [decide_true, Bool.true_and]
        have hk : k = 2 ∨ k = 4 ∨ k = 6 ∨ k = 7 ∨ k = 3 ∨ k = 5 ∨ k = 8 := by omega
        rcases hk with rfl | rfl | rfl | rfl | rfl | rfl | rfl
        · cases hok : lenOk 2 kids.length
          · rw [Bool.false_and]; exact refMay_n2 kids.length a cap left w hlc hc hd1 hd2 hok
          · rw [Bool.true_and]
            exact refMay_k2 m IH kids a cap left w hlc hc hkids hd1 hd2 hok
        · cases hok : lenOk 4 kids.length
          · rw [Bool.false_and]; exact refMay_n4 kids.length a cap left w hlc hc hd1 hd2 hok
          · rw [Bool.true_and]
            exact refMay_k4 m IH kids a cap left w hlc hc hkids hd1 hd2 hok
        · cases hok : lenOk 6 kids.length
          · rw [Bool.false_and]; exact refMay_n6 kids.length a cap left w hlc hc hd1 hd2 hok
          · rw [Bool.true_and]
            exact refMay_k6 m IH kids a cap left w hlc hc hkids hd1 hd2 hok
        · cases hok : lenOk 7 kids.length
          · rw [Bool.false_and]; exact refMay_n7 kids.length a cap left w hlc hc hd1 hd2 hok
          · rw [Bool.true_and]
            exact refMay_k7 m IH kids a cap left w hlc hc hkids hd1 hd2 hok
        · cases hok : lenOk 3 kids.length
          · rw [Bool.false_and]; exact refMay_n3 kids.length a cap left w hlc hc hd1 hd2 hok
          · rw [Bool.true_and]
            have hl : kids.length = 1 := by simpa [lenOk] using hok
            have := refMay_k3 m IH kids a cap left w hlc hc hkids hd1 hd2 hl
            rw [hl]; exact this
        · cases hok : lenOk 5 kids.length
          · rw [Bool.false_and]; exact refMay_n5 kids.length a cap left w hlc hc hd1 hd2 hok
          · rw [Bool.true_and]
            have hl : kids.length = 1 := by simpa [lenOk] using hok
            have := refMay_k5 m IH kids a cap left w hlc hc hkids hd1 hd2 hl
            rw [hl]; exact this
        · cases hok : lenOk 8 kids.length
          · rw [Bool.false_and]; exact refMay_n8 kids.length a cap left w hlc hc hd1 hd2 hok
          · rw [Bool.true_and]
            have hl : kids.length = 3 := by simpa [lenOk] using hok
            have := refMay_k8 m IH kids a cap left w hlc hc hkids hd1 hd2 hl
            rw [hl]; exact this
      · have e : (decide (n = 0) && decide (d = 0) && decide (u = 0)) = false := by
          rw [Bool.eq_false_iff]; intro h; simp at h; exact hnd ⟨h.1.1, h.1.2, h.2⟩
        rw [← Bool.and_assoc, e, Bool.false_and]
        exact refMay_no k n d u kids.length a cap left w wk wn wd wu hlc hc hd1 hd2 k1 (by omega) (by omega) e

set_option maxRecDepth 100000 in
theorem refMayE2_any (m : Nat) (t : Ex) (cs : List Value) (w : World) (h : ExAt w m t cs) : Calls Try.prog 53 #[.agg cs.toArray] w (Gives w (.bool (mayE m 340 t))) := by
  have c1 : ∀ W, w.grows W → Calls Try.prog 85 #[.agg cs.toArray, .int .i64 340] W (Gives W (.bool (mayE m 340 t))) :=
    fun W hW => refMayE_any m t cs 340 W (h.grows hW) (by omega)
  obtain ⟨v0, v1, v2, v3, v4, rfl⟩ := five_of_len (ExAt_len h)
  generalize mayE m 340 t = B at c1 ⊢
  have C1 := Lib.hid c1; clear c1 h
  go_enter Try.func53, Try.ntmps53
  go_wp2_with (first | (go_at_call 85; (with_reducible refine (C1.out _ (by repeat (with_reducible first | assumption | exact grA | apply grB | apply grC | apply grD | refine grE ?_ (by omega) _ | refine grF ?_ (by omega) _ _))).mono ?_); rintro e w1 ⟨rfl, x1, rfl⟩))
  go_ret
  exact ⟨rfl, (by repeat (with_reducible first | assumption | exact grA | apply grB | apply grC | apply grD | refine grE ?_ (by omega) _ | refine grF ?_ (by omega) _ _))⟩

end Go.Proofs.Ythmicnjigfcljaa

/- WALK over the document's answer: of which kind an expression is (by three counts). No condition but that the expression stands in memory. -/
namespace Go
open Go.RowKit
/-- the answer by the counts of kids that are none, a number, a length -/
def kans (k : Int) (n c0 c1 c2 : Nat) : Int :=
  if 0 < c0 then 0 else if k = 4 ∧ c2 = 1 then 2 else if c1 = n then 1 else if c2 = n ∧ k ≠ 4 ∧ k ≠ 5 then 2 else 0
def krun (k : Int) (n : Nat) : Nat → Nat → Nat → List Int → Int
  | c0, c1, c2, [] => kans k n c0 c1 c2
  | c0, c1, c2, x :: l => if x = 0 then krun k n (c0 + 1) c1 c2 l else if x = 1 then krun k n c0 (c1 + 1) c2 l else krun k n c0 c1 (c2 + 1) l
theorem krun_pos (k : Int) (n : Nat) : ∀ (l : List Int) (c0 c1 c2 : Nat), 0 < c0 → krun k n c0 c1 c2 l = 0
  | [], c0, c1, c2, h => by unfold krun kans; rw [if_pos h]
  | x :: l, c0, c1, c2, h => by
    unfold krun
    split
    · exact krun_pos k n l _ _ _ (by omega)
    · split
      · exact krun_pos k n l _ _ _ h
      · exact krun_pos k n l _ _ _ h
theorem krun_kgo (k : Int) (n : Nat) : ∀ (l : List Int) (c1 c2 : Nat), c1 + c2 + l.length = n → (∀ x ∈ l, x = 0 ∨ x = 1 ∨ x = 2) → krun k n 0 c1 c2 l = kgo k n c2 l
  | [], c1, c2, h, _ => by
    have hn : c1 + c2 = n := by simpa using h
    unfold krun kgo kans
    rw [if_neg (by omega)]
    by_cases h0 : c2 = 0
    · rw [if_pos h0, if_neg (by omega), if_pos (by omega)]
    · rw [if_neg h0]
      by_cases h4 : k = 4 ∧ c2 = 1
      · rw [if_pos h4, if_pos (.inl h4)]
      · rw [if_neg h4, if_neg (by omega)]
        by_cases h5 : c2 = n ∧ k ≠ 4 ∧ k ≠ 5
        · rw [if_pos h5, if_pos (.inr ⟨h5.2.1, h5.2.2, h5.1⟩)]
        · rw [if_neg h5, if_neg (by omega)]
  | x :: l, c1, c2, h, hx => by
    have hl : c1 + c2 + (l.length + 1) = n := by simpa using h
    have ih := fun c1 c2 h => krun_kgo k n l c1 c2 h (fun y hy => hx y (List.mem_cons_of_mem _ hy))
    unfold krun kgo
    rcases hx x (List.mem_cons_self ..) with rfl | rfl | rfl
    · rw [if_pos rfl, if_pos rfl]; exact krun_pos k n l _ _ _ (by omega)
    · simp; exact ih _ _ (by omega)
    · simp; exact ih _ _ (by omega)
theorem kindE_run (m : Nat) (k n d u : Int) (kids : List Ex) (h : k ≠ 1) : kindE (m + 1) (.mk k n d u kids) = krun k kids.length 0 0 0 (kids.map (kindE m)) := by
  rw [kindE_go m k n d u kids h, krun_kgo]
  · simp
  · intro x hx
    obtain ⟨t, _, rfl⟩ := List.mem_map.mp hx
    exact kindE_range m t
end Go
namespace Go.Proofs.Ythmicnjigfcljaa
open Go.RowKit

set_option maxRecDepth 100000 in
set_option maxHeartbeats 4000000 in
theorem refKind_any : ∀ (m : Nat) (t : Ex) (cs : List Value) (w : World), ExAt w m t cs → Calls Try.prog 54 #[.agg cs.toArray] w (Gives w (.int .i64 (kindE m t)))
  | 0, _, _, _, h => h.elim
  | m + 1, .mk k n d u kids, cs, w, h => by
    have IH := Lib.hid (refKind_any m)
    obtain ⟨wk, wn, wd, wu, a, cap, rfl, hlc, hc, hkids⟩ := h
    show Calls Try.prog 54 #[.agg #[.int .i64 k, .int .i64 n, .int .i64 d, .int .i64 u, .slice a kids.length cap]] w _
    by_cases hk1 : k = 1
    · have e : kindE (m + 1) (.mk k n d u kids) = if u = 0 then 1 else 2 := by show (if k = 1 then _ else _) = _; rw [if_pos hk1]
      rw [e]; subst hk1
      clear IH hkids e
      by_cases hu : u = 0
      · rw [if_pos hu]; subst hu
        go_enter Try.func54, Try.ntmps54
        go_wp2_with fail
        go_ret
        exact ⟨rfl, (by repeat (first | exact grA | apply grB | apply grC | apply grD))⟩
      · have hu' : (u == 0) = false := by simpa using hu
        rw [if_neg hu]; clear hu
        go_enter Try.func54, Try.ntmps54
        go_wp2_with fail
        go_ret
        exact ⟨rfl, (by repeat (first | exact grA | apply grB | apply grC | apply grD))⟩
    · rw [kindE_run m k n d u kids hk1]
      have k1 : (k == 1) = false := by simpa using hk1
      have hmap : (kids.map (kindE m)).length = kids.length := by simp
      have hget : ∀ i (h : i < kids.length), (kids.map (kindE m)).drop i = kindE m kids[i] :: (kids.map (kindE m)).drop (i + 1) := fun i h => by
        rw [List.drop_eq_getElem_cons (by simpa using h)]; simp
      generalize hL : kids.map (kindE m) = L at *
      generalize hres : krun k kids.length 0 0 0 L = res at *
      have HK := Lib.hid hkids; have HRES := Lib.hid hres; have HM := Lib.hid hmap; have HGET := Lib.hid hget
      clear hkids hres hmap hget hL hk1
      go_enter Try.func54, Try.ntmps54
      go_wp2_with fail
      go_loopw [17] (fun s17 wr => ∃ (i c0 c1 c2 : Nat), i ≤ kids.length ∧ c0 + c1 + c2 = i ∧ s17 = .int .i64 i ∧ Hid (krun k kids.length c0 c1 c2 (L.drop i) = res) ∧ w.grows wr ∧ wr.row w.heap.size = some (.cells #[.int .i64 k, .int .i64 n, .int .i64 d, .int .i64 u, .slice a kids.length cap] 26) ∧ wr.row (w.heap.size + 1) = some (.cells #[.int .i64 c0, .int .i64 c1, .int .i64 c2] 93)) (fun i _ => kids.length - (intOf i).toNat)
      case atStart => exact ⟨0, 0, 0, 0, Nat.zero_le _, rfl, rfl, HRES.out, (by repeat (with_reducible first | assumption | exact grA | apply grB | apply grC | apply grD | refine grE ?_ (by omega) _ | refine grF ?_ (by omega) _ _)), by simp [go_sem], by simp [go_sem]⟩
      case round =>
        obtain ⟨i, c0, c1, c2, hi, hci, rfl, HB, hg, hx, hy⟩ := hrel
        have z1 := row_sz' hx
        have z2 := row_sz' hy
        by_cases hlt : i < kids.length
        · rcases HK.out with h | ⟨g, off, rfl, hcell⟩
          · rw [h] at hlt; cases hlt
          obtain ⟨cs', hel, hex⟩ := hcell i kids[i] (by simp [hlt])
          have hl5 := ExAt_len hex
          have he := hel.grows hg
          unfold eltAt at he
          rw [hl5] at he
          have zr := lt_sz (hel.grows hg).lt
          have e3 : segOk (off + i * 5) 5 (wr.row g) = true := he.1
          have e4 : segV (off + i * 5) 5 (wr.row g) = .agg cs'.toArray := he.2
          have c1' := fun W (hW : w.grows W) => IH.out kids[i] cs' W (hex.grows hW)
          have hB := HB.out
          rw [HGET.out i hlt] at hB
          obtain ⟨v0, v1, v2, v3, va, vl, vc, rfl⟩ := ExAt_vals hex
          have hr := kindE_range m kids[i]
          generalize kindE m kids[i] = K at *
          have C1 := Lib.hid c1'; clear c1' HB HRES hel he hex hl5 hcell IH HK HM HGET
          rcases hr with rfl | rfl | rfl
          · change krun k kids.length (c0 + 1) (c1) (c2) (L.drop (i + 1)) = res at hB
            have HB' := Lib.hid hB; clear hB
            go_wp2_with (first | (go_at_call 54; (with_reducible refine (C1.out _ (by repeat (with_reducible first | assumption | exact grA | apply grB | apply grC | apply grD | refine grE ?_ (by omega) _ | refine grF ?_ (by omega) _ _))).mono ?_); rintro e w1 ⟨rfl, x1, rfl⟩))
            go_roundw
            case rel => exact ⟨i + 1, c0 + 1, c1, c2, by omega, by omega, by go_num, HB'.out, (by repeat (with_reducible first | assumption | exact grA | apply grB | apply grC | apply grD | refine grE ?_ (by omega) _ | refine grF ?_ (by omega) _ _)), by simp [go_sem, hx, z1, z2], by simp [go_sem, hy, z1, z2]⟩
            case measure => simp [intOf]; omega
          · change krun k kids.length (c0) (c1 + 1) (c2) (L.drop (i + 1)) = res at hB
            have HB' := Lib.hid hB; clear hB
            go_wp2_with (first | (go_at_call 54; (with_reducible refine (C1.out _ (by repeat (with_reducible first | assumption | exact grA | apply grB | apply grC | apply grD | refine grE ?_ (by omega) _ | refine grF ?_ (by omega) _ _))).mono ?_); rintro e w1 ⟨rfl, x1, rfl⟩))
            go_roundw
            case rel => exact ⟨i + 1, c0, c1 + 1, c2, by omega, by omega, by go_num, HB'.out, (by repeat (with_reducible first | assumption | exact grA | apply grB | apply grC | apply grD | refine grE ?_ (by omega) _ | refine grF ?_ (by omega) _ _)), by simp [go_sem, hx, z1, z2], by simp [go_sem, hy, z1, z2]⟩
            case measure => simp [intOf]; omega
          · change krun k kids.length (c0) (c1) (c2 + 1) (L.drop (i + 1)) = res at hB
            have HB' := Lib.hid hB; clear hB
            go_wp2_with (first | (go_at_call 54; (with_reducible refine (C1.out _ (by repeat (with_reducible first | assumption | exact grA | apply grB | apply grC | apply grD | refine grE ?_ (by omega) _ | refine grF ?_ (by omega) _ _))).mono ?_); rintro e w1 ⟨rfl, x1, rfl⟩))
            go_roundw
            case rel => exact ⟨i + 1, c0, c1, c2 + 1, by omega, by omega, by go_num, HB'.out, (by repeat (with_reducible first | assumption | exact grA | apply grB | apply grC | apply grD | refine grE ?_ (by omega) _ | refine grF ?_ (by omega) _ _)), by simp [go_sem, hx, z1, z2], by simp [go_sem, hy, z1, z2]⟩
            case measure => simp [intOf]; omega
        · obtain rfl : i = kids.length := by omega
          have e := HB.out
          rw [← HM.out, List.drop_length, HM.out] at e
          change kans k kids.length c0 c1 c2 = res at e
          clear HB HRES HK HM HGET IH hlt hi
          generalize kids.length = len at *
          have hs : c0 ≤ len ∧ c1 ≤ len ∧ c2 ≤ len := ⟨by omega, by omega, by omega⟩
          obtain ⟨s0, s1, s2⟩ := hs
          clear hci
          unfold kans at e
          by_cases p0 : 0 < c0
          · rw [if_pos p0] at e; subst e
            have p0' : (0 : Int) < (c0 : Int) := by omega
            go_wp2_with fail
            go_ret
            exact ⟨rfl, (by repeat (with_reducible first | assumption | exact grA | apply grB | apply grC | apply grD | refine grE ?_ (by omega) _ | refine grF ?_ (by omega) _ _))⟩
          obtain rfl : c0 = 0 := by omega
          rw [if_neg p0] at e; clear p0
          by_cases k4 : k = 4
          · subst k4
            by_cases q : c2 = 1
            · rw [if_pos ⟨rfl, q⟩] at e; subst e; subst q
              go_wp2_with fail
              go_ret
              exact ⟨rfl, (by repeat (with_reducible first | assumption | exact grA | apply grB | apply grC | apply grD | refine grE ?_ (by omega) _ | refine grF ?_ (by omega) _ _))⟩
            · rw [if_neg (fun h => q h.2)] at e
              have q1 : ((c2 : Int) == 1) = false := by rw [beq_eq_false_iff_ne]; omega
              have q2 : (c2 == 1) = false := by simpa using q
              by_cases r : c1 = len
              · rw [if_pos r] at e; subst e; subst r
                go_wp2_with fail
                go_ret
                exact ⟨rfl, (by repeat (with_reducible first | assumption | exact grA | apply grB | apply grC | apply grD | refine grE ?_ (by omega) _ | refine grF ?_ (by omega) _ _))⟩
              · rw [if_neg r, if_neg (fun h => h.2.1 rfl)] at e; subst e
                have r1 : ((c1 : Int) == (len : Int)) = false := by rw [beq_eq_false_iff_ne]; omega
                have r2 : (c1 == len) = false := by simpa using r
                by_cases t : c2 = len
                · subst t
                  go_wp2_with fail
                  go_ret
                  exact ⟨rfl, (by repeat (with_reducible first | assumption | exact grA | apply grB | apply grC | apply grD | refine grE ?_ (by omega) _ | refine grF ?_ (by omega) _ _))⟩
                · have t1 : ((c2 : Int) == (len : Int)) = false := by rw [beq_eq_false_iff_ne]; omega
                  have t2 : (c2 == len) = false := by simpa using t
                  go_wp2_with fail
                  go_ret
                  exact ⟨rfl, (by repeat (with_reducible first | assumption | exact grA | apply grB | apply grC | apply grD | refine grE ?_ (by omega) _ | refine grF ?_ (by omega) _ _))⟩
          · rw [if_neg (fun h => k4 h.1)] at e
            have k4' : (k == 4) = false := by simpa using k4
            have k4'' : (k != 4) = true := by simpa using k4
            by_cases r : c1 = len
            · rw [if_pos r] at e; subst e; subst r
              go_wp2_with fail
              go_ret
              exact ⟨rfl, (by repeat (with_reducible first | assumption | exact grA | apply grB | apply grC | apply grD | refine grE ?_ (by omega) _ | refine grF ?_ (by omega) _ _))⟩
            · rw [if_neg r] at e
              have r1 : ((c1 : Int) == (len : Int)) = false := by rw [beq_eq_false_iff_ne]; omega
              have r2 : (c1 == len) = false := by simpa using r
              by_cases t : c2 = len
              · by_cases k5 : k = 5
                · subst k5
                  rw [if_neg (fun h => h.2.2 rfl)] at e; subst e; subst t
                  go_wp2_with fail
                  go_ret
                  exact ⟨rfl, (by repeat (with_reducible first | assumption | exact grA | apply grB | apply grC | apply grD | refine grE ?_ (by omega) _ | refine grF ?_ (by omega) _ _))⟩
                · have k5' : (k == 5) = false := by simpa using k5
                  have k5'' : (k != 5) = true := by simpa using k5
                  rw [if_pos ⟨t, k4, k5⟩] at e; subst e; subst t
                  go_wp2_with fail
                  go_ret
                  exact ⟨rfl, (by repeat (with_reducible first | assumption | exact grA | apply grB | apply grC | apply grD | refine grE ?_ (by omega) _ | refine grF ?_ (by omega) _ _))⟩
              · rw [if_neg (fun h => t h.1)] at e; subst e
                have t1 : ((c2 : Int) == (len : Int)) = false := by rw [beq_eq_false_iff_ne]; omega
                have t2 : (c2 == len) = false := by simpa using t
                go_wp2_with fail
                go_ret
                exact ⟨rfl, (by repeat (with_reducible first | assumption | exact grA | apply grB | apply grC | apply grD | refine grE ?_ (by omega) _ | refine grF ?_ (by omega) _ _))⟩

end Go.Proofs.Ythmicnjigfcljaa

/- WALK over the document's answer: jalousieref12.Kind. No condition but that the expression stands in memory. -/
namespace Go.Proofs.Ythmicnjigfcljaa
open Go.RowKit

set_option maxRecDepth 100000 in
set_option maxHeartbeats 4000000 in
/-- the kind that jalousieref12.Kind gives, and its word: 0 taken, 1 no expression, 4 no kind -/
theorem ref12Kind_any (m : Nat) (t : Ex) (cs : List Value) (w : World) (h : ExAt w m t cs) :
    Calls Try.prog 17 #[.agg cs.toArray] w (Gives w (.tuple #[.int .i64 (if mayE m 340 t then kindE m t else 0), .int .i64 (if mayE m 340 t then (if kindE m t = 0 then 4 else 0) else 1)])) := by
  have c1 := fun W (hW : w.grows W) => refMayE2_any m t cs W (h.grows hW)
  have c2 := fun W (hW : w.grows W) => refKind_any m t cs W (h.grows hW)
  obtain ⟨v0, v1, v2, v3, va, vl, vc, rfl⟩ := ExAt_vals h
  generalize mayE m 340 t = B at c1 ⊢
  generalize kindE m t = K at c2 ⊢
  have C1 := Lib.hid c1; have C2 := Lib.hid c2; clear c1 c2 h
  cases B
  · rw [if_neg (by simp), if_neg (by simp)]
    go_enter Try.func17, Try.ntmps17
    go_wp2_with (first | (go_at_call 53; (with_reducible refine (C1.out _ (by repeat (with_reducible first | assumption | exact grA | apply grB | apply grC | apply grD | refine grE ?_ (by omega) _ | refine grF ?_ (by omega) _ _))).mono ?_); rintro e w1 ⟨rfl, x1, rfl⟩))
    go_ret2
    exact ⟨rfl, (by repeat (with_reducible first | assumption | exact grA | apply grB | apply grC | apply grD | refine grE ?_ (by omega) _ | refine grF ?_ (by omega) _ _))⟩
  · rw [if_pos rfl, if_pos rfl]
    by_cases hK : K = 0
    · subst hK
      rw [if_pos rfl]
      go_enter Try.func17, Try.ntmps17
      go_wp2_with (first | (go_at_call 53; (with_reducible refine (C1.out _ (by repeat (with_reducible first | assumption | exact grA | apply grB | apply grC | apply grD | refine grE ?_ (by omega) _ | refine grF ?_ (by omega) _ _))).mono ?_); rintro e w1 ⟨rfl, x1, rfl⟩) | (go_at_call 54; (with_reducible refine (C2.out _ (by repeat (with_reducible first | assumption | exact grA | apply grB | apply grC | apply grD | refine grE ?_ (by omega) _ | refine grF ?_ (by omega) _ _))).mono ?_); rintro e w1 ⟨rfl, x2, rfl⟩))
      go_ret2
      exact ⟨rfl, (by repeat (with_reducible first | assumption | exact grA | apply grB | apply grC | apply grD | refine grE ?_ (by omega) _ | refine grF ?_ (by omega) _ _))⟩
    · rw [if_neg hK]
      have hK' : (K == 0) = false := by simpa using hK
      clear hK
      go_enter Try.func17, Try.ntmps17
      go_wp2_with (first | (go_at_call 53; (with_reducible refine (C1.out _ (by repeat (with_reducible first | assumption | exact grA | apply grB | apply grC | apply grD | refine grE ?_ (by omega) _ | refine grF ?_ (by omega) _ _))).mono ?_); rintro e w1 ⟨rfl, x1, rfl⟩) | (go_at_call 54; (with_reducible refine (C2.out _ (by repeat (with_reducible first | assumption | exact grA | apply grB | apply grC | apply grD | refine grE ?_ (by omega) _ | refine grF ?_ (by omega) _ _))).mono ?_); rintro e w1 ⟨rfl, x2, rfl⟩))
      go_ret2
      exact ⟨rfl, (by repeat (with_reducible first | assumption | exact grA | apply grB | apply grC | apply grD | refine grE ?_ (by omega) _ | refine grF ?_ (by omega) _ _))⟩

end Go.Proofs.Ythmicnjigfcljaa
