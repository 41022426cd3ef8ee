/- Texts of the walk, one after the other; what each proves stands ahead of it. -/
import Derived.Test.YthmicnjigfcljaaMc
import Derived.Test.YthmicnjigfcljaaMg
import Derived.Test.YthmicnjigfcljaaOpsE
set_option linter.unusedSimpArgs false
set_option linter.unusedVariables false
/- WALKS over calc: which expressions may be. No condition but that the expression stands in memory. (printed by wip/mkcalcmay.py) -/
namespace Go
open Go.RowKit
theorem ExAt_len {w : World} : ∀ {m : Nat} {t : Ex} {cs : List Value}, ExAt w m t cs → cs.length = 5
  | 0, _, _, h => h.elim
  | m + 1, .mk k n d u kids, cs, h => by obtain ⟨_, _, _, _, a, cap, rfl, _⟩ := h; rfl
theorem all_drop {α : Type} (f : α → Bool) {l : List α} {i : Nat} (h : i < l.length) : (l.drop i).all f = (f l[i] && (l.drop (i + 1)).all f) := by
  rw [List.drop_eq_getElem_cons h]; rfl
theorem five_of_len {cs : List Value} (h : cs.length = 5) : ∃ v0 v1 v2 v3 v4, cs = [v0, v1, v2, v3, v4] := by
  match cs, h with
  | [v0, v1, v2, v3, v4], _ => exact ⟨_, _, _, _, _, rfl⟩
/-- the kids of an expression, as they stand in memory -/
def KidsAt (w : World) (m : Nat) (kids : List Ex) (a : Option Addr) : Prop :=
  kids = [] ∨ ∃ (g off : Nat), a = some ⟨g, off, none⟩ ∧ ∀ (i : Nat) (t : Ex), kids[i]? = some t → ∃ cs', eltAt w g (off + i * 5) cs' ∧ ExAt w m t cs'
end Go
namespace Go.Proofs.Ythmicnjigfcljaa
open Go.RowKit

/-- what calc.may is to answer of every expression of this depth -/
def MayIH (m : Nat) : Prop := ∀ (t : Ex) (cs : List Value) (depth : Nat) (w : World), ExAt w m t cs → 1 ≤ depth → depth ≤ 341 →
    Calls Try.prog 124 #[.agg cs.toArray, .int .i64 (depth : Int)] w (Gives w (.bool (mayE m (341 - depth) t)))

set_option maxRecDepth 100000 in
set_option maxHeartbeats 4000000 in
theorem calcMay_one (n d u : Int) (kids : List Ex) (a : Option Addr) (cap depth : Nat) (w : World) (wn : I64 n) (wd : I64 d) (wu : I64 u) (hlc : kids.length ≤ cap) (hc : cap ≤ 9223372036854775807) (hd1 : 1 ≤ depth) (hd2 : depth ≤ 341) (h0 : ¬ depth = 341) :
    Calls Try.prog 124 #[.agg #[.int .i64 1, .int .i64 n, .int .i64 d, .int .i64 u, .slice a kids.length cap], .int .i64 (depth : Int)] w (Gives w (.bool (decide (kids.length = 0) && (mayB n d && (decide (0 ≤ u) && decide (u ≤ 7)))))) := by
  have t0 : ¬ (340 : Int) < (depth : Int) := by omega
  have c1 := fun w => may_any n d w wn.1 wn.2 wd.1 wd.2
  generalize mayB n d = B at *
  have C1 := Lib.hid c1; clear c1
  by_cases hl : kids.length = 0
  · rw [hl]
    have hl' : (kids.length == 0) = true := by simpa using hl
    clear hl hlc
    cases B
    · simp only [decide_true, Bool.true_and, Bool.false_and]
      generalize kids.length = len at *
      go_enter Try.func124, Try.ntmps124
      go_wp2_with (first | (go_at_call 93; (with_reducible refine (C1.out _).mono ?_); rintro e w1 ⟨rfl, x1, rfl⟩))
      all_goals (go_ret; exact ⟨ret_bool (by simp_all), (by repeat (first | exact grA | apply grB | apply grC | apply grD))⟩)
    · simp only [decide_true, Bool.true_and]
      generalize kids.length = len at *
      by_cases u1 : 0 ≤ u
      · by_cases u2 : u ≤ 7
        · go_enter Try.func124, Try.ntmps124
          go_wp2_with (first | (go_at_call 93; (with_reducible refine (C1.out _).mono ?_); rintro e w1 ⟨rfl, x1, rfl⟩))
          all_goals (go_ret; exact ⟨ret_bool (by first | rfl | (simp_all; done) | (simp_all; intros; omega)), (by repeat (first | exact grA | apply grB | apply grC | apply grD))⟩)
        · have u2' : decide (u ≤ 7) = false := by simpa using u2
          rw [u2', Bool.and_false]
          clear u2'
          go_enter Try.func124, Try.ntmps124
          go_wp2_with (first | (go_at_call 93; (with_reducible refine (C1.out _).mono ?_); rintro e w1 ⟨rfl, x1, rfl⟩))
          all_goals (go_ret; exact ⟨ret_bool (by first | rfl | (simp_all; done) | (simp_all; intros; omega)), (by repeat (first | exact grA | apply grB | apply grC | apply grD))⟩)
      · have u1' : decide (0 ≤ u) = false := by simpa using u1
        rw [u1', Bool.false_and]
        clear u1'
        go_enter Try.func124, Try.ntmps124
        go_wp2_with (first | (go_at_call 93; (with_reducible refine (C1.out _).mono ?_); rintro e w1 ⟨rfl, x1, rfl⟩))
        all_goals (go_ret; exact ⟨ret_bool (by first | rfl | (simp_all; done) | (simp_all; intros; omega)), (by repeat (first | exact grA | apply grB | apply grC | apply grD))⟩)
  · have hl' : (kids.length == 0) = false := by simpa using hl
    have e : decide (kids.length = 0) = false := by simpa using hl
    rw [e]; simp only [Bool.false_and]
    clear hl e
    go_enter Try.func124, Try.ntmps124
    go_wp2_with (first | (go_at_call 93; (with_reducible refine (C1.out _).mono ?_); rintro e w1 ⟨rfl, x1, rfl⟩))
    all_goals (go_ret; exact ⟨ret_bool (by first | rfl | (simp_all; done)), (by repeat (first | exact grA | apply grB | apply grC | apply grD))⟩)

set_option maxRecDepth 100000 in
set_option maxHeartbeats 4000000 in
theorem calcMay_k2 (m : Nat) (IH0 : MayIH m) (kids : List Ex) (a : Option Addr) (cap depth : Nat) (w : World) (hlc : kids.length ≤ cap) (hc : cap ≤ 9223372036854775807) (hkids : KidsAt w m kids a) (hd1 : 1 ≤ depth) (hd2 : depth ≤ 341) (h0 : ¬ depth = 341) :
    Calls Try.prog 124 #[.agg #[.int .i64 2, .int .i64 0, .int .i64 0, .int .i64 0, .slice a kids.length cap], .int .i64 (depth : Int)] w (Gives w (.bool (lenOk 2 kids.length && kids.all (mayE m (341 - depth - 1))))) := by
  have t0 : ¬ (340 : Int) < (depth : Int) := by omega
  have IH := Lib.hid IH0; clear IH0
  have HK := Lib.hid hkids; clear hkids
  generalize hres : (lenOk 2 kids.length && kids.all (mayE m (341 - depth - 1))) = res at *
  have HRES := Lib.hid hres; clear hres
  go_enter Try.func124, Try.ntmps124
  go_wp2_with fail
  go_loopw [6, 7] (fun s6 s7 wr => ∃ (b : Bool) (i : Nat), i ≤ kids.length ∧ s6 = .bool b ∧ s7 = .int .i64 i ∧ Hid ((b && (kids.drop i).all (mayE m (341 - depth - 1))) = res) ∧ w.grows wr ∧ wr.row w.heap.size = some (.cells #[.int .i64 2, .int .i64 0, .int .i64 0, .int .i64 0, .slice a kids.length cap] 26)) (fun _ i _ => kids.length - (intOf i).toNat)
  case atStart => exact ⟨_, 0, Nat.zero_le _, rfl, rfl, by show _ = _; rw [← HRES.out]; congr 1; rw [Bool.eq_iff_iff]; simp [lenOk]; try omega, (by repeat (with_reducible first | assumption | exact grA | apply grB | apply grC | apply grD | refine grE ?_ (by omega) _ | refine grF ?_ (by omega) _ _)), by simp [go_sem]⟩
  case round =>
    obtain ⟨b, i, hi, rfl, rfl, HB, hg, hx⟩ := hrel
    have z1 := row_sz' hx
    by_cases hlt : i < kids.length
    · cases b
      · have e := HB.out
        rw [Bool.false_and] at e
        subst e
        clear HB HRES
        go_wp2_with fail
        go_ret
        exact ⟨rfl, (by repeat (with_reducible first | assumption | exact grA | apply grB | apply grC | apply grD | refine grE ?_ (by omega) _ | refine grF ?_ (by omega) _ _))⟩
      · rcases HK.out with h | ⟨g, off, rfl, hcell⟩
        · rw [h] at hlt; cases hlt
        obtain ⟨cs', hel, hex⟩ := hcell i kids[i] (by simp [hlt])
        have hl5 := ExAt_len hex
        have he := hel.grows hg
        unfold eltAt at he
        rw [hl5] at he
        have zr := lt_sz (hel.grows hg).lt
        have e3 : segOk (off + i * 5) 5 (wr.row g) = true := he.1
        have e4 : segV (off + i * 5) 5 (wr.row g) = .agg cs'.toArray := he.2
        have c1 := fun W (hW : w.grows W) => IH.out kids[i] cs' (depth + 1) W (hex.grows hW) (by omega) (by omega)
        rw [show ((depth + 1 : Nat) : Int) = (depth : Int) + 1 by omega, show 341 - (depth + 1) = 341 - depth - 1 by omega] at c1
        have hB := HB.out
        rw [Bool.true_and, all_drop _ hlt] at hB
        generalize mayE m (341 - depth - 1) kids[i] = B at *
        generalize cs'.toArray = arr at *
        have C1 := Lib.hid c1; have HB' := Lib.hid hB; clear c1 hB HB HRES hel he hex hl5 hcell IH HK
        go_wp2_with (first | (go_at_call 124; (with_reducible refine (C1.out _ (by repeat (with_reducible first | assumption | exact grA | apply grB | apply grC | apply grD | refine grE ?_ (by omega) _ | refine grF ?_ (by omega) _ _))).mono ?_); rintro e w1 ⟨rfl, x1, rfl⟩))
        go_roundw
        case rel => exact ⟨B, i + 1, by omega, rfl, by go_num, HB'.out, (by repeat (with_reducible first | assumption | exact grA | apply grB | apply grC | apply grD | refine grE ?_ (by omega) _ | refine grF ?_ (by omega) _ _)), by simp [go_sem, hx, z1]⟩
        case measure => simp [intOf]; omega
    · obtain rfl : i = kids.length := by omega
      have e := HB.out
      rw [List.drop_length, List.all_nil, Bool.and_true] at e
      subst e
      clear HB HRES
      go_wp2_with fail
      go_ret
      exact ⟨rfl, (by repeat (with_reducible first | assumption | exact grA | apply grB | apply grC | apply grD | refine grE ?_ (by omega) _ | refine grF ?_ (by omega) _ _))⟩

set_option maxRecDepth 100000 in
set_option maxHeartbeats 4000000 in
theorem calcMay_k4 (m : Nat) (IH0 : MayIH m) (kids : List Ex) (a : Option Addr) (cap depth : Nat) (w : World) (hlc : kids.length ≤ cap) (hc : cap ≤ 9223372036854775807) (hkids : KidsAt w m kids a) (hd1 : 1 ≤ depth) (hd2 : depth ≤ 341) (h0 : ¬ depth = 341) :
    Calls Try.prog 124 #[.agg #[.int .i64 4, .int .i64 0, .int .i64 0, .int .i64 0, .slice a kids.length cap], .int .i64 (depth : Int)] w (Gives w (.bool (lenOk 4 kids.length && kids.all (mayE m (341 - depth - 1))))) := by
  have t0 : ¬ (340 : Int) < (depth : Int) := by omega
  have IH := Lib.hid IH0; clear IH0
  have HK := Lib.hid hkids; clear hkids
  generalize hres : (lenOk 4 kids.length && kids.all (mayE m (341 - depth - 1))) = res at *
  have HRES := Lib.hid hres; clear hres
  go_enter Try.func124, Try.ntmps124
  go_wp2_with fail
  go_loopw [6, 7] (fun s6 s7 wr => ∃ (b : Bool) (i : Nat), i ≤ kids.length ∧ s6 = .bool b ∧ s7 = .int .i64 i ∧ Hid ((b && (kids.drop i).all (mayE m (341 - depth - 1))) = res) ∧ w.grows wr ∧ wr.row w.heap.size = some (.cells #[.int .i64 4, .int .i64 0, .int .i64 0, .int .i64 0, .slice a kids.length cap] 26)) (fun _ i _ => kids.length - (intOf i).toNat)
  case atStart => exact ⟨_, 0, Nat.zero_le _, rfl, rfl, by show _ = _; rw [← HRES.out]; congr 1; rw [Bool.eq_iff_iff]; simp [lenOk]; try omega, (by repeat (with_reducible first | assumption | exact grA | apply grB | apply grC | apply grD | refine grE ?_ (by omega) _ | refine grF ?_ (by omega) _ _)), by simp [go_sem]⟩
  case round =>
    obtain ⟨b, i, hi, rfl, rfl, HB, hg, hx⟩ := hrel
    have z1 := row_sz' hx
    by_cases hlt : i < kids.length
    · cases b
      · have e := HB.out
        rw [Bool.false_and] at e
        subst e
        clear HB HRES
        go_wp2_with fail
        go_ret
        exact ⟨rfl, (by repeat (with_reducible first | assumption | exact grA | apply grB | apply grC | apply grD | refine grE ?_ (by omega) _ | refine grF ?_ (by omega) _ _))⟩
      · rcases HK.out with h | ⟨g, off, rfl, hcell⟩
        · rw [h] at hlt; cases hlt
        obtain ⟨cs', hel, hex⟩ := hcell i kids[i] (by simp [hlt])
        have hl5 := ExAt_len hex
        have he := hel.grows hg
        unfold eltAt at he
        rw [hl5] at he
        have zr := lt_sz (hel.grows hg).lt
        have e3 : segOk (off + i * 5) 5 (wr.row g) = true := he.1
        have e4 : segV (off + i * 5) 5 (wr.row g) = .agg cs'.toArray := he.2
        have c1 := fun W (hW : w.grows W) => IH.out kids[i] cs' (depth + 1) W (hex.grows hW) (by omega) (by omega)
        rw [show ((depth + 1 : Nat) : Int) = (depth : Int) + 1 by omega, show 341 - (depth + 1) = 341 - depth - 1 by omega] at c1
        have hB := HB.out
        rw [Bool.true_and, all_drop _ hlt] at hB
        generalize mayE m (341 - depth - 1) kids[i] = B at *
        generalize cs'.toArray = arr at *
        have C1 := Lib.hid c1; have HB' := Lib.hid hB; clear c1 hB HB HRES hel he hex hl5 hcell IH HK
        go_wp2_with (first | (go_at_call 124; (with_reducible refine (C1.out _ (by repeat (with_reducible first | assumption | exact grA | apply grB | apply grC | apply grD | refine grE ?_ (by omega) _ | refine grF ?_ (by omega) _ _))).mono ?_); rintro e w1 ⟨rfl, x1, rfl⟩))
        go_roundw
        case rel => exact ⟨B, i + 1, by omega, rfl, by go_num, HB'.out, (by repeat (with_reducible first | assumption | exact grA | apply grB | apply grC | apply grD | refine grE ?_ (by omega) _ | refine grF ?_ (by omega) _ _)), by simp [go_sem, hx, z1]⟩
        case measure => simp [intOf]; omega
    · obtain rfl : i = kids.length := by omega
      have e := HB.out
      rw [List.drop_length, List.all_nil, Bool.and_true] at e
      subst e
      clear HB HRES
      go_wp2_with fail
      go_ret
      exact ⟨rfl, (by repeat (with_reducible first | assumption | exact grA | apply grB | apply grC | apply grD | refine grE ?_ (by omega) _ | refine grF ?_ (by omega) _ _))⟩

set_option maxRecDepth 100000 in
set_option maxHeartbeats 4000000 in
theorem calcMay_k6 (m : Nat) (IH0 : MayIH m) (kids : List Ex) (a : Option Addr) (cap depth : Nat) (w : World) (hlc : kids.length ≤ cap) (hc : cap ≤ 9223372036854775807) (hkids : KidsAt w m kids a) (hd1 : 1 ≤ depth) (hd2 : depth ≤ 341) (h0 : ¬ depth = 341) :
    Calls Try.prog 124 #[.agg #[.int .i64 6, .int .i64 0, .int .i64 0, .int .i64 0, .slice a kids.length cap], .int .i64 (depth : Int)] w (Gives w (.bool (lenOk 6 kids.length && kids.all (mayE m (341 - depth - 1))))) := by
  have t0 : ¬ (340 : Int) < (depth : Int) := by omega
  have IH := Lib.hid IH0; clear IH0
  have HK := Lib.hid hkids; clear hkids
  generalize hres : (lenOk 6 kids.length && kids.all (mayE m (341 - depth - 1))) = res at *
  have HRES := Lib.hid hres; clear hres
  go_enter Try.func124, Try.ntmps124
  go_wp2_with fail
  go_loopw [6, 7] (fun s6 s7 wr => ∃ (b : Bool) (i : Nat), i ≤ kids.length ∧ s6 = .bool b ∧ s7 = .int .i64 i ∧ Hid ((b && (kids.drop i).all (mayE m (341 - depth - 1))) = res) ∧ w.grows wr ∧ wr.row w.heap.size = some (.cells #[.int .i64 6, .int .i64 0, .int .i64 0, .int .i64 0, .slice a kids.length cap] 26)) (fun _ i _ => kids.length - (intOf i).toNat)
  case atStart => exact ⟨_, 0, Nat.zero_le _, rfl, rfl, by show _ = _; rw [← HRES.out]; congr 1; rw [Bool.eq_iff_iff]; simp [lenOk]; try omega, (by repeat (with_reducible first | assumption | exact grA | apply grB | apply grC | apply grD | refine grE ?_ (by omega) _ | refine grF ?_ (by omega) _ _)), by simp [go_sem]⟩
  case round =>
    obtain ⟨b, i, hi, rfl, rfl, HB, hg, hx⟩ := hrel
    have z1 := row_sz' hx
    by_cases hlt : i < kids.length
    · cases b
      · have e := HB.out
        rw [Bool.false_and] at e
        subst e
        clear HB HRES
        go_wp2_with fail
        go_ret
        exact ⟨rfl, (by repeat (with_reducible first | assumption | exact grA | apply grB | apply grC | apply grD | refine grE ?_ (by omega) _ | refine grF ?_ (by omega) _ _))⟩
      · rcases HK.out with h | ⟨g, off, rfl, hcell⟩
        · rw [h] at hlt; cases hlt
        obtain ⟨cs', hel, hex⟩ := hcell i kids[i] (by simp [hlt])
        have hl5 := ExAt_len hex
        have he := hel.grows hg
        unfold eltAt at he
        rw [hl5] at he
        have zr := lt_sz (hel.grows hg).lt
        have e3 : segOk (off + i * 5) 5 (wr.row g) = true := he.1
        have e4 : segV (off + i * 5) 5 (wr.row g) = .agg cs'.toArray := he.2
        have c1 := fun W (hW : w.grows W) => IH.out kids[i] cs' (depth + 1) W (hex.grows hW) (by omega) (by omega)
        rw [show ((depth + 1 : Nat) : Int) = (depth : Int) + 1 by omega, show 341 - (depth + 1) = 341 - depth - 1 by omega] at c1
        have hB := HB.out
        rw [Bool.true_and, all_drop _ hlt] at hB
        generalize mayE m (341 - depth - 1) kids[i] = B at *
        generalize cs'.toArray = arr at *
        have C1 := Lib.hid c1; have HB' := Lib.hid hB; clear c1 hB HB HRES hel he hex hl5 hcell IH HK
        go_wp2_with (first | (go_at_call 124; (with_reducible refine (C1.out _ (by repeat (with_reducible first | assumption | exact grA | apply grB | apply grC | apply grD | refine grE ?_ (by omega) _ | refine grF ?_ (by omega) _ _))).mono ?_); rintro e w1 ⟨rfl, x1, rfl⟩))
        go_roundw
        case rel => exact ⟨B, i + 1, by omega, rfl, by go_num, HB'.out, (by repeat (with_reducible first | assumption | exact grA | apply grB | apply grC | apply grD | refine grE ?_ (by omega) _ | refine grF ?_ (by omega) _ _)), by simp [go_sem, hx, z1]⟩
        case measure => simp [intOf]; omega
    · obtain rfl : i = kids.length := by omega
      have e := HB.out
      rw [List.drop_length, List.all_nil, Bool.and_true] at e
      subst e
      clear HB HRES
      go_wp2_with fail
      go_ret
      exact ⟨rfl, (by repeat (with_reducible first | assumption | exact grA | apply grB | apply grC | apply grD | refine grE ?_ (by omega) _ | refine grF ?_ (by omega) _ _))⟩

set_option maxRecDepth 100000 in
set_option maxHeartbeats 4000000 in
theorem calcMay_k7 (m : Nat) (IH0 : MayIH m) (kids : List Ex) (a : Option Addr) (cap depth : Nat) (w : World) (hlc : kids.length ≤ cap) (hc : cap ≤ 9223372036854775807) (hkids : KidsAt w m kids a) (hd1 : 1 ≤ depth) (hd2 : depth ≤ 341) (h0 : ¬ depth = 341) :
    Calls Try.prog 124 #[.agg #[.int .i64 7, .int .i64 0, .int .i64 0, .int .i64 0, .slice a kids.length cap], .int .i64 (depth : Int)] w (Gives w (.bool (lenOk 7 kids.length && kids.all (mayE m (341 - depth - 1))))) := by
  have t0 : ¬ (340 : Int) < (depth : Int) := by omega
  have IH := Lib.hid IH0; clear IH0
  have HK := Lib.hid hkids; clear hkids
  generalize hres : (lenOk 7 kids.length && kids.all (mayE m (341 - depth - 1))) = res at *
  have HRES := Lib.hid hres; clear hres
  go_enter Try.func124, Try.ntmps124
  go_wp2_with fail
  go_loopw [6, 7] (fun s6 s7 wr => ∃ (b : Bool) (i : Nat), i ≤ kids.length ∧ s6 = .bool b ∧ s7 = .int .i64 i ∧ Hid ((b && (kids.drop i).all (mayE m (341 - depth - 1))) = res) ∧ w.grows wr ∧ wr.row w.heap.size = some (.cells #[.int .i64 7, .int .i64 0, .int .i64 0, .int .i64 0, .slice a kids.length cap] 26)) (fun _ i _ => kids.length - (intOf i).toNat)
  case atStart => exact ⟨_, 0, Nat.zero_le _, rfl, rfl, by show _ = _; rw [← HRES.out]; congr 1; rw [Bool.eq_iff_iff]; simp [lenOk]; try omega, (by repeat (with_reducible first | assumption | exact grA | apply grB | apply grC | apply grD | refine grE ?_ (by omega) _ | refine grF ?_ (by omega) _ _)), by simp [go_sem]⟩
  case round =>
    obtain ⟨b, i, hi, rfl, rfl, HB, hg, hx⟩ := hrel
    have z1 := row_sz' hx
    by_cases hlt : i < kids.length
    · cases b
      · have e := HB.out
        rw [Bool.false_and] at e
        subst e
        clear HB HRES
        go_wp2_with fail
        go_ret
        exact ⟨rfl, (by repeat (with_reducible first | assumption | exact grA | apply grB | apply grC | apply grD | refine grE ?_ (by omega) _ | refine grF ?_ (by omega) _ _))⟩
      · rcases HK.out with h | ⟨g, off, rfl, hcell⟩
        · rw [h] at hlt; cases hlt
        obtain ⟨cs', hel, hex⟩ := hcell i kids[i] (by simp [hlt])
        have hl5 := ExAt_len hex
        have he := hel.grows hg
        unfold eltAt at he
        rw [hl5] at he
        have zr := lt_sz (hel.grows hg).lt
        have e3 : segOk (off + i * 5) 5 (wr.row g) = true := he.1
        have e4 : segV (off + i * 5) 5 (wr.row g) = .agg cs'.toArray := he.2
        have c1 := fun W (hW : w.grows W) => IH.out kids[i] cs' (depth + 1) W (hex.grows hW) (by omega) (by omega)
        rw [show ((depth + 1 : Nat) : Int) = (depth : Int) + 1 by omega, show 341 - (depth + 1) = 341 - depth - 1 by omega] at c1
        have hB := HB.out
        rw [Bool.true_and, all_drop _ hlt] at hB
        generalize mayE m (341 - depth - 1) kids[i] = B at *
        generalize cs'.toArray = arr at *
        have C1 := Lib.hid c1; have HB' := Lib.hid hB; clear c1 hB HB HRES hel he hex hl5 hcell IH HK
        go_wp2_with (first | (go_at_call 124; (with_reducible refine (C1.out _ (by repeat (with_reducible first | assumption | exact grA | apply grB | apply grC | apply grD | refine grE ?_ (by omega) _ | refine grF ?_ (by omega) _ _))).mono ?_); rintro e w1 ⟨rfl, x1, rfl⟩))
        go_roundw
        case rel => exact ⟨B, i + 1, by omega, rfl, by go_num, HB'.out, (by repeat (with_reducible first | assumption | exact grA | apply grB | apply grC | apply grD | refine grE ?_ (by omega) _ | refine grF ?_ (by omega) _ _)), by simp [go_sem, hx, z1]⟩
        case measure => simp [intOf]; omega
    · obtain rfl : i = kids.length := by omega
      have e := HB.out
      rw [List.drop_length, List.all_nil, Bool.and_true] at e
      subst e
      clear HB HRES
      go_wp2_with fail
      go_ret
      exact ⟨rfl, (by repeat (with_reducible first | assumption | exact grA | apply grB | apply grC | apply grD | refine grE ?_ (by omega) _ | refine grF ?_ (by omega) _ _))⟩

set_option maxRecDepth 100000 in
set_option maxHeartbeats 4000000 in
theorem calcMay_k3 (m : Nat) (IH0 : MayIH m) (kids : List Ex) (a : Option Addr) (cap depth : Nat) (w : World) (hlc : kids.length ≤ cap) (hc : cap ≤ 9223372036854775807) (hkids : KidsAt w m kids a) (hd1 : 1 ≤ depth) (hd2 : depth ≤ 341) (h0 : ¬ depth = 341) :
    Calls Try.prog 124 #[.agg #[.int .i64 3, .int .i64 0, .int .i64 0, .int .i64 0, .slice a kids.length cap], .int .i64 (depth : Int)] w (Gives w (.bool (lenOk 3 kids.length && kids.all (mayE m (341 - depth - 1))))) := by
  have t0 : ¬ (340 : Int) < (depth : Int) := by omega
  have IH := Lib.hid IH0; clear IH0
  have HK := Lib.hid hkids; clear hkids
  generalize hres : (lenOk 3 kids.length && kids.all (mayE m (341 - depth - 1))) = res at *
  have HRES := Lib.hid hres; clear hres
  go_enter Try.func124, Try.ntmps124
  go_wp2_with fail
  go_loopw [6, 7] (fun s6 s7 wr => ∃ (b : Bool) (i : Nat), i ≤ kids.length ∧ s6 = .bool b ∧ s7 = .int .i64 i ∧ Hid ((b && (kids.drop i).all (mayE m (341 - depth - 1))) = res) ∧ w.grows wr ∧ wr.row w.heap.size = some (.cells #[.int .i64 3, .int .i64 0, .int .i64 0, .int .i64 0, .slice a kids.length cap] 26)) (fun _ i _ => kids.length - (intOf i).toNat)
  case atStart => exact ⟨_, 0, Nat.zero_le _, rfl, rfl, by show _ = _; rw [← HRES.out]; congr 1; rw [Bool.eq_iff_iff]; simp [lenOk]; try omega, (by repeat (with_reducible first | assumption | exact grA | apply grB | apply grC | apply grD | refine grE ?_ (by omega) _ | refine grF ?_ (by omega) _ _)), by simp [go_sem]⟩
  case round =>
    obtain ⟨b, i, hi, rfl, rfl, HB, hg, hx⟩ := hrel
    have z1 := row_sz' hx
    by_cases hlt : i < kids.length
    · cases b
      · have e := HB.out
        rw [Bool.false_and] at e
        subst e
        clear HB HRES
        go_wp2_with fail
        go_ret
        exact ⟨rfl, (by repeat (with_reducible first | assumption | exact grA | apply grB | apply grC | apply grD | refine grE ?_ (by omega) _ | refine grF ?_ (by omega) _ _))⟩
      · rcases HK.out with h | ⟨g, off, rfl, hcell⟩
        · rw [h] at hlt; cases hlt
        obtain ⟨cs', hel, hex⟩ := hcell i kids[i] (by simp [hlt])
        have hl5 := ExAt_len hex
        have he := hel.grows hg
        unfold eltAt at he
        rw [hl5] at he
        have zr := lt_sz (hel.grows hg).lt
        have e3 : segOk (off + i * 5) 5 (wr.row g) = true := he.1
        have e4 : segV (off + i * 5) 5 (wr.row g) = .agg cs'.toArray := he.2
        have c1 := fun W (hW : w.grows W) => IH.out kids[i] cs' (depth + 1) W (hex.grows hW) (by omega) (by omega)
        rw [show ((depth + 1 : Nat) : Int) = (depth : Int) + 1 by omega, show 341 - (depth + 1) = 341 - depth - 1 by omega] at c1
        have hB := HB.out
        rw [Bool.true_and, all_drop _ hlt] at hB
        generalize mayE m (341 - depth - 1) kids[i] = B at *
        generalize cs'.toArray = arr at *
        have C1 := Lib.hid c1; have HB' := Lib.hid hB; clear c1 hB HB HRES hel he hex hl5 hcell IH HK
        go_wp2_with (first | (go_at_call 124; (with_reducible refine (C1.out _ (by repeat (with_reducible first | assumption | exact grA | apply grB | apply grC | apply grD | refine grE ?_ (by omega) _ | refine grF ?_ (by omega) _ _))).mono ?_); rintro e w1 ⟨rfl, x1, rfl⟩))
        go_roundw
        case rel => exact ⟨B, i + 1, by omega, rfl, by go_num, HB'.out, (by repeat (with_reducible first | assumption | exact grA | apply grB | apply grC | apply grD | refine grE ?_ (by omega) _ | refine grF ?_ (by omega) _ _)), by simp [go_sem, hx, z1]⟩
        case measure => simp [intOf]; omega
    · obtain rfl : i = kids.length := by omega
      have e := HB.out
      rw [List.drop_length, List.all_nil, Bool.and_true] at e
      subst e
      clear HB HRES
      go_wp2_with fail
      go_ret
      exact ⟨rfl, (by repeat (with_reducible first | assumption | exact grA | apply grB | apply grC | apply grD | refine grE ?_ (by omega) _ | refine grF ?_ (by omega) _ _))⟩

set_option maxRecDepth 100000 in
set_option maxHeartbeats 4000000 in
theorem calcMay_k5 (m : Nat) (IH0 : MayIH m) (kids : List Ex) (a : Option Addr) (cap depth : Nat) (w : World) (hlc : kids.length ≤ cap) (hc : cap ≤ 9223372036854775807) (hkids : KidsAt w m kids a) (hd1 : 1 ≤ depth) (hd2 : depth ≤ 341) (h0 : ¬ depth = 341) :
    Calls Try.prog 124 #[.agg #[.int .i64 5, .int .i64 0, .int .i64 0, .int .i64 0, .slice a kids.length cap], .int .i64 (depth : Int)] w (Gives w (.bool (lenOk 5 kids.length && kids.all (mayE m (341 - depth - 1))))) := by
  have t0 : ¬ (340 : Int) < (depth : Int) := by omega
  have IH := Lib.hid IH0; clear IH0
  have HK := Lib.hid hkids; clear hkids
  generalize hres : (lenOk 5 kids.length && kids.all (mayE m (341 - depth - 1))) = res at *
  have HRES := Lib.hid hres; clear hres
  go_enter Try.func124, Try.ntmps124
  go_wp2_with fail
  go_loopw [6, 7] (fun s6 s7 wr => ∃ (b : Bool) (i : Nat), i ≤ kids.length ∧ s6 = .bool b ∧ s7 = .int .i64 i ∧ Hid ((b && (kids.drop i).all (mayE m (341 - depth - 1))) = res) ∧ w.grows wr ∧ wr.row w.heap.size = some (.cells #[.int .i64 5, .int .i64 0, .int .i64 0, .int .i64 0, .slice a kids.length cap] 26)) (fun _ i _ => kids.length - (intOf i).toNat)
  case atStart => exact ⟨_, 0, Nat.zero_le _, rfl, rfl, by show _ = _; rw [← HRES.out]; congr 1; rw [Bool.eq_iff_iff]; simp [lenOk]; try omega, (by repeat (with_reducible first | assumption | exact grA | apply grB | apply grC | apply grD | refine grE ?_ (by omega) _ | refine grF ?_ (by omega) _ _)), by simp [go_sem]⟩
  case round =>
    obtain ⟨b, i, hi, rfl, rfl, HB, hg, hx⟩ := hrel
    have z1 := row_sz' hx
    by_cases hlt : i < kids.length
    · cases b
      · have e := HB.out
        rw [Bool.false_and] at e
        subst e
        clear HB HRES
        go_wp2_with fail
        go_ret
        exact ⟨rfl, (by repeat (with_reducible first | assumption | exact grA | apply grB | apply grC | apply grD | refine grE ?_ (by omega) _ | refine grF ?_ (by omega) _ _))⟩
      · rcases HK.out with h | ⟨g, off, rfl, hcell⟩
        · rw [h] at hlt; cases hlt
        obtain ⟨cs', hel, hex⟩ := hcell i kids[i] (by simp [hlt])
        have hl5 := ExAt_len hex
        have he := hel.grows hg
        unfold eltAt at he
        rw [hl5] at he
        have zr := lt_sz (hel.grows hg).lt
        have e3 : segOk (off + i * 5) 5 (wr.row g) = true := he.1
        have e4 : segV (off + i * 5) 5 (wr.row g) = .agg cs'.toArray := he.2
        have c1 := fun W (hW : w.grows W) => IH.out kids[i] cs' (depth + 1) W (hex.grows hW) (by omega) (by omega)
        rw [show ((depth + 1 : Nat) : Int) = (depth : Int) + 1 by omega, show 341 - (depth + 1) = 341 - depth - 1 by omega] at c1
        have hB := HB.out
        rw [Bool.true_and, all_drop _ hlt] at hB
        generalize mayE m (341 - depth - 1) kids[i] = B at *
        generalize cs'.toArray = arr at *
        have C1 := Lib.hid c1; have HB' := Lib.hid hB; clear c1 hB HB HRES hel he hex hl5 hcell IH HK
        go_wp2_with (first | (go_at_call 124; (with_reducible refine (C1.out _ (by repeat (with_reducible first | assumption | exact grA | apply grB | apply grC | apply grD | refine grE ?_ (by omega) _ | refine grF ?_ (by omega) _ _))).mono ?_); rintro e w1 ⟨rfl, x1, rfl⟩))
        go_roundw
        case rel => exact ⟨B, i + 1, by omega, rfl, by go_num, HB'.out, (by repeat (with_reducible first | assumption | exact grA | apply grB | apply grC | apply grD | refine grE ?_ (by omega) _ | refine grF ?_ (by omega) _ _)), by simp [go_sem, hx, z1]⟩
        case measure => simp [intOf]; omega
    · obtain rfl : i = kids.length := by omega
      have e := HB.out
      rw [List.drop_length, List.all_nil, Bool.and_true] at e
      subst e
      clear HB HRES
      go_wp2_with fail
      go_ret
      exact ⟨rfl, (by repeat (with_reducible first | assumption | exact grA | apply grB | apply grC | apply grD | refine grE ?_ (by omega) _ | refine grF ?_ (by omega) _ _))⟩

set_option maxRecDepth 100000 in
set_option maxHeartbeats 4000000 in
theorem calcMay_k8 (m : Nat) (IH0 : MayIH m) (kids : List Ex) (a : Option Addr) (cap depth : Nat) (w : World) (hlc : kids.length ≤ cap) (hc : cap ≤ 9223372036854775807) (hkids : KidsAt w m kids a) (hd1 : 1 ≤ depth) (hd2 : depth ≤ 341) (h0 : ¬ depth = 341) :
    Calls Try.prog 124 #[.agg #[.int .i64 8, .int .i64 0, .int .i64 0, .int .i64 0, .slice a kids.length cap], .int .i64 (depth : Int)] w (Gives w (.bool (lenOk 8 kids.length && kids.all (mayE m (341 - depth - 1))))) := by
  have t0 : ¬ (340 : Int) < (depth : Int) := by omega
  have IH := Lib.hid IH0; clear IH0
  have HK := Lib.hid hkids; clear hkids
  generalize hres : (lenOk 8 kids.length && kids.all (mayE m (341 - depth - 1))) = res at *
  have HRES := Lib.hid hres; clear hres
  go_enter Try.func124, Try.ntmps124
  go_wp2_with fail
  go_loopw [6, 7] (fun s6 s7 wr => ∃ (b : Bool) (i : Nat), i ≤ kids.length ∧ s6 = .bool b ∧ s7 = .int .i64 i ∧ Hid ((b && (kids.drop i).all (mayE m (341 - depth - 1))) = res) ∧ w.grows wr ∧ wr.row w.heap.size = some (.cells #[.int .i64 8, .int .i64 0, .int .i64 0, .int .i64 0, .slice a kids.length cap] 26)) (fun _ i _ => kids.length - (intOf i).toNat)
  case atStart => exact ⟨_, 0, Nat.zero_le _, rfl, rfl, by show _ = _; rw [← HRES.out]; congr 1; rw [Bool.eq_iff_iff]; simp [lenOk]; try omega, (by repeat (with_reducible first | assumption | exact grA | apply grB | apply grC | apply grD | refine grE ?_ (by omega) _ | refine grF ?_ (by omega) _ _)), by simp [go_sem]⟩
  case round =>
    obtain ⟨b, i, hi, rfl, rfl, HB, hg, hx⟩ := hrel
    have z1 := row_sz' hx
    by_cases hlt : i < kids.length
    · cases b
      · have e := HB.out
        rw [Bool.false_and] at e
        subst e
        clear HB HRES
        go_wp2_with fail
        go_ret
        exact ⟨rfl, (by repeat (with_reducible first | assumption | exact grA | apply grB | apply grC | apply grD | refine grE ?_ (by omega) _ | refine grF ?_ (by omega) _ _))⟩
      · rcases HK.out with h | ⟨g, off, rfl, hcell⟩
        · rw [h] at hlt; cases hlt
        obtain ⟨cs', hel, hex⟩ := hcell i kids[i] (by simp [hlt])
        have hl5 := ExAt_len hex
        have he := hel.grows hg
        unfold eltAt at he
        rw [hl5] at he
        have zr := lt_sz (hel.grows hg).lt
        have e3 : segOk (off + i * 5) 5 (wr.row g) = true := he.1
        have e4 : segV (off + i * 5) 5 (wr.row g) = .agg cs'.toArray := he.2
        have c1 := fun W (hW : w.grows W) => IH.out kids[i] cs' (depth + 1) W (hex.grows hW) (by omega) (by omega)
        rw [show ((depth + 1 : Nat) : Int) = (depth : Int) + 1 by omega, show 341 - (depth + 1) = 341 - depth - 1 by omega] at c1
        have hB := HB.out
        rw [Bool.true_and, all_drop _ hlt] at hB
        generalize mayE m (341 - depth - 1) kids[i] = B at *
        generalize cs'.toArray = arr at *
        have C1 := Lib.hid c1; have HB' := Lib.hid hB; clear c1 hB HB HRES hel he hex hl5 hcell IH HK
        go_wp2_with (first | (go_at_call 124; (with_reducible refine (C1.out _ (by repeat (with_reducible first | assumption | exact grA | apply grB | apply grC | apply grD | refine grE ?_ (by omega) _ | refine grF ?_ (by omega) _ _))).mono ?_); rintro e w1 ⟨rfl, x1, rfl⟩))
        go_roundw
        case rel => exact ⟨B, i + 1, by omega, rfl, by go_num, HB'.out, (by repeat (with_reducible first | assumption | exact grA | apply grB | apply grC | apply grD | refine grE ?_ (by omega) _ | refine grF ?_ (by omega) _ _)), by simp [go_sem, hx, z1]⟩
        case measure => simp [intOf]; omega
    · obtain rfl : i = kids.length := by omega
      have e := HB.out
      rw [List.drop_length, List.all_nil, Bool.and_true] at e
      subst e
      clear HB HRES
      go_wp2_with fail
      go_ret
      exact ⟨rfl, (by repeat (with_reducible first | assumption | exact grA | apply grB | apply grC | apply grD | refine grE ?_ (by omega) _ | refine grF ?_ (by omega) _ _))⟩

set_option maxRecDepth 100000 in
set_option maxHeartbeats 4000000 in
theorem calcMay_kx (k : Int) (len : Nat) (a : Option Addr) (cap depth : Nat) (w : World) (wk : I64 k) (hlc : len ≤ cap) (hc : cap ≤ 9223372036854775807) (hd1 : 1 ≤ depth) (hd2 : depth ≤ 341) (h0 : ¬ depth = 341) (k1 : (k == 1) = false) (hk : ¬ (k = 2 ∨ k = 4 ∨ k = 6 ∨ k = 7 ∨ k = 3 ∨ k = 5 ∨ k = 8)) :
    Calls Try.prog 124 #[.agg #[.int .i64 k, .int .i64 0, .int .i64 0, .int .i64 0, .slice a len cap], .int .i64 (depth : Int)] w (Gives w (.bool false)) := by
  have t0 : ¬ (340 : Int) < (depth : Int) := by omega
  have b2 : (k == 2) = false := by simp; omega
  have b4 : (k == 4) = false := by simp; omega
  have b6 : (k == 6) = false := by simp; omega
  have b7 : (k == 7) = false := by simp; omega
  have b3 : (k == 3) = false := by simp; omega
  have b5 : (k == 5) = false := by simp; omega
  have b8 : (k == 8) = false := by simp; omega
  clear hk
  go_enter Try.func124, Try.ntmps124
  go_wp2_with fail
  go_loopw [6, 7] (fun s6 s7 wr => s6 = .bool false ∧ s7 = .int .i64 0 ∧ w.grows wr) (fun _ _ _ => 0)
  case atStart => exact ⟨rfl, rfl, (by repeat (with_reducible first | assumption | exact grA | apply grB | apply grC | apply grD | refine grE ?_ (by omega) _ | refine grF ?_ (by omega) _ _))⟩
  case round =>
    obtain ⟨rfl, rfl, hg⟩ := hrel
    go_wp2_with fail
    all_goals (go_ret; exact ⟨rfl, (by repeat (with_reducible first | assumption | exact grA | apply grB | apply grC | apply grD | refine grE ?_ (by omega) _ | refine grF ?_ (by omega) _ _))⟩)

set_option maxRecDepth 100000 in
set_option maxHeartbeats 4000000 in
theorem calcMay_no (k n d u : Int) (len : Nat) (a : Option Addr) (cap depth : Nat) (w : World) (wk : I64 k) (wn : I64 n) (wd : I64 d) (wu : I64 u) (hlc : len ≤ cap) (hc : cap ≤ 9223372036854775807) (hd1 : 1 ≤ depth) (hd2 : depth ≤ 341) (h0 : ¬ depth = 341) (k1 : (k == 1) = false) (h : (decide (n = 0) && decide (d = 0) && decide (u = 0)) = false) :
    Calls Try.prog 124 #[.agg #[.int .i64 k, .int .i64 n, .int .i64 d, .int .i64 u, .slice a len cap], .int .i64 (depth : Int)] w (Gives w (.bool false)) := by
  have t0 : ¬ (340 : Int) < (depth : Int) := by omega
  have hb : (n == 0) = false ∨ ((n == 0) = true ∧ (d == 0) = false) ∨ (n = 0 ∧ d = 0 ∧ (u == 0) = false) := by
    by_cases h1 : n = 0
    · by_cases h2 : d = 0
      · by_cases h3 : u = 0
        · simp [h1, h2, h3] at h
        · exact .inr (.inr ⟨h1, h2, by simpa using h3⟩)
      · exact .inr (.inl ⟨by simpa using h1, by simpa using h2⟩)
    · exact .inl (by simpa using h1)
  clear h
  rcases hb with b1 | ⟨b1, b2⟩ | ⟨rfl, rfl, b3⟩
  all_goals
    go_enter Try.func124, Try.ntmps124
    go_wp2_with fail
    go_ret
    exact ⟨rfl, (by repeat (first | exact grA | apply grB | apply grC | apply grD))⟩

set_option maxRecDepth 100000 in
set_option maxHeartbeats 4000000 in
theorem calcMay_deep (k n d u : Int) (len : Nat) (a : Option Addr) (cap : Nat) (w : World) (hlc : len ≤ cap) (hc : cap ≤ 9223372036854775807) :
    Calls Try.prog 124 #[.agg #[.int .i64 k, .int .i64 n, .int .i64 d, .int .i64 u, .slice a len cap], .int .i64 341] w (Gives w (.bool false)) := by
  go_enter Try.func124, Try.ntmps124
  go_wp2_with fail
  go_ret
  exact ⟨rfl, (by repeat (first | exact grA | apply grB | apply grC | apply grD))⟩

theorem calcMay_any : ∀ (m : Nat), MayIH m
  | 0 => fun _ _ _ _ h _ _ => h.elim
  | m + 1 => by
    intro t cs depth w h hd1 hd2
    have IH := calcMay_any m
    obtain ⟨k, n, d, u, kids⟩ := t
    obtain ⟨wk, wn, wd, wu, a, cap, rfl, hlc, hc, hkids⟩ := h
    show Calls Try.prog 124 #[.agg #[.int .i64 k, .int .i64 n, .int .i64 d, .int .i64 u, .slice a kids.length cap], .int .i64 (depth : Int)] w _
    unfold mayE
    by_cases h0 : depth = 341
    · rw [if_pos (by omega)]; subst h0
      exact calcMay_deep k n d u kids.length a cap w hlc hc
    rw [if_neg (by omega)]
    by_cases hk1 : k = 1
    · rw [if_pos hk1]; subst hk1
      exact calcMay_one n d u kids a cap depth w wn wd wu hlc hc hd1 hd2 h0
    · rw [if_neg hk1]
      have k1 : (k == 1) = false := by simpa using hk1
      by_cases hnd : n = 0 ∧ d = 0 ∧ u = 0
      · obtain ⟨rfl, rfl, rfl⟩ := hnd
        simp only [decide_true, Bool.true_and]
        by_cases hk : k = 2 ∨ k = 4 ∨ k = 6 ∨ k = 7 ∨ k = 3 ∨ k = 5 ∨ k = 8
        · rcases hk with rfl | rfl | rfl | rfl | rfl | rfl | rfl
          · exact calcMay_k2 m IH kids a cap depth w hlc hc hkids hd1 hd2 h0
          · exact calcMay_k4 m IH kids a cap depth w hlc hc hkids hd1 hd2 h0
          · exact calcMay_k6 m IH kids a cap depth w hlc hc hkids hd1 hd2 h0
          · exact calcMay_k7 m IH kids a cap depth w hlc hc hkids hd1 hd2 h0
          · exact calcMay_k3 m IH kids a cap depth w hlc hc hkids hd1 hd2 h0
          · exact calcMay_k5 m IH kids a cap depth w hlc hc hkids hd1 hd2 h0
          · exact calcMay_k8 m IH kids a cap depth w hlc hc hkids hd1 hd2 h0
        · have e : lenOk k kids.length = false := by unfold lenOk; rw [if_neg (by omega), if_neg (by omega), if_neg (by omega)]
          rw [e, Bool.false_and]
          exact calcMay_kx k kids.length a cap depth w wk hlc hc hd1 hd2 h0 k1 hk
      · have e : (decide (n = 0) && decide (d = 0) && decide (u = 0)) = false := by
          rw [Bool.eq_false_iff]; intro h; simp at h; exact hnd ⟨h.1.1, h.1.2, h.2⟩
        rw [← Bool.and_assoc, e, Bool.false_and]
        exact calcMay_no k n d u kids.length a cap depth w wk wn wd wu hlc hc hd1 hd2 h0 k1 e

set_option maxRecDepth 100000 in
theorem calcMay2_any (m : Nat) (t : Ex) (cs : List Value) (w : World) (h : ExAt w m t cs) : Calls Try.prog 106 #[.agg cs.toArray] w (Gives w (.bool (mayE m 340 t))) := by
  have c1 : ∀ W, w.grows W → Calls Try.prog 124 #[.agg cs.toArray, .int .i64 1] W (Gives W (.bool (mayE m 340 t))) :=
    fun W hW => calcMay_any m t cs 1 W (h.grows hW) (by omega) (by omega)
  obtain ⟨v0, v1, v2, v3, v4, rfl⟩ := five_of_len (ExAt_len h)
  generalize mayE m 340 t = B at c1 ⊢
  have C1 := Lib.hid c1; clear c1 h
  go_enter Try.func106, Try.ntmps106
  go_wp2_with (first | (go_at_call 124; (with_reducible refine (C1.out _ (by repeat (with_reducible first | assumption | exact grA | apply grB | apply grC | apply grD | refine grE ?_ (by omega) _ | refine grF ?_ (by omega) _ _))).mono ?_); rintro e w1 ⟨rfl, x1, rfl⟩))
  go_ret
  exact ⟨rfl, (by repeat (with_reducible first | assumption | exact grA | apply grB | apply grC | apply grD | refine grE ?_ (by omega) _ | refine grF ?_ (by omega) _ _))⟩

end Go.Proofs.Ythmicnjigfcljaa

/- WALKS over calc: of which kind an expression is. No condition but that the expression stands in memory. -/
namespace Go
open Go.RowKit
theorem ExAt_vals {w : World} : ∀ {m : Nat} {t : Ex} {cs : List Value}, ExAt w m t cs → ∃ k n d u a len cap, cs = exL k n d u a len cap
  | 0, _, _, h => h.elim
  | m + 1, .mk k n d u kids, cs, h => by obtain ⟨_, _, _, _, a, cap, rfl, _⟩ := h; exact ⟨_, _, _, _, _, _, _, rfl⟩
/-- the kinds of kids, one behind the other -/
def kgo (k : Int) (n : Nat) : Nat → List Int → Int
  | c, [] => if c = 0 then 1 else if (k = 4 ∧ c = 1) ∨ (k ≠ 4 ∧ k ≠ 5 ∧ c = n) then 2 else 0
  | c, x :: l => if x = 0 then 0 else kgo k n (if x = 2 then c + 1 else c) l
theorem kgo_eq (k : Int) (n : Nat) : ∀ (l : List Int) (c : Nat), kgo k n c l = if l.any (· == 0) then 0 else kgo k n (c + l.countP (· == 2)) []
  | [], c => rfl
  | x :: l, c => by
    show (if x = 0 then 0 else kgo k n (if x = 2 then c + 1 else c) l) = _
    by_cases h : x = 0
    · rw [if_pos h, if_pos (by simp [h])]
    · rw [if_neg h, kgo_eq k n l]
      have e : (x :: l).any (· == 0) = l.any (· == 0) := by simp [h]
      rw [e, List.countP_cons]
      by_cases h2 : x = 2
      · have : (x == 2) = true := by simpa using h2
        simp only [h2, this, if_true]; congr 2; simp; omega
      · have : (x == 2) = false := by simpa using h2
        simp only [h2, this, if_false, Nat.add_zero, Bool.false_eq_true]
theorem kindE_go (m : Nat) (k n d u : Int) (kids : List Ex) (h : k ≠ 1) : kindE (m + 1) (.mk k n d u kids) = kgo k kids.length 0 (kids.map (kindE m)) := by
  rw [kgo_eq, Nat.zero_add]
  show (if k = 1 then _ else _) = _
  rw [if_neg h]; rfl
end Go
namespace Go.Proofs.Ythmicnjigfcljaa
open Go.RowKit

set_option maxRecDepth 100000 in
set_option maxHeartbeats 4000000 in
theorem calcKind0_any : ∀ (m : Nat) (t : Ex) (cs : List Value) (w : World), ExAt w m t cs → Calls Try.prog 107 #[.agg cs.toArray] w (Gives w (.int .i64 (kindE m t)))
  | 0, _, _, _, h => h.elim
  | m + 1, .mk k n d u kids, cs, w, h => by
    have IH := Lib.hid (calcKind0_any m)
    obtain ⟨wk, wn, wd, wu, a, cap, rfl, hlc, hc, hkids⟩ := h
    show Calls Try.prog 107 #[.agg #[.int .i64 k, .int .i64 n, .int .i64 d, .int .i64 u, .slice a kids.length cap]] w _
    by_cases hk1 : k = 1
    · have e : kindE (m + 1) (.mk k n d u kids) = if u = 0 then 1 else 2 := by show (if k = 1 then _ else _) = _; rw [if_pos hk1]
      rw [e]; subst hk1
      clear IH hkids e
      by_cases hu : u = 0
      · rw [if_pos hu]; subst hu
        go_enter Try.func107, Try.ntmps107
        go_wp2_with fail
        go_ret
        exact ⟨rfl, (by repeat (first | exact grA | apply grB | apply grC | apply grD))⟩
      · have hu' : (u == 0) = false := by simpa using hu
        rw [if_neg hu]; clear hu
        go_enter Try.func107, Try.ntmps107
        go_wp2_with fail
        go_ret
        exact ⟨rfl, (by repeat (first | exact grA | apply grB | apply grC | apply grD))⟩
    · rw [kindE_go m k n d u kids hk1]
      have k1 : (k == 1) = false := by simpa using hk1
      have hmap : (kids.map (kindE m)).length = kids.length := by simp
      have hget : ∀ i (h : i < kids.length), (kids.map (kindE m)).drop i = kindE m kids[i] :: (kids.map (kindE m)).drop (i + 1) := fun i h => by
        rw [List.drop_eq_getElem_cons (by simpa using h)]; simp
      generalize hL : kids.map (kindE m) = L at *
      generalize hres : kgo k kids.length 0 L = res at *
      have HK := Lib.hid hkids; have HRES := Lib.hid hres; have HM := Lib.hid hmap; have HGET := Lib.hid hget
      clear hkids hres hmap hget hL hk1
      go_enter Try.func107, Try.ntmps107
      go_wp2_with fail
      go_loopw [15, 3] (fun s15 s3 wr => ∃ (i c : Nat), i ≤ kids.length ∧ c ≤ i ∧ s15 = .int .i64 i ∧ s3 = .int .i64 c ∧ Hid (kgo k kids.length c (L.drop i) = res) ∧ w.grows wr ∧ wr.row w.heap.size = some (.cells #[.int .i64 k, .int .i64 n, .int .i64 d, .int .i64 u, .slice a kids.length cap] 26)) (fun i _ _ => kids.length - (intOf i).toNat)
      case atStart => exact ⟨0, 0, Nat.zero_le _, Nat.le_refl _, rfl, rfl, HRES.out, (by repeat (with_reducible first | assumption | exact grA | apply grB | apply grC | apply grD | refine grE ?_ (by omega) _ | refine grF ?_ (by omega) _ _)), by simp [go_sem]⟩
      case round =>
        obtain ⟨i, c, hi, hci, rfl, rfl, HB, hg, hx⟩ := hrel
        have z1 := row_sz' hx
        by_cases hlt : i < kids.length
        · rcases HK.out with h | ⟨g, off, rfl, hcell⟩
          · rw [h] at hlt; cases hlt
          obtain ⟨cs', hel, hex⟩ := hcell i kids[i] (by simp [hlt])
          have hl5 := ExAt_len hex
          have he := hel.grows hg
          unfold eltAt at he
          rw [hl5] at he
          have zr := lt_sz (hel.grows hg).lt
          have e3 : segOk (off + i * 5) 5 (wr.row g) = true := he.1
          have e4 : segV (off + i * 5) 5 (wr.row g) = .agg cs'.toArray := he.2
          have c1 := fun W (hW : w.grows W) => IH.out kids[i] cs' W (hex.grows hW)
          have hB := HB.out
          rw [HGET.out i hlt] at hB
          change (if kindE m kids[i] = 0 then 0 else kgo k kids.length (if kindE m kids[i] = 2 then c + 1 else c) (L.drop (i + 1))) = res at hB
          obtain ⟨v0, v1, v2, v3, va, vl, vc, rfl⟩ := ExAt_vals hex
          generalize kindE m kids[i] = K at *
          have C1 := Lib.hid c1; clear c1 HB HRES hel he hex hl5 hcell IH HK HM HGET
          by_cases hK0 : K = 0
          · rw [if_pos hK0] at hB
            subst hB; subst hK0
            go_wp2_with (first | (go_at_call 107; (with_reducible refine (C1.out _ (by repeat (with_reducible first | assumption | exact grA | apply grB | apply grC | apply grD | refine grE ?_ (by omega) _ | refine grF ?_ (by omega) _ _))).mono ?_); rintro e w1 ⟨rfl, x1, rfl⟩))
            go_ret
            exact ⟨rfl, (by repeat (with_reducible first | assumption | exact grA | apply grB | apply grC | apply grD | refine grE ?_ (by omega) _ | refine grF ?_ (by omega) _ _))⟩
          · have hK0' : (K == 0) = false := by simpa using hK0
            rw [if_neg hK0] at hB; clear hK0
            by_cases hK2 : K = 2
            · rw [if_pos hK2] at hB; subst hK2
              have HB' := Lib.hid hB; clear hB
              go_wp2_with (first | (go_at_call 107; (with_reducible refine (C1.out _ (by repeat (with_reducible first | assumption | exact grA | apply grB | apply grC | apply grD | refine grE ?_ (by omega) _ | refine grF ?_ (by omega) _ _))).mono ?_); rintro e w1 ⟨rfl, x1, rfl⟩))
              go_roundw
              case rel => exact ⟨i + 1, c + 1, by omega, by omega, by go_num, by go_num, HB'.out, (by repeat (with_reducible first | assumption | exact grA | apply grB | apply grC | apply grD | refine grE ?_ (by omega) _ | refine grF ?_ (by omega) _ _)), by simp [go_sem, hx, z1]⟩
              case measure => simp [intOf]; omega
            · have hK2' : (K == 2) = false := by simpa using hK2
              rw [if_neg hK2] at hB; clear hK2
              have HB' := Lib.hid hB; clear hB
              go_wp2_with (first | (go_at_call 107; (with_reducible refine (C1.out _ (by repeat (with_reducible first | assumption | exact grA | apply grB | apply grC | apply grD | refine grE ?_ (by omega) _ | refine grF ?_ (by omega) _ _))).mono ?_); rintro e w1 ⟨rfl, x1, rfl⟩))
              go_roundw
              case rel => exact ⟨i + 1, c, by omega, by omega, by go_num, rfl, HB'.out, (by repeat (with_reducible first | assumption | exact grA | apply grB | apply grC | apply grD | refine grE ?_ (by omega) _ | refine grF ?_ (by omega) _ _)), by simp [go_sem, hx, z1]⟩
              case measure => simp [intOf]; omega
        · obtain rfl : i = kids.length := by omega
          have e := HB.out
          rw [← HM.out, List.drop_length, HM.out] at e
          change (if c = 0 then 1 else if (k = 4 ∧ c = 1) ∨ (k ≠ 4 ∧ k ≠ 5 ∧ c = kids.length) then 2 else 0) = res at e
          clear HB HRES HK HM HGET IH hlt hi
          generalize kids.length = len at *
          by_cases c0 : c = 0
          · rw [if_pos c0] at e; subst e; subst c0
            go_wp2_with fail
            go_ret
            exact ⟨rfl, (by repeat (with_reducible first | assumption | exact grA | apply grB | apply grC | apply grD | refine grE ?_ (by omega) _ | refine grF ?_ (by omega) _ _))⟩
          · rw [if_neg c0] at e
            have c0' : ((c : Int) == 0) = false := by rw [beq_eq_false_iff_ne]; omega
            have c0'' : (c == 0) = false := by simpa using c0
            by_cases k4 : k = 4
            · subst k4
              by_cases c1 : c = 1
              · rw [if_pos (.inl ⟨rfl, c1⟩)] at e; subst e; subst c1
                go_wp2_with fail
                go_ret
                exact ⟨rfl, (by repeat (with_reducible first | assumption | exact grA | apply grB | apply grC | apply grD | refine grE ?_ (by omega) _ | refine grF ?_ (by omega) _ _))⟩
              · rw [if_neg (by rintro (⟨_, h⟩ | ⟨h, _⟩); exact c1 h; exact h rfl)] at e; subst e
                have c1' : ((c : Int) == 1) = false := by rw [beq_eq_false_iff_ne]; omega
                have c1'' : (c == 1) = false := by simpa using c1
                go_wp2_with fail
                go_ret
                exact ⟨rfl, (by repeat (with_reducible first | assumption | exact grA | apply grB | apply grC | apply grD | refine grE ?_ (by omega) _ | refine grF ?_ (by omega) _ _))⟩
            · have k4' : (k == 4) = false := by simpa using k4
              have k4'' : (k != 4) = true := by simpa using k4
              by_cases k5 : k = 5
              · subst k5
                rw [if_neg (by rintro (⟨h, _⟩ | ⟨_, h, _⟩); exact k4 h; exact h rfl)] at e; subst e
                go_wp2_with fail
                go_ret
                exact ⟨rfl, (by repeat (with_reducible first | assumption | exact grA | apply grB | apply grC | apply grD | refine grE ?_ (by omega) _ | refine grF ?_ (by omega) _ _))⟩
              · have k5' : (k == 5) = false := by simpa using k5
                have k5'' : (k != 5) = true := by simpa using k5
                by_cases cl : c = len
                · rw [if_pos (.inr ⟨k4, k5, cl⟩)] at e; subst e; subst cl
                  clear k4 k5
                  go_wp2_with fail
                  go_ret
                  exact ⟨rfl, (by repeat (with_reducible first | assumption | exact grA | apply grB | apply grC | apply grD | refine grE ?_ (by omega) _ | refine grF ?_ (by omega) _ _))⟩
                · rw [if_neg (by rintro (⟨h, _⟩ | ⟨_, _, h⟩); exact k4 h; exact cl h)] at e; subst e
                  have cl' : ((c : Int) == (len : Int)) = false := by rw [beq_eq_false_iff_ne]; omega
                  have cl'' : (c == len) = false := by simpa using cl
                  clear k4 k5 cl
                  go_wp2_with fail
                  go_ret
                  exact ⟨rfl, (by repeat (with_reducible first | assumption | exact grA | apply grB | apply grC | apply grD | refine grE ?_ (by omega) _ | refine grF ?_ (by omega) _ _))⟩

set_option maxRecDepth 100000 in
set_option maxHeartbeats 4000000 in
/-- the kind that calc.Kind gives, and its word: 0 taken, 1 no expression, 4 no kind -/
theorem calcKind_any (m : Nat) (t : Ex) (cs : List Value) (w : World) (h : ExAt w m t cs) :
    Calls Try.prog 81 #[.agg cs.toArray] w (Gives w (.tuple #[.int .i64 (if mayE m 340 t then kindE m t else 0), .int .i64 (if mayE m 340 t then (if kindE m t = 0 then 4 else 0) else 1)])) := by
  have c1 := fun W (hW : w.grows W) => calcMay2_any m t cs W (h.grows hW)
  have c2 := fun W (hW : w.grows W) => calcKind0_any m t cs W (h.grows hW)
  obtain ⟨v0, v1, v2, v3, va, vl, vc, rfl⟩ := ExAt_vals h
  generalize mayE m 340 t = B at c1 ⊢
  generalize kindE m t = K at c2 ⊢
  have C1 := Lib.hid c1; have C2 := Lib.hid c2; clear c1 c2 h
  cases B
  · rw [if_neg (by simp), if_neg (by simp)]
    go_enter Try.func81, Try.ntmps81
    go_wp2_with (first | (go_at_call 106; (with_reducible refine (C1.out _ (by repeat (with_reducible first | assumption | exact grA | apply grB | apply grC | apply grD | refine grE ?_ (by omega) _ | refine grF ?_ (by omega) _ _))).mono ?_); rintro e w1 ⟨rfl, x1, rfl⟩))
    go_ret2
    exact ⟨rfl, (by repeat (with_reducible first | assumption | exact grA | apply grB | apply grC | apply grD | refine grE ?_ (by omega) _ | refine grF ?_ (by omega) _ _))⟩
  · rw [if_pos rfl, if_pos rfl]
    by_cases hK : K = 0
    · subst hK
      rw [if_pos rfl]
      go_enter Try.func81, Try.ntmps81
      go_wp2_with (first | (go_at_call 106; (with_reducible refine (C1.out _ (by repeat (with_reducible first | assumption | exact grA | apply grB | apply grC | apply grD | refine grE ?_ (by omega) _ | refine grF ?_ (by omega) _ _))).mono ?_); rintro e w1 ⟨rfl, x1, rfl⟩) | (go_at_call 107; (with_reducible refine (C2.out _ (by repeat (with_reducible first | assumption | exact grA | apply grB | apply grC | apply grD | refine grE ?_ (by omega) _ | refine grF ?_ (by omega) _ _))).mono ?_); rintro e w1 ⟨rfl, x2, rfl⟩))
      go_ret2
      exact ⟨rfl, (by repeat (with_reducible first | assumption | exact grA | apply grB | apply grC | apply grD | refine grE ?_ (by omega) _ | refine grF ?_ (by omega) _ _))⟩
    · rw [if_neg hK]
      have hK' : (K == 0) = false := by simpa using hK
      clear hK
      go_enter Try.func81, Try.ntmps81
      go_wp2_with (first | (go_at_call 106; (with_reducible refine (C1.out _ (by repeat (with_reducible first | assumption | exact grA | apply grB | apply grC | apply grD | refine grE ?_ (by omega) _ | refine grF ?_ (by omega) _ _))).mono ?_); rintro e w1 ⟨rfl, x1, rfl⟩) | (go_at_call 107; (with_reducible refine (C2.out _ (by repeat (with_reducible first | assumption | exact grA | apply grB | apply grC | apply grD | refine grE ?_ (by omega) _ | refine grF ?_ (by omega) _ _))).mono ?_); rintro e w1 ⟨rfl, x2, rfl⟩))
      go_ret2
      exact ⟨rfl, (by repeat (with_reducible first | assumption | exact grA | apply grB | apply grC | apply grD | refine grE ?_ (by omega) _ | refine grF ?_ (by omega) _ _))⟩

end Go.Proofs.Ythmicnjigfcljaa
