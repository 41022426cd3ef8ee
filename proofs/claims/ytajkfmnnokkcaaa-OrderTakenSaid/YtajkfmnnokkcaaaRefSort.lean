/- WALKS over jalousieref20 and the statements' own package: may all be; each place where as many stand ahead of it; are two rows of numbers the same. No condition but that the claims stand in memory and are not too many. -/
import Derived.Test.YtajkfmnnokkcaaaSort
set_option linter.unusedSimpArgs false
set_option linter.unusedVariables false
namespace Go
open Go.RowKit
open Classical in
/-- how many stand ahead of a place -/
noncomputable def aheadN (l : List Cl) (m i : Nat) : Nat := (List.range m).countP (fun k : Nat => decide (ltC (atC l) (k : Int) (i : Int)))
theorem aheadN_succ (l : List Cl) (m i : Nat) (b : Bool) (hb : b = true ↔ ltC (atC l) (m : Int) (i : Int)) : aheadN l (m + 1) i = aheadN l m i + if b then 1 else 0 := by
  unfold aheadN
  rw [List.range_succ, List.countP_append]
  congr 1
  by_cases h : ltC (atC l) (m : Int) (i : Int)
  · rw [hb.2 h]; simp [h]
  · rw [Bool.eq_false_iff.2 fun e => h (hb.1 e)]; simp [h]
theorem aheadN_le (l : List Cl) (m i : Nat) : aheadN l m i ≤ m := by
  unfold aheadN
  exact Nat.le_trans List.countP_le_length (by simp)
theorem Run.ahead {l : List Cl} {f : Nat → Int} {n : Nat} (h : Run (ltC (atC l)) f 0 n) {i : Nat} (hi : i < n) : aheadN l n i < n ∧ f (aheadN l n i) = (i : Int) :=
  rank (ltC_trans _) (ltC_irr _) h.1 (fun k hk => by obtain ⟨j, _, j2, e⟩ := h.2.1 k (Nat.zero_le _) hk; exact ⟨j, j2, e⟩) (fun j hj => by obtain ⟨k, _, k2, e⟩ := h.2.2 j (Nat.zero_le _) hj; exact ⟨k, k2, e⟩) hi
theorem Run.inj {l : List Cl} {f : Nat → Int} {n : Nat} (h : Run (ltC (atC l)) f 0 n) {p q : Nat} (hp : p < n) (hq : q < n) (e : f p = f q) : p = q := by
  rcases Nat.lt_trichotomy p q with h1 | h1 | h1
  · have := h.1 p q (Nat.zero_le _) h1 hq; rw [e] at this; exact (ltC_irr _ _ this).elim
  · exact h1
  · have := h.1 q p (Nat.zero_le _) h1 hp; rw [e] at this; exact (ltC_irr _ _ this).elim
theorem Run.eq {l : List Cl} {f F : Nat → Int} {n : Nat} (h : Run (ltC (atC l)) f 0 n) (hF : ∀ j, j < n → F (aheadN l n j) = (j : Int)) : intsL F n = intsL f n := by
  unfold intsL
  refine List.map_congr_left fun p hp => ?_
  have hp := List.mem_range.1 hp
  obtain ⟨j, _, j2, e⟩ := h.2.1 p (Nat.zero_le _) hp
  obtain ⟨a1, a2⟩ := h.ahead j2
  have := h.inj hp a1 (e.trans a2.symm)
  rw [e, ← hF j j2, ← this]
theorem weak_lo {x y : Cl} (hx : x.may = true) (hy : y.may = true) : x.weak y = true ↔ x.lo y := by
  rw [← against_weak x y hx hy, decide_eq_true_eq, against_neg]
/-- what the document asks, of two places -/
theorem asked_lt (f : Int → Cl) (k i : Nat) (hx : (f k).may = true) (hy : (f i).may = true) : ((f k).weak (f i) || (decide (k < i) && !(f i).weak (f k))) = true ↔ ltC f k i := by
  rw [Bool.or_eq_true, Bool.and_eq_true, Bool.not_eq_true', Bool.eq_false_iff, weak_lo hx hy, Ne, weak_lo hy hx, decide_eq_true_eq]
  unfold ltC
  constructor
  · rintro (h | ⟨h1, h2⟩)
    · exact .inl h
    · rcases Cl.lo_or (f k) (f i) with h | h | h
      · exact .inl h
      · exact (h2 h).elim
      · exact .inr ⟨h, by omega⟩
  · rintro (h | ⟨h1, h2⟩)
    · exact .inl h
    · exact .inr ⟨by omega, fun h => Cl.lo_irr _ ((Cl.lo_eqk h1).1.1 h)⟩
theorem made_ints (n : Nat) : (madeCells (Value.int .i64 0).cells (n * 1)).toList = intsL (fun _ => 0) n := by
  show (madeCells #[Value.int .i64 0] (n * 1)).toList = _
  rw [toList_madeCells_one, Nat.mul_one]
  simp only [intsL, List.map_const', List.length_range]
end Go
namespace Go.Proofs.Ytajkfmnnokkcaaa
open Go.RowKit

set_option maxRecDepth 100000 in
set_option maxHeartbeats 4000000 in
theorem refAll_any (v : Value) (l : List Cl) (w : World) (h : SlAt w (fun _ => True) 8 ClR v l) : Calls Try.prog 10 #[v] w (Gives w (.bool (l.all Cl.may))) := by
  obtain ⟨a, cap, rfl, h1, h2, h3⟩ := h
  have H3 := Lib.hid h3
  clear h3
  have key : ∀ N, N = l.length → N ≤ cap → Calls Try.prog 10 #[.slice a N cap] w (Gives w (.bool (l.all Cl.may))) := fun N eN h1 => by
    have EN := Lib.hid eN
    clear eN
    generalize hR : l.all Cl.may = R
    have HR := Lib.hid hR; clear hR
    go_enter Try.func10, Try.ntmps10
    go_wp2_with fail
    go_loopg [7] N (fun gn v7 wj => ∃ i : Nat, Hid (gn + i = N ∧ i ≤ N ∧ mayTo l i) ∧ v7 = .int .i64 i ∧ w.grows wj)
    case atStart => exact ⟨0, Lib.hid ⟨rfl, Nat.zero_le _, fun k x h _ => by omega⟩, by go_num, (by repeat (with_reducible first | assumption | exact grA | apply grB | apply grC | apply grD | refine grE ?_ (by omega) _ | refine grF ?_ (by omega) _ _))⟩
    case round =>
      obtain ⟨i1, HK, rfl, hg⟩ := hrel
      obtain ⟨k1, k2, k3⟩ := HK.out
      by_cases hlt : i1 < N
      · have hNl := EN.out
        rcases H3.out with h0 | ⟨g, off, rfl, _, h4⟩
        · rw [h0] at hNl; simp at hNl; omega
        have hgt := List.getElem?_eq_getElem (by omega : i1 < l.length)
        obtain ⟨cs, _, el, ec, _⟩ := h4 i1 _ hgt
        generalize l[i1] = x at *
        subst ec
        replace el := el.grows hg
        have e1 : segOk (off + i1 * 8) 8 (wr.row g) = true := el.1
        have e2 : segV (off + i1 * 8) 8 (wr.row g) = x.v := el.2
        have zg := lt_sz el.lt
        have n1 : (i1 : Int) < (N : Int) := by omega
        have hM := fun W => refOMay_any x W
        cases hm : x.may with
        | false =>
          rw [hm] at hM
          have HM := Lib.hid hM
          have e0 : R = false := by
            rw [← HR.out, Bool.eq_false_iff]; intro h
            have := mayTo_all.1 h i1 x (by omega) hgt
            rw [hm] at this; cases this
          subst e0
          clear hM el h4 hgt hNl k3 HK hm
          obtain ⟨p, o, q, a, b1, c, r, d⟩ := x
          go_wp2_with (first | (go_at_call 22; (with_reducible refine (HM.out _).mono ?_); rintro e w1 ⟨rfl, x1, rfl⟩))
          go_ret
          exact ⟨rfl, (by repeat (with_reducible first | assumption | exact grA | apply grB | apply grC | apply grD | refine grE ?_ (by omega) _ | refine grF ?_ (by omega) _ _))⟩
        | true =>
          rw [hm] at hM
          have HM := Lib.hid hM
          have K3 : Hid (mayTo l (i1 + 1)) := Lib.hid fun k y hk hy => by
            by_cases h : k < i1
            · exact k3 k y h hy
            · obtain rfl : k = i1 := by omega
              rw [hgt] at hy; cases hy; exact hm
          clear hM el h4 hgt hNl k3 HK hm
          obtain ⟨p, o, q, a, b1, c, r, d⟩ := x
          go_wp2_with (first | (go_at_call 22; (with_reducible refine (HM.out _).mono ?_); rintro e w1 ⟨rfl, x1, rfl⟩))
          go_roundg (N - (i1 + 1))
          case rel => exact ⟨i1 + 1, Lib.hid ⟨by omega, by omega, K3.out⟩, by go_num, (by repeat (with_reducible first | assumption | exact grA | apply grB | apply grC | apply grD | refine grE ?_ (by omega) _ | refine grF ?_ (by omega) _ _))⟩
          case measure => omega
      · have e0 : R = true := by
          rw [← HR.out]; exact mayTo_all.2 (by rw [← EN.out, show N = i1 by omega]; exact k3)
        subst e0
        have n1 : ¬ (i1 : Int) < (N : Int) := by omega
        go_wp2_with fail
        go_ret
        exact ⟨rfl, (by repeat (with_reducible first | assumption | exact grA | apply grB | apply grC | apply grD | refine grE ?_ (by omega) _ | refine grF ?_ (by omega) _ _))⟩
  exact key _ rfl h1

set_option maxRecDepth 100000 in
set_option maxHeartbeats 4000000 in
theorem ints_same (g k c c' N : Nat) (f : Nat → Int) (w : World) (h1 : w.row g = some (.cells (intsL f N).toArray 3)) (h2 : w.row k = some (.cells (intsL f N).toArray 3)) (hc : N ≤ 1048576) (hcc : N ≤ c) (hcc' : N ≤ c') (hc1 : c ≤ 9223372036854775807) (hc2 : c' ≤ 9223372036854775807) :
    Calls Try.prog 12 #[.slice (some ⟨g, 0, none⟩) N c, .slice (some ⟨k, 0, none⟩) N c'] w (Gives w (.bool true)) := by
  go_enter Try.func12, Try.ntmps12
  go_wp2_with fail
  go_loopg [13] N (fun gn v7 wj => ∃ i : Nat, Hid (gn + i = N ∧ i ≤ N) ∧ v7 = .int .i64 i ∧ w.grows wj ∧ wj.row g = some (.cells (intsL f N).toArray 3) ∧ wj.row k = some (.cells (intsL f N).toArray 3))
  case atStart => exact ⟨0, Lib.hid ⟨rfl, Nat.zero_le _⟩, by go_num, (by repeat (with_reducible first | assumption | exact grA | apply grB | apply grC | apply grD | refine grE ?_ (by omega) _ | refine grF ?_ (by omega) _ _)), h1, h2⟩
  case round =>
    clear h1 h2
    obtain ⟨i1, HK, rfl, hg, h1, h2⟩ := hrel
    obtain ⟨k1, k2⟩ := HK.out
    have z1 := row_sz' h1
    have z2 := row_sz' h2
    by_cases hlt : i1 < N
    · have n1 : (i1 : Int) < (N : Int) := by omega
      have ia : (intsL f N)[i1]? = some (.int .i64 (f i1)) := intsL_get f hlt
      generalize f i1 = X at *
      go_upto_region 6 with fail
      go_region
      go_wp2_with fail
      go_roundg (N - (i1 + 1))
      case rel => exact ⟨i1 + 1, Lib.hid ⟨by omega, by omega⟩, by go_num, (by repeat (with_reducible first | assumption | exact grA | apply grB | apply grC | apply grD | refine grE ?_ (by omega) _ | refine grF ?_ (by omega) _ _)), by simp [go_sem, h1, z1], by simp [go_sem, h2, z2]⟩
      case measure => omega
    · have n1 : ¬ (i1 : Int) < (N : Int) := by omega
      go_wp2_with fail
      go_ret
      exact ⟨rfl, (by repeat (with_reducible first | assumption | exact grA | apply grB | apply grC | apply grD | refine grE ?_ (by omega) _ | refine grF ?_ (by omega) _ _))⟩
end Go.Proofs.Ytajkfmnnokkcaaa
