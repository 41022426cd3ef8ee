/- WALKS over point: place. No condition but that the lines stand in memory and the caller's function tells. -/
import Derived.Test.YtjfccilmlmimaaaPtL
set_option linter.unusedSimpArgs false
set_option linter.unusedVariables false
namespace Go.Proofs.Ytjfccilmlmimaaa
open Go.RowKit Go.Maps

set_option maxRecDepth 100000 in
set_option maxHeartbeats 8000000 in
theorem place_any (G : FuncId) (hG : G = 44 ∨ G = 45) (L : Option Addr) (S : Nat → Prop) (va : Option Addr) (N vc : Nat) (p : List Ln) (A : Ln → Bool) (w : World) (h : SlAt w S 5 LnR (.slice va N vc) p) (hN : N ≤ 1048576)
    (hA : ∀ W, w.grows W → ∀ x ∈ p, Calls Try.prog G #[x.v, .pointer L] W (Gives W (.bool (A x)))) :
    Calls Try.prog 43 #[.slice va N vc, .func (.func G) #[] #[.pointer L]] w fun e w' => ∃ k : Nat, e = .returned (.int .i64 k) ∧ w.grows w' ∧ k ≤ N ∧ (∀ x, 0 < k → p[k - 1]? = some x → A x = true) ∧ ∀ x, p[k]? = some x → A x = false := by
  obtain ⟨va', vc', e, c1, c2, c3⟩ := h
  injection e with e1 e2 e3
  subst e1; subst e3
  have EN := Lib.hid e2; have C3 := Lib.hid c3; have HA := Lib.hid hA
  rw [← e2] at c1
  clear e2 c3 hA
  rcases hG with rfl | rfl
  · go_enter Try.func43, Try.ntmps43
    go_wp2_with fail
    go_loopg [5, 6, 7] N (fun gn v5 v6 v7 wj => ∃ lo hi : Nat, Hid (gn + lo = hi ∧ lo ≤ hi ∧ hi ≤ N) ∧ v5 = .int .i64 lo ∧ v6 = .int .i64 hi ∧ w.grows wj ∧ Hid ((∀ x, 0 < lo → p[lo - 1]? = some x → A x = true) ∧ ∀ x, p[hi]? = some x → A x = false))
    case atStart => exact ⟨0, N, Lib.hid ⟨rfl, Nat.zero_le _, Nat.le_refl _⟩, by go_num, by go_num, (by repeat (with_reducible first | assumption | exact grA | apply grB | apply grC | apply grD | refine grE ?_ (by omega) _ | refine grF ?_ (by omega) _ _)), Lib.hid ⟨fun x h => by omega, fun x h => by rw [EN.out, List.getElem?_eq_none (Nat.le_refl _)] at h; cases h⟩⟩
    case round =>
      obtain ⟨lo, hi, HK, rfl, rfl, hg, HR⟩ := hrel
      obtain ⟨k1, k2, k3⟩ := HK.out
      by_cases hlt : lo < hi
      · have n1 : (lo : Int) < (hi : Int) := by omega
        obtain ⟨m, hm, m1, m2⟩ : ∃ m : Nat, (lo : Int) + ((hi : Int) - (lo : Int)) / 2 = (m : Int) ∧ lo ≤ m ∧ m < hi := ⟨lo + (hi - lo) / 2, by omega, by omega, by omega⟩
        have hNl := EN.out
        rcases C3.out with h0 | ⟨g, off, rfl, _, h4⟩
        · rw [h0] at hNl; simp at hNl; omega
        have hgt := List.getElem?_eq_getElem (by omega : m < p.length)
        have hmem : p[m] ∈ p := List.getElem_mem _
        obtain ⟨cs, _, el, ec, wx⟩ := h4 m _ hgt
        generalize p[m] = x at *
        subst ec
        replace el := el.grows hg
        have e1 : segOk (off + m * 5) 5 (wr.row g) = true := el.1
        have e2 : segV (off + m * 5) 5 (wr.row g) = x.v := el.2
        have zg := lt_sz el.lt
        have hc := HA.out wr hg x hmem
        generalize hAx : A x = t at *
        have HC := Lib.hid hc; have HAX := Lib.hid hAx; have HGT := Lib.hid hgt
        clear hc hmem h4 el wx hAx hgt hNl
        cases t
        · go_wp2_with (first | (go_at_call 44; (with_reducible refine (HC.out).mono ?_); rintro e w1 ⟨rfl, x1, rfl⟩))
          go_roundg (m - lo)
          case rel => exact ⟨lo, m, Lib.hid ⟨by omega, by omega, by omega⟩, by go_num, by go_num, (by repeat (with_reducible first | assumption | exact grA | apply grB | apply grC | apply grD | refine grE ?_ (by omega) _ | refine grF ?_ (by omega) _ _)), Lib.hid ⟨HR.out.1, fun y hy => by rw [HGT.out] at hy; cases hy; exact HAX.out⟩⟩
          case measure => omega
        · go_wp2_with (first | (go_at_call 44; (with_reducible refine (HC.out).mono ?_); rintro e w1 ⟨rfl, x1, rfl⟩))
          go_roundg (hi - (m + 1))
          case rel => exact ⟨m + 1, hi, Lib.hid ⟨by omega, by omega, by omega⟩, by go_num, by go_num, (by repeat (with_reducible first | assumption | exact grA | apply grB | apply grC | apply grD | refine grE ?_ (by omega) _ | refine grF ?_ (by omega) _ _)), Lib.hid ⟨fun y _ hy => by rw [Nat.add_sub_cancel, HGT.out] at hy; cases hy; exact HAX.out, HR.out.2⟩⟩
          case measure => omega
      · have n1 : ¬ (lo : Int) < (hi : Int) := by omega
        obtain rfl : lo = hi := by omega
        go_wp2_with fail
        go_ret
        exact ⟨lo, rfl, hg, k3, HR.out.1, HR.out.2⟩
  · go_enter Try.func43, Try.ntmps43
    go_wp2_with fail
    go_loopg [5, 6, 7] N (fun gn v5 v6 v7 wj => ∃ lo hi : Nat, Hid (gn + lo = hi ∧ lo ≤ hi ∧ hi ≤ N) ∧ v5 = .int .i64 lo ∧ v6 = .int .i64 hi ∧ w.grows wj ∧ Hid ((∀ x, 0 < lo → p[lo - 1]? = some x → A x = true) ∧ ∀ x, p[hi]? = some x → A x = false))
    case atStart => exact ⟨0, N, Lib.hid ⟨rfl, Nat.zero_le _, Nat.le_refl _⟩, by go_num, by go_num, (by repeat (with_reducible first | assumption | exact grA | apply grB | apply grC | apply grD | refine grE ?_ (by omega) _ | refine grF ?_ (by omega) _ _)), Lib.hid ⟨fun x h => by omega, fun x h => by rw [EN.out, List.getElem?_eq_none (Nat.le_refl _)] at h; cases h⟩⟩
    case round =>
      obtain ⟨lo, hi, HK, rfl, rfl, hg, HR⟩ := hrel
      obtain ⟨k1, k2, k3⟩ := HK.out
      by_cases hlt : lo < hi
      · have n1 : (lo : Int) < (hi : Int) := by omega
        obtain ⟨m, hm, m1, m2⟩ : ∃ m : Nat, (lo : Int) + ((hi : Int) - (lo : Int)) / 2 = (m : Int) ∧ lo ≤ m ∧ m < hi := ⟨lo + (hi - lo) / 2, by omega, by omega, by omega⟩
        have hNl := EN.out
        rcases C3.out with h0 | ⟨g, off, rfl, _, h4⟩
        · rw [h0] at hNl; simp at hNl; omega
        have hgt := List.getElem?_eq_getElem (by omega : m < p.length)
        have hmem : p[m] ∈ p := List.getElem_mem _
        obtain ⟨cs, _, el, ec, wx⟩ := h4 m _ hgt
        generalize p[m] = x at *
        subst ec
        replace el := el.grows hg
        have e1 : segOk (off + m * 5) 5 (wr.row g) = true := el.1
        have e2 : segV (off + m * 5) 5 (wr.row g) = x.v := el.2
        have zg := lt_sz el.lt
        have hc := HA.out wr hg x hmem
        generalize hAx : A x = t at *
        have HC := Lib.hid hc; have HAX := Lib.hid hAx; have HGT := Lib.hid hgt
        clear hc hmem h4 el wx hAx hgt hNl
        cases t
        · go_wp2_with (first | (go_at_call 45; (with_reducible refine (HC.out).mono ?_); rintro e w1 ⟨rfl, x1, rfl⟩))
          go_roundg (m - lo)
          case rel => exact ⟨lo, m, Lib.hid ⟨by omega, by omega, by omega⟩, by go_num, by go_num, (by repeat (with_reducible first | assumption | exact grA | apply grB | apply grC | apply grD | refine grE ?_ (by omega) _ | refine grF ?_ (by omega) _ _)), Lib.hid ⟨HR.out.1, fun y hy => by rw [HGT.out] at hy; cases hy; exact HAX.out⟩⟩
          case measure => omega
        · go_wp2_with (first | (go_at_call 45; (with_reducible refine (HC.out).mono ?_); rintro e w1 ⟨rfl, x1, rfl⟩))
          go_roundg (hi - (m + 1))
          case rel => exact ⟨m + 1, hi, Lib.hid ⟨by omega, by omega, by omega⟩, by go_num, by go_num, (by repeat (with_reducible first | assumption | exact grA | apply grB | apply grC | apply grD | refine grE ?_ (by omega) _ | refine grF ?_ (by omega) _ _)), Lib.hid ⟨fun y _ hy => by rw [Nat.add_sub_cancel, HGT.out] at hy; cases hy; exact HAX.out, HR.out.2⟩⟩
          case measure => omega
      · have n1 : ¬ (lo : Int) < (hi : Int) := by omega
        obtain rfl : lo = hi := by omega
        go_wp2_with fail
        go_ret
        exact ⟨lo, rfl, hg, k3, HR.out.1, HR.out.2⟩
end Go.Proofs.Ytjfccilmlmimaaa
