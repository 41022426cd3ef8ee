/- WALKS over jalousielaw24: ints, cut. No condition but that what is read stands in memory. -/
import Derived.Test.YtjfccilmlmimaaaMl
import Derived.Test.YtjfccilmlmimaaaOrderTake
set_option linter.unusedSimpArgs false
set_option linter.unusedVariables false
namespace Go.Proofs.Ytjfccilmlmimaaa
open Go.RowKit Go.Maps

set_option maxRecDepth 100000 in
set_option maxHeartbeats 4000000 in
theorem ints_eq (v v' : Value) (W : List Int) (w : World) (h1 : IntsAt w v W) (h2 : IntsAt w v' W) : Calls Try.prog 13 #[v, v'] w (Gives w (.bool true)) := by
  obtain ⟨a, c, rfl, hc1, hc2, k1⟩ := h1
  obtain ⟨a', c', rfl, hc3, hc4, k2⟩ := h2
  have K1 := Lib.hid k1; have K2 := Lib.hid k2
  clear k1 k2
  go_enter Try.func13, Try.ntmps13
  go_wp2_with fail
  go_loopg [13] W.length (fun gn v7 wj => ∃ i : Nat, Hid (gn + i = W.length ∧ i ≤ W.length) ∧ v7 = .int .i64 i ∧ w.grows wj)
  case atStart => exact ⟨0, Lib.hid ⟨rfl, Nat.zero_le _⟩, by go_num, (by repeat (with_reducible first | assumption | exact grA | apply grB | apply grC | apply grD | refine grE ?_ (by omega) _ | refine grF ?_ (by omega) _ _))⟩
  case round =>
    obtain ⟨i1, HK, rfl, hg⟩ := hrel
    obtain ⟨j1, j2⟩ := HK.out
    by_cases hlt : i1 < W.length
    · have n1 : (i1 : Int) < (W.length : Int) := by omega
      have hgt := List.getElem?_eq_getElem hlt
      rcases K1.out with hnil | ⟨g, off, rfl, _, h4⟩
      · rw [hnil] at hlt; cases hlt
      rcases K2.out with hnil | ⟨g', off', rfl, _, h4'⟩
      · rw [hnil] at hlt; cases hlt
      obtain ⟨cs, _, el, rfl⟩ := h4 i1 _ hgt
      obtain ⟨cs', _, el', rfl⟩ := h4' i1 _ hgt
      have c0 := (el.grows hg).cell (j := 0) rfl
      have c1 := (el'.grows hg).cell (j := 0) rfl
      rw [World.cell?_row, Nat.add_zero, Nat.mul_one] at c0 c1
      have z1 := lt_sz (el.grows hg).lt
      have z2 := lt_sz (el'.grows hg).lt
      generalize W[i1] = X at *
      clear h4 h4' el el' hgt
      go_upto_region 6 with fail
      go_region
      go_wp2_with fail
      go_roundg (W.length - (i1 + 1))
      case rel => exact ⟨i1 + 1, Lib.hid ⟨by omega, by omega⟩, by go_num, (by repeat (with_reducible first | assumption | exact grA | apply grB | apply grC | apply grD | refine grE ?_ (by omega) _ | refine grF ?_ (by omega) _ _))⟩
      case measure => omega
    · have n1 : ¬ (i1 : Int) < (W.length : Int) := by omega
      go_wp2_with fail
      go_ret
      exact ⟨rfl, (by repeat (with_reducible first | assumption | exact grA | apply grB | apply grC | apply grD | refine grE ?_ (by omega) _ | refine grF ?_ (by omega) _ _))⟩

set_option maxRecDepth 100000 in
set_option maxHeartbeats 4000000 in
theorem cut_any (v : Value) (l : List Ln) (w : World) (h : SlAt w (fun _ => True) 5 LnR v l) : Calls Try.prog 10 #[v] w fun e w' => ∃ v', e = .returned v' ∧ w' = w ∧ SlAt w (fun _ => True) 5 LnR v' (l.take 200) := by
  have HS := Lib.hid h
  obtain ⟨a, c, rfl, h1, h2, h3⟩ := h
  have H3 := Lib.hid h3
  clear h3
  by_cases hn : l.length > 200
  · have n1 : (200 : Int) < (l.length : Int) := by omega
    have hT := SlAt.take HS.out (k := 200) (by omega)
    have HT := Lib.hid hT
    clear hT
    rcases a with _ | ⟨g, off, sp⟩
    · rcases H3.out with h0 | ⟨g, off, e, _⟩
      · rw [h0] at hn; simp at hn
      · cases e
    go_enter Try.func10, Try.ntmps10
    go_wp2_with fail
    go_ret
    exact ⟨_, rfl, rfl, HT.out⟩
  · have n1 : ¬ (200 : Int) < (l.length : Int) := by omega
    have hT : l.take 200 = l := List.take_of_length_le (by omega)
    have HT := Lib.hid hT
    clear hT
    go_enter Try.func10, Try.ntmps10
    go_wp2_with fail
    go_ret
    exact ⟨_, rfl, rfl, by rw [HT.out]; exact HS.out⟩
end Go.Proofs.Ytjfccilmlmimaaa
