/- WALKS over slices: two blocks of whole numbers change places. No condition but that the places are there. -/
import Derived.Test.YtajkfmnnokkcaaaSwR
set_option linter.unusedSimpArgs false
set_option linter.unusedVariables false
namespace Go.Proofs.Ytajkfmnnokkcaaa
open Go.RowKit

set_option maxRecDepth 100000 in
set_option maxHeartbeats 4000000 in
theorem rotate_any (fv : Value) (g cap a m b N : Nat) (f : Nat → Int) (w : World) (hr : w.row g = some (.cells (intsL f N).toArray 3)) (ham : a < m) (hmb : m < b) (hb : b ≤ N) (hN : N ≤ 1048576) (hc : N ≤ cap) (hc2 : cap ≤ 9223372036854775807) :
    Calls Try.prog 40 #[.slice (some ⟨g, 0, none⟩) N cap, .int .i64 a, .int .i64 m, .int .i64 b, fv] w fun e w' => e = .returned (.tuple #[]) ∧ w'.row g = some (.cells (intsL (rotF f a m b) N).toArray 3) ∧ On g w w' := by
  have e1 : IntKind.wrap .i64 ((m : Int) - (a : Int)) = ((m - a : Nat) : Int) := by rw [wrapI (by omega) (by omega)]; omega
  have e2 : IntKind.wrap .i64 ((b : Int) - (m : Int)) = ((b - m : Nat) : Int) := by rw [wrapI (by omega) (by omega)]; omega
  have q1 : (m : Int) - (a : Int) = ((m - a : Nat) : Int) := by omega
  have q2 : (b : Int) - (m : Int) = ((b - m : Nat) : Int) := by omega
  go_enter Try.func40, Try.ntmps40
  go_wp2_with fail
  go_loopg [10, 11] (b - a) (fun gn v10 v11 wj => ∃ (i j : Nat) (F : Nat → Int), Hid (gn = i + j ∧ 0 < i ∧ 0 < j ∧ i ≤ m ∧ m + j ≤ N) ∧ v10 = .int .i64 i ∧ v11 = .int .i64 j ∧ wj.row g = some (.cells (intsL F N).toArray 3) ∧ On g w wj ∧ Hid (rotF F (m - i) m (m + j) = rotF f a m b))
  case atStart =>
    exact ⟨m - a, b - m, f, Lib.hid ⟨by omega, by omega, by omega, by omega, by omega⟩, by go_num, by go_num, hr, On.refl _ _, Lib.hid (by rw [show m - (m - a) = a by omega, show m + (b - m) = b by omega])⟩
  case round =>
    obtain ⟨i, j, F, HK, rfl, rfl, hx, HO, HR⟩ := hrel
    obtain ⟨k1, k2, k3, k4, k5⟩ := HK.out
    have z := row_sz' hx
    have n1 : IntKind.wrap .i64 ((m : Int) - (i : Int)) = ((m - i : Nat) : Int) := by rw [wrapI (by omega) (by omega)]; omega
    have n2 : (m : Int) - (i : Int) = ((m - i : Nat) : Int) := by omega
    clear e1 e2 q1 q2
    rcases Nat.lt_trichotomy i j with h | h | h
    · have s1 := swapRange_any fv g cap (m - i) (m + j - i) i N F wr hx (by omega) (by omega) hN hc hc2
      have n3 : (m : Int) + (j : Int) - (i : Int) = ((m + j - i : Nat) : Int) := by omega
      have n4 : (j : Int) - (i : Int) = ((j - i : Nat) : Int) := by omega
      have S1 := Lib.hid s1
      clear s1
      go_wp2_with (go_at_call 52; (with_reducible refine (S1.out).mono ?_); rintro e w1 ⟨rfl, hx1, HO1⟩)
      go_roundg (i + (j - i))
      case rel => exact ⟨i, j - i, _, Lib.hid ⟨rfl, by omega, by omega, by omega, by omega⟩, rfl, by go_num, hx1, HO.trans HO1, Lib.hid ((rot_less F (by omega) (by omega) h).trans HR.out)⟩
      case measure => omega
    · subst h
      have s1 := swapRange_any fv g cap (m - i) m i N F wr hx (by omega) (by omega) hN hc hc2
      have S1 := Lib.hid s1
      clear s1
      go_wp2_with (go_at_call 52; (with_reducible refine (S1.out).mono ?_); rintro e w1 ⟨rfl, hx1, HO1⟩)
      go_end0
      exact ⟨rfl, by rw [hx1, rot_same F (by omega), HR.out], HO.trans HO1⟩
    · have s1 := swapRange_any fv g cap (m - i) m j N F wr hx (by omega) (by omega) hN hc hc2
      have n4 : (i : Int) - (j : Int) = ((i - j : Nat) : Int) := by omega
      have S1 := Lib.hid s1
      clear s1
      go_wp2_with (go_at_call 52; (with_reducible refine (S1.out).mono ?_); rintro e w1 ⟨rfl, hx1, HO1⟩)
      go_roundg (i - j + j)
      case rel => exact ⟨i - j, j, _, Lib.hid ⟨rfl, by omega, by omega, by omega, by omega⟩, by go_num, rfl, hx1, HO.trans HO1, Lib.hid ((rot_more F (by omega) (by omega) h).trans HR.out)⟩
      case measure => omega
end Go.Proofs.Ytajkfmnnokkcaaa
