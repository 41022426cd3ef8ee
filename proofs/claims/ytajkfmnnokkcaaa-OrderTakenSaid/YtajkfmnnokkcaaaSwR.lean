/- WALKS over slices: some places changed against others. No condition but that the places are there. -/
import Derived.Test.YtajkfmnnokkcaaaInts
import Derived.Test.YtajkfmnnokkcaaaOps
import Derived.Test.YtajkfmnnokkcaaaOpsE
set_option linter.unusedSimpArgs false
set_option linter.unusedVariables false
namespace Go.Proofs.Ytajkfmnnokkcaaa
open Go.RowKit

set_option maxRecDepth 100000 in
set_option maxHeartbeats 4000000 in
theorem swapRange_any (fv : Value) (g cap a b n N : Nat) (f : Nat → Int) (w : World) (hr : w.row g = some (.cells (intsL f N).toArray 3)) (hab : a + n ≤ b) (hb : b + n ≤ N) (hN : N ≤ 1048576) (hc : N ≤ cap) (hc2 : cap ≤ 9223372036854775807) :
    Calls Try.prog 52 #[.slice (some ⟨g, 0, none⟩) N cap, .int .i64 a, .int .i64 b, .int .i64 n, fv] w fun e w' => e = .returned (.tuple #[]) ∧ w'.row g = some (.cells (intsL (swR f a b n) N).toArray 3) ∧ On g w w' := by
  go_enter Try.func52, Try.ntmps52
  go_wp2_with fail
  go_loopg [10] n (fun gn v10 wj => ∃ i : Nat, Hid (gn + i = n) ∧ i ≤ n ∧ v10 = .int .i64 i ∧ wj.row g = some (.cells (intsL (swR f a b i) N).toArray 3) ∧ On g w wj)
  case atStart => exact ⟨0, rfl, Nat.zero_le _, rfl, by rw [swR_zero]; exact hr, On.refl _ _⟩
  case round =>
    obtain ⟨i, HK, hi, rfl, hx, HO⟩ := hrel
    have z := row_sz' hx
    by_cases hlt : i < n
    · have hn := HK.out
      generalize hF : swR f a b i = F at *
      have w1 : IntKind.wrap .i64 ((a : Int) + (i : Int)) = ((a + i : Nat) : Int) := by rw [wrapI (by omega) (by omega)]; omega
      have w2 : IntKind.wrap .i64 ((b : Int) + (i : Int)) = ((b + i : Nat) : Int) := by rw [wrapI (by omega) (by omega)]; omega
      have ca : wr.cell? ⟨g, a + i, none⟩ = some (.int .i64 (F (a + i))) := by rw [World.cell?_row, hx]; exact cellR_ints _ _ _ _ _ (by omega)
      have cb : wr.cell? ⟨g, b + i, none⟩ = some (.int .i64 (F (b + i))) := by rw [World.cell?_row, hx]; exact cellR_ints _ _ _ _ _ (by omega)
      have fa : wr.frozen? ⟨g, a + i, none⟩ = false := by rw [World.frozen?_row, hx]; simp [frozenR]
      have fb : wr.frozen? ⟨g, b + i, none⟩ = false := by rw [World.frozen?_row, hx]; simp [frozenR]
      have l1 : ((a + i : Nat) : Int) < (N : Int) := by omega
      have l2 : ((b + i : Nat) : Int) < (N : Int) := by omega
      have ne : ¬ a + i = b + i := by omega
      have la : a + i < N := by omega
      have lb : b + i < N := by omega
      have ia := intsL_get F la; have ib := intsL_get F lb
      have ic : ((intsL F N).set (a + i) (.int .i64 (F (b + i))))[b + i]? = some (.int .i64 (F (b + i))) := by rw [List.getElem?_set, if_neg ne]; exact ib
      have t1 : ((a : Int) + (i : Int)).toNat = a + i := by omega
      have t2 : ((b : Int) + (i : Int)).toNat = b + i := by omega
      have l3 : 0 ≤ (b : Int) + (i : Int) := by omega
      have l4 : (b : Int) + (i : Int) < (N : Int) := by omega
      have l5 : 0 ≤ (a : Int) + (i : Int) := by omega
      have l6 : (a : Int) + (i : Int) < (N : Int) := by omega
      go_upto_region 3 with fail
      go_region
      go_wp2_with fail
      go_roundg (n - (i + 1))
      case rel => exact ⟨i + 1, Lib.hid (by omega), by omega, by go_num, by
        rw [← swR_step f (by omega : a + i < b), hF, sw_comm, ← up_sw]
        show World.row (World.setCell (World.setCell wr _ _) _ _) g = _
        rw [World.row_setCell, if_pos rfl, World.row_setCell, if_pos rfl, hx, setR_ints, setR_ints], ((HO.set _ _).set _ _).drew⟩
      case measure => have := HK.out; omega
    · obtain rfl : i = n := by omega
      go_wp2_with fail
      go_end0
      exact ⟨rfl, hx, HO⟩
end Go.Proofs.Ytajkfmnnokkcaaa
