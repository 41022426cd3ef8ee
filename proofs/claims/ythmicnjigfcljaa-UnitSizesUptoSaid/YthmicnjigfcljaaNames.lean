/- WALKS: the names of the units in a mask: unit.Names; the document's names. No condition. -/
import Derived.Test.YthmicnjigfcljaaBit
import Derived.Test.YthmicnjigfcljaaMj
import Derived.Test.YthmicnjigfcljaaOpsE
import Derived.Test.YthmicnjigfcljaaMa
set_option linter.unusedSimpArgs false
set_option linter.unusedVariables false
namespace Go
open Go.RowKit
def unitN : List ByteArray := [⟨#[112, 120]⟩, ⟨#[101, 109]⟩, ⟨#[114, 101, 109]⟩, ⟨#[118, 119]⟩, ⟨#[118, 104]⟩, ⟨#[99, 113, 119]⟩, ⟨#[99, 113, 104]⟩]
/-- the names of the first n units of the mask -/
def namesN (x : Int) (n : Nat) : List ByteArray := ((List.range n).filter fun i => tB x (i + 1)).map fun i => unitN.getD i ByteArray.empty
theorem namesN_yes {x : Int} {i : Nat} (h : tB x (i + 1) = true) : namesN x (i + 1) = namesN x i ++ [unitN.getD i ByteArray.empty] := by
  unfold namesN; rw [List.range_succ, List.filter_append, List.map_append]; simp [h]
theorem namesN_no {x : Int} {i : Nat} (h : tB x (i + 1) = false) : namesN x (i + 1) = namesN x i := by
  unfold namesN; rw [List.range_succ, List.filter_append, List.map_append]; simp [h]
theorem namesN_len (x : Int) (n : Nat) : (namesN x n).length ≤ n := by
  unfold namesN; rw [List.length_map]; exact Nat.le_trans (List.length_filter_le _ _) (by simp)
end Go
namespace Go.Proofs.Ythmicnjigfcljaa
open Go.RowKit

set_option maxRecDepth 100000 in
theorem names1_any (w : World) : Calls Try.prog 80 #[] w fun e w' => ∃ g, e = .returned (.slice (some ⟨g, 0, none⟩) 7 7) ∧ w.grows w' ∧ w'.row g = some (.cells (unitN.map .string).toArray 9) := by
  go_enter Try.func80, Try.ntmps80
  go_wp2_with fail
  go_ret
  exact ⟨_, rfl, (by repeat (with_reducible first | assumption | exact World.grows.refl | apply World.grows.plus | apply World.grows.alloc | apply World.grows.drew | (refine World.grows.setRow' ?_ (by omega) _) | (refine World.grows.setCell' ?_ (by omega) _ _))), by simp [go_sem, unitN]⟩

set_option maxRecDepth 100000 in
set_option maxHeartbeats 8000000 in
theorem names_any (x : Int) (w : World) (wx : I64 x) : Calls Try.prog 47 #[.int .i64 x] w fun e w' => ∃ (v : Value), e = .returned v ∧ w.grows w' ∧ w'.ownsRow w.heap.size 9 1 v (namesN x 7).length ((namesN x 7).map .string) := by
  go_enter Try.func47, Try.ntmps47
  go_wp2_with (first | (go_at_call 80; (with_reducible refine (names1_any _).mono ?_); rintro e w1 ⟨g, rfl, hg1, hr1⟩; have hgw1 : w.grows w1 := World.grows.trans (by repeat (with_reducible first | assumption | exact World.grows.refl | apply World.grows.plus | apply World.grows.alloc | apply World.grows.drew | (refine World.grows.setRow' ?_ (by omega) _) | (refine World.grows.setCell' ?_ (by omega) _ _))) hg1))
  have hN : ∀ i, i < 7 → (unitN.map Value.string).toArray[i]? = some (.string (unitN.getD i ByteArray.empty)) := fun i hi => by
    rcases (by omega : i = 0 ∨ i = 1 ∨ i = 2 ∨ i = 3 ∨ i = 4 ∨ i = 5 ∨ i = 6) with rfl | rfl | rfl | rfl | rfl | rfl | rfl <;> rfl
  generalize (unitN.map Value.string).toArray = NA at *
  have hgl : g < w1.heap.size := row_lt hr1
  generalize hB : w1.heap.size = B at *
  have hwB : w.heap.size ≤ B := by have := hgw1.below.size; omega
  have HN := Lib.hid hN
  clear hN
  go_loopg [4, 10] 7 (fun gn v4 v10 wj => ∃ i n : Nat, Hid (gn + i = 7) ∧ i ≤ 7 ∧ v10 = .int .i64 i ∧ B ≤ wj.heap.size ∧ w.grows wj ∧ wj.row g = some (.cells NA 9) ∧ Hid (n = (namesN x i).length) ∧ Hid (wj.ownsRow B 9 1 v4 n ((namesN x i).map .string)))
  case atStart => exact ⟨0, 0, rfl, by omega, rfl, by omega, (by repeat (with_reducible first | assumption | exact World.grows.refl | apply World.grows.plus | apply World.grows.alloc | apply World.grows.drew | (refine World.grows.setRow' ?_ (by omega) _) | (refine World.grows.setCell' ?_ (by omega) _ _))), hr1, rfl, World.ownsRow_nil _ _ _ _⟩
  case round =>
    clear hr1 hg1 hgw1 hB
    obtain ⟨i, n, HK, hi, rfl, hsz, hg, hx, HL, HO⟩ := hrel
    have z1 := row_sz' hx
    by_cases hi7 : i < 7
    · have hc := HN.out i hi7
      have hb := bits_and_pow x (k := i + 1) (by omega)
      have hwp : wrap64 (2 ^ (i + 1)) = ((2 ^ (i + 1) : Nat) : Int) := by
        have h : ∀ (i : Fin 7), wrap64 (2 ^ (i.val + 1)) = ((2 ^ (i.val + 1) : Nat) : Int) := by decide +kernel
        exact h ⟨i, hi7⟩
      rw [← hwp] at hb
      have hn7 : n ≤ 7 := by have := HL.out; have := namesN_len x i; omega
      generalize hnm : unitN.getD i ByteArray.empty = nm at *
      cases ht : tB x (i + 1)
      · have h2 := namesN_no ht
        rw [ht, if_neg (by simp)] at hb
        have H2 := Lib.hid h2
        clear h2 ht hwp hnm
        go_wp2_with fail
        go_roundg (7 - (i + 1))
        case rel => exact ⟨i + 1, n, Lib.hid (by omega), by omega, by go_num, by simpa using hsz, (by repeat (with_reducible first | assumption | exact World.grows.refl | apply World.grows.plus | apply World.grows.alloc | apply World.grows.drew | (refine World.grows.setRow' ?_ (by omega) _) | (refine World.grows.setCell' ?_ (by omega) _ _))), by simp [go_sem, hx, z1], Lib.hid (by rw [H2.out]; exact HL.out), Lib.hid (by rw [H2.out]; exact HO.out.grows (by repeat (with_reducible first | assumption | exact World.grows.refl | apply World.grows.plus | apply World.grows.alloc | apply World.grows.drew | (refine World.grows.setRow' ?_ (by omega) _) | (refine World.grows.setCell' ?_ (by omega) _ _))))⟩
        case measure => have := HK.out; omega
      · have h2 := namesN_yes ht
        rw [ht, if_pos rfl] at hb
        have hpos : 0 < 2 ^ (i + 1) := Nat.pow_pos (by omega)
        have hne : ¬ bits .and .i64 x (wrap64 (2 ^ (i + 1))) = 0 := by rw [hb]; omega
        have hn1 : (bits .and .i64 x (wrap64 (2 ^ (i + 1))) != 0) = true := by simpa using hne
        have hn2 : (bits .and .i64 x (wrap64 (2 ^ (i + 1))) == 0) = false := by simpa using hne
        have hnx : (namesN x (i + 1)).map Value.string = (namesN x i).map Value.string ++ [.string nm] := by rw [h2, List.map_append, hnm]; rfl
        have hnl : n + 1 = (namesN x (i + 1)).length := by rw [h2, List.length_append, HL.out]; rfl
        have HNX := Lib.hid hnx; have HNL := Lib.hid hnl
        clear h2 ht hb hpos hwp hnx hnl hnm
        go_wp2_with (first | (at_builtin; refine wpList_app w (B) rfl (.tmp 21) (.tmp 23) _ rfl 9 (.string ByteArray.empty) 1 16 Try.underlying67 (by kernel_rfl) rfl (by omega) (by omega) _ n _ rfl (HO.out.grows (by repeat (with_reducible first | assumption | exact World.grows.refl | apply World.grows.plus | apply World.grows.alloc | apply World.grows.drew | (refine World.grows.setRow' ?_ (by omega) _) | (refine World.grows.setCell' ?_ (by omega) _ _)))) _ 1 _ [.string nm] rfl rfl (cells_of_row (e := 9) (fr := (0, 0)) (by simp [go_sem])) (by simp [Value.oneCell']) (by omega) (by repeat (with_reducible first | assumption | exact World.grows.refl | apply World.grows.plus | apply World.grows.alloc | apply World.grows.drew | (refine World.grows.setRow' ?_ (by omega) _) | (refine World.grows.setCell' ?_ (by omega) _ _))) (by omega) (by simp; omega) ?_; intro v' w' hg' HO' HR' HG' HA'))
        go_wp2_with fail
        go_roundg (7 - (i + 1))
        case rel => exact ⟨i + 1, n + 1, Lib.hid (by omega), by omega, by go_num, by have := HG'.out.size; simp at this; omega, hg', (HR'.out _ (by omega)).trans (by simp [go_sem, hx, z1]), HNL, (by rw [HNX.out]; exact HO')⟩
        case measure => have := HK.out; omega
    · obtain rfl : i = 7 := by omega
      have hO := HO.out
      rw [HL.out] at hO
      have h2 := hO.mono_base hwB
      have H2 := Lib.hid h2
      clear hO h2 HO
      go_wp2_with fail
      go_ret
      exact ⟨_, rfl, (by repeat (with_reducible first | assumption | exact World.grows.refl | apply World.grows.plus | apply World.grows.alloc | apply World.grows.drew | (refine World.grows.setRow' ?_ (by omega) _) | (refine World.grows.setCell' ?_ (by omega) _ _))), H2.out⟩
end Go.Proofs.Ythmicnjigfcljaa
