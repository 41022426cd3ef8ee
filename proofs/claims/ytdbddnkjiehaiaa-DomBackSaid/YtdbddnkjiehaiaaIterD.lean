/- CONTRACTS of the library over this program (after the kit's worked proof at whole keys): maps.Keys, slices.Sorted of what it hands back. No condition. -/
import Derived.Test.YtdbddnkjiehaiaaLaysD
set_option linter.unusedSimpArgs false
set_option linter.unusedVariables false
namespace Go.Proofs
open Go.RowKit Go.Maps Go.Sort Go.Shelf

/-- slices.Sort's two contracts at this dump, at the fence that asks nothing. -/
theorem Try.sortsD (m : Nat) : AnyZI.SortsIn Try.prog Try.sortedD_ren Fence.wide m :=
  ⟨fun blk off cap ss W hH hblk hsz => callsIn_wide.2 (AnyM.slices_Sort_int Try.sortD blk off cap ss W hH hblk hsz),
   fun p cap W => callsIn_wide.2 (AnyM.slices_Sort_int_none Try.sortD p cap W)⟩
theorem Try.maps_Keys_D (mb : Option Nat) (W : World) : CallsIn Fence.wide 5 Try.prog 57 #[.map mb] W fun e w' => e = .returned (.func (.func 77) #[] #[.pointer (some ⟨W.heap.size, 0, none⟩)]) ∧ w' = W.alloc (.cells #[.map mb] 79) :=
  AnyZI.keys_in Try.keysD Fence.wide 5 trivial rfl mb W
set_option maxHeartbeats 1000000 in
theorem Try.slices_Sorted_D {H : Type} (b nn : Nat) (D0 : DataW H) (R : Value → Option (DataW H × List MemPlace)) (w : World) (hown : w.ownsMap Try.prog 3 R b nn D0) (hmax : Maps.size D0 ≤ maxLen) (hbytes : Maps.size D0 * 8 ≤ 140737488355328) :
    CallsIn Fence.wide 5 Try.prog 56 #[.func (.func 77) #[] #[.pointer (some ⟨w.heap.size, 0, none⟩)]] (w.alloc (.cells #[.map (some b)] 79)) fun e w' => ∃ (v : Value) (ss : List Int), e = .returned v ∧ ss.Perm (intKeys D0) ∧
      w'.ownsRow (w.alloc (.cells #[.map (some b)] 79)).heap.size 3 1 v ss.length ((ss.mergeSort (fun x y => decide (x ≤ y))).map encZ) ∧ (v = .slice none 0 0 ↔ ss = []) ∧ Below (w.alloc (.cells #[.map (some b)] 79)).heap.size (w.alloc (.cells #[.map (some b)] 79)) w' := by
  have hbl := hown.lt
  have hseq : SeqGives Fence.wide 2 Try.prog 77 #[.pointer (some ⟨w.heap.size, 0, none⟩)] encZ (fun ss => ss.Perm (intKeys D0)) (Maps.size D0) (w.alloc (.cells #[.map (some b)] 79)) :=
    AnyZI.keys_gives (ρ := Try.keysD_ren) { Try.keysD with } Fence.wide _ trivial rfl (by omega) w.heap.size b nn D0 _ (by simp) (by simp) (by
      obtain ⟨es, clock, hb, Ft, hs, hD⟩ := hown
      exact ⟨es, clock, (Below.heap_alloc _ _ b hbl).trans hb, Ft, hs, hD⟩)
  exact AnyZI.sorted_in Try.sortedD Fence.wide 5 trivial trivial trivial trivial rfl (by omega) (Try.sortsD _) (enters_of Try.func76 (by kernel_rfl) rfl) 77 #[.pointer (some ⟨w.heap.size, 0, none⟩)] trivial (enters_of Try.func77 (by kernel_rfl) rfl) _ _ hmax hbytes _ hseq
end Go.Proofs
