/- Texts of the walk, one after the other; what each proves stands ahead of it. -/
import Derived.Ground.GgzProg
import Derived.Ground.SlgmProg
import Derived.Shelf.SlIter.Nil
import Derived.Shelf.SortM.Plain
import Derived.Shelf.SortM.SortNone
import Derived.Test.YthcaphoejplecaaGreatDoorProg
set_option linter.unusedSimpArgs false
set_option linter.unusedVariables false
/- CONTRACTS of the library laid over this program (printed by the kit's lay-plain.mjs, turned): maps.Keys, slices.Sorted, slices.Sort at strings. No condition. -/
namespace Go.Proofs
open Go.Shelf
def Tryz.keysV_ren : Go.Shelf.Ren := ⟨fun | 7 => 19 | 10 => 37 | n => n, fun | 23 => 36 | 26 => 9 | 3 => 27 | 28 => 47 | 0 => 0 | 27 => 46 | 33 => 66 | 4 => 4 | n => n, fun | n => n⟩
theorem Tryz.keysV : Go.Proofs.SlLaysZ.n7 Tryz.prog Tryz.keysV_ren := {
  mixed := by kernel_rfl
  f7 := ⟨Tryz.f19.name, by decide, Tryz.func19.trans (congrArg some (by kernel_rfl))⟩
  f10 := ⟨Tryz.f37.name, by decide, Tryz.func37.trans (congrArg some (by kernel_rfl))⟩
  t0 := Tryz.underlying0
  a0 := Tryz.isAgg0
  z0 := Tryz.sizeOf0
  v0 := Tryz.zeroValue0
  t4 := Tryz.underlying4
  a4 := Tryz.isAgg4
  z4 := Tryz.sizeOf4
  v4 := Tryz.zeroValue4
  t23 := Tryz.underlying36
  a23 := Tryz.isAgg36
  z23 := Tryz.sizeOf36
  v23 := Tryz.zeroValue36
  t26 := Tryz.underlying9
  a26 := Tryz.isAgg9
  z26 := Tryz.sizeOf9
  v26 := Tryz.zeroValue9
  t27 := Tryz.underlying46
  a27 := Tryz.isAgg46
  z27 := Tryz.sizeOf46
  v27 := Tryz.zeroValue46
  t28 := Tryz.underlying47
  a28 := Tryz.isAgg47
  z28 := Tryz.sizeOf47
  v28 := Tryz.zeroValue47
  t33 := Tryz.underlying66
  a33 := Tryz.isAgg66
  z33 := Tryz.sizeOf66
  v33 := Tryz.zeroValue66 }
def Tryz.sortedV_ren : Go.Shelf.Ren := ⟨fun | 6 => 18 | 8 => 35 | 9 => 36 | 11 => 55 | 13 => 57 | 12 => 56 | 23 => 81 | 24 => 82 | 14 => 72 | 15 => 73 | 16 => 74 | 17 => 75 | 18 => 76 | 19 => 77 | 20 => 78 | 21 => 79 | 22 => 80 | 25 => 101 | 26 => 102 | 27 => 103 | 28 => 104 | 29 => 105 | 30 => 106 | 31 => 115 | n => n, fun | 26 => 9 | 28 => 47 | 24 => 31 | 0 => 0 | 3 => 3 | 37 => 95 | 48 => 113 | 50 => 115 | 4 => 4 | 40 => 106 | 39 => 105 | 45 => 110 | 5 => 5 | 9 => 9 | 51 => 126 | 55 => 130 | 57 => 138 | 58 => 139 | 33 => 66 | n => n, fun | n => n⟩
theorem Tryz.sortedV : Go.Proofs.SlLaysZ.n6 Tryz.prog Tryz.sortedV_ren := {
  mixed := by kernel_rfl
  f6 := ⟨Tryz.f18.name, by decide, Tryz.func18.trans (congrArg some (by kernel_rfl))⟩
  f8 := ⟨Tryz.f35.name, by decide, Tryz.func35.trans (congrArg some (by kernel_rfl))⟩
  f11 := ⟨Tryz.f55.name, by decide, Tryz.func55.trans (congrArg some (by kernel_rfl))⟩
  t0 := Tryz.underlying0
  a0 := Tryz.isAgg0
  z0 := Tryz.sizeOf0
  v0 := Tryz.zeroValue0
  t24 := Tryz.underlying31
  a24 := Tryz.isAgg31
  z24 := Tryz.sizeOf31
  v24 := Tryz.zeroValue31
  t26 := Tryz.underlying9
  a26 := Tryz.isAgg9
  z26 := Tryz.sizeOf9
  v26 := Tryz.zeroValue9
  t28 := Tryz.underlying47
  a28 := Tryz.isAgg47
  z28 := Tryz.sizeOf47
  v28 := Tryz.zeroValue47
  i26 := by kernel_rfl }
def Tryz.sortV_ren : Go.Shelf.Ren := ⟨fun | 6 => 36 | 8 => 57 | 9 => 56 | 19 => 81 | 20 => 82 | 21 => 72 | 22 => 73 | 23 => 74 | 24 => 75 | 25 => 76 | 26 => 77 | 27 => 78 | 28 => 79 | 29 => 80 | 36 => 101 | 31 => 102 | 32 => 103 | 37 => 104 | 38 => 105 | 39 => 106 | 41 => 115 | n => n, fun | 27 => 31 | 29 => 9 | 3 => 3 | 32 => 95 | 26 => 31 | 0 => 0 | 44 => 113 | 46 => 115 | 4 => 4 | 36 => 106 | 35 => 105 | 41 => 110 | 5 => 5 | 9 => 9 | 53 => 126 | 57 => 130 | 63 => 138 | 64 => 139 | n => n, fun | n => n⟩
theorem Tryz.sortV : Go.Proofs.SlLaysM.n6 Tryz.prog Tryz.sortV_ren := {
  mixed := by kernel_rfl
  f6 := ⟨Tryz.f36.name, by decide, Tryz.func36.trans (congrArg some (by kernel_rfl))⟩
  f8 := Tryz.func57.trans (congrArg some (by kernel_rfl))
  f9 := ⟨Tryz.f56.name, by decide, Tryz.func56.trans (congrArg some (by kernel_rfl))⟩
  f19 := Tryz.func81.trans (congrArg some (by kernel_rfl))
  f20 := Tryz.func82.trans (congrArg some (by kernel_rfl))
  f21 := ⟨Tryz.f72.name, by decide, Tryz.func72.trans (congrArg some (by kernel_rfl))⟩
  f22 := ⟨Tryz.f73.name, by decide, Tryz.func73.trans (congrArg some (by kernel_rfl))⟩
  f23 := ⟨Tryz.f74.name, by decide, Tryz.func74.trans (congrArg some (by kernel_rfl))⟩
  f24 := ⟨Tryz.f75.name, by decide, Tryz.func75.trans (congrArg some (by kernel_rfl))⟩
  f25 := ⟨Tryz.f76.name, by decide, Tryz.func76.trans (congrArg some (by kernel_rfl))⟩
  f26 := ⟨Tryz.f77.name, by decide, Tryz.func77.trans (congrArg some (by kernel_rfl))⟩
  f27 := ⟨Tryz.f78.name, by decide, Tryz.func78.trans (congrArg some (by kernel_rfl))⟩
  f28 := ⟨Tryz.f79.name, by decide, Tryz.func79.trans (congrArg some (by kernel_rfl))⟩
  f29 := ⟨Tryz.f80.name, by decide, Tryz.func80.trans (congrArg some (by kernel_rfl))⟩
  f31 := Tryz.func102.trans (congrArg some (by kernel_rfl))
  f32 := Tryz.func103.trans (congrArg some (by kernel_rfl))
  f36 := ⟨Tryz.f101.name, by decide, Tryz.func101.trans (congrArg some (by kernel_rfl))⟩
  f37 := ⟨Tryz.f104.name, by decide, Tryz.func104.trans (congrArg some (by kernel_rfl))⟩
  f38 := ⟨Tryz.f105.name, by decide, Tryz.func105.trans (congrArg some (by kernel_rfl))⟩
  f39 := ⟨Tryz.f106.name, by decide, Tryz.func106.trans (congrArg some (by kernel_rfl))⟩
  f41 := ⟨Tryz.f115.name, by decide, Tryz.func115.trans (congrArg some (by kernel_rfl))⟩
  t0 := Tryz.underlying0
  a0 := Tryz.isAgg0
  z0 := Tryz.sizeOf0
  v0 := Tryz.zeroValue0
  t3 := Tryz.underlying3
  a3 := Tryz.isAgg3
  z3 := Tryz.sizeOf3
  v3 := Tryz.zeroValue3
  t4 := Tryz.underlying4
  a4 := Tryz.isAgg4
  z4 := Tryz.sizeOf4
  v4 := Tryz.zeroValue4
  t5 := Tryz.underlying5
  a5 := Tryz.isAgg5
  z5 := Tryz.sizeOf5
  v5 := Tryz.zeroValue5
  t9 := Tryz.underlying9
  a9 := Tryz.isAgg9
  z9 := Tryz.sizeOf9
  v9 := Tryz.zeroValue9
  t26 := Tryz.underlying31
  a26 := Tryz.isAgg31
  z26 := Tryz.sizeOf31
  v26 := Tryz.zeroValue31
  t27 := Tryz.underlying31
  a27 := Tryz.isAgg31
  z27 := Tryz.sizeOf31
  v27 := Tryz.zeroValue31
  t29 := Tryz.underlying9
  a29 := Tryz.isAgg9
  z29 := Tryz.sizeOf9
  v29 := Tryz.zeroValue9
  t32 := Tryz.underlying95
  a32 := Tryz.isAgg95
  z32 := Tryz.sizeOf95
  v32 := Tryz.zeroValue95
  t35 := Tryz.underlying105
  a35 := Tryz.isAgg105
  z35 := Tryz.sizeOf105
  v35 := Tryz.zeroValue105
  t36 := Tryz.underlying106
  a36 := Tryz.isAgg106
  z36 := Tryz.sizeOf106
  v36 := Tryz.zeroValue106
  t41 := Tryz.underlying110
  a41 := Tryz.isAgg110
  z41 := Tryz.sizeOf110
  v41 := Tryz.zeroValue110
  t44 := Tryz.underlying113
  a44 := Tryz.isAgg113
  z44 := Tryz.sizeOf113
  v44 := Tryz.zeroValue113
  t46 := Tryz.underlying115
  a46 := Tryz.isAgg115
  z46 := Tryz.sizeOf115
  v46 := Tryz.zeroValue115
  t53 := Tryz.underlying126
  a53 := Tryz.isAgg126
  z53 := Tryz.sizeOf126
  v53 := Tryz.zeroValue126
  t57 := Tryz.underlying130
  a57 := Tryz.isAgg130
  z57 := Tryz.sizeOf130
  v57 := Tryz.zeroValue130
  t63 := Tryz.underlying138
  a63 := Tryz.isAgg138
  z63 := Tryz.sizeOf138
  v63 := Tryz.zeroValue138
  t64 := Tryz.underlying139
  a64 := Tryz.isAgg139
  z64 := Tryz.sizeOf139
  v64 := Tryz.zeroValue139 }
end Go.Proofs

/- CONTRACTS of the library over this program (printed by the kit's lay-iter.mjs, turned): maps.Keys, slices.Sorted of what it hands back. No condition. -/
namespace Go.Proofs
open Go.RowKit Go.Maps Go.Sort Go.Shelf
/-- slices.Sort's two contracts at this dump, at the fence that asks nothing. -/
theorem Tryz.sortsV (m : Nat) : AnyZ.SortsIn Tryz.prog Tryz.sortedV_ren Fence.wide m :=
  ⟨fun blk off cap ss W hH hblk hsz => callsIn_wide.2 (AnyM.slices_Sort_string Tryz.sortV blk off cap ss W hH hblk hsz),
   fun p cap W => callsIn_wide.2 (AnyM.slices_Sort_string_none Tryz.sortV p cap W)⟩

theorem Tryz.maps_Keys_V (mb : Option Nat) (W : World) : CallsIn Fence.wide 5 Tryz.prog 19 #[.map mb] W fun e w' => e = .returned (.func (.func 37) #[] #[.pointer (some ⟨W.heap.size, 0, none⟩)]) ∧ w' = W.alloc (.cells #[.map mb] 36) :=
  AnyZ.keys_in Tryz.keysV Fence.wide 5 trivial rfl mb W

set_option maxHeartbeats 1000000 in
theorem Tryz.slices_Sorted_V {H : Type} (b nn : Nat) (D0 : DataW H) (R : Value → Option (DataW H × List MemPlace)) (w : World) (hown : w.ownsMap Tryz.prog 9 R b nn D0) (hmax : Maps.size D0 ≤ maxLen) (hbytes : Maps.size D0 * 16 ≤ 140737488355328) :
    CallsIn Fence.wide 5 Tryz.prog 18 #[.func (.func 37) #[] #[.pointer (some ⟨w.heap.size, 0, none⟩)]] (w.alloc (.cells #[.map (some b)] 36)) fun e w' => ∃ (v : Value) (ss : List (List UInt8)), e = .returned v ∧ ss.Perm (strKeys D0) ∧
      w'.ownsRow (w.alloc (.cells #[.map (some b)] 36)).heap.size 9 1 v ss.length ((ss.mergeSort (fun x y => decide (x ≤ y))).map encStr) ∧ (v = .slice none 0 0 ↔ ss = []) ∧ Below (w.alloc (.cells #[.map (some b)] 36)).heap.size (w.alloc (.cells #[.map (some b)] 36)) w' := by
  have hbl := hown.lt
  have hseq : SeqGives Fence.wide 2 Tryz.prog 37 #[.pointer (some ⟨w.heap.size, 0, none⟩)] encStr (fun ss => ss.Perm (strKeys D0)) (Maps.size D0) (w.alloc (.cells #[.map (some b)] 36)) :=
    AnyZ.keys_gives (ρ := Tryz.keysV_ren) { Tryz.keysV with } Fence.wide _ trivial rfl (by omega) w.heap.size b nn D0 _ (by simp) (by simp) (by
      obtain ⟨es, clock, hb, Ft, hs, hD⟩ := hown
      exact ⟨es, clock, (Below.heap_alloc _ _ b hbl).trans hb, Ft, hs, hD⟩)
  exact AnyZ.sorted_in Tryz.sortedV Fence.wide 5 trivial trivial trivial trivial rfl (by omega) (Tryz.sortsV _) (enters_of Tryz.func36 (by kernel_rfl) rfl) 37 #[.pointer (some ⟨w.heap.size, 0, none⟩)] trivial (enters_of Tryz.func37 (by kernel_rfl) rfl) _ _ hmax hbytes _ hseq

end Go.Proofs
