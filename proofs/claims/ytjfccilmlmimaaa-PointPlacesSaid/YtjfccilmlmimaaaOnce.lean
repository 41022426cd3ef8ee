/- WALKS over point: once. No condition but that the row is the call's own and not too long. -/
import Derived.Test.YtjfccilmlmimaaaOnceP
import Derived.Test.YtjfccilmlmimaaaLaysI
import Derived.Test.YtjfccilmlmimaaaOps
import Derived.Test.YtjfccilmlmimaaaOpsE
import Derived.Test.YtjfccilmlmimaaaMa
import Derived.Lib.RowBridge
set_option linter.unusedSimpArgs false
set_option linter.unusedVariables false
namespace Go
open Go.RowKit
/-- a slice of whole numbers in a block from B on -/
abbrev IntsFrom (B : Nat) (w : World) (v : Value) (W : List Int) : Prop := SlAt w (fun g => B ≤ g) 1 (fun (x : Int) cs => cs = [Value.int .i64 x]) v W
theorem IntsFrom.at {B : Nat} {w : World} {v : Value} {W : List Int} (h : IntsFrom B w v W) : IntsAt w v W := by
  obtain ⟨a, cap, h1, h2, h3, h4⟩ := h
  refine ⟨a, cap, h1, h2, h3, ?_⟩
  rcases h4 with h | ⟨g, off, e, _, h5⟩
  · exact .inl h
  · exact .inr ⟨g, off, e, trivial, h5⟩
theorem IntsAt.from {B g o n c : Nat} {w : World} {W : List Int} (h : IntsAt w (.slice (some ⟨g, o, none⟩) n c) W) (hB : B ≤ g) : IntsFrom B w (.slice (some ⟨g, o, none⟩) n c) W := by
  obtain ⟨a, cap, h1, h2, h3, h4⟩ := h
  refine ⟨a, cap, h1, h2, h3, ?_⟩
  rcases h4 with h | ⟨g', off, e, _, h5⟩
  · exact .inl h
  · refine .inr ⟨g', off, e, ?_, h5⟩
    injection h1 with h1
    rw [e] at h1
    injection h1 with h1
    injection h1 with h1
    omega
theorem IntsFrom.mono {B B' : Nat} {w : World} {v : Value} {W : List Int} (h : IntsFrom B w v W) (hB : B' ≤ B) : IntsFrom B' w v W := by
  obtain ⟨a, cap, h1, h2, h3, h4⟩ := h
  refine ⟨a, cap, h1, h2, h3, ?_⟩
  rcases h4 with h | ⟨g', off, e, h6, h5⟩
  · exact .inl h
  · exact .inr ⟨g', off, e, Nat.le_trans hB h6, h5⟩
end Go
namespace Go.Proofs.Ytjfccilmlmimaaa
open Go.RowKit Go.Sort
set_option maxRecDepth 100000 in
set_option maxHeartbeats 8000000 in
theorem clip_any (a : Option Addr) (n c : Nat) (w : World) (hn : n ≤ c) (hc : c ≤ 9223372036854775807) (hp : n = 0 ∨ ∃ g off, a = some ⟨g, off, none⟩) : Calls Try.prog 48 #[.slice a n c] w fun e w' => e = .returned (.slice a n n) ∧ w' = w := by
  have HP := Lib.hid hp
  clear hp
  go_enter Try.func48, Try.ntmps48
  go_wp2_with fail
  go_ret
  exact ⟨rfl, rfl⟩
set_option maxRecDepth 100000 in
set_option maxHeartbeats 8000000 in
theorem once_any (v : Value) (l : List Int) (w : World) (B : Nat) (hv : w.ownsRow B 3 1 v l.length (l.map (Value.int .i64))) (hN : l.length ≤ 1048576) (hB : B ≤ w.heap.size) :
    Calls Try.prog 31 #[v] w fun e w' => ∃ v' l', e = .returned v' ∧ RowKit.Below B w w' ∧ IntsFrom B w' v' l' ∧ Rise l' l := by
  obtain ⟨a, c, rfl⟩ := own_slice hv
  by_cases hl : l = []
  · subst hl
    have HCM : Hid (c ≤ 9223372036854775807) := by
      rcases hv with ⟨_, ⟨e, _⟩ | ⟨g, cap, cur, e1, _, _, _, h5, _⟩⟩
      · cases e; exact Lib.hid (by omega)
      · cases e1; exact Lib.hid (by simpa [maxLen] using h5)
    have HB := Lib.hid hB
    clear hv hN hB
    go_enter Try.func31, Try.ntmps31
    go_wp2_with (first
      | (go_at_call 47; (with_reducible refine (Try.slices_Sort_int_none a c _).mono ?_); rintro e w1 ⟨rfl, rfl⟩)
      | (go_at_call 49; (with_reducible refine (Try.slices_Compact_int_empty a c _).mono ?_); rintro e w1 ⟨rfl, rfl⟩)
      | (go_at_call 48; (with_reducible refine (clip_any a 0 c _ (Nat.zero_le _) HCM.out (.inl rfl)).mono ?_); rintro e w1 ⟨rfl, rfl⟩))
    go_ret
    exact ⟨_, [], rfl, RowKit.Below.refl _ _, ⟨a, 0, rfl, Nat.le_refl _, by omega, .inl rfl⟩, rise_nil⟩
  · rcases hv with ⟨hv0, ⟨_, h0⟩ | ⟨g, cap, cur, e1, hrest⟩⟩
    · exact (hl (List.length_eq_zero_iff.1 h0)).elim
    injection e1 with e1 _ e3
    subst e1; subst e3
    have hv : w.ownsRow B 3 1 (.slice (some ⟨g, 0, none⟩) l.length c) l.length (l.map (Value.int .i64)) := ⟨hv0, .inr ⟨g, c, cur, rfl, hrest⟩⟩
    obtain ⟨hH, hBg, hgs, hlc, _, _, hcm, _⟩ := holds_own hv
    clear hv0 hrest hl
    have hcm' : c ≤ 9223372036854775807 := by simpa [maxLen] using hcm
    have lm : (l.mergeSort fun x y => decide (x ≤ y)).length = l.length := List.length_mergeSort _
    have hR := rise_compact l
    have s1 := Try.slices_Sort_int g 0 c l w hH hgs (by omega)
    have hown := fun n os => own_sorted (n := n) (os := os) (l' := l.mergeSort fun x y => decide (x ≤ y)) lm hv
    generalize l.mergeSort (fun x y => decide (x ≤ y)) = l1 at *
    have s2 : ∀ W, W.ownsRow B 3 1 (.slice (some ⟨g, 0, none⟩) l1.length c) l1.length (l1.map (Value.int .i64)) → Calls Try.prog 49 #[.slice (some ⟨g, 0, none⟩) l.length c] W fun e w' => e = .returned (.slice (some ⟨g, 0, none⟩) (Lib.compact l1).length c) ∧ W.grownBy w' (some g) ∧ IntsAt w' (.slice (some ⟨g, 0, none⟩) (Lib.compact l1).length (Lib.compact l1).length) (Lib.compact l1) := fun W hW => by
      obtain ⟨hH1, _, _, _, _⟩ := holds_own hW
      have := Try.slices_Compact_int g 0 c l1 W hH1 (by omega) (by omega)
      rw [lm] at this
      refine this.mono ?_
      rintro e w' ⟨rfl, q, rfl⟩
      have hcl := Lib.compact_length_le l1
      have hpl : (Lib.compact l1 ++ List.replicate (l.length - (Lib.compact l1).length) 0).length = l1.length := by simp; omega
      have ho := own_sorted (n := q) (os := #[]) hpl hW
      have hgr := grownBy_sortedI (w := W) (g := g) (n := q) (os := #[]) (Lib.compact l1 ++ List.replicate (l.length - (Lib.compact l1).length) 0).toArray
      rw [grow_empty] at ho hgr
      exact ⟨rfl, hgr, ints_head (IntsAt_own ho) (Nat.le_refl _) (by omega)⟩
    have hcl := Lib.compact_length_le l1
    have S1 := Lib.hid s1; have S2 := Lib.hid s2; have HOW := Lib.hid hown; have HR := Lib.hid hR
    have c3 := fun W => clip_any (some ⟨g, 0, none⟩) (Lib.compact l1).length c W (by omega) hcm' (.inr ⟨g, 0, rfl⟩)
    have C3 := Lib.hid c3
    clear s1 s2 hown hR hH hv hcm c3
    go_enter Try.func31, Try.ntmps31
    go_wp2_with (first
      | (go_at_call 47; (with_reducible refine S1.out.mono ?_); rintro e w1 ⟨rfl, n1, os1, hw1⟩; have ho1 := HOW.out n1 os1; have hg1 := grownBy_sortedI (w := w) (g := g) (n := n1) (os := os1) l1.toArray; rw [← hw1] at ho1 hg1; have HO1 := Lib.hid ho1; have HG1 := Lib.hid hg1; clear ho1 hg1 hw1)
      | (go_at_call 49; (with_reducible refine (S2.out _ HO1.out).mono ?_); rintro e w2 ⟨rfl, hg2, hI2⟩; have HI2 := Lib.hid hI2; have HG2 := Lib.hid hg2; clear hI2 hg2)
      | (go_at_call 48; (with_reducible refine (C3.out _).mono ?_); rintro e w3 ⟨rfl, rfl⟩))
    go_ret
    refine ⟨_, _, rfl, ?_, HI2.out.from hBg, HR.out⟩
    exact (below_of_grown HG1.out hBg hB).trans (below_of_grown HG2.out hBg (Nat.le_trans hB HG1.out.size))
end Go.Proofs.Ytjfccilmlmimaaa
