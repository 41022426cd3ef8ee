/- PLAIN: a sorted list of whole numbers, compacted: each of its members once, rising. What a sorted and compacted row of whole numbers of the call's own looks like. No condition; laws over any program. -/
import Derived.Test.YtjfccilmlmimaaaIntsAt
import Derived.Sort.OwnSortedInts
import Derived.Lib.SlicesCompact
set_option linter.unusedSimpArgs false
set_option linter.unusedVariables false
namespace Go
open Go.RowKit Go.Sort
/-- these members, each once, rising -/
def Rise (r l : List Int) : Prop := r.Pairwise (· < ·) ∧ ∀ z, z ∈ r ↔ z ∈ l
theorem rise_upTo (zs : List Int) (hs : zs.Pairwise (· ≤ ·)) : ∀ m, m ≤ zs.length → Rise (Lib.compactUpTo zs.toArray m) (zs.take m)
  | 0, _ => by simp [Rise, Lib.compactUpTo]
  | m + 1, hm => by
    obtain ⟨h1, h2⟩ := rise_upTo zs hs m (by omega)
    have hget : ∀ j, (h : j < zs.length) → zs.toArray[j]! = zs[j] := fun j h => by simp [h]
    rw [Lib.compactUpTo_succ]
    have ht : zs.take (m + 1) = zs.take m ++ [zs[m]] := by rw [List.take_add_one, List.getElem?_eq_getElem (by omega)]; rfl
    rw [ht, hget m (by omega)]
    have hle : ∀ i, (h : i < m) → zs[i]'(by omega) ≤ zs[m - 1]'(by omega) := fun i h => by
      by_cases e : i = m - 1
      · subst e; exact Int.le_refl _
      · exact List.pairwise_iff_getElem.1 hs i (m - 1) (by omega) (by omega) (by omega)
    by_cases hk : Lib.keeps zs.toArray m = true
    · rw [if_pos hk]
      refine ⟨List.pairwise_append.2 ⟨h1, by simp, fun a ha b hb => ?_⟩, fun z => by rw [List.mem_append, List.mem_append, h2]⟩
      obtain rfl : b = zs[m] := by simpa using hb
      obtain ⟨i, hi, rfl⟩ := List.mem_iff_getElem.1 ((h2 a).1 ha)
      have hi' : i < m := by simp at hi; omega
      rw [List.getElem_take]
      have hkk : m = 0 ∨ ¬ zs.toArray[m]! = zs.toArray[m - 1]! := by simpa only [Lib.keeps, decide_eq_true_eq] using hk
      rw [hget m (by omega), hget (m - 1) (by omega)] at hkk
      have a1 := hle i hi'
      have a2 : zs[m - 1]'(by omega) ≤ zs[m] := List.pairwise_iff_getElem.1 hs (m - 1) m (by omega) (by omega) (by omega)
      rcases hkk with h0 | h0
      · omega
      · have : zs[m - 1]'(by omega) ≠ zs[m] := fun e => h0 e.symm
        omega
    · rw [if_neg hk, List.append_nil]
      refine ⟨h1, fun z => ?_⟩
      rw [h2, List.mem_append]
      constructor
      · exact .inl
      · rintro (h | h)
        · exact h
        · obtain rfl : z = zs[m] := by simpa using h
          have hkk : ¬ (m = 0 ∨ ¬ zs.toArray[m]! = zs.toArray[m - 1]!) := by simpa only [Lib.keeps, decide_eq_true_eq] using hk
          have h0 : m ≠ 0 := fun e => hkk (.inl e)
          have h3 : zs.toArray[m]! = zs.toArray[m - 1]! := Decidable.byContradiction fun e => hkk (.inr e)
          rw [hget m (by omega), hget (m - 1) (by omega)] at h3
          rw [h3]
          exact List.mem_iff_getElem.2 ⟨m - 1, by simp; omega, by rw [List.getElem_take]⟩
theorem rise_compact (l : List Int) : Rise (Lib.compact (l.mergeSort fun x y => decide (x ≤ y))) l := by
  have hs : (l.mergeSort fun x y => decide (x ≤ y)).Pairwise (· ≤ ·) := by
    have := List.pairwise_mergeSort (le := fun x y : Int => decide (x ≤ y)) (fun a b c h1 h2 => by simp at *; omega) (fun a b => by simp; omega) l
    exact this.imp fun h => by simpa using h
  obtain ⟨h1, h2⟩ := rise_upTo _ hs _ (Nat.le_refl _)
  rw [List.take_length] at h2
  exact ⟨h1, fun z => (h2 z).trans (List.mergeSort_perm _ _).mem_iff⟩
theorem rise_nil : Rise [] [] := ⟨by simp, fun _ => Iff.rfl⟩
theorem holds_own {w : World} {B g cap : Nat} {e : TypeId} {l : List Int} (h : w.ownsRow B e 1 (.slice (some ⟨g, 0, none⟩) l.length cap) l.length (l.map (Value.int .i64))) : Holds (Value.int .i64) w g 0 l.toArray ∧ B ≤ g ∧ g < w.heap.size ∧ l.length ≤ cap ∧ ∃ cur, w.heap[g]? = some (.cells cur e (0, 0)) ∧ cap ≤ maxLen ∧ cur.size = cap * 1 := by
  obtain ⟨_, ⟨h0, _⟩ | ⟨g', cap', cur, e1, hb, hh, hnc, hc, hsz, htake⟩⟩ := h
  · cases h0
  · injection e1 with e1 _ e3
    injection e1 with e1
    injection e1 with e1
    subst e1; subst e3
    exact ⟨holds_of_blockI hh (by simpa using htake), hb, (Array.getElem?_eq_some_iff.1 hh).1, hnc, cur, hh, hc, hsz⟩
theorem below_of_grown {w w' : World} {g B : Nat} (h : w.grownBy w' (some g)) (hB : B ≤ g) (hs : B ≤ w.heap.size) : Below B w w' :=
  (Below.refl B w).grown h hs fun k e => by cases e; exact hB
theorem own_sorted {w : World} {B g cap n : Nat} {e : TypeId} {os : Array Obj} {l l' : List Int} (hl : l'.length = l.length) (h : w.ownsRow B e 1 (.slice (some ⟨g, 0, none⟩) l.length cap) l.length (l.map (Value.int .i64))) :
    (grow (putRow (Value.int .i64) (Sort.ahead w n) g 0 l'.toArray) os).ownsRow B e 1 (.slice (some ⟨g, 0, none⟩) l'.length cap) l'.length (l'.map (Value.int .i64)) := by
  obtain ⟨_, hb, _, hc, cur, hh, hm, hz⟩ := holds_own h
  have := ownsRow_sortedI (n := n) (os := os) (base := B) hl hb hh hc hm hz
  rw [← hl] at this; exact this
/-- the head of a row, cut -/
theorem ints_head {w : World} {a : Option Addr} {n c c2 : Nat} {l r : List Int} (h : IntsAt w (.slice a n c) (l ++ r)) (h1 : l.length ≤ c2) (h2 : c2 ≤ 9223372036854775807) : IntsAt w (.slice a l.length c2) l := by
  obtain ⟨a', cap, e, _, _, h4⟩ := h
  injection e with e1 _ _
  subst e1
  refine ⟨a, c2, rfl, h1, h2, ?_⟩
  rcases h4 with h4 | ⟨g, off, e, hS, h5⟩
  · exact .inl (List.append_eq_nil_iff.1 h4).1
  · exact .inr ⟨g, off, e, hS, fun i x hx => h5 i x (by rw [List.getElem?_append_left (List.getElem?_eq_some_iff.1 hx).1]; exact hx)⟩
end Go
