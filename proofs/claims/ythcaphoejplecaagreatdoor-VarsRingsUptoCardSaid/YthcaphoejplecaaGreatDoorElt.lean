/- LAWS over any program: a struct that lies in the middle of a block (an element of a slice) is loaded. No condition. -/
import Derived.Test.YthcaphoejplecaaGreatDoorMem
import Derived.Deep.MidRow
set_option linter.unusedSimpArgs false
set_option linter.unusedVariables false
namespace Go
open Go.RowKit

/-- n cells from off on stand in the block -/
def segOk (off n : Nat) : Option Obj → Bool
  | some (.cells cs _ _) => decide (off + n ≤ cs.size)
  | _ => false
/-- what they hold -/
def segV (off n : Nat) : Option Obj → Value
  | some (.cells cs _ _) => .agg (cs.extract off (off + n))
  | _ => undef
theorem run_loadR_seg {P : Program} {w : World} {t : TypeId} {n : Nat} {d : TypeDesc} {g off : Nat} (hu : P.underlying t = some d) (hd : d.isRow = true)
    (hi : (P.info? t).map (·.size) = some n) (h : segOk off n (w.row g) = true) : (loadR t (.pointer (some ⟨g, off, none⟩))).run P w = .ok (segV off n (w.row g)) w := by
  unfold segOk at h
  split at h
  · rename_i cs e fr hg
    have hle : off + n ≤ cs.size := of_decide_eq_true h
    rw [hg]
    show _ = Result.ok (Value.agg (cs.extract off (off + n))) w
    have hl : (cs.extract off (off + n)).toList.length = n := by simp; omega
    have := run_loadAt_mid (P := P) w g off t (cs.extract off (off + n)).toList d (fun j v hj => by
      rw [World.cell?_row, hg, cellR_some]
      have hj' : j < n := by have := (List.getElem?_eq_some_iff.1 hj).1; omega
      simp only [Array.getElem?_toList, Array.getElem?_extract] at hj
      rw [if_pos (by omega)] at hj; exact hj) hu hd (by rw [hi, hl])
    rw [Array.toArray_toList] at this; exact this
  · cases h
/-- an element's cells, known -/
def eltAt (w : World) (g off : Nat) (cs : List Value) : Prop := segOk off cs.length (w.row g) = true ∧ segV off cs.length (w.row g) = .agg cs.toArray
theorem eltAt_of_range {w : World} {g off : Nat} {cs : List Value} (h0 : cs ≠ []) (h : w.rangeAt g off cs) : eltAt w g off cs := by
  have key : ∀ j v, cs[j]? = some v → cellR (off + j) (w.row g) = some v := fun j v hj => by rw [← World.cell?_row]; exact h j v hj
  cases hr : w.row g with
  | none => 
    obtain ⟨v, hv⟩ : ∃ v, cs[0]? = some v := ⟨cs[0]'(List.length_pos_iff.2 h0), List.getElem?_eq_getElem _⟩
    have := key 0 v hv; rw [hr] at this; cases this
  | some o =>
    rw [hr] at key
    have kk : ∃ c t fr, o = .cells c t fr := by
      obtain ⟨v, hv⟩ : ∃ v, cs[0]? = some v := ⟨cs[0]'(List.length_pos_iff.2 h0), List.getElem?_eq_getElem _⟩
      have := key 0 v hv
      unfold cellR at this
      split at this
      · rename_i c t fr e; exact ⟨c, t, fr, by cases e; rfl⟩
      · cases this
    obtain ⟨c, t, fr, rfl⟩ := kk
    simp only [cellR_some] at key
    have hle : off + cs.length ≤ c.size := by
      have hp := List.length_pos_iff.2 h0
      have hv : cs[cs.length - 1]? = some (cs[cs.length - 1]'(by omega)) := List.getElem?_eq_getElem _
      have := key _ _ hv
      have := (Array.getElem?_eq_some_iff.1 this).1
      omega
    refine ⟨by rw [hr]; unfold segOk; simpa using hle, ?_⟩
    rw [hr]
    show Value.agg (c.extract off (off + cs.length)) = .agg cs.toArray
    congr 1
    apply Array.ext_getElem?
    intro i
    rw [Array.getElem?_extract]
    by_cases hi : i < cs.length
    · rw [if_pos (by omega)]
      have hv : cs[i]? = some cs[i] := List.getElem?_eq_getElem hi
      rw [key i _ hv]; simp [hi]
    · rw [if_neg (by omega)]; simp; omega
theorem eltAt.grows {w W : World} {g off : Nat} {cs : List Value} (h : eltAt w g off cs) (hg : w.grows W) : eltAt W g off cs := by
  obtain ⟨x, rfl⟩ := hg
  unfold eltAt at *
  have hlt : g < w.heap.size := by
    have := h.1
    unfold segOk at this
    split at this
    · rename_i e; exact row_lt e
    · cases this
  rw [World.row_plus, if_pos hlt]; exact h
theorem eltAt.lt {w : World} {g off : Nat} {cs : List Value} (h : eltAt w g off cs) : g < w.heap.size := by
  have := h.1
  unfold segOk at this
  split at this
  · rename_i e; exact row_lt e
  · cases this
/-- a block is an old one -/
theorem lt_sz {W : World} {i : Nat} (this : i < W.heap.size) : (i < W.heap.size) ∧ (∀ b, i < W.heap.size + b) ∧ (∀ b c, i < W.heap.size + b + c) ∧ (∀ b c d, i < W.heap.size + b + c + d) ∧ (∀ b c d e, i < W.heap.size + b + c + d + e) ∧
    ((i = W.heap.size) = False) ∧ (∀ b, (i = W.heap.size + b) = False) ∧ (∀ b c, (i = W.heap.size + b + c) = False) ∧ (∀ b c d, (i = W.heap.size + b + c + d) = False) ∧ (∀ b c d e, (i = W.heap.size + b + c + d + e) = False) := by
  refine ⟨this, fun b => by omega, fun b c => by omega, fun b c d => by omega, fun b c d e => by omega, by apply eq_false; omega, fun b => by apply eq_false; omega, fun b c => by apply eq_false; omega, fun b c d => by apply eq_false; omega, fun b c d e => by apply eq_false; omega⟩
end Go
