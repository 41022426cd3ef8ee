/- WALKS over point: Asked. No condition but that an index stands in memory. -/
import Derived.Test.YtjfccilmlmimaaaMk
set_option linter.unusedSimpArgs false
set_option linter.unusedVariables false
namespace Go
open Go.RowKit
/-- how many of the first lie between -/
def cntB (nm : ByteArray) (a b c d : Int) (l : List Ln) (i : Nat) : Nat := ((l.take i).filter (betw nm a b c d)).length
theorem cntB_succ {nm : ByteArray} {a b c d : Int} {l : List Ln} {i : Nat} {x : Ln} (h : l[i]? = some x) : cntB nm a b c d l (i + 1) = cntB nm a b c d l i + if betw nm a b c d x = true then 1 else 0 := by
  unfold cntB
  rw [List.take_add_one, h, List.filter_append, List.length_append]
  congr 1
  cases hx : betw nm a b c d x <;> simp [hx]
theorem cntB_le (nm : ByteArray) (a b c d : Int) (l : List Ln) (i : Nat) : cntB nm a b c d l i ≤ i := by
  unfold cntB
  exact Nat.le_trans (List.length_filter_le _ _) (by simp; omega)
theorem cntB_all (nm : ByteArray) (a b c d : Int) (l : List Ln) : cntB nm a b c d l l.length = (l.filter (betw nm a b c d)).length := by unfold cntB; rw [List.take_length]
end Go
namespace Go.Proofs.Ytjfccilmlmimaaa
open Go.RowKit Go.Maps
theorem looks_len {a b c d : Int} {nm : ByteArray} {l : List Ln} {m : Nat} (h : Looks a b c d nm l m) : m ≤ l.length := by
  obtain ⟨p, sub, h1, h2, h3⟩ := h
  have h4 := subOf_len h2
  have h5 := h1.len
  have h6 : (ofN l l.length nm.data.toList).length ≤ l.length := by unfold ofN; exact Nat.le_trans (List.length_filter_le _ _) (by simp)
  omega
set_option maxRecDepth 100000 in
set_option maxHeartbeats 4000000 in
theorem ixAsked_any (ix B : Nat) (n : Int) (l : List Ln) (w : World) (hI : Idx w ix n B l) : Calls Try.prog 23 #[.pointer (some ⟨ix, 0, none⟩)] w fun e w' => e = .returned (.int .i64 n) ∧ w' = w := by
  obtain ⟨b, hx⟩ := idx_seg hI
  have zx := row_sz' hx
  have HX := Lib.hid hx
  clear hI hx
  go_enter Try.func23, Try.ntmps23
  go_wp2_with (go_at_call 39; (with_reducible refine (cntValue_any ix (.map (some b)) n 60 _ HX.out).mono ?_); rintro e w1 ⟨rfl, rfl⟩)
  go_ret
  exact ⟨rfl, rfl⟩
end Go.Proofs.Ytjfccilmlmimaaa
