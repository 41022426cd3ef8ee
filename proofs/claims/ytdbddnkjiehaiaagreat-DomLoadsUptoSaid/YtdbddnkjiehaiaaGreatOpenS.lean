/- OPENING ARGUMENTS: a slice that the reading of an argument has read, as a list. No condition. -/
import Derived.Test.YtdbddnkjiehaiaaGreatProg
import Derived.Test.YtdbddnkjiehaiaaGreatMa
import Derived.Test.YtdbddnkjiehaiaaGreatSl
set_option linter.unusedSimpArgs false
set_option linter.unusedVariables false
namespace Go
open Go.RowKit
theorem list_pick {α : Type} : ∀ (n : Nat) (p : Nat → α → Prop), (∀ i, i < n → ∃ x, p i x) → ∃ l : List α, l.length = n ∧ ∀ i x, l[i]? = some x → p i x
  | 0, _, _ => ⟨[], rfl, fun i x h => by simp at h⟩
  | n + 1, p, h => by
    obtain ⟨l, h1, h2⟩ := list_pick n p fun i hi => h i (by omega)
    obtain ⟨x, hx⟩ := h n (by omega)
    refine ⟨l ++ [x], by simp [h1], fun i y hy => ?_⟩
    by_cases hi : i < l.length
    · rw [List.getElem?_append_left hi] at hy; exact h2 i y hy
    · rw [List.getElem?_append_right (by omega)] at hy
      have : i - l.length = 0 := by
        have := (List.getElem?_eq_some_iff.1 hy).1; simp at this; omega
      rw [this] at hy
      simp at hy
      subst hy
      rw [show i = n by omega]; exact hx
end Go
namespace Go.Proofs.YtdbddnkjiehaiaaGreat
open Go.ChangeShapes Go.WideShapes Go.ChangeAt Go.RowKit

/-- a slice that was read, as a list -/
theorem trod_slat0 {α : Type} {H : Type} {enc : TypeId × Value → H} {w : World} {base : Nat} {sp : Nat → Bool} {hd : Bool} {t e : TypeId} {n n0 : Nat} {cs : List Value} {x : DataW H × List MemPlace}
    (ht : Tryz.prog.underlying t = some (.slice e)) (hc : Tryz.prog.cellsOf e = n0) (h0 : 0 < n0) (R : α → List Value → Prop)
    (hR : ∀ cs' y, cs'.length = n0 → DataW.trod enc Tryz.prog w base sp hd n e cs' = some y → ∃ z, R z cs')
    (h : DataW.trod enc Tryz.prog w base sp hd (n + 1) t cs = some x) :
    ∃ (l : List α) (v : Value), cs = [v] ∧ SlAt w (fun _ => True) n0 R v l := by
  rcases DataW.trod_slice ht h with ⟨rfl, rfl⟩ | ⟨a, len, cap, elems, rest, n', hn, rfl, rfl, hb, hl, hm, hlen, hel, _, _⟩
  · exact ⟨[], _, rfl, SlAt_nil _ _ _ _⟩
  · obtain rfl : n = n' := by omega
    rw [hc] at hel
    have hget : ∀ i, i < len → ∃ cs', w.cells? base (a.add (i * n0)) n0 = some cs' ∧ ∃ y, elems[i]? = some y ∧ DataW.trod enc Tryz.prog w base sp hd n e cs' = some y := fun i hi => by
      have h1 := hel i hi
      rw [List.getElem?_eq_getElem (by omega : i < elems.length)] at h1
      obtain ⟨cs', h2, h3⟩ := Option.bind_eq_some_iff.1 h1
      exact ⟨cs', h2, _, List.getElem?_eq_getElem (by omega), h3⟩
    obtain ⟨l, hll, hlp⟩ := list_pick len (fun i z => ∃ cs', cs'.length = n0 ∧ w.cells? base (a.add (i * n0)) n0 = some cs' ∧ R z cs') fun i hi => by
      obtain ⟨cs', h2, y, h3, h4⟩ := hget i hi
      have hl' := (World.cells?_some h2).2.1
      obtain ⟨z, z1⟩ := hR cs' y hl' h4
      exact ⟨z, cs', hl', h2, z1⟩
    refine ⟨l, _, rfl, ⟨some a, cap, by rw [hll], by omega, by simpa [maxLen] using hm, ?_⟩⟩
    cases l with
    | nil => exact .inl rfl
    | cons z0 l0 =>
      right
      have hsp : a.spot = none := by
        obtain ⟨cs', h1, h2, _⟩ := hlp 0 z0 rfl
        obtain ⟨_, _, h5⟩ := World.cells?_some h2
        have h6 := h5 0 h0
        rw [List.getElem?_eq_getElem (by omega : 0 < cs'.length)] at h6
        have := World.cell?_spot h6
        simpa [Addr.add] using this
      obtain ⟨g, off, spt⟩ := a
      obtain rfl : spt = none := hsp
      refine ⟨g, off, rfl, trivial, fun i z hi => ?_⟩
      obtain ⟨cs', h1, h2, h3⟩ := hlp i z hi
      refine ⟨cs', h1, eltAt_of_range (by intro e; rw [e] at h1; simp at h1; omega) fun j u hj => ?_, h3⟩
      have hjl : j < n0 := by rw [← h1]; exact (List.getElem?_eq_some_iff.1 hj).1
      have := (World.cells?_some h2).2.2 j hjl
      rw [hj, Addr.add_mid, Addr.add_mid] at this
      exact this
theorem trod_pos0 {H : Type} {enc : TypeId × Value → H} {w : World} {base : Nat} {sp : Nat → Bool} {hd : Bool} {t : TypeId} {n : Nat} {cs : List Value} {x : DataW H × List MemPlace}
    (h : DataW.trod enc Tryz.prog w base sp hd n t cs = some x) : ∃ k, n = k + 1 := by
  cases n with
  | zero => simp [DataW.trod] at h
  | succ n => exact ⟨n, rfl⟩
end Go.Proofs.YtdbddnkjiehaiaaGreat
