/- LAWS: the first elements of a slice. No condition. -/
import Derived.Test.YtjfccilmlmimaaaSl
set_option linter.unusedSimpArgs false
set_option linter.unusedVariables false
namespace Go
open Go.RowKit
theorem SlAt.take {α : Type} {w : World} {S : Nat → Prop} {n : Nat} {R : α → List Value → Prop} {a : Option Addr} {len cap : Nat} {l : List α} (h : SlAt w S n R (.slice a len cap) l) {k : Nat} (hk : k ≤ l.length) :
    SlAt w S n R (.slice a k cap) (l.take k) := by
  obtain ⟨a', cap', e, h2, h3, h4⟩ := h
  injection e with e1 e2 e3
  subst e1; subst e3
  have hl : (l.take k).length = k := by simp [hk]
  refine ⟨a, cap, by rw [hl], by omega, h3, ?_⟩
  rcases h4 with rfl | ⟨g, off, rfl, hS, h7⟩
  · exact .inl (by simp)
  · exact .inr ⟨g, off, rfl, hS, fun i x hx => h7 i x (by
      have := (List.getElem?_eq_some_iff.1 hx).1
      rw [List.getElem?_take_of_lt (by omega)] at hx; exact hx)⟩
theorem SlAt.drop {α : Type} {w : World} {S : Nat → Prop} {n : Nat} {R : α → List Value → Prop} {g off len cap : Nat} {l : List α} (h : SlAt w S n R (.slice (some ⟨g, off, none⟩) len cap) l) {k : Nat} (hk : k ≤ l.length) :
    SlAt w S n R (.slice (some ⟨g, off + k * n, none⟩) (len - k) (cap - k)) (l.drop k) := by
  obtain ⟨a', cap', e, h2, h3, h4⟩ := h
  injection e with e1 e2 e3
  subst e1; subst e2; subst e3
  refine ⟨some ⟨g, off + k * n, none⟩, cap - k, by rw [List.length_drop], by rw [List.length_drop]; omega, by omega, ?_⟩
  by_cases hkl : k = l.length
  · exact .inl (by rw [hkl, List.drop_length])
  rcases h4 with rfl | ⟨g', off', e', hS, h7⟩
  · exact .inl (by simp)
  · cases e'
    exact .inr ⟨g, off + k * n, rfl, hS, fun i x hx => by
      rw [List.getElem?_drop] at hx
      have := h7 (k + i) x hx
      rw [Nat.add_mul, ← Nat.add_assoc] at this
      exact this⟩
/-- the cells of a slice of things, to be put behind a row -/
theorem SlAt.news {α : Type} {w : World} {S : Nat → Prop} {n : Nat} {R : α → List Value → Prop} {ad : Addr} {len cap : Nat} {l : List α} (hn : 0 < n) (h : SlAt w S n R (.slice (some ad) len cap) l) (h1 : ∀ x cs, R x cs → ∀ u ∈ cs, u.oneCell' = true) :
    ∃ css : List (List Value), css.length = l.length ∧ (∀ (i : Nat) (x : α) (cs : List Value), l[i]? = some x → css[i]? = some cs → cs.length = n ∧ R x cs) ∧ css.flatten.length = l.length * n ∧ (∀ j u, css.flatten[j]? = some u → w.cell? (ad.add j) = some u) ∧ ∀ u ∈ css.flatten, u.oneCell' = true := by
  obtain ⟨_, css, c1, c2, c3, c4⟩ := h.cells hn
  refine ⟨css, c1, c2, c3, fun j u hj => ?_, fun u hu => ?_⟩
  · rcases c4 with h0 | ⟨ad', e, h⟩
    · have := (List.getElem?_eq_some_iff.1 hj).1
      rw [c3, h0] at this; omega
    · cases e; exact h j u hj
  · obtain ⟨cs, hcs, hu⟩ := List.mem_flatten.1 hu
    obtain ⟨i, hi, rfl⟩ := List.mem_iff_getElem.1 hcs
    exact h1 _ _ (c2 i l[i] _ (List.getElem?_eq_getElem (by omega)) (List.getElem?_eq_getElem hi)).2 u hu
end Go
