/- LAWS: the first elements of a slice. No condition. -/
import Derived.Test.YtajkfmnnokkcaaaSl
set_option linter.unusedSimpArgs false
set_option linter.unusedVariables false
namespace Go
open Go.RowKit
theorem SlAt.take {α : Type} {w : World} {S : Nat → Prop} {n : Nat} {R : α → List Value → Prop} {a : Option Addr} {len cap : Nat} {l : List α} (h : SlAt w S n R (.slice a len cap) l) {k : Nat} (hk : k ≤ l.length) :
    SlAt w S n R (.slice a k cap) (l.take k) := by
  obtain ⟨a', cap', e, h2, h3, h4⟩ := h
  injection e with e1 e2 e3
  subst e1; subst e3
  have hl : (l.take k).length = k := by simp [hk]
  refine ⟨a, cap, by rw [hl], by omega, h3, ?_⟩
  rcases h4 with rfl | ⟨g, off, rfl, hS, h7⟩
  · exact .inl (by simp)
  · exact .inr ⟨g, off, rfl, hS, fun i x hx => h7 i x (by
      have := (List.getElem?_eq_some_iff.1 hx).1
      rw [List.getElem?_take_of_lt (by omega)] at hx; exact hx)⟩
end Go
