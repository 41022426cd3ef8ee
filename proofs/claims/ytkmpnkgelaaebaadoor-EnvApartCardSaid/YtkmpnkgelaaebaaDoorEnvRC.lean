/- WALKS over jalousieref16: a change. No condition but that numbers are of their kinds. -/
import Derived.Test.YtkmpnkgelaaebaaDoorEnvO
import Derived.Test.YtkmpnkgelaaebaaDoorEnvR
set_option linter.unusedSimpArgs false
set_option linter.unusedVariables false
namespace Go
open Go.RowKit Go.Proofs.YtkmpnkgelaaebaaDoor
theorem turn_ori {e : En} {n wd : ByteArray} (h : n.toList = [111, 114, 105, 101, 110, 116, 97, 116, 105, 111, 110]) : e.turn n wd = none := by
  have : fieldOf n = none := by unfold fieldOf; rw [if_neg, if_neg, if_neg, if_neg] <;> (rw [h]; decide)
  unfold En.turn; rw [this]
theorem turn_no {e : En} {n wd : ByteArray} (h : hasW (wordsOf n) wd = false) : e.turn n wd = none := by
  unfold En.turn; split
  · rfl
  · rw [h]; rfl
theorem turn_yes {e : En} {n wd : ByteArray} (h0 : ¬ n.toList = [111, 114, 105, 101, 110, 116, 97, 116, 105, 111, 110]) (h : hasW (wordsOf n) wd = true) :
    (n.toList = [104, 111, 118, 101, 114] ∧ e.turn n wd = some { e with h := wd }) ∨ (n.toList = [112, 111, 105, 110, 116, 101, 114] ∧ e.turn n wd = some { e with q := wd }) ∨
    (n.toList = [112, 114, 101, 102, 101, 114, 115, 45, 99, 111, 108, 111, 114, 45, 115, 99, 104, 101, 109, 101] ∧ e.turn n wd = some { e with s := wd }) ∨
    (n.toList = [112, 114, 101, 102, 101, 114, 115, 45, 114, 101, 100, 117, 99, 101, 100, 45, 109, 111, 116, 105, 111, 110] ∧ e.turn n wd = some { e with m := wd }) := by
  unfold En.turn
  rw [h]
  unfold fieldOf
  by_cases h1 : n.toList = [104, 111, 118, 101, 114]
  · exact .inl ⟨h1, by rw [if_pos h1]; rfl⟩
  by_cases h2 : n.toList = [112, 111, 105, 110, 116, 101, 114]
  · exact .inr (.inl ⟨h2, by rw [if_neg h1, if_pos h2]; rfl⟩)
  by_cases h3 : n.toList = [112, 114, 101, 102, 101, 114, 115, 45, 99, 111, 108, 111, 114, 45, 115, 99, 104, 101, 109, 101]
  · exact .inr (.inr (.inl ⟨h3, by rw [if_neg h1, if_neg h2, if_pos h3]; rfl⟩))
  by_cases h4 : n.toList = [112, 114, 101, 102, 101, 114, 115, 45, 114, 101, 100, 117, 99, 101, 100, 45, 109, 111, 116, 105, 111, 110]
  · exact .inr (.inr (.inr ⟨h4, by rw [if_neg h1, if_neg h2, if_neg h3, if_pos h4]; rfl⟩))
  rw [wordsOf_none h1 h0 h2 h3 h4] at h
  cases h
end Go
namespace Go.Proofs.YtkmpnkgelaaebaaDoor
open Go.RowKit
end Go.Proofs.YtkmpnkgelaaebaaDoor
