/- LAWS: a slice that reads as whole numbers. No condition; laws over any program. -/
import Derived.Test.YtdbddnkjiehaiaaGreatSl
set_option linter.unusedSimpArgs false
set_option linter.unusedVariables false
namespace Go
open Go.RowKit
/-- a slice that reads as these whole numbers -/
abbrev IntsAt (w : World) (v : Value) (W : List Int) : Prop := SlAt w (fun _ => True) 1 (fun (x : Int) cs => cs = [Value.int .i64 x]) v W
theorem IntsAt_own {w : World} {B : Nat} {t : TypeId} {v : Value} {W : List Int} (h : w.ownsRow B t 1 v W.length (W.map (Value.int .i64))) : IntsAt w v W := by
  have ho : OwnAt w B t 1 (fun (x : Int) cs => cs = [Value.int .i64 x]) v W := by
    refine ⟨W.map fun x => [Value.int .i64 x], by simp, fun i s cs h1 h2 => ?_, ?_⟩
    · rw [List.getElem?_map, h1] at h2; cases h2; exact ⟨rfl, rfl⟩
    · have e : (W.map fun x => [Value.int .i64 x]).flatten = W.map (Value.int .i64) := by
        clear h
        induction W with
        | nil => rfl
        | cons a r ih => simp [ih]
      rw [e]; exact h
  exact ho.slAt (by omega) fun _ _ => trivial
theorem IntsAt.grow {w W : World} {v : Value} {l : List Int} (h : IntsAt w v l) (hg : w.grows W) : IntsAt W v l := h.grows hg fun _ _ _ h => h
end Go
