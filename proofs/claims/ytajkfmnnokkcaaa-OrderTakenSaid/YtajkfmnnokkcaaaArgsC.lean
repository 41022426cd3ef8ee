/- OPENING ARGUMENTS: a list of claims. No condition. -/
import Derived.Test.YtajkfmnnokkcaaaOpenS
import Derived.Test.YtajkfmnnokkcaaaArgsO
import Derived.Test.YtajkfmnnokkcaaaCls
set_option linter.unusedSimpArgs false
set_option linter.unusedVariables false
namespace Go.Proofs.Ytajkfmnnokkcaaa
open Go.ChangeShapes Go.WideShapes Go.ChangeAt Go.RowKit

set_option maxRecDepth 100000 in
theorem claims_arg {H : Type} {enc : TypeId × Value → H} {w : World} {base b0 : Nat} {sp : Nat → Bool} {hd : Bool} {r : Reach} {v : Value} {d : DataW H} {p : List MemPlace}
    (hv : Value.okWide Try.prog w r b0 22 v) (h : DataW.Trod enc Try.prog w base sp hd 22 v d p) : ∃ l : List Cl, SlAt w (fun _ => True) 8 ClR v l := by
  obtain ⟨a, len, cap, rfl⟩ := okWide_slice Try.underlying22 hv
  obtain ⟨fuel, hf⟩ := h
  obtain ⟨n, rfl⟩ := trod_pos0 hf
  obtain ⟨l, v, e, hs⟩ := trod_slat0 (n0 := 8) (α := Cl) Try.underlying22 (by kernel_rfl) (by decide) ClR (fun cs' y _ hy => by
    obtain ⟨q0, q1, q2, q3, q4, q5, q6, q7, rfl, w0, w1, w3, w4, w5, w6, w7⟩ := claim_cells hy
    exact ⟨⟨q0, q1, q2, q3, q4, q5, q6, q7⟩, rfl, w0, w1, w3, w4, w5, w6, w7⟩) hf
  simp only [Value.cells] at e
  have e : [Value.slice a len cap] = [v] := by simpa using e
  injection e with e
  subst e
  exact ⟨l, hs⟩
end Go.Proofs.Ytajkfmnnokkcaaa
