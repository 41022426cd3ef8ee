/-
  No cell of these rows narrows 'for every input' (looked for: loops, veiled, ifaces, maps, wideKeys, modest, calm, conditions, laid).
  DERIVED. THE GIVEN ROWS OF THIS SEAT. 5 by the template 'for every input the law returns true; each argument reads behind the call as it read before'; 0 by the template 'total and deterministic' (their statements: YtdbddnkjiehaiaaTotals.lean).
  GIVEN WITH THE SEED: the statements are not yours to turn. If you find one false, say at which input.
  Laid BY PROGRAM, IN A SANDBOX (cutbox-rows.mjs): the forced cells as the released guide's own fill.sh prints them over the translation 393c7c6d62d3af40… (all of the seat's roots in one cut). By AI agents, Wed Nov 11 2026. No macro, syntax, notation, axiom, sorry.
-/
import Derived.Test.YtdbddnkjiehaiaaChecked
import GoSem.Claim
import GoSem.ClaimJoined
import GoSem.ClaimMapViews
import Derived.JoinedTies
import Derived.KernelRfl
namespace Go.Proofs.Ytdbddnkjiehaiaa
/- THE CELL 'sum', in the pinned program and in every row, IS THE sha256 OF THE DUMP (.gsa) THAT YtdbddnkjiehaiaaProg.lean LOADS. Nothing in Lean hashes anything: it is a label: what it is worth is what the hold of that sum in a sandbox is worth. -/
noncomputable def Try.pinned : Pinned := { name := "ytdbddnkjiehaiaa", sum := "393c7c6d62d3af4058ed555cf5876943cc56b46e029d0c278a8fb0add20d6cf4", checked := Try.checked }
namespace Rows
def none {H : Type} : Left H := { results := [], args := [] }

/-- 'jalousielaw8.DomLooks': WHATEVER THE INPUT: true; the input reads as it did. -/
def domLooksSpec : ChangeSpec := { name := "domLooks", fn := fun _ => fun
  | [d1, d2, d3] => { results := [.lit (.bool true)], args := [d1, d2, d3] }
  | _ => none }
def domLooksRow : OpenClaim := { program := "ytdbddnkjiehaiaa", sum := "393c7c6d62d3af4058ed555cf5876943cc56b46e029d0c278a8fb0add20d6cf4", func := "jalousie/jalousielaw8.DomLooks", spec := "domLooks", inPlace := ["slices.overlaps[int]", "internal/bytealg.abigen_runtime_cmpstring", "slices.overlaps[jalousie/api.Attr]"], unfollowed := true, recurses := true, apart := false }
def DomLooksSaid : Prop := domLooksRow.holds Try.pinned (OpenSpec.ofChange domLooksSpec)

/-- ITS FALSE NEIGHBOUR: 'it returns false'. Refute it at one input. -/
def domLooksWrong : ChangeSpec := { name := "domLooks", fn := fun _ => fun
  | [d1, d2, d3] => { results := [.lit (.bool false)], args := [d1, d2, d3] }
  | _ => none }
def DomLooksWrongFalsely : Prop := domLooksRow.holds Try.pinned (OpenSpec.ofChange domLooksWrong)

/-- 'jalousielaw8.DomApart': WHATEVER THE INPUT: true; the input reads as it did. -/
def domApartSpec : ChangeSpec := { name := "domApart", fn := fun _ => fun
  | [d1, d2, d3] => { results := [.lit (.bool true)], args := [d1, d2, d3] }
  | _ => none }
def domApartRow : OpenClaim := { program := "ytdbddnkjiehaiaa", sum := "393c7c6d62d3af4058ed555cf5876943cc56b46e029d0c278a8fb0add20d6cf4", func := "jalousie/jalousielaw8.DomApart", spec := "domApart", inPlace := ["slices.overlaps[int]", "internal/bytealg.abigen_runtime_cmpstring", "slices.overlaps[jalousie/api.Attr]"], unfollowed := true, recurses := true, apart := false }
def DomApartSaid : Prop := domApartRow.holds Try.pinned (OpenSpec.ofChange domApartSpec)

/-- ITS FALSE NEIGHBOUR: 'it returns false'. Refute it at one input. -/
def domApartWrong : ChangeSpec := { name := "domApart", fn := fun _ => fun
  | [d1, d2, d3] => { results := [.lit (.bool false)], args := [d1, d2, d3] }
  | _ => none }
def DomApartWrongFalsely : Prop := domApartRow.holds Try.pinned (OpenSpec.ofChange domApartWrong)

/-- 'jalousielaw8.DomPlays': WHATEVER THE INPUT: true; the input reads as it did. -/
def domPlaysSpec : ChangeSpec := { name := "domPlays", fn := fun _ => fun
  | [d1, d2] => { results := [.lit (.bool true)], args := [d1, d2] }
  | _ => none }
def domPlaysRow : OpenClaim := { program := "ytdbddnkjiehaiaa", sum := "393c7c6d62d3af4058ed555cf5876943cc56b46e029d0c278a8fb0add20d6cf4", func := "jalousie/jalousielaw8.DomPlays", spec := "domPlays", inPlace := ["slices.overlaps[int]", "internal/bytealg.abigen_runtime_cmpstring", "slices.overlaps[jalousie/api.Attr]"], unfollowed := true, recurses := true, apart := false }
def DomPlaysSaid : Prop := domPlaysRow.holds Try.pinned (OpenSpec.ofChange domPlaysSpec)

/-- ITS FALSE NEIGHBOUR: 'it returns false'. Refute it at one input. -/
def domPlaysWrong : ChangeSpec := { name := "domPlays", fn := fun _ => fun
  | [d1, d2] => { results := [.lit (.bool false)], args := [d1, d2] }
  | _ => none }
def DomPlaysWrongFalsely : Prop := domPlaysRow.holds Try.pinned (OpenSpec.ofChange domPlaysWrong)

/-- 'jalousielaw8.DomUndone': WHATEVER THE INPUT: true; the input reads as it did. -/
def domUndoneSpec : ChangeSpec := { name := "domUndone", fn := fun _ => fun
  | [d1, d2, d3, d4, d5] => { results := [.lit (.bool true)], args := [d1, d2, d3, d4, d5] }
  | _ => none }
def domUndoneRow : OpenClaim := { program := "ytdbddnkjiehaiaa", sum := "393c7c6d62d3af4058ed555cf5876943cc56b46e029d0c278a8fb0add20d6cf4", func := "jalousie/jalousielaw8.DomUndone", spec := "domUndone", inPlace := ["slices.overlaps[int]", "internal/bytealg.abigen_runtime_cmpstring", "slices.overlaps[jalousie/api.Attr]"], unfollowed := true, recurses := true, apart := false }
def DomUndoneSaid : Prop := domUndoneRow.holds Try.pinned (OpenSpec.ofChange domUndoneSpec)

/-- ITS FALSE NEIGHBOUR: 'it returns false'. Refute it at one input. -/
def domUndoneWrong : ChangeSpec := { name := "domUndone", fn := fun _ => fun
  | [d1, d2, d3, d4, d5] => { results := [.lit (.bool false)], args := [d1, d2, d3, d4, d5] }
  | _ => none }
def DomUndoneWrongFalsely : Prop := domUndoneRow.holds Try.pinned (OpenSpec.ofChange domUndoneWrong)

/-- 'jalousielaw8.DomBack': WHATEVER THE INPUT: true; the input reads as it did. -/
def domBackSpec : ChangeSpec := { name := "domBack", fn := fun _ => fun
  | [d] => { results := [.lit (.bool true)], args := [d] }
  | _ => none }
def domBackRow : OpenClaim := { program := "ytdbddnkjiehaiaa", sum := "393c7c6d62d3af4058ed555cf5876943cc56b46e029d0c278a8fb0add20d6cf4", func := "jalousie/jalousielaw8.DomBack", spec := "domBack", inPlace := ["slices.overlaps[int]", "internal/bytealg.abigen_runtime_cmpstring", "slices.overlaps[jalousie/api.Attr]"], unfollowed := true, recurses := true, apart := false }
def DomBackSaid : Prop := domBackRow.holds Try.pinned (OpenSpec.ofChange domBackSpec)

/-- ITS FALSE NEIGHBOUR: 'it returns false'. Refute it at one input. -/
def domBackWrong : ChangeSpec := { name := "domBack", fn := fun _ => fun
  | [d] => { results := [.lit (.bool false)], args := [d] }
  | _ => none }
def DomBackWrongFalsely : Prop := domBackRow.holds Try.pinned (OpenSpec.ofChange domBackWrong)

/- THE SECOND FORM. 'bulk': how many values and letters a reading holds, each counted each time it is reached (what is shared counts as often as it is met; a slice's spare places count too). A statement '..UptoSaid' is the law's where the arguments, and the package variables that the reading takes, are together of bulk at most 1048576: NARROWER than '..Said'. Prove '..Said' where nothing that the law and all that it calls make is longer than what came in: it says more and counts as full. Else prove '..UptoSaid'. A law counts once. -/
mutual
def uptoBulk {H : Type} : DataW H → Nat
  | .lit (.string bytes) => bytes.length + 1
  | .lit _ => 1
  | .nil => 1
  | .ptr d => uptoBulk d + 1
  | .slice elems spare => uptoBulkAll elems + uptoBulkAll spare + 1
  | .agg parts => uptoBulkAll parts + 1
  | .iface _ d => uptoBulk d + 1
  | .map entries => uptoBulkEntries entries + 1
  | .held _ => 1
def uptoBulkAll {H : Type} : List (DataW H) → Nat
  | [] => 0
  | d :: r => uptoBulk d + uptoBulkAll r
def uptoBulkEntries {H : Type} : List (Lit × DataW H) → Nat
  | [] => 0
  | x :: r => uptoBulkEntry x + uptoBulkEntries r
def uptoBulkEntry {H : Type} : Lit × DataW H → Nat
  | (.string bytes, d) => bytes.length + uptoBulk d + 1
  | (_, d) => uptoBulk d + 1
 end
def uptoSmall : (H : Type) → List (DataW H) → Bool := fun _ ds => decide (uptoBulkAll ds ≤ 1048576)
def OpenSpec.upto (s : _root_.Go.ChangeSpec) : _root_.Go.OpenSpec := { _root_.Go.OpenSpec.ofChange s with cond := some uptoSmall }

/-- 'jalousielaw8.DomLooks', WHERE WHAT IT READS IS OF BULK AT MOST 1048576: true; the input reads as it did. -/
def domLooksUptoRow : OpenClaim := { program := "ytdbddnkjiehaiaa", sum := "393c7c6d62d3af4058ed555cf5876943cc56b46e029d0c278a8fb0add20d6cf4", func := "jalousie/jalousielaw8.DomLooks", spec := "domLooks", inPlace := ["slices.overlaps[int]", "internal/bytealg.abigen_runtime_cmpstring", "slices.overlaps[jalousie/api.Attr]"], unfollowed := true, recurses := true, apart := false, narrowed := true }
def DomLooksUptoSaid : Prop := domLooksUptoRow.holds Try.pinned (OpenSpec.upto domLooksSpec)

/-- 'jalousielaw8.DomApart', WHERE WHAT IT READS IS OF BULK AT MOST 1048576: true; the input reads as it did. -/
def domApartUptoRow : OpenClaim := { program := "ytdbddnkjiehaiaa", sum := "393c7c6d62d3af4058ed555cf5876943cc56b46e029d0c278a8fb0add20d6cf4", func := "jalousie/jalousielaw8.DomApart", spec := "domApart", inPlace := ["slices.overlaps[int]", "internal/bytealg.abigen_runtime_cmpstring", "slices.overlaps[jalousie/api.Attr]"], unfollowed := true, recurses := true, apart := false, narrowed := true }
def DomApartUptoSaid : Prop := domApartUptoRow.holds Try.pinned (OpenSpec.upto domApartSpec)

/-- 'jalousielaw8.DomPlays', WHERE WHAT IT READS IS OF BULK AT MOST 1048576: true; the input reads as it did. -/
def domPlaysUptoRow : OpenClaim := { program := "ytdbddnkjiehaiaa", sum := "393c7c6d62d3af4058ed555cf5876943cc56b46e029d0c278a8fb0add20d6cf4", func := "jalousie/jalousielaw8.DomPlays", spec := "domPlays", inPlace := ["slices.overlaps[int]", "internal/bytealg.abigen_runtime_cmpstring", "slices.overlaps[jalousie/api.Attr]"], unfollowed := true, recurses := true, apart := false, narrowed := true }
def DomPlaysUptoSaid : Prop := domPlaysUptoRow.holds Try.pinned (OpenSpec.upto domPlaysSpec)

/-- 'jalousielaw8.DomUndone', WHERE WHAT IT READS IS OF BULK AT MOST 1048576: true; the input reads as it did. -/
def domUndoneUptoRow : OpenClaim := { program := "ytdbddnkjiehaiaa", sum := "393c7c6d62d3af4058ed555cf5876943cc56b46e029d0c278a8fb0add20d6cf4", func := "jalousie/jalousielaw8.DomUndone", spec := "domUndone", inPlace := ["slices.overlaps[int]", "internal/bytealg.abigen_runtime_cmpstring", "slices.overlaps[jalousie/api.Attr]"], unfollowed := true, recurses := true, apart := false, narrowed := true }
def DomUndoneUptoSaid : Prop := domUndoneUptoRow.holds Try.pinned (OpenSpec.upto domUndoneSpec)

/-- 'jalousielaw8.DomBack', WHERE WHAT IT READS IS OF BULK AT MOST 1048576: true; the input reads as it did. -/
def domBackUptoRow : OpenClaim := { program := "ytdbddnkjiehaiaa", sum := "393c7c6d62d3af4058ed555cf5876943cc56b46e029d0c278a8fb0add20d6cf4", func := "jalousie/jalousielaw8.DomBack", spec := "domBack", inPlace := ["slices.overlaps[int]", "internal/bytealg.abigen_runtime_cmpstring", "slices.overlaps[jalousie/api.Attr]"], unfollowed := true, recurses := true, apart := false, narrowed := true }
def DomBackUptoSaid : Prop := domBackUptoRow.holds Try.pinned (OpenSpec.upto domBackSpec)

end Rows
end Go.Proofs.Ytdbddnkjiehaiaa
