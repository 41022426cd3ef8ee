/-
  NARROWER THAN 'FOR EVERY INPUT', by the rows' own cells (each row's printed sentence says how): VarsResolves: laid · VarsRings: laid.
  DERIVED. THE GIVEN ROWS OF THIS SEAT. 2 by the template 'for every input the law returns true; each argument reads behind the call as it read before'; 0 by the template 'total and deterministic' (their statements: YthcaphoejplecaaGreatDoorTotals.lean).
  GIVEN WITH THE SEED: the statements are not yours to turn. If you find one false, say at which input.
  Laid BY PROGRAM, IN A SANDBOX (cutbox-rows.mjs): the forced cells as the released guide's own fill.sh prints them over the translation 9f5124f9b75ee895… (all of the seat's roots in one cut). By AI agents, Wed Nov 11 2026. No macro, syntax, notation, axiom, sorry.
-/
import Derived.Test.YthcaphoejplecaaGreatDoorChecked
import GoSem.Claim
import GoSem.ClaimJoined
import GoSem.ClaimMapViews
import Derived.JoinedTies
import Derived.KernelRfl
namespace Go.Proofs.YthcaphoejplecaaGreatDoor
/- THE CELL 'sum', in the pinned program and in every row, IS THE sha256 OF THE DUMP (.gsa) THAT YthcaphoejplecaaGreatDoorProg.lean LOADS. Nothing in Lean hashes anything: it is a label: what it is worth is what the hold of that sum in a sandbox is worth. -/
noncomputable def Tryz.pinned : Pinned := { name := "ythcaphoejplecaagreatdoor", sum := "9f5124f9b75ee8957109fb056b4a7cd3766ba60b3742e7cdc100f397e87e3783", checked := Tryz.checked }
namespace Rows
def none {H : Type} : Left H := { results := [], args := [] }

/- WHAT THE LISTED PACKAGE-LEVEL VARIABLES READ AS WHEN THE CALL BEGINS. Each datum BY PROGRAM (the guide's laid-datum.mjs) off the statement by which the dump's own 'gosem.cut.vars' lays the variable. In a bare row this is a premise. The card (YthcaphoejplecaaGreatDoorCards.lean) ties it to the program's text. -/
def laid_jalousie_jalousieref3_kinds {H : Type} : DataW H := .agg [.lit (.int .i64 21), .lit (.int .i64 22), .lit (.int .i64 19), .lit (.int .i64 20), .lit (.int .i64 23), .lit (.int .i64 24), .lit (.int .i64 18), .lit (.int .i64 16), .lit (.int .i64 17)]

/-- 'jalousielaw21.VarsResolves': WHATEVER THE INPUT: true; the input reads as it did. -/
def varsResolvesSpec : ChangeSpec := { name := "varsResolves", fn := fun _ => fun
  | [d1, d2] => { results := [.lit (.bool true)], args := [d1, d2] }
  | _ => none }
def varsResolvesRow : OpenClaim := { program := "ythcaphoejplecaagreatdoor", sum := "9f5124f9b75ee8957109fb056b4a7cd3766ba60b3742e7cdc100f397e87e3783", func := "jalousie/jalousielaw21.VarsResolves", spec := "varsResolves", unfollowed := true, recurses := true, named := ["jalousie/jalousieref3.kinds"], apart := false, laid := [("jalousie/jalousieref3.kinds", laid_jalousie_jalousieref3_kinds)] }
def VarsResolvesSaid : Prop := varsResolvesRow.holds Tryz.pinned (OpenSpec.ofChange varsResolvesSpec)

/-- ITS FALSE NEIGHBOUR: 'it returns false'. Refute it at one input. -/
def varsResolvesWrong : ChangeSpec := { name := "varsResolves", fn := fun _ => fun
  | [d1, d2] => { results := [.lit (.bool false)], args := [d1, d2] }
  | _ => none }
def VarsResolvesWrongFalsely : Prop := varsResolvesRow.holds Tryz.pinned (OpenSpec.ofChange varsResolvesWrong)

/-- 'jalousielaw21.VarsRings': WHATEVER THE INPUT: true; the input reads as it did. -/
def varsRingsSpec : ChangeSpec := { name := "varsRings", fn := fun _ => fun
  | [d1, d2, d3, d4] => { results := [.lit (.bool true)], args := [d1, d2, d3, d4] }
  | _ => none }
def varsRingsRow : OpenClaim := { program := "ythcaphoejplecaagreatdoor", sum := "9f5124f9b75ee8957109fb056b4a7cd3766ba60b3742e7cdc100f397e87e3783", func := "jalousie/jalousielaw21.VarsRings", spec := "varsRings", unfollowed := true, recurses := true, named := ["jalousie/jalousieref3.kinds"], apart := false, laid := [("jalousie/jalousieref3.kinds", laid_jalousie_jalousieref3_kinds)] }
def VarsRingsSaid : Prop := varsRingsRow.holds Tryz.pinned (OpenSpec.ofChange varsRingsSpec)

/-- ITS FALSE NEIGHBOUR: 'it returns false'. Refute it at one input. -/
def varsRingsWrong : ChangeSpec := { name := "varsRings", fn := fun _ => fun
  | [d1, d2, d3, d4] => { results := [.lit (.bool false)], args := [d1, d2, d3, d4] }
  | _ => none }
def VarsRingsWrongFalsely : Prop := varsRingsRow.holds Tryz.pinned (OpenSpec.ofChange varsRingsWrong)

/- THE SECOND FORM. 'bulk': how many values and letters a reading holds, each counted each time it is reached (what is shared counts as often as it is met; a slice's spare places count too). A statement '..UptoSaid' is the law's where the arguments, and the package variables that the reading takes, are together of bulk at most 1048576: NARROWER than '..Said'. Prove '..Said' where nothing that the law and all that it calls make is longer than what came in: it says more and counts as full. Else prove '..UptoSaid'. A law counts once. -/
mutual
def uptoBulk {H : Type} : DataW H → Nat
  | .lit (.string bytes) => bytes.length + 1
  | .lit _ => 1
  | .nil => 1
  | .ptr d => uptoBulk d + 1
  | .slice elems spare => uptoBulkAll elems + uptoBulkAll spare + 1
  | .agg parts => uptoBulkAll parts + 1
  | .iface _ d => uptoBulk d + 1
  | .map entries => uptoBulkEntries entries + 1
  | .held _ => 1
def uptoBulkAll {H : Type} : List (DataW H) → Nat
  | [] => 0
  | d :: r => uptoBulk d + uptoBulkAll r
def uptoBulkEntries {H : Type} : List (Lit × DataW H) → Nat
  | [] => 0
  | x :: r => uptoBulkEntry x + uptoBulkEntries r
def uptoBulkEntry {H : Type} : Lit × DataW H → Nat
  | (.string bytes, d) => bytes.length + uptoBulk d + 1
  | (_, d) => uptoBulk d + 1
 end
def uptoSmall : (H : Type) → List (DataW H) → Bool := fun _ ds => decide (uptoBulkAll ds ≤ 1048576)
def OpenSpec.upto (s : _root_.Go.ChangeSpec) : _root_.Go.OpenSpec := { _root_.Go.OpenSpec.ofChange s with cond := some uptoSmall }

/-- 'jalousielaw21.VarsResolves', WHERE WHAT IT READS IS OF BULK AT MOST 1048576: true; the input reads as it did. -/
def varsResolvesUptoRow : OpenClaim := { program := "ythcaphoejplecaagreatdoor", sum := "9f5124f9b75ee8957109fb056b4a7cd3766ba60b3742e7cdc100f397e87e3783", func := "jalousie/jalousielaw21.VarsResolves", spec := "varsResolves", unfollowed := true, recurses := true, named := ["jalousie/jalousieref3.kinds"], apart := false, laid := [("jalousie/jalousieref3.kinds", laid_jalousie_jalousieref3_kinds)], narrowed := true }
def VarsResolvesUptoSaid : Prop := varsResolvesUptoRow.holds Tryz.pinned (OpenSpec.upto varsResolvesSpec)

/-- 'jalousielaw21.VarsRings', WHERE WHAT IT READS IS OF BULK AT MOST 1048576: true; the input reads as it did. -/
def varsRingsUptoRow : OpenClaim := { program := "ythcaphoejplecaagreatdoor", sum := "9f5124f9b75ee8957109fb056b4a7cd3766ba60b3742e7cdc100f397e87e3783", func := "jalousie/jalousielaw21.VarsRings", spec := "varsRings", unfollowed := true, recurses := true, named := ["jalousie/jalousieref3.kinds"], apart := false, laid := [("jalousie/jalousieref3.kinds", laid_jalousie_jalousieref3_kinds)], narrowed := true }
def VarsRingsUptoSaid : Prop := varsRingsUptoRow.holds Tryz.pinned (OpenSpec.upto varsRingsSpec)

end Rows
end Go.Proofs.YthcaphoejplecaaGreatDoor
