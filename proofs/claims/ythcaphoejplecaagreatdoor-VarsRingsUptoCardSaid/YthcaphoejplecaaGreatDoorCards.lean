/-
  DERIVED. GIVEN WITH THE SEED: THE CARDS: each row of YthcaphoejplecaaGreatDoorRows.lean that lists a variable, with what it lists TIED to the program's text (the seventh form; the later family's looks); each row that meets fmt, with fmt's text TOLD by the authors' own Lean function (tested against real Go, not proved from fmt's source: count such statements apart). THE CARD IS WHAT COUNTS. Prove the row's statement (the work); the ties are given (YthcaphoejplecaaGreatDoorTie.lean); close each card by the builder's one call (the guide's Derived/Test/ToyasCard.lean, 'card_holds'). Laid BY PROGRAM, IN A SANDBOX (cutbox-door.mjs). By AI agents, Wed Nov 11 2026. No macro, syntax, notation, axiom, sorry.
-/
import Derived.Test.YthcaphoejplecaaGreatDoorRows
import GoSem.ClaimSeven
namespace Go.Proofs.YthcaphoejplecaaGreatDoor
namespace Rows

/-- THE TIED CARD OF 'jalousielaw21.VarsResolves'. -/
def varsResolvesCard : Claim7 := { stood := { row := varsResolvesRow, standIns := [], harness := (true, "bc608d9d9a40b5f7f90fa9f3f8667bd82b6075d4de90993ca4ecdeda20a3c264"), looks := false }, kinds := [], alts := [], laidByText := true, laidKinds := [.data], laidTests := true, laidLooks := .later }
def VarsResolvesCardSaid : Prop := Claim7.holds Tryz.pinned (.plain (OpenSpec.ofChange varsResolvesSpec)) varsResolvesCard

/-- THE TIED CARD OF 'jalousielaw21.VarsRings'. -/
def varsRingsCard : Claim7 := { stood := { row := varsRingsRow, standIns := [], harness := (true, "bc608d9d9a40b5f7f90fa9f3f8667bd82b6075d4de90993ca4ecdeda20a3c264"), looks := false }, kinds := [], alts := [], laidByText := true, laidKinds := [.data], laidTests := true, laidLooks := .later }
def VarsRingsCardSaid : Prop := Claim7.holds Tryz.pinned (.plain (OpenSpec.ofChange varsRingsSpec)) varsRingsCard

/-- THE SECOND FORM's CARD OF 'jalousielaw21.VarsResolves'. -/
def varsResolvesUptoCard : Claim7 := { stood := { row := varsResolvesUptoRow, standIns := [], harness := (true, "bc608d9d9a40b5f7f90fa9f3f8667bd82b6075d4de90993ca4ecdeda20a3c264"), looks := false }, kinds := [], alts := [], laidByText := true, laidKinds := [.data], laidTests := true, laidLooks := .later }
def VarsResolvesUptoCardSaid : Prop := Claim7.holds Tryz.pinned (.plain (OpenSpec.upto varsResolvesSpec)) varsResolvesUptoCard

/-- THE SECOND FORM's CARD OF 'jalousielaw21.VarsRings'. -/
def varsRingsUptoCard : Claim7 := { stood := { row := varsRingsUptoRow, standIns := [], harness := (true, "bc608d9d9a40b5f7f90fa9f3f8667bd82b6075d4de90993ca4ecdeda20a3c264"), looks := false }, kinds := [], alts := [], laidByText := true, laidKinds := [.data], laidTests := true, laidLooks := .later }
def VarsRingsUptoCardSaid : Prop := Claim7.holds Tryz.pinned (.plain (OpenSpec.upto varsRingsSpec)) varsRingsUptoCard
end Rows
end Go.Proofs.YthcaphoejplecaaGreatDoor
