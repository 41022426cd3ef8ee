/-
  DERIVED. GIVEN WITH THE SEED: THE CARDS: each row of YtkmpnkgelaaebaaDoorRows.lean that lists a variable, with what it lists TIED to the program's text (the seventh form; the later family's looks); each row that meets fmt, with fmt's text TOLD by the authors' own Lean function (tested against real Go, not proved from fmt's source: count such statements apart). THE CARD IS WHAT COUNTS. Prove the row's statement (the work); the ties are given (YtkmpnkgelaaebaaDoorTie.lean); close each card by the builder's one call (the guide's Derived/Test/ToyasCard.lean, 'card_holds'). Laid BY PROGRAM, IN A SANDBOX (cutbox-door.mjs). By AI agents, Wed Nov 11 2026. No macro, syntax, notation, axiom, sorry.
-/
import Derived.Test.YtkmpnkgelaaebaaDoorRows
import GoSem.ClaimSeven
namespace Go.Proofs.YtkmpnkgelaaebaaDoor
namespace Rows

/-- THE TIED CARD OF 'jalousielaw16.EnvApart'. -/
def envApartCard : Claim7 := { stood := { row := envApartRow, standIns := [], harness := (true, "bdae23744846f9d337d168ce8a03c44b3e8ced25e72f6116b1d210746bb2fff4"), looks := false }, kinds := [], alts := [], laidByText := true, laidKinds := [.data], laidTests := true, laidLooks := .later }
def EnvApartCardSaid : Prop := Claim7.holds Tryd.pinned (.plain (OpenSpec.ofChange envApartSpec)) envApartCard

/-- THE SECOND FORM's CARD OF 'jalousielaw16.EnvApart'. -/
def envApartUptoCard : Claim7 := { stood := { row := envApartUptoRow, standIns := [], harness := (true, "bdae23744846f9d337d168ce8a03c44b3e8ced25e72f6116b1d210746bb2fff4"), looks := false }, kinds := [], alts := [], laidByText := true, laidKinds := [.data], laidTests := true, laidLooks := .later }
def EnvApartUptoCardSaid : Prop := Claim7.holds Tryd.pinned (.plain (OpenSpec.upto envApartSpec)) envApartUptoCard
end Rows
end Go.Proofs.YtkmpnkgelaaebaaDoor
