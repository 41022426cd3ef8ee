/-
  DERIVED. GIVEN WITH THE SEED: THE CARDS: each row of YthcaphoejplecaaDoorRows.lean that lists a variable, with what it lists TIED to the program's text (the seventh form; the later family's looks); each row that meets fmt, with fmt's text TOLD by the authors' own Lean function (tested against real Go, not proved from fmt's source: count such statements apart). THE CARD IS WHAT COUNTS. Prove the row's statement (the work); the ties are given (YthcaphoejplecaaDoorTie.lean); close each card by the builder's one call (the guide's Derived/Test/ToyasCard.lean, 'card_holds'). Laid BY PROGRAM, IN A SANDBOX (cutbox-door.mjs). By AI agents, Wed Nov 11 2026. No macro, syntax, notation, axiom, sorry.
-/
import Derived.Test.YthcaphoejplecaaDoorRows
import GoSem.ClaimSeven
namespace Go.Proofs.YthcaphoejplecaaDoor
namespace Rows

/-- THE TIED CARD OF 'jalousielaw21.VarsPuts'. -/
def varsPutsCard : Claim7 := { stood := { row := varsPutsRow, standIns := [], harness := (true, "565610b08cad54df0edb74376f7ef65f7f42e8935a0d6a584f8895b85a024494"), looks := false }, kinds := [], alts := [], laidByText := true, laidKinds := [.data], laidTests := true, laidLooks := .later }
def VarsPutsCardSaid : Prop := Claim7.holds Tryd.pinned (.plain (OpenSpec.ofChange varsPutsSpec)) varsPutsCard

/-- THE TIED CARD OF 'jalousielaw21.VarsPlain'. -/
def varsPlainCard : Claim7 := { stood := { row := varsPlainRow, standIns := [], harness := (true, "565610b08cad54df0edb74376f7ef65f7f42e8935a0d6a584f8895b85a024494"), looks := false }, kinds := [], alts := [], laidByText := true, laidKinds := [.data], laidTests := true, laidLooks := .later }
def VarsPlainCardSaid : Prop := Claim7.holds Tryd.pinned (.plain (OpenSpec.ofChange varsPlainSpec)) varsPlainCard

/-- THE TIED CARD OF 'jalousielaw21.VarsFinds'. -/
def varsFindsCard : Claim7 := { stood := { row := varsFindsRow, standIns := [], harness := (true, "565610b08cad54df0edb74376f7ef65f7f42e8935a0d6a584f8895b85a024494"), looks := false }, kinds := [], alts := [], laidByText := true, laidKinds := [.data], laidTests := true, laidLooks := .later }
def VarsFindsCardSaid : Prop := Claim7.holds Tryd.pinned (.plain (OpenSpec.ofChange varsFindsSpec)) varsFindsCard

/-- THE TIED CARD OF 'jalousielaw21.VarsDown'. -/
def varsDownCard : Claim7 := { stood := { row := varsDownRow, standIns := [], harness := (true, "565610b08cad54df0edb74376f7ef65f7f42e8935a0d6a584f8895b85a024494"), looks := false }, kinds := [], alts := [], laidByText := true, laidKinds := [.data], laidTests := true, laidLooks := .later }
def VarsDownCardSaid : Prop := Claim7.holds Tryd.pinned (.plain (OpenSpec.ofChange varsDownSpec)) varsDownCard

/-- THE TIED CARD OF 'jalousielaw21.VarsOrder'. -/
def varsOrderCard : Claim7 := { stood := { row := varsOrderRow, standIns := [], harness := (true, "565610b08cad54df0edb74376f7ef65f7f42e8935a0d6a584f8895b85a024494"), looks := false }, kinds := [], alts := [], laidByText := true, laidKinds := [.data], laidTests := true, laidLooks := .later }
def VarsOrderCardSaid : Prop := Claim7.holds Tryd.pinned (.plain (OpenSpec.ofChange varsOrderSpec)) varsOrderCard

/-- THE SECOND FORM's CARD OF 'jalousielaw21.VarsPuts'. -/
def varsPutsUptoCard : Claim7 := { stood := { row := varsPutsUptoRow, standIns := [], harness := (true, "565610b08cad54df0edb74376f7ef65f7f42e8935a0d6a584f8895b85a024494"), looks := false }, kinds := [], alts := [], laidByText := true, laidKinds := [.data], laidTests := true, laidLooks := .later }
def VarsPutsUptoCardSaid : Prop := Claim7.holds Tryd.pinned (.plain (OpenSpec.upto varsPutsSpec)) varsPutsUptoCard

/-- THE SECOND FORM's CARD OF 'jalousielaw21.VarsPlain'. -/
def varsPlainUptoCard : Claim7 := { stood := { row := varsPlainUptoRow, standIns := [], harness := (true, "565610b08cad54df0edb74376f7ef65f7f42e8935a0d6a584f8895b85a024494"), looks := false }, kinds := [], alts := [], laidByText := true, laidKinds := [.data], laidTests := true, laidLooks := .later }
def VarsPlainUptoCardSaid : Prop := Claim7.holds Tryd.pinned (.plain (OpenSpec.upto varsPlainSpec)) varsPlainUptoCard

/-- THE SECOND FORM's CARD OF 'jalousielaw21.VarsFinds'. -/
def varsFindsUptoCard : Claim7 := { stood := { row := varsFindsUptoRow, standIns := [], harness := (true, "565610b08cad54df0edb74376f7ef65f7f42e8935a0d6a584f8895b85a024494"), looks := false }, kinds := [], alts := [], laidByText := true, laidKinds := [.data], laidTests := true, laidLooks := .later }
def VarsFindsUptoCardSaid : Prop := Claim7.holds Tryd.pinned (.plain (OpenSpec.upto varsFindsSpec)) varsFindsUptoCard

/-- THE SECOND FORM's CARD OF 'jalousielaw21.VarsDown'. -/
def varsDownUptoCard : Claim7 := { stood := { row := varsDownUptoRow, standIns := [], harness := (true, "565610b08cad54df0edb74376f7ef65f7f42e8935a0d6a584f8895b85a024494"), looks := false }, kinds := [], alts := [], laidByText := true, laidKinds := [.data], laidTests := true, laidLooks := .later }
def VarsDownUptoCardSaid : Prop := Claim7.holds Tryd.pinned (.plain (OpenSpec.upto varsDownSpec)) varsDownUptoCard

/-- THE SECOND FORM's CARD OF 'jalousielaw21.VarsOrder'. -/
def varsOrderUptoCard : Claim7 := { stood := { row := varsOrderUptoRow, standIns := [], harness := (true, "565610b08cad54df0edb74376f7ef65f7f42e8935a0d6a584f8895b85a024494"), looks := false }, kinds := [], alts := [], laidByText := true, laidKinds := [.data], laidTests := true, laidLooks := .later }
def VarsOrderUptoCardSaid : Prop := Claim7.holds Tryd.pinned (.plain (OpenSpec.upto varsOrderSpec)) varsOrderUptoCard
end Rows
end Go.Proofs.YthcaphoejplecaaDoor
