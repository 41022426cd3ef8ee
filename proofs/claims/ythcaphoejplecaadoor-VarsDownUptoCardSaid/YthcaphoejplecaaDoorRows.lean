/-
  NARROWER THAN 'FOR EVERY INPUT', by the rows' own cells (each row's printed sentence says how): VarsPuts: laid · VarsPlain: laid · VarsFinds: laid · VarsDown: laid · VarsOrder: laid.
  DERIVED. THE GIVEN ROWS OF THIS SEAT. 5 by the template 'for every input the law returns true; each argument reads behind the call as it read before'; 0 by the template 'total and deterministic' (their statements: YthcaphoejplecaaDoorTotals.lean).
  GIVEN WITH THE SEED: the statements are not yours to turn. If you find one false, say at which input.
  Laid BY PROGRAM, IN A SANDBOX (cutbox-rows.mjs): the forced cells as the released guide's own fill.sh prints them over the translation 755801138eddd46c… (all of the seat's roots in one cut). By AI agents, Wed Nov 11 2026. No macro, syntax, notation, axiom, sorry.
-/
import Derived.Test.YthcaphoejplecaaDoorChecked
import GoSem.Claim
import GoSem.ClaimJoined
import GoSem.ClaimMapViews
import Derived.JoinedTies
import Derived.KernelRfl
namespace Go.Proofs.YthcaphoejplecaaDoor
/- THE CELL 'sum', in the pinned program and in every row, IS THE sha256 OF THE DUMP (.gsa) THAT YthcaphoejplecaaDoorProg.lean LOADS. Nothing in Lean hashes anything: it is a label: what it is worth is what the hold of that sum in a sandbox is worth. -/
noncomputable def Tryd.pinned : Pinned := { name := "ythcaphoejplecaadoor", sum := "755801138eddd46cad6b81588e7e7e04108f29605aad96de3b450b5cdfcbd50e", checked := Tryd.checked }
namespace Rows
def none {H : Type} : Left H := { results := [], args := [] }

/- WHAT THE LISTED PACKAGE-LEVEL VARIABLES READ AS WHEN THE CALL BEGINS. Each datum BY PROGRAM (the guide's laid-datum.mjs) off the statement by which the dump's own 'gosem.cut.vars' lays the variable. In a bare row this is a premise. The card (YthcaphoejplecaaDoorCards.lean) ties it to the program's text. -/
def laid_jalousie_jalousieref3_kinds {H : Type} : DataW H := .agg [.lit (.int .i64 21), .lit (.int .i64 22), .lit (.int .i64 19), .lit (.int .i64 20), .lit (.int .i64 23), .lit (.int .i64 24), .lit (.int .i64 18), .lit (.int .i64 16), .lit (.int .i64 17)]

/-- 'jalousielaw21.VarsPuts': WHATEVER THE INPUT: true; the input reads as it did. -/
def varsPutsSpec : ChangeSpec := { name := "varsPuts", fn := fun _ => fun
  | [d1, d2] => { results := [.lit (.bool true)], args := [d1, d2] }
  | _ => none }
def varsPutsRow : OpenClaim := { program := "ythcaphoejplecaadoor", sum := "755801138eddd46cad6b81588e7e7e04108f29605aad96de3b450b5cdfcbd50e", func := "jalousie/jalousielaw21.VarsPuts", spec := "varsPuts", unfollowed := true, recurses := true, named := ["jalousie/jalousieref3.kinds"], apart := false, laid := [("jalousie/jalousieref3.kinds", laid_jalousie_jalousieref3_kinds)] }
def VarsPutsSaid : Prop := varsPutsRow.holds Tryd.pinned (OpenSpec.ofChange varsPutsSpec)

/-- ITS FALSE NEIGHBOUR: 'it returns false'. Refute it at one input. -/
def varsPutsWrong : ChangeSpec := { name := "varsPuts", fn := fun _ => fun
  | [d1, d2] => { results := [.lit (.bool false)], args := [d1, d2] }
  | _ => none }
def VarsPutsWrongFalsely : Prop := varsPutsRow.holds Tryd.pinned (OpenSpec.ofChange varsPutsWrong)

/-- 'jalousielaw21.VarsPlain': WHATEVER THE INPUT: true; the input reads as it did. -/
def varsPlainSpec : ChangeSpec := { name := "varsPlain", fn := fun _ => fun
  | [d1, d2] => { results := [.lit (.bool true)], args := [d1, d2] }
  | _ => none }
def varsPlainRow : OpenClaim := { program := "ythcaphoejplecaadoor", sum := "755801138eddd46cad6b81588e7e7e04108f29605aad96de3b450b5cdfcbd50e", func := "jalousie/jalousielaw21.VarsPlain", spec := "varsPlain", unfollowed := true, recurses := true, named := ["jalousie/jalousieref3.kinds"], apart := false, laid := [("jalousie/jalousieref3.kinds", laid_jalousie_jalousieref3_kinds)] }
def VarsPlainSaid : Prop := varsPlainRow.holds Tryd.pinned (OpenSpec.ofChange varsPlainSpec)

/-- ITS FALSE NEIGHBOUR: 'it returns false'. Refute it at one input. -/
def varsPlainWrong : ChangeSpec := { name := "varsPlain", fn := fun _ => fun
  | [d1, d2] => { results := [.lit (.bool false)], args := [d1, d2] }
  | _ => none }
def VarsPlainWrongFalsely : Prop := varsPlainRow.holds Tryd.pinned (OpenSpec.ofChange varsPlainWrong)

/-- 'jalousielaw21.VarsFinds': WHATEVER THE INPUT: true; the input reads as it did. -/
def varsFindsSpec : ChangeSpec := { name := "varsFinds", fn := fun _ => fun
  | [d1, d2, d3] => { results := [.lit (.bool true)], args := [d1, d2, d3] }
  | _ => none }
def varsFindsRow : OpenClaim := { program := "ythcaphoejplecaadoor", sum := "755801138eddd46cad6b81588e7e7e04108f29605aad96de3b450b5cdfcbd50e", func := "jalousie/jalousielaw21.VarsFinds", spec := "varsFinds", unfollowed := true, recurses := true, named := ["jalousie/jalousieref3.kinds"], apart := false, laid := [("jalousie/jalousieref3.kinds", laid_jalousie_jalousieref3_kinds)] }
def VarsFindsSaid : Prop := varsFindsRow.holds Tryd.pinned (OpenSpec.ofChange varsFindsSpec)

/-- ITS FALSE NEIGHBOUR: 'it returns false'. Refute it at one input. -/
def varsFindsWrong : ChangeSpec := { name := "varsFinds", fn := fun _ => fun
  | [d1, d2, d3] => { results := [.lit (.bool false)], args := [d1, d2, d3] }
  | _ => none }
def VarsFindsWrongFalsely : Prop := varsFindsRow.holds Tryd.pinned (OpenSpec.ofChange varsFindsWrong)

/-- 'jalousielaw21.VarsDown': WHATEVER THE INPUT: true; the input reads as it did. -/
def varsDownSpec : ChangeSpec := { name := "varsDown", fn := fun _ => fun
  | [d1, d2] => { results := [.lit (.bool true)], args := [d1, d2] }
  | _ => none }
def varsDownRow : OpenClaim := { program := "ythcaphoejplecaadoor", sum := "755801138eddd46cad6b81588e7e7e04108f29605aad96de3b450b5cdfcbd50e", func := "jalousie/jalousielaw21.VarsDown", spec := "varsDown", unfollowed := true, recurses := true, named := ["jalousie/jalousieref3.kinds"], apart := false, laid := [("jalousie/jalousieref3.kinds", laid_jalousie_jalousieref3_kinds)] }
def VarsDownSaid : Prop := varsDownRow.holds Tryd.pinned (OpenSpec.ofChange varsDownSpec)

/-- ITS FALSE NEIGHBOUR: 'it returns false'. Refute it at one input. -/
def varsDownWrong : ChangeSpec := { name := "varsDown", fn := fun _ => fun
  | [d1, d2] => { results := [.lit (.bool false)], args := [d1, d2] }
  | _ => none }
def VarsDownWrongFalsely : Prop := varsDownRow.holds Tryd.pinned (OpenSpec.ofChange varsDownWrong)

/-- 'jalousielaw21.VarsOrder': WHATEVER THE INPUT: true; the input reads as it did. -/
def varsOrderSpec : ChangeSpec := { name := "varsOrder", fn := fun _ => fun
  | [d1, d2] => { results := [.lit (.bool true)], args := [d1, d2] }
  | _ => none }
def varsOrderRow : OpenClaim := { program := "ythcaphoejplecaadoor", sum := "755801138eddd46cad6b81588e7e7e04108f29605aad96de3b450b5cdfcbd50e", func := "jalousie/jalousielaw21.VarsOrder", spec := "varsOrder", unfollowed := true, recurses := true, named := ["jalousie/jalousieref3.kinds"], apart := false, laid := [("jalousie/jalousieref3.kinds", laid_jalousie_jalousieref3_kinds)] }
def VarsOrderSaid : Prop := varsOrderRow.holds Tryd.pinned (OpenSpec.ofChange varsOrderSpec)

/-- ITS FALSE NEIGHBOUR: 'it returns false'. Refute it at one input. -/
def varsOrderWrong : ChangeSpec := { name := "varsOrder", fn := fun _ => fun
  | [d1, d2] => { results := [.lit (.bool false)], args := [d1, d2] }
  | _ => none }
def VarsOrderWrongFalsely : Prop := varsOrderRow.holds Tryd.pinned (OpenSpec.ofChange varsOrderWrong)

/- THE SECOND FORM. 'bulk': how many values and letters a reading holds, each counted each time it is reached (what is shared counts as often as it is met; a slice's spare places count too). A statement '..UptoSaid' is the law's where the arguments, and the package variables that the reading takes, are together of bulk at most 1048576: NARROWER than '..Said'. Prove '..Said' where nothing that the law and all that it calls make is longer than what came in: it says more and counts as full. Else prove '..UptoSaid'. A law counts once. -/
mutual
def uptoBulk {H : Type} : DataW H → Nat
  | .lit (.string bytes) => bytes.length + 1
  | .lit _ => 1
  | .nil => 1
  | .ptr d => uptoBulk d + 1
  | .slice elems spare => uptoBulkAll elems + uptoBulkAll spare + 1
  | .agg parts => uptoBulkAll parts + 1
  | .iface _ d => uptoBulk d + 1
  | .map entries => uptoBulkEntries entries + 1
  | .held _ => 1
def uptoBulkAll {H : Type} : List (DataW H) → Nat
  | [] => 0
  | d :: r => uptoBulk d + uptoBulkAll r
def uptoBulkEntries {H : Type} : List (Lit × DataW H) → Nat
  | [] => 0
  | x :: r => uptoBulkEntry x + uptoBulkEntries r
def uptoBulkEntry {H : Type} : Lit × DataW H → Nat
  | (.string bytes, d) => bytes.length + uptoBulk d + 1
  | (_, d) => uptoBulk d + 1
 end
def uptoSmall : (H : Type) → List (DataW H) → Bool := fun _ ds => decide (uptoBulkAll ds ≤ 1048576)
def OpenSpec.upto (s : _root_.Go.ChangeSpec) : _root_.Go.OpenSpec := { _root_.Go.OpenSpec.ofChange s with cond := some uptoSmall }

/-- 'jalousielaw21.VarsPuts', WHERE WHAT IT READS IS OF BULK AT MOST 1048576: true; the input reads as it did. -/
def varsPutsUptoRow : OpenClaim := { program := "ythcaphoejplecaadoor", sum := "755801138eddd46cad6b81588e7e7e04108f29605aad96de3b450b5cdfcbd50e", func := "jalousie/jalousielaw21.VarsPuts", spec := "varsPuts", unfollowed := true, recurses := true, named := ["jalousie/jalousieref3.kinds"], apart := false, laid := [("jalousie/jalousieref3.kinds", laid_jalousie_jalousieref3_kinds)], narrowed := true }
def VarsPutsUptoSaid : Prop := varsPutsUptoRow.holds Tryd.pinned (OpenSpec.upto varsPutsSpec)

/-- 'jalousielaw21.VarsPlain', WHERE WHAT IT READS IS OF BULK AT MOST 1048576: true; the input reads as it did. -/
def varsPlainUptoRow : OpenClaim := { program := "ythcaphoejplecaadoor", sum := "755801138eddd46cad6b81588e7e7e04108f29605aad96de3b450b5cdfcbd50e", func := "jalousie/jalousielaw21.VarsPlain", spec := "varsPlain", unfollowed := true, recurses := true, named := ["jalousie/jalousieref3.kinds"], apart := false, laid := [("jalousie/jalousieref3.kinds", laid_jalousie_jalousieref3_kinds)], narrowed := true }
def VarsPlainUptoSaid : Prop := varsPlainUptoRow.holds Tryd.pinned (OpenSpec.upto varsPlainSpec)

/-- 'jalousielaw21.VarsFinds', WHERE WHAT IT READS IS OF BULK AT MOST 1048576: true; the input reads as it did. -/
def varsFindsUptoRow : OpenClaim := { program := "ythcaphoejplecaadoor", sum := "755801138eddd46cad6b81588e7e7e04108f29605aad96de3b450b5cdfcbd50e", func := "jalousie/jalousielaw21.VarsFinds", spec := "varsFinds", unfollowed := true, recurses := true, named := ["jalousie/jalousieref3.kinds"], apart := false, laid := [("jalousie/jalousieref3.kinds", laid_jalousie_jalousieref3_kinds)], narrowed := true }
def VarsFindsUptoSaid : Prop := varsFindsUptoRow.holds Tryd.pinned (OpenSpec.upto varsFindsSpec)

/-- 'jalousielaw21.VarsDown', WHERE WHAT IT READS IS OF BULK AT MOST 1048576: true; the input reads as it did. -/
def varsDownUptoRow : OpenClaim := { program := "ythcaphoejplecaadoor", sum := "755801138eddd46cad6b81588e7e7e04108f29605aad96de3b450b5cdfcbd50e", func := "jalousie/jalousielaw21.VarsDown", spec := "varsDown", unfollowed := true, recurses := true, named := ["jalousie/jalousieref3.kinds"], apart := false, laid := [("jalousie/jalousieref3.kinds", laid_jalousie_jalousieref3_kinds)], narrowed := true }
def VarsDownUptoSaid : Prop := varsDownUptoRow.holds Tryd.pinned (OpenSpec.upto varsDownSpec)

/-- 'jalousielaw21.VarsOrder', WHERE WHAT IT READS IS OF BULK AT MOST 1048576: true; the input reads as it did. -/
def varsOrderUptoRow : OpenClaim := { program := "ythcaphoejplecaadoor", sum := "755801138eddd46cad6b81588e7e7e04108f29605aad96de3b450b5cdfcbd50e", func := "jalousie/jalousielaw21.VarsOrder", spec := "varsOrder", unfollowed := true, recurses := true, named := ["jalousie/jalousieref3.kinds"], apart := false, laid := [("jalousie/jalousieref3.kinds", laid_jalousie_jalousieref3_kinds)], narrowed := true }
def VarsOrderUptoSaid : Prop := varsOrderUptoRow.holds Tryd.pinned (OpenSpec.upto varsOrderSpec)

end Rows
end Go.Proofs.YthcaphoejplecaaDoor
