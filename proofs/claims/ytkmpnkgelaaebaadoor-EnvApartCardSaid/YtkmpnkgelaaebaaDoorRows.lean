/-
  NARROWER THAN 'FOR EVERY INPUT', by the rows' own cells (each row's printed sentence says how): EnvApart: laid.
  DERIVED. THE GIVEN ROWS OF THIS SEAT. 1 by the template 'for every input the law returns true; each argument reads behind the call as it read before'; 0 by the template 'total and deterministic' (their statements: YtkmpnkgelaaebaaDoorTotals.lean).
  GIVEN WITH THE SEED: the statements are not yours to turn. If you find one false, say at which input.
  Laid BY PROGRAM, IN A SANDBOX (cutbox-rows.mjs): the forced cells as the released guide's own fill.sh prints them over the translation abea57aefb2a4086… (all of the seat's roots in one cut). By AI agents, Wed Nov 11 2026. No macro, syntax, notation, axiom, sorry.
-/
import Derived.Test.YtkmpnkgelaaebaaDoorChecked
import GoSem.Claim
import GoSem.ClaimJoined
import GoSem.ClaimMapViews
import Derived.JoinedTies
import Derived.KernelRfl
namespace Go.Proofs.YtkmpnkgelaaebaaDoor
/- THE CELL 'sum', in the pinned program and in every row, IS THE sha256 OF THE DUMP (.gsa) THAT YtkmpnkgelaaebaaDoorProg.lean LOADS. Nothing in Lean hashes anything: it is a label: what it is worth is what the hold of that sum in a sandbox is worth. -/
noncomputable def Tryd.pinned : Pinned := { name := "ytkmpnkgelaaebaadoor", sum := "abea57aefb2a408609797a58b5192879281317bd3c901351bfe06f979192daea", checked := Tryd.checked }
namespace Rows
def none {H : Type} : Left H := { results := [], args := [] }

/- WHAT THE LISTED PACKAGE-LEVEL VARIABLES READ AS WHEN THE CALL BEGINS. Each datum BY PROGRAM (the guide's laid-datum.mjs) off the statement by which the dump's own 'gosem.cut.vars' lays the variable. In a bare row this is a premise. The card (YtkmpnkgelaaebaaDoorCards.lean) ties it to the program's text. -/
def laid_jalousie_jalousielaw16_all {H : Type} : DataW H := .agg [.lit (.string [119, 105, 100, 116, 104]), .lit (.string [104, 101, 105, 103, 104, 116]), .lit (.string [97, 115, 112, 101, 99, 116, 45, 114, 97, 116, 105, 111]), .lit (.string [99, 111, 108, 111, 114]), .lit (.string [104, 111, 118, 101, 114]), .lit (.string [111, 114, 105, 101, 110, 116, 97, 116, 105, 111, 110]), .lit (.string [112, 111, 105, 110, 116, 101, 114]), .lit (.string [112, 114, 101, 102, 101, 114, 115, 45, 99, 111, 108, 111, 114, 45, 115, 99, 104, 101, 109, 101]), .lit (.string [112, 114, 101, 102, 101, 114, 115, 45, 114, 101, 100, 117, 99, 101, 100, 45, 109, 111, 116, 105, 111, 110])]

/-- 'jalousielaw16.EnvApart': WHATEVER THE INPUT: true; the input reads as it did. -/
def envApartSpec : ChangeSpec := { name := "envApart", fn := fun _ => fun
  | [d1, d2] => { results := [.lit (.bool true)], args := [d1, d2] }
  | _ => none }
def envApartRow : OpenClaim := { program := "ytkmpnkgelaaebaadoor", sum := "abea57aefb2a408609797a58b5192879281317bd3c901351bfe06f979192daea", func := "jalousie/jalousielaw16.EnvApart", spec := "envApart", unfollowed := true, recurses := true, named := ["jalousie/jalousielaw16.all"], apart := false, laid := [("jalousie/jalousielaw16.all", laid_jalousie_jalousielaw16_all)] }
def EnvApartSaid : Prop := envApartRow.holds Tryd.pinned (OpenSpec.ofChange envApartSpec)

/-- ITS FALSE NEIGHBOUR: 'it returns false'. Refute it at one input. -/
def envApartWrong : ChangeSpec := { name := "envApart", fn := fun _ => fun
  | [d1, d2] => { results := [.lit (.bool false)], args := [d1, d2] }
  | _ => none }
def EnvApartWrongFalsely : Prop := envApartRow.holds Tryd.pinned (OpenSpec.ofChange envApartWrong)

/- THE SECOND FORM. 'bulk': how many values and letters a reading holds, each counted each time it is reached (what is shared counts as often as it is met; a slice's spare places count too). A statement '..UptoSaid' is the law's where the arguments, and the package variables that the reading takes, are together of bulk at most 1048576: NARROWER than '..Said'. Prove '..Said' where nothing that the law and all that it calls make is longer than what came in: it says more and counts as full. Else prove '..UptoSaid'. A law counts once. -/
mutual
def uptoBulk {H : Type} : DataW H → Nat
  | .lit (.string bytes) => bytes.length + 1
  | .lit _ => 1
  | .nil => 1
  | .ptr d => uptoBulk d + 1
  | .slice elems spare => uptoBulkAll elems + uptoBulkAll spare + 1
  | .agg parts => uptoBulkAll parts + 1
  | .iface _ d => uptoBulk d + 1
  | .map entries => uptoBulkEntries entries + 1
  | .held _ => 1
def uptoBulkAll {H : Type} : List (DataW H) → Nat
  | [] => 0
  | d :: r => uptoBulk d + uptoBulkAll r
def uptoBulkEntries {H : Type} : List (Lit × DataW H) → Nat
  | [] => 0
  | x :: r => uptoBulkEntry x + uptoBulkEntries r
def uptoBulkEntry {H : Type} : Lit × DataW H → Nat
  | (.string bytes, d) => bytes.length + uptoBulk d + 1
  | (_, d) => uptoBulk d + 1
 end
def uptoSmall : (H : Type) → List (DataW H) → Bool := fun _ ds => decide (uptoBulkAll ds ≤ 1048576)
def OpenSpec.upto (s : _root_.Go.ChangeSpec) : _root_.Go.OpenSpec := { _root_.Go.OpenSpec.ofChange s with cond := some uptoSmall }

/-- 'jalousielaw16.EnvApart', WHERE WHAT IT READS IS OF BULK AT MOST 1048576: true; the input reads as it did. -/
def envApartUptoRow : OpenClaim := { program := "ytkmpnkgelaaebaadoor", sum := "abea57aefb2a408609797a58b5192879281317bd3c901351bfe06f979192daea", func := "jalousie/jalousielaw16.EnvApart", spec := "envApart", unfollowed := true, recurses := true, named := ["jalousie/jalousielaw16.all"], apart := false, laid := [("jalousie/jalousielaw16.all", laid_jalousie_jalousielaw16_all)], narrowed := true }
def EnvApartUptoSaid : Prop := envApartUptoRow.holds Tryd.pinned (OpenSpec.upto envApartSpec)

end Rows
end Go.Proofs.YtkmpnkgelaaebaaDoor
