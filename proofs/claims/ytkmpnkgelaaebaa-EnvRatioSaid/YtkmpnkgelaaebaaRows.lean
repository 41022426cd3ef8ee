/-
  No cell of these rows narrows 'for every input' (looked for: loops, veiled, ifaces, maps, wideKeys, modest, calm, conditions, laid).
  DERIVED. THE GIVEN ROWS OF THIS SEAT. 7 by the template 'for every input the law returns true; each argument reads behind the call as it read before'; 0 by the template 'total and deterministic' (their statements: YtkmpnkgelaaebaaTotals.lean).
  GIVEN WITH THE SEED: the statements are not yours to turn. If you find one false, say at which input.
  Laid BY PROGRAM, IN A SANDBOX (cutbox-rows.mjs): the forced cells as the released guide's own fill.sh prints them over the translation e25a1e0d2f732e43… (all of the seat's roots in one cut). By AI agents, Wed Nov 11 2026. No macro, syntax, notation, axiom, sorry.
-/
import Derived.Test.YtkmpnkgelaaebaaChecked
import GoSem.Claim
import GoSem.ClaimJoined
import GoSem.ClaimMapViews
import Derived.JoinedTies
import Derived.KernelRfl
namespace Go.Proofs.Ytkmpnkgelaaebaa
/- THE CELL 'sum', in the pinned program and in every row, IS THE sha256 OF THE DUMP (.gsa) THAT YtkmpnkgelaaebaaProg.lean LOADS. Nothing in Lean hashes anything: it is a label: what it is worth is what the hold of that sum in a sandbox is worth. -/
noncomputable def Try.pinned : Pinned := { name := "ytkmpnkgelaaebaa", sum := "e25a1e0d2f732e430f2d9a45ca36fd892e3a3bd580794b5bf64bb467a8668676", checked := Try.checked }
namespace Rows
def none {H : Type} : Left H := { results := [], args := [] }

/-- 'jalousielaw8.DomMay': WHATEVER THE INPUT: true; the input reads as it did. -/
def domMaySpec : ChangeSpec := { name := "domMay", fn := fun _ => fun
  | [d1, d2] => { results := [.lit (.bool true)], args := [d1, d2] }
  | _ => none }
def domMayRow : OpenClaim := { program := "ytkmpnkgelaaebaa", sum := "e25a1e0d2f732e430f2d9a45ca36fd892e3a3bd580794b5bf64bb467a8668676", func := "jalousie/jalousielaw8.DomMay", spec := "domMay", apart := false }
def DomMaySaid : Prop := domMayRow.holds Try.pinned (OpenSpec.ofChange domMaySpec)

/-- ITS FALSE NEIGHBOUR: 'it returns false'. Refute it at one input. -/
def domMayWrong : ChangeSpec := { name := "domMay", fn := fun _ => fun
  | [d1, d2] => { results := [.lit (.bool false)], args := [d1, d2] }
  | _ => none }
def DomMayWrongFalsely : Prop := domMayRow.holds Try.pinned (OpenSpec.ofChange domMayWrong)

/-- 'jalousielaw20.OrderMay': WHATEVER THE INPUT: true; the input reads as it did. -/
def orderMaySpec : ChangeSpec := { name := "orderMay", fn := fun _ => fun
  | [d1, d2] => { results := [.lit (.bool true)], args := [d1, d2] }
  | _ => none }
def orderMayRow : OpenClaim := { program := "ytkmpnkgelaaebaa", sum := "e25a1e0d2f732e430f2d9a45ca36fd892e3a3bd580794b5bf64bb467a8668676", func := "jalousie/jalousielaw20.OrderMay", spec := "orderMay", apart := false }
def OrderMaySaid : Prop := orderMayRow.holds Try.pinned (OpenSpec.ofChange orderMaySpec)

/-- ITS FALSE NEIGHBOUR: 'it returns false'. Refute it at one input. -/
def orderMayWrong : ChangeSpec := { name := "orderMay", fn := fun _ => fun
  | [d1, d2] => { results := [.lit (.bool false)], args := [d1, d2] }
  | _ => none }
def OrderMayWrongFalsely : Prop := orderMayRow.holds Try.pinned (OpenSpec.ofChange orderMayWrong)

/-- 'jalousielaw16.EnvMay': WHATEVER THE INPUT: true; the input reads as it did. -/
def envMaySpec : ChangeSpec := { name := "envMay", fn := fun _ => fun
  | [d] => { results := [.lit (.bool true)], args := [d] }
  | _ => none }
def envMayRow : OpenClaim := { program := "ytkmpnkgelaaebaa", sum := "e25a1e0d2f732e430f2d9a45ca36fd892e3a3bd580794b5bf64bb467a8668676", func := "jalousie/jalousielaw16.EnvMay", spec := "envMay", unfollowed := true, recurses := true, apart := false }
def EnvMaySaid : Prop := envMayRow.holds Try.pinned (OpenSpec.ofChange envMaySpec)

/-- ITS FALSE NEIGHBOUR: 'it returns false'. Refute it at one input. -/
def envMayWrong : ChangeSpec := { name := "envMay", fn := fun _ => fun
  | [d] => { results := [.lit (.bool false)], args := [d] }
  | _ => none }
def EnvMayWrongFalsely : Prop := envMayRow.holds Try.pinned (OpenSpec.ofChange envMayWrong)

/-- 'jalousielaw16.EnvChanges': WHATEVER THE INPUT: true; the input reads as it did. -/
def envChangesSpec : ChangeSpec := { name := "envChanges", fn := fun _ => fun
  | [d1, d2] => { results := [.lit (.bool true)], args := [d1, d2] }
  | _ => none }
def envChangesRow : OpenClaim := { program := "ytkmpnkgelaaebaa", sum := "e25a1e0d2f732e430f2d9a45ca36fd892e3a3bd580794b5bf64bb467a8668676", func := "jalousie/jalousielaw16.EnvChanges", spec := "envChanges", unfollowed := true, recurses := true, apart := false }
def EnvChangesSaid : Prop := envChangesRow.holds Try.pinned (OpenSpec.ofChange envChangesSpec)

/-- ITS FALSE NEIGHBOUR: 'it returns false'. Refute it at one input. -/
def envChangesWrong : ChangeSpec := { name := "envChanges", fn := fun _ => fun
  | [d1, d2] => { results := [.lit (.bool false)], args := [d1, d2] }
  | _ => none }
def EnvChangesWrongFalsely : Prop := envChangesRow.holds Try.pinned (OpenSpec.ofChange envChangesWrong)

/-- 'jalousielaw16.EnvOrder': WHATEVER THE INPUT: true; the input reads as it did. -/
def envOrderSpec : ChangeSpec := { name := "envOrder", fn := fun _ => fun
  | [d1, d2, d3] => { results := [.lit (.bool true)], args := [d1, d2, d3] }
  | _ => none }
def envOrderRow : OpenClaim := { program := "ytkmpnkgelaaebaa", sum := "e25a1e0d2f732e430f2d9a45ca36fd892e3a3bd580794b5bf64bb467a8668676", func := "jalousie/jalousielaw16.EnvOrder", spec := "envOrder", unfollowed := true, recurses := true, apart := false }
def EnvOrderSaid : Prop := envOrderRow.holds Try.pinned (OpenSpec.ofChange envOrderSpec)

/-- ITS FALSE NEIGHBOUR: 'it returns false'. Refute it at one input. -/
def envOrderWrong : ChangeSpec := { name := "envOrder", fn := fun _ => fun
  | [d1, d2, d3] => { results := [.lit (.bool false)], args := [d1, d2, d3] }
  | _ => none }
def EnvOrderWrongFalsely : Prop := envOrderRow.holds Try.pinned (OpenSpec.ofChange envOrderWrong)

/-- 'jalousielaw16.EnvAsks': WHATEVER THE INPUT: true; the input reads as it did. -/
def envAsksSpec : ChangeSpec := { name := "envAsks", fn := fun _ => fun
  | [d1, d2] => { results := [.lit (.bool true)], args := [d1, d2] }
  | _ => none }
def envAsksRow : OpenClaim := { program := "ytkmpnkgelaaebaa", sum := "e25a1e0d2f732e430f2d9a45ca36fd892e3a3bd580794b5bf64bb467a8668676", func := "jalousie/jalousielaw16.EnvAsks", spec := "envAsks", inPlace := ["math/bits.Sub64"], unfollowed := true, recurses := true, apart := false }
def EnvAsksSaid : Prop := envAsksRow.holds Try.pinned (OpenSpec.ofChange envAsksSpec)

/-- ITS FALSE NEIGHBOUR: 'it returns false'. Refute it at one input. -/
def envAsksWrong : ChangeSpec := { name := "envAsks", fn := fun _ => fun
  | [d1, d2] => { results := [.lit (.bool false)], args := [d1, d2] }
  | _ => none }
def EnvAsksWrongFalsely : Prop := envAsksRow.holds Try.pinned (OpenSpec.ofChange envAsksWrong)

/-- 'jalousielaw16.EnvRatio': WHATEVER THE INPUT: true; the input reads as it did. -/
def envRatioSpec : ChangeSpec := { name := "envRatio", fn := fun _ => fun
  | [d1, d2, d3] => { results := [.lit (.bool true)], args := [d1, d2, d3] }
  | _ => none }
def envRatioRow : OpenClaim := { program := "ytkmpnkgelaaebaa", sum := "e25a1e0d2f732e430f2d9a45ca36fd892e3a3bd580794b5bf64bb467a8668676", func := "jalousie/jalousielaw16.EnvRatio", spec := "envRatio", inPlace := ["math/bits.Sub64"], unfollowed := true, recurses := true, apart := false }
def EnvRatioSaid : Prop := envRatioRow.holds Try.pinned (OpenSpec.ofChange envRatioSpec)

/-- ITS FALSE NEIGHBOUR: 'it returns false'. Refute it at one input. -/
def envRatioWrong : ChangeSpec := { name := "envRatio", fn := fun _ => fun
  | [d1, d2, d3] => { results := [.lit (.bool false)], args := [d1, d2, d3] }
  | _ => none }
def EnvRatioWrongFalsely : Prop := envRatioRow.holds Try.pinned (OpenSpec.ofChange envRatioWrong)

/- THE SECOND FORM. 'bulk': how many values and letters a reading holds, each counted each time it is reached (what is shared counts as often as it is met; a slice's spare places count too). A statement '..UptoSaid' is the law's where the arguments, and the package variables that the reading takes, are together of bulk at most 1048576: NARROWER than '..Said'. Prove '..Said' where nothing that the law and all that it calls make is longer than what came in: it says more and counts as full. Else prove '..UptoSaid'. A law counts once. -/
mutual
def uptoBulk {H : Type} : DataW H → Nat
  | .lit (.string bytes) => bytes.length + 1
  | .lit _ => 1
  | .nil => 1
  | .ptr d => uptoBulk d + 1
  | .slice elems spare => uptoBulkAll elems + uptoBulkAll spare + 1
  | .agg parts => uptoBulkAll parts + 1
  | .iface _ d => uptoBulk d + 1
  | .map entries => uptoBulkEntries entries + 1
  | .held _ => 1
def uptoBulkAll {H : Type} : List (DataW H) → Nat
  | [] => 0
  | d :: r => uptoBulk d + uptoBulkAll r
def uptoBulkEntries {H : Type} : List (Lit × DataW H) → Nat
  | [] => 0
  | x :: r => uptoBulkEntry x + uptoBulkEntries r
def uptoBulkEntry {H : Type} : Lit × DataW H → Nat
  | (.string bytes, d) => bytes.length + uptoBulk d + 1
  | (_, d) => uptoBulk d + 1
 end
def uptoSmall : (H : Type) → List (DataW H) → Bool := fun _ ds => decide (uptoBulkAll ds ≤ 1048576)
def OpenSpec.upto (s : _root_.Go.ChangeSpec) : _root_.Go.OpenSpec := { _root_.Go.OpenSpec.ofChange s with cond := some uptoSmall }

/-- 'jalousielaw8.DomMay', WHERE WHAT IT READS IS OF BULK AT MOST 1048576: true; the input reads as it did. -/
def domMayUptoRow : OpenClaim := { program := "ytkmpnkgelaaebaa", sum := "e25a1e0d2f732e430f2d9a45ca36fd892e3a3bd580794b5bf64bb467a8668676", func := "jalousie/jalousielaw8.DomMay", spec := "domMay", apart := false, narrowed := true }
def DomMayUptoSaid : Prop := domMayUptoRow.holds Try.pinned (OpenSpec.upto domMaySpec)

/-- 'jalousielaw20.OrderMay', WHERE WHAT IT READS IS OF BULK AT MOST 1048576: true; the input reads as it did. -/
def orderMayUptoRow : OpenClaim := { program := "ytkmpnkgelaaebaa", sum := "e25a1e0d2f732e430f2d9a45ca36fd892e3a3bd580794b5bf64bb467a8668676", func := "jalousie/jalousielaw20.OrderMay", spec := "orderMay", apart := false, narrowed := true }
def OrderMayUptoSaid : Prop := orderMayUptoRow.holds Try.pinned (OpenSpec.upto orderMaySpec)

/-- 'jalousielaw16.EnvMay', WHERE WHAT IT READS IS OF BULK AT MOST 1048576: true; the input reads as it did. -/
def envMayUptoRow : OpenClaim := { program := "ytkmpnkgelaaebaa", sum := "e25a1e0d2f732e430f2d9a45ca36fd892e3a3bd580794b5bf64bb467a8668676", func := "jalousie/jalousielaw16.EnvMay", spec := "envMay", unfollowed := true, recurses := true, apart := false, narrowed := true }
def EnvMayUptoSaid : Prop := envMayUptoRow.holds Try.pinned (OpenSpec.upto envMaySpec)

/-- 'jalousielaw16.EnvChanges', WHERE WHAT IT READS IS OF BULK AT MOST 1048576: true; the input reads as it did. -/
def envChangesUptoRow : OpenClaim := { program := "ytkmpnkgelaaebaa", sum := "e25a1e0d2f732e430f2d9a45ca36fd892e3a3bd580794b5bf64bb467a8668676", func := "jalousie/jalousielaw16.EnvChanges", spec := "envChanges", unfollowed := true, recurses := true, apart := false, narrowed := true }
def EnvChangesUptoSaid : Prop := envChangesUptoRow.holds Try.pinned (OpenSpec.upto envChangesSpec)

/-- 'jalousielaw16.EnvOrder', WHERE WHAT IT READS IS OF BULK AT MOST 1048576: true; the input reads as it did. -/
def envOrderUptoRow : OpenClaim := { program := "ytkmpnkgelaaebaa", sum := "e25a1e0d2f732e430f2d9a45ca36fd892e3a3bd580794b5bf64bb467a8668676", func := "jalousie/jalousielaw16.EnvOrder", spec := "envOrder", unfollowed := true, recurses := true, apart := false, narrowed := true }
def EnvOrderUptoSaid : Prop := envOrderUptoRow.holds Try.pinned (OpenSpec.upto envOrderSpec)

/-- 'jalousielaw16.EnvAsks', WHERE WHAT IT READS IS OF BULK AT MOST 1048576: true; the input reads as it did. -/
def envAsksUptoRow : OpenClaim := { program := "ytkmpnkgelaaebaa", sum := "e25a1e0d2f732e430f2d9a45ca36fd892e3a3bd580794b5bf64bb467a8668676", func := "jalousie/jalousielaw16.EnvAsks", spec := "envAsks", inPlace := ["math/bits.Sub64"], unfollowed := true, recurses := true, apart := false, narrowed := true }
def EnvAsksUptoSaid : Prop := envAsksUptoRow.holds Try.pinned (OpenSpec.upto envAsksSpec)

/-- 'jalousielaw16.EnvRatio', WHERE WHAT IT READS IS OF BULK AT MOST 1048576: true; the input reads as it did. -/
def envRatioUptoRow : OpenClaim := { program := "ytkmpnkgelaaebaa", sum := "e25a1e0d2f732e430f2d9a45ca36fd892e3a3bd580794b5bf64bb467a8668676", func := "jalousie/jalousielaw16.EnvRatio", spec := "envRatio", inPlace := ["math/bits.Sub64"], unfollowed := true, recurses := true, apart := false, narrowed := true }
def EnvRatioUptoSaid : Prop := envRatioUptoRow.holds Try.pinned (OpenSpec.upto envRatioSpec)

end Rows
end Go.Proofs.Ytkmpnkgelaaebaa
