/-
  No cell of these rows narrows 'for every input' (looked for: loops, veiled, ifaces, maps, wideKeys, modest, calm, conditions, laid).
  DERIVED. THE GIVEN ROWS OF THIS SEAT. 6 by the template 'for every input the law returns true; each argument reads behind the call as it read before'; 0 by the template 'total and deterministic' (their statements: YtajkfmnnokkcaaaTotals.lean).
  GIVEN WITH THE SEED: the statements are not yours to turn. If you find one false, say at which input.
  Laid BY PROGRAM, IN A SANDBOX (cutbox-rows.mjs): the forced cells as the released guide's own fill.sh prints them over the translation 7a941dd4a8481433… (all of the seat's roots in one cut). By AI agents, Wed Nov 11 2026. No macro, syntax, notation, axiom, sorry.
-/
import Derived.Test.YtajkfmnnokkcaaaChecked
import GoSem.Claim
import GoSem.ClaimJoined
import GoSem.ClaimMapViews
import Derived.JoinedTies
import Derived.KernelRfl
namespace Go.Proofs.Ytajkfmnnokkcaaa
/- THE CELL 'sum', in the pinned program and in every row, IS THE sha256 OF THE DUMP (.gsa) THAT YtajkfmnnokkcaaaProg.lean LOADS. Nothing in Lean hashes anything: it is a label: what it is worth is what the hold of that sum in a sandbox is worth. -/
noncomputable def Try.pinned : Pinned := { name := "ytajkfmnnokkcaaa", sum := "7a941dd4a8481433f6780466812559437bb6e838980e6e6029f5bf0d489f12fe", checked := Try.checked }
namespace Rows
def none {H : Type} : Left H := { results := [], args := [] }

/-- 'jalousielaw20.OrderSorts': WHATEVER THE INPUT: true; the input reads as it did. -/
def orderSortsSpec : ChangeSpec := { name := "orderSorts", fn := fun _ => fun
  | [d] => { results := [.lit (.bool true)], args := [d] }
  | _ => none }
def orderSortsRow : OpenClaim := { program := "ytajkfmnnokkcaaa", sum := "7a941dd4a8481433f6780466812559437bb6e838980e6e6029f5bf0d489f12fe", func := "jalousie/jalousielaw20.OrderSorts", spec := "orderSorts", unfollowed := true, recurses := true, apart := false }
def OrderSortsSaid : Prop := orderSortsRow.holds Try.pinned (OpenSpec.ofChange orderSortsSpec)

/-- ITS FALSE NEIGHBOUR: 'it returns false'. Refute it at one input. -/
def orderSortsWrong : ChangeSpec := { name := "orderSorts", fn := fun _ => fun
  | [d] => { results := [.lit (.bool false)], args := [d] }
  | _ => none }
def OrderSortsWrongFalsely : Prop := orderSortsRow.holds Try.pinned (OpenSpec.ofChange orderSortsWrong)

/-- 'jalousielaw20.OrderWins': WHATEVER THE INPUT: true; the input reads as it did. -/
def orderWinsSpec : ChangeSpec := { name := "orderWins", fn := fun _ => fun
  | [d] => { results := [.lit (.bool true)], args := [d] }
  | _ => none }
def orderWinsRow : OpenClaim := { program := "ytajkfmnnokkcaaa", sum := "7a941dd4a8481433f6780466812559437bb6e838980e6e6029f5bf0d489f12fe", func := "jalousie/jalousielaw20.OrderWins", spec := "orderWins", unfollowed := true, recurses := true, apart := false }
def OrderWinsSaid : Prop := orderWinsRow.holds Try.pinned (OpenSpec.ofChange orderWinsSpec)

/-- ITS FALSE NEIGHBOUR: 'it returns false'. Refute it at one input. -/
def orderWinsWrong : ChangeSpec := { name := "orderWins", fn := fun _ => fun
  | [d] => { results := [.lit (.bool false)], args := [d] }
  | _ => none }
def OrderWinsWrongFalsely : Prop := orderWinsRow.holds Try.pinned (OpenSpec.ofChange orderWinsWrong)

/-- 'jalousielaw20.OrderGoesOn': WHATEVER THE INPUT: true; the input reads as it did. -/
def orderGoesOnSpec : ChangeSpec := { name := "orderGoesOn", fn := fun _ => fun
  | [d1, d2, d3] => { results := [.lit (.bool true)], args := [d1, d2, d3] }
  | _ => none }
def orderGoesOnRow : OpenClaim := { program := "ytajkfmnnokkcaaa", sum := "7a941dd4a8481433f6780466812559437bb6e838980e6e6029f5bf0d489f12fe", func := "jalousie/jalousielaw20.OrderGoesOn", spec := "orderGoesOn", unfollowed := true, recurses := true, apart := false }
def OrderGoesOnSaid : Prop := orderGoesOnRow.holds Try.pinned (OpenSpec.ofChange orderGoesOnSpec)

/-- ITS FALSE NEIGHBOUR: 'it returns false'. Refute it at one input. -/
def orderGoesOnWrong : ChangeSpec := { name := "orderGoesOn", fn := fun _ => fun
  | [d1, d2, d3] => { results := [.lit (.bool false)], args := [d1, d2, d3] }
  | _ => none }
def OrderGoesOnWrongFalsely : Prop := orderGoesOnRow.holds Try.pinned (OpenSpec.ofChange orderGoesOnWrong)

/-- 'jalousielaw20.OrderTaken': WHATEVER THE INPUT: true; the input reads as it did. -/
def orderTakenSpec : ChangeSpec := { name := "orderTaken", fn := fun _ => fun
  | [d1, d2] => { results := [.lit (.bool true)], args := [d1, d2] }
  | _ => none }
def orderTakenRow : OpenClaim := { program := "ytajkfmnnokkcaaa", sum := "7a941dd4a8481433f6780466812559437bb6e838980e6e6029f5bf0d489f12fe", func := "jalousie/jalousielaw20.OrderTaken", spec := "orderTaken", unfollowed := true, recurses := true, apart := false }
def OrderTakenSaid : Prop := orderTakenRow.holds Try.pinned (OpenSpec.ofChange orderTakenSpec)

/-- ITS FALSE NEIGHBOUR: 'it returns false'. Refute it at one input. -/
def orderTakenWrong : ChangeSpec := { name := "orderTaken", fn := fun _ => fun
  | [d1, d2] => { results := [.lit (.bool false)], args := [d1, d2] }
  | _ => none }
def OrderTakenWrongFalsely : Prop := orderTakenRow.holds Try.pinned (OpenSpec.ofChange orderTakenWrong)

/-- 'jalousielaw20.OrderTurned': WHATEVER THE INPUT: true; the input reads as it did. -/
def orderTurnedSpec : ChangeSpec := { name := "orderTurned", fn := fun _ => fun
  | [d1, d2] => { results := [.lit (.bool true)], args := [d1, d2] }
  | _ => none }
def orderTurnedRow : OpenClaim := { program := "ytajkfmnnokkcaaa", sum := "7a941dd4a8481433f6780466812559437bb6e838980e6e6029f5bf0d489f12fe", func := "jalousie/jalousielaw20.OrderTurned", spec := "orderTurned", unfollowed := true, recurses := true, apart := false }
def OrderTurnedSaid : Prop := orderTurnedRow.holds Try.pinned (OpenSpec.ofChange orderTurnedSpec)

/-- ITS FALSE NEIGHBOUR: 'it returns false'. Refute it at one input. -/
def orderTurnedWrong : ChangeSpec := { name := "orderTurned", fn := fun _ => fun
  | [d1, d2] => { results := [.lit (.bool false)], args := [d1, d2] }
  | _ => none }
def OrderTurnedWrongFalsely : Prop := orderTurnedRow.holds Try.pinned (OpenSpec.ofChange orderTurnedWrong)

/-- 'jalousielaw20.OrderShuffled': WHATEVER THE INPUT: true; the input reads as it did. -/
def orderShuffledSpec : ChangeSpec := { name := "orderShuffled", fn := fun _ => fun
  | [d] => { results := [.lit (.bool true)], args := [d] }
  | _ => none }
def orderShuffledRow : OpenClaim := { program := "ytajkfmnnokkcaaa", sum := "7a941dd4a8481433f6780466812559437bb6e838980e6e6029f5bf0d489f12fe", func := "jalousie/jalousielaw20.OrderShuffled", spec := "orderShuffled", unfollowed := true, recurses := true, apart := false }
def OrderShuffledSaid : Prop := orderShuffledRow.holds Try.pinned (OpenSpec.ofChange orderShuffledSpec)

/-- ITS FALSE NEIGHBOUR: 'it returns false'. Refute it at one input. -/
def orderShuffledWrong : ChangeSpec := { name := "orderShuffled", fn := fun _ => fun
  | [d] => { results := [.lit (.bool false)], args := [d] }
  | _ => none }
def OrderShuffledWrongFalsely : Prop := orderShuffledRow.holds Try.pinned (OpenSpec.ofChange orderShuffledWrong)

/- THE SECOND FORM. 'bulk': how many values and letters a reading holds, each counted each time it is reached (what is shared counts as often as it is met; a slice's spare places count too). A statement '..UptoSaid' is the law's where the arguments, and the package variables that the reading takes, are together of bulk at most 1048576: NARROWER than '..Said'. Prove '..Said' where nothing that the law and all that it calls make is longer than what came in: it says more and counts as full. Else prove '..UptoSaid'. A law counts once. -/
mutual
def uptoBulk {H : Type} : DataW H → Nat
  | .lit (.string bytes) => bytes.length + 1
  | .lit _ => 1
  | .nil => 1
  | .ptr d => uptoBulk d + 1
  | .slice elems spare => uptoBulkAll elems + uptoBulkAll spare + 1
  | .agg parts => uptoBulkAll parts + 1
  | .iface _ d => uptoBulk d + 1
  | .map entries => uptoBulkEntries entries + 1
  | .held _ => 1
def uptoBulkAll {H : Type} : List (DataW H) → Nat
  | [] => 0
  | d :: r => uptoBulk d + uptoBulkAll r
def uptoBulkEntries {H : Type} : List (Lit × DataW H) → Nat
  | [] => 0
  | x :: r => uptoBulkEntry x + uptoBulkEntries r
def uptoBulkEntry {H : Type} : Lit × DataW H → Nat
  | (.string bytes, d) => bytes.length + uptoBulk d + 1
  | (_, d) => uptoBulk d + 1
 end
def uptoSmall : (H : Type) → List (DataW H) → Bool := fun _ ds => decide (uptoBulkAll ds ≤ 1048576)
def OpenSpec.upto (s : _root_.Go.ChangeSpec) : _root_.Go.OpenSpec := { _root_.Go.OpenSpec.ofChange s with cond := some uptoSmall }

/-- 'jalousielaw20.OrderSorts', WHERE WHAT IT READS IS OF BULK AT MOST 1048576: true; the input reads as it did. -/
def orderSortsUptoRow : OpenClaim := { program := "ytajkfmnnokkcaaa", sum := "7a941dd4a8481433f6780466812559437bb6e838980e6e6029f5bf0d489f12fe", func := "jalousie/jalousielaw20.OrderSorts", spec := "orderSorts", unfollowed := true, recurses := true, apart := false, narrowed := true }
def OrderSortsUptoSaid : Prop := orderSortsUptoRow.holds Try.pinned (OpenSpec.upto orderSortsSpec)

/-- 'jalousielaw20.OrderWins', WHERE WHAT IT READS IS OF BULK AT MOST 1048576: true; the input reads as it did. -/
def orderWinsUptoRow : OpenClaim := { program := "ytajkfmnnokkcaaa", sum := "7a941dd4a8481433f6780466812559437bb6e838980e6e6029f5bf0d489f12fe", func := "jalousie/jalousielaw20.OrderWins", spec := "orderWins", unfollowed := true, recurses := true, apart := false, narrowed := true }
def OrderWinsUptoSaid : Prop := orderWinsUptoRow.holds Try.pinned (OpenSpec.upto orderWinsSpec)

/-- 'jalousielaw20.OrderGoesOn', WHERE WHAT IT READS IS OF BULK AT MOST 1048576: true; the input reads as it did. -/
def orderGoesOnUptoRow : OpenClaim := { program := "ytajkfmnnokkcaaa", sum := "7a941dd4a8481433f6780466812559437bb6e838980e6e6029f5bf0d489f12fe", func := "jalousie/jalousielaw20.OrderGoesOn", spec := "orderGoesOn", unfollowed := true, recurses := true, apart := false, narrowed := true }
def OrderGoesOnUptoSaid : Prop := orderGoesOnUptoRow.holds Try.pinned (OpenSpec.upto orderGoesOnSpec)

/-- 'jalousielaw20.OrderTaken', WHERE WHAT IT READS IS OF BULK AT MOST 1048576: true; the input reads as it did. -/
def orderTakenUptoRow : OpenClaim := { program := "ytajkfmnnokkcaaa", sum := "7a941dd4a8481433f6780466812559437bb6e838980e6e6029f5bf0d489f12fe", func := "jalousie/jalousielaw20.OrderTaken", spec := "orderTaken", unfollowed := true, recurses := true, apart := false, narrowed := true }
def OrderTakenUptoSaid : Prop := orderTakenUptoRow.holds Try.pinned (OpenSpec.upto orderTakenSpec)

/-- 'jalousielaw20.OrderTurned', WHERE WHAT IT READS IS OF BULK AT MOST 1048576: true; the input reads as it did. -/
def orderTurnedUptoRow : OpenClaim := { program := "ytajkfmnnokkcaaa", sum := "7a941dd4a8481433f6780466812559437bb6e838980e6e6029f5bf0d489f12fe", func := "jalousie/jalousielaw20.OrderTurned", spec := "orderTurned", unfollowed := true, recurses := true, apart := false, narrowed := true }
def OrderTurnedUptoSaid : Prop := orderTurnedUptoRow.holds Try.pinned (OpenSpec.upto orderTurnedSpec)

/-- 'jalousielaw20.OrderShuffled', WHERE WHAT IT READS IS OF BULK AT MOST 1048576: true; the input reads as it did. -/
def orderShuffledUptoRow : OpenClaim := { program := "ytajkfmnnokkcaaa", sum := "7a941dd4a8481433f6780466812559437bb6e838980e6e6029f5bf0d489f12fe", func := "jalousie/jalousielaw20.OrderShuffled", spec := "orderShuffled", unfollowed := true, recurses := true, apart := false, narrowed := true }
def OrderShuffledUptoSaid : Prop := orderShuffledUptoRow.holds Try.pinned (OpenSpec.upto orderShuffledSpec)

end Rows
end Go.Proofs.Ytajkfmnnokkcaaa
