/-
  No cell of these rows narrows 'for every input' (looked for: loops, veiled, ifaces, maps, wideKeys, modest, calm, conditions, laid).
  DERIVED. THE GIVEN ROWS OF THIS SEAT. 7 by the template 'for every input the law returns true; each argument reads behind the call as it read before'; 0 by the template 'total and deterministic' (their statements: YtjfccilmlmimaaaTotals.lean).
  GIVEN WITH THE SEED: the statements are not yours to turn. If you find one false, say at which input.
  Laid BY PROGRAM, IN A SANDBOX (cutbox-rows.mjs): the forced cells as the released guide's own fill.sh prints them over the translation bd917b8291447d00… (all of the seat's roots in one cut). By AI agents, Wed Nov 11 2026. No macro, syntax, notation, axiom, sorry.
-/
import Derived.Test.YtjfccilmlmimaaaChecked
import GoSem.Claim
import GoSem.ClaimJoined
import GoSem.ClaimMapViews
import Derived.JoinedTies
import Derived.KernelRfl
namespace Go.Proofs.Ytjfccilmlmimaaa
/- THE CELL 'sum', in the pinned program and in every row, IS THE sha256 OF THE DUMP (.gsa) THAT YtjfccilmlmimaaaProg.lean LOADS. Nothing in Lean hashes anything: it is a label: what it is worth is what the hold of that sum in a sandbox is worth. -/
noncomputable def Try.pinned : Pinned := { name := "ytjfccilmlmimaaa", sum := "bd917b8291447d00ff837c1cef7e50e170596d7acbc96ded41c6bc8f33bfb248", checked := Try.checked }
namespace Rows
def none {H : Type} : Left H := { results := [], args := [] }

/-- 'jalousielaw24.PointFlips': WHATEVER THE INPUT: true; the input reads as it did. -/
def pointFlipsSpec : ChangeSpec := { name := "pointFlips", fn := fun _ => fun
  | [d1, d2, d3, d4] => { results := [.lit (.bool true)], args := [d1, d2, d3, d4] }
  | _ => none }
def pointFlipsRow : OpenClaim := { program := "ytjfccilmlmimaaa", sum := "bd917b8291447d00ff837c1cef7e50e170596d7acbc96ded41c6bc8f33bfb248", func := "jalousie/jalousielaw24.PointFlips", spec := "pointFlips", inPlace := ["sync/atomic.LoadInt64", "sync/atomic.CompareAndSwapInt64"], unfollowed := true, recurses := true, apart := false }
def PointFlipsSaid : Prop := pointFlipsRow.holds Try.pinned (OpenSpec.ofChange pointFlipsSpec)

/-- ITS FALSE NEIGHBOUR: 'it returns false'. Refute it at one input. -/
def pointFlipsWrong : ChangeSpec := { name := "pointFlips", fn := fun _ => fun
  | [d1, d2, d3, d4] => { results := [.lit (.bool false)], args := [d1, d2, d3, d4] }
  | _ => none }
def PointFlipsWrongFalsely : Prop := pointFlipsRow.holds Try.pinned (OpenSpec.ofChange pointFlipsWrong)

/-- 'jalousielaw24.PointPlaces': WHATEVER THE INPUT: true; the input reads as it did. -/
def pointPlacesSpec : ChangeSpec := { name := "pointPlaces", fn := fun _ => fun
  | [d1, d2] => { results := [.lit (.bool true)], args := [d1, d2] }
  | _ => none }
def pointPlacesRow : OpenClaim := { program := "ytjfccilmlmimaaa", sum := "bd917b8291447d00ff837c1cef7e50e170596d7acbc96ded41c6bc8f33bfb248", func := "jalousie/jalousielaw24.PointPlaces", spec := "pointPlaces", inPlace := ["sync/atomic.LoadInt64", "sync/atomic.CompareAndSwapInt64"], unfollowed := true, recurses := true, apart := false }
def PointPlacesSaid : Prop := pointPlacesRow.holds Try.pinned (OpenSpec.ofChange pointPlacesSpec)

/-- ITS FALSE NEIGHBOUR: 'it returns false'. Refute it at one input. -/
def pointPlacesWrong : ChangeSpec := { name := "pointPlaces", fn := fun _ => fun
  | [d1, d2] => { results := [.lit (.bool false)], args := [d1, d2] }
  | _ => none }
def PointPlacesWrongFalsely : Prop := pointPlacesRow.holds Try.pinned (OpenSpec.ofChange pointPlacesWrong)

/-- 'jalousielaw24.PointTrues': WHATEVER THE INPUT: true; the input reads as it did. -/
def pointTruesSpec : ChangeSpec := { name := "pointTrues", fn := fun _ => fun
  | [d1, d2, d3] => { results := [.lit (.bool true)], args := [d1, d2, d3] }
  | _ => none }
def pointTruesRow : OpenClaim := { program := "ytjfccilmlmimaaa", sum := "bd917b8291447d00ff837c1cef7e50e170596d7acbc96ded41c6bc8f33bfb248", func := "jalousie/jalousielaw24.PointTrues", spec := "pointTrues", inPlace := ["sync/atomic.LoadInt64", "sync/atomic.CompareAndSwapInt64"], unfollowed := true, recurses := true, apart := false }
def PointTruesSaid : Prop := pointTruesRow.holds Try.pinned (OpenSpec.ofChange pointTruesSpec)

/-- ITS FALSE NEIGHBOUR: 'it returns false'. Refute it at one input. -/
def pointTruesWrong : ChangeSpec := { name := "pointTrues", fn := fun _ => fun
  | [d1, d2, d3] => { results := [.lit (.bool false)], args := [d1, d2, d3] }
  | _ => none }
def PointTruesWrongFalsely : Prop := pointTruesRow.holds Try.pinned (OpenSpec.ofChange pointTruesWrong)

/-- 'jalousielaw24.PointWays': WHATEVER THE INPUT: true; the input reads as it did. -/
def pointWaysSpec : ChangeSpec := { name := "pointWays", fn := fun _ => fun
  | [d1, d2, d3, d4, d5] => { results := [.lit (.bool true)], args := [d1, d2, d3, d4, d5] }
  | _ => none }
def pointWaysRow : OpenClaim := { program := "ytjfccilmlmimaaa", sum := "bd917b8291447d00ff837c1cef7e50e170596d7acbc96ded41c6bc8f33bfb248", func := "jalousie/jalousielaw24.PointWays", spec := "pointWays", inPlace := ["sync/atomic.LoadInt64", "sync/atomic.CompareAndSwapInt64"], unfollowed := true, recurses := true, apart := false }
def PointWaysSaid : Prop := pointWaysRow.holds Try.pinned (OpenSpec.ofChange pointWaysSpec)

/-- ITS FALSE NEIGHBOUR: 'it returns false'. Refute it at one input. -/
def pointWaysWrong : ChangeSpec := { name := "pointWays", fn := fun _ => fun
  | [d1, d2, d3, d4, d5] => { results := [.lit (.bool false)], args := [d1, d2, d3, d4, d5] }
  | _ => none }
def PointWaysWrongFalsely : Prop := pointWaysRow.holds Try.pinned (OpenSpec.ofChange pointWaysWrong)

/-- 'jalousielaw24.PointBoth': WHATEVER THE INPUT: true; the input reads as it did. -/
def pointBothSpec : ChangeSpec := { name := "pointBoth", fn := fun _ => fun
  | [d1, d2, d3, d4, d5] => { results := [.lit (.bool true)], args := [d1, d2, d3, d4, d5] }
  | _ => none }
def pointBothRow : OpenClaim := { program := "ytjfccilmlmimaaa", sum := "bd917b8291447d00ff837c1cef7e50e170596d7acbc96ded41c6bc8f33bfb248", func := "jalousie/jalousielaw24.PointBoth", spec := "pointBoth", inPlace := ["sync/atomic.LoadInt64", "sync/atomic.CompareAndSwapInt64"], unfollowed := true, recurses := true, apart := false }
def PointBothSaid : Prop := pointBothRow.holds Try.pinned (OpenSpec.ofChange pointBothSpec)

/-- ITS FALSE NEIGHBOUR: 'it returns false'. Refute it at one input. -/
def pointBothWrong : ChangeSpec := { name := "pointBoth", fn := fun _ => fun
  | [d1, d2, d3, d4, d5] => { results := [.lit (.bool false)], args := [d1, d2, d3, d4, d5] }
  | _ => none }
def PointBothWrongFalsely : Prop := pointBothRow.holds Try.pinned (OpenSpec.ofChange pointBothWrong)

/-- 'jalousielaw24.PointBetween': WHATEVER THE INPUT: true; the input reads as it did. -/
def pointBetweenSpec : ChangeSpec := { name := "pointBetween", fn := fun _ => fun
  | [d1, d2, d3, d4] => { results := [.lit (.bool true)], args := [d1, d2, d3, d4] }
  | _ => none }
def pointBetweenRow : OpenClaim := { program := "ytjfccilmlmimaaa", sum := "bd917b8291447d00ff837c1cef7e50e170596d7acbc96ded41c6bc8f33bfb248", func := "jalousie/jalousielaw24.PointBetween", spec := "pointBetween", inPlace := ["sync/atomic.LoadInt64", "sync/atomic.CompareAndSwapInt64"], unfollowed := true, recurses := true, apart := false }
def PointBetweenSaid : Prop := pointBetweenRow.holds Try.pinned (OpenSpec.ofChange pointBetweenSpec)

/-- ITS FALSE NEIGHBOUR: 'it returns false'. Refute it at one input. -/
def pointBetweenWrong : ChangeSpec := { name := "pointBetween", fn := fun _ => fun
  | [d1, d2, d3, d4] => { results := [.lit (.bool false)], args := [d1, d2, d3, d4] }
  | _ => none }
def PointBetweenWrongFalsely : Prop := pointBetweenRow.holds Try.pinned (OpenSpec.ofChange pointBetweenWrong)

/-- 'jalousielaw24.PointFew': WHATEVER THE INPUT: true; the input reads as it did. -/
def pointFewSpec : ChangeSpec := { name := "pointFew", fn := fun _ => fun
  | [d1, d2, d3, d4] => { results := [.lit (.bool true)], args := [d1, d2, d3, d4] }
  | _ => none }
def pointFewRow : OpenClaim := { program := "ytjfccilmlmimaaa", sum := "bd917b8291447d00ff837c1cef7e50e170596d7acbc96ded41c6bc8f33bfb248", func := "jalousie/jalousielaw24.PointFew", spec := "pointFew", inPlace := ["sync/atomic.LoadInt64", "sync/atomic.CompareAndSwapInt64"], unfollowed := true, recurses := true, apart := false }
def PointFewSaid : Prop := pointFewRow.holds Try.pinned (OpenSpec.ofChange pointFewSpec)

/-- ITS FALSE NEIGHBOUR: 'it returns false'. Refute it at one input. -/
def pointFewWrong : ChangeSpec := { name := "pointFew", fn := fun _ => fun
  | [d1, d2, d3, d4] => { results := [.lit (.bool false)], args := [d1, d2, d3, d4] }
  | _ => none }
def PointFewWrongFalsely : Prop := pointFewRow.holds Try.pinned (OpenSpec.ofChange pointFewWrong)

/- THE SECOND FORM. 'bulk': how many values and letters a reading holds, each counted each time it is reached (what is shared counts as often as it is met; a slice's spare places count too). A statement '..UptoSaid' is the law's where the arguments, and the package variables that the reading takes, are together of bulk at most 1048576: NARROWER than '..Said'. Prove '..Said' where nothing that the law and all that it calls make is longer than what came in: it says more and counts as full. Else prove '..UptoSaid'. A law counts once. -/
mutual
def uptoBulk {H : Type} : DataW H → Nat
  | .lit (.string bytes) => bytes.length + 1
  | .lit _ => 1
  | .nil => 1
  | .ptr d => uptoBulk d + 1
  | .slice elems spare => uptoBulkAll elems + uptoBulkAll spare + 1
  | .agg parts => uptoBulkAll parts + 1
  | .iface _ d => uptoBulk d + 1
  | .map entries => uptoBulkEntries entries + 1
  | .held _ => 1
def uptoBulkAll {H : Type} : List (DataW H) → Nat
  | [] => 0
  | d :: r => uptoBulk d + uptoBulkAll r
def uptoBulkEntries {H : Type} : List (Lit × DataW H) → Nat
  | [] => 0
  | x :: r => uptoBulkEntry x + uptoBulkEntries r
def uptoBulkEntry {H : Type} : Lit × DataW H → Nat
  | (.string bytes, d) => bytes.length + uptoBulk d + 1
  | (_, d) => uptoBulk d + 1
 end
def uptoSmall : (H : Type) → List (DataW H) → Bool := fun _ ds => decide (uptoBulkAll ds ≤ 1048576)
def OpenSpec.upto (s : _root_.Go.ChangeSpec) : _root_.Go.OpenSpec := { _root_.Go.OpenSpec.ofChange s with cond := some uptoSmall }

/-- 'jalousielaw24.PointFlips', WHERE WHAT IT READS IS OF BULK AT MOST 1048576: true; the input reads as it did. -/
def pointFlipsUptoRow : OpenClaim := { program := "ytjfccilmlmimaaa", sum := "bd917b8291447d00ff837c1cef7e50e170596d7acbc96ded41c6bc8f33bfb248", func := "jalousie/jalousielaw24.PointFlips", spec := "pointFlips", inPlace := ["sync/atomic.LoadInt64", "sync/atomic.CompareAndSwapInt64"], unfollowed := true, recurses := true, apart := false, narrowed := true }
def PointFlipsUptoSaid : Prop := pointFlipsUptoRow.holds Try.pinned (OpenSpec.upto pointFlipsSpec)

/-- 'jalousielaw24.PointPlaces', WHERE WHAT IT READS IS OF BULK AT MOST 1048576: true; the input reads as it did. -/
def pointPlacesUptoRow : OpenClaim := { program := "ytjfccilmlmimaaa", sum := "bd917b8291447d00ff837c1cef7e50e170596d7acbc96ded41c6bc8f33bfb248", func := "jalousie/jalousielaw24.PointPlaces", spec := "pointPlaces", inPlace := ["sync/atomic.LoadInt64", "sync/atomic.CompareAndSwapInt64"], unfollowed := true, recurses := true, apart := false, narrowed := true }
def PointPlacesUptoSaid : Prop := pointPlacesUptoRow.holds Try.pinned (OpenSpec.upto pointPlacesSpec)

/-- 'jalousielaw24.PointTrues', WHERE WHAT IT READS IS OF BULK AT MOST 1048576: true; the input reads as it did. -/
def pointTruesUptoRow : OpenClaim := { program := "ytjfccilmlmimaaa", sum := "bd917b8291447d00ff837c1cef7e50e170596d7acbc96ded41c6bc8f33bfb248", func := "jalousie/jalousielaw24.PointTrues", spec := "pointTrues", inPlace := ["sync/atomic.LoadInt64", "sync/atomic.CompareAndSwapInt64"], unfollowed := true, recurses := true, apart := false, narrowed := true }
def PointTruesUptoSaid : Prop := pointTruesUptoRow.holds Try.pinned (OpenSpec.upto pointTruesSpec)

/-- 'jalousielaw24.PointWays', WHERE WHAT IT READS IS OF BULK AT MOST 1048576: true; the input reads as it did. -/
def pointWaysUptoRow : OpenClaim := { program := "ytjfccilmlmimaaa", sum := "bd917b8291447d00ff837c1cef7e50e170596d7acbc96ded41c6bc8f33bfb248", func := "jalousie/jalousielaw24.PointWays", spec := "pointWays", inPlace := ["sync/atomic.LoadInt64", "sync/atomic.CompareAndSwapInt64"], unfollowed := true, recurses := true, apart := false, narrowed := true }
def PointWaysUptoSaid : Prop := pointWaysUptoRow.holds Try.pinned (OpenSpec.upto pointWaysSpec)

/-- 'jalousielaw24.PointBoth', WHERE WHAT IT READS IS OF BULK AT MOST 1048576: true; the input reads as it did. -/
def pointBothUptoRow : OpenClaim := { program := "ytjfccilmlmimaaa", sum := "bd917b8291447d00ff837c1cef7e50e170596d7acbc96ded41c6bc8f33bfb248", func := "jalousie/jalousielaw24.PointBoth", spec := "pointBoth", inPlace := ["sync/atomic.LoadInt64", "sync/atomic.CompareAndSwapInt64"], unfollowed := true, recurses := true, apart := false, narrowed := true }
def PointBothUptoSaid : Prop := pointBothUptoRow.holds Try.pinned (OpenSpec.upto pointBothSpec)

/-- 'jalousielaw24.PointBetween', WHERE WHAT IT READS IS OF BULK AT MOST 1048576: true; the input reads as it did. -/
def pointBetweenUptoRow : OpenClaim := { program := "ytjfccilmlmimaaa", sum := "bd917b8291447d00ff837c1cef7e50e170596d7acbc96ded41c6bc8f33bfb248", func := "jalousie/jalousielaw24.PointBetween", spec := "pointBetween", inPlace := ["sync/atomic.LoadInt64", "sync/atomic.CompareAndSwapInt64"], unfollowed := true, recurses := true, apart := false, narrowed := true }
def PointBetweenUptoSaid : Prop := pointBetweenUptoRow.holds Try.pinned (OpenSpec.upto pointBetweenSpec)

/-- 'jalousielaw24.PointFew', WHERE WHAT IT READS IS OF BULK AT MOST 1048576: true; the input reads as it did. -/
def pointFewUptoRow : OpenClaim := { program := "ytjfccilmlmimaaa", sum := "bd917b8291447d00ff837c1cef7e50e170596d7acbc96ded41c6bc8f33bfb248", func := "jalousie/jalousielaw24.PointFew", spec := "pointFew", inPlace := ["sync/atomic.LoadInt64", "sync/atomic.CompareAndSwapInt64"], unfollowed := true, recurses := true, apart := false, narrowed := true }
def PointFewUptoSaid : Prop := pointFewUptoRow.holds Try.pinned (OpenSpec.upto pointFewSpec)

end Rows
end Go.Proofs.Ytjfccilmlmimaaa
