/-
  NARROWER THAN 'FOR EVERY INPUT', by the rows' own cells (each row's printed sentence says how): NormForms: loops · NormNumbers: loops · NormWhole: loops · NormBrackets: loops · NormScales: loops · NormAdds: loops · NormPicks: loops · NormTwice: loops · UnitPx: loops · UnitHidden: loops · UnitLinear: loops · UnitDirect: loops.
  DERIVED. THE GIVEN ROWS OF THIS SEAT. 13 by the template 'for every input the law returns true; each argument reads behind the call as it read before'; 0 by the template 'total and deterministic' (their statements: YthmicnjigfcljaaTotals.lean).
  GIVEN WITH THE SEED: the statements are not yours to turn. If you find one false, say at which input.
  Laid BY PROGRAM, IN A SANDBOX (cutbox-rows.mjs): the forced cells as the released guide's own fill.sh prints them over the translation 130f8d450592e1d3… (all of the seat's roots in one cut). By AI agents, Wed Nov 11 2026. No macro, syntax, notation, axiom, sorry.
-/
import Derived.Test.YthmicnjigfcljaaChecked
import GoSem.Claim
import GoSem.ClaimJoined
import GoSem.ClaimMapViews
import Derived.JoinedTies
import Derived.KernelRfl
namespace Go.Proofs.Ythmicnjigfcljaa
/- THE CELL 'sum', in the pinned program and in every row, IS THE sha256 OF THE DUMP (.gsa) THAT YthmicnjigfcljaaProg.lean LOADS. Nothing in Lean hashes anything: it is a label: what it is worth is what the hold of that sum in a sandbox is worth. -/
noncomputable def Try.pinned : Pinned := { name := "ythmicnjigfcljaa", sum := "130f8d450592e1d37871140bfac70a819cca95307493b02e6f5c555649d45e2d", checked := Try.checked }
namespace Rows
def none {H : Type} : Left H := { results := [], args := [] }

/-- 'jalousielaw12.NormForms': WHATEVER THE INPUT: true; the input reads as it did. -/
def normFormsSpec : ChangeSpec := { name := "normForms", fn := fun _ => fun
  | [d] => { results := [.lit (.bool true)], args := [d] }
  | _ => none }
def normFormsRow : OpenClaim := { program := "ythmicnjigfcljaa", sum := "130f8d450592e1d37871140bfac70a819cca95307493b02e6f5c555649d45e2d", func := "jalousie/jalousielaw12.NormForms", spec := "normForms", inPlace := ["math/bits.Add64", "math/bits.Sub64"], unfollowed := true, recurses := true, named := ["math/bits.divideError", "math/bits.overflowError"], loops := true, apart := false }
def NormFormsSaid : Prop := normFormsRow.holds Try.pinned (OpenSpec.ofChange normFormsSpec)

/-- ITS FALSE NEIGHBOUR: 'it returns false'. Refute it at one input. -/
def normFormsWrong : ChangeSpec := { name := "normForms", fn := fun _ => fun
  | [d] => { results := [.lit (.bool false)], args := [d] }
  | _ => none }
def NormFormsWrongFalsely : Prop := normFormsRow.holds Try.pinned (OpenSpec.ofChange normFormsWrong)

/-- 'jalousielaw12.NormNumbers': WHATEVER THE INPUT: true; the input reads as it did. -/
def normNumbersSpec : ChangeSpec := { name := "normNumbers", fn := fun _ => fun
  | [d] => { results := [.lit (.bool true)], args := [d] }
  | _ => none }
def normNumbersRow : OpenClaim := { program := "ythmicnjigfcljaa", sum := "130f8d450592e1d37871140bfac70a819cca95307493b02e6f5c555649d45e2d", func := "jalousie/jalousielaw12.NormNumbers", spec := "normNumbers", inPlace := ["math/bits.Add64", "math/bits.Sub64"], unfollowed := true, recurses := true, named := ["math/bits.divideError", "math/bits.overflowError"], loops := true, apart := false }
def NormNumbersSaid : Prop := normNumbersRow.holds Try.pinned (OpenSpec.ofChange normNumbersSpec)

/-- ITS FALSE NEIGHBOUR: 'it returns false'. Refute it at one input. -/
def normNumbersWrong : ChangeSpec := { name := "normNumbers", fn := fun _ => fun
  | [d] => { results := [.lit (.bool false)], args := [d] }
  | _ => none }
def NormNumbersWrongFalsely : Prop := normNumbersRow.holds Try.pinned (OpenSpec.ofChange normNumbersWrong)

/-- 'jalousielaw12.NormWhole': WHATEVER THE INPUT: true; the input reads as it did. -/
def normWholeSpec : ChangeSpec := { name := "normWhole", fn := fun _ => fun
  | [d] => { results := [.lit (.bool true)], args := [d] }
  | _ => none }
def normWholeRow : OpenClaim := { program := "ythmicnjigfcljaa", sum := "130f8d450592e1d37871140bfac70a819cca95307493b02e6f5c555649d45e2d", func := "jalousie/jalousielaw12.NormWhole", spec := "normWhole", inPlace := ["math/bits.Add64", "math/bits.Sub64"], unfollowed := true, recurses := true, named := ["math/bits.divideError", "math/bits.overflowError"], loops := true, apart := false }
def NormWholeSaid : Prop := normWholeRow.holds Try.pinned (OpenSpec.ofChange normWholeSpec)

/-- ITS FALSE NEIGHBOUR: 'it returns false'. Refute it at one input. -/
def normWholeWrong : ChangeSpec := { name := "normWhole", fn := fun _ => fun
  | [d] => { results := [.lit (.bool false)], args := [d] }
  | _ => none }
def NormWholeWrongFalsely : Prop := normWholeRow.holds Try.pinned (OpenSpec.ofChange normWholeWrong)

/-- 'jalousielaw12.NormBrackets': WHATEVER THE INPUT: true; the input reads as it did. -/
def normBracketsSpec : ChangeSpec := { name := "normBrackets", fn := fun _ => fun
  | [d1, d2, d3] => { results := [.lit (.bool true)], args := [d1, d2, d3] }
  | _ => none }
def normBracketsRow : OpenClaim := { program := "ythmicnjigfcljaa", sum := "130f8d450592e1d37871140bfac70a819cca95307493b02e6f5c555649d45e2d", func := "jalousie/jalousielaw12.NormBrackets", spec := "normBrackets", inPlace := ["math/bits.Add64", "math/bits.Sub64"], unfollowed := true, recurses := true, named := ["math/bits.divideError", "math/bits.overflowError"], loops := true, apart := false }
def NormBracketsSaid : Prop := normBracketsRow.holds Try.pinned (OpenSpec.ofChange normBracketsSpec)

/-- ITS FALSE NEIGHBOUR: 'it returns false'. Refute it at one input. -/
def normBracketsWrong : ChangeSpec := { name := "normBrackets", fn := fun _ => fun
  | [d1, d2, d3] => { results := [.lit (.bool false)], args := [d1, d2, d3] }
  | _ => none }
def NormBracketsWrongFalsely : Prop := normBracketsRow.holds Try.pinned (OpenSpec.ofChange normBracketsWrong)

/-- 'jalousielaw12.NormScales': WHATEVER THE INPUT: true; the input reads as it did. -/
def normScalesSpec : ChangeSpec := { name := "normScales", fn := fun _ => fun
  | [d1, d2] => { results := [.lit (.bool true)], args := [d1, d2] }
  | _ => none }
def normScalesRow : OpenClaim := { program := "ythmicnjigfcljaa", sum := "130f8d450592e1d37871140bfac70a819cca95307493b02e6f5c555649d45e2d", func := "jalousie/jalousielaw12.NormScales", spec := "normScales", inPlace := ["math/bits.Sub64", "math/bits.Add64"], unfollowed := true, recurses := true, named := ["math/bits.divideError", "math/bits.overflowError"], loops := true, apart := false }
def NormScalesSaid : Prop := normScalesRow.holds Try.pinned (OpenSpec.ofChange normScalesSpec)

/-- ITS FALSE NEIGHBOUR: 'it returns false'. Refute it at one input. -/
def normScalesWrong : ChangeSpec := { name := "normScales", fn := fun _ => fun
  | [d1, d2] => { results := [.lit (.bool false)], args := [d1, d2] }
  | _ => none }
def NormScalesWrongFalsely : Prop := normScalesRow.holds Try.pinned (OpenSpec.ofChange normScalesWrong)

/-- 'jalousielaw12.NormAdds': WHATEVER THE INPUT: true; the input reads as it did. -/
def normAddsSpec : ChangeSpec := { name := "normAdds", fn := fun _ => fun
  | [d1, d2, d3] => { results := [.lit (.bool true)], args := [d1, d2, d3] }
  | _ => none }
def normAddsRow : OpenClaim := { program := "ythmicnjigfcljaa", sum := "130f8d450592e1d37871140bfac70a819cca95307493b02e6f5c555649d45e2d", func := "jalousie/jalousielaw12.NormAdds", spec := "normAdds", inPlace := ["math/bits.Add64", "math/bits.Sub64"], unfollowed := true, recurses := true, named := ["math/bits.divideError", "math/bits.overflowError"], loops := true, apart := false }
def NormAddsSaid : Prop := normAddsRow.holds Try.pinned (OpenSpec.ofChange normAddsSpec)

/-- ITS FALSE NEIGHBOUR: 'it returns false'. Refute it at one input. -/
def normAddsWrong : ChangeSpec := { name := "normAdds", fn := fun _ => fun
  | [d1, d2, d3] => { results := [.lit (.bool false)], args := [d1, d2, d3] }
  | _ => none }
def NormAddsWrongFalsely : Prop := normAddsRow.holds Try.pinned (OpenSpec.ofChange normAddsWrong)

/-- 'jalousielaw12.NormPicks': WHATEVER THE INPUT: true; the input reads as it did. -/
def normPicksSpec : ChangeSpec := { name := "normPicks", fn := fun _ => fun
  | [d1, d2] => { results := [.lit (.bool true)], args := [d1, d2] }
  | _ => none }
def normPicksRow : OpenClaim := { program := "ythmicnjigfcljaa", sum := "130f8d450592e1d37871140bfac70a819cca95307493b02e6f5c555649d45e2d", func := "jalousie/jalousielaw12.NormPicks", spec := "normPicks", inPlace := ["math/bits.Add64", "math/bits.Sub64"], unfollowed := true, recurses := true, named := ["math/bits.divideError", "math/bits.overflowError"], loops := true, apart := false }
def NormPicksSaid : Prop := normPicksRow.holds Try.pinned (OpenSpec.ofChange normPicksSpec)

/-- ITS FALSE NEIGHBOUR: 'it returns false'. Refute it at one input. -/
def normPicksWrong : ChangeSpec := { name := "normPicks", fn := fun _ => fun
  | [d1, d2] => { results := [.lit (.bool false)], args := [d1, d2] }
  | _ => none }
def NormPicksWrongFalsely : Prop := normPicksRow.holds Try.pinned (OpenSpec.ofChange normPicksWrong)

/-- 'jalousielaw12.NormTwice': WHATEVER THE INPUT: true; the input reads as it did. -/
def normTwiceSpec : ChangeSpec := { name := "normTwice", fn := fun _ => fun
  | [d1, d2] => { results := [.lit (.bool true)], args := [d1, d2] }
  | _ => none }
def normTwiceRow : OpenClaim := { program := "ythmicnjigfcljaa", sum := "130f8d450592e1d37871140bfac70a819cca95307493b02e6f5c555649d45e2d", func := "jalousie/jalousielaw12.NormTwice", spec := "normTwice", inPlace := ["math/bits.Add64", "math/bits.Sub64"], unfollowed := true, recurses := true, named := ["math/bits.divideError", "math/bits.overflowError"], loops := true, apart := false }
def NormTwiceSaid : Prop := normTwiceRow.holds Try.pinned (OpenSpec.ofChange normTwiceSpec)

/-- ITS FALSE NEIGHBOUR: 'it returns false'. Refute it at one input. -/
def normTwiceWrong : ChangeSpec := { name := "normTwice", fn := fun _ => fun
  | [d1, d2] => { results := [.lit (.bool false)], args := [d1, d2] }
  | _ => none }
def NormTwiceWrongFalsely : Prop := normTwiceRow.holds Try.pinned (OpenSpec.ofChange normTwiceWrong)

/-- 'jalousielaw13.UnitPx': WHATEVER THE INPUT: true; the input reads as it did. -/
def unitPxSpec : ChangeSpec := { name := "unitPx", fn := fun _ => fun
  | [d1, d2] => { results := [.lit (.bool true)], args := [d1, d2] }
  | _ => none }
def unitPxRow : OpenClaim := { program := "ythmicnjigfcljaa", sum := "130f8d450592e1d37871140bfac70a819cca95307493b02e6f5c555649d45e2d", func := "jalousie/jalousielaw13.UnitPx", spec := "unitPx", inPlace := ["math/bits.Sub64", "math/bits.Add64"], unfollowed := true, recurses := true, named := ["math/bits.divideError", "math/bits.overflowError"], loops := true, apart := false }
def UnitPxSaid : Prop := unitPxRow.holds Try.pinned (OpenSpec.ofChange unitPxSpec)

/-- ITS FALSE NEIGHBOUR: 'it returns false'. Refute it at one input. -/
def unitPxWrong : ChangeSpec := { name := "unitPx", fn := fun _ => fun
  | [d1, d2] => { results := [.lit (.bool false)], args := [d1, d2] }
  | _ => none }
def UnitPxWrongFalsely : Prop := unitPxRow.holds Try.pinned (OpenSpec.ofChange unitPxWrong)

/-- 'jalousielaw13.UnitHidden': WHATEVER THE INPUT: true; the input reads as it did. -/
def unitHiddenSpec : ChangeSpec := { name := "unitHidden", fn := fun _ => fun
  | [d1, d2, d3] => { results := [.lit (.bool true)], args := [d1, d2, d3] }
  | _ => none }
def unitHiddenRow : OpenClaim := { program := "ythmicnjigfcljaa", sum := "130f8d450592e1d37871140bfac70a819cca95307493b02e6f5c555649d45e2d", func := "jalousie/jalousielaw13.UnitHidden", spec := "unitHidden", inPlace := ["math/bits.Add64", "math/bits.Sub64"], unfollowed := true, recurses := true, named := ["math/bits.divideError", "math/bits.overflowError"], loops := true, apart := false }
def UnitHiddenSaid : Prop := unitHiddenRow.holds Try.pinned (OpenSpec.ofChange unitHiddenSpec)

/-- ITS FALSE NEIGHBOUR: 'it returns false'. Refute it at one input. -/
def unitHiddenWrong : ChangeSpec := { name := "unitHidden", fn := fun _ => fun
  | [d1, d2, d3] => { results := [.lit (.bool false)], args := [d1, d2, d3] }
  | _ => none }
def UnitHiddenWrongFalsely : Prop := unitHiddenRow.holds Try.pinned (OpenSpec.ofChange unitHiddenWrong)

/-- 'jalousielaw13.UnitLinear': WHATEVER THE INPUT: true; the input reads as it did. -/
def unitLinearSpec : ChangeSpec := { name := "unitLinear", fn := fun _ => fun
  | [d1, d2, d3, d4] => { results := [.lit (.bool true)], args := [d1, d2, d3, d4] }
  | _ => none }
def unitLinearRow : OpenClaim := { program := "ythmicnjigfcljaa", sum := "130f8d450592e1d37871140bfac70a819cca95307493b02e6f5c555649d45e2d", func := "jalousie/jalousielaw13.UnitLinear", spec := "unitLinear", inPlace := ["math/bits.Add64", "math/bits.Sub64"], unfollowed := true, recurses := true, named := ["math/bits.divideError", "math/bits.overflowError"], loops := true, apart := false }
def UnitLinearSaid : Prop := unitLinearRow.holds Try.pinned (OpenSpec.ofChange unitLinearSpec)

/-- ITS FALSE NEIGHBOUR: 'it returns false'. Refute it at one input. -/
def unitLinearWrong : ChangeSpec := { name := "unitLinear", fn := fun _ => fun
  | [d1, d2, d3, d4] => { results := [.lit (.bool false)], args := [d1, d2, d3, d4] }
  | _ => none }
def UnitLinearWrongFalsely : Prop := unitLinearRow.holds Try.pinned (OpenSpec.ofChange unitLinearWrong)

/-- 'jalousielaw13.UnitSizes': WHATEVER THE INPUT: true; the input reads as it did. -/
def unitSizesSpec : ChangeSpec := { name := "unitSizes", fn := fun _ => fun
  | [d1, d2, d3] => { results := [.lit (.bool true)], args := [d1, d2, d3] }
  | _ => none }
def unitSizesRow : OpenClaim := { program := "ythmicnjigfcljaa", sum := "130f8d450592e1d37871140bfac70a819cca95307493b02e6f5c555649d45e2d", func := "jalousie/jalousielaw13.UnitSizes", spec := "unitSizes", inPlace := ["math/bits.Add64", "math/bits.Sub64"], unfollowed := true, recurses := true, named := ["math/bits.divideError", "math/bits.overflowError"], apart := false }
def UnitSizesSaid : Prop := unitSizesRow.holds Try.pinned (OpenSpec.ofChange unitSizesSpec)

/-- ITS FALSE NEIGHBOUR: 'it returns false'. Refute it at one input. -/
def unitSizesWrong : ChangeSpec := { name := "unitSizes", fn := fun _ => fun
  | [d1, d2, d3] => { results := [.lit (.bool false)], args := [d1, d2, d3] }
  | _ => none }
def UnitSizesWrongFalsely : Prop := unitSizesRow.holds Try.pinned (OpenSpec.ofChange unitSizesWrong)

/-- 'jalousielaw13.UnitDirect': WHATEVER THE INPUT: true; the input reads as it did. -/
def unitDirectSpec : ChangeSpec := { name := "unitDirect", fn := fun _ => fun
  | [d1, d2] => { results := [.lit (.bool true)], args := [d1, d2] }
  | _ => none }
def unitDirectRow : OpenClaim := { program := "ythmicnjigfcljaa", sum := "130f8d450592e1d37871140bfac70a819cca95307493b02e6f5c555649d45e2d", func := "jalousie/jalousielaw13.UnitDirect", spec := "unitDirect", inPlace := ["math/bits.Add64", "math/bits.Sub64"], unfollowed := true, recurses := true, named := ["math/bits.divideError", "math/bits.overflowError"], loops := true, apart := false }
def UnitDirectSaid : Prop := unitDirectRow.holds Try.pinned (OpenSpec.ofChange unitDirectSpec)

/-- ITS FALSE NEIGHBOUR: 'it returns false'. Refute it at one input. -/
def unitDirectWrong : ChangeSpec := { name := "unitDirect", fn := fun _ => fun
  | [d1, d2] => { results := [.lit (.bool false)], args := [d1, d2] }
  | _ => none }
def UnitDirectWrongFalsely : Prop := unitDirectRow.holds Try.pinned (OpenSpec.ofChange unitDirectWrong)

/- THE SECOND FORM. 'bulk': how many values and letters a reading holds, each counted each time it is reached (what is shared counts as often as it is met; a slice's spare places count too). A statement '..UptoSaid' is the law's where the arguments, and the package variables that the reading takes, are together of bulk at most 1048576: NARROWER than '..Said'. Prove '..Said' where nothing that the law and all that it calls make is longer than what came in: it says more and counts as full. Else prove '..UptoSaid'. A law counts once. -/
mutual
def uptoBulk {H : Type} : DataW H → Nat
  | .lit (.string bytes) => bytes.length + 1
  | .lit _ => 1
  | .nil => 1
  | .ptr d => uptoBulk d + 1
  | .slice elems spare => uptoBulkAll elems + uptoBulkAll spare + 1
  | .agg parts => uptoBulkAll parts + 1
  | .iface _ d => uptoBulk d + 1
  | .map entries => uptoBulkEntries entries + 1
  | .held _ => 1
def uptoBulkAll {H : Type} : List (DataW H) → Nat
  | [] => 0
  | d :: r => uptoBulk d + uptoBulkAll r
def uptoBulkEntries {H : Type} : List (Lit × DataW H) → Nat
  | [] => 0
  | x :: r => uptoBulkEntry x + uptoBulkEntries r
def uptoBulkEntry {H : Type} : Lit × DataW H → Nat
  | (.string bytes, d) => bytes.length + uptoBulk d + 1
  | (_, d) => uptoBulk d + 1
 end
def uptoSmall : (H : Type) → List (DataW H) → Bool := fun _ ds => decide (uptoBulkAll ds ≤ 1048576)
def OpenSpec.upto (s : _root_.Go.ChangeSpec) : _root_.Go.OpenSpec := { _root_.Go.OpenSpec.ofChange s with cond := some uptoSmall }

/-- 'jalousielaw12.NormForms', WHERE WHAT IT READS IS OF BULK AT MOST 1048576: true; the input reads as it did. -/
def normFormsUptoRow : OpenClaim := { program := "ythmicnjigfcljaa", sum := "130f8d450592e1d37871140bfac70a819cca95307493b02e6f5c555649d45e2d", func := "jalousie/jalousielaw12.NormForms", spec := "normForms", inPlace := ["math/bits.Add64", "math/bits.Sub64"], unfollowed := true, recurses := true, named := ["math/bits.divideError", "math/bits.overflowError"], loops := true, apart := false, narrowed := true }
def NormFormsUptoSaid : Prop := normFormsUptoRow.holds Try.pinned (OpenSpec.upto normFormsSpec)

/-- 'jalousielaw12.NormNumbers', WHERE WHAT IT READS IS OF BULK AT MOST 1048576: true; the input reads as it did. -/
def normNumbersUptoRow : OpenClaim := { program := "ythmicnjigfcljaa", sum := "130f8d450592e1d37871140bfac70a819cca95307493b02e6f5c555649d45e2d", func := "jalousie/jalousielaw12.NormNumbers", spec := "normNumbers", inPlace := ["math/bits.Add64", "math/bits.Sub64"], unfollowed := true, recurses := true, named := ["math/bits.divideError", "math/bits.overflowError"], loops := true, apart := false, narrowed := true }
def NormNumbersUptoSaid : Prop := normNumbersUptoRow.holds Try.pinned (OpenSpec.upto normNumbersSpec)

/-- 'jalousielaw12.NormWhole', WHERE WHAT IT READS IS OF BULK AT MOST 1048576: true; the input reads as it did. -/
def normWholeUptoRow : OpenClaim := { program := "ythmicnjigfcljaa", sum := "130f8d450592e1d37871140bfac70a819cca95307493b02e6f5c555649d45e2d", func := "jalousie/jalousielaw12.NormWhole", spec := "normWhole", inPlace := ["math/bits.Add64", "math/bits.Sub64"], unfollowed := true, recurses := true, named := ["math/bits.divideError", "math/bits.overflowError"], loops := true, apart := false, narrowed := true }
def NormWholeUptoSaid : Prop := normWholeUptoRow.holds Try.pinned (OpenSpec.upto normWholeSpec)

/-- 'jalousielaw12.NormBrackets', WHERE WHAT IT READS IS OF BULK AT MOST 1048576: true; the input reads as it did. -/
def normBracketsUptoRow : OpenClaim := { program := "ythmicnjigfcljaa", sum := "130f8d450592e1d37871140bfac70a819cca95307493b02e6f5c555649d45e2d", func := "jalousie/jalousielaw12.NormBrackets", spec := "normBrackets", inPlace := ["math/bits.Add64", "math/bits.Sub64"], unfollowed := true, recurses := true, named := ["math/bits.divideError", "math/bits.overflowError"], loops := true, apart := false, narrowed := true }
def NormBracketsUptoSaid : Prop := normBracketsUptoRow.holds Try.pinned (OpenSpec.upto normBracketsSpec)

/-- 'jalousielaw12.NormScales', WHERE WHAT IT READS IS OF BULK AT MOST 1048576: true; the input reads as it did. -/
def normScalesUptoRow : OpenClaim := { program := "ythmicnjigfcljaa", sum := "130f8d450592e1d37871140bfac70a819cca95307493b02e6f5c555649d45e2d", func := "jalousie/jalousielaw12.NormScales", spec := "normScales", inPlace := ["math/bits.Sub64", "math/bits.Add64"], unfollowed := true, recurses := true, named := ["math/bits.divideError", "math/bits.overflowError"], loops := true, apart := false, narrowed := true }
def NormScalesUptoSaid : Prop := normScalesUptoRow.holds Try.pinned (OpenSpec.upto normScalesSpec)

/-- 'jalousielaw12.NormAdds', WHERE WHAT IT READS IS OF BULK AT MOST 1048576: true; the input reads as it did. -/
def normAddsUptoRow : OpenClaim := { program := "ythmicnjigfcljaa", sum := "130f8d450592e1d37871140bfac70a819cca95307493b02e6f5c555649d45e2d", func := "jalousie/jalousielaw12.NormAdds", spec := "normAdds", inPlace := ["math/bits.Add64", "math/bits.Sub64"], unfollowed := true, recurses := true, named := ["math/bits.divideError", "math/bits.overflowError"], loops := true, apart := false, narrowed := true }
def NormAddsUptoSaid : Prop := normAddsUptoRow.holds Try.pinned (OpenSpec.upto normAddsSpec)

/-- 'jalousielaw12.NormPicks', WHERE WHAT IT READS IS OF BULK AT MOST 1048576: true; the input reads as it did. -/
def normPicksUptoRow : OpenClaim := { program := "ythmicnjigfcljaa", sum := "130f8d450592e1d37871140bfac70a819cca95307493b02e6f5c555649d45e2d", func := "jalousie/jalousielaw12.NormPicks", spec := "normPicks", inPlace := ["math/bits.Add64", "math/bits.Sub64"], unfollowed := true, recurses := true, named := ["math/bits.divideError", "math/bits.overflowError"], loops := true, apart := false, narrowed := true }
def NormPicksUptoSaid : Prop := normPicksUptoRow.holds Try.pinned (OpenSpec.upto normPicksSpec)

/-- 'jalousielaw12.NormTwice', WHERE WHAT IT READS IS OF BULK AT MOST 1048576: true; the input reads as it did. -/
def normTwiceUptoRow : OpenClaim := { program := "ythmicnjigfcljaa", sum := "130f8d450592e1d37871140bfac70a819cca95307493b02e6f5c555649d45e2d", func := "jalousie/jalousielaw12.NormTwice", spec := "normTwice", inPlace := ["math/bits.Add64", "math/bits.Sub64"], unfollowed := true, recurses := true, named := ["math/bits.divideError", "math/bits.overflowError"], loops := true, apart := false, narrowed := true }
def NormTwiceUptoSaid : Prop := normTwiceUptoRow.holds Try.pinned (OpenSpec.upto normTwiceSpec)

/-- 'jalousielaw13.UnitPx', WHERE WHAT IT READS IS OF BULK AT MOST 1048576: true; the input reads as it did. -/
def unitPxUptoRow : OpenClaim := { program := "ythmicnjigfcljaa", sum := "130f8d450592e1d37871140bfac70a819cca95307493b02e6f5c555649d45e2d", func := "jalousie/jalousielaw13.UnitPx", spec := "unitPx", inPlace := ["math/bits.Sub64", "math/bits.Add64"], unfollowed := true, recurses := true, named := ["math/bits.divideError", "math/bits.overflowError"], loops := true, apart := false, narrowed := true }
def UnitPxUptoSaid : Prop := unitPxUptoRow.holds Try.pinned (OpenSpec.upto unitPxSpec)

/-- 'jalousielaw13.UnitHidden', WHERE WHAT IT READS IS OF BULK AT MOST 1048576: true; the input reads as it did. -/
def unitHiddenUptoRow : OpenClaim := { program := "ythmicnjigfcljaa", sum := "130f8d450592e1d37871140bfac70a819cca95307493b02e6f5c555649d45e2d", func := "jalousie/jalousielaw13.UnitHidden", spec := "unitHidden", inPlace := ["math/bits.Add64", "math/bits.Sub64"], unfollowed := true, recurses := true, named := ["math/bits.divideError", "math/bits.overflowError"], loops := true, apart := false, narrowed := true }
def UnitHiddenUptoSaid : Prop := unitHiddenUptoRow.holds Try.pinned (OpenSpec.upto unitHiddenSpec)

/-- 'jalousielaw13.UnitLinear', WHERE WHAT IT READS IS OF BULK AT MOST 1048576: true; the input reads as it did. -/
def unitLinearUptoRow : OpenClaim := { program := "ythmicnjigfcljaa", sum := "130f8d450592e1d37871140bfac70a819cca95307493b02e6f5c555649d45e2d", func := "jalousie/jalousielaw13.UnitLinear", spec := "unitLinear", inPlace := ["math/bits.Add64", "math/bits.Sub64"], unfollowed := true, recurses := true, named := ["math/bits.divideError", "math/bits.overflowError"], loops := true, apart := false, narrowed := true }
def UnitLinearUptoSaid : Prop := unitLinearUptoRow.holds Try.pinned (OpenSpec.upto unitLinearSpec)

/-- 'jalousielaw13.UnitSizes', WHERE WHAT IT READS IS OF BULK AT MOST 1048576: true; the input reads as it did. -/
def unitSizesUptoRow : OpenClaim := { program := "ythmicnjigfcljaa", sum := "130f8d450592e1d37871140bfac70a819cca95307493b02e6f5c555649d45e2d", func := "jalousie/jalousielaw13.UnitSizes", spec := "unitSizes", inPlace := ["math/bits.Add64", "math/bits.Sub64"], unfollowed := true, recurses := true, named := ["math/bits.divideError", "math/bits.overflowError"], apart := false, narrowed := true }
def UnitSizesUptoSaid : Prop := unitSizesUptoRow.holds Try.pinned (OpenSpec.upto unitSizesSpec)

/-- 'jalousielaw13.UnitDirect', WHERE WHAT IT READS IS OF BULK AT MOST 1048576: true; the input reads as it did. -/
def unitDirectUptoRow : OpenClaim := { program := "ythmicnjigfcljaa", sum := "130f8d450592e1d37871140bfac70a819cca95307493b02e6f5c555649d45e2d", func := "jalousie/jalousielaw13.UnitDirect", spec := "unitDirect", inPlace := ["math/bits.Add64", "math/bits.Sub64"], unfollowed := true, recurses := true, named := ["math/bits.divideError", "math/bits.overflowError"], loops := true, apart := false, narrowed := true }
def UnitDirectUptoSaid : Prop := unitDirectUptoRow.holds Try.pinned (OpenSpec.upto unitDirectSpec)

end Rows
end Go.Proofs.Ythmicnjigfcljaa
