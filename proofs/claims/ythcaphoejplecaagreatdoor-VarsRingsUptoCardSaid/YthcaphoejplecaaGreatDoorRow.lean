/- LAWS over any program: a whole row loaded and stored, where its block is known. No condition. -/
import Derived.Laws.Rows
import Derived.Laws.Tables
import Derived.Test.YthcaphoejplecaaGreatDoorKit
set_option linter.unusedSimpArgs false
set_option linter.unusedVariables false
namespace Go
open Go.RowKit

/-- a block of n cells -/
def rowOk (n : Nat) : Option Obj → Bool
  | some (.cells cs _ _) => cs.size == n
  | _ => false
/-- a block of n cells that may be written -/
def rowOkW (n : Nat) : Option Obj → Bool
  | some (.cells cs _ (0, 0)) => cs.size == n
  | _ => false
/-- what it holds -/
def rowV : Option Obj → Value
  | some (.cells cs _ _) => .agg cs
  | _ => undef
@[go_sem] theorem rowOk_some (n : Nat) (l : List Value) (t : TypeId) (fr : Nat × Nat) : rowOk n (some (.cells l.toArray t fr)) = (l.length == n) := by simp [rowOk]
@[go_sem] theorem rowOkW_some (n : Nat) (l : List Value) (t : TypeId) : rowOkW n (some (.cells l.toArray t)) = (l.length == n) := by simp [rowOkW]
@[go_sem] theorem rowV_some (cs : Array Value) (t : TypeId) (fr : Nat × Nat) : rowV (some (.cells cs t fr)) = .agg cs := rfl

/-- the block g -/
def World.row (w : World) (g : Nat) : Option Obj := w.heap[g]?
theorem run_loadVar_rowV {P : Program} {w : World} {g : Nat} {ty : TypeId} {n : Nat} {d : TypeDesc} (hu : P.underlying ty = some d) (hd : (match d with | .struct _ | .array _ _ => true | _ => false) = true)
    (hi : (P.info? ty).map (·.size) = some n) (h : rowOk n (w.row g) = true) : (loadVar ty ⟨g, 0, none⟩).run P w = .ok (rowV (w.row g)) w := by
  unfold rowOk at h
  split at h
  · rename_i cs t fr hg
    rw [hg, rowV_some]
    exact run_loadVar_row w g t ty cs fr d (by simpa [World.row] using hg) hu hd (by rw [hi, beq_iff_eq.1 h])
  · cases h
theorem run_storeVar_rowV {P : Program} {w : World} {g : Nat} {ty : TypeId} {n : Nat} {l : List Value}
    (hi : (P.info? ty).map (·.size) = some n) (h1 : (l.length == n && l.all (·.oneCell')) = true) (h : rowOkW n (w.row g) = true) : (storeVar ty ⟨g, 0, none⟩ (.agg l.toArray)).run P w = .ok () (w.setRow g l.toArray) := by
  simp only [Bool.and_eq_true, beq_iff_eq] at h1
  unfold rowOkW at h
  split at h
  · rename_i cs t hg
    have hc := beq_iff_eq.1 h
    exact run_storeVar_row w g t ty cs l.toArray (by simpa [World.row] using hg) (by rw [hi]; simp [h1.1]) (by simp [hc, h1.1]) (by simpa using h1.2)
  · cases h

/-! sizes -/
@[go_sem] theorem sz1 {a : Nat} : (a = a + 1 + 1) = False := by apply eq_false; omega
@[go_sem] theorem sz2 {a : Nat} : (a < a + 1 + 1) = True := by apply eq_true; omega
@[go_sem] theorem sz3 {a : Nat} : (a = a + 1 + 1 + 1) = False := by apply eq_false; omega
@[go_sem] theorem sz4 {a : Nat} : (a < a + 1 + 1 + 1) = True := by apply eq_true; omega
@[go_sem] theorem sz5 {a : Nat} : (a = a + 1 + 1 + 1 + 1) = False := by apply eq_false; omega
@[go_sem] theorem sz6 {a : Nat} : (a < a + 1 + 1 + 1 + 1) = True := by apply eq_true; omega
@[go_sem] theorem sz7 {a : Nat} : (a = a + 1 + 1 + 1 + 1 + 1) = False := by apply eq_false; omega
@[go_sem] theorem sz8 {a : Nat} : (a < a + 1 + 1 + 1 + 1 + 1) = True := by apply eq_true; omega
@[go_sem] theorem sz9 {a : Nat} : (a = a + 1 + 1 + 1 + 1 + 1 + 1) = False := by apply eq_false; omega
@[go_sem] theorem sz10 {a : Nat} : (a < a + 1 + 1 + 1 + 1 + 1 + 1) = True := by apply eq_true; omega
@[go_sem] theorem sz11 {a : Nat} : (a = a + 1 + 1 + 1 + 1 + 1 + 1 + 1) = False := by apply eq_false; omega
@[go_sem] theorem sz12 {a : Nat} : (a < a + 1 + 1 + 1 + 1 + 1 + 1 + 1) = True := by apply eq_true; omega
@[go_sem] theorem sz13 {a : Nat} : (a = a + 1 + 1 + 1 + 1 + 1 + 1 + 1 + 1) = False := by apply eq_false; omega
@[go_sem] theorem sz14 {a : Nat} : (a < a + 1 + 1 + 1 + 1 + 1 + 1 + 1 + 1) = True := by apply eq_true; omega
@[go_sem] theorem sz15 {a : Nat} : (a = a + 1 + 1 + 1 + 1 + 1 + 1 + 1 + 1 + 1) = False := by apply eq_false; omega
@[go_sem] theorem sz16 {a : Nat} : (a < a + 1 + 1 + 1 + 1 + 1 + 1 + 1 + 1 + 1) = True := by apply eq_true; omega
@[go_sem] theorem sz17 {a b : Nat} : (a = a + 1 + b) = False := by apply eq_false; omega
@[go_sem] theorem sz18 {a b : Nat} : (a = a + 1 + b + 1) = False := by apply eq_false; omega
@[go_sem] theorem sz19 {a b : Nat} : (a = a + 1 + b + 1 + 1) = False := by apply eq_false; omega
@[go_sem] theorem sz20 {a b : Nat} : (a = a + 1 + b + 1 + 1 + 1) = False := by apply eq_false; omega
@[go_sem] theorem sz21 {a b : Nat} : (a = a + 1 + 1 + b) = False := by apply eq_false; omega
@[go_sem] theorem sz22 {a b : Nat} : (a = a + 1 + 1 + b + 1) = False := by apply eq_false; omega
@[go_sem] theorem sz23 {a b : Nat} : (a = a + 1 + 1 + b + 1 + 1) = False := by apply eq_false; omega
@[go_sem] theorem sz24 {a b : Nat} : (a = a + 1 + 1 + b + 1 + 1 + 1) = False := by apply eq_false; omega
@[go_sem] theorem sz25 {a b : Nat} : (a = a + 1 + 1 + 1 + b) = False := by apply eq_false; omega
@[go_sem] theorem sz26 {a b : Nat} : (a = a + 1 + 1 + 1 + b + 1) = False := by apply eq_false; omega
@[go_sem] theorem sz27 {a b : Nat} : (a = a + 1 + 1 + 1 + b + 1 + 1) = False := by apply eq_false; omega
@[go_sem] theorem sz28 {a b : Nat} : (a = a + 1 + 1 + 1 + b + 1 + 1 + 1) = False := by apply eq_false; omega
@[go_sem] theorem sz29 {a b : Nat} : (a = a + 1 + 1 + 1 + 1 + b) = False := by apply eq_false; omega
@[go_sem] theorem sz30 {a b : Nat} : (a = a + 1 + 1 + 1 + 1 + b + 1) = False := by apply eq_false; omega
@[go_sem] theorem sz31 {a b : Nat} : (a = a + 1 + 1 + 1 + 1 + b + 1 + 1) = False := by apply eq_false; omega
@[go_sem] theorem sz32 {a b : Nat} : (a = a + 1 + 1 + 1 + 1 + b + 1 + 1 + 1) = False := by apply eq_false; omega
@[go_sem] theorem sz33 {a b : Nat} : (a = a + 1 + 1 + 1 + 1 + 1 + b) = False := by apply eq_false; omega
@[go_sem] theorem sz34 {a b : Nat} : (a = a + 1 + 1 + 1 + 1 + 1 + b + 1) = False := by apply eq_false; omega
@[go_sem] theorem sz35 {a b : Nat} : (a = a + 1 + 1 + 1 + 1 + 1 + b + 1 + 1) = False := by apply eq_false; omega
@[go_sem] theorem sz36 {a b : Nat} : (a = a + 1 + 1 + 1 + 1 + 1 + b + 1 + 1 + 1) = False := by apply eq_false; omega
@[go_sem] theorem sz37 {a b : Nat} : (a = a + 1 + 1 + 1 + 1 + 1 + 1 + b) = False := by apply eq_false; omega
@[go_sem] theorem sz38 {a b : Nat} : (a = a + 1 + 1 + 1 + 1 + 1 + 1 + b + 1) = False := by apply eq_false; omega
@[go_sem] theorem sz39 {a b : Nat} : (a = a + 1 + 1 + 1 + 1 + 1 + 1 + b + 1 + 1) = False := by apply eq_false; omega
@[go_sem] theorem sz40 {a b : Nat} : (a = a + 1 + 1 + 1 + 1 + 1 + 1 + b + 1 + 1 + 1) = False := by apply eq_false; omega
@[go_sem] theorem sz41 {a b : Nat} : (a = a + 1 + 1 + 1 + 1 + 1 + 1 + 1 + b) = False := by apply eq_false; omega
@[go_sem] theorem sz42 {a b : Nat} : (a = a + 1 + 1 + 1 + 1 + 1 + 1 + 1 + b + 1) = False := by apply eq_false; omega
@[go_sem] theorem sz43 {a b : Nat} : (a = a + 1 + 1 + 1 + 1 + 1 + 1 + 1 + b + 1 + 1) = False := by apply eq_false; omega
@[go_sem] theorem sz44 {a b : Nat} : (a = a + 1 + 1 + 1 + 1 + 1 + 1 + 1 + b + 1 + 1 + 1) = False := by apply eq_false; omega
@[go_sem] theorem sz45 {a b : Nat} : (a < a + b + 1) = True := by apply eq_true; omega
@[go_sem] theorem sz46 {a b : Nat} : (a < a + b + 1 + 1) = True := by apply eq_true; omega
@[go_sem] theorem sz47 {a b : Nat} : (a < a + b + 1 + 1 + 1) = True := by apply eq_true; omega
@[go_sem] theorem sz48 {a b : Nat} : (a < a + 1 + b) = True := by apply eq_true; omega
@[go_sem] theorem sz49 {a b : Nat} : (a < a + 1 + b + 1) = True := by apply eq_true; omega
@[go_sem] theorem sz50 {a b : Nat} : (a < a + 1 + b + 1 + 1) = True := by apply eq_true; omega
@[go_sem] theorem sz51 {a b : Nat} : (a < a + 1 + b + 1 + 1 + 1) = True := by apply eq_true; omega
@[go_sem] theorem sz52 {a b : Nat} : (a < a + 1 + 1 + b) = True := by apply eq_true; omega
@[go_sem] theorem sz53 {a b : Nat} : (a < a + 1 + 1 + b + 1) = True := by apply eq_true; omega
@[go_sem] theorem sz54 {a b : Nat} : (a < a + 1 + 1 + b + 1 + 1) = True := by apply eq_true; omega
@[go_sem] theorem sz55 {a b : Nat} : (a < a + 1 + 1 + b + 1 + 1 + 1) = True := by apply eq_true; omega
@[go_sem] theorem sz56 {a b : Nat} : (a < a + 1 + 1 + 1 + b) = True := by apply eq_true; omega
@[go_sem] theorem sz57 {a b : Nat} : (a < a + 1 + 1 + 1 + b + 1) = True := by apply eq_true; omega
@[go_sem] theorem sz58 {a b : Nat} : (a < a + 1 + 1 + 1 + b + 1 + 1) = True := by apply eq_true; omega
@[go_sem] theorem sz59 {a b : Nat} : (a < a + 1 + 1 + 1 + b + 1 + 1 + 1) = True := by apply eq_true; omega
@[go_sem] theorem sz60 {a b : Nat} : (a < a + 1 + 1 + 1 + 1 + b) = True := by apply eq_true; omega
@[go_sem] theorem sz61 {a b : Nat} : (a < a + 1 + 1 + 1 + 1 + b + 1) = True := by apply eq_true; omega
@[go_sem] theorem sz62 {a b : Nat} : (a < a + 1 + 1 + 1 + 1 + b + 1 + 1) = True := by apply eq_true; omega
@[go_sem] theorem sz63 {a b : Nat} : (a < a + 1 + 1 + 1 + 1 + b + 1 + 1 + 1) = True := by apply eq_true; omega
@[go_sem] theorem sz64 {a b : Nat} : (a < a + 1 + 1 + 1 + 1 + 1 + b) = True := by apply eq_true; omega
@[go_sem] theorem sz65 {a b : Nat} : (a < a + 1 + 1 + 1 + 1 + 1 + b + 1) = True := by apply eq_true; omega
@[go_sem] theorem sz66 {a b : Nat} : (a < a + 1 + 1 + 1 + 1 + 1 + b + 1 + 1) = True := by apply eq_true; omega
@[go_sem] theorem sz67 {a b : Nat} : (a < a + 1 + 1 + 1 + 1 + 1 + b + 1 + 1 + 1) = True := by apply eq_true; omega
@[go_sem] theorem sz68 {a b : Nat} : (a < a + 1 + 1 + 1 + 1 + 1 + 1 + b) = True := by apply eq_true; omega
@[go_sem] theorem sz69 {a b : Nat} : (a < a + 1 + 1 + 1 + 1 + 1 + 1 + b + 1) = True := by apply eq_true; omega
@[go_sem] theorem sz70 {a b : Nat} : (a < a + 1 + 1 + 1 + 1 + 1 + 1 + b + 1 + 1) = True := by apply eq_true; omega
@[go_sem] theorem sz71 {a b : Nat} : (a < a + 1 + 1 + 1 + 1 + 1 + 1 + b + 1 + 1 + 1) = True := by apply eq_true; omega
@[go_sem] theorem sz72 {a b : Nat} : (a < a + 1 + 1 + 1 + 1 + 1 + 1 + 1 + b) = True := by apply eq_true; omega
@[go_sem] theorem sz73 {a b : Nat} : (a < a + 1 + 1 + 1 + 1 + 1 + 1 + 1 + b + 1) = True := by apply eq_true; omega
@[go_sem] theorem sz74 {a b : Nat} : (a < a + 1 + 1 + 1 + 1 + 1 + 1 + 1 + b + 1 + 1) = True := by apply eq_true; omega
@[go_sem] theorem sz75 {a b : Nat} : (a < a + 1 + 1 + 1 + 1 + 1 + 1 + 1 + b + 1 + 1 + 1) = True := by apply eq_true; omega
@[go_sem] theorem sz76 {a b : Nat} : (a + 1 = a + 1 + 1 + b) = False := by apply eq_false; omega
@[go_sem] theorem sz77 {a b : Nat} : (a + 1 < a + 1 + 1 + b) = True := by apply eq_true; omega
@[go_sem] theorem sz78 {a b : Nat} : (a + 1 = a + 1 + 1 + 1 + b) = False := by apply eq_false; omega
@[go_sem] theorem sz79 {a b : Nat} : (a + 1 < a + 1 + 1 + 1 + b) = True := by apply eq_true; omega
@[go_sem] theorem sz80 {a b : Nat} : (a + 1 = a + 1 + 1 + 1 + 1 + b) = False := by apply eq_false; omega
@[go_sem] theorem sz81 {a b : Nat} : (a + 1 < a + 1 + 1 + 1 + 1 + b) = True := by apply eq_true; omega
@[go_sem] theorem sz82 {a b : Nat} : (a + 1 = a + 1 + 1 + 1 + 1 + 1 + b) = False := by apply eq_false; omega
@[go_sem] theorem sz83 {a b : Nat} : (a + 1 < a + 1 + 1 + 1 + 1 + 1 + b) = True := by apply eq_true; omega
@[go_sem] theorem sz84 {a b : Nat} : (a + 1 = a + 1 + 1 + 1 + 1 + 1 + 1 + b) = False := by apply eq_false; omega
@[go_sem] theorem sz85 {a b : Nat} : (a + 1 < a + 1 + 1 + 1 + 1 + 1 + 1 + b) = True := by apply eq_true; omega
@[go_sem] theorem sz86 {a b : Nat} : (a + 1 = a + 1 + 1 + 1 + 1 + 1 + 1 + 1 + b) = False := by apply eq_false; omega
@[go_sem] theorem sz87 {a b : Nat} : (a + 1 < a + 1 + 1 + 1 + 1 + 1 + 1 + 1 + b) = True := by apply eq_true; omega
@[go_sem] theorem sz88 {a b : Nat} : (a + 1 + 1 = a + 1 + 1 + 1 + b) = False := by apply eq_false; omega
@[go_sem] theorem sz89 {a b : Nat} : (a + 1 + 1 < a + 1 + 1 + 1 + b) = True := by apply eq_true; omega
@[go_sem] theorem sz90 {a b : Nat} : (a + 1 + 1 = a + 1 + 1 + 1 + 1 + b) = False := by apply eq_false; omega
@[go_sem] theorem sz91 {a b : Nat} : (a + 1 + 1 < a + 1 + 1 + 1 + 1 + b) = True := by apply eq_true; omega
@[go_sem] theorem sz92 {a b : Nat} : (a + 1 + 1 = a + 1 + 1 + 1 + 1 + 1 + b) = False := by apply eq_false; omega
@[go_sem] theorem sz93 {a b : Nat} : (a + 1 + 1 < a + 1 + 1 + 1 + 1 + 1 + b) = True := by apply eq_true; omega
@[go_sem] theorem sz94 {a b : Nat} : (a + 1 + 1 = a + 1 + 1 + 1 + 1 + 1 + 1 + b) = False := by apply eq_false; omega
@[go_sem] theorem sz95 {a b : Nat} : (a + 1 + 1 < a + 1 + 1 + 1 + 1 + 1 + 1 + b) = True := by apply eq_true; omega
@[go_sem] theorem sz96 {a b : Nat} : (a + 1 + 1 = a + 1 + 1 + 1 + 1 + 1 + 1 + 1 + b) = False := by apply eq_false; omega
@[go_sem] theorem sz97 {a b : Nat} : (a + 1 + 1 < a + 1 + 1 + 1 + 1 + 1 + 1 + 1 + b) = True := by apply eq_true; omega
@[go_sem] theorem sz98 {a b : Nat} : (a + 1 + 1 + 1 = a + 1 + 1 + 1 + 1 + b) = False := by apply eq_false; omega
@[go_sem] theorem sz99 {a b : Nat} : (a + 1 + 1 + 1 < a + 1 + 1 + 1 + 1 + b) = True := by apply eq_true; omega
@[go_sem] theorem sz100 {a b : Nat} : (a + 1 + 1 + 1 = a + 1 + 1 + 1 + 1 + 1 + b) = False := by apply eq_false; omega
@[go_sem] theorem sz101 {a b : Nat} : (a + 1 + 1 + 1 < a + 1 + 1 + 1 + 1 + 1 + b) = True := by apply eq_true; omega
@[go_sem] theorem sz102 {a b : Nat} : (a + 1 + 1 + 1 = a + 1 + 1 + 1 + 1 + 1 + 1 + b) = False := by apply eq_false; omega
@[go_sem] theorem sz103 {a b : Nat} : (a + 1 + 1 + 1 < a + 1 + 1 + 1 + 1 + 1 + 1 + b) = True := by apply eq_true; omega
@[go_sem] theorem sz104 {a b : Nat} : (a + 1 + 1 + 1 = a + 1 + 1 + 1 + 1 + 1 + 1 + 1 + b) = False := by apply eq_false; omega
@[go_sem] theorem sz105 {a b : Nat} : (a + 1 + 1 + 1 < a + 1 + 1 + 1 + 1 + 1 + 1 + 1 + b) = True := by apply eq_true; omega
@[go_sem] theorem sz106 {a b : Nat} : (a + 1 + 1 + 1 + 1 = a + 1 + 1 + 1 + 1 + 1 + b) = False := by apply eq_false; omega
@[go_sem] theorem sz107 {a b : Nat} : (a + 1 + 1 + 1 + 1 < a + 1 + 1 + 1 + 1 + 1 + b) = True := by apply eq_true; omega
@[go_sem] theorem sz108 {a b : Nat} : (a + 1 + 1 + 1 + 1 = a + 1 + 1 + 1 + 1 + 1 + 1 + b) = False := by apply eq_false; omega
@[go_sem] theorem sz109 {a b : Nat} : (a + 1 + 1 + 1 + 1 < a + 1 + 1 + 1 + 1 + 1 + 1 + b) = True := by apply eq_true; omega
@[go_sem] theorem sz110 {a b : Nat} : (a + 1 + 1 + 1 + 1 = a + 1 + 1 + 1 + 1 + 1 + 1 + 1 + b) = False := by apply eq_false; omega
@[go_sem] theorem sz111 {a b : Nat} : (a + 1 + 1 + 1 + 1 < a + 1 + 1 + 1 + 1 + 1 + 1 + 1 + b) = True := by apply eq_true; omega
@[go_sem] theorem sz112 {a b : Nat} : (a + 1 + 1 + 1 + 1 + 1 = a + 1 + 1 + 1 + 1 + 1 + 1 + b) = False := by apply eq_false; omega
@[go_sem] theorem sz113 {a b : Nat} : (a + 1 + 1 + 1 + 1 + 1 < a + 1 + 1 + 1 + 1 + 1 + 1 + b) = True := by apply eq_true; omega
@[go_sem] theorem sz114 {a b : Nat} : (a + 1 + 1 + 1 + 1 + 1 = a + 1 + 1 + 1 + 1 + 1 + 1 + 1 + b) = False := by apply eq_false; omega
@[go_sem] theorem sz115 {a b : Nat} : (a + 1 + 1 + 1 + 1 + 1 < a + 1 + 1 + 1 + 1 + 1 + 1 + 1 + b) = True := by apply eq_true; omega
@[go_sem] theorem sz116 {a b : Nat} : (a + 1 + 1 + 1 + 1 + 1 + 1 = a + 1 + 1 + 1 + 1 + 1 + 1 + 1 + b) = False := by apply eq_false; omega
@[go_sem] theorem sz117 {a b : Nat} : (a + 1 + 1 + 1 + 1 + 1 + 1 < a + 1 + 1 + 1 + 1 + 1 + 1 + 1 + b) = True := by apply eq_true; omega
@[go_sem] theorem sz118 {a b c : Nat} : (a = a + 1 + b + c) = False := by apply eq_false; omega
@[go_sem] theorem sz119 {a b c : Nat} : (a < a + 1 + b + c) = True := by apply eq_true; omega
@[go_sem] theorem sz120 {a b c : Nat} : (a = a + 1 + b + 1 + c) = False := by apply eq_false; omega
@[go_sem] theorem sz121 {a b c : Nat} : (a < a + 1 + b + 1 + c) = True := by apply eq_true; omega
@[go_sem] theorem sz122 {a b c : Nat} : (a = a + 1 + b + 1 + 1 + c) = False := by apply eq_false; omega
@[go_sem] theorem sz123 {a b c : Nat} : (a < a + 1 + b + 1 + 1 + c) = True := by apply eq_true; omega
@[go_sem] theorem sz124 {a b c : Nat} : (a = a + 1 + 1 + b + c) = False := by apply eq_false; omega
@[go_sem] theorem sz125 {a b c : Nat} : (a < a + 1 + 1 + b + c) = True := by apply eq_true; omega
@[go_sem] theorem sz126 {a b c : Nat} : (a = a + 1 + 1 + b + 1 + c) = False := by apply eq_false; omega
@[go_sem] theorem sz127 {a b c : Nat} : (a < a + 1 + 1 + b + 1 + c) = True := by apply eq_true; omega
@[go_sem] theorem sz128 {a b c : Nat} : (a = a + 1 + 1 + b + 1 + 1 + c) = False := by apply eq_false; omega
@[go_sem] theorem sz129 {a b c : Nat} : (a < a + 1 + 1 + b + 1 + 1 + c) = True := by apply eq_true; omega
@[go_sem] theorem sz130 {a b c : Nat} : (a = a + 1 + 1 + 1 + b + c) = False := by apply eq_false; omega
@[go_sem] theorem sz131 {a b c : Nat} : (a < a + 1 + 1 + 1 + b + c) = True := by apply eq_true; omega
@[go_sem] theorem sz132 {a b c : Nat} : (a = a + 1 + 1 + 1 + b + 1 + c) = False := by apply eq_false; omega
@[go_sem] theorem sz133 {a b c : Nat} : (a < a + 1 + 1 + 1 + b + 1 + c) = True := by apply eq_true; omega
@[go_sem] theorem sz134 {a b c : Nat} : (a = a + 1 + 1 + 1 + b + 1 + 1 + c) = False := by apply eq_false; omega
@[go_sem] theorem sz135 {a b c : Nat} : (a < a + 1 + 1 + 1 + b + 1 + 1 + c) = True := by apply eq_true; omega
@[go_sem] theorem sz136 {a b c : Nat} : (a = a + 1 + 1 + 1 + 1 + b + c) = False := by apply eq_false; omega
@[go_sem] theorem sz137 {a b c : Nat} : (a < a + 1 + 1 + 1 + 1 + b + c) = True := by apply eq_true; omega
@[go_sem] theorem sz138 {a b c : Nat} : (a = a + 1 + 1 + 1 + 1 + b + 1 + c) = False := by apply eq_false; omega
@[go_sem] theorem sz139 {a b c : Nat} : (a < a + 1 + 1 + 1 + 1 + b + 1 + c) = True := by apply eq_true; omega
@[go_sem] theorem sz140 {a b c : Nat} : (a = a + 1 + 1 + 1 + 1 + b + 1 + 1 + c) = False := by apply eq_false; omega
@[go_sem] theorem sz141 {a b c : Nat} : (a < a + 1 + 1 + 1 + 1 + b + 1 + 1 + c) = True := by apply eq_true; omega
@[go_sem] theorem sz142 {a b c : Nat} : (a = a + 1 + 1 + 1 + 1 + 1 + b + c) = False := by apply eq_false; omega
@[go_sem] theorem sz143 {a b c : Nat} : (a < a + 1 + 1 + 1 + 1 + 1 + b + c) = True := by apply eq_true; omega
@[go_sem] theorem sz144 {a b c : Nat} : (a = a + 1 + 1 + 1 + 1 + 1 + b + 1 + c) = False := by apply eq_false; omega
@[go_sem] theorem sz145 {a b c : Nat} : (a < a + 1 + 1 + 1 + 1 + 1 + b + 1 + c) = True := by apply eq_true; omega
@[go_sem] theorem sz146 {a b c : Nat} : (a = a + 1 + 1 + 1 + 1 + 1 + b + 1 + 1 + c) = False := by apply eq_false; omega
@[go_sem] theorem sz147 {a b c : Nat} : (a < a + 1 + 1 + 1 + 1 + 1 + b + 1 + 1 + c) = True := by apply eq_true; omega
@[go_sem] theorem sz148 {a b c : Nat} : (a + 1 = a + 1 + 1 + b + c) = False := by apply eq_false; omega
@[go_sem] theorem sz149 {a b c : Nat} : (a + 1 < a + 1 + 1 + b + c) = True := by apply eq_true; omega
@[go_sem] theorem sz150 {a b c : Nat} : (a + 1 = a + 1 + 1 + b + 1 + c) = False := by apply eq_false; omega
@[go_sem] theorem sz151 {a b c : Nat} : (a + 1 < a + 1 + 1 + b + 1 + c) = True := by apply eq_true; omega
@[go_sem] theorem sz152 {a b c : Nat} : (a + 1 = a + 1 + 1 + b + 1 + 1 + c) = False := by apply eq_false; omega
@[go_sem] theorem sz153 {a b c : Nat} : (a + 1 < a + 1 + 1 + b + 1 + 1 + c) = True := by apply eq_true; omega
@[go_sem] theorem sz154 {a b c : Nat} : (a + 1 = a + 1 + 1 + 1 + b + c) = False := by apply eq_false; omega
@[go_sem] theorem sz155 {a b c : Nat} : (a + 1 < a + 1 + 1 + 1 + b + c) = True := by apply eq_true; omega
@[go_sem] theorem sz156 {a b c : Nat} : (a + 1 = a + 1 + 1 + 1 + b + 1 + c) = False := by apply eq_false; omega
@[go_sem] theorem sz157 {a b c : Nat} : (a + 1 < a + 1 + 1 + 1 + b + 1 + c) = True := by apply eq_true; omega
@[go_sem] theorem sz158 {a b c : Nat} : (a + 1 = a + 1 + 1 + 1 + b + 1 + 1 + c) = False := by apply eq_false; omega
@[go_sem] theorem sz159 {a b c : Nat} : (a + 1 < a + 1 + 1 + 1 + b + 1 + 1 + c) = True := by apply eq_true; omega
@[go_sem] theorem sz160 {a b c : Nat} : (a + 1 = a + 1 + 1 + 1 + 1 + b + c) = False := by apply eq_false; omega
@[go_sem] theorem sz161 {a b c : Nat} : (a + 1 < a + 1 + 1 + 1 + 1 + b + c) = True := by apply eq_true; omega
@[go_sem] theorem sz162 {a b c : Nat} : (a + 1 = a + 1 + 1 + 1 + 1 + b + 1 + c) = False := by apply eq_false; omega
@[go_sem] theorem sz163 {a b c : Nat} : (a + 1 < a + 1 + 1 + 1 + 1 + b + 1 + c) = True := by apply eq_true; omega
@[go_sem] theorem sz164 {a b c : Nat} : (a + 1 = a + 1 + 1 + 1 + 1 + b + 1 + 1 + c) = False := by apply eq_false; omega
@[go_sem] theorem sz165 {a b c : Nat} : (a + 1 < a + 1 + 1 + 1 + 1 + b + 1 + 1 + c) = True := by apply eq_true; omega
@[go_sem] theorem sz166 {a b c : Nat} : (a + 1 = a + 1 + 1 + 1 + 1 + 1 + b + c) = False := by apply eq_false; omega
@[go_sem] theorem sz167 {a b c : Nat} : (a + 1 < a + 1 + 1 + 1 + 1 + 1 + b + c) = True := by apply eq_true; omega
@[go_sem] theorem sz168 {a b c : Nat} : (a + 1 = a + 1 + 1 + 1 + 1 + 1 + b + 1 + c) = False := by apply eq_false; omega
@[go_sem] theorem sz169 {a b c : Nat} : (a + 1 < a + 1 + 1 + 1 + 1 + 1 + b + 1 + c) = True := by apply eq_true; omega
@[go_sem] theorem sz170 {a b c : Nat} : (a + 1 = a + 1 + 1 + 1 + 1 + 1 + b + 1 + 1 + c) = False := by apply eq_false; omega
@[go_sem] theorem sz171 {a b c : Nat} : (a + 1 < a + 1 + 1 + 1 + 1 + 1 + b + 1 + 1 + c) = True := by apply eq_true; omega
@[go_sem] theorem sz172 {a b c : Nat} : (a + 1 + 1 = a + 1 + 1 + 1 + b + c) = False := by apply eq_false; omega
@[go_sem] theorem sz173 {a b c : Nat} : (a + 1 + 1 < a + 1 + 1 + 1 + b + c) = True := by apply eq_true; omega
@[go_sem] theorem sz174 {a b c : Nat} : (a + 1 + 1 = a + 1 + 1 + 1 + b + 1 + c) = False := by apply eq_false; omega
@[go_sem] theorem sz175 {a b c : Nat} : (a + 1 + 1 < a + 1 + 1 + 1 + b + 1 + c) = True := by apply eq_true; omega
@[go_sem] theorem sz176 {a b c : Nat} : (a + 1 + 1 = a + 1 + 1 + 1 + b + 1 + 1 + c) = False := by apply eq_false; omega
@[go_sem] theorem sz177 {a b c : Nat} : (a + 1 + 1 < a + 1 + 1 + 1 + b + 1 + 1 + c) = True := by apply eq_true; omega
@[go_sem] theorem sz178 {a b c : Nat} : (a + 1 + 1 = a + 1 + 1 + 1 + 1 + b + c) = False := by apply eq_false; omega
@[go_sem] theorem sz179 {a b c : Nat} : (a + 1 + 1 < a + 1 + 1 + 1 + 1 + b + c) = True := by apply eq_true; omega
@[go_sem] theorem sz180 {a b c : Nat} : (a + 1 + 1 = a + 1 + 1 + 1 + 1 + b + 1 + c) = False := by apply eq_false; omega
@[go_sem] theorem sz181 {a b c : Nat} : (a + 1 + 1 < a + 1 + 1 + 1 + 1 + b + 1 + c) = True := by apply eq_true; omega
@[go_sem] theorem sz182 {a b c : Nat} : (a + 1 + 1 = a + 1 + 1 + 1 + 1 + b + 1 + 1 + c) = False := by apply eq_false; omega
@[go_sem] theorem sz183 {a b c : Nat} : (a + 1 + 1 < a + 1 + 1 + 1 + 1 + b + 1 + 1 + c) = True := by apply eq_true; omega
@[go_sem] theorem sz184 {a b c : Nat} : (a + 1 + 1 = a + 1 + 1 + 1 + 1 + 1 + b + c) = False := by apply eq_false; omega
@[go_sem] theorem sz185 {a b c : Nat} : (a + 1 + 1 < a + 1 + 1 + 1 + 1 + 1 + b + c) = True := by apply eq_true; omega
@[go_sem] theorem sz186 {a b c : Nat} : (a + 1 + 1 = a + 1 + 1 + 1 + 1 + 1 + b + 1 + c) = False := by apply eq_false; omega
@[go_sem] theorem sz187 {a b c : Nat} : (a + 1 + 1 < a + 1 + 1 + 1 + 1 + 1 + b + 1 + c) = True := by apply eq_true; omega
@[go_sem] theorem sz188 {a b c : Nat} : (a + 1 + 1 = a + 1 + 1 + 1 + 1 + 1 + b + 1 + 1 + c) = False := by apply eq_false; omega
@[go_sem] theorem sz189 {a b c : Nat} : (a + 1 + 1 < a + 1 + 1 + 1 + 1 + 1 + b + 1 + 1 + c) = True := by apply eq_true; omega
@[go_sem] theorem sz190 {a b c : Nat} : (a + 1 + 1 + 1 = a + 1 + 1 + 1 + 1 + b + c) = False := by apply eq_false; omega
@[go_sem] theorem sz191 {a b c : Nat} : (a + 1 + 1 + 1 < a + 1 + 1 + 1 + 1 + b + c) = True := by apply eq_true; omega
@[go_sem] theorem sz192 {a b c : Nat} : (a + 1 + 1 + 1 = a + 1 + 1 + 1 + 1 + b + 1 + c) = False := by apply eq_false; omega
@[go_sem] theorem sz193 {a b c : Nat} : (a + 1 + 1 + 1 < a + 1 + 1 + 1 + 1 + b + 1 + c) = True := by apply eq_true; omega
@[go_sem] theorem sz194 {a b c : Nat} : (a + 1 + 1 + 1 = a + 1 + 1 + 1 + 1 + b + 1 + 1 + c) = False := by apply eq_false; omega
@[go_sem] theorem sz195 {a b c : Nat} : (a + 1 + 1 + 1 < a + 1 + 1 + 1 + 1 + b + 1 + 1 + c) = True := by apply eq_true; omega
@[go_sem] theorem sz196 {a b c : Nat} : (a + 1 + 1 + 1 = a + 1 + 1 + 1 + 1 + 1 + b + c) = False := by apply eq_false; omega
@[go_sem] theorem sz197 {a b c : Nat} : (a + 1 + 1 + 1 < a + 1 + 1 + 1 + 1 + 1 + b + c) = True := by apply eq_true; omega
@[go_sem] theorem sz198 {a b c : Nat} : (a + 1 + 1 + 1 = a + 1 + 1 + 1 + 1 + 1 + b + 1 + c) = False := by apply eq_false; omega
@[go_sem] theorem sz199 {a b c : Nat} : (a + 1 + 1 + 1 < a + 1 + 1 + 1 + 1 + 1 + b + 1 + c) = True := by apply eq_true; omega
@[go_sem] theorem sz200 {a b c : Nat} : (a + 1 + 1 + 1 = a + 1 + 1 + 1 + 1 + 1 + b + 1 + 1 + c) = False := by apply eq_false; omega
@[go_sem] theorem sz201 {a b c : Nat} : (a + 1 + 1 + 1 < a + 1 + 1 + 1 + 1 + 1 + b + 1 + 1 + c) = True := by apply eq_true; omega
@[go_sem] theorem sz202 {a b c : Nat} : (a + 1 + 1 + 1 + 1 = a + 1 + 1 + 1 + 1 + 1 + b + c) = False := by apply eq_false; omega
@[go_sem] theorem sz203 {a b c : Nat} : (a + 1 + 1 + 1 + 1 < a + 1 + 1 + 1 + 1 + 1 + b + c) = True := by apply eq_true; omega
@[go_sem] theorem sz204 {a b c : Nat} : (a + 1 + 1 + 1 + 1 = a + 1 + 1 + 1 + 1 + 1 + b + 1 + c) = False := by apply eq_false; omega
@[go_sem] theorem sz205 {a b c : Nat} : (a + 1 + 1 + 1 + 1 < a + 1 + 1 + 1 + 1 + 1 + b + 1 + c) = True := by apply eq_true; omega
@[go_sem] theorem sz206 {a b c : Nat} : (a + 1 + 1 + 1 + 1 = a + 1 + 1 + 1 + 1 + 1 + b + 1 + 1 + c) = False := by apply eq_false; omega
@[go_sem] theorem sz207 {a b c : Nat} : (a + 1 + 1 + 1 + 1 < a + 1 + 1 + 1 + 1 + 1 + b + 1 + 1 + c) = True := by apply eq_true; omega

section
variable (w : World) (x : Ext) (c : Array Value) (o : Obj) (t : TypeId) (n : Nat)
@[go_sem] theorem World.row_plus : (w.plus x).row n = if n < w.heap.size then w.row n else x.bs[n - w.heap.size]? := by
  unfold World.row World.plus
  simp only [Array.getElem?_append]
@[go_sem] theorem World.row_alloc : (w.alloc o).row n = if n = w.heap.size then some o else w.row n := by
  unfold World.row
  split
  · rename_i h; subst h; exact heap_alloc_new w o
  · rename_i h
    show (w.heap.push o)[n]? = _
    rw [Array.getElem?_push, if_neg h]
@[go_sem] theorem World.heap_drew (n : Nat) : w.drew.row n = w.row n := rfl
theorem World.setRow_alloc_new (c c' : Array Value) : (w.alloc (.cells c t)).setRow w.heap.size c' = w.alloc (.cells c' t) := by
  cases w with
  | mk heap tape drawn os output =>
    simp only [World.setRow, World.alloc]
    congr 1
    apply Array.ext
    · simp
    · intro k h1 h2
      simp only [Array.getElem_modify, Array.getElem_push]
      split
      · rename_i hk; subst hk; simp
      · rename_i hk; rw [dif_pos (by simp at h2; omega), dif_pos (by simp at h2; omega)]
@[go_sem] theorem World.setRow_alloc_at (c c' : Array Value) (h : n = w.heap.size) : (w.alloc (.cells c t)).setRow n c' = w.alloc (.cells c' t) := by subst h; exact World.setRow_alloc_new w t c c'
@[go_sem] theorem World.setRow_alloc_at' (c c' : Array Value) : (w.alloc (.cells c t)).setRow w.heap.size c' = w.alloc (.cells c' t) := World.setRow_alloc_new w t c c'
@[go_sem] theorem World.setRow_alloc_lt (h : n < w.heap.size) : (w.alloc o).setRow n c = (w.setRow n c).alloc o := by
  cases w with
  | mk heap tape drawn os output =>
    simp only [World.setRow, World.alloc]
    congr 1
    simp only at h
    apply Array.ext
    · simp
    · intro k h1 h2
      simp only [Array.getElem_modify, Array.getElem_push, Array.size_modify]
      by_cases hk : n = k
      · subst hk; simp [h]
      · simp [hk]
@[go_sem] theorem World.setRow_plus (h : n < w.heap.size) : (w.plus x).setRow n c = (w.setRow n c).plus x := by
  cases w
  simp only [World.setRow, World.plus] at *
  congr 1
  apply Array.ext
  · simp
  · intro k h1 h2
    simp only [Array.getElem_modify, Array.getElem_append, Array.size_modify]
    by_cases hk : n = k
    · subst hk; simp [h]
    · simp [hk]
@[go_sem] theorem World.setRow_drew : w.drew.setRow n c = (w.setRow n c).drew := rfl
end
attribute [go_sem] setRow_size
end Go
