/- Texts of the walk, one after the other; what each proves stands ahead of it. -/
import Derived.Deep.MidRow
import Derived.Laws.Rows
import Derived.Laws.Tables
import Derived.Test.YtdbddnkjiehaiaaGreatMa
set_option linter.unusedSimpArgs false
set_option linter.unusedVariables false
/- LAWS over any program: a whole row loaded and stored, where its block is known. No condition. -/
namespace Go
open Go.RowKit

/-- a block of n cells -/
def rowOk (n : Nat) : Option Obj → Bool
  | some (.cells cs _ _) => cs.size == n
  | _ => false
/-- a block of n cells that may be written -/
def rowOkW (n : Nat) : Option Obj → Bool
  | some (.cells cs _ (0, 0)) => cs.size == n
  | _ => false
/-- what it holds -/
def rowV : Option Obj → Value
  | some (.cells cs _ _) => .agg cs
  | _ => undef
@[go_sem] theorem rowOk_some (n : Nat) (l : List Value) (t : TypeId) (fr : Nat × Nat) : rowOk n (some (.cells l.toArray t fr)) = (l.length == n) := by simp [rowOk]
@[go_sem] theorem rowOkW_some (n : Nat) (l : List Value) (t : TypeId) : rowOkW n (some (.cells l.toArray t)) = (l.length == n) := by simp [rowOkW]
@[go_sem] theorem rowV_some (cs : Array Value) (t : TypeId) (fr : Nat × Nat) : rowV (some (.cells cs t fr)) = .agg cs := rfl

/-- the block g -/
def World.row (w : World) (g : Nat) : Option Obj := w.heap[g]?
theorem run_loadVar_rowV {P : Program} {w : World} {g : Nat} {ty : TypeId} {n : Nat} {d : TypeDesc} (hu : P.underlying ty = some d) (hd : (match d with | .struct _ | .array _ _ => true | _ => false) = true)
    (hi : (P.info? ty).map (·.size) = some n) (h : rowOk n (w.row g) = true) : (loadVar ty ⟨g, 0, none⟩).run P w = .ok (rowV (w.row g)) w := by
  unfold rowOk at h
  split at h
  · rename_i cs t fr hg
    rw [hg, rowV_some]
    exact run_loadVar_row w g t ty cs fr d (by simpa [World.row] using hg) hu hd (by rw [hi, beq_iff_eq.1 h])
  · cases h
theorem run_storeVar_rowV {P : Program} {w : World} {g : Nat} {ty : TypeId} {n : Nat} {l : List Value}
    (hi : (P.info? ty).map (·.size) = some n) (h1 : (l.length == n && l.all (·.oneCell')) = true) (h : rowOkW n (w.row g) = true) : (storeVar ty ⟨g, 0, none⟩ (.agg l.toArray)).run P w = .ok () (w.setRow g l.toArray) := by
  simp only [Bool.and_eq_true, beq_iff_eq] at h1
  unfold rowOkW at h
  split at h
  · rename_i cs t hg
    have hc := beq_iff_eq.1 h
    exact run_storeVar_row w g t ty cs l.toArray (by simpa [World.row] using hg) (by rw [hi]; simp [h1.1]) (by simp [hc, h1.1]) (by simpa using h1.2)
  · cases h

/-! sizes -/
@[go_sem] theorem sz1 {a : Nat} : (a = a + 1 + 1) = False := by apply eq_false; omega
@[go_sem] theorem sz2 {a : Nat} : (a < a + 1 + 1) = True := by apply eq_true; omega
@[go_sem] theorem sz3 {a : Nat} : (a = a + 1 + 1 + 1) = False := by apply eq_false; omega
@[go_sem] theorem sz4 {a : Nat} : (a < a + 1 + 1 + 1) = True := by apply eq_true; omega
@[go_sem] theorem sz5 {a : Nat} : (a = a + 1 + 1 + 1 + 1) = False := by apply eq_false; omega
@[go_sem] theorem sz6 {a : Nat} : (a < a + 1 + 1 + 1 + 1) = True := by apply eq_true; omega
@[go_sem] theorem sz7 {a : Nat} : (a = a + 1 + 1 + 1 + 1 + 1) = False := by apply eq_false; omega
@[go_sem] theorem sz8 {a : Nat} : (a < a + 1 + 1 + 1 + 1 + 1) = True := by apply eq_true; omega
@[go_sem] theorem sz9 {a : Nat} : (a = a + 1 + 1 + 1 + 1 + 1 + 1) = False := by apply eq_false; omega
@[go_sem] theorem sz10 {a : Nat} : (a < a + 1 + 1 + 1 + 1 + 1 + 1) = True := by apply eq_true; omega
@[go_sem] theorem sz11 {a : Nat} : (a = a + 1 + 1 + 1 + 1 + 1 + 1 + 1) = False := by apply eq_false; omega
@[go_sem] theorem sz12 {a : Nat} : (a < a + 1 + 1 + 1 + 1 + 1 + 1 + 1) = True := by apply eq_true; omega
@[go_sem] theorem sz13 {a : Nat} : (a = a + 1 + 1 + 1 + 1 + 1 + 1 + 1 + 1) = False := by apply eq_false; omega
@[go_sem] theorem sz14 {a : Nat} : (a < a + 1 + 1 + 1 + 1 + 1 + 1 + 1 + 1) = True := by apply eq_true; omega
@[go_sem] theorem sz15 {a : Nat} : (a = a + 1 + 1 + 1 + 1 + 1 + 1 + 1 + 1 + 1) = False := by apply eq_false; omega
@[go_sem] theorem sz16 {a : Nat} : (a < a + 1 + 1 + 1 + 1 + 1 + 1 + 1 + 1 + 1) = True := by apply eq_true; omega
@[go_sem] theorem sz17 {a b : Nat} : (a = a + 1 + b) = False := by apply eq_false; omega
@[go_sem] theorem sz18 {a b : Nat} : (a = a + 1 + b + 1) = False := by apply eq_false; omega
@[go_sem] theorem sz19 {a b : Nat} : (a = a + 1 + b + 1 + 1) = False := by apply eq_false; omega
@[go_sem] theorem sz20 {a b : Nat} : (a = a + 1 + b + 1 + 1 + 1) = False := by apply eq_false; omega
@[go_sem] theorem sz21 {a b : Nat} : (a = a + 1 + 1 + b) = False := by apply eq_false; omega
@[go_sem] theorem sz22 {a b : Nat} : (a = a + 1 + 1 + b + 1) = False := by apply eq_false; omega
@[go_sem] theorem sz23 {a b : Nat} : (a = a + 1 + 1 + b + 1 + 1) = False := by apply eq_false; omega
@[go_sem] theorem sz24 {a b : Nat} : (a = a + 1 + 1 + b + 1 + 1 + 1) = False := by apply eq_false; omega
@[go_sem] theorem sz25 {a b : Nat} : (a = a + 1 + 1 + 1 + b) = False := by apply eq_false; omega
@[go_sem] theorem sz26 {a b : Nat} : (a = a + 1 + 1 + 1 + b + 1) = False := by apply eq_false; omega
@[go_sem] theorem sz27 {a b : Nat} : (a = a + 1 + 1 + 1 + b + 1 + 1) = False := by apply eq_false; omega
@[go_sem] theorem sz28 {a b : Nat} : (a = a + 1 + 1 + 1 + b + 1 + 1 + 1) = False := by apply eq_false; omega
@[go_sem] theorem sz29 {a b : Nat} : (a = a + 1 + 1 + 1 + 1 + b) = False := by apply eq_false; omega
@[go_sem] theorem sz30 {a b : Nat} : (a = a + 1 + 1 + 1 + 1 + b + 1) = False := by apply eq_false; omega
@[go_sem] theorem sz31 {a b : Nat} : (a = a + 1 + 1 + 1 + 1 + b + 1 + 1) = False := by apply eq_false; omega
@[go_sem] theorem sz32 {a b : Nat} : (a = a + 1 + 1 + 1 + 1 + b + 1 + 1 + 1) = False := by apply eq_false; omega
@[go_sem] theorem sz33 {a b : Nat} : (a = a + 1 + 1 + 1 + 1 + 1 + b) = False := by apply eq_false; omega
@[go_sem] theorem sz34 {a b : Nat} : (a = a + 1 + 1 + 1 + 1 + 1 + b + 1) = False := by apply eq_false; omega
@[go_sem] theorem sz35 {a b : Nat} : (a = a + 1 + 1 + 1 + 1 + 1 + b + 1 + 1) = False := by apply eq_false; omega
@[go_sem] theorem sz36 {a b : Nat} : (a = a + 1 + 1 + 1 + 1 + 1 + b + 1 + 1 + 1) = False := by apply eq_false; omega
@[go_sem] theorem sz37 {a b : Nat} : (a = a + 1 + 1 + 1 + 1 + 1 + 1 + b) = False := by apply eq_false; omega
@[go_sem] theorem sz38 {a b : Nat} : (a = a + 1 + 1 + 1 + 1 + 1 + 1 + b + 1) = False := by apply eq_false; omega
@[go_sem] theorem sz39 {a b : Nat} : (a = a + 1 + 1 + 1 + 1 + 1 + 1 + b + 1 + 1) = False := by apply eq_false; omega
@[go_sem] theorem sz40 {a b : Nat} : (a = a + 1 + 1 + 1 + 1 + 1 + 1 + b + 1 + 1 + 1) = False := by apply eq_false; omega
@[go_sem] theorem sz41 {a b : Nat} : (a = a + 1 + 1 + 1 + 1 + 1 + 1 + 1 + b) = False := by apply eq_false; omega
@[go_sem] theorem sz42 {a b : Nat} : (a = a + 1 + 1 + 1 + 1 + 1 + 1 + 1 + b + 1) = False := by apply eq_false; omega
@[go_sem] theorem sz43 {a b : Nat} : (a = a + 1 + 1 + 1 + 1 + 1 + 1 + 1 + b + 1 + 1) = False := by apply eq_false; omega
@[go_sem] theorem sz44 {a b : Nat} : (a = a + 1 + 1 + 1 + 1 + 1 + 1 + 1 + b + 1 + 1 + 1) = False := by apply eq_false; omega
@[go_sem] theorem sz45 {a b : Nat} : (a < a + b + 1) = True := by apply eq_true; omega
@[go_sem] theorem sz46 {a b : Nat} : (a < a + b + 1 + 1) = True := by apply eq_true; omega
@[go_sem] theorem sz47 {a b : Nat} : (a < a + b + 1 + 1 + 1) = True := by apply eq_true; omega
@[go_sem] theorem sz48 {a b : Nat} : (a < a + 1 + b) = True := by apply eq_true; omega
@[go_sem] theorem sz49 {a b : Nat} : (a < a + 1 + b + 1) = True := by apply eq_true; omega
@[go_sem] theorem sz50 {a b : Nat} : (a < a + 1 + b + 1 + 1) = True := by apply eq_true; omega
@[go_sem] theorem sz51 {a b : Nat} : (a < a + 1 + b + 1 + 1 + 1) = True := by apply eq_true; omega
@[go_sem] theorem sz52 {a b : Nat} : (a < a + 1 + 1 + b) = True := by apply eq_true; omega
@[go_sem] theorem sz53 {a b : Nat} : (a < a + 1 + 1 + b + 1) = True := by apply eq_true; omega
@[go_sem] theorem sz54 {a b : Nat} : (a < a + 1 + 1 + b + 1 + 1) = True := by apply eq_true; omega
@[go_sem] theorem sz55 {a b : Nat} : (a < a + 1 + 1 + b + 1 + 1 + 1) = True := by apply eq_true; omega
@[go_sem] theorem sz56 {a b : Nat} : (a < a + 1 + 1 + 1 + b) = True := by apply eq_true; omega
@[go_sem] theorem sz57 {a b : Nat} : (a < a + 1 + 1 + 1 + b + 1) = True := by apply eq_true; omega
@[go_sem] theorem sz58 {a b : Nat} : (a < a + 1 + 1 + 1 + b + 1 + 1) = True := by apply eq_true; omega
@[go_sem] theorem sz59 {a b : Nat} : (a < a + 1 + 1 + 1 + b + 1 + 1 + 1) = True := by apply eq_true; omega
@[go_sem] theorem sz60 {a b : Nat} : (a < a + 1 + 1 + 1 + 1 + b) = True := by apply eq_true; omega
@[go_sem] theorem sz61 {a b : Nat} : (a < a + 1 + 1 + 1 + 1 + b + 1) = True := by apply eq_true; omega
@[go_sem] theorem sz62 {a b : Nat} : (a < a + 1 + 1 + 1 + 1 + b + 1 + 1) = True := by apply eq_true; omega
@[go_sem] theorem sz63 {a b : Nat} : (a < a + 1 + 1 + 1 + 1 + b + 1 + 1 + 1) = True := by apply eq_true; omega
@[go_sem] theorem sz64 {a b : Nat} : (a < a + 1 + 1 + 1 + 1 + 1 + b) = True := by apply eq_true; omega
@[go_sem] theorem sz65 {a b : Nat} : (a < a + 1 + 1 + 1 + 1 + 1 + b + 1) = True := by apply eq_true; omega
@[go_sem] theorem sz66 {a b : Nat} : (a < a + 1 + 1 + 1 + 1 + 1 + b + 1 + 1) = True := by apply eq_true; omega
@[go_sem] theorem sz67 {a b : Nat} : (a < a + 1 + 1 + 1 + 1 + 1 + b + 1 + 1 + 1) = True := by apply eq_true; omega
@[go_sem] theorem sz68 {a b : Nat} : (a < a + 1 + 1 + 1 + 1 + 1 + 1 + b) = True := by apply eq_true; omega
@[go_sem] theorem sz69 {a b : Nat} : (a < a + 1 + 1 + 1 + 1 + 1 + 1 + b + 1) = True := by apply eq_true; omega
@[go_sem] theorem sz70 {a b : Nat} : (a < a + 1 + 1 + 1 + 1 + 1 + 1 + b + 1 + 1) = True := by apply eq_true; omega
@[go_sem] theorem sz71 {a b : Nat} : (a < a + 1 + 1 + 1 + 1 + 1 + 1 + b + 1 + 1 + 1) = True := by apply eq_true; omega
@[go_sem] theorem sz72 {a b : Nat} : (a < a + 1 + 1 + 1 + 1 + 1 + 1 + 1 + b) = True := by apply eq_true; omega
@[go_sem] theorem sz73 {a b : Nat} : (a < a + 1 + 1 + 1 + 1 + 1 + 1 + 1 + b + 1) = True := by apply eq_true; omega
@[go_sem] theorem sz74 {a b : Nat} : (a < a + 1 + 1 + 1 + 1 + 1 + 1 + 1 + b + 1 + 1) = True := by apply eq_true; omega
@[go_sem] theorem sz75 {a b : Nat} : (a < a + 1 + 1 + 1 + 1 + 1 + 1 + 1 + b + 1 + 1 + 1) = True := by apply eq_true; omega
@[go_sem] theorem sz76 {a b : Nat} : (a + 1 = a + 1 + 1 + b) = False := by apply eq_false; omega
@[go_sem] theorem sz77 {a b : Nat} : (a + 1 < a + 1 + 1 + b) = True := by apply eq_true; omega
@[go_sem] theorem sz78 {a b : Nat} : (a + 1 = a + 1 + 1 + 1 + b) = False := by apply eq_false; omega
@[go_sem] theorem sz79 {a b : Nat} : (a + 1 < a + 1 + 1 + 1 + b) = True := by apply eq_true; omega
@[go_sem] theorem sz80 {a b : Nat} : (a + 1 = a + 1 + 1 + 1 + 1 + b) = False := by apply eq_false; omega
@[go_sem] theorem sz81 {a b : Nat} : (a + 1 < a + 1 + 1 + 1 + 1 + b) = True := by apply eq_true; omega
@[go_sem] theorem sz82 {a b : Nat} : (a + 1 = a + 1 + 1 + 1 + 1 + 1 + b) = False := by apply eq_false; omega
@[go_sem] theorem sz83 {a b : Nat} : (a + 1 < a + 1 + 1 + 1 + 1 + 1 + b) = True := by apply eq_true; omega
@[go_sem] theorem sz84 {a b : Nat} : (a + 1 = a + 1 + 1 + 1 + 1 + 1 + 1 + b) = False := by apply eq_false; omega
@[go_sem] theorem sz85 {a b : Nat} : (a + 1 < a + 1 + 1 + 1 + 1 + 1 + 1 + b) = True := by apply eq_true; omega
@[go_sem] theorem sz86 {a b : Nat} : (a + 1 = a + 1 + 1 + 1 + 1 + 1 + 1 + 1 + b) = False := by apply eq_false; omega
@[go_sem] theorem sz87 {a b : Nat} : (a + 1 < a + 1 + 1 + 1 + 1 + 1 + 1 + 1 + b) = True := by apply eq_true; omega
@[go_sem] theorem sz88 {a b : Nat} : (a + 1 + 1 = a + 1 + 1 + 1 + b) = False := by apply eq_false; omega
@[go_sem] theorem sz89 {a b : Nat} : (a + 1 + 1 < a + 1 + 1 + 1 + b) = True := by apply eq_true; omega
@[go_sem] theorem sz90 {a b : Nat} : (a + 1 + 1 = a + 1 + 1 + 1 + 1 + b) = False := by apply eq_false; omega
@[go_sem] theorem sz91 {a b : Nat} : (a + 1 + 1 < a + 1 + 1 + 1 + 1 + b) = True := by apply eq_true; omega
@[go_sem] theorem sz92 {a b : Nat} : (a + 1 + 1 = a + 1 + 1 + 1 + 1 + 1 + b) = False := by apply eq_false; omega
@[go_sem] theorem sz93 {a b : Nat} : (a + 1 + 1 < a + 1 + 1 + 1 + 1 + 1 + b) = True := by apply eq_true; omega
@[go_sem] theorem sz94 {a b : Nat} : (a + 1 + 1 = a + 1 + 1 + 1 + 1 + 1 + 1 + b) = False := by apply eq_false; omega
@[go_sem] theorem sz95 {a b : Nat} : (a + 1 + 1 < a + 1 + 1 + 1 + 1 + 1 + 1 + b) = True := by apply eq_true; omega
@[go_sem] theorem sz96 {a b : Nat} : (a + 1 + 1 = a + 1 + 1 + 1 + 1 + 1 + 1 + 1 + b) = False := by apply eq_false; omega
@[go_sem] theorem sz97 {a b : Nat} : (a + 1 + 1 < a + 1 + 1 + 1 + 1 + 1 + 1 + 1 + b) = True := by apply eq_true; omega
@[go_sem] theorem sz98 {a b : Nat} : (a + 1 + 1 + 1 = a + 1 + 1 + 1 + 1 + b) = False := by apply eq_false; omega
@[go_sem] theorem sz99 {a b : Nat} : (a + 1 + 1 + 1 < a + 1 + 1 + 1 + 1 + b) = True := by apply eq_true; omega
@[go_sem] theorem sz100 {a b : Nat} : (a + 1 + 1 + 1 = a + 1 + 1 + 1 + 1 + 1 + b) = False := by apply eq_false; omega
@[go_sem] theorem sz101 {a b : Nat} : (a + 1 + 1 + 1 < a + 1 + 1 + 1 + 1 + 1 + b) = True := by apply eq_true; omega
@[go_sem] theorem sz102 {a b : Nat} : (a + 1 + 1 + 1 = a + 1 + 1 + 1 + 1 + 1 + 1 + b) = False := by apply eq_false; omega
@[go_sem] theorem sz103 {a b : Nat} : (a + 1 + 1 + 1 < a + 1 + 1 + 1 + 1 + 1 + 1 + b) = True := by apply eq_true; omega
@[go_sem] theorem sz104 {a b : Nat} : (a + 1 + 1 + 1 = a + 1 + 1 + 1 + 1 + 1 + 1 + 1 + b) = False := by apply eq_false; omega
@[go_sem] theorem sz105 {a b : Nat} : (a + 1 + 1 + 1 < a + 1 + 1 + 1 + 1 + 1 + 1 + 1 + b) = True := by apply eq_true; omega
@[go_sem] theorem sz106 {a b : Nat} : (a + 1 + 1 + 1 + 1 = a + 1 + 1 + 1 + 1 + 1 + b) = False := by apply eq_false; omega
@[go_sem] theorem sz107 {a b : Nat} : (a + 1 + 1 + 1 + 1 < a + 1 + 1 + 1 + 1 + 1 + b) = True := by apply eq_true; omega
@[go_sem] theorem sz108 {a b : Nat} : (a + 1 + 1 + 1 + 1 = a + 1 + 1 + 1 + 1 + 1 + 1 + b) = False := by apply eq_false; omega
@[go_sem] theorem sz109 {a b : Nat} : (a + 1 + 1 + 1 + 1 < a + 1 + 1 + 1 + 1 + 1 + 1 + b) = True := by apply eq_true; omega
@[go_sem] theorem sz110 {a b : Nat} : (a + 1 + 1 + 1 + 1 = a + 1 + 1 + 1 + 1 + 1 + 1 + 1 + b) = False := by apply eq_false; omega
@[go_sem] theorem sz111 {a b : Nat} : (a + 1 + 1 + 1 + 1 < a + 1 + 1 + 1 + 1 + 1 + 1 + 1 + b) = True := by apply eq_true; omega
@[go_sem] theorem sz112 {a b : Nat} : (a + 1 + 1 + 1 + 1 + 1 = a + 1 + 1 + 1 + 1 + 1 + 1 + b) = False := by apply eq_false; omega
@[go_sem] theorem sz113 {a b : Nat} : (a + 1 + 1 + 1 + 1 + 1 < a + 1 + 1 + 1 + 1 + 1 + 1 + b) = True := by apply eq_true; omega
@[go_sem] theorem sz114 {a b : Nat} : (a + 1 + 1 + 1 + 1 + 1 = a + 1 + 1 + 1 + 1 + 1 + 1 + 1 + b) = False := by apply eq_false; omega
@[go_sem] theorem sz115 {a b : Nat} : (a + 1 + 1 + 1 + 1 + 1 < a + 1 + 1 + 1 + 1 + 1 + 1 + 1 + b) = True := by apply eq_true; omega
@[go_sem] theorem sz116 {a b : Nat} : (a + 1 + 1 + 1 + 1 + 1 + 1 = a + 1 + 1 + 1 + 1 + 1 + 1 + 1 + b) = False := by apply eq_false; omega
@[go_sem] theorem sz117 {a b : Nat} : (a + 1 + 1 + 1 + 1 + 1 + 1 < a + 1 + 1 + 1 + 1 + 1 + 1 + 1 + b) = True := by apply eq_true; omega
@[go_sem] theorem sz118 {a b c : Nat} : (a = a + 1 + b + c) = False := by apply eq_false; omega
@[go_sem] theorem sz119 {a b c : Nat} : (a < a + 1 + b + c) = True := by apply eq_true; omega
@[go_sem] theorem sz120 {a b c : Nat} : (a = a + 1 + b + 1 + c) = False := by apply eq_false; omega
@[go_sem] theorem sz121 {a b c : Nat} : (a < a + 1 + b + 1 + c) = True := by apply eq_true; omega
@[go_sem] theorem sz122 {a b c : Nat} : (a = a + 1 + b + 1 + 1 + c) = False := by apply eq_false; omega
@[go_sem] theorem sz123 {a b c : Nat} : (a < a + 1 + b + 1 + 1 + c) = True := by apply eq_true; omega
@[go_sem] theorem sz124 {a b c : Nat} : (a = a + 1 + 1 + b + c) = False := by apply eq_false; omega
@[go_sem] theorem sz125 {a b c : Nat} : (a < a + 1 + 1 + b + c) = True := by apply eq_true; omega
@[go_sem] theorem sz126 {a b c : Nat} : (a = a + 1 + 1 + b + 1 + c) = False := by apply eq_false; omega
@[go_sem] theorem sz127 {a b c : Nat} : (a < a + 1 + 1 + b + 1 + c) = True := by apply eq_true; omega
@[go_sem] theorem sz128 {a b c : Nat} : (a = a + 1 + 1 + b + 1 + 1 + c) = False := by apply eq_false; omega
@[go_sem] theorem sz129 {a b c : Nat} : (a < a + 1 + 1 + b + 1 + 1 + c) = True := by apply eq_true; omega
@[go_sem] theorem sz130 {a b c : Nat} : (a = a + 1 + 1 + 1 + b + c) = False := by apply eq_false; omega
@[go_sem] theorem sz131 {a b c : Nat} : (a < a + 1 + 1 + 1 + b + c) = True := by apply eq_true; omega
@[go_sem] theorem sz132 {a b c : Nat} : (a = a + 1 + 1 + 1 + b + 1 + c) = False := by apply eq_false; omega
@[go_sem] theorem sz133 {a b c : Nat} : (a < a + 1 + 1 + 1 + b + 1 + c) = True := by apply eq_true; omega
@[go_sem] theorem sz134 {a b c : Nat} : (a = a + 1 + 1 + 1 + b + 1 + 1 + c) = False := by apply eq_false; omega
@[go_sem] theorem sz135 {a b c : Nat} : (a < a + 1 + 1 + 1 + b + 1 + 1 + c) = True := by apply eq_true; omega
@[go_sem] theorem sz136 {a b c : Nat} : (a = a + 1 + 1 + 1 + 1 + b + c) = False := by apply eq_false; omega
@[go_sem] theorem sz137 {a b c : Nat} : (a < a + 1 + 1 + 1 + 1 + b + c) = True := by apply eq_true; omega
@[go_sem] theorem sz138 {a b c : Nat} : (a = a + 1 + 1 + 1 + 1 + b + 1 + c) = False := by apply eq_false; omega
@[go_sem] theorem sz139 {a b c : Nat} : (a < a + 1 + 1 + 1 + 1 + b + 1 + c) = True := by apply eq_true; omega
@[go_sem] theorem sz140 {a b c : Nat} : (a = a + 1 + 1 + 1 + 1 + b + 1 + 1 + c) = False := by apply eq_false; omega
@[go_sem] theorem sz141 {a b c : Nat} : (a < a + 1 + 1 + 1 + 1 + b + 1 + 1 + c) = True := by apply eq_true; omega
@[go_sem] theorem sz142 {a b c : Nat} : (a = a + 1 + 1 + 1 + 1 + 1 + b + c) = False := by apply eq_false; omega
@[go_sem] theorem sz143 {a b c : Nat} : (a < a + 1 + 1 + 1 + 1 + 1 + b + c) = True := by apply eq_true; omega
@[go_sem] theorem sz144 {a b c : Nat} : (a = a + 1 + 1 + 1 + 1 + 1 + b + 1 + c) = False := by apply eq_false; omega
@[go_sem] theorem sz145 {a b c : Nat} : (a < a + 1 + 1 + 1 + 1 + 1 + b + 1 + c) = True := by apply eq_true; omega
@[go_sem] theorem sz146 {a b c : Nat} : (a = a + 1 + 1 + 1 + 1 + 1 + b + 1 + 1 + c) = False := by apply eq_false; omega
@[go_sem] theorem sz147 {a b c : Nat} : (a < a + 1 + 1 + 1 + 1 + 1 + b + 1 + 1 + c) = True := by apply eq_true; omega
@[go_sem] theorem sz148 {a b c : Nat} : (a + 1 = a + 1 + 1 + b + c) = False := by apply eq_false; omega
@[go_sem] theorem sz149 {a b c : Nat} : (a + 1 < a + 1 + 1 + b + c) = True := by apply eq_true; omega
@[go_sem] theorem sz150 {a b c : Nat} : (a + 1 = a + 1 + 1 + b + 1 + c) = False := by apply eq_false; omega
@[go_sem] theorem sz151 {a b c : Nat} : (a + 1 < a + 1 + 1 + b + 1 + c) = True := by apply eq_true; omega
@[go_sem] theorem sz152 {a b c : Nat} : (a + 1 = a + 1 + 1 + b + 1 + 1 + c) = False := by apply eq_false; omega
@[go_sem] theorem sz153 {a b c : Nat} : (a + 1 < a + 1 + 1 + b + 1 + 1 + c) = True := by apply eq_true; omega
@[go_sem] theorem sz154 {a b c : Nat} : (a + 1 = a + 1 + 1 + 1 + b + c) = False := by apply eq_false; omega
@[go_sem] theorem sz155 {a b c : Nat} : (a + 1 < a + 1 + 1 + 1 + b + c) = True := by apply eq_true; omega
@[go_sem] theorem sz156 {a b c : Nat} : (a + 1 = a + 1 + 1 + 1 + b + 1 + c) = False := by apply eq_false; omega
@[go_sem] theorem sz157 {a b c : Nat} : (a + 1 < a + 1 + 1 + 1 + b + 1 + c) = True := by apply eq_true; omega
@[go_sem] theorem sz158 {a b c : Nat} : (a + 1 = a + 1 + 1 + 1 + b + 1 + 1 + c) = False := by apply eq_false; omega
@[go_sem] theorem sz159 {a b c : Nat} : (a + 1 < a + 1 + 1 + 1 + b + 1 + 1 + c) = True := by apply eq_true; omega
@[go_sem] theorem sz160 {a b c : Nat} : (a + 1 = a + 1 + 1 + 1 + 1 + b + c) = False := by apply eq_false; omega
@[go_sem] theorem sz161 {a b c : Nat} : (a + 1 < a + 1 + 1 + 1 + 1 + b + c) = True := by apply eq_true; omega
@[go_sem] theorem sz162 {a b c : Nat} : (a + 1 = a + 1 + 1 + 1 + 1 + b + 1 + c) = False := by apply eq_false; omega
@[go_sem] theorem sz163 {a b c : Nat} : (a + 1 < a + 1 + 1 + 1 + 1 + b + 1 + c) = True := by apply eq_true; omega
@[go_sem] theorem sz164 {a b c : Nat} : (a + 1 = a + 1 + 1 + 1 + 1 + b + 1 + 1 + c) = False := by apply eq_false; omega
@[go_sem] theorem sz165 {a b c : Nat} : (a + 1 < a + 1 + 1 + 1 + 1 + b + 1 + 1 + c) = True := by apply eq_true; omega
@[go_sem] theorem sz166 {a b c : Nat} : (a + 1 = a + 1 + 1 + 1 + 1 + 1 + b + c) = False := by apply eq_false; omega
@[go_sem] theorem sz167 {a b c : Nat} : (a + 1 < a + 1 + 1 + 1 + 1 + 1 + b + c) = True := by apply eq_true; omega
@[go_sem] theorem sz168 {a b c : Nat} : (a + 1 = a + 1 + 1 + 1 + 1 + 1 + b + 1 + c) = False := by apply eq_false; omega
@[go_sem] theorem sz169 {a b c : Nat} : (a + 1 < a + 1 + 1 + 1 + 1 + 1 + b + 1 + c) = True := by apply eq_true; omega
@[go_sem] theorem sz170 {a b c : Nat} : (a + 1 = a + 1 + 1 + 1 + 1 + 1 + b + 1 + 1 + c) = False := by apply eq_false; omega
@[go_sem] theorem sz171 {a b c : Nat} : (a + 1 < a + 1 + 1 + 1 + 1 + 1 + b + 1 + 1 + c) = True := by apply eq_true; omega
@[go_sem] theorem sz172 {a b c : Nat} : (a + 1 + 1 = a + 1 + 1 + 1 + b + c) = False := by apply eq_false; omega
@[go_sem] theorem sz173 {a b c : Nat} : (a + 1 + 1 < a + 1 + 1 + 1 + b + c) = True := by apply eq_true; omega
@[go_sem] theorem sz174 {a b c : Nat} : (a + 1 + 1 = a + 1 + 1 + 1 + b + 1 + c) = False := by apply eq_false; omega
@[go_sem] theorem sz175 {a b c : Nat} : (a + 1 + 1 < a + 1 + 1 + 1 + b + 1 + c) = True := by apply eq_true; omega
@[go_sem] theorem sz176 {a b c : Nat} : (a + 1 + 1 = a + 1 + 1 + 1 + b + 1 + 1 + c) = False := by apply eq_false; omega
@[go_sem] theorem sz177 {a b c : Nat} : (a + 1 + 1 < a + 1 + 1 + 1 + b + 1 + 1 + c) = True := by apply eq_true; omega
@[go_sem] theorem sz178 {a b c : Nat} : (a + 1 + 1 = a + 1 + 1 + 1 + 1 + b + c) = False := by apply eq_false; omega
@[go_sem] theorem sz179 {a b c : Nat} : (a + 1 + 1 < a + 1 + 1 + 1 + 1 + b + c) = True := by apply eq_true; omega
@[go_sem] theorem sz180 {a b c : Nat} : (a + 1 + 1 = a + 1 + 1 + 1 + 1 + b + 1 + c) = False := by apply eq_false; omega
@[go_sem] theorem sz181 {a b c : Nat} : (a + 1 + 1 < a + 1 + 1 + 1 + 1 + b + 1 + c) = True := by apply eq_true; omega
@[go_sem] theorem sz182 {a b c : Nat} : (a + 1 + 1 = a + 1 + 1 + 1 + 1 + b + 1 + 1 + c) = False := by apply eq_false; omega
@[go_sem] theorem sz183 {a b c : Nat} : (a + 1 + 1 < a + 1 + 1 + 1 + 1 + b + 1 + 1 + c) = True := by apply eq_true; omega
@[go_sem] theorem sz184 {a b c : Nat} : (a + 1 + 1 = a + 1 + 1 + 1 + 1 + 1 + b + c) = False := by apply eq_false; omega
@[go_sem] theorem sz185 {a b c : Nat} : (a + 1 + 1 < a + 1 + 1 + 1 + 1 + 1 + b + c) = True := by apply eq_true; omega
@[go_sem] theorem sz186 {a b c : Nat} : (a + 1 + 1 = a + 1 + 1 + 1 + 1 + 1 + b + 1 + c) = False := by apply eq_false; omega
@[go_sem] theorem sz187 {a b c : Nat} : (a + 1 + 1 < a + 1 + 1 + 1 + 1 + 1 + b + 1 + c) = True := by apply eq_true; omega
@[go_sem] theorem sz188 {a b c : Nat} : (a + 1 + 1 = a + 1 + 1 + 1 + 1 + 1 + b + 1 + 1 + c) = False := by apply eq_false; omega
@[go_sem] theorem sz189 {a b c : Nat} : (a + 1 + 1 < a + 1 + 1 + 1 + 1 + 1 + b + 1 + 1 + c) = True := by apply eq_true; omega
@[go_sem] theorem sz190 {a b c : Nat} : (a + 1 + 1 + 1 = a + 1 + 1 + 1 + 1 + b + c) = False := by apply eq_false; omega
@[go_sem] theorem sz191 {a b c : Nat} : (a + 1 + 1 + 1 < a + 1 + 1 + 1 + 1 + b + c) = True := by apply eq_true; omega
@[go_sem] theorem sz192 {a b c : Nat} : (a + 1 + 1 + 1 = a + 1 + 1 + 1 + 1 + b + 1 + c) = False := by apply eq_false; omega
@[go_sem] theorem sz193 {a b c : Nat} : (a + 1 + 1 + 1 < a + 1 + 1 + 1 + 1 + b + 1 + c) = True := by apply eq_true; omega
@[go_sem] theorem sz194 {a b c : Nat} : (a + 1 + 1 + 1 = a + 1 + 1 + 1 + 1 + b + 1 + 1 + c) = False := by apply eq_false; omega
@[go_sem] theorem sz195 {a b c : Nat} : (a + 1 + 1 + 1 < a + 1 + 1 + 1 + 1 + b + 1 + 1 + c) = True := by apply eq_true; omega
@[go_sem] theorem sz196 {a b c : Nat} : (a + 1 + 1 + 1 = a + 1 + 1 + 1 + 1 + 1 + b + c) = False := by apply eq_false; omega
@[go_sem] theorem sz197 {a b c : Nat} : (a + 1 + 1 + 1 < a + 1 + 1 + 1 + 1 + 1 + b + c) = True := by apply eq_true; omega
@[go_sem] theorem sz198 {a b c : Nat} : (a + 1 + 1 + 1 = a + 1 + 1 + 1 + 1 + 1 + b + 1 + c) = False := by apply eq_false; omega
@[go_sem] theorem sz199 {a b c : Nat} : (a + 1 + 1 + 1 < a + 1 + 1 + 1 + 1 + 1 + b + 1 + c) = True := by apply eq_true; omega
@[go_sem] theorem sz200 {a b c : Nat} : (a + 1 + 1 + 1 = a + 1 + 1 + 1 + 1 + 1 + b + 1 + 1 + c) = False := by apply eq_false; omega
@[go_sem] theorem sz201 {a b c : Nat} : (a + 1 + 1 + 1 < a + 1 + 1 + 1 + 1 + 1 + b + 1 + 1 + c) = True := by apply eq_true; omega
@[go_sem] theorem sz202 {a b c : Nat} : (a + 1 + 1 + 1 + 1 = a + 1 + 1 + 1 + 1 + 1 + b + c) = False := by apply eq_false; omega
@[go_sem] theorem sz203 {a b c : Nat} : (a + 1 + 1 + 1 + 1 < a + 1 + 1 + 1 + 1 + 1 + b + c) = True := by apply eq_true; omega
@[go_sem] theorem sz204 {a b c : Nat} : (a + 1 + 1 + 1 + 1 = a + 1 + 1 + 1 + 1 + 1 + b + 1 + c) = False := by apply eq_false; omega
@[go_sem] theorem sz205 {a b c : Nat} : (a + 1 + 1 + 1 + 1 < a + 1 + 1 + 1 + 1 + 1 + b + 1 + c) = True := by apply eq_true; omega
@[go_sem] theorem sz206 {a b c : Nat} : (a + 1 + 1 + 1 + 1 = a + 1 + 1 + 1 + 1 + 1 + b + 1 + 1 + c) = False := by apply eq_false; omega
@[go_sem] theorem sz207 {a b c : Nat} : (a + 1 + 1 + 1 + 1 < a + 1 + 1 + 1 + 1 + 1 + b + 1 + 1 + c) = True := by apply eq_true; omega

section
variable (w : World) (x : Ext) (c : Array Value) (o : Obj) (t : TypeId) (n : Nat)
@[go_sem] theorem World.row_plus : (w.plus x).row n = if n < w.heap.size then w.row n else x.bs[n - w.heap.size]? := by
  unfold World.row World.plus
  simp only [Array.getElem?_append]
@[go_sem] theorem World.row_alloc : (w.alloc o).row n = if n = w.heap.size then some o else w.row n := by
  unfold World.row
  split
  · rename_i h; subst h; exact heap_alloc_new w o
  · rename_i h
    show (w.heap.push o)[n]? = _
    rw [Array.getElem?_push, if_neg h]
@[go_sem] theorem World.heap_drew (n : Nat) : w.drew.row n = w.row n := rfl
theorem World.setRow_alloc_new (c c' : Array Value) : (w.alloc (.cells c t)).setRow w.heap.size c' = w.alloc (.cells c' t) := by
  cases w with
  | mk heap tape drawn os output =>
    simp only [World.setRow, World.alloc]
    congr 1
    apply Array.ext
    · simp
    · intro k h1 h2
      simp only [Array.getElem_modify, Array.getElem_push]
      split
      · rename_i hk; subst hk; simp
      · rename_i hk; rw [dif_pos (by simp at h2; omega), dif_pos (by simp at h2; omega)]
@[go_sem] theorem World.setRow_alloc_at (c c' : Array Value) (h : n = w.heap.size) : (w.alloc (.cells c t)).setRow n c' = w.alloc (.cells c' t) := by subst h; exact World.setRow_alloc_new w t c c'
@[go_sem] theorem World.setRow_alloc_at' (c c' : Array Value) : (w.alloc (.cells c t)).setRow w.heap.size c' = w.alloc (.cells c' t) := World.setRow_alloc_new w t c c'
@[go_sem] theorem World.setRow_alloc_lt (h : n < w.heap.size) : (w.alloc o).setRow n c = (w.setRow n c).alloc o := by
  cases w with
  | mk heap tape drawn os output =>
    simp only [World.setRow, World.alloc]
    congr 1
    simp only at h
    apply Array.ext
    · simp
    · intro k h1 h2
      simp only [Array.getElem_modify, Array.getElem_push, Array.size_modify]
      by_cases hk : n = k
      · subst hk; simp [h]
      · simp [hk]
@[go_sem] theorem World.setRow_plus (h : n < w.heap.size) : (w.plus x).setRow n c = (w.setRow n c).plus x := by
  cases w
  simp only [World.setRow, World.plus] at *
  congr 1
  apply Array.ext
  · simp
  · intro k h1 h2
    simp only [Array.getElem_modify, Array.getElem_append, Array.size_modify]
    by_cases hk : n = k
    · subst hk; simp [h]
    · simp [hk]
@[go_sem] theorem World.setRow_drew : w.drew.setRow n c = (w.setRow n c).drew := rfl
end
attribute [go_sem] setRow_size
end Go

/- LAWS over any program: what one operation runs. No condition. -/
namespace Go
open Go.RowKit

def loadR (t : TypeId) (v : Value) : Sem Value := Instr.loadAt t v
def storeR (t : TypeId) (v x : Value) : Sem Unit := Instr.storeAt t v x
def buildR (t : TypeId) (parts : List (Nat × Value)) : Sem Value := Instr.build t parts.toArray
def boxR (e : TypeId) (v : Value) : Sem Value := Instr.box e v
def allocR (e : TypeId) : Sem Value := Instr.alloc e true (.tuple #[])
def dynCall (f : Value) (args : Array Value) : Sem Next := do let d ← Deferred.ofValue f args; invoke d.target d.args

section
variable {P : Program} (w : World)
@[go_sem low] theorem run_loadR (t : TypeId) (v : Value) : (loadR t v).run P w = (Instr.loadAt t v).run P w := rfl
@[go_sem low] theorem run_storeR (t : TypeId) (v x : Value) : (storeR t v x).run P w = (Instr.storeAt t v x).run P w := rfl
@[go_sem low] theorem run_buildR (t : TypeId) (parts : List (Nat × Value)) : (buildR t parts).run P w = (Instr.build t parts.toArray).run P w := rfl
@[go_sem low] theorem run_allocR (e : TypeId) : (allocR e).run P w = (Instr.alloc e true (.tuple #[])).run P w := rfl
@[go_sem] theorem run_boxR (e : TypeId) (v : Value) : (boxR e v).run P w = .ok (.pointer (some ⟨w.heap.size, 0, none⟩)) (w.alloc (.cells v.cells e)) := rfl
@[go_sem] theorem dynCall_func (f : FuncId) (fs cs args : Array Value) : dynCall (.func (.func f) fs cs) args = callFunc f (fs ++ args ++ cs) := rfl
theorem run_loadR_row {t : TypeId} {n : Nat} {d : TypeDesc} {g : Nat} (hu : P.underlying t = some d) (hd : (match d with | .struct _ | .array _ _ => true | _ => false) = true)
    (hi : (P.info? t).map (·.size) = some n) (h : rowOk n (w.row g) = true) : (loadR t (.pointer (some ⟨g, 0, none⟩))).run P w = .ok (rowV (w.row g)) w :=
  run_loadVar_rowV hu hd hi h
theorem run_storeR_row {t : TypeId} {n : Nat} {g : Nat} {l : List Value} (hi : (P.info? t).map (·.size) = some n) (h1 : (l.length == n && l.all (·.oneCell')) = true) (h : rowOkW n (w.row g) = true) :
    (storeR t (.pointer (some ⟨g, 0, none⟩)) (.agg l.toArray)).run P w = .ok () (w.setRow g l.toArray) :=
  run_storeVar_rowV hi h1 h
theorem run_buildR_of {t : TypeId} {parts : List (Nat × Value)} {cells : Array Value} (h : P.built t parts = some cells) : (buildR t parts).run P w = .ok (.agg cells) w :=
  run_build w t _ _ h
end
section
variable {P : Program} {fn : Func} {a : Act} {w : World} {R : Ending → World → Prop}
/-- a return of one struct that stands in memory -/
theorem ret_cell {p : Tmp} {t : TypeId} {n g : Nat} {d : TypeDesc} (h : fn.results = #[.cell p t]) (hp : a.tmps.getD p undef = .pointer (some ⟨g, 0, none⟩)) (hu : P.underlying t = some d)
    (hd : (match d with | .struct _ | .array _ _ => true | _ => false) = true) (hi : (P.info? t).map (·.size) = some n) (hrow : rowOk n (w.row g) = true) (hdf : a.defers = [])
    (hR : R (.returned (rowV (w.row g))) w) : bodyPost P fn R .ret a w := by
  refine bodyPost_ret ?_ hdf hR
  have hp' : a.tmps[p]?.getD undef = .pointer (some ⟨g, 0, none⟩) := by simpa using hp
  simp [results, h, hp', asAddr, run_loadVar_rowV hu hd hi hrow]
/-- of a struct that stands in memory, and another value -/
theorem ret_cell_tmp {p q : Tmp} {t : TypeId} {n g : Nat} {d : TypeDesc} (h : fn.results = #[.cell p t, .tmp q]) (hp : a.tmps.getD p undef = .pointer (some ⟨g, 0, none⟩)) (hu : P.underlying t = some d)
    (hd : (match d with | .struct _ | .array _ _ => true | _ => false) = true) (hi : (P.info? t).map (·.size) = some n) (hrow : rowOk n (w.row g) = true) (hdf : a.defers = [])
    (hR : R (.returned (.tuple #[rowV (w.row g), a.tmps.getD q undef])) w) : bodyPost P fn R .ret a w := by
  refine bodyPost_ret ?_ hdf hR
  have hp' : a.tmps[p]?.getD undef = .pointer (some ⟨g, 0, none⟩) := by simpa using hp
  simp [results, h, hp', asAddr, run_loadVar_rowV hu hd hi hrow]
end
section
variable (ρ : Operand → Value)
@[go_sem ↓] theorem exec_box (dst : Option Tmp) (e : TypeId) (x : Operand) (ty : TypeId) (pos : String) (after : Array Edge) (guard : Option (Nat × Bool)) : execOp ρ { dst, op := .box e x, type := ty, pos, after, guard } = (do pure (.value (← boxR e (ρ x)))) := rfl
@[go_sem ↓] theorem exec_alloc (dst : Option Tmp) (e : TypeId) (ty : TypeId) (pos : String) (after : Array Edge) (guard : Option (Nat × Bool)) : execOp ρ { dst, op := .alloc e, type := ty, pos, after, guard } = (do pure (.value (← allocR e))) := rfl
@[go_sem ↓] theorem exec_build (dst : Option Tmp) (t : TypeId) (parts : List (Nat × Operand)) (ty : TypeId) (pos : String) (after : Array Edge) (guard : Option (Nat × Bool)) : execOp ρ { dst, op := .build t parts.toArray, type := ty, pos, after, guard } = (do pure (.value (← buildR t (parts.map fun (i, x) => (i, ρ x))))) := by
  simp only [execOp, buildR, List.map_toArray]
@[go_sem ↓] theorem exec_buildSlice (dst : Option Tmp) (t : TypeId) (n : Nat) (parts : Array (Nat × Operand)) (ty : TypeId) (pos : String) (after : Array Edge) (guard : Option (Nat × Bool)) : execOp ρ { dst, op := .buildSlice t n parts, type := ty, pos, after, guard } = (do pure (.value (← Instr.buildSlice t n (parts.map fun (i, x) => (i, ρ x))))) := rfl
@[go_sem ↓] theorem exec_load (dst : Option Tmp) (t : TypeId) (x : Operand) (ty : TypeId) (pos : String) (after : Array Edge) (guard : Option (Nat × Bool)) : execOp ρ { dst, op := .load t x, type := ty, pos, after, guard } = (do pure (.value (← loadR t (ρ x)))) := rfl
@[go_sem ↓] theorem exec_store (dst : Option Tmp) (t : TypeId) (x y : Operand) (ty : TypeId) (pos : String) (after : Array Edge) (guard : Option (Nat × Bool)) : execOp ρ { dst, op := .store t x y, type := ty, pos, after, guard } = (do storeR t (ρ x) (ρ y); pure .skip) := rfl
@[go_sem ↓] theorem exec_unOp (dst : Option Tmp) (op : UnOp) (t : TypeId) (x : Operand) (ty : TypeId) (pos : String) (after : Array Edge) (guard : Option (Nat × Bool)) : execOp ρ { dst, op := .unOp op t x, type := ty, pos, after, guard } = (do pure (.value (← Op.unary op (ρ x)))) := rfl
@[go_sem ↓] theorem exec_convert (dst : Option Tmp) (s d : TypeId) (x : Operand) (ty : TypeId) (pos : String) (after : Array Edge) (guard : Option (Nat × Bool)) : execOp ρ { dst, op := .convert s d x, type := ty, pos, after, guard } = (do pure (.value (← Go.convert s d (ρ x)))) := rfl
@[go_sem ↓] theorem exec_makeFunc (dst : Option Tmp) (fn : Fn) (f c : Array Operand) (ty : TypeId) (pos : String) (after : Array Edge) (guard : Option (Nat × Bool)) : execOp ρ { dst, op := .makeFunc fn f c, type := ty, pos, after, guard } = (do pure (.value (← Instr.makeFunc fn (f.map ρ) (c.map ρ)))) := rfl
@[go_sem ↓] theorem exec_makeMap (dst : Option Tmp) (t : TypeId) (r : Option Operand) (ty : TypeId) (pos : String) (after : Array Edge) (guard : Option (Nat × Bool)) : execOp ρ { dst, op := .makeMap t r, type := ty, pos, after, guard } = (do pure (.value (← Instr.makeMap t (r.map ρ)))) := rfl
@[go_sem ↓] theorem exec_makeSlice (dst : Option Tmp) (t : TypeId) (x y : Operand) (ty : TypeId) (pos : String) (after : Array Edge) (guard : Option (Nat × Bool)) : execOp ρ { dst, op := .makeSlice t x y, type := ty, pos, after, guard } = (do pure (.value (← Instr.makeSlice t (ρ x) (ρ y)))) := rfl
@[go_sem ↓] theorem exec_makeInterface (dst : Option Tmp) (t : TypeId) (x : Operand) (ty : TypeId) (pos : String) (after : Array Edge) (guard : Option (Nat × Bool)) : execOp ρ { dst, op := .makeInterface t x, type := ty, pos, after, guard } = (do pure (.value (← Instr.makeInterface t (ρ x)))) := rfl
@[go_sem ↓] theorem exec_slice (dst : Option Tmp) (t : TypeId) (x : Operand) (lo hi mx : Option Operand) (ty : TypeId) (pos : String) (after : Array Edge) (guard : Option (Nat × Bool)) : execOp ρ { dst, op := .slice t x lo hi mx, type := ty, pos, after, guard } = (do pure (.value (← Instr.sliceAt t (ρ x) (lo.map ρ) (hi.map ρ) (mx.map ρ)))) := rfl
@[go_sem ↓] theorem exec_fieldAddr (dst : Option Tmp) (t : TypeId) (x : Operand) (f : Nat) (ty : TypeId) (pos : String) (after : Array Edge) (guard : Option (Nat × Bool)) : execOp ρ { dst, op := .fieldAddr t x f, type := ty, pos, after, guard } = (do pure (.value (← Instr.fieldAt t (ρ x) f))) := rfl
@[go_sem ↓] theorem exec_field (dst : Option Tmp) (t : TypeId) (x : Operand) (f : Nat) (ty : TypeId) (pos : String) (after : Array Edge) (guard : Option (Nat × Bool)) : execOp ρ { dst, op := .field t x f, type := ty, pos, after, guard } = (do pure (.value (← Instr.field t (ρ x) f))) := rfl
@[go_sem ↓] theorem exec_indexAddr (dst : Option Tmp) (t : TypeId) (x y : Operand) (ty : TypeId) (pos : String) (after : Array Edge) (guard : Option (Nat × Bool)) : execOp ρ { dst, op := .indexAddr t x y, type := ty, pos, after, guard } = (do pure (.value (← Instr.indexAt t (ρ x) (ρ y)))) := rfl
@[go_sem ↓] theorem exec_index (dst : Option Tmp) (t : TypeId) (x y : Operand) (ty : TypeId) (pos : String) (after : Array Edge) (guard : Option (Nat × Bool)) : execOp ρ { dst, op := .index t x y, type := ty, pos, after, guard } = (do pure (.value (← Instr.index t (ρ x) (ρ y)))) := rfl
@[go_sem ↓] theorem exec_extract (dst : Option Tmp) (x : Operand) (i : Nat) (ty : TypeId) (pos : String) (after : Array Edge) (guard : Option (Nat × Bool)) : execOp ρ { dst, op := .extract x i, type := ty, pos, after, guard } = (do pure (.value (← Instr.extract (ρ x) i))) := rfl
@[go_sem ↓] theorem exec_lookup (dst : Option Tmp) (t : TypeId) (x y : Operand) (ok : Bool) (ty : TypeId) (pos : String) (after : Array Edge) (guard : Option (Nat × Bool)) : execOp ρ { dst, op := .lookup t x y ok, type := ty, pos, after, guard } = (do pure (.value (← Instr.lookup t (ρ x) (ρ y) ok))) := rfl
@[go_sem ↓] theorem exec_pick (dst : Option Tmp) (c x y : Operand) (ty : TypeId) (pos : String) (after : Array Edge) (guard : Option (Nat × Bool)) : execOp ρ { dst, op := .pick c x y, type := ty, pos, after, guard } = (do pure (.value (if ← asBool (ρ c) then ρ x else ρ y))) := rfl
@[go_sem ↓] theorem exec_move (dst : Option Tmp) (x : Operand) (ty : TypeId) (pos : String) (after : Array Edge) (guard : Option (Nat × Bool)) : execOp ρ { dst, op := .move x, type := ty, pos, after, guard } = pure (.value (ρ x)) := rfl
@[go_sem ↓] theorem exec_assign (dst : Option Tmp) (x : Operand) (ty : TypeId) (pos : String) (after : Array Edge) (guard : Option (Nat × Bool)) : execOp ρ { dst, op := .assign x, type := ty, pos, after, guard } = pure (.value (ρ x)) := rfl
@[go_sem ↓] theorem exec_callValue (dst : Option Tmp) (f : Tmp) (xs : Array Operand) (ats : Array TypeId) (ty : TypeId) (pos : String) (after : Array Edge) (guard : Option (Nat × Bool)) : execOp ρ { dst, op := .call { callee := .value (.tmp f), args := xs, argTypes := ats }, type := ty, pos, after, guard } = dynCall (ρ (.tmp f)) (xs.map ρ) := rfl
@[go_sem ↓] theorem exec_binOp (dst : Option Tmp) (op : BinOp) (t : TypeId) (x y : Operand) (t2 : TypeId) (ty : TypeId) (pos : String) (after : Array Edge) (guard : Option (Nat × Bool)) : execOp ρ { dst, op := .binOp op t x y t2, type := ty, pos, after, guard } = (do eqGuard op t x y (ρ x) (ρ y); pure (.value (← Go.binOp op t (ρ x) (ρ y)))) := by
  simp only [execOp, bind_assoc]
end

/-- an operation in every world that has grown: the world written out first -/
@[go_sem ↓] theorem quiet_plus {P : Program} (o : Oper) (a : Act) (W : World) (K : Act → Prop) : Oper.quiet P o a (fun w => ∃ x, w = W.plus x) K = ∃ v, (∀ x, Oper.quietAt P o a (fun w => ∃ x, w = W.plus x) (W.plus x) v) ∧ K (a.put o.dst v) := by
  unfold Oper.quiet
  apply propext
  constructor
  · rintro ⟨v, h, k⟩; exact ⟨v, fun x => h _ ⟨x, rfl⟩, k⟩
  · rintro ⟨v, h, k⟩; exact ⟨v, fun w ⟨x, hx⟩ => hx ▸ h x, k⟩
end Go

/- LAWS over any program: a world taken for another one of which only some blocks are known. No condition. -/
namespace Go
open Go.RowKit

theorem abs_rows {G : World → Prop} {w W : World} (g : w.grows W) (l : List (Nat × Obj)) (hl : ∀ p ∈ l, W.row p.1 = some p.2) (h : ∀ W', w.grows W' → (∀ p ∈ l, W'.row p.1 = some p.2) → G W') : G W := h W g hl
theorem row_lt {W : World} {i : Nat} {o : Obj} (h : W.row i = some o) : i < W.heap.size := by
  unfold World.row at h; exact (Array.getElem?_eq_some_iff.1 h).1
theorem row_plus_of {W : World} {i : Nat} {o : Obj} (h : W.row i = some o) (x : Ext) : (W.plus x).row i = some o := by
  rw [World.row_plus, if_pos (row_lt h), h]
theorem row_alloc_of {W : World} {i : Nat} {o : Obj} (h : W.row i = some o) (c : Obj) : (W.alloc c).row i = some o := by
  rw [World.row_alloc, if_neg (by have := row_lt h; omega), h]
theorem row_sz {W : World} {i : Nat} {o : Obj} (h : W.row i = some o) : (i < W.heap.size) ∧ (∀ b, i < W.heap.size + b) ∧ (∀ b c, i < W.heap.size + b + c) ∧ (∀ b c d, i < W.heap.size + b + c + d) ∧
    ((i = W.heap.size) = False) ∧ (∀ b, (i = W.heap.size + b) = False) ∧ (∀ b c, (i = W.heap.size + b + c) = False) ∧ (∀ b c d, (i = W.heap.size + b + c + d) = False) := by
  have := row_lt h
  refine ⟨this, fun b => by omega, fun b c => by omega, fun b c d => by omega, by apply eq_false; omega, fun b => by apply eq_false; omega, fun b c => by apply eq_false; omega, fun b c d => by apply eq_false; omega⟩
end Go

/- LAWS on worlds: every cell read through its block's row; stores by rows. No condition. -/
namespace Go
open Go.RowKit

def cellR (i : Nat) : Option Obj → Option Value
  | some (.cells cs _ _) => cs[i]?
  | _ => none
def frozenR (i : Nat) : Option Obj → Bool
  | some (.cells _ _ (lo, hi)) => lo ≤ i && i < hi
  | _ => false
def setR (i : Nat) (v : Value) : Option Obj → Option Obj
  | some (.cells cs t fr) => some (.cells (cs.setIfInBounds i v) t fr)
  | o => o
def allR (c : Array Value) : Option Obj → Option Obj
  | some (.cells _ t fr) => some (.cells c t fr)
  | o => o
@[go_sem] theorem cellR_some (i : Nat) (cs : Array Value) (t : TypeId) (fr : Nat × Nat) : cellR i (some (.cells cs t fr)) = cs[i]? := rfl
@[go_sem] theorem frozenR_some (i : Nat) (cs : Array Value) (t : TypeId) (a b : Nat) : frozenR i (some (.cells cs t (a, b))) = (decide (a ≤ i) && decide (i < b)) := rfl
@[go_sem] theorem setR_some (i : Nat) (v : Value) (cs : Array Value) (t : TypeId) (fr : Nat × Nat) : setR i v (some (.cells cs t fr)) = some (.cells (cs.setIfInBounds i v) t fr) := rfl
@[go_sem] theorem allR_some (c cs : Array Value) (t : TypeId) (fr : Nat × Nat) : allR c (some (.cells cs t fr)) = some (.cells c t fr) := rfl
@[go_sem] theorem World.cell?_row (w : World) (g i : Nat) : w.cell? ⟨g, i, none⟩ = cellR i (w.row g) := by
  unfold World.cell? World.row cellR
  simp only
  cases w.heap[g]? with
  | none => rfl
  | some o => cases o <;> simp
@[go_sem] theorem World.frozen?_row (w : World) (g i : Nat) : w.frozen? ⟨g, i, none⟩ = frozenR i (w.row g) := by
  unfold World.frozen? World.row frozenR
  simp only
  cases w.heap[g]? with
  | none => rfl
  | some o => cases o <;> rfl
@[go_sem] theorem World.row_setCell (w : World) (g i n : Nat) (v : Value) : (w.setCell ⟨g, i, none⟩ v).row n = if n = g then setR i v (w.row g) else w.row n := by
  unfold World.setCell World.row setR
  simp only [Array.getElem?_modify]
  by_cases h : n = g
  · subst h
    simp only [if_pos]
    cases w.heap[n]? with
    | none => rfl
    | some o => cases o <;> simp
  · rw [if_neg (fun e => h e.symm), if_neg h]
@[go_sem] theorem World.row_setRow (w : World) (g n : Nat) (c : Array Value) : (w.setRow g c).row n = if n = g then allR c (w.row g) else w.row n := by
  unfold World.setRow World.row allR
  simp only [Array.getElem?_modify]
  by_cases h : n = g
  · subst h
    simp only [if_pos]
    cases w.heap[n]? with
    | none => rfl
    | some o => cases o <;> simp
  · rw [if_neg (fun e => h e.symm), if_neg h]
theorem World.setRow_size' (w : World) (g : Nat) (c : Array Value) : (w.setRow g c).heap.size = w.heap.size := by simp [World.setRow]
theorem World.grows.setRow' {a b : World} (h : a.grows b) {n : Nat} (hn : a.heap.size ≤ n) (c : Array Value) : a.grows (b.setRow n c) := by
  obtain ⟨x, rfl⟩ := h
  refine World.grows.of_below ⟨rfl, rfl, rfl, ?_, fun k hk => ?_⟩
  · rw [World.setRow_size']; simp
  · rw [setRow_other _ _ _ _ (by omega)]; exact World.heap_plus_lt _ _ hk
theorem World.setCell_size' (w : World) (g : Addr) (c : Value) : (w.setCell g c).heap.size = w.heap.size := by simp [World.setCell]
theorem World.grows.setCell' {a b : World} (h : a.grows b) {n : Nat} (hn : a.heap.size ≤ n) (i : Nat) (c : Value) : a.grows (b.setCell ⟨n, i, none⟩ c) := by
  obtain ⟨x, rfl⟩ := h
  refine World.grows.of_below ⟨rfl, rfl, rfl, ?_, fun k hk => ?_⟩
  · rw [World.setCell_size']; simp
  · have : n ≠ k := by omega
    simp only [World.setCell, Array.getElem?_modify, if_neg this]; exact World.heap_plus_lt _ _ hk
theorem grE {a b : World} (h : a.grows b) {n : Nat} (hn : a.heap.size ≤ n) (c : Array Value) : a.grows (b.setRow n c) := h.setRow' hn c
theorem grF {a b : World} (h : a.grows b) {n : Nat} (hn : a.heap.size ≤ n) (i : Nat) (c : Value) : a.grows (b.setCell ⟨n, i, none⟩ c) := h.setCell' hn i c
attribute [go_sem] World.setCell_size'
theorem row_sz' {W : World} {i : Nat} {o : Obj} (h : W.row i = some o) : (i < W.heap.size) ∧ (∀ b, i < W.heap.size + b) ∧ (∀ b c, i < W.heap.size + b + c) ∧ (∀ b c d, i < W.heap.size + b + c + d) ∧ (∀ b c d e, i < W.heap.size + b + c + d + e) ∧
    ((i = W.heap.size) = False) ∧ (∀ b, (i = W.heap.size + b) = False) ∧ (∀ b c, (i = W.heap.size + b + c) = False) ∧ (∀ b c d, (i = W.heap.size + b + c + d) = False) ∧ (∀ b c d e, (i = W.heap.size + b + c + d + e) = False) := by
  have := row_lt h
  refine ⟨this, fun b => by omega, fun b c => by omega, fun b c d => by omega, fun b c d e => by omega, by apply eq_false; omega, fun b => by apply eq_false; omega, fun b c => by apply eq_false; omega, fun b c d => by apply eq_false; omega, fun b c d e => by apply eq_false; omega⟩
@[go_sem] theorem ne_up1_0 {a : Nat} : (a + 1 = a) = False := by apply eq_false; omega
@[go_sem] theorem ne_up2_0 {a : Nat} : (a + 1 + 1 = a) = False := by apply eq_false; omega
@[go_sem] theorem ne_up2_1 {a : Nat} : (a + 1 + 1 = a + 1) = False := by apply eq_false; omega
@[go_sem] theorem ne_dn2_1 {a : Nat} : (a + 1 = a + 1 + 1) = False := by apply eq_false; omega
@[go_sem] theorem ne_up3_0 {a : Nat} : (a + 1 + 1 + 1 = a) = False := by apply eq_false; omega
@[go_sem] theorem ne_up3_1 {a : Nat} : (a + 1 + 1 + 1 = a + 1) = False := by apply eq_false; omega
@[go_sem] theorem ne_dn3_1 {a : Nat} : (a + 1 = a + 1 + 1 + 1) = False := by apply eq_false; omega
@[go_sem] theorem ne_up3_2 {a : Nat} : (a + 1 + 1 + 1 = a + 1 + 1) = False := by apply eq_false; omega
@[go_sem] theorem ne_dn3_2 {a : Nat} : (a + 1 + 1 = a + 1 + 1 + 1) = False := by apply eq_false; omega
@[go_sem] theorem ne_up4_0 {a : Nat} : (a + 1 + 1 + 1 + 1 = a) = False := by apply eq_false; omega
@[go_sem] theorem ne_up4_1 {a : Nat} : (a + 1 + 1 + 1 + 1 = a + 1) = False := by apply eq_false; omega
@[go_sem] theorem ne_dn4_1 {a : Nat} : (a + 1 = a + 1 + 1 + 1 + 1) = False := by apply eq_false; omega
@[go_sem] theorem ne_up4_2 {a : Nat} : (a + 1 + 1 + 1 + 1 = a + 1 + 1) = False := by apply eq_false; omega
@[go_sem] theorem ne_dn4_2 {a : Nat} : (a + 1 + 1 = a + 1 + 1 + 1 + 1) = False := by apply eq_false; omega
@[go_sem] theorem ne_up4_3 {a : Nat} : (a + 1 + 1 + 1 + 1 = a + 1 + 1 + 1) = False := by apply eq_false; omega
@[go_sem] theorem ne_dn4_3 {a : Nat} : (a + 1 + 1 + 1 = a + 1 + 1 + 1 + 1) = False := by apply eq_false; omega
@[go_sem] theorem ne_up5_0 {a : Nat} : (a + 1 + 1 + 1 + 1 + 1 = a) = False := by apply eq_false; omega
@[go_sem] theorem ne_up5_1 {a : Nat} : (a + 1 + 1 + 1 + 1 + 1 = a + 1) = False := by apply eq_false; omega
@[go_sem] theorem ne_dn5_1 {a : Nat} : (a + 1 = a + 1 + 1 + 1 + 1 + 1) = False := by apply eq_false; omega
@[go_sem] theorem ne_up5_2 {a : Nat} : (a + 1 + 1 + 1 + 1 + 1 = a + 1 + 1) = False := by apply eq_false; omega
@[go_sem] theorem ne_dn5_2 {a : Nat} : (a + 1 + 1 = a + 1 + 1 + 1 + 1 + 1) = False := by apply eq_false; omega
@[go_sem] theorem ne_up5_3 {a : Nat} : (a + 1 + 1 + 1 + 1 + 1 = a + 1 + 1 + 1) = False := by apply eq_false; omega
@[go_sem] theorem ne_dn5_3 {a : Nat} : (a + 1 + 1 + 1 = a + 1 + 1 + 1 + 1 + 1) = False := by apply eq_false; omega
@[go_sem] theorem ne_up5_4 {a : Nat} : (a + 1 + 1 + 1 + 1 + 1 = a + 1 + 1 + 1 + 1) = False := by apply eq_false; omega
@[go_sem] theorem ne_dn5_4 {a : Nat} : (a + 1 + 1 + 1 + 1 = a + 1 + 1 + 1 + 1 + 1) = False := by apply eq_false; omega
@[go_sem] theorem ne_up6_0 {a : Nat} : (a + 1 + 1 + 1 + 1 + 1 + 1 = a) = False := by apply eq_false; omega
@[go_sem] theorem ne_up6_1 {a : Nat} : (a + 1 + 1 + 1 + 1 + 1 + 1 = a + 1) = False := by apply eq_false; omega
@[go_sem] theorem ne_dn6_1 {a : Nat} : (a + 1 = a + 1 + 1 + 1 + 1 + 1 + 1) = False := by apply eq_false; omega
@[go_sem] theorem ne_up6_2 {a : Nat} : (a + 1 + 1 + 1 + 1 + 1 + 1 = a + 1 + 1) = False := by apply eq_false; omega
@[go_sem] theorem ne_dn6_2 {a : Nat} : (a + 1 + 1 = a + 1 + 1 + 1 + 1 + 1 + 1) = False := by apply eq_false; omega
@[go_sem] theorem ne_up6_3 {a : Nat} : (a + 1 + 1 + 1 + 1 + 1 + 1 = a + 1 + 1 + 1) = False := by apply eq_false; omega
@[go_sem] theorem ne_dn6_3 {a : Nat} : (a + 1 + 1 + 1 = a + 1 + 1 + 1 + 1 + 1 + 1) = False := by apply eq_false; omega
@[go_sem] theorem ne_up6_4 {a : Nat} : (a + 1 + 1 + 1 + 1 + 1 + 1 = a + 1 + 1 + 1 + 1) = False := by apply eq_false; omega
@[go_sem] theorem ne_dn6_4 {a : Nat} : (a + 1 + 1 + 1 + 1 = a + 1 + 1 + 1 + 1 + 1 + 1) = False := by apply eq_false; omega
@[go_sem] theorem ne_up6_5 {a : Nat} : (a + 1 + 1 + 1 + 1 + 1 + 1 = a + 1 + 1 + 1 + 1 + 1) = False := by apply eq_false; omega
@[go_sem] theorem ne_dn6_5 {a : Nat} : (a + 1 + 1 + 1 + 1 + 1 = a + 1 + 1 + 1 + 1 + 1 + 1) = False := by apply eq_false; omega
@[go_sem] theorem ne_up7_0 {a : Nat} : (a + 1 + 1 + 1 + 1 + 1 + 1 + 1 = a) = False := by apply eq_false; omega
@[go_sem] theorem ne_up7_1 {a : Nat} : (a + 1 + 1 + 1 + 1 + 1 + 1 + 1 = a + 1) = False := by apply eq_false; omega
@[go_sem] theorem ne_dn7_1 {a : Nat} : (a + 1 = a + 1 + 1 + 1 + 1 + 1 + 1 + 1) = False := by apply eq_false; omega
@[go_sem] theorem ne_up7_2 {a : Nat} : (a + 1 + 1 + 1 + 1 + 1 + 1 + 1 = a + 1 + 1) = False := by apply eq_false; omega
@[go_sem] theorem ne_dn7_2 {a : Nat} : (a + 1 + 1 = a + 1 + 1 + 1 + 1 + 1 + 1 + 1) = False := by apply eq_false; omega
@[go_sem] theorem ne_up7_3 {a : Nat} : (a + 1 + 1 + 1 + 1 + 1 + 1 + 1 = a + 1 + 1 + 1) = False := by apply eq_false; omega
@[go_sem] theorem ne_dn7_3 {a : Nat} : (a + 1 + 1 + 1 = a + 1 + 1 + 1 + 1 + 1 + 1 + 1) = False := by apply eq_false; omega
@[go_sem] theorem ne_up7_4 {a : Nat} : (a + 1 + 1 + 1 + 1 + 1 + 1 + 1 = a + 1 + 1 + 1 + 1) = False := by apply eq_false; omega
@[go_sem] theorem ne_dn7_4 {a : Nat} : (a + 1 + 1 + 1 + 1 = a + 1 + 1 + 1 + 1 + 1 + 1 + 1) = False := by apply eq_false; omega
@[go_sem] theorem ne_up7_5 {a : Nat} : (a + 1 + 1 + 1 + 1 + 1 + 1 + 1 = a + 1 + 1 + 1 + 1 + 1) = False := by apply eq_false; omega
@[go_sem] theorem ne_dn7_5 {a : Nat} : (a + 1 + 1 + 1 + 1 + 1 = a + 1 + 1 + 1 + 1 + 1 + 1 + 1) = False := by apply eq_false; omega
@[go_sem] theorem ne_up7_6 {a : Nat} : (a + 1 + 1 + 1 + 1 + 1 + 1 + 1 = a + 1 + 1 + 1 + 1 + 1 + 1) = False := by apply eq_false; omega
@[go_sem] theorem ne_dn7_6 {a : Nat} : (a + 1 + 1 + 1 + 1 + 1 + 1 = a + 1 + 1 + 1 + 1 + 1 + 1 + 1) = False := by apply eq_false; omega
@[go_sem] theorem ne_up8_0 {a : Nat} : (a + 1 + 1 + 1 + 1 + 1 + 1 + 1 + 1 = a) = False := by apply eq_false; omega
@[go_sem] theorem ne_up8_1 {a : Nat} : (a + 1 + 1 + 1 + 1 + 1 + 1 + 1 + 1 = a + 1) = False := by apply eq_false; omega
@[go_sem] theorem ne_dn8_1 {a : Nat} : (a + 1 = a + 1 + 1 + 1 + 1 + 1 + 1 + 1 + 1) = False := by apply eq_false; omega
@[go_sem] theorem ne_up8_2 {a : Nat} : (a + 1 + 1 + 1 + 1 + 1 + 1 + 1 + 1 = a + 1 + 1) = False := by apply eq_false; omega
@[go_sem] theorem ne_dn8_2 {a : Nat} : (a + 1 + 1 = a + 1 + 1 + 1 + 1 + 1 + 1 + 1 + 1) = False := by apply eq_false; omega
@[go_sem] theorem ne_up8_3 {a : Nat} : (a + 1 + 1 + 1 + 1 + 1 + 1 + 1 + 1 = a + 1 + 1 + 1) = False := by apply eq_false; omega
@[go_sem] theorem ne_dn8_3 {a : Nat} : (a + 1 + 1 + 1 = a + 1 + 1 + 1 + 1 + 1 + 1 + 1 + 1) = False := by apply eq_false; omega
@[go_sem] theorem ne_up8_4 {a : Nat} : (a + 1 + 1 + 1 + 1 + 1 + 1 + 1 + 1 = a + 1 + 1 + 1 + 1) = False := by apply eq_false; omega
@[go_sem] theorem ne_dn8_4 {a : Nat} : (a + 1 + 1 + 1 + 1 = a + 1 + 1 + 1 + 1 + 1 + 1 + 1 + 1) = False := by apply eq_false; omega
@[go_sem] theorem ne_up8_5 {a : Nat} : (a + 1 + 1 + 1 + 1 + 1 + 1 + 1 + 1 = a + 1 + 1 + 1 + 1 + 1) = False := by apply eq_false; omega
@[go_sem] theorem ne_dn8_5 {a : Nat} : (a + 1 + 1 + 1 + 1 + 1 = a + 1 + 1 + 1 + 1 + 1 + 1 + 1 + 1) = False := by apply eq_false; omega
@[go_sem] theorem ne_up8_6 {a : Nat} : (a + 1 + 1 + 1 + 1 + 1 + 1 + 1 + 1 = a + 1 + 1 + 1 + 1 + 1 + 1) = False := by apply eq_false; omega
@[go_sem] theorem ne_dn8_6 {a : Nat} : (a + 1 + 1 + 1 + 1 + 1 + 1 = a + 1 + 1 + 1 + 1 + 1 + 1 + 1 + 1) = False := by apply eq_false; omega
@[go_sem] theorem ne_up8_7 {a : Nat} : (a + 1 + 1 + 1 + 1 + 1 + 1 + 1 + 1 = a + 1 + 1 + 1 + 1 + 1 + 1 + 1) = False := by apply eq_false; omega
@[go_sem] theorem ne_dn8_7 {a : Nat} : (a + 1 + 1 + 1 + 1 + 1 + 1 + 1 = a + 1 + 1 + 1 + 1 + 1 + 1 + 1 + 1) = False := by apply eq_false; omega
end Go

/- LAWS over any program: a struct that lies in the middle of a block (an element of a slice) is loaded. No condition. -/
namespace Go
open Go.RowKit

/-- n cells from off on stand in the block -/
def segOk (off n : Nat) : Option Obj → Bool
  | some (.cells cs _ _) => decide (off + n ≤ cs.size)
  | _ => false
/-- what they hold -/
def segV (off n : Nat) : Option Obj → Value
  | some (.cells cs _ _) => .agg (cs.extract off (off + n))
  | _ => undef
theorem run_loadR_seg {P : Program} {w : World} {t : TypeId} {n : Nat} {d : TypeDesc} {g off : Nat} (hu : P.underlying t = some d) (hd : d.isRow = true)
    (hi : (P.info? t).map (·.size) = some n) (h : segOk off n (w.row g) = true) : (loadR t (.pointer (some ⟨g, off, none⟩))).run P w = .ok (segV off n (w.row g)) w := by
  unfold segOk at h
  split at h
  · rename_i cs e fr hg
    have hle : off + n ≤ cs.size := of_decide_eq_true h
    rw [hg]
    show _ = Result.ok (Value.agg (cs.extract off (off + n))) w
    have hl : (cs.extract off (off + n)).toList.length = n := by simp; omega
    have := run_loadAt_mid (P := P) w g off t (cs.extract off (off + n)).toList d (fun j v hj => by
      rw [World.cell?_row, hg, cellR_some]
      have hj' : j < n := by have := (List.getElem?_eq_some_iff.1 hj).1; omega
      simp only [Array.getElem?_toList, Array.getElem?_extract] at hj
      rw [if_pos (by omega)] at hj; exact hj) hu hd (by rw [hi, hl])
    rw [Array.toArray_toList] at this; exact this
  · cases h
/-- an element's cells, known -/
def eltAt (w : World) (g off : Nat) (cs : List Value) : Prop := segOk off cs.length (w.row g) = true ∧ segV off cs.length (w.row g) = .agg cs.toArray
theorem eltAt_of_range {w : World} {g off : Nat} {cs : List Value} (h0 : cs ≠ []) (h : w.rangeAt g off cs) : eltAt w g off cs := by
  have key : ∀ j v, cs[j]? = some v → cellR (off + j) (w.row g) = some v := fun j v hj => by rw [← World.cell?_row]; exact h j v hj
  cases hr : w.row g with
  | none => 
    obtain ⟨v, hv⟩ : ∃ v, cs[0]? = some v := ⟨cs[0]'(List.length_pos_iff.2 h0), List.getElem?_eq_getElem _⟩
    have := key 0 v hv; rw [hr] at this; cases this
  | some o =>
    rw [hr] at key
    have kk : ∃ c t fr, o = .cells c t fr := by
      obtain ⟨v, hv⟩ : ∃ v, cs[0]? = some v := ⟨cs[0]'(List.length_pos_iff.2 h0), List.getElem?_eq_getElem _⟩
      have := key 0 v hv
      unfold cellR at this
      split at this
      · rename_i c t fr e; exact ⟨c, t, fr, by cases e; rfl⟩
      · cases this
    obtain ⟨c, t, fr, rfl⟩ := kk
    simp only [cellR_some] at key
    have hle : off + cs.length ≤ c.size := by
      have hp := List.length_pos_iff.2 h0
      have hv : cs[cs.length - 1]? = some (cs[cs.length - 1]'(by omega)) := List.getElem?_eq_getElem _
      have := key _ _ hv
      have := (Array.getElem?_eq_some_iff.1 this).1
      omega
    refine ⟨by rw [hr]; unfold segOk; simpa using hle, ?_⟩
    rw [hr]
    show Value.agg (c.extract off (off + cs.length)) = .agg cs.toArray
    congr 1
    apply Array.ext_getElem?
    intro i
    rw [Array.getElem?_extract]
    by_cases hi : i < cs.length
    · rw [if_pos (by omega)]
      have hv : cs[i]? = some cs[i] := List.getElem?_eq_getElem hi
      rw [key i _ hv]; simp [hi]
    · rw [if_neg (by omega)]; simp; omega
theorem eltAt.grows {w W : World} {g off : Nat} {cs : List Value} (h : eltAt w g off cs) (hg : w.grows W) : eltAt W g off cs := by
  obtain ⟨x, rfl⟩ := hg
  unfold eltAt at *
  have hlt : g < w.heap.size := by
    have := h.1
    unfold segOk at this
    split at this
    · rename_i e; exact row_lt e
    · cases this
  rw [World.row_plus, if_pos hlt]; exact h
theorem eltAt.lt {w : World} {g off : Nat} {cs : List Value} (h : eltAt w g off cs) : g < w.heap.size := by
  have := h.1
  unfold segOk at this
  split at this
  · rename_i e; exact row_lt e
  · cases this
/-- a block is an old one -/
theorem lt_sz {W : World} {i : Nat} (this : i < W.heap.size) : (i < W.heap.size) ∧ (∀ b, i < W.heap.size + b) ∧ (∀ b c, i < W.heap.size + b + c) ∧ (∀ b c d, i < W.heap.size + b + c + d) ∧ (∀ b c d e, i < W.heap.size + b + c + d + e) ∧
    ((i = W.heap.size) = False) ∧ (∀ b, (i = W.heap.size + b) = False) ∧ (∀ b c, (i = W.heap.size + b + c) = False) ∧ (∀ b c d, (i = W.heap.size + b + c + d) = False) ∧ (∀ b c d e, (i = W.heap.size + b + c + d + e) = False) := by
  refine ⟨this, fun b => by omega, fun b c => by omega, fun b c d => by omega, fun b c d e => by omega, by apply eq_false; omega, fun b => by apply eq_false; omega, fun b c => by apply eq_false; omega, fun b c d => by apply eq_false; omega, fun b c d e => by apply eq_false; omega⟩
end Go
