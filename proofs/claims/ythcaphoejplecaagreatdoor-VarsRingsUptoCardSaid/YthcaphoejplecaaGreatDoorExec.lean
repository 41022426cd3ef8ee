/- LAWS over any program: what one operation runs. No condition. -/
import Derived.Test.YthcaphoejplecaaGreatDoorRow
set_option linter.unusedSimpArgs false
set_option linter.unusedVariables false
namespace Go
open Go.RowKit

def loadR (t : TypeId) (v : Value) : Sem Value := Instr.loadAt t v
def storeR (t : TypeId) (v x : Value) : Sem Unit := Instr.storeAt t v x
def buildR (t : TypeId) (parts : List (Nat × Value)) : Sem Value := Instr.build t parts.toArray
def boxR (e : TypeId) (v : Value) : Sem Value := Instr.box e v
def allocR (e : TypeId) : Sem Value := Instr.alloc e true (.tuple #[])
def dynCall (f : Value) (args : Array Value) : Sem Next := do let d ← Deferred.ofValue f args; invoke d.target d.args

section
variable {P : Program} (w : World)
@[go_sem low] theorem run_loadR (t : TypeId) (v : Value) : (loadR t v).run P w = (Instr.loadAt t v).run P w := rfl
@[go_sem low] theorem run_storeR (t : TypeId) (v x : Value) : (storeR t v x).run P w = (Instr.storeAt t v x).run P w := rfl
@[go_sem low] theorem run_buildR (t : TypeId) (parts : List (Nat × Value)) : (buildR t parts).run P w = (Instr.build t parts.toArray).run P w := rfl
@[go_sem low] theorem run_allocR (e : TypeId) : (allocR e).run P w = (Instr.alloc e true (.tuple #[])).run P w := rfl
@[go_sem] theorem run_boxR (e : TypeId) (v : Value) : (boxR e v).run P w = .ok (.pointer (some ⟨w.heap.size, 0, none⟩)) (w.alloc (.cells v.cells e)) := rfl
@[go_sem] theorem dynCall_func (f : FuncId) (fs cs args : Array Value) : dynCall (.func (.func f) fs cs) args = callFunc f (fs ++ args ++ cs) := rfl
theorem run_loadR_row {t : TypeId} {n : Nat} {d : TypeDesc} {g : Nat} (hu : P.underlying t = some d) (hd : (match d with | .struct _ | .array _ _ => true | _ => false) = true)
    (hi : (P.info? t).map (·.size) = some n) (h : rowOk n (w.row g) = true) : (loadR t (.pointer (some ⟨g, 0, none⟩))).run P w = .ok (rowV (w.row g)) w :=
  run_loadVar_rowV hu hd hi h
theorem run_storeR_row {t : TypeId} {n : Nat} {g : Nat} {l : List Value} (hi : (P.info? t).map (·.size) = some n) (h1 : (l.length == n && l.all (·.oneCell')) = true) (h : rowOkW n (w.row g) = true) :
    (storeR t (.pointer (some ⟨g, 0, none⟩)) (.agg l.toArray)).run P w = .ok () (w.setRow g l.toArray) :=
  run_storeVar_rowV hi h1 h
theorem run_buildR_of {t : TypeId} {parts : List (Nat × Value)} {cells : Array Value} (h : P.built t parts = some cells) : (buildR t parts).run P w = .ok (.agg cells) w :=
  run_build w t _ _ h
end
section
variable {P : Program} {fn : Func} {a : Act} {w : World} {R : Ending → World → Prop}
/-- a return of one struct that stands in memory -/
theorem ret_cell {p : Tmp} {t : TypeId} {n g : Nat} {d : TypeDesc} (h : fn.results = #[.cell p t]) (hp : a.tmps.getD p undef = .pointer (some ⟨g, 0, none⟩)) (hu : P.underlying t = some d)
    (hd : (match d with | .struct _ | .array _ _ => true | _ => false) = true) (hi : (P.info? t).map (·.size) = some n) (hrow : rowOk n (w.row g) = true) (hdf : a.defers = [])
    (hR : R (.returned (rowV (w.row g))) w) : bodyPost P fn R .ret a w := by
  refine bodyPost_ret ?_ hdf hR
  have hp' : a.tmps[p]?.getD undef = .pointer (some ⟨g, 0, none⟩) := by simpa using hp
  simp [results, h, hp', asAddr, run_loadVar_rowV hu hd hi hrow]
/-- of a struct that stands in memory, and another value -/
theorem ret_cell_tmp {p q : Tmp} {t : TypeId} {n g : Nat} {d : TypeDesc} (h : fn.results = #[.cell p t, .tmp q]) (hp : a.tmps.getD p undef = .pointer (some ⟨g, 0, none⟩)) (hu : P.underlying t = some d)
    (hd : (match d with | .struct _ | .array _ _ => true | _ => false) = true) (hi : (P.info? t).map (·.size) = some n) (hrow : rowOk n (w.row g) = true) (hdf : a.defers = [])
    (hR : R (.returned (.tuple #[rowV (w.row g), a.tmps.getD q undef])) w) : bodyPost P fn R .ret a w := by
  refine bodyPost_ret ?_ hdf hR
  have hp' : a.tmps[p]?.getD undef = .pointer (some ⟨g, 0, none⟩) := by simpa using hp
  simp [results, h, hp', asAddr, run_loadVar_rowV hu hd hi hrow]
end
section
variable (ρ : Operand → Value)
@[go_sem ↓] theorem exec_box (dst : Option Tmp) (e : TypeId) (x : Operand) (ty : TypeId) (pos : String) (after : Array Edge) (guard : Option (Nat × Bool)) : execOp ρ { dst, op := .box e x, type := ty, pos, after, guard } = (do pure (.value (← boxR e (ρ x)))) := rfl
@[go_sem ↓] theorem exec_alloc (dst : Option Tmp) (e : TypeId) (ty : TypeId) (pos : String) (after : Array Edge) (guard : Option (Nat × Bool)) : execOp ρ { dst, op := .alloc e, type := ty, pos, after, guard } = (do pure (.value (← allocR e))) := rfl
@[go_sem ↓] theorem exec_build (dst : Option Tmp) (t : TypeId) (parts : List (Nat × Operand)) (ty : TypeId) (pos : String) (after : Array Edge) (guard : Option (Nat × Bool)) : execOp ρ { dst, op := .build t parts.toArray, type := ty, pos, after, guard } = (do pure (.value (← buildR t (parts.map fun (i, x) => (i, ρ x))))) := by
  simp only [execOp, buildR, List.map_toArray]
@[go_sem ↓] theorem exec_buildSlice (dst : Option Tmp) (t : TypeId) (n : Nat) (parts : Array (Nat × Operand)) (ty : TypeId) (pos : String) (after : Array Edge) (guard : Option (Nat × Bool)) : execOp ρ { dst, op := .buildSlice t n parts, type := ty, pos, after, guard } = (do pure (.value (← Instr.buildSlice t n (parts.map fun (i, x) => (i, ρ x))))) := rfl
@[go_sem ↓] theorem exec_load (dst : Option Tmp) (t : TypeId) (x : Operand) (ty : TypeId) (pos : String) (after : Array Edge) (guard : Option (Nat × Bool)) : execOp ρ { dst, op := .load t x, type := ty, pos, after, guard } = (do pure (.value (← loadR t (ρ x)))) := rfl
@[go_sem ↓] theorem exec_store (dst : Option Tmp) (t : TypeId) (x y : Operand) (ty : TypeId) (pos : String) (after : Array Edge) (guard : Option (Nat × Bool)) : execOp ρ { dst, op := .store t x y, type := ty, pos, after, guard } = (do storeR t (ρ x) (ρ y); pure .skip) := rfl
@[go_sem ↓] theorem exec_unOp (dst : Option Tmp) (op : UnOp) (t : TypeId) (x : Operand) (ty : TypeId) (pos : String) (after : Array Edge) (guard : Option (Nat × Bool)) : execOp ρ { dst, op := .unOp op t x, type := ty, pos, after, guard } = (do pure (.value (← Op.unary op (ρ x)))) := rfl
@[go_sem ↓] theorem exec_convert (dst : Option Tmp) (s d : TypeId) (x : Operand) (ty : TypeId) (pos : String) (after : Array Edge) (guard : Option (Nat × Bool)) : execOp ρ { dst, op := .convert s d x, type := ty, pos, after, guard } = (do pure (.value (← Go.convert s d (ρ x)))) := rfl
@[go_sem ↓] theorem exec_makeFunc (dst : Option Tmp) (fn : Fn) (f c : Array Operand) (ty : TypeId) (pos : String) (after : Array Edge) (guard : Option (Nat × Bool)) : execOp ρ { dst, op := .makeFunc fn f c, type := ty, pos, after, guard } = (do pure (.value (← Instr.makeFunc fn (f.map ρ) (c.map ρ)))) := rfl
@[go_sem ↓] theorem exec_makeMap (dst : Option Tmp) (t : TypeId) (r : Option Operand) (ty : TypeId) (pos : String) (after : Array Edge) (guard : Option (Nat × Bool)) : execOp ρ { dst, op := .makeMap t r, type := ty, pos, after, guard } = (do pure (.value (← Instr.makeMap t (r.map ρ)))) := rfl
@[go_sem ↓] theorem exec_makeSlice (dst : Option Tmp) (t : TypeId) (x y : Operand) (ty : TypeId) (pos : String) (after : Array Edge) (guard : Option (Nat × Bool)) : execOp ρ { dst, op := .makeSlice t x y, type := ty, pos, after, guard } = (do pure (.value (← Instr.makeSlice t (ρ x) (ρ y)))) := rfl
@[go_sem ↓] theorem exec_makeInterface (dst : Option Tmp) (t : TypeId) (x : Operand) (ty : TypeId) (pos : String) (after : Array Edge) (guard : Option (Nat × Bool)) : execOp ρ { dst, op := .makeInterface t x, type := ty, pos, after, guard } = (do pure (.value (← Instr.makeInterface t (ρ x)))) := rfl
@[go_sem ↓] theorem exec_slice (dst : Option Tmp) (t : TypeId) (x : Operand) (lo hi mx : Option Operand) (ty : TypeId) (pos : String) (after : Array Edge) (guard : Option (Nat × Bool)) : execOp ρ { dst, op := .slice t x lo hi mx, type := ty, pos, after, guard } = (do pure (.value (← Instr.sliceAt t (ρ x) (lo.map ρ) (hi.map ρ) (mx.map ρ)))) := rfl
@[go_sem ↓] theorem exec_fieldAddr (dst : Option Tmp) (t : TypeId) (x : Operand) (f : Nat) (ty : TypeId) (pos : String) (after : Array Edge) (guard : Option (Nat × Bool)) : execOp ρ { dst, op := .fieldAddr t x f, type := ty, pos, after, guard } = (do pure (.value (← Instr.fieldAt t (ρ x) f))) := rfl
@[go_sem ↓] theorem exec_field (dst : Option Tmp) (t : TypeId) (x : Operand) (f : Nat) (ty : TypeId) (pos : String) (after : Array Edge) (guard : Option (Nat × Bool)) : execOp ρ { dst, op := .field t x f, type := ty, pos, after, guard } = (do pure (.value (← Instr.field t (ρ x) f))) := rfl
@[go_sem ↓] theorem exec_indexAddr (dst : Option Tmp) (t : TypeId) (x y : Operand) (ty : TypeId) (pos : String) (after : Array Edge) (guard : Option (Nat × Bool)) : execOp ρ { dst, op := .indexAddr t x y, type := ty, pos, after, guard } = (do pure (.value (← Instr.indexAt t (ρ x) (ρ y)))) := rfl
@[go_sem ↓] theorem exec_index (dst : Option Tmp) (t : TypeId) (x y : Operand) (ty : TypeId) (pos : String) (after : Array Edge) (guard : Option (Nat × Bool)) : execOp ρ { dst, op := .index t x y, type := ty, pos, after, guard } = (do pure (.value (← Instr.index t (ρ x) (ρ y)))) := rfl
@[go_sem ↓] theorem exec_extract (dst : Option Tmp) (x : Operand) (i : Nat) (ty : TypeId) (pos : String) (after : Array Edge) (guard : Option (Nat × Bool)) : execOp ρ { dst, op := .extract x i, type := ty, pos, after, guard } = (do pure (.value (← Instr.extract (ρ x) i))) := rfl
@[go_sem ↓] theorem exec_lookup (dst : Option Tmp) (t : TypeId) (x y : Operand) (ok : Bool) (ty : TypeId) (pos : String) (after : Array Edge) (guard : Option (Nat × Bool)) : execOp ρ { dst, op := .lookup t x y ok, type := ty, pos, after, guard } = (do pure (.value (← Instr.lookup t (ρ x) (ρ y) ok))) := rfl
@[go_sem ↓] theorem exec_pick (dst : Option Tmp) (c x y : Operand) (ty : TypeId) (pos : String) (after : Array Edge) (guard : Option (Nat × Bool)) : execOp ρ { dst, op := .pick c x y, type := ty, pos, after, guard } = (do pure (.value (if ← asBool (ρ c) then ρ x else ρ y))) := rfl
@[go_sem ↓] theorem exec_move (dst : Option Tmp) (x : Operand) (ty : TypeId) (pos : String) (after : Array Edge) (guard : Option (Nat × Bool)) : execOp ρ { dst, op := .move x, type := ty, pos, after, guard } = pure (.value (ρ x)) := rfl
@[go_sem ↓] theorem exec_assign (dst : Option Tmp) (x : Operand) (ty : TypeId) (pos : String) (after : Array Edge) (guard : Option (Nat × Bool)) : execOp ρ { dst, op := .assign x, type := ty, pos, after, guard } = pure (.value (ρ x)) := rfl
@[go_sem ↓] theorem exec_callValue (dst : Option Tmp) (f : Tmp) (xs : Array Operand) (ats : Array TypeId) (ty : TypeId) (pos : String) (after : Array Edge) (guard : Option (Nat × Bool)) : execOp ρ { dst, op := .call { callee := .value (.tmp f), args := xs, argTypes := ats }, type := ty, pos, after, guard } = dynCall (ρ (.tmp f)) (xs.map ρ) := rfl
@[go_sem ↓] theorem exec_binOp (dst : Option Tmp) (op : BinOp) (t : TypeId) (x y : Operand) (t2 : TypeId) (ty : TypeId) (pos : String) (after : Array Edge) (guard : Option (Nat × Bool)) : execOp ρ { dst, op := .binOp op t x y t2, type := ty, pos, after, guard } = (do eqGuard op t x y (ρ x) (ρ y); pure (.value (← Go.binOp op t (ρ x) (ρ y)))) := by
  simp only [execOp, bind_assoc]
end

/-- an operation in every world that has grown: the world written out first -/
@[go_sem ↓] theorem quiet_plus {P : Program} (o : Oper) (a : Act) (W : World) (K : Act → Prop) : Oper.quiet P o a (fun w => ∃ x, w = W.plus x) K = ∃ v, (∀ x, Oper.quietAt P o a (fun w => ∃ x, w = W.plus x) (W.plus x) v) ∧ K (a.put o.dst v) := by
  unfold Oper.quiet
  apply propext
  constructor
  · rintro ⟨v, h, k⟩; exact ⟨v, fun x => h _ ⟨x, rfl⟩, k⟩
  · rintro ⟨v, h, k⟩; exact ⟨v, fun w ⟨x, hx⟩ => hx ▸ h x, k⟩
end Go
