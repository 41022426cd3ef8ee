/- Texts of the walk, one after the other; what each proves stands ahead of it. -/
import Derived.Test.YthcaphoejplecaaGreatDoorVaX
set_option linter.unusedSimpArgs false
set_option linter.unusedVariables false
/- WALK over vars: what is found of a name. No condition but bounds. -/
namespace Go.Proofs.YthcaphoejplecaaGreatDoor
open Go.RowKit
end Go.Proofs.YthcaphoejplecaaGreatDoor

/- PLAIN: the names of all uses, each once; their row in memory. No condition. -/
namespace Go
open Go.RowKit
/-- a name put behind names, if it is not there -/
def addN (out : List ByteArray) (nm : ByteArray) : List ByteArray := if out.any (fun s => decide (s = nm)) = true then out else out ++ [nm]
def addU (out : List ByteArray) (v : Vt) : List ByteArray := if useT v = true then (match namedT v with | none => out | some (nm, _) => addN out nm) else out
mutual
/-- the names of a tree's uses behind names -/
def usesV (out : List ByteArray) : Vt → List ByteArray
  | .mk t ks => usesL (addU out (.mk t ks)) ks
def usesL (out : List ByteArray) : List Vt → List ByteArray
  | [] => out
  | v :: l => usesL (usesV out v) l
end
theorem usesL_cons (out : List ByteArray) (t : Tk) (ks l : List Vt) : usesL out (.mk t ks :: l) = usesL (usesL (addU out (.mk t ks)) ks) l := by
  simp [usesL, usesV]
theorem addU_len (out : List ByteArray) (v : Vt) : (addU out v).length ≤ out.length + 1 := by
  unfold addU addN
  split
  · split
    · omega
    · split <;> simp
  · omega
theorem uses_len : ∀ (N : Nat) (l : List Vt) (out : List ByteArray), nodesL l ≤ N → (usesL out l).length ≤ out.length + nodesL l
  | N, [], out, _ => by simp [usesL, nodesL]
  | 0, .mk t ks :: l, out, h => by simp [nodesL, Vt.nodes] at h
  | N + 1, .mk t ks :: l, out, h => by
    simp only [nodesL, Vt.nodes] at h
    rw [usesL_cons]
    have h1 := uses_len N ks (addU out (.mk t ks)) (by omega)
    have h2 := uses_len N l (usesL (addU out (.mk t ks)) ks) (by omega)
    have h3 := addU_len out (.mk t ks)
    simp only [nodesL, Vt.nodes]
    omega
/-- the names of the uses of tokens -/
def usesT (l : List Tk) : List ByteArray := if mayV 64 (parse l) = true then usesL [] (parse l) else []
end Go
namespace Go.Proofs.YthcaphoejplecaaGreatDoor
open Go.RowKit
/-- names in a row of the call's own -/
def NmO (w : World) (B : Nat) (v : Value) (l : List ByteArray) : Prop := w.ownsRow B 9 1 v l.length (l.map Value.string)
/-- names so far, in the world as it stands -/
structure USt (w0 w : World) (B : Nat) (vO : Value) (W : World) (v1 : Value) (o : List ByteArray) : Prop where
  g0 : w0.grows W
  gb : w.grownBy W vO.ownBlock
  own : NmO W B v1 o
  gr : GrO w.heap.size vO v1
theorem USt.grows {w0 w W W' : World} {B : Nat} {vO v1 : Value} {o : List ByteArray} (h : USt w0 w B vO W v1 o) (hg : W.grows W') : USt w0 w B vO W' v1 o :=
  ⟨h.g0.trans hg, grownBy_trans h.gb (grownBy_of_grows hg none) (fun k hk => by cases hk), h.own.grows hg, h.gr⟩
theorem USt.next {w0 w W W' : World} {B : Nat} {vO v1 v2 : Value} {o o2 : List ByteArray} (h : USt w0 w B vO W v1 o) (p1 : w0.grows W') (p2 : W.grownBy W' v1.ownBlock) (p3 : NmO W' B v2 o2) (p4 : GrO W.heap.size v1 v2) : USt w0 w B vO W' v2 o2 :=
  ⟨p1, grownBy_trans h.gb p2 h.gr.own, p3, h.gr.trans p4 h.gb.size⟩
/-- a name of the row -/
theorem NmO.cell {w : World} {B : Nat} {v : Value} {l : List ByteArray} (h : NmO w B v l) : l = [] ∨ ∃ g c, v = .slice (some ⟨g, 0, none⟩) l.length c ∧ g < w.heap.size ∧ ∀ (i : Nat) (x : ByteArray), l[i]? = some x → cellR i (w.row g) = some (.string x) := by
  obtain ⟨h1, h2⟩ := h
  rcases h2 with ⟨_, h2⟩ | ⟨g, c, cur, e, _, hr, _, _, hs, ht⟩
  · exact .inl (List.length_eq_zero_iff.1 h2)
  · refine .inr ⟨g, c, e, (row_sz' hr).1, fun i x hx => ?_⟩
    rw [show w.row g = _ from hr]
    show cur[i]? = _
    have hi := (List.getElem?_eq_some_iff.1 hx).1
    have h3 : (cur.toList.take (l.length * 1))[i]? = (l.map Value.string)[i]? := by rw [ht]
    rw [List.getElem?_take, if_pos (by omega), List.getElem?_map, hx] at h3
    simpa using h3
end Go.Proofs.YthcaphoejplecaaGreatDoor
