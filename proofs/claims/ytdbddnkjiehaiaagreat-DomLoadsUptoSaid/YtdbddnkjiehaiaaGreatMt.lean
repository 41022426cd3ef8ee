/- Texts of the walk, one after the other; what each proves stands ahead of it. -/
import Derived.Test.YtdbddnkjiehaiaaGreatDomPlW
set_option linter.unusedSimpArgs false
set_option linter.unusedVariables false
/- WALKS over dom and jalousieref8: Attr. No condition but that a tree stands in memory, its attributes by rising names. -/
namespace Go
open Go.RowKit
def Dm.attr (M : Dm) (id : Int) (n : ByteArray) : ByteArray × Bool :=
  match M.at id with
  | none => (ByteArray.empty, false)
  | some e => match e.at'.find? (fun x => decide (x.1 = n)) with
    | none => (ByteArray.empty, false)
    | some x => (x.2, true)
theorem find_up {n : ByteArray} : ∀ {l : List (ByteArray × ByteArray)}, UpA l → ∀ {i : Nat} {x : ByteArray × ByteArray}, l[i]? = some x → x.1 = n → l.find? (fun x => decide (x.1 = n)) = some x
  | [], _, _, _, h, _ => by simp at h
  | a :: t, hu, i, x, h, hx => by
    unfold UpA at hu
    rw [List.pairwise_cons] at hu
    cases i with
    | zero =>
      simp only [List.getElem?_cons_zero, Option.some.injEq] at h
      subst h
      simp [hx]
    | succ i =>
      rw [List.getElem?_cons_succ] at h
      have h1 := hu.1 x (List.mem_of_getElem? h)
      have ha : ¬ a.1 = n := fun e => by rw [e, hx] at h1; exact absurd h1 (List.lt_irrefl _)
      rw [List.find?_cons_of_neg (by simpa using ha)]
      exact find_up hu.2 h hx
end Go
namespace Go.Proofs.YtdbddnkjiehaiaaGreat
open Go.Maps Go.RowKit Go.Sort
end Go.Proofs.YtdbddnkjiehaiaaGreat

/- WALKS over dom and jalousieref8: Place. No condition but that a tree stands in memory. -/
namespace Go
open Go.RowKit
def Dm.place (M : Dm) (id : Int) : Int × Bool :=
  match M.at id with
  | none => (0, false)
  | some e => if id = M.root then (0, true) else match M.at e.p with
    | none => (0, true)
    | some pe => (Lib.idxOf pe.ks id, true)
end Go
namespace Go.Proofs.YtdbddnkjiehaiaaGreat
open Go.Maps Go.RowKit Go.Sort
end Go.Proofs.YtdbddnkjiehaiaaGreat

/- WALK over jalousieref8: Pieces. No condition. -/
namespace Go
open Go.RowKit
def spB (c : UInt8) : Bool := c == 32 || c == 9 || c == 10
/-- a text's pieces between spaces, from place i on; f = where the piece at hand begins -/
def pcs (s : ByteArray) : Nat → Nat → Option Nat → List ByteArray → List ByteArray
  | 0, _, _, acc => acc
  | n + 1, i, f, acc =>
    if i = s.size ∨ spB (s.data.toList.getD i 0) = true then
      match f with
      | some a => pcs s n (i + 1) none (acc ++ [s.extract a i])
      | none => pcs s n (i + 1) none acc
    else match f with
      | some a => pcs s n (i + 1) (some a) acc
      | none => pcs s n (i + 1) (some i) acc
def pieces (s : ByteArray) : List ByteArray := pcs s (s.size + 1) 0 none []
def fromI : Option Nat → Int
  | some a => a
  | none => -1
end Go
namespace Go.Proofs.YtdbddnkjiehaiaaGreat
open Go.Maps Go.RowKit Go.Sort
end Go.Proofs.YtdbddnkjiehaiaaGreat

/- LAWS: no attribute's value is longer than 256, and the pieces of one, each once. No condition. -/
namespace Go
open Go.RowKit
def Dm.Short (M : Dm) : Prop := ∀ e ∈ M.els, ∀ x ∈ e.at', x.2.size ≤ 256
theorem short_upd {M : Dm} (h : M.Short) (id : Int) (f : El → El) (hf : ∀ e ∈ M.els, ∀ x ∈ (f e).at', x.2.size ≤ 256) : Dm.Short ⟨M.root, M.next, updE M.els id f⟩ := fun x hx => by
  obtain ⟨y, hy, rfl⟩ := updE_mem.1 hx
  split
  · exact hf y hy
  · exact h y hy
theorem Dm.Short.step {M : Dm} (h : M.Short) (o : Opn) : (M.step o).2.2.Short := by
  unfold Dm.step
  split
  · unfold Dm.ins
    cases hat : M.at o.id with
    | none => exact h
    | some e =>
      simp only
      split
      · exact h
      split
      · exact h
      split
      · exact h
      split
      · exact h
      · intro x hx
        rcases List.mem_append.1 hx with hx | hx
        · exact short_upd h o.id (insE o.pl.toNat M.next) (fun y hy => h y hy) x hx
        · simp only [List.mem_singleton] at hx
          subst hx; intro x hx; cases hx
  split
  · unfold Dm.rem
    cases hat : M.at o.id with
    | none => exact h
    | some e =>
      simp only
      split
      · exact h
      · exact fun x hx => short_upd h e.p (fun f => { f with ks := f.ks.filter (fun k => decide (k ≠ o.id)) }) (fun y hy => h y hy) x (List.mem_filter.1 hx).1
  split
  · unfold Dm.set
    cases hat : M.at o.id with
    | none => exact h
    | some e =>
      simp only
      split
      · exact h
      split
      · exact h
      split
      · exact h
      · rename_i q _
        refine short_upd h _ _ fun y hy x hx => ?_
        rcases putA_mem hx with rfl | hx
        · exact Nat.le_of_not_lt q
        · exact h y hy x hx
  split
  · unfold Dm.unset
    cases hat : M.at o.id with
    | none => exact h
    | some e =>
      simp only
      split
      · exact h
      · exact short_upd h _ _ fun y hy x hx => h y hy x (List.mem_filter.1 hx).1
  split
  · unfold Dm.box
    cases hat : M.at o.id with
    | none => exact h
    | some e =>
      simp only
      split
      · exact h
      · exact short_upd h _ _ fun y hy x hx => h y hy x hx
  · exact h
theorem short_new (tag : ByteArray) : (Go.Proofs.YtdbddnkjiehaiaaGreat.newM tag).Short := fun x hx => by
  simp [Go.Proofs.YtdbddnkjiehaiaaGreat.newM] at hx
  subst hx
  intro x hx; cases hx
theorem Dm.Short.attr {M : Dm} (h : M.Short) (id : Int) (n : ByteArray) : (M.attr id n).1.size ≤ 256 := by
  unfold Dm.attr
  cases hat : M.at id with
  | none => exact Nat.zero_le _
  | some e =>
    simp only
    cases hf : e.at'.find? (fun x => decide (x.1 = n)) with
    | none => exact Nat.zero_le _
    | some x => exact h e (findE_some hat).1 x (List.mem_of_find?_eq_some hf)
/-- each once, in the order of the first -/
def once1 (acc : List ByteArray) (p : ByteArray) : List ByteArray := if (acc.any fun q => p.toList == q.toList) = true then acc else acc ++ [p]
def onceL (l : List ByteArray) : List ByteArray := l.foldl once1 []
theorem once_len : ∀ (l acc : List ByteArray), (l.foldl once1 acc).length ≤ acc.length + l.length
  | [], acc => by simp
  | p :: t, acc => by
    rw [List.foldl_cons]
    have := once_len t (once1 acc p)
    have h2 : (once1 acc p).length ≤ acc.length + 1 := by unfold once1; split <;> simp
    simp only [List.length_cons]
    omega
theorem pcs_len (s : ByteArray) : ∀ (n i : Nat) (f : Option Nat) (acc : List ByteArray), (pcs s n i f acc).length ≤ acc.length + n
  | 0, i, f, acc => by unfold pcs; omega
  | n + 1, i, f, acc => by
    unfold pcs
    split
    · cases f with
      | some a =>
        have := pcs_len s n (i + 1) none (acc ++ [s.extract a i])
        simp only [List.length_append, List.length_cons, List.length_nil] at this
        show (pcs s n (i + 1) none (acc ++ [s.extract a i])).length ≤ _
        omega
      | none =>
        have := pcs_len s n (i + 1) none acc
        show (pcs s n (i + 1) none acc).length ≤ _
        omega
    · cases f with
      | some a =>
        have := pcs_len s n (i + 1) (some a) acc
        show (pcs s n (i + 1) (some a) acc).length ≤ _
        omega
      | none =>
        have := pcs_len s n (i + 1) (some i) acc
        show (pcs s n (i + 1) (some i) acc).length ≤ _
        omega
theorem pieces_len (s : ByteArray) : (pieces s).length ≤ s.size + 1 := by
  have := pcs_len s (s.size + 1) 0 none []
  simpa [pieces] using this
end Go
namespace Go.Proofs.YtdbddnkjiehaiaaGreat
open Go.Maps Go.RowKit Go.Sort
theorem strs_own {w : World} {B : Nat} {e : TypeId} {v : Value} {l : List ByteArray} (h : w.ownsRow B e 1 v l.length (l.map Value.string)) : ∃ a c, v = .slice a l.length c ∧ (l = [] ∨ ∃ g, a = some ⟨g, 0, none⟩ ∧ g < w.heap.size ∧ ∀ (i : Nat) (x : ByteArray), l[i]? = some x → cellR i (w.row g) = some (.string x)) := by
  obtain ⟨a, c, rfl⟩ := own_slice h
  refine ⟨a, c, rfl, ?_⟩
  rcases h.2 with ⟨h0, h1⟩ | ⟨g, _, _, h0, _⟩
  · exact .inl (List.length_eq_zero_iff.1 h1)
  · injection h0 with h0
    subst h0
    refine .inr ⟨g, rfl, (h.lt g rfl).2, fun i x hx => ?_⟩
    have := h.cells (g := g) rfl i (.string x) (by rw [List.getElem?_map, hx]; rfl)
    rwa [Addr.add_lit, World.cell?_row, Nat.zero_add] at this
end Go.Proofs.YtdbddnkjiehaiaaGreat
