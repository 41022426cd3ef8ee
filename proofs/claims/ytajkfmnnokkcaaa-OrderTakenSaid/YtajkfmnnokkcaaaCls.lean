/- WALKS over order: claims in a slice; the function that compares two places of them. No condition but that the claims stand in memory. -/
import Derived.Test.YtajkfmnnokkcaaaOrdV
import Derived.Test.YtajkfmnnokkcaaaOrdL
import Derived.Test.YtajkfmnnokkcaaaStab
set_option linter.unusedSimpArgs false
set_option linter.unusedVariables false
namespace Go
open Go.RowKit
instance : Inhabited Cl := ⟨⟨ByteArray.empty, 0, false, 0, 0, 0, 0, 0⟩⟩
/-- the cells of a claim -/
abbrev Cl.cs (x : Cl) : List Value := [.string x.p, .int .i64 x.o, .bool x.i, .int .i64 x.a, .int .i64 x.b, .int .i64 x.c, .int .i64 x.r, .int .i64 x.d]
def ClR (x : Cl) (cs : List Value) : Prop := cs = x.cs ∧ x.Wf
/-- the claim at a place -/
def atC (l : List Cl) (i : Int) : Cl := l.getD i.toNat default
theorem atC_get {l : List Cl} {i : Nat} {x : Cl} (h : l[i]? = some x) : atC l (i : Int) = x := by
  unfold atC
  rw [Int.toNat_natCast, List.getD_eq_getElem?_getD, h]; rfl
/-- what the comparing function reads: a box with the slice of claims, and the claims, none of it in block g -/
def Claims (b g : Nat) (t : TypeId) (v : Value) (l : List Cl) (W : World) : Prop := b ≠ g ∧ W.row b = some (.cells #[v] t) ∧ SlAt W (fun k => k ≠ g) 8 ClR v l
theorem Claims.keep {b g : Nat} {t : TypeId} {v : Value} {l : List Cl} {W W' : World} (h : Claims b g t v l W) (hO : On g W W') : Claims b g t v l W' := by
  obtain ⟨h1, h2, h3⟩ := h
  exact ⟨h1, (hO.row b h1 (row_sz' h2).1).trans h2, h3.keep (fun k hk hl => ⟨hO.row k hk hl, hk⟩) fun _ _ _ h => h⟩
end Go
namespace Go.Proofs.Ytajkfmnnokkcaaa
open Go.RowKit

set_option maxRecDepth 100000 in
set_option maxHeartbeats 2000000 in
theorem sortFn_any (b : Nat) (v : Value) (l : List Cl) (S : Nat → Prop) (w : World) (hb : w.row b = some (.cells #[v] 22)) (h : SlAt w S 8 ClR v l) (i k : Nat) (hi : i < l.length) (hk : k < l.length) :
    Calls Try.prog 20 #[.int .i64 i, .int .i64 k, .pointer (some ⟨b, 0, none⟩)] w (Gives w (.int .i64 ((atC l i).against (atC l k)))) := by
  obtain ⟨a, cap, rfl, h1, h2, h3⟩ := h
  rcases h3 with rfl | ⟨g, off, rfl, _, h4⟩
  · cases hi
  have x1 := List.getElem?_eq_getElem hi
  have x2 := List.getElem?_eq_getElem hk
  obtain ⟨cs1, _, e1, f1, _⟩ := h4 i _ x1
  obtain ⟨cs2, _, e2, f2, _⟩ := h4 k _ x2
  rw [atC_get x1, atC_get x2]
  generalize l[i] = x at *
  generalize l[k] = y at *
  generalize l.length = N at *
  subst f1; subst f2
  have e1' : segOk (off + i * 8) 8 (w.row g) = true := e1.1
  have e2' : segV (off + i * 8) 8 (w.row g) = x.v := e1.2
  have e3' : segOk (off + k * 8) 8 (w.row g) = true := e2.1
  have e4' : segV (off + k * 8) 8 (w.row g) = y.v := e2.2
  have zg := lt_sz e1.lt
  have zb := row_sz' hb
  have n1 : (i : Int) < (N : Int) := by omega
  have n2 : (k : Int) < (N : Int) := by omega
  have hA := fun W => against_any x y W
  have HA := Lib.hid hA
  clear hA h4 x1 x2 e1 e2
  generalize x.against y = R at *
  obtain ⟨p, o, q, a, b1, c, r, d⟩ := x
  obtain ⟨p', o', q', a', b', c', r', d'⟩ := y
  go_enter Try.func20, Try.ntmps20
  go_upto_region 1 with fail
  refine wp_region_plus_lit (by kernel_rfl) (by kernel_rfl) ?_
  repeat (go_big_quiet_step (first | (go_at_call 21; (with_reducible exact Calls.plus_of (HA.out _)))))
  (refine wpQuiet_nil ?_; intro _ hw'; obtain ⟨xq, hw''⟩ := hw'; subst hw'')
  go_wp2_with fail
  go_ret
  exact ⟨rfl, (by repeat (first | exact grA | apply grB | apply grC | apply grD))⟩
theorem sortFn_cmp (b g N : Nat) (v : Value) (l : List Cl) (hl : l.length = N) : CmpFn Try.prog 20 (.pointer (some ⟨b, 0, none⟩)) g N (fun i k => (atC l i).against (atC l k)) (ltC (atC l)) (Claims b g 22 v l) where
  keep := fun _ _ h hO => h.keep hO
  call := fun W x y h hx hy => sortFn_any b v l _ W h.2.1 h.2.2 x y (by omega) (by omega)
  less := fun x y h _ => ltC_against (atC l) (by omega)
  tr := ltC_trans _
  or := fun x y h => ltC_or _ (by omega)
end Go.Proofs.Ytajkfmnnokkcaaa
