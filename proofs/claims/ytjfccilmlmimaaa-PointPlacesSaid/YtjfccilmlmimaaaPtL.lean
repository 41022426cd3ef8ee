/- WALKS over point: lines, True. No condition but that an index stands in memory. -/
import Derived.Test.YtjfccilmlmimaaaPtN
import Derived.Test.YtjfccilmlmimaaaPtC
import Derived.Test.YtjfccilmlmimaaaOnce
set_option linter.unusedSimpArgs false
set_option linter.unusedVariables false
namespace Go
open Go.RowKit
theorem Srt.mem {m p : List Ln} (h : Srt m p) (x : Ln) : x ∈ p ↔ x ∈ m := by
  obtain ⟨f, ⟨_, h1, h2⟩, rfl⟩ := h
  constructor
  · intro hx
    obtain ⟨k, hk, rfl⟩ := List.mem_map.1 hx
    obtain ⟨j, _, hj, e⟩ := h1 k (Nat.zero_le _) (by simpa using hk)
    rw [e, atL_get (List.getElem?_eq_getElem hj)]
    exact List.getElem_mem _
  · intro hx
    obtain ⟨j, hj, rfl⟩ := List.mem_iff_getElem.1 hx
    obtain ⟨k, _, hk, e⟩ := h2 j (Nat.zero_le _) hj
    exact List.mem_map.2 ⟨k, by simpa using hk, by rw [e, atL_get (List.getElem?_eq_getElem hj)]⟩
theorem ofN_mem {l : List Ln} {s : List UInt8} {x : Ln} : x ∈ ofN l l.length s ↔ x ∈ l ∧ okN s x = true := by
  unfold ofN; rw [List.take_length, List.mem_filter]
/-- all lines are of their kinds -/
def AllWf (l : List Ln) : Prop := ∀ x ∈ l, x.Wf
theorem lines_own {W : World} {B : Nat} {e : TypeId} {v : Value} {p : List Ln} (h : W.ownsRow B e 5 v p.length (p.flatMap Ln.cs)) (hw : AllWf p) : OwnAt W B e 5 LnR v p := by
  refine ⟨p.map Ln.cs, by simp, fun i x cs h1 h2 => ?_, by rw [← List.flatMap_def]; exact h⟩
  rw [List.getElem?_map, h1] at h2
  cases h2
  exact ⟨rfl, rfl, hw x (List.mem_of_getElem? h1)⟩
end Go
namespace Go.Proofs.Ytjfccilmlmimaaa
open Go.RowKit Go.Maps
theorem Idx.look {W : World} {ix B : Nat} {n : Int} {l : List Ln} (h : Idx W ix n B l) (hw : AllWf l) (nm : ByteArray) (hs : nm.size ≤ maxLen) : ∃ (b : Nat) (v : Value) (p : List Ln), W.row ix = some (.cells #[.map (some b), .int .i64 n] 60) ∧
    Srt (ofN l l.length nm.data.toList) p ∧ AllWf p ∧ SlAt W (fun g => g ≠ ix) 5 LnR v p ∧ ∀ W', On ix W W' → (Instr.lookup 51 (.map (some b)) (.string nm) false).run Try.prog W' = .ok v W' := by
  obtain ⟨b, i, D, mv, pp, h1, h2, h3, h4, h5, h6, h7, h8⟩ := h
  have hp : AllWf (pp nm.data.toList) := fun x hx => hw x (ofN_mem.1 ((Srt.mem (h8 _) x).1 hx)).1
  refine ⟨b, mv nm.data.toList, pp nm.data.toList, h4, h8 _, hp, ?_, fun W' hO => newLook (i := i) (D := D) ?_ h6 hs⟩
  · have ho := h7.own nm.data.toList
    exact (lines_own ho hp).slAt (by omega) fun g hg => by have := (ho.lt g hg).1; omega
  · have hlt := h5.lt
    obtain ⟨es, clock, hb, F, hs, hD⟩ := h5
    exact ⟨es, clock, (hO.row b (fun e => h3 e.symm) hlt).trans hb, F, hs, hD⟩
theorem SlAt.on {α : Type} {w W : World} {ix n : Nat} {R : α → List Value → Prop} {v : Value} {l : List α} (h : SlAt w (fun g => g ≠ ix) n R v l) (ho : On ix w W) : SlAt W (fun g => g ≠ ix) n R v l :=
  h.keep (fun g hg hl => ⟨ho.row g hg hl, hg⟩) fun _ _ _ h => h
/-- an index stays where nothing of it is written but what was asked -/
theorem Idx.on {w W : World} {ix B : Nat} {n n' : Int} {l : List Ln} (h : Idx w ix n B l) (ho : On ix w W) (hx : ∀ b, w.row ix = some (.cells #[.map (some b), .int .i64 n] 60) → W.row ix = some (.cells #[.map (some b), .int .i64 n'] 60)) : Idx W ix n' B l := by
  obtain ⟨b, i, D, mv, pp, h1, h2, h3, h4, h5, h6, h7, h8⟩ := h
  have hlt := h5.lt
  refine ⟨b, i, D, mv, pp, h1, h2, h3, hx b h4, ?_, h6, ⟨fun s => own_kept (h7.own s) fun g hg => ?_, h7.apart⟩, h8⟩
  · obtain ⟨es, clock, hb, F, hs, hD⟩ := h5
    exact ⟨es, clock, (ho.row b (fun e => h3 e.symm) hlt).trans hb, F, hs, hD⟩
  · have := (h7.own s).lt g hg
    exact ho.row g (by omega) this.2

set_option maxRecDepth 100000 in
set_option maxHeartbeats 8000000 in
theorem ptLines_any (ix b : Nat) (n : Int) (v : Value) (nm : ByteArray) (w : World) (hx : w.row ix = some (.cells #[.map (some b), .int .i64 n] 60)) (hl : (Instr.lookup 51 (.map (some b)) (.string nm) false).run Try.prog w = .ok v w) :
    Calls Try.prog 37 #[.pointer (some ⟨ix, 0, none⟩), .string nm] w fun e w' => e = .returned v ∧ w' = w := by
  have zx := row_sz' hx
  go_enter Try.func37, Try.ntmps37
  go_wp2_with fail
  go_ret
  exact ⟨rfl, rfl⟩
end Go.Proofs.Ytjfccilmlmimaaa
