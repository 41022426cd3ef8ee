/- LAWS: a slice in memory that reads as a list of things, each of so many cells; the blocks that it lies in are among S. What of it stays when the world goes on; one that the call itself has built. No condition; no program. -/
import Derived.Test.YthcaphoejplecaaGreatDoorAppB
set_option linter.unusedSimpArgs false
set_option linter.unusedVariables false
namespace Go
open Go.RowKit

/-- a slice that reads as these things, each of n cells -/
def SlAt {α : Type} (w : World) (S : Nat → Prop) (n : Nat) (R : α → List Value → Prop) (v : Value) (l : List α) : Prop :=
  ∃ (a : Option Addr) (cap : Nat), v = .slice a l.length cap ∧ l.length ≤ cap ∧ cap ≤ 9223372036854775807 ∧
    (l = [] ∨ ∃ (g off : Nat), a = some ⟨g, off, none⟩ ∧ S g ∧ ∀ (i : Nat) (x : α), l[i]? = some x → ∃ cs, cs.length = n ∧ eltAt w g (off + i * n) cs ∧ R x cs)
theorem eltAt.keep {w W : World} {g off : Nat} {cs : List Value} (h : eltAt w g off cs) (hr : W.row g = w.row g) : eltAt W g off cs := by
  unfold eltAt at *; rw [hr]; exact h
theorem SlAt.keep {α : Type} {w W : World} {S S' : Nat → Prop} {n : Nat} {R R' : α → List Value → Prop} {v : Value} {l : List α} (h : SlAt w S n R v l)
    (hw : ∀ g, S g → g < w.heap.size → W.row g = w.row g ∧ S' g) (hR : ∀ x ∈ l, ∀ cs, R x cs → R' x cs) : SlAt W S' n R' v l := by
  obtain ⟨a, cap, h1, h2, h3, h4⟩ := h
  refine ⟨a, cap, h1, h2, h3, ?_⟩
  rcases h4 with h4 | ⟨g, off, h5, h6, h7⟩
  · exact .inl h4
  · cases l with
    | nil => exact .inl rfl
    | cons y l =>
      obtain ⟨cs0, _, e0, _⟩ := h7 0 y rfl
      have hg := hw g h6 e0.lt
      refine .inr ⟨g, off, h5, hg.2, fun i x hx => ?_⟩
      obtain ⟨cs, e1, e2, e3⟩ := h7 i x hx
      exact ⟨cs, e1, e2.keep hg.1, hR x (List.mem_of_getElem? hx) cs e3⟩
theorem World.grows.row_eq {w W : World} (hg : w.grows W) {g : Nat} (h : g < w.heap.size) : W.row g = w.row g := by
  obtain ⟨x, rfl⟩ := hg
  rw [World.row_plus, if_pos h]
theorem SlAt.grows {α : Type} {w W : World} {S : Nat → Prop} {n : Nat} {R R' : α → List Value → Prop} {v : Value} {l : List α} (h : SlAt w S n R v l) (hg : w.grows W) (hR : ∀ x ∈ l, ∀ cs, R x cs → R' x cs) : SlAt W S n R' v l :=
  h.keep (fun _ hS hl => ⟨hg.row_eq hl, hS⟩) hR
theorem SlAt.len {α : Type} {w : World} {S : Nat → Prop} {n : Nat} {R : α → List Value → Prop} {v : Value} {l : List α} (h : SlAt w S n R v l) : ∃ a cap, v = .slice a l.length cap ∧ l.length ≤ cap ∧ cap ≤ 9223372036854775807 := by
  obtain ⟨a, cap, h1, h2, h3, _⟩ := h; exact ⟨a, cap, h1, h2, h3⟩
theorem SlAt_nil {α : Type} (w : World) (S : Nat → Prop) (n : Nat) (R : α → List Value → Prop) : SlAt w S n R (.slice none 0 0) ([] : List α) := ⟨none, 0, rfl, Nat.le_refl _, by omega, .inl rfl⟩

/-- one that the call has built in a row of its own -/
def OwnAt {α : Type} (w : World) (B : Nat) (e : TypeId) (n : Nat) (R : α → List Value → Prop) (v : Value) (l : List α) : Prop :=
  ∃ css : List (List Value), css.length = l.length ∧ (∀ (i : Nat) (x : α) (cs : List Value), l[i]? = some x → css[i]? = some cs → cs.length = n ∧ R x cs) ∧ w.ownsRow B e n v l.length css.flatten
theorem flatten_get {n : Nat} : ∀ (css : List (List Value)) (i : Nat) (cs : List Value) (j : Nat), (∀ c ∈ css, c.length = n) → css[i]? = some cs → j < n → css.flatten[i * n + j]? = cs[j]?
  | [], i, cs, j, _, h, _ => by simp at h
  | c :: css, 0, cs, j, hl, h, hj => by
    obtain rfl : c = cs := by simpa using h
    rw [List.flatten_cons, Nat.zero_mul, Nat.zero_add, List.getElem?_append_left (by rw [hl c (by simp)]; exact hj)]
  | c :: css, i + 1, cs, j, hl, h, hj => by
    have hc := hl c (by simp)
    rw [List.flatten_cons, List.getElem?_append_right (by rw [hc, Nat.add_mul]; omega), ← flatten_get css i cs j (fun c hc => hl c (by simp [hc])) (by simpa using h) hj]
    congr 1
    rw [hc, Nat.add_mul]; omega
theorem OwnAt.slAt {α : Type} {w : World} {B : Nat} {e : TypeId} {n : Nat} {R : α → List Value → Prop} {v : Value} {l : List α} {S : Nat → Prop} (h : OwnAt w B e n R v l) (hn : 0 < n) (hS : ∀ g, v.ownBlock = some g → S g) : SlAt w S n R v l := by
  obtain ⟨css, h1, h2, h3⟩ := h
  obtain ⟨_, ⟨rfl, h0⟩ | ⟨g, cap, cur, rfl, hb, hh, hnc, hc, hsz, htake⟩⟩ := h3
  · obtain rfl : l = [] := List.length_eq_zero_iff.mp h0
    exact SlAt_nil _ _ _ _
  · refine ⟨_, cap, rfl, hnc, by simpa [maxLen] using hc, .inr ⟨g, 0, rfl, hS g rfl, fun i x hi => ?_⟩⟩
    have hil := (List.getElem?_eq_some_iff.mp hi).1
    have hcs : css[i]? = some css[i] := List.getElem?_eq_getElem (by omega)
    obtain ⟨k1, k2⟩ := h2 i x _ hi hcs
    have hlen : ∀ c ∈ css, c.length = n := fun c hc => by
      obtain ⟨j, hj, rfl⟩ := List.mem_iff_getElem.1 hc
      exact (h2 j l[j] _ (List.getElem?_eq_getElem (by omega)) (List.getElem?_eq_getElem hj)).1
    refine ⟨css[i], k1, eltAt_of_range (by intro e; rw [e] at k1; simp at k1; omega) fun j u hj => ?_, k2⟩
    have hj2 : j < n := by have := (List.getElem?_eq_some_iff.mp hj).1; omega
    have hr : w.row g = some (.cells cur e (0, 0)) := hh
    rw [World.cell?_row, hr]
    show cur[0 + i * n + j]? = some u
    have hlt : i * n + j < l.length * n := by
      have : (i + 1) * n ≤ l.length * n := Nat.mul_le_mul_right _ hil
      rw [Nat.add_mul] at this; omega
    rw [← hj, ← flatten_get css i _ j hlen hcs hj2, ← htake, List.getElem?_take_of_lt hlt, Nat.zero_add]
    simp
theorem OwnAt_nil {α : Type} (w : World) (B : Nat) (e : TypeId) (n : Nat) (R : α → List Value → Prop) : OwnAt w B e n R (.slice none 0 0) ([] : List α) :=
  ⟨[], rfl, fun i x cs h => by simp at h, World.ownsRow_nil _ _ _ _⟩
theorem OwnAt.mono {α : Type} {w W : World} {B : Nat} {e : TypeId} {n : Nat} {R R' : α → List Value → Prop} {v : Value} {l : List α} (h : OwnAt w B e n R v l) (hg : w.grows W) (hR : ∀ x ∈ l, ∀ cs, R x cs → R' x cs) : OwnAt W B e n R' v l := by
  obtain ⟨css, h1, h2, h3⟩ := h
  exact ⟨css, h1, fun i x cs hx hc => ⟨(h2 i x cs hx hc).1, hR x (List.mem_of_getElem? hx) cs (h2 i x cs hx hc).2⟩, h3.grows hg⟩
theorem eltAt.cell {w : World} {g off : Nat} {cs : List Value} (h : eltAt w g off cs) {j : Nat} {u : Value} (hj : cs[j]? = some u) : w.cell? ⟨g, off + j, none⟩ = some u := by
  obtain ⟨h1, h2⟩ := h
  rw [World.cell?_row]
  unfold segOk at h1
  split at h1
  · rename_i c t fr hr
    rw [hr] at h2 ⊢
    have hle : off + cs.length ≤ c.size := of_decide_eq_true h1
    have hjl : j < cs.length := (List.getElem?_eq_some_iff.1 hj).1
    have e : c.extract off (off + cs.length) = cs.toArray := by
      have : Value.agg (c.extract off (off + cs.length)) = .agg cs.toArray := h2
      injection this
    show c[off + j]? = some u
    have := congrArg (fun x => x[j]?) e
    simp only [Array.getElem?_extract, List.getElem?_toArray, hj] at this
    rw [if_pos (by omega)] at this
    exact this
  · cases h1
/-- a slice's cells, side by side -/
theorem SlAt.cells {α : Type} {w : World} {S : Nat → Prop} {n : Nat} {R : α → List Value → Prop} {a : Option Addr} {len cap : Nat} {l : List α} (hn : 0 < n) (h : SlAt w S n R (.slice a len cap) l) :
    len = l.length ∧ ∃ css : List (List Value), css.length = l.length ∧ (∀ (i : Nat) (x : α) (cs : List Value), l[i]? = some x → css[i]? = some cs → cs.length = n ∧ R x cs) ∧ css.flatten.length = l.length * n ∧
      (l.length = 0 ∨ ∃ ad, a = some ad ∧ ∀ j u, css.flatten[j]? = some u → w.cell? (ad.add j) = some u) := by
  obtain ⟨a', cap', h1, h2, h3, h4⟩ := h
  injection h1 with e1 e2 e3
  subst e1; subst e2
  refine ⟨rfl, ?_⟩
  rcases h4 with rfl | ⟨g, off, rfl, _, h7⟩
  · exact ⟨[], rfl, fun i x cs hx => by simp at hx, by simp, .inl rfl⟩
  · have hpick : ∀ i : Nat, ∃ cs : List Value, ∀ x, l[i]? = some x → cs.length = n ∧ eltAt w g (off + i * n) cs ∧ R x cs := fun i => by
      cases hx : l[i]? with
      | none => exact ⟨[], fun x hx' => by simp at hx'⟩
      | some x =>
        obtain ⟨cs, a, b, c⟩ := h7 i x hx
        exact ⟨cs, fun y hy => by cases hy; exact ⟨a, b, c⟩⟩
    obtain ⟨f, hf⟩ := Classical.axiomOfChoice hpick
    have hget : ∀ i, i < l.length → ((List.range l.length).map f)[i]? = some (f i) := fun i hi => by simp [hi]
    have hlen : ∀ c ∈ (List.range l.length).map f, c.length = n := fun c hc => by
      obtain ⟨i, hi, rfl⟩ := List.mem_map.1 hc
      have hil := List.mem_range.1 hi
      exact (hf i l[i] (by simp [hil])).1
    have hfl : ((List.range l.length).map f).flatten.length = l.length * n := by
      rw [List.length_flatten, List.map_map]
      have : (List.range l.length).map (List.length ∘ f) = List.replicate l.length n := by
        rw [List.eq_replicate_iff]
        refine ⟨by simp, fun b hb => ?_⟩
        obtain ⟨i, hi, rfl⟩ := List.mem_map.1 hb
        exact hlen (f i) (List.mem_map_of_mem hi)
      rw [this, List.sum_replicate_nat]
    refine ⟨(List.range l.length).map f, by simp, fun i x cs hx hcs => ?_, hfl, .inr ⟨_, rfl, fun j u hj => ?_⟩⟩
    · have hil := (List.getElem?_eq_some_iff.1 hx).1
      rw [hget i hil] at hcs; cases hcs
      exact ⟨(hf i x hx).1, (hf i x hx).2.2⟩
    · have hjl : j < l.length * n := by rw [← hfl]; exact (List.getElem?_eq_some_iff.1 hj).1
      have hi : j / n < l.length := Nat.div_lt_of_lt_mul (by rw [Nat.mul_comm]; exact hjl)
      have e : j / n * n + j % n = j := Nat.div_add_mod' j n
      have hfg := flatten_get _ (j / n) (f (j / n)) (j % n) hlen (hget _ hi) (Nat.mod_lt _ hn)
      rw [e, hj] at hfg
      have := (hf (j / n) l[j / n] (by simp [hi])).2.1.cell hfg.symm
      rw [Addr.add_lit]
      rw [show off + j = off + j / n * n + j % n by omega]
      exact this
/-- more behind it -/
theorem OwnAt.append {α : Type} {W : World} {B : Nat} {e : TypeId} {n : Nat} {R R' : α → List Value → Prop} {v' : Value} {l l' : List α} {css css' : List (List Value)}
    (h1 : css.length = l.length) (h2 : ∀ (i : Nat) (x : α) (cs : List Value), l[i]? = some x → css[i]? = some cs → cs.length = n ∧ R x cs)
    (h1' : css'.length = l'.length) (h2' : ∀ (i : Nat) (x : α) (cs : List Value), l'[i]? = some x → css'[i]? = some cs → cs.length = n ∧ R x cs)
    (hR : ∀ x cs, R x cs → R' x cs) (ho : W.ownsRow B e n v' (l.length + l'.length) (css.flatten ++ css'.flatten)) : OwnAt W B e n R' v' (l ++ l') := by
  refine ⟨css ++ css', by simp [h1, h1'], fun i x cs hx hc => ?_, by rw [List.flatten_append, List.length_append]; exact ho⟩
  by_cases hi : i < l.length
  · rw [List.getElem?_append_left hi] at hx
    rw [List.getElem?_append_left (by omega)] at hc
    have := h2 i x cs hx hc
    exact ⟨this.1, hR _ _ this.2⟩
  · rw [List.getElem?_append_right (by omega)] at hx
    rw [List.getElem?_append_right (by omega), h1] at hc
    have := h2' _ x cs hx hc
    exact ⟨this.1, hR _ _ this.2⟩
theorem own_slice {w : World} {B : Nat} {e : TypeId} {size : Nat} {v : Value} {n : Nat} {xs : List Value} (h : w.ownsRow B e size v n xs) : ∃ a c, v = .slice a n c := by
  rcases h.2 with ⟨rfl, rfl⟩ | ⟨g, cap, cur, rfl, _⟩
  · exact ⟨_, _, rfl⟩
  · exact ⟨_, _, rfl⟩
theorem World.grows.cell_eq {w W : World} (hg : w.grows W) {p : Addr} {u : Value} (h : w.cell? p = some u) : W.cell? p = some u := by
  have hlt := World.block_lt_of_cell? w p h
  obtain ⟨x, rfl⟩ := hg
  rw [World.cell?_of_block (World.heap_plus_lt _ _ hlt)]; exact h
end Go
