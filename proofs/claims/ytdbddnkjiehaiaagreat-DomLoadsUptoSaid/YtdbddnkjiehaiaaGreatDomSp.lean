/- LAWS: worlds that differ above a block alone; lists handed out that are written over; two trees side by side. No condition. -/
import Derived.Test.YtdbddnkjiehaiaaGreatMl
import Derived.Test.YtdbddnkjiehaiaaGreatEls
set_option linter.unusedSimpArgs false
set_option linter.unusedVariables false
namespace Go
open Go.RowKit
/-- only blocks from B on are changed -/
structure Abv (B : Nat) (w w' : World) : Prop where
  row : ∀ k, k < B → w'.row k = w.row k
  size : w.heap.size ≤ w'.heap.size
  gr : ∀ w00 : World, w00.heap.size ≤ B → w00.grows w → w00.grows w'
theorem Abv.refl (B : Nat) (w : World) : Abv B w w := ⟨fun _ _ => rfl, Nat.le_refl _, fun _ _ h => h⟩
theorem Abv.trans {B : Nat} {a b c : World} (h : Abv B a b) (k : Abv B b c) : Abv B a c := ⟨fun n hn => (k.row n hn).trans (h.row n hn), Nat.le_trans h.size k.size, fun w hw hg => k.gr w hw (h.gr w hw hg)⟩
theorem Abv.cell {B g : Nat} {w w' : World} (h : Abv B w w') (hg : B ≤ g) (i : Nat) (v : Value) : Abv B w (w'.setCell ⟨g, i, none⟩ v) :=
  ⟨fun k hk => by rw [World.row_setCell, if_neg (by omega)]; exact h.row k hk, by rw [World.setCell_size' _ _ _]; exact h.size, fun w00 h1 h2 => (h.gr w00 h1 h2).setCell' (by omega) i v⟩
theorem Abv.cells {B g : Nat} {w : World} (hg : B ≤ g) : ∀ (vs : List Value) (o : Nat) {w' : World}, Abv B w w' → Abv B w (w'.setCells g o vs)
  | [], _, _, h => h
  | v :: r, o, _, h => Abv.cells hg r (o + 1) (h.cell hg o v)
theorem Abv.drew {B : Nat} {w w' : World} (h : Abv B w w') : Abv B w w'.drew := ⟨h.row, h.size, fun w00 h1 h2 => (h.gr w00 h1 h2).drew⟩
/-- a block of s cells that may be written -/
def Shp (w : World) (k s : Nat) : Prop := ∃ (cur : Array Value) (e : TypeId), w.row k = some (.cells cur e (0, 0)) ∧ cur.size = s
def Keeps (w w' : World) : Prop := ∀ k s, Shp w k s → Shp w' k s
theorem Keeps.refl (w : World) : Keeps w w := fun _ _ h => h
theorem Keeps.trans {a b c : World} (h : Keeps a b) (k : Keeps b c) : Keeps a c := fun n s hs => k n s (h n s hs)
theorem Keeps.cell {w w' : World} (h : Keeps w w') (g i : Nat) (v : Value) : Keeps w (w'.setCell ⟨g, i, none⟩ v) := fun k s hs => by
  obtain ⟨cur, e, h1, h2⟩ := h k s hs
  by_cases hk : k = g
  · subst hk
    refine ⟨cur.setIfInBounds i v, e, ?_, by simpa using h2⟩
    rw [World.row_setCell, if_pos rfl, h1]; rfl
  · exact ⟨cur, e, by rw [World.row_setCell, if_neg hk]; exact h1, h2⟩
theorem Keeps.cells {g : Nat} {w : World} : ∀ (vs : List Value) (o : Nat) {w' : World}, Keeps w w' → Keeps w (w'.setCells g o vs)
  | [], _, _, h => h
  | v :: r, o, _, h => Keeps.cells r (o + 1) (h.cell g o v)
theorem Keeps.drew {w w' : World} (h : Keeps w w') : Keeps w w'.drew := h
theorem Shp.okW {w : World} {k s o n : Nat} (h : Shp w k s) (hn : o + n ≤ s) : segOkW o n (w.row k) = true := by
  obtain ⟨cur, e, h1, h2⟩ := h
  rw [h1]
  show (decide (o + n ≤ cur.size) && decide (0 ≤ 0)) = true
  simp; omega
theorem Shp.at {w : World} {k s i : Nat} (h : Shp w k s) (hi : i < s) : ∃ v, cellR i (w.row k) = some v ∧ frozenR i (w.row k) = false := by
  obtain ⟨cur, e, h1, h2⟩ := h
  rw [h1]
  exact ⟨cur[i], by show cur[i]? = _; exact Array.getElem?_eq_getElem (by omega), by simp [frozenR]⟩
/-- room of m cells at a's head, in a block from B on that is not g -/
def Rm (w : World) (B g : Nat) (a : Option Addr) (m : Nat) : Prop := m = 0 ∨ ∃ b s, a = some ⟨b, 0, none⟩ ∧ B ≤ b ∧ b ≠ g ∧ Shp w b s ∧ m ≤ s
theorem Rm.keeps {w w' : World} {B g : Nat} {a : Option Addr} {m : Nat} (h : Rm w B g a m) (hk : Keeps w w') : Rm w' B g a m := h.imp id fun ⟨b, s, h1, h2, h3, h4, h5⟩ => ⟨b, s, h1, h2, h3, hk b s h4, h5⟩
theorem own_shp {w : World} {B n k : Nat} {e : TypeId} {a : Option Addr} {c : Nat} {xs : List Value} (h : w.ownsRow B e n (.slice a k c) k xs) (g : Nat) (hg : ∀ b, (Value.slice a k c).ownBlock = some b → b ≠ g) : Rm w B g a (k * n) := by
  rcases h.2 with ⟨_, rfl⟩ | ⟨b, cap, cur, h0, hb, hgg, hnc, hcm, hcs, _⟩
  · exact .inl (by simp)
  · injection h0 with h0 _ h1
    subst h0
    exact .inr ⟨b, cap * n, rfl, hb, hg b rfl, ⟨cur, e, hgg, hcs⟩, Nat.mul_le_mul_right _ hnc⟩
end Go
namespace Go.Proofs.YtdbddnkjiehaiaaGreat
open Go.Maps Go.RowKit Go.Sort
/-- a list handed out whose elements from i on still stand -/
structure SpI (B g : Nat) (l : List El) (w0 wj : World) (i : Nat) : Prop where
  abv : Abv B w0 wj
  low : B ≤ g
  row : ∃ s, Shp wj g s ∧ l.length * 11 ≤ s
  el : ∀ j e, i ≤ j → l[j]? = some e → ∃ (ka aa : Option Addr) (kc ac : Nat), eltAt wj g (j * 11) (elO e ka aa kc ac) ∧ Rm wj B g ka e.ks.length ∧ Rm wj B g aa (e.at'.length * 2)
/-- a world behind one element's slices written over -/
structure Spn (B g : Nat) (w wj : World) : Prop where
  abv : Abv B w wj
  kp : Keeps w wj
  row : wj.row g = w.row g
theorem Spn.refl (B g : Nat) (w : World) : Spn B g w w := ⟨Abv.refl _ _, Keeps.refl _, rfl⟩
theorem Spn.cell {B g b : Nat} {w wj : World} (h : Spn B g w wj) (hb : B ≤ b) (hne : b ≠ g) (i : Nat) (v : Value) : Spn B g w (wj.setCell ⟨b, i, none⟩ v) := ⟨h.abv.cell hb i v, h.kp.cell b i v, by rw [World.row_setCell, if_neg (fun e => hne e.symm)]; exact h.row⟩
theorem Spn.cells {B g b : Nat} {w wj : World} (h : Spn B g w wj) (hb : B ≤ b) (hne : b ≠ g) (o : Nat) (vs : List Value) : Spn B g w (wj.setCells b o vs) := ⟨Abv.cells hb vs o h.abv, Keeps.cells vs o h.kp, by rw [World.row_setCells, if_neg (fun e => hne e.symm)]; exact h.row⟩
theorem SpI.next {B g : Nat} {l : List El} {w0 wr wj : World} {i : Nat} (h : SpI B g l w0 wr i) (hs : Spn B g wr wj) (vs : List Value) (hv : vs.length = 11) : SpI B g l w0 (wj.setCells g (i * 11) vs) (i + 1) := by
  have hk : Keeps wr (wj.setCells g (i * 11) vs) := Keeps.cells vs _ hs.kp
  refine ⟨(h.abv.trans hs.abv).trans (Abv.cells h.low vs _ (Abv.refl _ _)), h.low, ?_, fun j e hj he => ?_⟩
  · obtain ⟨s, h1, h2⟩ := h.row
    exact ⟨s, hk g s h1, h2⟩
  · obtain ⟨ka, aa, kc, ac, e1, e2, e3⟩ := h.el j e (by omega) he
    refine ⟨ka, aa, kc, ac, eltAt_of_range (by simp) fun t u ht => ?_, e2.keeps hk, e3.keeps hk⟩
    have ht11 : t < 11 := (List.getElem?_eq_some_iff.1 ht).1
    rw [World.cell?_setCells_out g vs (i * 11) wj ⟨g, j * 11 + t, none⟩ (fun _ _ => by show j * 11 + t < i * 11 ∨ i * 11 + vs.length ≤ j * 11 + t; omega)]
    have := e1.cell ht
    rw [World.cell?_row] at this ⊢
    rw [hs.row]; exact this
theorem SpI.of {w : World} {B : Nat} {l : List El} {a : Option Addr} {n c : Nat} (h : Outs w B (.slice a n c) l) : n = l.length ∧ (l = [] ∨ ∃ g, a = some ⟨g, 0, none⟩ ∧ SpI B g l w w 0) := by
  have hE := els_get (ElsAt.keep (W := w) h.slAt fun _ _ _ => rfl)
  refine ⟨hE.1, ?_⟩
  obtain ⟨css, c1, c2, c3⟩ := h
  obtain rfl := hE.1
  cases hl : l with
  | nil => exact .inl rfl
  | cons x t =>
    right
    rw [← hl]
    rcases c3.2 with ⟨_, h0⟩ | ⟨g, cap, cur, h0, hb, hgg, hnc, hcm, hcs, ht⟩
    · rw [hl] at h0; simp at h0
    injection h0 with h0 _ h1
    subst h0
    refine ⟨g, rfl, Abv.refl _ _, hb, ⟨_, ⟨cur, 49, hgg, hcs⟩, Nat.mul_le_mul_right _ hnc⟩, fun j e _ he => ?_⟩
    have hjl := (List.getElem?_eq_some_iff.1 he).1
    have hcj : css[j]? = some css[j] := List.getElem?_eq_getElem (by omega)
    obtain ⟨q1, ka, aa, kc, ac, q2, hk, ha, n1, n2⟩ := c2 j e _ he hcj
    refine ⟨ka, aa, kc, ac, ?_, ?_, ?_⟩
    · rw [← q2]
      refine eltAt_of_range (by intro e'; rw [e'] at q1; simp at q1) fun t u hu => ?_
      have ht11 : t < 11 := by rw [← q1]; exact (List.getElem?_eq_some_iff.1 hu).1
      have hlen : ∀ c ∈ css, c.length = 11 := fun c hc => by
        obtain ⟨i, hi, rfl⟩ := List.mem_iff_getElem.1 hc
        exact (c2 i l[i] _ (List.getElem?_eq_getElem (by omega)) (List.getElem?_eq_getElem hi)).1
      have hf := flatten_get css j _ t hlen hcj ht11
      rw [World.cell?_row, show w.row g = some (.cells cur 49 (0, 0)) from hgg]
      show cur[j * 11 + t]? = some u
      have hlt : j * 11 + t < l.length * 11 := by omega
      rw [← hu, ← hf, ← ht, List.getElem?_take_of_lt hlt]; simp
    · have := own_shp hk g (fun b hb e => n1 b hb (by rw [e]; rfl))
      rwa [Nat.mul_one] at this
    · exact own_shp ha g (fun b hb e => n2 b hb (by rw [e]; rfl))
/-- two trees side by side -/
structure Two (W w : World) (Lt Lu : Ly) (Mt Mu : Dm) : Prop where
  gr : W.grows w
  t : TreeAt w Lt Mt
  u : TreeAt w Lu Mu
  ot : ∀ k, Lt.own Mt.els k → W.heap.size ≤ k
  ou : ∀ k, Lu.own Mu.els k → W.heap.size ≤ k
  ap : ∀ k, Lt.own Mt.els k → ¬ Lu.own Mu.els k
theorem Two.symm {W w : World} {Lt Lu : Ly} {Mt Mu : Dm} (h : Two W w Lt Lu Mt Mu) : Two W w Lu Lt Mu Mt := ⟨h.gr, h.u, h.t, h.ou, h.ot, fun k h1 h2 => h.ap k h2 h1⟩
theorem Two.grows {W w w' : World} {Lt Lu : Ly} {Mt Mu : Dm} (h : Two W w Lt Lu Mt Mu) (hg : w.grows w') : Two W w' Lt Lu Mt Mu := ⟨h.gr.trans hg, h.t.grows hg, h.u.grows hg, h.ot, h.ou, h.ap⟩
theorem Two.abv {W w w1 w' : World} {B : Nat} {Lt Lu : Ly} {Mt Mu : Dm} (h : Two W w Lt Lu Mt Mu) (hg : w.grows w1) (hB : w.heap.size ≤ B) (ha : Abv B w1 w') : Two W w' Lt Lu Mt Mu :=
  ⟨ha.gr W (by have := h.gr.below.size; omega) (h.gr.trans hg), h.t.keep fun k _ hl => (ha.row k (by omega)).trans (hg.row_eq hl), h.u.keep fun k _ hl => (ha.row k (by omega)).trans (hg.row_eq hl), h.ot, h.ou, h.ap⟩
theorem Two.stepT {W w w' : World} {Lt Lu : Ly} {Mt Mu Mt' : Dm} (h : Two W w Lt Lu Mt Mu) (he : Edt w Lt Mt Mt' w') : ∃ Lt' : Ly, Lt'.t = Lt.t ∧ Two W w' Lt' Lu Mt' Mu := by
  obtain ⟨L', h1, h2, h3⟩ := he
  refine ⟨L', h1, h2.gr W h.ot h.gr, h3, h.u.chg h2 fun k hk ht => h.ap k ht hk, fun k hk => ?_, h.ou, fun k hk hu => ?_⟩
  · rcases h2.sub k hk with h4 | h4
    · exact h.ot k h4
    · exact Nat.le_trans h.gr.below.size h4
  · rcases h2.sub k hk with h4 | h4
    · exact h.ap k h4 hu
    · have := h.u.lt hu; omega
theorem Two.stepU {W w w' : World} {Lt Lu : Ly} {Mt Mu Mu' : Dm} (h : Two W w Lt Lu Mt Mu) (he : Edt w Lu Mu Mu' w') : ∃ Lu' : Ly, Lu'.t = Lu.t ∧ Two W w' Lt Lu' Mt Mu' := by
  obtain ⟨L', h1, h2⟩ := h.symm.stepT he
  exact ⟨L', h1, h2.symm⟩
end Go.Proofs.YtdbddnkjiehaiaaGreat
