/- PLAIN: lines by their names, in order; a map from names to slices as it was read. No condition. -/
import Derived.Test.YtjfccilmlmimaaaPt0
import Derived.Maps.Own
import Derived.Maps.RangeWalk
import Derived.Sort.KeysCollected
set_option linter.unusedSimpArgs false
set_option linter.unusedVariables false
namespace Go
open Go.Maps Go.RowKit
/-- is it a line of this name, whose place is sure? -/
def okN (s : List UInt8) (x : Ln) : Bool := sureB x.p x.q && (x.n.data.toList == s)
/-- the lines of a name among the first i -/
def ofN (l : List Ln) (i : Nat) (s : List UInt8) : List Ln := (l.take i).filter (okN s)
theorem ofN_zero (l : List Ln) (s : List UInt8) : ofN l 0 s = [] := by simp [ofN]
theorem ofN_succ {l : List Ln} {i : Nat} {x : Ln} (h : l[i]? = some x) (s : List UInt8) : ofN l (i + 1) s = ofN l i s ++ if okN s x then [x] else [] := by
  unfold ofN
  rw [List.take_add_one, h, List.filter_append]
  congr 1
  cases hx : okN s x <;> simp [hx]
/-- how a map's element is taken: as it is -/
def heldR (v : Value) : Option (DataW Value × List MemPlace) := some (.held v, [])
def nilS : DataW Value := .held (.slice none 0 0)
/-- what stands at each name -/
def MapV (D : DataW Value) (mv : List UInt8 → Value) : Prop := IsMap D ∧ ∀ s, D.atKey (.string s) nilS = .held (mv s)
theorem MapV.nil : MapV (.map []) fun _ => .slice none 0 0 := ⟨⟨_, rfl⟩, fun _ => rfl⟩
theorem isKey_s (s : List UInt8) : WideAt.IsKeyLit (.string s) := by first | exact trivial | exact .inl ⟨_, rfl⟩ | simp [WideAt.IsKeyLit]
theorem MapV.put {D : DataW Value} {mv : List UInt8 → Value} (h : MapV D mv) (s : List UInt8) (v : Value) : MapV (D.put (.string s) (.held v)) fun t => if t = s then v else mv t := by
  refine ⟨?_, fun t => ?_⟩
  · obtain ⟨⟨es, rfl⟩, _⟩ := h; exact ⟨_, rfl⟩
  · by_cases e : t = s
    · subst e
      rw [atKey_put_same h.1 (isKey_s _)]; simp
    · have ne : (Lit.string t) ≠ .string s := fun x => e (by injection x)
      rw [atKey_put_other ne, h.2 t]; simp [e]
/-- the rows of the lines, name by name; no two names share a row -/
structure RowsN (W : World) (B : Nat) (e : TypeId) (mv : List UInt8 → Value) (m : List UInt8 → List Ln) : Prop where
  own : ∀ s, W.ownsRow B e 5 (mv s) (m s).length ((m s).flatMap Ln.cs)
  apart : ∀ s t g, s ≠ t → (mv s).ownBlock = some g → (mv t).ownBlock ≠ some g
theorem RowsN.nil (W : World) (B : Nat) (e : TypeId) : RowsN W B e (fun _ => .slice none 0 0) fun _ => [] := ⟨fun _ => World.ownsRow_nil _ _ _ _, fun _ _ _ _ h => by cases h⟩
theorem World.ownsMap.grows {H : Type} {P : Program} {k : TypeId} {R : Value → Option (DataW H × List MemPlace)} {w W : World} {b n : Nat} {D : DataW H} (h : w.ownsMap P k R b n D) (hg : w.grows W) : W.ownsMap P k R b n D := by
  have hlt := h.lt
  obtain ⟨x, rfl⟩ := hg
  obtain ⟨es, clock, hb, F, hs, hD⟩ := h
  exact ⟨es, clock, by rw [World.heap_plus_lt _ _ hlt]; exact hb, F, hs, hD⟩
theorem own_kept {w W : World} {B : Nat} {e : TypeId} {n : Nat} {k : Nat} {v : Value} {xs : List Value} (h : w.ownsRow B e n v k xs) (hk : ∀ g, v.ownBlock = some g → W.row g = w.row g) : W.ownsRow B e n v k xs := by
  refine ⟨h.1, ?_⟩
  rcases h.2 with hn | ⟨g, cap, cur, rfl, hb, hgg, rest⟩
  · exact .inl hn
  · exact .inr ⟨g, cap, cur, rfl, hb, (hk g rfl).trans hgg, rest⟩
theorem World.row_grow {w w' : World} {row : Option Nat} (hg : w.grownBy w' row) {k : Nat} (hk : k < w.heap.size) (hne : some k ≠ row) : w'.row k = w.row k := by
  unfold World.row
  rw [hg.block k hk hne]
theorem okN_self {nm : ByteArray} {o p q d : Int} (h : sureB p q = true) : okN nm.data.toList ⟨nm, o, p, q, d⟩ = true := by unfold okN; simp [h]
theorem okN_other {nm : ByteArray} {o p q d : Int} {s : List UInt8} (h : s ≠ nm.data.toList) : okN s ⟨nm, o, p, q, d⟩ = false := by
  unfold okN
  rw [Bool.and_eq_false_iff]
  right
  simpa using fun e => h e.symm
/-- the rows behind one round: a line put behind those of its name -/
theorem RowsN.put {wr w' w2 : World} {B : Nat} {e : TypeId} {mv : List UInt8 → Value} {l : List Ln} {i sz : Nat} {nm : ByteArray} {o p q d : Int} {v' : Value} (h : RowsN wr B e mv (ofN l i)) (hx : l[i]? = some ⟨nm, o, p, q, d⟩) (hs : sureB p q = true) (hsz : wr.heap.size ≤ sz)
    (ho : w'.ownsRow B e 5 v' ((ofN l i nm.data.toList).length + 1) ((ofN l i nm.data.toList).flatMap Ln.cs ++ Ln.cs ⟨nm, o, p, q, d⟩))
    (hr : ∀ g, g < wr.heap.size → (mv nm.data.toList).ownBlock ≠ some g → w'.row g = wr.row g) (hr2 : ∀ g, B ≤ g → g < w'.heap.size → w2.row g = w'.row g) (hsz2 : wr.heap.size ≤ w'.heap.size)
    (ha : v'.ownBlock = (mv nm.data.toList).ownBlock ∨ v'.ownBlock = some sz) : RowsN w2 B e (fun t => if t = nm.data.toList then v' else mv t) (ofN l (i + 1)) := by
  refine ⟨fun t => ?_, fun s t g hst h1 h2 => ?_⟩
  · by_cases ht : t = nm.data.toList
    · subst ht
      simp only [if_true]
      rw [ofN_succ hx, okN_self hs, if_pos rfl, List.length_append, List.flatMap_append]
      simp only [List.length_cons, List.length_nil, Nat.zero_add, List.flatMap_cons, List.flatMap_nil, List.append_nil]
      exact own_kept ho fun g hg => hr2 g (ho.lt g hg).1 (ho.lt g hg).2
    · simp only [if_neg ht]
      rw [ofN_succ hx, okN_other ht, if_neg (by simp), List.append_nil]
      refine own_kept (h.own t) fun g hg => ?_
      have hl := (h.own t).lt g hg
      exact (hr2 g hl.1 (Nat.lt_of_lt_of_le hl.2 hsz2)).trans (hr g hl.2 fun e => h.apart _ t g (fun x => ht x.symm) e hg)
  · have key : ∀ t : List UInt8, t ≠ nm.data.toList → ∀ g, v'.ownBlock = some g → (mv t).ownBlock ≠ some g := fun t ht g hv hm => by
      rcases ha with e | e
      · rw [e] at hv; exact h.apart _ t g (fun x => ht x.symm) hv hm
      · rw [e] at hv; cases hv
        have := ((h.own t).lt _ hm).2; omega
    by_cases hs1 : s = nm.data.toList
    · have ht1 : t ≠ nm.data.toList := fun x => hst (hs1.trans x.symm)
      simp only [if_pos hs1] at h1
      simp only [if_neg ht1] at h2
      exact key t ht1 g h1 h2
    · simp only [if_neg hs1] at h1
      by_cases ht1 : t = nm.data.toList
      · simp only [if_pos ht1] at h2
        exact key s hs1 g h2 h1
      · simp only [if_neg ht1] at h2
        exact h.apart s t g hst h1 h2
/-- what the map holds has lines -/
def HasM (D : DataW Value) (m : List UInt8 → List Ln) : Prop := ∀ s, has D (.string s) = true → m s ≠ []
theorem HasM.nil : HasM (.map []) fun _ => [] := fun s h => by cases h
theorem HasM.put {D : DataW Value} {l : List Ln} {i : Nat} {nm : ByteArray} {o p q d : Int} {v : Value} (h : HasM D (ofN l i)) (hD : IsMap D) (hx : l[i]? = some ⟨nm, o, p, q, d⟩) (hs : sureB p q = true) :
    HasM (D.put (.string nm.data.toList) (.held v)) (ofN l (i + 1)) := fun s hh => by
  rw [ofN_succ hx]
  by_cases e : s = nm.data.toList
  · subst e; rw [okN_self hs]; simp
  · have ne : (Lit.string s) ≠ .string nm.data.toList := fun x => e (by injection x)
    rw [has_put_other ne] at hh
    intro x
    exact h s hh (List.append_eq_nil_iff.1 x).1
theorem ofN_skip {l : List Ln} {i : Nat} {x : Ln} (hx : l[i]? = some x) (hs : sureB x.p x.q = false) : ofN l (i + 1) = ofN l i := by
  funext s
  rw [ofN_succ hx]
  unfold okN; simp [hs]
theorem RowsN.grows {W W' : World} {B : Nat} {e : TypeId} {mv : List UInt8 → Value} {m : List UInt8 → List Ln} (h : RowsN W B e mv m) (hg : W.grows W') : RowsN W' B e mv m := ⟨fun s => (h.own s).grows hg, h.apart⟩
/-- these lines, in order -/
def Srt (m p : List Ln) : Prop := ∃ f, Run (ltP m) f 0 m.length ∧ p = (List.range m.length).map fun k => atL m (f k)
theorem Srt.nil : Srt [] [] := ⟨fun _ => 0, Run.none _ _ (Nat.le_refl _), rfl⟩
theorem Srt.len {m p : List Ln} (h : Srt m p) : p.length = m.length := by obtain ⟨f, _, rfl⟩ := h; simp
theorem els_lines (m : List Ln) (f : Nat → Int) (N : Nat) : elsL (cellsL m) f N = ((List.range N).map fun k => atL m (f k)).flatMap Ln.cs := by
  unfold elsL cellsL
  rw [List.flatMap, List.map_map]; rfl
theorem els_self (m : List Ln) : elsL (cellsL m) (fun k => (k : Int)) m.length = m.flatMap Ln.cs := by
  rw [els_lines]
  congr 1
  apply List.ext_getElem (by simp)
  intro i h1 h2
  simp only [List.getElem_map, List.getElem_range]
  exact atL_get (List.getElem?_eq_getElem h2)
/-- a name's row, as it stands in memory -/
theorem RowsN.row {W : World} {B : Nat} {e : TypeId} {mv : List UInt8 → Value} {m : List UInt8 → List Ln} (h : RowsN W B e mv m) {s : List UInt8} (hne : m s ≠ []) :
    ∃ g cap RR0, mv s = .slice (some ⟨g, 0, none⟩) (m s).length cap ∧ B ≤ g ∧ (m s).length ≤ cap ∧ cap ≤ 9223372036854775807 ∧ W.row g = some (.cells ((m s).flatMap Ln.cs ++ RR0).toArray e) := by
  obtain ⟨hl, ⟨_, h0⟩ | ⟨g, cap, cur, e1, hb, hh, hnc, hc, hsz, htake⟩⟩ := h.own s
  · exact (hne (List.length_eq_zero_iff.1 h0)).elim
  · refine ⟨g, cap, cur.toList.drop ((m s).length * 5), e1, hb, hnc, by simpa [maxLen] using hc, ?_⟩
    rw [← htake, List.take_append_drop]
    simpa [World.row] using hh
theorem RowsN.turn {W W' : World} {B : Nat} {e : TypeId} {mv : List UInt8 → Value} {m : List UInt8 → List Ln} (h : RowsN W B e mv m) {s : List UInt8} {g cap : Nat} {RR0 : List Value} {l' : List Ln} (hv : mv s = .slice (some ⟨g, 0, none⟩) (m s).length cap)
    (hr : W.row g = some (.cells ((m s).flatMap Ln.cs ++ RR0).toArray e)) (hr' : W'.row g = some (.cells (l'.flatMap Ln.cs ++ RR0).toArray e)) (hl : l'.length = (m s).length) (ho : ∀ k, k ≠ g → k < W.heap.size → W'.row k = W.row k) :
    RowsN W' B e mv fun t => if t = s then l' else m t := by
  have f5 : ∀ l : List Ln, (l.flatMap Ln.cs).length = l.length * 5 := fun l => by
    induction l with
    | nil => rfl
    | cons a r ih => rw [List.flatMap_cons, List.length_append, ih]; show 5 + _ = _; simp only [List.length_cons]; omega
  refine ⟨fun t => ?_, h.apart⟩
  by_cases ht : t = s
  · subst ht
    simp only [if_true]
    have hob := h.own t
    obtain ⟨_, ⟨e0, _⟩ | ⟨g', cap', cur, e1, hb, hh, hnc, hc, hsz, _⟩⟩ := hob
    · rw [hv] at e0; cases e0
    · rw [hv] at e1
      injection e1 with e1 e2 e3
      injection e1 with e1
      injection e1 with e1
      subst e1; subst e3
      have ecur : cur = ((m t).flatMap Ln.cs ++ RR0).toArray := by
        have : W.row g = some (.cells cur e (0, 0)) := hh
        rw [hr] at this
        injection this with this
        injection this with this
        exact this.symm
      refine ⟨by rw [f5], .inr ⟨g, cap, (l'.flatMap Ln.cs ++ RR0).toArray, by rw [hv, hl], hb, by simpa [World.row] using hr', by omega, hc, ?_, ?_⟩⟩
      · rw [← hsz, ecur]; simp [f5, hl]
      · rw [List.toList_toArray, ← f5 l', List.take_left]
  · simp only [if_neg ht]
    refine own_kept (h.own t) fun k hk => ho k (fun e => ?_) ((h.own t).lt k hk).2
    subst e
    exact h.apart s t k (fun x => ht x.symm) (by rw [hv]; rfl) hk
theorem On.grownBy {g : Nat} {a c w0 : World} (h : On g a c) (h0 : w0.heap.size ≤ g) (hg : w0.grows a) : a.grownBy c (some g) := by
  have h1 := hg.below
  have h2 := (h.gr w0 h0 hg).below
  obtain ⟨a1, a2, a3, _, _⟩ := h1
  obtain ⟨b1, b2, b3, _, _⟩ := h2
  exact ⟨b1.trans a1.symm, b2.trans a2.symm, b3.trans a3.symm, h.size, fun k hk hne => by
    have := h.row k (fun e => hne (by rw [e])) hk
    simpa [World.row] using this⟩
theorem RowsN.kept {W W' : World} {B : Nat} {e : TypeId} {mv : List UInt8 → Value} {m : List UInt8 → List Ln} (h : RowsN W B e mv m) (hk : ∀ g o, W.row g = some (.cells o e) → W'.row g = W.row g) : RowsN W' B e mv m := by
  refine ⟨fun s => ?_, h.apart⟩
  refine own_kept (h.own s) fun g hg => ?_
  obtain ⟨_, ⟨e0, _⟩ | ⟨g', cap', cur, e1, _, hh, _⟩⟩ := h.own s
  · rw [e0] at hg; cases hg
  · rw [e1] at hg
    cases hg
    exact hk g' cur hh
theorem RowsN.none {W : World} {B : Nat} {e : TypeId} {mv : List UInt8 → Value} {m : List UInt8 → List Ln} (h : RowsN W B e mv m) {s : List UInt8} (hv : mv s = .slice none 0 0) : m s = [] := by
  obtain ⟨_, ⟨_, h0⟩ | ⟨g, cap, cur, e1, _⟩⟩ := h.own s
  · exact List.length_eq_zero_iff.1 h0
  · rw [hv] at e1; cases e1
theorem ranges_not {P : Program} {k : TypeId} {b r n : Nat} {D : DataW Value} {left : Lit → Bool} {cnt g : Nat} {w : World} {o : Array Value} {e : TypeId} (h : w.ranges P k heldR b r n D left cnt) (hr : w.row g = some (.cells o e)) : g ≠ r ∧ g ≠ b := by
  obtain ⟨es, clock, since, seen, c0, hb, _, _, _, hi, _⟩ := h
  have hr' : w.heap[g]? = some (.cells o e) := by simpa [World.row] using hr
  exact ⟨fun x => (by rw [x, hi] at hr'; cases hr'), fun x => (by rw [x, hb] at hr'; cases hr')⟩
/-- what is still to come, and what is in order -/
def TurnN (m p : List UInt8 → List Ln) (left : Lit → Bool) : Prop := ∀ s, (left (.string s) = true ∧ p s = m s ∧ m s ≠ []) ∨ (left (.string s) = false ∧ Srt (m s) (p s))
theorem TurnN.start {W : World} {B : Nat} {e : TypeId} {mv : List UInt8 → Value} {m : List UInt8 → List Ln} {D : DataW Value} (h : RowsN W B e mv m) (hD : MapV D mv) (hM : HasM D m) : TurnN m m (has D) := fun s => by
  cases hh : has D (.string s) with
  | true => exact .inl ⟨rfl, rfl, hM s hh⟩
  | false =>
    refine .inr ⟨rfl, ?_⟩
    have h1 := hD.2 s
    rw [atKey_of_not_has hh] at h1
    have h2 : mv s = .slice none 0 0 := by unfold nilS at h1; injection h1 with h1; exact h1.symm
    rw [h.none h2]; exact Srt.nil
theorem TurnN.step {m p : List UInt8 → List Ln} {left : Lit → Bool} (h : TurnN m p left) {s : List UInt8} {l' : List Ln} (hs : Srt (m s) l') : TurnN m (fun t => if t = s then l' else p t) (fun z => left z && !z.sameKey (.string s)) := fun t => by
  by_cases ht : t = s
  · subst ht
    right
    simp only [if_true]
    exact ⟨by rw [WideAt.sameKey_self (isKey_s t)]; simp, hs⟩
  · simp only [if_neg ht]
    have ne : (Lit.string t).sameKey (.string s) = false := by
      cases hk : (Lit.string t).sameKey (.string s)
      · rfl
      · have := WideAt.sameKey_eq hk
        injection this with this
        exact (ht this).elim
    rw [ne]
    simpa using h t
end Go
