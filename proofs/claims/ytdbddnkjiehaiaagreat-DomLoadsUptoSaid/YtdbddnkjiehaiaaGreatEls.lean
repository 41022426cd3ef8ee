/- ELEMENTS OF SEVERAL CELLS IN A BLOCK: a block of things that are known by a number, as a function of places: reading, writing. No condition; laws over any program. -/
import Derived.Test.YtdbddnkjiehaiaaGreatInts
set_option linter.unusedSimpArgs false
set_option linter.unusedVariables false
namespace Go
open Go.RowKit

/-- each thing has n cells -/
def ElZ (n : Nat) (Z : Int → List Value) : Prop := 0 < n ∧ ∀ x, (Z x).length = n ∧ ∀ v ∈ Z x, v.oneCell' = true
/-- the cells of the first N places -/
def elsL (Z : Int → List Value) (f : Nat → Int) (N : Nat) : List Value := ((List.range N).map fun i => Z (f i)).flatten
theorem elsL_succ (Z : Int → List Value) (f : Nat → Int) (N : Nat) : elsL Z f (N + 1) = elsL Z f N ++ Z (f N) := by simp [elsL, List.range_succ]
theorem elsL_len {n : Nat} {Z : Int → List Value} (h : ElZ n Z) (f : Nat → Int) : ∀ N, (elsL Z f N).length = N * n
  | 0 => by simp [elsL]
  | N + 1 => by rw [elsL_succ, List.length_append, elsL_len h f N, (h.2 _).1, Nat.add_mul, Nat.one_mul]
theorem elsL_get {n : Nat} {Z : Int → List Value} (h : ElZ n Z) (f : Nat → Int) : ∀ {N i j : Nat}, i < N → j < n → (elsL Z f N)[i * n + j]? = (Z (f i))[j]?
  | 0, i, j, hi, _ => by omega
  | N + 1, i, j, hi, hj => by
    rw [elsL_succ]
    by_cases e : i = N
    · subst e
      rw [List.getElem?_append_right (by rw [elsL_len h]; omega), elsL_len h]
      congr 1; omega
    · have : i * n + j < N * n := by
        have := Nat.mul_le_mul_right n (show i + 1 ≤ N by omega)
        rw [Nat.add_mul, Nat.one_mul] at this; omega
      rw [List.getElem?_append_left (by rw [elsL_len h]; exact this)]
      exact elsL_get h f (by omega) hj
theorem elsL_ext {n : Nat} {Z : Int → List Value} (h : ElZ n Z) {f f' : Nat → Int} {N : Nat} (e : ∀ k, k < N → f k = f' k) : elsL Z f N = elsL Z f' N := by
  unfold elsL
  congr 1
  exact List.map_congr_left fun i hi => by rw [e i (List.mem_range.1 hi)]
/-- cells written from a place on -/
def setL : Nat → List Value → List Value → List Value
  | _, [], l => l
  | o, v :: r, l => setL (o + 1) r (l.set o v)
theorem setL_len : ∀ (vs : List Value) (o : Nat) (l : List Value), (setL o vs l).length = l.length
  | [], _, _ => rfl
  | v :: r, o, l => by show (setL (o + 1) r (l.set o v)).length = _; rw [setL_len r, List.length_set]
theorem setL_get : ∀ (vs : List Value) (o : Nat) (l : List Value) (j : Nat), o + vs.length ≤ l.length → (setL o vs l)[j]? = if o ≤ j ∧ j < o + vs.length then vs[j - o]? else l[j]?
  | [], o, l, j, _ => by rw [if_neg (by simp)]; rfl
  | v :: r, o, l, j, h => by
    show (setL (o + 1) r (l.set o v))[j]? = _
    have h' : o + (r.length + 1) ≤ l.length := h
    rw [setL_get r (o + 1) (l.set o v) j (by rw [List.length_set]; omega), List.getElem?_set]
    simp only [List.length_cons]
    by_cases h1 : j = o
    · subst h1
      rw [if_neg (by omega), if_pos rfl, if_pos (by omega), if_pos (by omega), Nat.sub_self]; rfl
    · by_cases h2 : o + 1 ≤ j ∧ j < o + 1 + r.length
      · rw [if_pos h2, if_pos (by omega)]
        rw [show j - o = (j - (o + 1)) + 1 by omega]; rfl
      · rw [if_neg h2, if_neg (fun e => h1 e.symm), if_neg (by omega)]
theorem setL_els {n : Nat} {Z : Int → List Value} (h : ElZ n Z) (f : Nat → Int) {N i : Nat} (x : Int) (R : List Value) (hi : i < N) : setL (i * n) (Z x) (elsL Z f N ++ R) = elsL Z (upF f i x) N ++ R := by
  have hl := (h.2 x).1
  have hb : i * n + n ≤ N * n := by
    have := Nat.mul_le_mul_right n (show i + 1 ≤ N by omega)
    rw [Nat.add_mul, Nat.one_mul] at this; exact this
  apply List.ext_getElem?
  intro k
  rw [setL_get _ _ _ _ (by rw [List.length_append, elsL_len h, hl]; omega), hl]
  by_cases hk : k < N * n
  · rw [List.getElem?_append_left (by rw [elsL_len h]; exact hk), List.getElem?_append_left (by rw [elsL_len h]; exact hk)]
    have hn := h.1
    obtain ⟨q, r, hr, e⟩ : ∃ q r, r < n ∧ k = q * n + r := ⟨k / n, k % n, Nat.mod_lt _ hn, by rw [Nat.mul_comm]; exact (Nat.div_add_mod k n).symm⟩
    subst e
    have hq : q < N := by
      rcases Nat.lt_or_ge q N with x | x
      · exact x
      · have := Nat.mul_le_mul_right n x; omega
    rw [elsL_get h f hq hr, elsL_get h _ hq hr]
    unfold upF
    by_cases hqi : q = i
    · subst hqi
      rw [if_pos (by omega), if_pos rfl]
      congr 1; omega
    · rw [if_neg hqi]
      rw [if_neg]
      rintro ⟨a, b⟩
      rcases Nat.lt_or_gt_of_ne hqi with y | y
      · have := Nat.mul_le_mul_right n (show q + 1 ≤ i by omega)
        rw [Nat.add_mul, Nat.one_mul] at this; omega
      · have := Nat.mul_le_mul_right n (show i + 1 ≤ q by omega)
        rw [Nat.add_mul, Nat.one_mul] at this; omega
  · rw [if_neg (by omega), List.getElem?_append_right (by rw [elsL_len h]; omega), List.getElem?_append_right (by rw [elsL_len h]; omega), elsL_len h, elsL_len h]
/-- a block's cells written from a place on -/
def segSet (o : Nat) (vs : List Value) : Option Obj → Option Obj
  | some (.cells c t fr) => some (.cells (setL o vs c.toList).toArray t fr)
  | r => r
theorem segSet_els {n : Nat} {Z : Int → List Value} (h : ElZ n Z) (f : Nat → Int) {N i : Nat} (x : Int) (R : List Value) (t : TypeId) (fr : Nat × Nat) (hi : i < N) :
    segSet (i * n) (Z x) (some (.cells (elsL Z f N ++ R).toArray t fr)) = some (.cells (elsL Z (upF f i x) N ++ R).toArray t fr) := by
  show some (Obj.cells (setL (i * n) (Z x) (elsL Z f N ++ R).toArray.toList).toArray t fr) = _
  rw [List.toList_toArray, setL_els h f x R hi]
theorem segSet_setR (o : Nat) (v : Value) (vs : List Value) (r : Option Obj) : segSet (o + 1) vs (setR o v r) = segSet o (v :: vs) r := by
  cases r with
  | none => rfl
  | some ob =>
    cases ob with
    | cells c t fr =>
      show some (Obj.cells (setL (o + 1) vs (c.setIfInBounds o v).toList).toArray t fr) = some (Obj.cells (setL (o + 1) vs (c.toList.set o v)).toArray t fr)
      rw [Array.toList_setIfInBounds]
    | _ => rfl
@[go_sem] theorem World.row_setCells (g k : Nat) : ∀ (vs : List Value) (o : Nat) (w : World), (w.setCells g o vs).row k = if k = g then segSet o vs (w.row g) else w.row k
  | [], o, w => by
    show w.row k = _
    by_cases h : k = g
    · subst h
      rw [if_pos rfl]
      cases w.row k with
      | none => rfl
      | some ob => cases ob <;> first | rfl | (rename_i c t fr; show _ = some (Obj.cells (c.toList).toArray t fr); rw [Array.toArray_toList])
    · rw [if_neg h]
  | v :: r, o, w => by
    show ((w.setCell ⟨g, o, none⟩ v).setCells g (o + 1) r).row k = _
    rw [World.row_setCells g k r (o + 1), World.row_setCell, World.row_setCell, if_pos rfl, segSet_setR]
    by_cases h : k = g
    · rw [if_pos h, if_pos h]
    · rw [if_neg h, if_neg h, if_neg h]
@[go_sem] theorem World.size_setCells (g : Nat) : ∀ (vs : List Value) (o : Nat) (w : World), (w.setCells g o vs).heap.size = w.heap.size
  | [], _, _ => rfl
  | v :: r, o, w => by
    show ((w.setCell ⟨g, o, none⟩ v).setCells g (o + 1) r).heap.size = _
    rw [World.size_setCells g r]; simp [World.setCell]
/-- n cells from off on stand, and may be written -/
def segOkW (off n : Nat) : Option Obj → Bool
  | some (.cells cs _ (a, b)) => decide (off + n ≤ cs.size) && decide (b ≤ a)
  | _ => false
@[go_sem] theorem segOkW_set (o n o' : Nat) (vs : List Value) (r : Option Obj) : segOkW o n (segSet o' vs r) = segOkW o n r := by
  cases r with
  | none => rfl
  | some ob => cases ob <;> first | rfl | (rename_i c t fr; obtain ⟨a, b⟩ := fr; simp [segSet, segOkW, setL_len])
theorem there_of {w : World} {g off n : Nat} (h : segOkW off n (w.row g) = true) : w.there g off n := by
  unfold segOkW at h
  split at h
  · rename_i cs t a b hg
    rw [Bool.and_eq_true, decide_eq_true_eq, decide_eq_true_eq] at h
    intro j hj
    rw [World.cell?_row, World.frozen?_row, hg]
    refine ⟨?_, ?_⟩
    · show (cs[off + j]?).isSome = true
      rw [Array.getElem?_eq_getElem (by omega)]; rfl
    · show (decide (a ≤ off + j) && decide (off + j < b)) = false
      rw [Bool.and_eq_false_iff, decide_eq_false_iff_not, decide_eq_false_iff_not]
      omega
  · cases h
theorem run_storeR_seg {P : Program} (w : World) (t : TypeId) (g off n : Nat) (cs : List Value) (hn : cs.length = n) (hi : (P.info? t).map (·.size) = some n) (h1 : ∀ v ∈ cs, v.oneCell' = true) (h : segOkW off n (w.row g) = true) :
    (storeR t (.pointer (some ⟨g, off, none⟩)) (.agg cs.toArray)).run P w = .ok () (w.setCells g off cs) := by
  show (Instr.storeAt t (.pointer (some ⟨g, off, none⟩)) (.agg cs.toArray)).run P w = _
  have := run_storeAt_mid (P := P) w g off t cs.toArray (by simpa [hn] using there_of h) (by simpa [hn] using hi) (all_oneCell_toArray h1)
  simpa using this
theorem els_seg {n : Nat} {Z : Int → List Value} (h : ElZ n Z) {w : World} {g : Nat} {f : Nat → Int} {N i : Nat} {R : List Value} {t : TypeId} (hr : w.row g = some (.cells (elsL Z f N ++ R).toArray t)) (hi : i < N) :
    segOk (i * n) n (w.row g) = true ∧ segV (i * n) n (w.row g) = .agg (Z (f i)).toArray ∧ segOkW (i * n) n (w.row g) = true := by
  have hb : i * n + n ≤ N * n := by
    have := Nat.mul_le_mul_right n (show i + 1 ≤ N by omega)
    rw [Nat.add_mul, Nat.one_mul] at this; exact this
  have hsz : i * n + n ≤ (elsL Z f N ++ R).toArray.size := by simp [elsL_len h]; omega
  rw [hr]
  refine ⟨decide_eq_true hsz, ?_, ?_⟩
  · show Value.agg ((elsL Z f N ++ R).toArray.extract (i * n) (i * n + n)) = _
    congr 1
    apply Array.ext_getElem?
    intro j
    rw [Array.getElem?_extract]
    by_cases hj : j < n
    · rw [if_pos (by omega), List.getElem?_toArray, List.getElem?_append_left (by rw [elsL_len h]; omega), elsL_get h f hi hj, List.getElem?_toArray]
    · rw [if_neg (by omega), Array.getElem?_eq_none (by simp [(h.2 (f i)).1]; omega)]
  · show (decide _ && decide _) = true
    rw [decide_eq_true hsz]; rfl
theorem On.setCells {g : Nat} {w : World} : ∀ (vs : List Value) (o : Nat) {W : World}, On g w W → On g w (W.setCells g o vs)
  | [], _, _, h => h
  | v :: r, o, _, h => On.setCells r (o + 1) (h.set o v)
end Go
