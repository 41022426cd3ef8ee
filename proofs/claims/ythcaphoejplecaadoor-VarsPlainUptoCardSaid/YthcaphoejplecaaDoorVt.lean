/- COMPONENT VALUES: tokens and trees of them; as they stand in memory; how a list of tokens is read as trees. No condition; no program. -/
import Derived.Test.YthcaphoejplecaaDoorSl
set_option linter.unusedSimpArgs false
set_option linter.unusedVariables false
namespace Go
open Go.RowKit

/-- a token: its kind, its text, its number, and two marks -/
structure Tk where
  k : Int
  s : ByteArray
  n : Int
  d : Int
  w : Bool
  i : Bool
abbrev Tk.cs (t : Tk) : List Value := [.int .i64 t.k, .string t.s, .int .i64 t.n, .int .i64 t.d, .bool t.w, .bool t.i]
abbrev Tk.v (t : Tk) : Value := .agg #[.int .i64 t.k, .string t.s, .int .i64 t.n, .int .i64 t.d, .bool t.w, .bool t.i]
def Tk.Wf (t : Tk) : Prop := I64 t.k ∧ t.s.size ≤ maxLen ∧ I64 t.n ∧ I64 t.d
def TkR (t : Tk) (cs : List Value) : Prop := cs = t.cs ∧ t.Wf
/-- a component value: a token, and what stands in it -/
inductive Vt where
  | mk (t : Tk) (kids : List Vt)
def Vt.t : Vt → Tk | .mk t _ => t
def Vt.kids : Vt → List Vt | .mk _ ks => ks
/-- the tree (no deeper than the number) stands in memory, its head in these cells -/
def VAt (w : World) (S : Nat → Prop) : Nat → Vt → List Value → Prop
  | 0, _, _ => False
  | m + 1, .mk t ks, cs => t.Wf ∧ ∃ v, cs = t.cs ++ [v] ∧ SlAt w S 7 (VAt w S m) v ks
def VOk (w : World) (S : Nat → Prop) (x : Vt) (cs : List Value) : Prop := ∃ m, VAt w S m x cs
theorem VAt.keep {w W : World} {S S' : Nat → Prop} (hw : ∀ g, S g → g < w.heap.size → W.row g = w.row g ∧ S' g) : ∀ (m : Nat) (x : Vt) (cs : List Value), VAt w S m x cs → VAt W S' m x cs
  | 0, _, _, h => h
  | m + 1, .mk t ks, cs, h => by
    obtain ⟨h1, v, h3, h4⟩ := h
    exact ⟨h1, v, h3, h4.keep hw fun x _ cs hx => VAt.keep hw m x cs hx⟩
theorem VAt.succ {w : World} {S : Nat → Prop} : ∀ (m : Nat) (x : Vt) (cs : List Value), VAt w S m x cs → VAt w S (m + 1) x cs
  | 0, _, _, h => h.elim
  | m + 1, .mk t ks, cs, h => by
    obtain ⟨h1, v, h3, h4⟩ := h
    exact ⟨h1, v, h3, h4.keep (fun _ hS _ => ⟨rfl, hS⟩) fun x _ cs hx => VAt.succ m x cs hx⟩
theorem VAt.le {w : World} {S : Nat → Prop} {m m' : Nat} {x : Vt} {cs : List Value} (h : VAt w S m x cs) (hm : m ≤ m') : VAt w S m' x cs := by
  induction hm with
  | refl => exact h
  | step _ ih => exact VAt.succ _ _ _ ih
theorem VOk.keep {w W : World} {S S' : Nat → Prop} (hw : ∀ g, S g → g < w.heap.size → W.row g = w.row g ∧ S' g) {x : Vt} {cs : List Value} (h : VOk w S x cs) : VOk W S' x cs := by
  obtain ⟨m, h⟩ := h; exact ⟨m, h.keep hw⟩
theorem VOk.grows {w W : World} {S : Nat → Prop} {x : Vt} {cs : List Value} (h : VOk w S x cs) (hg : w.grows W) : VOk W S x cs :=
  h.keep fun _ hS hl => ⟨hg.row_eq hl, hS⟩
theorem VOk.len {w : World} {S : Nat → Prop} {x : Vt} {cs : List Value} (h : VOk w S x cs) : cs.length = 7 := by
  obtain ⟨m, h⟩ := h
  cases m with
  | zero => exact h.elim
  | succ m =>
    obtain ⟨t, ks⟩ := x
    obtain ⟨_, v, rfl, _⟩ := h
    rfl
theorem vt_common {α : Type} {P : Nat → α → Prop} (hP : ∀ m m' x, P m x → m ≤ m' → P m' x) : ∀ (l : List α), (∀ x ∈ l, ∃ m, P m x) → ∃ m, ∀ x ∈ l, P m x
  | [], _ => ⟨0, fun x hx => by cases hx⟩
  | y :: l, h => by
    obtain ⟨m1, h1⟩ := h y (by simp)
    obtain ⟨m2, h2⟩ := vt_common hP l fun x hx => h x (by simp [hx])
    refine ⟨max m1 m2, fun x hx => ?_⟩
    rcases List.mem_cons.1 hx with rfl | hx
    · exact hP _ _ _ h1 (by omega)
    · exact hP _ _ _ (h2 x hx) (by omega)
theorem SlAt.commonV {α : Type} {w : World} {S : Nat → Prop} {n : Nat} {R : Nat → α → List Value → Prop} (hR : ∀ m m' x cs, R m x cs → m ≤ m' → R m' x cs) {v : Value} {l : List α} (h : SlAt w S n (fun x cs => ∃ m, R m x cs) v l) :
    ∃ m, SlAt w S n (R m) v l := by
  obtain ⟨a, cap, h1, h2, h3, h4⟩ := h
  rcases h4 with h4 | ⟨g, off, h5, h6, h7⟩
  · exact ⟨0, a, cap, h1, h2, h3, .inl h4⟩
  · obtain ⟨m, hm⟩ := vt_common (P := fun m (i : Nat) => ∀ x, l[i]? = some x → ∃ cs, cs.length = n ∧ eltAt w g (off + i * n) cs ∧ R m x cs)
      (fun m m' i h hle x hx => by obtain ⟨cs, a, b, c⟩ := h x hx; exact ⟨cs, a, b, hR _ _ _ _ c hle⟩) (List.range l.length) (fun i hi => by
        have hil := List.mem_range.1 hi
        obtain ⟨cs, a, b, m, c⟩ := h7 i l[i] (by simp [hil])
        exact ⟨m, fun x hx => by rw [List.getElem?_eq_getElem hil] at hx; cases hx; exact ⟨cs, a, b, c⟩⟩)
    exact ⟨m, a, cap, h1, h2, h3, .inr ⟨g, off, h5, h6, fun i x hx => hm i (List.mem_range.2 (List.getElem?_eq_some_iff.1 hx).1) x hx⟩⟩
theorem VOk_mk {w : World} {S : Nat → Prop} {t : Tk} {ks : List Vt} {v : Value} (h1 : t.Wf) (h3 : SlAt w S 7 (VOk w S) v ks) : VOk w S (.mk t ks) (t.cs ++ [v]) := by
  obtain ⟨m, hm⟩ := SlAt.commonV (R := VAt w S) (fun _ _ _ _ h hle => h.le hle) h3
  exact ⟨m + 1, h1, v, rfl, hm⟩
theorem VOk_open {w : World} {S : Nat → Prop} {t : Tk} {ks : List Vt} {cs : List Value} (h : VOk w S (.mk t ks) cs) : t.Wf ∧ ∃ v, cs = t.cs ++ [v] ∧ SlAt w S 7 (VOk w S) v ks := by
  obtain ⟨m, h⟩ := h
  cases m with
  | zero => exact h.elim
  | succ m =>
    obtain ⟨h1, v, h3, h4⟩ := h
    exact ⟨h1, v, h3, h4.keep (fun _ hS _ => ⟨rfl, hS⟩) fun x _ cs hx => ⟨m, hx⟩⟩
/-- a list of component values in memory -/
abbrev VsAt (w : World) (S : Nat → Prop) (v : Value) (l : List Vt) : Prop := SlAt w S 7 (VOk w S) v l
theorem VsAt.keep {w W : World} {S S' : Nat → Prop} (hw : ∀ g, S g → g < w.heap.size → W.row g = w.row g ∧ S' g) {v : Value} {l : List Vt} (h : VsAt w S v l) : VsAt W S' v l :=
  SlAt.keep h hw fun _ _ _ hx => hx.keep hw
theorem VsAt.grows {w W : World} {S : Nat → Prop} {v : Value} {l : List Vt} (h : VsAt w S v l) (hg : w.grows W) : VsAt W S v l :=
  h.keep fun _ hS hl => ⟨hg.row_eq hl, hS⟩

/-- the kind that closes a kind; 0 of what opens nothing -/
def clo (k : Int) : Int := if k = 2 ∨ k = 21 then 22 else if k = 19 then 20 else if k = 23 then 24 else 0
/-- what is open, and what stands so far in each -/
structure Ps where
  os : List Tk
  ls : List (List Vt)
/-- something put behind the last list -/
def addTop (ls : List (List Vt)) (x : Vt) : List (List Vt) := ls.dropLast ++ [ls.getLastD [] ++ [x]]
def Ps.shut (p : Ps) : Ps := ⟨p.os.dropLast, addTop p.ls.dropLast (.mk (p.os.getLastD ⟨0, ByteArray.empty, 0, 0, false, false⟩) (p.ls.getLastD []))⟩
def Ps.step (p : Ps) (t : Tk) : Ps :=
  if 0 < clo t.k then ⟨p.os ++ [t], p.ls ++ [[]]⟩
  else if p.os ≠ [] ∧ clo (p.os.getLastD ⟨0, ByteArray.empty, 0, 0, false, false⟩).k = t.k then p.shut
  else ⟨p.os, addTop p.ls (.mk t [])⟩
def Ps.run (l : List Tk) : Ps := l.foldl Ps.step ⟨[], [[]]⟩
def Ps.ends : Nat → Ps → Ps
  | 0, p => p
  | n + 1, p => Ps.ends n p.shut
/-- the component values of tokens -/
def parse (l : List Tk) : List Vt := (Ps.ends (Ps.run l).os.length (Ps.run l)).ls.headD []
theorem clo_cases (k : Int) : clo k = 0 ∨ clo k = 20 ∨ clo k = 22 ∨ clo k = 24 := by
  unfold clo; split
  · simp
  · split
    · simp
    · split <;> simp
theorem clo_no (k : Int) : clo (clo k) = 0 := by
  rcases clo_cases k with h | h | h | h <;> rw [h] <;> decide
theorem addTop_len {ls : List (List Vt)} (h : ls ≠ []) (x : Vt) : (addTop ls x).length = ls.length := by
  unfold addTop
  have := List.length_pos_iff.2 h
  simp; omega
theorem Ps.shut_len {p : Ps} (h : p.ls.length = p.os.length + 1) (ho : p.os ≠ []) : p.shut.ls.length = p.shut.os.length + 1 := by
  have := List.length_pos_iff.2 ho
  unfold Ps.shut
  rw [addTop_len (by intro e; have := congrArg List.length e; simp at this; omega)]
  simp; omega
theorem Ps.step_len {p : Ps} (h : p.ls.length = p.os.length + 1) (t : Tk) : (p.step t).ls.length = (p.step t).os.length + 1 := by
  unfold Ps.step
  split
  · simp; omega
  · split
    · next hc => exact Ps.shut_len h hc.1
    · rw [addTop_len (by intro e; rw [e] at h; simp at h)]; exact h
theorem Ps.run_len (l : List Tk) : (Ps.run l).ls.length = (Ps.run l).os.length + 1 := by
  have key : ∀ (l : List Tk) (p : Ps), p.ls.length = p.os.length + 1 → (l.foldl Ps.step p).ls.length = (l.foldl Ps.step p).os.length + 1 := by
    intro l
    induction l with
    | nil => intro p h; exact h
    | cons a t ih => intro p h; exact ih _ (Ps.step_len h a)
  exact key l _ rfl
theorem Ps.run_succ {l : List Tk} {i : Nat} {x : Tk} (h : l[i]? = some x) : Ps.run (l.take (i + 1)) = (Ps.run (l.take i)).step x := by
  unfold Ps.run
  rw [List.take_add_one, h, List.foldl_append]
  rfl
end Go
