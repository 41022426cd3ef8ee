/- Texts of the walk, one after the other; what each proves stands ahead of it. -/
import Derived.Test.YthcaphoejplecaaGreatDoorSl
set_option linter.unusedSimpArgs false
set_option linter.unusedVariables false
/- COMPONENT VALUES: tokens and trees of them; as they stand in memory; how a list of tokens is read as trees. No condition; no program. -/
namespace Go
open Go.RowKit

/-- a token: its kind, its text, its number, and two marks -/
structure Tk where
  k : Int
  s : ByteArray
  n : Int
  d : Int
  w : Bool
  i : Bool
abbrev Tk.cs (t : Tk) : List Value := [.int .i64 t.k, .string t.s, .int .i64 t.n, .int .i64 t.d, .bool t.w, .bool t.i]
abbrev Tk.v (t : Tk) : Value := .agg #[.int .i64 t.k, .string t.s, .int .i64 t.n, .int .i64 t.d, .bool t.w, .bool t.i]
def Tk.Wf (t : Tk) : Prop := I64 t.k ∧ t.s.size ≤ maxLen ∧ I64 t.n ∧ I64 t.d
def TkR (t : Tk) (cs : List Value) : Prop := cs = t.cs ∧ t.Wf
/-- a component value: a token, and what stands in it -/
inductive Vt where
  | mk (t : Tk) (kids : List Vt)
def Vt.t : Vt → Tk | .mk t _ => t
def Vt.kids : Vt → List Vt | .mk _ ks => ks
/-- the tree (no deeper than the number) stands in memory, its head in these cells -/
def VAt (w : World) (S : Nat → Prop) : Nat → Vt → List Value → Prop
  | 0, _, _ => False
  | m + 1, .mk t ks, cs => t.Wf ∧ ∃ v, cs = t.cs ++ [v] ∧ SlAt w S 7 (VAt w S m) v ks
def VOk (w : World) (S : Nat → Prop) (x : Vt) (cs : List Value) : Prop := ∃ m, VAt w S m x cs
theorem VAt.keep {w W : World} {S S' : Nat → Prop} (hw : ∀ g, S g → g < w.heap.size → W.row g = w.row g ∧ S' g) : ∀ (m : Nat) (x : Vt) (cs : List Value), VAt w S m x cs → VAt W S' m x cs
  | 0, _, _, h => h
  | m + 1, .mk t ks, cs, h => by
    obtain ⟨h1, v, h3, h4⟩ := h
    exact ⟨h1, v, h3, h4.keep hw fun x _ cs hx => VAt.keep hw m x cs hx⟩
theorem VAt.succ {w : World} {S : Nat → Prop} : ∀ (m : Nat) (x : Vt) (cs : List Value), VAt w S m x cs → VAt w S (m + 1) x cs
  | 0, _, _, h => h.elim
  | m + 1, .mk t ks, cs, h => by
    obtain ⟨h1, v, h3, h4⟩ := h
    exact ⟨h1, v, h3, h4.keep (fun _ hS _ => ⟨rfl, hS⟩) fun x _ cs hx => VAt.succ m x cs hx⟩
theorem VAt.le {w : World} {S : Nat → Prop} {m m' : Nat} {x : Vt} {cs : List Value} (h : VAt w S m x cs) (hm : m ≤ m') : VAt w S m' x cs := by
  induction hm with
  | refl => exact h
  | step _ ih => exact VAt.succ _ _ _ ih
theorem VOk.keep {w W : World} {S S' : Nat → Prop} (hw : ∀ g, S g → g < w.heap.size → W.row g = w.row g ∧ S' g) {x : Vt} {cs : List Value} (h : VOk w S x cs) : VOk W S' x cs := by
  obtain ⟨m, h⟩ := h; exact ⟨m, h.keep hw⟩
theorem VOk.grows {w W : World} {S : Nat → Prop} {x : Vt} {cs : List Value} (h : VOk w S x cs) (hg : w.grows W) : VOk W S x cs :=
  h.keep fun _ hS hl => ⟨hg.row_eq hl, hS⟩
theorem VOk.len {w : World} {S : Nat → Prop} {x : Vt} {cs : List Value} (h : VOk w S x cs) : cs.length = 7 := by
  obtain ⟨m, h⟩ := h
  cases m with
  | zero => exact h.elim
  | succ m =>
    obtain ⟨t, ks⟩ := x
    obtain ⟨_, v, rfl, _⟩ := h
    rfl
theorem vt_common {α : Type} {P : Nat → α → Prop} (hP : ∀ m m' x, P m x → m ≤ m' → P m' x) : ∀ (l : List α), (∀ x ∈ l, ∃ m, P m x) → ∃ m, ∀ x ∈ l, P m x
  | [], _ => ⟨0, fun x hx => by cases hx⟩
  | y :: l, h => by
    obtain ⟨m1, h1⟩ := h y (by simp)
    obtain ⟨m2, h2⟩ := vt_common hP l fun x hx => h x (by simp [hx])
    refine ⟨max m1 m2, fun x hx => ?_⟩
    rcases List.mem_cons.1 hx with rfl | hx
    · exact hP _ _ _ h1 (by omega)
    · exact hP _ _ _ (h2 x hx) (by omega)
theorem SlAt.commonV {α : Type} {w : World} {S : Nat → Prop} {n : Nat} {R : Nat → α → List Value → Prop} (hR : ∀ m m' x cs, R m x cs → m ≤ m' → R m' x cs) {v : Value} {l : List α} (h : SlAt w S n (fun x cs => ∃ m, R m x cs) v l) :
    ∃ m, SlAt w S n (R m) v l := by
  obtain ⟨a, cap, h1, h2, h3, h4⟩ := h
  rcases h4 with h4 | ⟨g, off, h5, h6, h7⟩
  · exact ⟨0, a, cap, h1, h2, h3, .inl h4⟩
  · obtain ⟨m, hm⟩ := vt_common (P := fun m (i : Nat) => ∀ x, l[i]? = some x → ∃ cs, cs.length = n ∧ eltAt w g (off + i * n) cs ∧ R m x cs)
      (fun m m' i h hle x hx => by obtain ⟨cs, a, b, c⟩ := h x hx; exact ⟨cs, a, b, hR _ _ _ _ c hle⟩) (List.range l.length) (fun i hi => by
        have hil := List.mem_range.1 hi
        obtain ⟨cs, a, b, m, c⟩ := h7 i l[i] (by simp [hil])
        exact ⟨m, fun x hx => by rw [List.getElem?_eq_getElem hil] at hx; cases hx; exact ⟨cs, a, b, c⟩⟩)
    exact ⟨m, a, cap, h1, h2, h3, .inr ⟨g, off, h5, h6, fun i x hx => hm i (List.mem_range.2 (List.getElem?_eq_some_iff.1 hx).1) x hx⟩⟩
theorem VOk_mk {w : World} {S : Nat → Prop} {t : Tk} {ks : List Vt} {v : Value} (h1 : t.Wf) (h3 : SlAt w S 7 (VOk w S) v ks) : VOk w S (.mk t ks) (t.cs ++ [v]) := by
  obtain ⟨m, hm⟩ := SlAt.commonV (R := VAt w S) (fun _ _ _ _ h hle => h.le hle) h3
  exact ⟨m + 1, h1, v, rfl, hm⟩
theorem VOk_open {w : World} {S : Nat → Prop} {t : Tk} {ks : List Vt} {cs : List Value} (h : VOk w S (.mk t ks) cs) : t.Wf ∧ ∃ v, cs = t.cs ++ [v] ∧ SlAt w S 7 (VOk w S) v ks := by
  obtain ⟨m, h⟩ := h
  cases m with
  | zero => exact h.elim
  | succ m =>
    obtain ⟨h1, v, h3, h4⟩ := h
    exact ⟨h1, v, h3, h4.keep (fun _ hS _ => ⟨rfl, hS⟩) fun x _ cs hx => ⟨m, hx⟩⟩
/-- a list of component values in memory -/
abbrev VsAt (w : World) (S : Nat → Prop) (v : Value) (l : List Vt) : Prop := SlAt w S 7 (VOk w S) v l
theorem VsAt.keep {w W : World} {S S' : Nat → Prop} (hw : ∀ g, S g → g < w.heap.size → W.row g = w.row g ∧ S' g) {v : Value} {l : List Vt} (h : VsAt w S v l) : VsAt W S' v l :=
  SlAt.keep h hw fun _ _ _ hx => hx.keep hw
theorem VsAt.grows {w W : World} {S : Nat → Prop} {v : Value} {l : List Vt} (h : VsAt w S v l) (hg : w.grows W) : VsAt W S v l :=
  h.keep fun _ hS hl => ⟨hg.row_eq hl, hS⟩

/-- the kind that closes a kind; 0 of what opens nothing -/
def clo (k : Int) : Int := if k = 2 ∨ k = 21 then 22 else if k = 19 then 20 else if k = 23 then 24 else 0
/-- what is open, and what stands so far in each -/
structure Ps where
  os : List Tk
  ls : List (List Vt)
/-- something put behind the last list -/
def addTop (ls : List (List Vt)) (x : Vt) : List (List Vt) := ls.dropLast ++ [ls.getLastD [] ++ [x]]
def Ps.shut (p : Ps) : Ps := ⟨p.os.dropLast, addTop p.ls.dropLast (.mk (p.os.getLastD ⟨0, ByteArray.empty, 0, 0, false, false⟩) (p.ls.getLastD []))⟩
def Ps.step (p : Ps) (t : Tk) : Ps :=
  if 0 < clo t.k then ⟨p.os ++ [t], p.ls ++ [[]]⟩
  else if p.os ≠ [] ∧ clo (p.os.getLastD ⟨0, ByteArray.empty, 0, 0, false, false⟩).k = t.k then p.shut
  else ⟨p.os, addTop p.ls (.mk t [])⟩
def Ps.run (l : List Tk) : Ps := l.foldl Ps.step ⟨[], [[]]⟩
def Ps.ends : Nat → Ps → Ps
  | 0, p => p
  | n + 1, p => Ps.ends n p.shut
/-- the component values of tokens -/
def parse (l : List Tk) : List Vt := (Ps.ends (Ps.run l).os.length (Ps.run l)).ls.headD []
theorem clo_cases (k : Int) : clo k = 0 ∨ clo k = 20 ∨ clo k = 22 ∨ clo k = 24 := by
  unfold clo; split
  · simp
  · split
    · simp
    · split <;> simp
theorem clo_no (k : Int) : clo (clo k) = 0 := by
  rcases clo_cases k with h | h | h | h <;> rw [h] <;> decide
theorem addTop_len {ls : List (List Vt)} (h : ls ≠ []) (x : Vt) : (addTop ls x).length = ls.length := by
  unfold addTop
  have := List.length_pos_iff.2 h
  simp; omega
theorem Ps.shut_len {p : Ps} (h : p.ls.length = p.os.length + 1) (ho : p.os ≠ []) : p.shut.ls.length = p.shut.os.length + 1 := by
  have := List.length_pos_iff.2 ho
  unfold Ps.shut
  rw [addTop_len (by intro e; have := congrArg List.length e; simp at this; omega)]
  simp; omega
theorem Ps.step_len {p : Ps} (h : p.ls.length = p.os.length + 1) (t : Tk) : (p.step t).ls.length = (p.step t).os.length + 1 := by
  unfold Ps.step
  split
  · simp; omega
  · split
    · next hc => exact Ps.shut_len h hc.1
    · rw [addTop_len (by intro e; rw [e] at h; simp at h)]; exact h
theorem Ps.run_len (l : List Tk) : (Ps.run l).ls.length = (Ps.run l).os.length + 1 := by
  have key : ∀ (l : List Tk) (p : Ps), p.ls.length = p.os.length + 1 → (l.foldl Ps.step p).ls.length = (l.foldl Ps.step p).os.length + 1 := by
    intro l
    induction l with
    | nil => intro p h; exact h
    | cons a t ih => intro p h; exact ih _ (Ps.step_len h a)
  exact key l _ rfl
theorem Ps.run_succ {l : List Tk} {i : Nat} {x : Tk} (h : l[i]? = some x) : Ps.run (l.take (i + 1)) = (Ps.run (l.take i)).step x := by
  unfold Ps.run
  rw [List.take_add_one, h, List.foldl_append]
  rfl
end Go

/- PLAIN: tokens with what is known put in the place of uses: the program's way and the reference's tell the same. No condition; no program. -/
namespace Go
open Go.RowKit
/-- a text's bytes, A to Z made small -/
def lowB (l : List UInt8) : List UInt8 := l.map fun c => if 65 ≤ c ∧ c ≤ 90 then c + 32 else c
def customB (s : ByteArray) : Bool := match s.data.toList with | 45 :: 45 :: _ :: _ => true | _ => false
def useT (v : Vt) : Bool := decide (v.t.k = 2) && decide (lowB v.t.s.data.toList = [118, 97, 114])
def blankT (v : Vt) : Bool := decide (v.t.k = 13)
/-- without blanks at both ends -/
def trimT (l : List Vt) : List Vt := ((l.dropWhile blankT).reverse.dropWhile blankT).reverse
/-- a use's name, and what stands behind it -/
def namedT (v : Vt) : Option (ByteArray × List Vt) :=
  match trimT v.kids with
  | [] => none
  | a :: l => if a.t.k ≠ 1 ∨ customB a.t.s = false then none else
    match trimT l with
    | [] => some (a.t.s, [])
    | b :: r => if b.t.k ≠ 18 then none else some (a.t.s, b :: r)
abbrev Known := ByteArray → Option (List Tk)
def shutTk (k : Int) : Tk := ⟨clo k, ByteArray.empty, 0, 0, false, false⟩
def over512 (o : Option (List Tk)) : Option (List Tk) := match o with | none => none | some o => if 512 < o.length then none else some o
/-- the program's put; so deep at most -/
def putP (k : Known) : Nat → List Tk → List Vt → Option (List Tk)
  | 0, _, _ => none
  | n + 1, out, l => l.foldl (fun acc v => match acc with
      | none => none
      | some out => over512 (
        if useT v then (match namedT v with
          | none => none
          | some (name, rest) => match k name with
            | some t => if out.length + t.length ≤ 512 then some (out ++ t) else none
            | none => if rest = [] then none else putP k n out (trimT rest.tail))
        else if 0 < clo v.t.k then (match putP k n (out ++ [v.t]) v.kids with
          | none => none
          | some o => some (o ++ [shutTk v.t.k]))
        else some (out ++ [v.t]))) (some out)
def moreT (out l : List Tk) : Option (List Tk) := if 512 < out.length + l.length then none else some (out ++ l)
/-- the reference's put; so deep at most -/
def putR (k : Known) : Nat → List Tk → List Vt → Option (List Tk)
  | 0, _, _ => none
  | n + 1, out, l => l.foldl (fun acc v => match acc with
      | none => none
      | some out =>
        if useT v then (match namedT v with
          | none => none
          | some (name, rest) => match k name with
            | some t => moreT out t
            | none => if rest = [] then none else putR k n out (trimT rest.tail))
        else if clo v.t.k ≠ 0 then (match moreT out [v.t] with
          | none => none
          | some o => match putR k n o v.kids with
            | none => none
            | some o => moreT o [shutTk v.t.k])
        else moreT out [v.t]) (some out)
theorem foldl_none {α β : Type} (f : Option α → β → Option α) (hf : ∀ b, f none b = none) : ∀ l : List β, l.foldl f none = none
  | [] => rfl
  | b :: l => by rw [List.foldl_cons, hf]; exact foldl_none f hf l
theorem putP_nil (k : Known) (n : Nat) (out : List Tk) : putP k (n + 1) out [] = some out := rfl
theorem putR_nil (k : Known) (n : Nat) (out : List Tk) : putR k (n + 1) out [] = some out := rfl
def stepP (k : Known) (n : Nat) (out : List Tk) (v : Vt) : Option (List Tk) := over512 (
        if useT v then (match namedT v with
          | none => none
          | some (name, rest) => match k name with
            | some t => if out.length + t.length ≤ 512 then some (out ++ t) else none
            | none => if rest = [] then none else putP k n out (trimT rest.tail))
        else if 0 < clo v.t.k then (match putP k n (out ++ [v.t]) v.kids with
          | none => none
          | some o => some (o ++ [shutTk v.t.k]))
        else some (out ++ [v.t]))
def stepR (k : Known) (n : Nat) (out : List Tk) (v : Vt) : Option (List Tk) :=
        if useT v then (match namedT v with
          | none => none
          | some (name, rest) => match k name with
            | some t => moreT out t
            | none => if rest = [] then none else putR k n out (trimT rest.tail))
        else if clo v.t.k ≠ 0 then (match moreT out [v.t] with
          | none => none
          | some o => match putR k n o v.kids with
            | none => none
            | some o => moreT o [shutTk v.t.k])
        else moreT out [v.t]
theorem putP_cons (k : Known) (n : Nat) (out : List Tk) (v : Vt) (l : List Vt) : putP k (n + 1) out (v :: l) = match stepP k n out v with | none => none | some o => putP k (n + 1) o l := by
  show List.foldl _ (stepP k n out v) l = _
  cases stepP k n out v with
  | none => exact foldl_none _ (fun _ => rfl) l
  | some o => rfl
theorem putR_cons (k : Known) (n : Nat) (out : List Tk) (v : Vt) (l : List Vt) : putR k (n + 1) out (v :: l) = match stepR k n out v with | none => none | some o => putR k (n + 1) o l := by
  show List.foldl _ (stepR k n out v) l = _
  cases stepR k n out v with
  | none => exact foldl_none _ (fun _ => rfl) l
  | some o => rfl
theorem over_some {o : Option (List Tk)} {r : List Tk} (h : over512 o = some r) : o = some r ∧ r.length ≤ 512 := by
  unfold over512 at h
  cases o with
  | none => cases h
  | some o =>
    simp only at h
    split at h
    · cases h
    · cases h; exact ⟨rfl, by omega⟩
/-- nothing is taken away -/
theorem putP_ge (k : Known) : ∀ (n : Nat) (l : List Vt) (out o : List Tk), putP k n out l = some o → out.length ≤ o.length
  | 0, l, out, o, h => by simp [putP] at h
  | n + 1, [], out, o, h => by rw [putP_nil] at h; cases h; exact Nat.le_refl _
  | n + 1, v :: l, out, o, h => by
    rw [putP_cons] at h
    cases hs : stepP k n out v with
    | none => rw [hs] at h; cases h
    | some m =>
      rw [hs] at h
      refine Nat.le_trans ?_ (putP_ge k (n + 1) l m o h)
      obtain ⟨h1, _⟩ := over_some hs
      split at h1
      · split at h1
        · cases h1
        · split at h1
          · split at h1
            · cases h1; simp
            · cases h1
          · split at h1
            · cases h1
            · exact putP_ge k n _ _ _ h1
      · split at h1
        · split at h1
          · cases h1
          · rename_i hp
            cases h1
            have := putP_ge k n _ _ _ hp
            simp at this ⊢; omega
        · cases h1; simp
termination_by n l => (n, l.length)
theorem putP_over (k : Known) (n : Nat) (v : Vt) (l : List Vt) (out : List Tk) (h : 512 < out.length) : putP k n out (v :: l) = none := by
  cases n with
  | zero => rfl
  | succ n =>
    rw [putP_cons]
    cases hs : stepP k n out v with
    | none => rfl
    | some m =>
      exfalso
      have h1 : putP k (n + 1) out [v] = some m := by rw [putP_cons, hs]; rfl
      have h2 := putP_ge k (n + 1) _ _ _ h1
      obtain ⟨_, h3⟩ := over_some hs
      omega
/-- both put the same -/
theorem putPR_same (k : Known) : ∀ (n : Nat) (l : List Vt) (out : List Tk), out.length ≤ 512 → putP k n out l = putR k n out l ∧ ∀ o, putP k n out l = some o → o.length ≤ 512
  | 0, l, out, h => ⟨rfl, fun o ho => by simp [putP] at ho⟩
  | n + 1, [], out, h => ⟨rfl, fun o ho => by rw [putP_nil] at ho; cases ho; exact h⟩
  | n + 1, v :: l, out, h => by
    have hst : stepP k n out v = stepR k n out v := by
      unfold stepP stepR
      split
      · cases hn : namedT v with
        | none => rfl
        | some x =>
          obtain ⟨name, rest⟩ := x
          simp only
          cases k name with
          | some t =>
            simp only [moreT]
            by_cases h1 : out.length + t.length ≤ 512
            · rw [if_pos h1, if_neg (by omega)]
              unfold over512; simp only [List.length_append]
              rw [if_neg (by omega)]
            · rw [if_neg h1, if_pos (by omega)]; rfl
          | none =>
            simp only
            split
            · rfl
            · obtain ⟨h1, h2⟩ := putPR_same k n (trimT rest.tail) out h
              rw [← h1]
              cases hp : putP k n out (trimT rest.tail) with
              | none => rfl
              | some o =>
                unfold over512
                have := h2 o hp
                simp only
                rw [if_neg (by omega)]
      · rcases clo_cases v.t.k with hc | hc
        · rw [if_neg (by omega), if_neg (by omega)]
          unfold over512 moreT
          simp only [List.length_append, List.length_singleton]
        · rw [if_pos (by omega), if_pos (by omega)]
          unfold moreT
          simp only [List.length_singleton]
          by_cases h1 : 512 < out.length + 1
          · rw [if_pos h1]
            have hov : putP k n (out ++ [v.t]) v.kids = none ∨ putP k n (out ++ [v.t]) v.kids = some (out ++ [v.t]) := by
              cases hk : v.kids with
              | nil => cases n with
                | zero => exact .inl rfl
                | succ n => exact .inr rfl
              | cons a t => exact .inl (putP_over k n a t _ (by simp; omega))
            rcases hov with hov | hov
            · rw [hov]; rfl
            · rw [hov]
              unfold over512
              simp only [List.length_append, List.length_singleton]
              rw [if_pos (by omega)]
          · rw [if_neg h1]
            simp only
            obtain ⟨h2, h3⟩ := putPR_same k n v.kids (out ++ [v.t]) (by simp; omega)
            rw [← h2]
            cases hp : putP k n (out ++ [v.t]) v.kids with
            | none => rfl
            | some o =>
              unfold over512
              simp only [List.length_append, List.length_singleton]
    rw [putP_cons, putR_cons, ← hst]
    cases hs : stepP k n out v with
    | none => exact ⟨rfl, fun o ho => by cases ho⟩
    | some m => exact putPR_same k (n + 1) l m (over_some hs).2
termination_by n l => (n, l.length)
end Go

/- PLAIN: how tokens are read as component values, both ways; which may be; what is known of a name. No condition; no program. -/
namespace Go
open Go.RowKit
/-- a token that is open, and what stands so far in it -/
structure Frm where
  tok : Tk
  kids : List Vt
def zeroTk : Tk := ⟨0, ByteArray.empty, 0, 0, false, false⟩
/-- the reference's stack -/
def Ps.frs (p : Ps) : List Frm := List.zipWith Frm.mk (zeroTk :: p.os) p.ls
def lastF (fs : List Frm) : Frm := fs.getLastD ⟨zeroTk, []⟩
def addF (fs : List Frm) (x : Vt) : List Frm := fs.dropLast ++ [⟨(lastF fs).tok, (lastF fs).kids ++ [x]⟩]
def shutF (fs : List Frm) : List Frm := addF fs.dropLast (.mk (lastF fs).tok (lastF fs).kids)
def stepF (fs : List Frm) (t : Tk) : List Frm :=
  if 1 < fs.length ∧ t.k = clo (lastF fs).tok.k then shutF fs
  else if clo t.k ≠ 0 then fs ++ [⟨t, []⟩]
  else addF fs (.mk t [])
theorem snoc_of {α : Type} {l : List α} {n : Nat} (h : l.length = n + 1) : ∃ l' x, l = l' ++ [x] ∧ l'.length = n := by
  refine ⟨l.dropLast, l.getLast (by intro e; rw [e] at h; simp at h), (List.dropLast_concat_getLast _).symm, by simp; omega⟩
theorem lastF_snoc (fs : List Frm) (f : Frm) : lastF (fs ++ [f]) = f := by unfold lastF; simp
theorem frs_len {p : Ps} (h : p.ls.length = p.os.length + 1) : p.frs.length = p.os.length + 1 := by
  unfold Ps.frs; simp; omega
theorem frs_add {os : List Tk} {ls : List (List Vt)} (h : ls.length = os.length + 1) (x : Vt) : Ps.frs ⟨os, addTop ls x⟩ = addF (Ps.frs ⟨os, ls⟩) x := by
  obtain ⟨l', k, rfl, h1⟩ := snoc_of h
  obtain ⟨o', b, h2, h3⟩ := snoc_of (l := zeroTk :: os) (n := os.length) (by simp)
  unfold Ps.frs addTop addF
  simp only [h2, List.dropLast_concat]
  rw [show (l' ++ [k]).getLastD [] = k by simp]
  rw [List.zipWith_append (by omega), List.zipWith_append (by omega)]
  simp only [List.zipWith_cons_cons, List.zipWith_nil_left, lastF_snoc, List.dropLast_concat]
theorem frs_last {os : List Tk} {ls : List (List Vt)} (h : ls.length = os.length + 1) (ho : os ≠ []) : lastF (Ps.frs ⟨os, ls⟩) = ⟨os.getLastD zeroTk, ls.getLastD []⟩ ∧ (Ps.frs ⟨os, ls⟩).dropLast = Ps.frs ⟨os.dropLast, ls.dropLast⟩ := by
  obtain ⟨l', k, rfl, h1⟩ := snoc_of h
  have hn := List.length_pos_iff.2 ho
  obtain ⟨o', b, rfl, h3⟩ := snoc_of (l := os) (n := os.length - 1) (by omega)
  unfold Ps.frs
  simp only [List.dropLast_concat]
  rw [← List.cons_append, List.zipWith_append (by simp at h1 ⊢; omega)]
  simp only [List.zipWith_cons_cons, List.zipWith_nil_left, lastF_snoc, List.dropLast_concat]
  simp
theorem frs_shut {p : Ps} (h : p.ls.length = p.os.length + 1) (ho : p.os ≠ []) : p.shut.frs = shutF p.frs := by
  obtain ⟨os, ls⟩ := p
  obtain ⟨h1, h2⟩ := frs_last h ho
  have hn : 1 ≤ os.length := List.length_pos_iff.2 ho
  have h' : ls.length = os.length + 1 := h
  unfold Ps.shut shutF
  simp only
  rw [h1, h2, frs_add (by simp; omega)]
  rfl
theorem frs_step {p : Ps} (h : p.ls.length = p.os.length + 1) (t : Tk) : (p.step t).frs = stepF p.frs t := by
  obtain ⟨os, ls⟩ := p
  have hl := frs_len (p := ⟨os, ls⟩) h
  unfold Ps.step stepF
  simp only at *
  by_cases ho : os = []
  · subst ho
    rw [hl]
    simp only [List.length_nil, ne_eq, not_true_eq_false, false_and, if_false, Nat.lt_irrefl]
    rcases clo_cases t.k with hc | hc
    · rw [if_neg (by omega), if_neg (by omega)]
      exact frs_add h _
    · rw [if_pos (by omega), if_pos (by omega)]
      unfold Ps.frs
      simp only
      rw [← List.cons_append, List.zipWith_append (by simp at h ⊢; omega)]
      rfl
  · have hn := List.length_pos_iff.2 ho
    obtain ⟨h1, _⟩ := frs_last h ho
    rw [hl, h1]
    simp only
    by_cases hk : t.k = clo (os.getLastD zeroTk).k
    · have hc : clo t.k = 0 := by rw [hk]; exact clo_no _
      rw [if_neg (by omega), if_pos ⟨ho, by rw [hk]; rfl⟩, if_pos ⟨by omega, hk⟩]
      exact frs_shut h ho
    · rw [if_neg (c := 1 < os.length + 1 ∧ _) (fun hh => hk hh.2)]
      rcases clo_cases t.k with hc | hc
      · rw [if_neg (by omega), if_neg (fun hh => hk hh.2.symm), if_neg (by omega)]
        exact frs_add h _
      · rw [if_pos (by omega), if_pos (by omega)]
        unfold Ps.frs
        simp only
        rw [← List.cons_append, List.zipWith_append (by simp at h ⊢; omega)]
        rfl
/-- values that may be; so deep at most -/
def mayV : Nat → List Vt → Bool
  | n, l => l.all fun v => decide (1 ≤ v.t.k) && decide (v.t.k ≤ 24) && (if clo v.t.k = 0 then v.kids.isEmpty else match n with | 0 => false | n + 1 => mayV n v.kids)
/-- a custom property: its name, its tokens -/
structure Cu where
  n : ByteArray
  ts : List Tk
/-- what is known of a name: the last one's tokens -/
def findCu (l : List Cu) (name : ByteArray) : Option (List Tk) := if customB name then (l.reverse.find? fun c => decide (c.n = name)).map (·.ts) else none
def byStep (k : Known) (c : Cu) : Known := if customB c.n then fun x => if x = c.n then some c.ts else k x else k
theorem by_find (l : List Cu) : ∀ name, (l.foldl byStep fun _ => none) name = findCu l name := by
  intro name
  have key : ∀ (l : List Cu) (k : Known), (∀ x, customB x = false → k x = none) → (l.foldl byStep k) name = if customB name then ((l.reverse.find? fun c => decide (c.n = name)).map (·.ts)).or (k name) else none := by
    intro l
    induction l with
    | nil =>
      intro k hk
      by_cases h : customB name = true
      · rw [if_pos h]; rfl
      · rw [if_neg h]; exact hk _ (by simpa using h)
    | cons c t ih =>
      intro k hk
      rw [List.foldl_cons, ih (byStep k c) (fun x hx => by
        unfold byStep
        split
        · rename_i hc
          simp only
          rw [if_neg (fun hh => by rw [hh, hc] at hx; cases hx)]
          exact hk x hx
        · exact hk x hx)]
      by_cases h : customB name = true
      · rw [if_pos h, if_pos h, List.reverse_cons, List.find?_append]
        cases hf : t.reverse.find? (fun c => decide (c.n = name)) with
        | some c' => simp
        | none =>
          simp only [Option.map_none, Option.none_or, Option.or_none, List.find?_singleton, Option.none_or]
          by_cases hcn : c.n = name
          · unfold byStep
            rw [hcn, if_pos h]; simp
          · unfold byStep
            split
            · have hcn' : ¬ name = c.n := fun hh => hcn hh.symm
              simp [hcn, hcn']
            · simp [hcn]
      · rw [if_neg h, if_neg h]
  rw [key l (fun _ => none) (fun _ _ => rfl)]
  unfold findCu
  split
  · simp
  · rfl
end Go
