/- PLAIN: tokens with what is known put in the place of uses: the program's way and the reference's tell the same. No condition; no program. -/
import Derived.Test.YthcaphoejplecaaDoorVt
set_option linter.unusedSimpArgs false
set_option linter.unusedVariables false
namespace Go
open Go.RowKit
/-- a text's bytes, A to Z made small -/
def lowB (l : List UInt8) : List UInt8 := l.map fun c => if 65 ≤ c ∧ c ≤ 90 then c + 32 else c
def customB (s : ByteArray) : Bool := match s.data.toList with | 45 :: 45 :: _ :: _ => true | _ => false
def useT (v : Vt) : Bool := decide (v.t.k = 2) && decide (lowB v.t.s.data.toList = [118, 97, 114])
def blankT (v : Vt) : Bool := decide (v.t.k = 13)
/-- without blanks at both ends -/
def trimT (l : List Vt) : List Vt := ((l.dropWhile blankT).reverse.dropWhile blankT).reverse
/-- a use's name, and what stands behind it -/
def namedT (v : Vt) : Option (ByteArray × List Vt) :=
  match trimT v.kids with
  | [] => none
  | a :: l => if a.t.k ≠ 1 ∨ customB a.t.s = false then none else
    match trimT l with
    | [] => some (a.t.s, [])
    | b :: r => if b.t.k ≠ 18 then none else some (a.t.s, b :: r)
abbrev Known := ByteArray → Option (List Tk)
def shutTk (k : Int) : Tk := ⟨clo k, ByteArray.empty, 0, 0, false, false⟩
def over512 (o : Option (List Tk)) : Option (List Tk) := match o with | none => none | some o => if 512 < o.length then none else some o
/-- the program's put; so deep at most -/
def putP (k : Known) : Nat → List Tk → List Vt → Option (List Tk)
  | 0, _, _ => none
  | n + 1, out, l => l.foldl (fun acc v => match acc with
      | none => none
      | some out => over512 (
        if useT v then (match namedT v with
          | none => none
          | some (name, rest) => match k name with
            | some t => if out.length + t.length ≤ 512 then some (out ++ t) else none
            | none => if rest = [] then none else putP k n out (trimT rest.tail))
        else if 0 < clo v.t.k then (match putP k n (out ++ [v.t]) v.kids with
          | none => none
          | some o => some (o ++ [shutTk v.t.k]))
        else some (out ++ [v.t]))) (some out)
def moreT (out l : List Tk) : Option (List Tk) := if 512 < out.length + l.length then none else some (out ++ l)
/-- the reference's put; so deep at most -/
def putR (k : Known) : Nat → List Tk → List Vt → Option (List Tk)
  | 0, _, _ => none
  | n + 1, out, l => l.foldl (fun acc v => match acc with
      | none => none
      | some out =>
        if useT v then (match namedT v with
          | none => none
          | some (name, rest) => match k name with
            | some t => moreT out t
            | none => if rest = [] then none else putR k n out (trimT rest.tail))
        else if clo v.t.k ≠ 0 then (match moreT out [v.t] with
          | none => none
          | some o => match putR k n o v.kids with
            | none => none
            | some o => moreT o [shutTk v.t.k])
        else moreT out [v.t]) (some out)
theorem foldl_none {α β : Type} (f : Option α → β → Option α) (hf : ∀ b, f none b = none) : ∀ l : List β, l.foldl f none = none
  | [] => rfl
  | b :: l => by rw [List.foldl_cons, hf]; exact foldl_none f hf l
theorem putP_nil (k : Known) (n : Nat) (out : List Tk) : putP k (n + 1) out [] = some out := rfl
theorem putR_nil (k : Known) (n : Nat) (out : List Tk) : putR k (n + 1) out [] = some out := rfl
def stepP (k : Known) (n : Nat) (out : List Tk) (v : Vt) : Option (List Tk) := over512 (
        if useT v then (match namedT v with
          | none => none
          | some (name, rest) => match k name with
            | some t => if out.length + t.length ≤ 512 then some (out ++ t) else none
            | none => if rest = [] then none else putP k n out (trimT rest.tail))
        else if 0 < clo v.t.k then (match putP k n (out ++ [v.t]) v.kids with
          | none => none
          | some o => some (o ++ [shutTk v.t.k]))
        else some (out ++ [v.t]))
def stepR (k : Known) (n : Nat) (out : List Tk) (v : Vt) : Option (List Tk) :=
        if useT v then (match namedT v with
          | none => none
          | some (name, rest) => match k name with
            | some t => moreT out t
            | none => if rest = [] then none else putR k n out (trimT rest.tail))
        else if clo v.t.k ≠ 0 then (match moreT out [v.t] with
          | none => none
          | some o => match putR k n o v.kids with
            | none => none
            | some o => moreT o [shutTk v.t.k])
        else moreT out [v.t]
theorem putP_cons (k : Known) (n : Nat) (out : List Tk) (v : Vt) (l : List Vt) : putP k (n + 1) out (v :: l) = match stepP k n out v with | none => none | some o => putP k (n + 1) o l := by
  show List.foldl _ (stepP k n out v) l = _
  cases stepP k n out v with
  | none => exact foldl_none _ (fun _ => rfl) l
  | some o => rfl
theorem putR_cons (k : Known) (n : Nat) (out : List Tk) (v : Vt) (l : List Vt) : putR k (n + 1) out (v :: l) = match stepR k n out v with | none => none | some o => putR k (n + 1) o l := by
  show List.foldl _ (stepR k n out v) l = _
  cases stepR k n out v with
  | none => exact foldl_none _ (fun _ => rfl) l
  | some o => rfl
theorem over_some {o : Option (List Tk)} {r : List Tk} (h : over512 o = some r) : o = some r ∧ r.length ≤ 512 := by
  unfold over512 at h
  cases o with
  | none => cases h
  | some o =>
    simp only at h
    split at h
    · cases h
    · cases h; exact ⟨rfl, by omega⟩
/-- nothing is taken away -/
theorem putP_ge (k : Known) : ∀ (n : Nat) (l : List Vt) (out o : List Tk), putP k n out l = some o → out.length ≤ o.length
  | 0, l, out, o, h => by simp [putP] at h
  | n + 1, [], out, o, h => by rw [putP_nil] at h; cases h; exact Nat.le_refl _
  | n + 1, v :: l, out, o, h => by
    rw [putP_cons] at h
    cases hs : stepP k n out v with
    | none => rw [hs] at h; cases h
    | some m =>
      rw [hs] at h
      refine Nat.le_trans ?_ (putP_ge k (n + 1) l m o h)
      obtain ⟨h1, _⟩ := over_some hs
      split at h1
      · split at h1
        · cases h1
        · split at h1
          · split at h1
            · cases h1; simp
            · cases h1
          · split at h1
            · cases h1
            · exact putP_ge k n _ _ _ h1
      · split at h1
        · split at h1
          · cases h1
          · rename_i hp
            cases h1
            have := putP_ge k n _ _ _ hp
            simp at this ⊢; omega
        · cases h1; simp
termination_by n l => (n, l.length)
theorem putP_over (k : Known) (n : Nat) (v : Vt) (l : List Vt) (out : List Tk) (h : 512 < out.length) : putP k n out (v :: l) = none := by
  cases n with
  | zero => rfl
  | succ n =>
    rw [putP_cons]
    cases hs : stepP k n out v with
    | none => rfl
    | some m =>
      exfalso
      have h1 : putP k (n + 1) out [v] = some m := by rw [putP_cons, hs]; rfl
      have h2 := putP_ge k (n + 1) _ _ _ h1
      obtain ⟨_, h3⟩ := over_some hs
      omega
/-- both put the same -/
theorem putPR_same (k : Known) : ∀ (n : Nat) (l : List Vt) (out : List Tk), out.length ≤ 512 → putP k n out l = putR k n out l ∧ ∀ o, putP k n out l = some o → o.length ≤ 512
  | 0, l, out, h => ⟨rfl, fun o ho => by simp [putP] at ho⟩
  | n + 1, [], out, h => ⟨rfl, fun o ho => by rw [putP_nil] at ho; cases ho; exact h⟩
  | n + 1, v :: l, out, h => by
    have hst : stepP k n out v = stepR k n out v := by
      unfold stepP stepR
      split
      · cases hn : namedT v with
        | none => rfl
        | some x =>
          obtain ⟨name, rest⟩ := x
          simp only
          cases k name with
          | some t =>
            simp only [moreT]
            by_cases h1 : out.length + t.length ≤ 512
            · rw [if_pos h1, if_neg (by omega)]
              unfold over512; simp only [List.length_append]
              rw [if_neg (by omega)]
            · rw [if_neg h1, if_pos (by omega)]; rfl
          | none =>
            simp only
            split
            · rfl
            · obtain ⟨h1, h2⟩ := putPR_same k n (trimT rest.tail) out h
              rw [← h1]
              cases hp : putP k n out (trimT rest.tail) with
              | none => rfl
              | some o =>
                unfold over512
                have := h2 o hp
                simp only
                rw [if_neg (by omega)]
      · rcases clo_cases v.t.k with hc | hc
        · rw [if_neg (by omega), if_neg (by omega)]
          unfold over512 moreT
          simp only [List.length_append, List.length_singleton]
        · rw [if_pos (by omega), if_pos (by omega)]
          unfold moreT
          simp only [List.length_singleton]
          by_cases h1 : 512 < out.length + 1
          · rw [if_pos h1]
            have hov : putP k n (out ++ [v.t]) v.kids = none ∨ putP k n (out ++ [v.t]) v.kids = some (out ++ [v.t]) := by
              cases hk : v.kids with
              | nil => cases n with
                | zero => exact .inl rfl
                | succ n => exact .inr rfl
              | cons a t => exact .inl (putP_over k n a t _ (by simp; omega))
            rcases hov with hov | hov
            · rw [hov]; rfl
            · rw [hov]
              unfold over512
              simp only [List.length_append, List.length_singleton]
              rw [if_pos (by omega)]
          · rw [if_neg h1]
            simp only
            obtain ⟨h2, h3⟩ := putPR_same k n v.kids (out ++ [v.t]) (by simp; omega)
            rw [← h2]
            cases hp : putP k n (out ++ [v.t]) v.kids with
            | none => rfl
            | some o =>
              unfold over512
              simp only [List.length_append, List.length_singleton]
    rw [putP_cons, putR_cons, ← hst]
    cases hs : stepP k n out v with
    | none => exact ⟨rfl, fun o ho => by cases ho⟩
    | some m => exact putPR_same k (n + 1) l m (over_some hs).2
termination_by n l => (n, l.length)
end Go
