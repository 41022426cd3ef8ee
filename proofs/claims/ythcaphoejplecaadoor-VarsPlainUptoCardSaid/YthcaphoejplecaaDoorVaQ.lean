/- PLAIN: how tokens are read as component values, both ways; which may be; what is known of a name. No condition; no program. -/
import Derived.Test.YthcaphoejplecaaDoorVaP
set_option linter.unusedSimpArgs false
set_option linter.unusedVariables false
namespace Go
open Go.RowKit
/-- a token that is open, and what stands so far in it -/
structure Frm where
  tok : Tk
  kids : List Vt
def zeroTk : Tk := ⟨0, ByteArray.empty, 0, 0, false, false⟩
/-- the reference's stack -/
def Ps.frs (p : Ps) : List Frm := List.zipWith Frm.mk (zeroTk :: p.os) p.ls
def lastF (fs : List Frm) : Frm := fs.getLastD ⟨zeroTk, []⟩
def addF (fs : List Frm) (x : Vt) : List Frm := fs.dropLast ++ [⟨(lastF fs).tok, (lastF fs).kids ++ [x]⟩]
def shutF (fs : List Frm) : List Frm := addF fs.dropLast (.mk (lastF fs).tok (lastF fs).kids)
def stepF (fs : List Frm) (t : Tk) : List Frm :=
  if 1 < fs.length ∧ t.k = clo (lastF fs).tok.k then shutF fs
  else if clo t.k ≠ 0 then fs ++ [⟨t, []⟩]
  else addF fs (.mk t [])
theorem snoc_of {α : Type} {l : List α} {n : Nat} (h : l.length = n + 1) : ∃ l' x, l = l' ++ [x] ∧ l'.length = n := by
  refine ⟨l.dropLast, l.getLast (by intro e; rw [e] at h; simp at h), (List.dropLast_concat_getLast _).symm, by simp; omega⟩
theorem lastF_snoc (fs : List Frm) (f : Frm) : lastF (fs ++ [f]) = f := by unfold lastF; simp
theorem frs_len {p : Ps} (h : p.ls.length = p.os.length + 1) : p.frs.length = p.os.length + 1 := by
  unfold Ps.frs; simp; omega
theorem frs_add {os : List Tk} {ls : List (List Vt)} (h : ls.length = os.length + 1) (x : Vt) : Ps.frs ⟨os, addTop ls x⟩ = addF (Ps.frs ⟨os, ls⟩) x := by
  obtain ⟨l', k, rfl, h1⟩ := snoc_of h
  obtain ⟨o', b, h2, h3⟩ := snoc_of (l := zeroTk :: os) (n := os.length) (by simp)
  unfold Ps.frs addTop addF
  simp only [h2, List.dropLast_concat]
  rw [show (l' ++ [k]).getLastD [] = k by simp]
  rw [List.zipWith_append (by omega), List.zipWith_append (by omega)]
  simp only [List.zipWith_cons_cons, List.zipWith_nil_left, lastF_snoc, List.dropLast_concat]
theorem frs_last {os : List Tk} {ls : List (List Vt)} (h : ls.length = os.length + 1) (ho : os ≠ []) : lastF (Ps.frs ⟨os, ls⟩) = ⟨os.getLastD zeroTk, ls.getLastD []⟩ ∧ (Ps.frs ⟨os, ls⟩).dropLast = Ps.frs ⟨os.dropLast, ls.dropLast⟩ := by
  obtain ⟨l', k, rfl, h1⟩ := snoc_of h
  have hn := List.length_pos_iff.2 ho
  obtain ⟨o', b, rfl, h3⟩ := snoc_of (l := os) (n := os.length - 1) (by omega)
  unfold Ps.frs
  simp only [List.dropLast_concat]
  rw [← List.cons_append, List.zipWith_append (by simp at h1 ⊢; omega)]
  simp only [List.zipWith_cons_cons, List.zipWith_nil_left, lastF_snoc, List.dropLast_concat]
  simp
theorem frs_shut {p : Ps} (h : p.ls.length = p.os.length + 1) (ho : p.os ≠ []) : p.shut.frs = shutF p.frs := by
  obtain ⟨os, ls⟩ := p
  obtain ⟨h1, h2⟩ := frs_last h ho
  have hn : 1 ≤ os.length := List.length_pos_iff.2 ho
  have h' : ls.length = os.length + 1 := h
  unfold Ps.shut shutF
  simp only
  rw [h1, h2, frs_add (by simp; omega)]
  rfl
theorem frs_step {p : Ps} (h : p.ls.length = p.os.length + 1) (t : Tk) : (p.step t).frs = stepF p.frs t := by
  obtain ⟨os, ls⟩ := p
  have hl := frs_len (p := ⟨os, ls⟩) h
  unfold Ps.step stepF
  simp only at *
  by_cases ho : os = []
  · subst ho
    rw [hl]
    simp only [List.length_nil, ne_eq, not_true_eq_false, false_and, if_false, Nat.lt_irrefl]
    rcases clo_cases t.k with hc | hc
    · rw [if_neg (by omega), if_neg (by omega)]
      exact frs_add h _
    · rw [if_pos (by omega), if_pos (by omega)]
      unfold Ps.frs
      simp only
      rw [← List.cons_append, List.zipWith_append (by simp at h ⊢; omega)]
      rfl
  · have hn := List.length_pos_iff.2 ho
    obtain ⟨h1, _⟩ := frs_last h ho
    rw [hl, h1]
    simp only
    by_cases hk : t.k = clo (os.getLastD zeroTk).k
    · have hc : clo t.k = 0 := by rw [hk]; exact clo_no _
      rw [if_neg (by omega), if_pos ⟨ho, by rw [hk]; rfl⟩, if_pos ⟨by omega, hk⟩]
      exact frs_shut h ho
    · rw [if_neg (c := 1 < os.length + 1 ∧ _) (fun hh => hk hh.2)]
      rcases clo_cases t.k with hc | hc
      · rw [if_neg (by omega), if_neg (fun hh => hk hh.2.symm), if_neg (by omega)]
        exact frs_add h _
      · rw [if_pos (by omega), if_pos (by omega)]
        unfold Ps.frs
        simp only
        rw [← List.cons_append, List.zipWith_append (by simp at h ⊢; omega)]
        rfl
/-- values that may be; so deep at most -/
def mayV : Nat → List Vt → Bool
  | n, l => l.all fun v => decide (1 ≤ v.t.k) && decide (v.t.k ≤ 24) && (if clo v.t.k = 0 then v.kids.isEmpty else match n with | 0 => false | n + 1 => mayV n v.kids)
/-- a custom property: its name, its tokens -/
structure Cu where
  n : ByteArray
  ts : List Tk
/-- what is known of a name: the last one's tokens -/
def findCu (l : List Cu) (name : ByteArray) : Option (List Tk) := if customB name then (l.reverse.find? fun c => decide (c.n = name)).map (·.ts) else none
def byStep (k : Known) (c : Cu) : Known := if customB c.n then fun x => if x = c.n then some c.ts else k x else k
theorem by_find (l : List Cu) : ∀ name, (l.foldl byStep fun _ => none) name = findCu l name := by
  intro name
  have key : ∀ (l : List Cu) (k : Known), (∀ x, customB x = false → k x = none) → (l.foldl byStep k) name = if customB name then ((l.reverse.find? fun c => decide (c.n = name)).map (·.ts)).or (k name) else none := by
    intro l
    induction l with
    | nil =>
      intro k hk
      by_cases h : customB name = true
      · rw [if_pos h]; rfl
      · rw [if_neg h]; exact hk _ (by simpa using h)
    | cons c t ih =>
      intro k hk
      rw [List.foldl_cons, ih (byStep k c) (fun x hx => by
        unfold byStep
        split
        · rename_i hc
          simp only
          rw [if_neg (fun hh => by rw [hh, hc] at hx; cases hx)]
          exact hk x hx
        · exact hk x hx)]
      by_cases h : customB name = true
      · rw [if_pos h, if_pos h, List.reverse_cons, List.find?_append]
        cases hf : t.reverse.find? (fun c => decide (c.n = name)) with
        | some c' => simp
        | none =>
          simp only [Option.map_none, Option.none_or, Option.or_none, List.find?_singleton, Option.none_or]
          by_cases hcn : c.n = name
          · unfold byStep
            rw [hcn, if_pos h]; simp
          · unfold byStep
            split
            · have hcn' : ¬ name = c.n := fun hh => hcn hh.symm
              simp [hcn, hcn']
            · simp [hcn]
      · rw [if_neg h, if_neg h]
  rw [key l (fun _ => none) (fun _ _ => rfl)]
  unfold findCu
  split
  · simp
  · rfl
end Go
