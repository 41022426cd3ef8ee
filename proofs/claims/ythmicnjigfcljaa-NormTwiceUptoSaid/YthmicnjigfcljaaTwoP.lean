/- PLAIN: sums of two forms go both ways; the pick of a plain form of one unit at most and itself is it. No condition; no program. -/
import Derived.Test.YthmicnjigfcljaaQR
import Derived.Test.YthmicnjigfcljaaFmR
set_option linter.unusedSimpArgs false
set_option linter.unusedVariables false
namespace Go
open Go.RowKit

theorem addF_comm_us (f g : Fm) : (addF [f, g]).us = (addF [g, f]).us := by
  unfold addF Fm.us
  exact List.map_congr_left fun i _ => foldAdd_comm (f.u i) (g.u i)
theorem addF_comm_ps (f g : Fm) : (addF [f, g]).ps.length = (addF [g, f]).ps.length := by
  simp [addF, Fm.ps, Nat.add_comm]
/-- how many of the first units a form has something of -/
def cntU (us : List (Int × Int)) (n : Nat) : Nat := (List.range n).countP fun i => uGet us i != (0, 1)
theorem cntU_zero (us : List (Int × Int)) : cntU us 0 = 0 := rfl
theorem cntU_yes {us : List (Int × Int)} {i : Nat} (h : ¬ uGet us i = (0, 1)) : cntU us (i + 1) = cntU us i + 1 := by
  unfold cntU
  rw [List.range_succ, List.countP_append]
  simp [h]
theorem cntU_no {us : List (Int × Int)} {i : Nat} (h : uGet us i = (0, 1)) : cntU us (i + 1) = cntU us i := by
  unfold cntU
  rw [List.range_succ, List.countP_append]
  simp [h]
theorem cntU_le (us : List (Int × Int)) (n : Nat) : cntU us n ≤ n := by
  have := List.countP_le_length (p := fun i => uGet us i != (0, 1)) (l := List.range n)
  simpa [cntU] using this
theorem bestQ_self {way : Int} {p : Int × Int} (h : mayB p.1 p.2 = true) (k : Nat) : bestQ way (List.replicate (k + 1) p) = p := by
  have hp : ∀ k, (List.replicate k p).foldl (pickQ way) p = p := fun k => by
    induction k with
    | zero => rfl
    | succ k ih =>
      show (List.replicate k p).foldl (pickQ way) (pickQ way p p) = p
      have : pickQ way p p = p := by unfold pickQ; split <;> rfl
      rw [this]; exact ih
  show (if (p :: List.replicate k p).all sureP = true then (List.replicate k p).foldl (pickQ way) p else (0, 0)) = p
  rcases sure_or_none h with h1 | rfl
  · rw [if_pos (by rw [List.all_eq_true]; intro q hq; rw [← List.replicate_succ] at hq; rw [List.eq_of_mem_replicate hq]; exact h1)]
    exact hp k
  · rw [if_neg]
    intro h1
    have := List.all_eq_true.1 h1 (0, 0) (by simp)
    rw [sure_none] at this; cases this
theorem one_used {p : Nat → Bool} : ∀ (n : Nat), (List.range n).countP p ≤ 1 → ∀ i j, i < n → j < n → p i = true → p j = true → i = j
  | 0, _, _, _, hi, _, _, _ => absurd hi (Nat.not_lt_zero _)
  | n + 1, h, i, j, hi, hj, h1, h2 => by
    rw [List.range_succ, List.countP_append] at h
    by_cases hp : p n = true
    · have h0 : (List.range n).countP p = 0 := by simp [hp] at h; simpa using h
      have hz : ∀ k, k < n → p k = true → False := fun k hk hpk => List.countP_eq_zero.1 h0 k (List.mem_range.2 hk) hpk
      have a1 : i = n := by rcases Nat.lt_or_ge i n with a | a; exact (hz i a h1).elim; omega
      have a2 : j = n := by rcases Nat.lt_or_ge j n with a | a; exact (hz j a h2).elim; omega
      omega
    · have a1 : i < n := by rcases Nat.lt_or_ge i n with a | a; exact a; exact absurd (by rw [show n = i by omega]; exact h1) hp
      have a2 : j < n := by rcases Nat.lt_or_ge j n with a | a; exact a; exact absurd (by rw [show n = j by omega]; exact h2) hp
      exact one_used n (by omega) i j a1 a2 h1 h2
/-- any pick of it and itself is it -/
theorem pickF_self {us : List (Int × Int)} (hu : us.length = 7) (hm : mayUF (.mk us [])) (hc : cntU us 7 ≤ 1) (most : Bool) (k : Nat) : pickF most (List.replicate (k + 1) (.mk us [])) = .mk us [] := by
  have hused : usedI (List.replicate (k + 1) (.mk us [])) = fun i => uGet us i != (0, 1) := by
    funext i
    unfold usedI
    rw [Bool.eq_iff_iff, List.any_eq_true]
    constructor
    · rintro ⟨f, hf, h⟩
      rw [List.eq_of_mem_replicate hf] at h; exact h
    · intro h; exact ⟨.mk us [], by simp, h⟩
  have hplain : plainB (List.replicate (k + 1) (.mk us [])) = true := by
    unfold plainB
    rw [List.all_eq_true]
    intro f hf
    rw [List.eq_of_mem_replicate hf]; rfl
  by_cases h1 : (List.replicate (k + 1) (Fm.mk us [])).length = 1
  · unfold pickF
    rw [if_pos h1]
    rfl
  have hn : ¬ (plainB (List.replicate (k + 1) (.mk us [])) = false ∨ 2 ≤ (List.range 7).countP (usedI (List.replicate (k + 1) (.mk us [])))) := by
    rw [hplain, hused]
    intro h
    rcases h with h | h
    · cases h
    · have : cntU us 7 = (List.range 7).countP fun i => uGet us i != (0, 1) := rfl
      omega
  have hget : ∀ j (hj : j < us.length), us[j] = uGet us j := fun j hj => (uGet_eq hj).symm
  cases hf : (List.range 7).find? (usedI (List.replicate (k + 1) (.mk us []))) with
  | none =>
    rw [pickF_none h1 hn hf]
    have hz := List.find?_eq_none.1 hf
    unfold zeroF
    congr 1
    refine List.ext_getElem (by rw [hu]; rfl) fun j hj1 hj2 => ?_
    have := hz j (List.mem_range.2 (by omega))
    rw [hused] at this
    rw [hget j hj2]
    have e : uGet us j = (0, 1) := by simpa using this
    rw [e]
    exact List.getElem_replicate _
  | some i =>
    rw [pickF_some h1 hn hf]
    have hi7 := List.mem_range.1 (List.mem_of_find?_eq_some hf)
    have hi := List.find?_some hf
    rw [hused] at hi
    have emap : (List.replicate (k + 1) (Fm.mk us [])).map (·.u i) = List.replicate (k + 1) (uGet us i) := by rw [List.map_replicate]; rfl
    have hmi : mayB (uGet us i).1 (uGet us i).2 = true := hm i
    rw [emap, bestQ_self hmi]
    unfold oneF
    congr 1
    unfold oneU
    rw [if_pos (by omega), cleanQ_may hmi, show ((i : Int) + 1 - 1).toNat = i by omega]
    refine List.ext_getElem (by rw [hu, List.length_set]; rfl) fun j hj1 hj2 => ?_
    rw [List.getElem_set, hget j hj2]
    by_cases hij : i = j
    · subst hij; rw [if_pos rfl]
    · rw [if_neg hij]
      have e : uGet us j = (0, 1) := by
        by_cases h : uGet us j = (0, 1)
        · exact h
        · exact absurd (one_used (p := fun i => uGet us i != (0, 1)) 7 hc i j hi7 (by omega) hi (by simpa using h)) hij
      rw [e]
      exact List.getElem_replicate _
/-- a plain form of fractions that may be may be -/
theorem mayF_plain {us : List (Int × Int)} (hm : mayUF (.mk us [])) : mayF 340 (.mk us []) = true := by
  rw [mayF_succ]
  rw [Bool.and_eq_true]
  refine ⟨List.all_eq_true.2 fun p hp => ?_, rfl⟩
  obtain ⟨i, hi, rfl⟩ := List.mem_iff_getElem.1 hp
  have := hm i
  have e : Fm.u (.mk us []) i = us[i] := uGet_eq hi
  rw [e] at this
  exact this
end Go
