/- PLAIN: the places of lines in order, each once. No condition. -/
import Derived.Test.YtjfccilmlmimaaaMp
set_option linter.unusedSimpArgs false
set_option linter.unusedVariables false
namespace Go
open Go.RowKit
/-- a fraction's cells -/
abbrev RtR (r : Int × Int) (cs : List Value) : Prop := cs = [Value.int .i64 r.1, .int .i64 r.2]
def rtC (r : Int × Int) : List Value := [Value.int .i64 r.1, .int .i64 r.2]
def Ln.at2 (x : Ln) : Int × Int := (x.p, x.q)
/-- places behind places, unless it is the last one -/
def plcAdd (o : List (Int × Int)) (r : Int × Int) : List (Int × Int) := if o.getLast? = some r then o else o ++ [r]
def plcs (p : List Ln) : List (Int × Int) := p.foldl (fun o x => plcAdd o x.at2) []
theorem plcs_succ {p : List Ln} {k : Nat} {x : Ln} (h : p[k]? = some x) : plcs (p.take (k + 1)) = plcAdd (plcs (p.take k)) x.at2 := by
  unfold plcs
  rw [List.take_add_one, h, List.foldl_append]
  rfl
theorem plcAdd_len (o : List (Int × Int)) (r : Int × Int) : (plcAdd o r).length ≤ o.length + 1 := by
  unfold plcAdd; split <;> simp
theorem plcs_len (p : List Ln) : ∀ k, (plcs (p.take k)).length ≤ k
  | 0 => by simp [plcs]
  | k + 1 => by
    have ih := plcs_len p k
    cases h : p[k]? with
    | none =>
      rw [List.take_of_length_le (by have := List.getElem?_eq_none_iff.1 h; omega : p.length ≤ k + 1)]
      rw [List.take_of_length_le (by have := List.getElem?_eq_none_iff.1 h; omega : p.length ≤ k)] at ih
      omega
    | some x => rw [plcs_succ h]; have := plcAdd_len (plcs (p.take k)) x.at2; omega
theorem plcAdd_mem {o : List (Int × Int)} {r z : Int × Int} : z ∈ plcAdd o r ↔ z ∈ o ∨ z = r := by
  unfold plcAdd
  split
  · next h =>
    have := List.mem_of_getLast? h
    constructor
    · exact fun h => .inl h
    · rintro (h | rfl)
      · exact h
      · exact this
  · simp
theorem plcs_mem {z : Int × Int} : ∀ (p : List Ln), z ∈ plcs p ↔ ∃ x ∈ p, x.at2 = z := by
  have key : ∀ (p : List Ln) (o : List (Int × Int)), z ∈ p.foldl (fun o x => plcAdd o x.at2) o ↔ z ∈ o ∨ ∃ x ∈ p, x.at2 = z := by
    intro p
    induction p with
    | nil => intro o; simp
    | cons a t ih =>
      intro o
      rw [List.foldl_cons, ih, plcAdd_mem]
      constructor
      · rintro ((h | rfl) | ⟨x, hx, e⟩)
        · exact .inl h
        · exact .inr ⟨a, by simp, rfl⟩
        · exact .inr ⟨x, by simp [hx], e⟩
      · rintro (h | ⟨x, hx, e⟩)
        · exact .inl (.inl h)
        · rcases List.mem_cons.1 hx with rfl | hx
          · exact .inl (.inr e.symm)
          · exact .inr ⟨x, hx, e⟩
  intro p
  rw [show plcs p = p.foldl (fun o x => plcAdd o x.at2) [] from rfl, key]
  simp
theorem sure_low {a b : Int} (h : sureB a b = true) : 1 ≤ b ∧ Int.gcd a b = 1 := by
  refine ⟨(sureB_yes h).1, ?_⟩
  unfold sureB at h
  simp at h
  omega
theorem dvd_cop {m a n : Int} (h : m ∣ a * n) (g : Int.gcd m a = 1) : m ∣ n := by
  have h1 : m.natAbs ∣ a.natAbs * n.natAbs := by rw [← Int.natAbs_mul]; exact Int.natAbs_dvd_natAbs.2 h
  have h2 : Nat.Coprime m.natAbs a.natAbs := g
  exact Int.natAbs_dvd_natAbs.1 (h2.dvd_of_dvd_mul_left h1)
/-- fractions that are sure and compare alike are the same -/
theorem cmp_same {a b c d : Int} (h1 : sureB a b = true) (h2 : sureB c d = true) (h : cmpI a b c d = 0) : a = c ∧ b = d := by
  rw [cmpI_eq] at h
  obtain ⟨p1, g1⟩ := sure_low h1
  obtain ⟨p2, g2⟩ := sure_low h2
  have e1 : b ∣ d := by
    have : b ∣ a * d := ⟨c, by rw [h, Int.mul_comm]⟩
    exact dvd_cop this (by rw [Int.gcd_comm]; exact g1)
  have e2 : d ∣ b := by
    have : d ∣ c * b := ⟨a, by rw [← h, Int.mul_comm]⟩
    exact dvd_cop this (by rw [Int.gcd_comm]; exact g2)
  have e3 : b = d := Int.dvd_antisymm (by omega) (by omega) e1 e2
  subst e3
  exact ⟨Int.eq_of_mul_eq_mul_right (by omega) h, rfl⟩
/-- places, rising -/
def UpR (r : List (Int × Int)) : Prop := r.Pairwise fun a b => cmpI a.1 a.2 b.1 b.2 < 0
theorem upR_uniq {a b : List (Int × Int)} (ha : UpR a) (hb : UpR b) (h : ∀ z, z ∈ a ↔ z ∈ b) : a = b := by
  have self : ∀ x : Int × Int, ¬ cmpI x.1 x.2 x.1 x.2 < 0 := fun x h => by rw [cmpI_lt] at h; omega
  have nd : ∀ {l : List (Int × Int)}, UpR l → l.Nodup := fun h => h.imp fun hab e => by rw [e] at hab; exact self _ hab
  exact List.Perm.eq_of_pairwise (le := fun a b : Int × Int => cmpI a.1 a.2 b.1 b.2 < 0) (fun a b _ _ h1 h2 => by rw [cmpI_lt] at h1 h2; omega) ha hb ((List.perm_ext_iff_of_nodup (nd ha) (nd hb)).2 h)
theorem lt_le_trans {a b c : Int × Int} (h1 : 1 ≤ a.2) (h2 : 1 ≤ b.2) (h3 : 1 ≤ c.2) (h : cmpI a.1 a.2 b.1 b.2 < 0) (h' : cmpI b.1 b.2 c.1 c.2 ≤ 0) : cmpI a.1 a.2 c.1 c.2 < 0 := by
  rw [cmpI_lt] at *
  have h4 := @cmpI_gt b.1 b.2 c.1 c.2
  exact (frac_lt_trans h1 h2 h3 (Int.le_of_lt h) (by omega)).2 (.inl h)
theorem plcs_up {p : List Ln} (hs : ∀ x ∈ p, sureB x.p x.q = true) (hle : ∀ (i j : Nat) (x y : Ln), i < j → p[i]? = some x → p[j]? = some y → cmpI x.p x.q y.p y.q ≤ 0) : UpR (plcs p) := by
  have key : ∀ k, k ≤ p.length → UpR (plcs (p.take k)) ∧ (plcs (p.take k)).getLast? = (p.take k).getLast?.map Ln.at2 := by
    intro k
    induction k with
    | zero => intro _; exact ⟨by simp [plcs, UpR], by simp [plcs]⟩
    | succ k ih =>
      intro hk
      obtain ⟨h1, h2⟩ := ih (by omega)
      have hx := List.getElem?_eq_getElem (show k < p.length by omega)
      have hsx := hs _ (List.getElem_mem (show k < p.length by omega))
      rw [plcs_succ hx]
      have hlast : (p.take (k + 1)).getLast? = some p[k] := by rw [List.take_add_one, hx]; show (p.take k ++ [p[k]]).getLast? = _; exact List.getLast?_concat
      rw [hlast]
      unfold plcAdd
      split
      · next h => exact ⟨h1, by rw [h]; rfl⟩
      · next h =>
        refine ⟨?_, by simp⟩
        refine List.pairwise_append.2 ⟨h1, by simp, fun a ha b hb => ?_⟩
        rw [List.mem_singleton] at hb
        subst hb
        -- a is at most the last one, which is below
        have hne : p.take k ≠ [] := fun e => by rw [e] at ha; simp [plcs] at ha
        have hk0 : 0 < k := by
          rcases Nat.eq_zero_or_pos k with e | e
          · subst e; simp at hne
          · exact e
        have hy := List.getElem?_eq_getElem (show k - 1 < p.length by omega)
        have hsy := hs _ (List.getElem_mem (show k - 1 < p.length by omega))
        have hl2 : (p.take k).getLast? = some p[k - 1] := by
          obtain ⟨j, rfl⟩ : ∃ j, k = j + 1 := ⟨k - 1, by omega⟩
          rw [List.take_add_one, show p[j]? = some p[j + 1 - 1] from hy]; show (p.take j ++ [p[j + 1 - 1]]).getLast? = _; exact List.getLast?_concat
        rw [hl2, Option.map_some] at h2
        have hle1 := hle (k - 1) k _ _ (by omega) hy hx
        have hlt1 : cmpI p[k - 1].p p[k - 1].q p[k].p p[k].q < 0 := by
          have : ¬ cmpI p[k - 1].p p[k - 1].q p[k].p p[k].q = 0 := fun e => by
            obtain ⟨e1, e2⟩ := cmp_same hsy hsx e
            exact h (by rw [h2]; unfold Ln.at2; rw [e1, e2])
          omega
        by_cases hae : a = p[k - 1].at2
        · subst hae; exact hlt1
        · obtain ⟨x, hxm, hxe⟩ := (plcs_mem _).1 ha
          have hsx2 := hs x (List.mem_of_mem_take hxm)
          obtain ⟨i, hi, e⟩ := List.mem_iff_getElem.1 hxm
          have hi' : i < k := by simp at hi; omega
          have hxi : p[i]? = some x := by
            have : (p.take k)[i]? = some x := by rw [List.getElem?_eq_getElem hi, e]
            rwa [List.getElem?_take, if_pos hi'] at this
          have hi2 : i < k - 1 := by
            rcases Nat.lt_or_ge i (k - 1) with e | e
            · exact e
            · obtain rfl : i = k - 1 := by omega
              rw [hy] at hxi
              injection hxi with hxi
              exact (hae (by rw [← hxe, hxi])).elim
          have hle2 := hle i (k - 1) _ _ hi2 hxi hy
          rw [← hxe]
          show cmpI x.p x.q p[k].p p[k].q < 0
          rw [cmpI_lt] at hlt1 ⊢
          have h4 := @cmpI_gt x.p x.q p[k - 1].p p[k - 1].q
          exact (frac_lt_trans (sureB_yes hsx2).1 (sureB_yes hsy).1 (sureB_yes hsx).1 (by omega) (Int.le_of_lt hlt1)).2 (.inr hlt1)
  have := (key p.length (Nat.le_refl _)).1
  rwa [List.take_length] at this
end Go
