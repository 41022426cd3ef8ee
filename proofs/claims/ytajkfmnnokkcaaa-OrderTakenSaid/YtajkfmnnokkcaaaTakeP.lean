/- PLAIN: a claim that is weaker than another one of its name may be taken away. No condition; no program. -/
import Derived.Test.YtajkfmnnokkcaaaShufP
set_option linter.unusedSimpArgs false
set_option linter.unusedVariables false
namespace Go
open Go.RowKit
/-- without the one at k -/
def lessL (l : List Cl) (k : Nat) : List Cl := l.take k ++ l.drop (k + 1)
def sh (k j : Nat) : Nat := if j < k then j else j + 1
theorem lessL_len {l : List Cl} {k : Nat} (hk : k < l.length) : (lessL l k).length = l.length - 1 := by unfold lessL; simp; omega
theorem lessL_at {l : List Cl} {k j : Nat} (hk : k < l.length) (hj : j < l.length - 1) : atC (lessL l k) (j : Int) = atC l (sh k j : Nat) ∧ sh k j < l.length ∧ sh k j ≠ k := by
  unfold sh
  by_cases h : j < k
  · rw [if_pos h]
    have : (lessL l k)[j]? = some l[j] := by
      unfold lessL; rw [List.getElem?_append_left (by simp; omega), List.getElem?_take_of_lt h, List.getElem?_eq_getElem (by omega)]
    rw [atC_get this, atC_get (List.getElem?_eq_getElem (by omega : j < l.length))]
    exact ⟨rfl, by omega, by omega⟩
  · rw [if_neg h]
    have : (lessL l k)[j]? = some l[j + 1] := by
      unfold lessL; rw [List.getElem?_append_right (by simp; omega)]
      simp only [List.length_take, Nat.min_eq_left (Nat.le_of_lt hk), List.getElem?_drop]
      rw [show k + 1 + (j - k) = j + 1 by omega, List.getElem?_eq_getElem (by omega)]
    rw [atC_get this, atC_get (List.getElem?_eq_getElem (by omega : j + 1 < l.length))]
    exact ⟨rfl, by omega, by omega⟩
theorem sh_of {k m n : Nat} (hk : k < n) (hm : m < n) (hne : m ≠ k) : ∃ j, j < n - 1 ∧ sh k j = m := by
  unfold sh
  by_cases h : m < k
  · by_cases hn : m < n - 1
    · exact ⟨m, hn, if_pos h⟩
    · omega
  · exact ⟨m - 1, by omega, by rw [if_neg (by omega)]; omega⟩
theorem sh_lt {k i j : Nat} : sh k i < sh k j ↔ i < j := by unfold sh; split <;> split <;> omega
/-- the claim at k is weaker than another one of its name -/
def Weak (l : List Cl) (k n : Nat) : Prop := ∃ q : Nat, q < n ∧ (atC l q).n = (atC l k).n ∧ (atC l k).wk (atC l q) = true
theorem Weak_succ {l : List Cl} {k n : Nat} : Weak l k (n + 1) ↔ Weak l k n ∨ (atC l n).n = (atC l k).n ∧ (atC l k).wk (atC l n) = true := by
  constructor
  · rintro ⟨q, hq, e, h⟩
    by_cases x : q = n
    · rw [x] at e h; exact .inr ⟨e, h⟩
    · exact .inl ⟨q, by omega, e, h⟩
  · rintro (⟨q, hq, e, h⟩ | ⟨e, h⟩)
    · exact ⟨q, by omega, e, h⟩
    · exact ⟨n, by omega, e, h⟩
theorem Wins.strong {l : List Cl} {V : List Int} (h : Wins l V) {v : Int} (hv : v ∈ V) {q : Nat} (hq : q < l.length) (e : (atC l q).n = (atC l v).n) : (atC l v).wk (atC l q) = false := by
  obtain ⟨k, rfl, hk, b⟩ := h.val v hv
  rw [Bool.eq_false_iff]; intro hw
  have hlo := (Cl.wk_iff.1 hw).2.2
  by_cases x : q = k
  · rw [x] at hlo; exact Cl.lo_irr _ hlo
  · rcases b q hq e x with h1 | ⟨h1, _⟩
    · exact Cl.lo_irr _ (Cl.lo_trans hlo h1)
    · exact Cl.lo_irr _ ((Cl.lo_eqk h1).1.1 hlo)
theorem less_wins {l : List Cl} {k : Nat} {V V' : List Int} (hk : k < l.length) (hw : Weak l k l.length) (h : Wins l V) (h' : Wins (lessL l k) V') : V'.map (atC (lessL l k)) = V.map (atC l) := by
  obtain ⟨q, hq, eq, wq⟩ := hw
  have hlo := (Cl.wk_iff.1 wq).2.2
  have hqk : q ≠ k := fun e => by rw [e] at hlo; exact Cl.lo_irr _ hlo
  have hval : ∀ v ∈ V', ∃ j : Nat, v = (j : Int) ∧ j < l.length - 1 ∧ Best (lessL l k) j := fun v hv => by
    obtain ⟨j, a, b, c⟩ := h'.val v hv; exact ⟨j, a, by rw [lessL_len hk] at b; exact b, c⟩
  have hat : ∀ v ∈ V', atC (lessL l k) v = atC l ((sh k v.toNat : Nat) : Int) := fun v hv => by
    obtain ⟨j, rfl, hj, _⟩ := hval v hv
    rw [(lessL_at hk hj).1]; simp
  have hU : Wins l (V'.map fun v => ((sh k v.toNat : Nat) : Int)) := by
    refine ⟨fun u hu => ?_, ?_, fun m hm => ?_⟩
    · obtain ⟨v, hv, rfl⟩ := List.mem_map.1 hu
      obtain ⟨j, rfl, hj, bj⟩ := hval v hv
      obtain ⟨a1, a2, a3⟩ := lessL_at hk hj
      refine ⟨sh k j, by simp, a2, ?_⟩
      have main : ∀ m, m < l.length → (atC l m).n = (atC l (sh k j : Nat)).n → m ≠ sh k j → m ≠ k → ltC (atC l) m (sh k j : Nat) := fun m hm e hne hmk => by
        obtain ⟨m', hm', rfl⟩ := sh_of (n := l.length) hk hm hmk
        obtain ⟨b1, _, _⟩ := lessL_at hk hm'
        have := bj m' (by rw [lessL_len hk]; exact hm') (by rw [b1, a1]; exact e) (fun x => hne (by rw [x]))
        unfold ltC at this ⊢
        rw [b1, a1] at this
        rcases this with x | ⟨x, y⟩
        · exact .inl x
        · exact .inr ⟨x, by have := sh_lt (k := k) (i := m') (j := j); omega⟩
      intro m hm e hne
      by_cases hmk : m = k
      · subst hmk
        by_cases hqs : q = sh m j
        · rw [← hqs]; exact .inl hlo
        · rcases main q hq (eq.trans e) hqs hqk with x | ⟨x, _⟩
          · exact .inl (Cl.lo_trans hlo x)
          · exact .inl ((Cl.lo_eqk x).1.1 hlo)
      · exact main m hm e hne hmk
    · have e : ((V'.map fun v => ((sh k v.toNat : Nat) : Int)).map fun v => (atC l v).n) = V'.map fun v => (atC (lessL l k) v).n := by
        rw [List.map_map]
        exact List.map_congr_left fun v hv => by rw [hat v hv]; rfl
      rw [e]; exact h'.up
    · have main : ∀ m, m < l.length → m ≠ k → ∃ v ∈ V'.map (fun v => ((sh k v.toNat : Nat) : Int)), (atC l v).n = (atC l m).n := fun m hm hmk => by
        obtain ⟨m', hm', rfl⟩ := sh_of (n := l.length) hk hm hmk
        obtain ⟨v, hv, e⟩ := h'.all m' (by rw [lessL_len hk]; exact hm')
        rw [(lessL_at hk hm').1, hat v hv] at e
        exact ⟨_, List.mem_map.2 ⟨v, hv, rfl⟩, e⟩
      by_cases hmk : m = k
      · subst hmk
        obtain ⟨v, hv, e⟩ := main q hq hqk
        exact ⟨v, hv, e.trans eq⟩
      · exact main m hm hmk
  rw [h.uniq hU, List.map_map]
  exact List.map_congr_left fun v hv => hat v hv
theorem lessL_may {l : List Cl} (k : Nat) (h : l.all Cl.may = true) : (lessL l k).all Cl.may = true := by
  rw [List.all_eq_true] at *
  intro x hx
  rcases List.mem_append.1 hx with hx | hx
  · exact h x (List.mem_of_mem_take hx)
  · exact h x (List.mem_of_mem_drop hx)
end Go
