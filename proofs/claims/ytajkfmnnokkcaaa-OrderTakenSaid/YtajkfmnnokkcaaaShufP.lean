/- PLAIN: the winners of a list turned about; two claims compared as structs. No condition. -/
import Derived.Test.YtajkfmnnokkcaaaRefWin
import Derived.Test.YtajkfmnnokkcaaaOrderGoesOn
set_option linter.unusedSimpArgs false
set_option linter.unusedVariables false
namespace Go
open Go.RowKit
/-- no two of the first n are alike: of two just one is weaker -/
def Differ (l : List Cl) (n : Nat) : Prop := ∀ i k : Nat, k < i → i < n → (atC l i).wk (atC l k) = true ∨ (atC l k).wk (atC l i) = true
theorem atC_rev {l : List Cl} {j : Nat} (h : j < l.length) : atC l.reverse (j : Int) = atC l ((l.length - 1 - j : Nat) : Int) := by
  have h1 : l.reverse[j]? = some l[l.length - 1 - j] := by rw [List.getElem?_reverse h, List.getElem?_eq_getElem (by omega)]
  rw [atC_get h1, atC_get (List.getElem?_eq_getElem (by omega : l.length - 1 - j < l.length))]
theorem Differ.not_eqk {l : List Cl} (h : Differ l l.length) {i k : Nat} (hi : i < l.length) (hk : k < l.length) (hne : i ≠ k) : ¬ (atC l i).eqk (atC l k) := fun e => by
  have e' := Cl.eqk_symm e
  rcases Nat.lt_or_gt_of_ne hne with x | x
  · rcases h k i x hk with a | a
    · rw [Cl.wk_not e'] at a; cases a
    · rw [Cl.wk_not e] at a; cases a
  · rcases h i k x hi with a | a
    · rw [Cl.wk_not e] at a; cases a
    · rw [Cl.wk_not e'] at a; cases a
theorem rev_wins {l : List Cl} {V V' : List Int} (hd : Differ l l.length) (h : Wins l V) (h' : Wins l.reverse V') : V.map (atC l) = V'.map (atC l.reverse) := by
  have hval : ∀ v ∈ V', ∃ j : Nat, v = (j : Int) ∧ j < l.length ∧ Best l.reverse j := fun v hv => by
    obtain ⟨j, a, b, c⟩ := h'.val v hv; exact ⟨j, a, by simpa using b, c⟩
  have hat : ∀ v ∈ V', atC l.reverse v = atC l ((l.length - 1 - v.toNat : Nat) : Int) := fun v hv => by
    obtain ⟨j, rfl, hj, _⟩ := hval v hv
    rw [atC_rev hj]; simp
  have hU : Wins l (V'.map fun v => ((l.length - 1 - v.toNat : Nat) : Int)) := by
    refine ⟨fun u hu => ?_, ?_, fun k hk => ?_⟩
    · obtain ⟨v, hv, rfl⟩ := List.mem_map.1 hu
      obtain ⟨j, rfl, hj, bj⟩ := hval v hv
      refine ⟨l.length - 1 - j, by simp, by omega, fun m hm e hne => ?_⟩
      have hb := bj (l.length - 1 - m) (by simp; omega)
      rw [atC_rev hj, atC_rev (by omega : l.length - 1 - m < l.length), show l.length - 1 - (l.length - 1 - m) = m by omega] at hb
      rcases hb e (by omega) with x | ⟨x, _⟩
      · rw [atC_rev hj, atC_rev (by omega : l.length - 1 - m < l.length), show l.length - 1 - (l.length - 1 - m) = m by omega] at x
        exact .inl x
      · rw [atC_rev hj, atC_rev (by omega : l.length - 1 - m < l.length), show l.length - 1 - (l.length - 1 - m) = m by omega] at x
        exact (hd.not_eqk hm (by omega) hne x).elim
    · have e : ((V'.map fun v => ((l.length - 1 - v.toNat : Nat) : Int)).map fun v => (atC l v).n) = V'.map fun v => (atC l.reverse v).n := by
        rw [List.map_map]
        exact List.map_congr_left fun v hv => by rw [hat v hv]; rfl
      rw [e]; exact h'.up
    · obtain ⟨v, hv, e⟩ := h'.all (l.length - 1 - k) (by simp; omega)
      rw [atC_rev (by omega : l.length - 1 - k < l.length), show l.length - 1 - (l.length - 1 - k) = k by omega, hat v hv] at e
      exact ⟨_, List.mem_map.2 ⟨v, hv, rfl⟩, e⟩
  rw [h.uniq hU, List.map_map]
  exact List.map_congr_left fun v hv => (hat v hv).symm
end Go
namespace Go.Proofs.Ytajkfmnnokkcaaa
open Go.RowKit
set_option maxRecDepth 100000 in
theorem eqClaim_same (x : Cl) (w : World) : (Op.equalIn 10000 34 x.v x.v).run Try.prog w = .ok true w := by
  obtain ⟨p, o, i, a, b, c, r, d⟩ := x
  have hE := fun w => eqWeight a b c a b c w
  simp only [beq_self_eq_true, Bool.and_self] at hE
  rw [show (10000 : Nat) = 9999 + 1 from rfl, Op.equalIn]
  simp only [Sem.run_bind, run_underlying Try.underlying34, Result.andThen_ok]
  go_simp
end Go.Proofs.Ytajkfmnnokkcaaa
