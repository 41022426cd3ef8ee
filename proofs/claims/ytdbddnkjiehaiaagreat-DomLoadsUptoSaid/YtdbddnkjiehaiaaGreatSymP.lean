/- PLAIN: merging two sorted runs where they stand, by turning blocks about: what stands where, as functions of places. No condition; no program. -/
import Derived.IntWalk
set_option linter.unusedSimpArgs false
set_option linter.unusedVariables false
namespace Go
/-- two places changed -/
def swF (f : Nat → Int) (i j : Nat) : Nat → Int := fun k => if k = i then f j else if k = j then f i else f k
/-- n places from a on against n from b on -/
def swR (f : Nat → Int) (a b n : Nat) : Nat → Int := fun k => if a ≤ k ∧ k < a + n then f (k - a + b) else if b ≤ k ∧ k < b + n then f (k - b + a) else f k
theorem swR_zero (f : Nat → Int) (a b : Nat) : swR f a b 0 = f := by
  funext k; unfold swR; rw [if_neg (by omega), if_neg (by omega)]
theorem swR_step (f : Nat → Int) {a b n : Nat} (h : a + n < b) : swF (swR f a b n) (a + n) (b + n) = swR f a b (n + 1) := by
  funext k
  unfold swF swR
  by_cases h1 : k = a + n
  · subst h1
    rw [if_pos rfl, if_neg (by omega), if_neg (by omega), if_pos (by omega)]
    congr 1; omega
  · by_cases h2 : k = b + n
    · subst h2
      rw [if_neg (by omega), if_pos rfl, if_neg (by omega), if_neg (by omega), if_neg (by omega), if_pos (by omega)]
      congr 1; omega
    · rw [if_neg h1, if_neg h2]
      by_cases h3 : a ≤ k ∧ k < a + n
      · rw [if_pos h3, if_pos (by omega : a ≤ k ∧ k < a + (n + 1))]
      · rw [if_neg h3, if_neg (by omega : ¬ (a ≤ k ∧ k < a + (n + 1)))]
        by_cases h4 : b ≤ k ∧ k < b + n
        · rw [if_pos h4, if_pos (by omega : b ≤ k ∧ k < b + (n + 1))]
        · rw [if_neg h4, if_neg (by omega : ¬ (b ≤ k ∧ k < b + (n + 1)))]
/-- the blocks from a to m and from m to b change places -/
def rotF (f : Nat → Int) (a m b : Nat) : Nat → Int := fun k => if k < a ∨ b ≤ k then f k else if k < a + (b - m) then f (k - a + m) else f (k - (b - m))
theorem rot_more (f : Nat → Int) {m i j : Nat} (hi : i ≤ m) (hj : 0 < j) (h : j < i) : rotF (swR f (m - i) m j) (m - (i - j)) m (m + j) = rotF f (m - i) m (m + j) := by
  funext k
  unfold rotF
  by_cases h1 : k < m - i ∨ m + j ≤ k
  · rw [if_pos h1]
    rw [if_pos (by omega)]
    unfold swR; rw [if_neg (by omega), if_neg (by omega)]
  · rw [if_neg h1]
    by_cases h2 : k < m - i + j
    · rw [if_pos (by omega), if_pos (by omega)]
      unfold swR; rw [if_pos (by omega)]
    · rw [if_neg (by omega : ¬ (k < m - (i - j) ∨ m + j ≤ k)), if_neg (by omega : ¬ k < m - i + (m + j - m))]
      by_cases h3 : k < m - (i - j) + (m + j - m)
      · rw [if_pos h3]
        unfold swR; rw [if_neg (by omega), if_pos (by omega)]
        congr 1; omega
      · rw [if_neg h3]
        unfold swR; rw [if_neg (by omega), if_neg (by omega)]
theorem rot_less (f : Nat → Int) {m i j : Nat} (hi : i ≤ m) (hi0 : 0 < i) (h : i < j) : rotF (swR f (m - i) (m + j - i) i) (m - i) m (m + (j - i)) = rotF f (m - i) m (m + j) := by
  funext k
  unfold rotF
  by_cases h1 : k < m - i ∨ m + j ≤ k
  · rw [if_pos h1, if_pos (by omega)]
    unfold swR; rw [if_neg (by omega), if_neg (by omega)]
  · rw [if_neg h1]
    by_cases h2 : m + (j - i) ≤ k
    · rw [if_pos (by omega), if_neg (by omega)]
      unfold swR; rw [if_neg (by omega), if_pos (by omega)]
      congr 1; omega
    · rw [if_neg (by omega : ¬ (k < m - i ∨ m + (j - i) ≤ k)), if_pos (by omega : k < m - i + (m + j - m))]
      by_cases h3 : k < m - i + (m + (j - i) - m)
      · rw [if_pos h3]
        unfold swR; rw [if_neg (by omega)]
        by_cases h4 : m + j - i ≤ k - (m - i) + m ∧ k - (m - i) + m < m + j - i + i
        · omega
        · rw [if_neg h4]
      · rw [if_neg h3]
        unfold swR; rw [if_pos (by omega)]
        congr 1; omega
theorem rot_same (f : Nat → Int) {m i : Nat} (hi : i ≤ m) : swR f (m - i) m i = rotF f (m - i) m (m + i) := by
  funext k
  unfold rotF swR
  by_cases h1 : m - i ≤ k ∧ k < m - i + i
  · rw [if_pos h1, if_neg (by omega), if_pos (by omega)]
  · rw [if_neg h1]
    by_cases h2 : m ≤ k ∧ k < m + i
    · rw [if_pos h2, if_neg (by omega), if_neg (by omega)]
      congr 1; omega
    · rw [if_neg h2, if_pos (by omega)]
theorem rot_none (f : Nat → Int) (a m : Nat) (h : a ≤ m) : rotF f a m m = f := by
  funext k; unfold rotF
  by_cases h1 : k < a ∨ m ≤ k
  · rw [if_pos h1]
  · rw [if_neg h1, if_neg (by omega)]; congr 1; omega
theorem rot_none' (f : Nat → Int) (m b : Nat) (h : m ≤ b) : rotF f m m b = f := by
  funext k; unfold rotF
  by_cases h1 : k < m ∨ b ≤ k
  · rw [if_pos h1]
  · rw [if_neg h1, if_pos (by omega)]; congr 1; omega

/-- in order -/
def srt (lt : Int → Int → Prop) (f : Nat → Int) (a b : Nat) : Prop := ∀ i j, a ≤ i → i < j → j < b → lt (f i) (f j)
/-- the same values from a to b, and all else as it was -/
structure Pm (f g : Nat → Int) (a b : Nat) : Prop where
  out : ∀ k, k < a ∨ b ≤ k → g k = f k
  to : ∀ k, a ≤ k → k < b → ∃ j, a ≤ j ∧ j < b ∧ g k = f j
  of : ∀ k, a ≤ k → k < b → ∃ j, a ≤ j ∧ j < b ∧ f k = g j
theorem Pm.refl (f : Nat → Int) (a b : Nat) : Pm f f a b := ⟨fun _ _ => rfl, fun k h1 h2 => ⟨k, h1, h2, rfl⟩, fun k h1 h2 => ⟨k, h1, h2, rfl⟩⟩
theorem Pm.trans {f g h : Nat → Int} {a b : Nat} (x : Pm f g a b) (y : Pm g h a b) : Pm f h a b :=
  ⟨fun k hk => (y.out k hk).trans (x.out k hk), fun k h1 h2 => by
    obtain ⟨j, j1, j2, e⟩ := y.to k h1 h2
    obtain ⟨i, i1, i2, e2⟩ := x.to j j1 j2
    exact ⟨i, i1, i2, e.trans e2⟩, fun k h1 h2 => by
    obtain ⟨j, j1, j2, e⟩ := x.of k h1 h2
    obtain ⟨i, i1, i2, e2⟩ := y.of j j1 j2
    exact ⟨i, i1, i2, e.trans e2⟩⟩
theorem Pm.wide {f g : Nat → Int} {a b a' b' : Nat} (x : Pm f g a b) (h1 : a' ≤ a) (h2 : b ≤ b') : Pm f g a' b' :=
  ⟨fun k hk => x.out k (by omega), fun k k1 k2 => by
    by_cases h : a ≤ k ∧ k < b
    · obtain ⟨j, j1, j2, e⟩ := x.to k h.1 h.2
      exact ⟨j, by omega, by omega, e⟩
    · exact ⟨k, k1, k2, x.out k (by omega)⟩, fun k k1 k2 => by
    by_cases h : a ≤ k ∧ k < b
    · obtain ⟨j, j1, j2, e⟩ := x.of k h.1 h.2
      exact ⟨j, by omega, by omega, e⟩
    · exact ⟨k, k1, k2, (x.out k (by omega)).symm⟩⟩
theorem Pm.rot (f : Nat → Int) {a m b : Nat} (h1 : a ≤ m) (h2 : m ≤ b) : Pm f (rotF f a m b) a b := by
  refine ⟨fun k hk => by unfold rotF; rw [if_pos hk], fun k k1 k2 => ?_, fun k k1 k2 => ?_⟩
  · unfold rotF
    rw [if_neg (by omega)]
    by_cases h : k < a + (b - m)
    · rw [if_pos h]; exact ⟨_, by omega, by omega, rfl⟩
    · rw [if_neg h]; exact ⟨_, by omega, by omega, rfl⟩
  · by_cases h : k < m
    · refine ⟨k + (b - m), by omega, by omega, ?_⟩
      unfold rotF; rw [if_neg (by omega), if_neg (by omega)]; congr 1; omega
    · refine ⟨k - m + a, by omega, by omega, ?_⟩
      unfold rotF; rw [if_neg (by omega), if_pos (by omega)]; congr 1; omega
/-- of two runs: each value of the first is below each of the second, as a number -/
def apartF (f : Nat → Int) (a m b : Nat) : Prop := ∀ i j, a ≤ i → i < m → m ≤ j → j < b → f i < f j
theorem srt.mono {lt : Int → Int → Prop} {f : Nat → Int} {a b a' b' : Nat} (h : srt lt f a b) (h1 : a ≤ a') (h2 : b' ≤ b) : srt lt f a' b' := fun i j i1 i2 i3 => h i j (by omega) i2 (by omega)
theorem srt.congr {lt : Int → Int → Prop} {f g : Nat → Int} {a b : Nat} (h : srt lt f a b) (e : ∀ k, a ≤ k → k < b → g k = f k) : srt lt g a b := fun i j i1 i2 i3 => by
  rw [e i i1 (by omega), e j (by omega) i3]; exact h i j i1 i2 i3
/-- two runs in order, all of the one below all of the other -/
theorem srt.join {lt : Int → Int → Prop} {f : Nat → Int} {a m b : Nat} (h1 : srt lt f a m) (h2 : srt lt f m b) (h : ∀ i j, a ≤ i → i < m → m ≤ j → j < b → lt (f i) (f j)) : srt lt f a b := fun i j i1 i2 i3 => by
  by_cases x : j < m
  · exact h1 i j i1 i2 x
  · by_cases y : i < m
    · exact h i j i1 y (by omega) i3
    · exact h2 i j (by omega) i2 i3

section
variable {lt : Int → Int → Prop} (tr : ∀ x y z, lt x y → lt y z → lt x z)
include tr
/-- where the blocks are turned about: the first half holds the lesser ones -/
theorem sym_cut {f : Nat → Int} {a m b mid s : Nat} (hsa : a ≤ s) (hsm : s ≤ m) (hmid : s ≤ mid) (hma : a ≤ mid) (hmb : mid ≤ b) (hend : mid + m - s ≤ b) (hme : m ≤ mid + m - s)
    (h1 : srt lt f a m) (h2 : srt lt f m b)
    (lo : ∀ c, a ≤ c → c < s → mid + m - s < b → lt (f c) (f (mid + m - s))) (hi : ∀ c, s ≤ c → c < m → m < mid + m - s → lt (f (mid + m - s - 1)) (f c)) :
    let g := rotF f s m (mid + m - s)
    (∀ k, a ≤ k → k < s → g k = f k) ∧ (∀ k, s ≤ k → k < mid → g k = f (k - s + m)) ∧ (∀ k, mid ≤ k → k < mid + m - s → g k = f (k - (mid - s))) ∧ (∀ k, mid + m - s ≤ k → k < b → g k = f k) ∧
      ∀ i j, a ≤ i → i < mid → mid ≤ j → j < b → lt (g i) (g j) := by
  intro g
  have g1 : ∀ k, a ≤ k → k < s → g k = f k := fun k k1 k2 => by show rotF _ _ _ _ k = _; unfold rotF; rw [if_pos (by omega)]
  have g2 : ∀ k, s ≤ k → k < mid → g k = f (k - s + m) := fun k k1 k2 => by show rotF _ _ _ _ k = _; unfold rotF; rw [if_neg (by omega), if_pos (by omega)]
  have g3 : ∀ k, mid ≤ k → k < mid + m - s → g k = f (k - (mid - s)) := fun k k1 k2 => by
    show rotF _ _ _ _ k = _; unfold rotF; rw [if_neg (by omega), if_neg (by omega)]; congr 1; omega
  have g4 : ∀ k, mid + m - s ≤ k → k < b → g k = f k := fun k k1 k2 => by show rotF _ _ _ _ k = _; unfold rotF; rw [if_pos (by omega)]
  refine ⟨g1, g2, g3, g4, fun i j i1 i2 j1 j2 => ?_⟩
  have key : ∀ c, a ≤ c → c < s → ∀ d, mid + m - s ≤ d → d < b → lt (f c) (f d) := fun c c1 c2 d d1 d2 => by
    have := lo c c1 c2 (by omega)
    by_cases e : d = mid + m - s
    · rw [e]; exact this
    · exact tr _ _ _ this (h2 _ _ (by omega) (by omega) d2)
  have key2 : ∀ d, m ≤ d → d < mid + m - s → ∀ c, s ≤ c → c < m → lt (f d) (f c) := fun d d1 d2 c c1 c2 => by
    have := hi c c1 c2 (by omega)
    by_cases e : d = mid + m - s - 1
    · rw [e]; exact this
    · exact tr _ _ _ (h2 _ _ (by omega) (by omega) (by omega)) this
  by_cases x : i < s
  · rw [g1 i i1 x]
    by_cases y : j < mid + m - s
    · rw [g3 j j1 y]; exact h1 _ _ i1 (by omega) (by omega)
    · rw [g4 j (by omega) j2]; exact key i i1 x j (by omega) j2
  · rw [g2 i (by omega) i2]
    by_cases y : j < mid + m - s
    · rw [g3 j j1 y]; exact key2 _ (by omega) (by omega) _ (by omega) (by omega)
    · rw [g4 j (by omega) j2]; exact h2 _ _ (by omega) (by omega) j2
end
/-- both halves merged -/
theorem sym_join {lt : Int → Int → Prop} {f g h k : Nat → Int} {a b mid : Nat} (hab : a ≤ mid) (hb : mid ≤ b) (pg : Pm f g a b) (hg : ∀ i j, a ≤ i → i < mid → mid ≤ j → j < b → lt (g i) (g j))
    (ph : Pm g h a mid) (sh : srt lt h a mid) (pk : Pm h k mid b) (sk : srt lt k mid b) : Pm f k a b ∧ srt lt k a b := by
  refine ⟨(pg.trans (ph.wide (Nat.le_refl _) hb)).trans (pk.wide hab (Nat.le_refl _)), ?_⟩
  have k1 : srt lt k a mid := sh.congr fun i i1 i2 => pk.out i (by omega)
  refine k1.join sk fun i j i1 i2 j1 j2 => ?_
  rw [pk.out i (by omega)]
  obtain ⟨i', a1, a2, e1⟩ := ph.to i i1 i2
  obtain ⟨j', b1, b2, e2⟩ := pk.to j j1 j2
  rw [e1, e2, ph.out j' (by omega)]
  exact hg i' j' a1 a2 b1 b2

/-! one value put into a run -/
theorem ins_step (f : Nat → Int) {j i : Nat} (h0 : 0 < j) (hji : j ≤ i) : swF (rotF f j i (i + 1)) j (j - 1) = rotF f (j - 1) i (i + 1) := by
  funext k
  have e1 : rotF f j i (i + 1) j = f i := by
    unfold rotF
    rw [if_neg (by omega), if_pos (by omega)]; congr 1; omega
  have e2 : rotF f j i (i + 1) (j - 1) = f (j - 1) := by
    unfold rotF
    rw [if_pos (by omega)]
  unfold swF
  rw [e1, e2]
  by_cases h1 : k = j
  · rw [if_pos h1]
    unfold rotF
    rw [if_neg (by omega), if_neg (by omega)]; congr 1; omega
  · rw [if_neg h1]
    by_cases h2 : k = j - 1
    · rw [if_pos h2]
      unfold rotF
      rw [if_neg (by omega), if_pos (by omega)]; congr 1; omega
    · rw [if_neg h2]
      unfold rotF
      by_cases h3 : k < j ∨ i + 1 ≤ k
      · rw [if_pos h3, if_pos (by omega : k < j - 1 ∨ i + 1 ≤ k)]
      · rw [if_neg h3, if_neg (by omega : ¬ (k < j - 1 ∨ i + 1 ≤ k)), if_neg (by omega : ¬ k < j + (i + 1 - i)), if_neg (by omega : ¬ k < j - 1 + (i + 1 - i))]
theorem ins_stepL (f : Nat → Int) {a k : Nat} (h : a < k) : swF (rotF f a (a + 1) k) (k - 1) k = rotF f a (a + 1) (k + 1) := by
  funext x
  have e1 : rotF f a (a + 1) k (k - 1) = f a := by
    unfold rotF
    by_cases h1 : k = a + 1
    · subst h1
      rw [if_neg (by omega), if_neg (by omega)]; congr 1; omega
    · rw [if_neg (by omega), if_neg (by omega)]; congr 1; omega
  have e2 : rotF f a (a + 1) k k = f k := by
    unfold rotF
    rw [if_pos (by omega)]
  unfold swF
  rw [e1, e2]
  by_cases h1 : x = k - 1
  · rw [if_pos h1]
    unfold rotF
    rw [if_neg (by omega), if_pos (by omega)]; congr 1; omega
  · rw [if_neg h1]
    by_cases h2 : x = k
    · rw [if_pos h2]
      unfold rotF
      rw [if_neg (by omega), if_neg (by omega)]; congr 1; omega
    · rw [if_neg h2]
      unfold rotF
      by_cases h3 : x < a ∨ k ≤ x
      · rw [if_pos h3, if_pos (by omega : x < a ∨ k + 1 ≤ x)]
      · rw [if_neg h3, if_neg (by omega : ¬ (x < a ∨ k + 1 ≤ x)), if_pos (by omega : x < a + (k - (a + 1))), if_pos (by omega : x < a + (k + 1 - (a + 1)))]
/-- the last one put to its place among those ahead -/
theorem ins_srt {lt : Int → Int → Prop} {f : Nat → Int} {a i j : Nat} (haj : a ≤ j) (hji : j ≤ i) (h : srt lt f a i) (h1 : ∀ c, a ≤ c → c < j → lt (f c) (f i)) (h2 : ∀ c, j ≤ c → c < i → lt (f i) (f c)) : srt lt (rotF f j i (i + 1)) a (i + 1) := by
  have e1 : ∀ k, k < j → rotF f j i (i + 1) k = f k := fun k hk => by unfold rotF; rw [if_pos (by omega)]
  have e2 : rotF f j i (i + 1) j = f i := by unfold rotF; rw [if_neg (by omega), if_pos (by omega)]; congr 1; omega
  have e3 : ∀ k, j < k → k < i + 1 → rotF f j i (i + 1) k = f (k - 1) := fun k k1 k2 => by unfold rotF; rw [if_neg (by omega), if_neg (by omega)]; congr 1; omega
  intro x y x1 xy y1
  by_cases hx : x < j
  · rw [e1 x hx]
    by_cases hy : y < j
    · rw [e1 y hy]; exact h x y x1 xy (by omega)
    · by_cases hy2 : y = j
      · rw [hy2, e2]; exact h1 x x1 hx
      · rw [e3 y (by omega) y1]; exact h x (y - 1) x1 (by omega) (by omega)
  · by_cases hx2 : x = j
    · rw [hx2, e2, e3 y (by omega) y1]; exact h2 _ (by omega) (by omega)
    · rw [e3 x (by omega) (by omega), e3 y (by omega) y1]; exact h _ _ (by omega) (by omega) (by omega)
/-- the first one put to its place among those behind -/
theorem ins_srtL {lt : Int → Int → Prop} {f : Nat → Int} {a i b : Nat} (hai : a < i) (hib : i ≤ b) (h : srt lt f (a + 1) b) (h1 : ∀ c, a < c → c < i → lt (f c) (f a)) (h2 : ∀ c, i ≤ c → c < b → lt (f a) (f c)) : srt lt (rotF f a (a + 1) i) a b := by
  have e1 : ∀ k, a ≤ k → k < i - 1 → rotF f a (a + 1) i k = f (k + 1) := fun k k0 hk => by unfold rotF; rw [if_neg (by omega), if_pos (by omega)]; congr 1; omega
  have e2 : rotF f a (a + 1) i (i - 1) = f a := by unfold rotF; rw [if_neg (by omega), if_neg (by omega)]; congr 1; omega
  have e3 : ∀ k, i ≤ k → rotF f a (a + 1) i k = f k := fun k k1 => by unfold rotF; rw [if_pos (by omega)]
  intro x y x1 xy y1
  by_cases hx : x < i - 1
  · rw [e1 x x1 hx]
    by_cases hy : y < i - 1
    · rw [e1 y (by omega) hy]; exact h _ _ (by omega) (by omega) (by omega)
    · by_cases hy2 : y = i - 1
      · rw [hy2, e2]; exact h1 _ (by omega) (by omega)
      · rw [e3 y (by omega)]; exact h _ _ (by omega) (by omega) (by omega)
  · by_cases hx2 : x = i - 1
    · rw [hx2, e2, e3 y (by omega)]; exact h2 _ (by omega) (by omega)
    · rw [e3 x (by omega), e3 y (by omega)]; exact h _ _ (by omega) (by omega) (by omega)

/-! all in order: each value stands where as many stand ahead of it -/
open Classical in
theorem rank {lt : Int → Int → Prop} {f : Nat → Int} {n : Nat} (tr : ∀ x y z, lt x y → lt y z → lt x z) (ir : ∀ x, ¬ lt x x) (h : srt lt f 0 n) (h1 : ∀ k, k < n → ∃ j : Nat, j < n ∧ f k = (j : Int)) (h2 : ∀ j : Nat, j < n → ∃ k, k < n ∧ f k = (j : Int)) {i : Nat} (hi : i < n) :
    (List.range n).countP (fun k : Nat => decide (lt (k : Int) (i : Int))) < n ∧ f ((List.range n).countP (fun k : Nat => decide (lt (k : Int) (i : Int)))) = (i : Int) := by
  obtain ⟨p, hp, ep⟩ := h2 i hi
  have inj : ∀ a b, a < b → b < n → f a ≠ f b := fun a b hab hb e => by
    have := h a b (Nat.zero_le _) hab hb
    rw [e] at this; exact ir _ this
  have hpm : ((List.range n).map f).Perm ((List.range n).map fun k : Nat => (k : Int)) := by
    refine (List.perm_ext_iff_of_nodup ?_ ?_).2 fun a => ?_
    · rw [List.Nodup, List.pairwise_map]
      refine List.Pairwise.imp_of_mem (R := fun a b => a < b) (fun {a b} ha hb hab => inj a b hab (List.mem_range.1 hb)) List.pairwise_lt_range
    · rw [List.Nodup, List.pairwise_map]
      exact List.Pairwise.imp (fun {a b} (hab : a < b) => by omega) List.pairwise_lt_range
    · simp only [List.mem_map, List.mem_range]
      constructor
      · rintro ⟨k, hk, rfl⟩
        obtain ⟨j, hj, e⟩ := h1 k hk
        exact ⟨j, hj, e.symm⟩
      · rintro ⟨j, hj, rfl⟩
        obtain ⟨k, hk, e⟩ := h2 j hj
        exact ⟨k, hk, e⟩
  have e1 := hpm.countP_eq (fun x => decide (lt x (i : Int)))
  rw [List.countP_map, List.countP_map] at e1
  have e2 : (List.range n).countP ((fun x => decide (lt x (i : Int))) ∘ f) = (List.range n).countP (fun k => decide (k < p)) := by
    refine List.countP_congr fun k hk => ?_
    have hk' := List.mem_range.1 hk
    simp only [Function.comp, decide_eq_true_eq]
    rw [← ep]
    constructor
    · intro hl
      rcases Nat.lt_or_ge k p with h3 | h3
      · exact h3
      · exfalso
        rcases Nat.lt_or_ge p k with h4 | h4
        · exact ir _ (tr _ _ _ hl (h p k (Nat.zero_le _) h4 hk'))
        · have : k = p := by omega
          rw [this] at hl; exact ir _ hl
    · intro hl
      exact h k p (Nat.zero_le _) hl hp
  have e3 : ∀ m, (List.range m).countP (fun k => decide (k < p)) = min m p := fun m => by
    induction m with
    | zero => simp
    | succ m ih =>
      rw [List.range_succ, List.countP_append, ih]
      by_cases hm : m < p
      · simp [hm]; omega
      · simp [hm]; omega
  rw [e2, e3] at e1
  have e4 : (List.range n).countP (fun k : Nat => decide (lt (k : Int) (i : Int))) = p := by
    have : (List.range n).countP ((fun x => decide (lt x (i : Int))) ∘ fun k : Nat => (k : Int)) = (List.range n).countP (fun k : Nat => decide (lt (k : Int) (i : Int))) := rfl
    rw [← this, ← e1]; omega
  rw [e4]
  exact ⟨hp, ep⟩

/-! runs: the places from s to e hold the numbers from s to e, in order -/
def Run (lt : Int → Int → Prop) (f : Nat → Int) (s e : Nat) : Prop := srt lt f s e ∧ (∀ k, s ≤ k → k < e → ∃ j : Nat, s ≤ j ∧ j < e ∧ f k = (j : Int)) ∧ ∀ j : Nat, s ≤ j → j < e → ∃ k, s ≤ k ∧ k < e ∧ f k = (j : Int)
theorem Run.one (lt : Int → Int → Prop) {f : Nat → Int} {s : Nat} (h : f s = (s : Int)) : Run lt f s (s + 1) := by
  refine ⟨fun i j h1 h2 h3 => by omega, fun k h1 h2 => ?_, fun j h1 h2 => ?_⟩
  · obtain rfl : k = s := by omega
    exact ⟨k, Nat.le_refl _, by omega, h⟩
  · obtain rfl : j = s := by omega
    exact ⟨j, Nat.le_refl _, by omega, h⟩
theorem Run.none (lt : Int → Int → Prop) (f : Nat → Int) {s e : Nat} (h : e ≤ s) : Run lt f s e := ⟨fun i j h1 h2 h3 => by omega, fun k h1 h2 => by omega, fun k h1 h2 => by omega⟩
theorem Run.keep {lt : Int → Int → Prop} {f g : Nat → Int} {s e : Nat} (h : Run lt f s e) (hg : ∀ k, s ≤ k → k < e → g k = f k) : Run lt g s e :=
  ⟨h.1.congr hg, fun k h1 h2 => by rw [hg k h1 h2]; exact h.2.1 k h1 h2, fun j h1 h2 => by
    obtain ⟨k, k1, k2, e⟩ := h.2.2 j h1 h2
    exact ⟨k, k1, k2, by rw [hg k k1 k2]; exact e⟩⟩
theorem Run.apart {lt : Int → Int → Prop} {f : Nat → Int} {a m b : Nat} (h1 : Run lt f a m) (h2 : Run lt f m b) : apartF f a m b := fun i j i1 i2 j1 j2 => by
  obtain ⟨x, x1, x2, e⟩ := h1.2.1 i i1 i2
  obtain ⟨y, y1, y2, e'⟩ := h2.2.1 j j1 j2
  rw [e, e']; omega
theorem Run.merge {lt : Int → Int → Prop} {f g : Nat → Int} {a m b : Nat} (ham : a ≤ m) (hmb : m ≤ b) (h1 : Run lt f a m) (h2 : Run lt f m b) (pg : Pm f g a b) (sg : srt lt g a b) : Run lt g a b := by
  refine ⟨sg, fun k k1 k2 => ?_, fun j j1 j2 => ?_⟩
  · obtain ⟨j, j1, j2, e⟩ := pg.to k k1 k2
    rw [e]
    by_cases h : j < m
    · obtain ⟨x, x1, x2, e'⟩ := h1.2.1 j j1 h
      exact ⟨x, x1, by omega, e'⟩
    · obtain ⟨x, x1, x2, e'⟩ := h2.2.1 j (by omega) j2
      exact ⟨x, by omega, x2, e'⟩
  · have key : ∃ k, a ≤ k ∧ k < b ∧ f k = (j : Int) := by
      by_cases h : j < m
      · obtain ⟨x, x1, x2, e'⟩ := h1.2.2 j j1 h
        exact ⟨x, x1, by omega, e'⟩
      · obtain ⟨x, x1, x2, e'⟩ := h2.2.2 j (by omega) j2
        exact ⟨x, by omega, x2, e'⟩
    obtain ⟨k, k1, k2, e⟩ := key
    obtain ⟨k', a1, a2, e'⟩ := pg.of k k1 k2
    exact ⟨k', a1, a2, by rw [← e', e]⟩
theorem Run.ins {lt : Int → Int → Prop} {f : Nat → Int} {a i j : Nat} (haj : a ≤ j) (hji : j ≤ i) (h : Run lt f a i) (hi : f i = (i : Int)) (h1 : ∀ c, a ≤ c → c < j → lt (f c) (f i)) (h2 : ∀ c, j ≤ c → c < i → lt (f i) (f c)) : Run lt (rotF f j i (i + 1)) a (i + 1) :=
  Run.merge (m := i) (by omega) (by omega) h (Run.one lt hi) ((Pm.rot f hji (by omega)).wide haj (Nat.le_refl _)) (ins_srt haj hji h.1 h1 h2)
/-- the runs of B of what has n places: the first p pairs merged, the others not yet -/
def Half (lt : Int → Int → Prop) (f : Nat → Int) (n B p : Nat) : Prop :=
  (∀ q, q < p → Run lt f (q * (2 * B)) (min ((q + 1) * (2 * B)) n)) ∧ ∀ q, 2 * p ≤ q → Run lt f (q * B) (min ((q + 1) * B) n)
def All (lt : Int → Int → Prop) (f : Nat → Int) (n B : Nat) : Prop := ∀ q, Run lt f (q * B) (min ((q + 1) * B) n)
theorem All.half {lt : Int → Int → Prop} {f : Nat → Int} {n B : Nat} (h : All lt f n B) : Half lt f n B 0 := ⟨fun _ hq => absurd hq (Nat.not_lt_zero _), fun q _ => h q⟩
theorem two_mul_B (p B : Nat) : p * (2 * B) = 2 * p * B ∧ (2 * p + 1) * B = 2 * p * B + B ∧ (2 * p + 1 + 1) * B = 2 * p * B + 2 * B ∧ (p + 1) * (2 * B) = 2 * p * B + 2 * B := by
  refine ⟨by rw [← Nat.mul_assoc, Nat.mul_comm p 2], by rw [Nat.add_mul, Nat.one_mul], by rw [Nat.add_mul, Nat.add_mul, Nat.one_mul]; omega, by rw [Nat.add_mul, Nat.one_mul, ← Nat.mul_assoc, Nat.mul_comm p 2]⟩
theorem mul_le_of (B : Nat) {q p : Nat} (h : q ≤ p) : q * B ≤ p * B := Nat.mul_le_mul_right B h
/-- the next pair merged -/
theorem Half.step {lt : Int → Int → Prop} {f g : Nat → Int} {n B p : Nat} (h : Half lt f n B p) (hm : p * (2 * B) + B ≤ n)
    (pg : Pm f g (p * (2 * B)) (min ((p + 1) * (2 * B)) n)) (sg : srt lt g (p * (2 * B)) (min ((p + 1) * (2 * B)) n)) : Half lt g n B (p + 1) := by
  obtain ⟨e1, e2, e3, e4⟩ := two_mul_B p B
  refine ⟨fun q hq => ?_, fun q hq => ?_⟩
  · by_cases hqp : q < p
    · refine (h.1 q hqp).keep fun k k1 k2 => pg.out k (.inl ?_)
      have := mul_le_of (2 * B) (show q + 1 ≤ p by omega)
      omega
    · obtain rfl : q = p := by omega
      have r1 := h.2 (2 * q) (Nat.le_refl _)
      have r2 := h.2 (2 * q + 1) (by omega)
      rw [e2] at r1 r2; rw [e3] at r2
      rw [e1, e4] at pg sg ⊢
      rw [e1] at hm
      rw [Nat.min_eq_left (by omega)] at r1
      exact Run.merge (by omega) (by omega) r1 r2 pg sg
  · refine (h.2 q (by omega)).keep fun k k1 k2 => pg.out k (.inr ?_)
    have := mul_le_of B (show 2 * p + 1 + 1 ≤ q by omega)
    omega
/-- where one run is left over, or none -/
theorem Half.last {lt : Int → Int → Prop} {f : Nat → Int} {n B p : Nat} (h : Half lt f n B p) (hm : n ≤ p * (2 * B) + B) : All lt f n (2 * B) := fun q => by
  obtain ⟨e1, e2, e3, e4⟩ := two_mul_B p B
  by_cases hqp : q < p
  · exact h.1 q hqp
  · by_cases hq : q = p
    · subst hq
      have r1 := h.2 (2 * q) (Nat.le_refl _)
      rw [e2] at r1
      rw [e1] at hm
      rw [e1, e4]
      rw [show min (2 * q * B + B) n = min (2 * q * B + 2 * B) n by omega] at r1
      exact r1
    · refine Run.none _ _ ?_
      have := mul_le_of (2 * B) (show p + 1 ≤ q by omega)
      rw [e4] at this; rw [e1] at hm
      omega
theorem Half.full {lt : Int → Int → Prop} {f : Nat → Int} {n B p : Nat} (h : Half lt f n B p) (hm : n ≤ p * (2 * B)) : All lt f n (2 * B) := h.last (by omega)
/-- one run holds all -/
theorem All.done {lt : Int → Int → Prop} {f : Nat → Int} {n B : Nat} (h : All lt f n B) (hB : n ≤ B) : Run lt f 0 n := by
  have := h 0
  rw [Nat.zero_mul, Nat.zero_add, Nat.one_mul, Nat.min_eq_right hB] at this
  exact this
theorem All.first {lt : Int → Int → Prop} {f : Nat → Int} {n q A : Nat} (hA : A = q * 20) (hn : n < A + 20) (h : ∀ p, p < q → Run lt f (p * 20) ((p + 1) * 20)) (h2 : Run lt f A n) (hAn : A ≤ n) : All lt f n 20 := fun p => by
  by_cases hp : p < q
  · have := h p hp
    rw [Nat.min_eq_left (by omega)]; exact this
  · by_cases hq : p = q
    · subst hq
      rw [Nat.min_eq_right (by omega), ← hA]; exact h2
    · exact Run.none _ _ (by omega)
/-- the two runs that are merged next -/
theorem Half.pair {lt : Int → Int → Prop} {f : Nat → Int} {n B p A e : Nat} (h : Half lt f n B p) (hA : A = p * (2 * B)) (he : e = min (A + 2 * B) n) (hm : A + B ≤ n) : Run lt f A (A + B) ∧ Run lt f (A + B) e := by
  obtain ⟨e1, e2, e3, e4⟩ := two_mul_B p B
  have r1 := h.2 (2 * p) (Nat.le_refl _)
  have r2 := h.2 (2 * p + 1) (by omega)
  rw [e2] at r1 r2; rw [e3] at r2
  rw [← e1, ← hA] at r1 r2
  rw [Nat.min_eq_left hm] at r1
  rw [← he] at r2
  exact ⟨r1, r2⟩
theorem Half.next {lt : Int → Int → Prop} {f g : Nat → Int} {n B p A e : Nat} (h : Half lt f n B p) (hA : A = p * (2 * B)) (he : e = min (A + 2 * B) n) (hm : A + B ≤ n) (pg : Pm f g A e) (sg : srt lt g A e) : Half lt g n B (p + 1) := by
  have e1 : min ((p + 1) * (2 * B)) n = e := by rw [he, hA, Nat.add_mul, Nat.one_mul]
  exact h.step (by omega) (by rw [e1, ← hA]; exact pg) (by rw [e1, ← hA]; exact sg)
theorem Run.val {lt : Int → Int → Prop} {f : Nat → Int} {a m b N : Nat} (h1 : Run lt f a m) (h2 : Run lt f m b) (hm : m ≤ N) (hb : b ≤ N) : ∀ k, a ≤ k → k < b → ∃ j : Nat, j < N ∧ f k = (j : Int) := fun k k1 k2 => by
  by_cases h : k < m
  · obtain ⟨j, j1, j2, e⟩ := h1.2.1 k k1 h; exact ⟨j, by omega, e⟩
  · obtain ⟨j, j1, j2, e⟩ := h2.2.1 k (by omega) k2; exact ⟨j, by omega, e⟩
end Go
