/- PLAIN: few small whole numbers, without division, reckon to a whole number. No condition; no program. -/
import Derived.Test.YthmicnjigfcljaaMo
import Derived.Test.YthmicnjigfcljaaMg
import Derived.Test.YthmicnjigfcljaaFmR
set_option linter.unusedSimpArgs false
set_option linter.unusedVariables false
namespace Go
open Go.RowKit

/-- how many numbers -/
def fewN : Nat → Ex → Nat
  | 0, _ => 0
  | m + 1, .mk k _ _ _ kids => if k = 1 then 1 else (kids.map (fewN m)).sum
/-- all are whole and small, and nothing is divided -/
def fewB : Nat → Nat → Ex → Bool
  | 0, _, _ => false
  | m + 1, dp, .mk k n d u kids => if k = 5 ∨ 300 < dp then false else if k = 1 then decide (d = 1) && (decide (-1024 < n) && decide (n < 1024)) else kids.all (fewB m (dp + 1)) && mayE (m + 1) 340 (.mk k n d u kids)
theorem fewN_le : ∀ (m : Nat) (t : Ex), fewN m t ≤ szE m t
  | 0, _ => Nat.zero_le _
  | m + 1, .mk k n d u kids => by
    unfold fewN szE
    split
    · omega
    · have : (kids.map (fewN m)).sum ≤ 1 * (kids.map (szE m)).sum := sum_le_mul kids fun t _ => by have := fewN_le m t; omega
      omega

/-- a whole number, no greater than so -/
def W1 (p : Int × Int) (n : Nat) : Prop := p.2 = 1 ∧ p.1.natAbs ≤ 1023 ^ n
theorem pow6 {n : Nat} (h : n ≤ 6) : (1023 : Nat) ^ n ≤ 1152921504606846976 := Nat.le_trans (Nat.pow_le_pow_right (by decide) h) (by decide)
theorem W1.sure {p : Int × Int} {n : Nat} (hn : n ≤ 6) (h : W1 p n) : sureP p = true := by
  obtain ⟨a, b⟩ := p
  obtain ⟨h1, h2⟩ := h
  have h1' : b = 1 := h1
  subst h1'
  have := pow6 hn
  have h2' : a.natAbs ≤ 1023 ^ n := h2
  exact sureB_of (by omega) (by omega) (by simp [Int.gcd])
theorem mkQ_one {neg : Bool} {n : Nat} (h : n ≤ 9223372036854775807) : mkQ neg n 1 = (if neg then -(n : Int) else n, 1) := by
  unfold mkQ madeQ
  rw [Nat.gcd_one_right, Nat.div_one, Nat.div_one, if_neg (by omega)]
  rfl
theorem pow_add_le {a b : Nat} (ha : 1 ≤ a) (hb : 1 ≤ b) : 1023 ^ a + 1023 ^ b ≤ 1023 ^ (a + b) := by
  have h1 : 1023 ≤ 1023 ^ a := Nat.le_trans (by decide) (Nat.pow_le_pow_right (by decide) ha)
  have h2 : 1023 ≤ 1023 ^ b := Nat.le_trans (by decide) (Nat.pow_le_pow_right (by decide) hb)
  rw [Nat.pow_add]
  generalize 1023 ^ a = x at *
  generalize 1023 ^ b = y at *
  obtain ⟨z, rfl⟩ : ∃ z, y = z + 2 := ⟨y - 2, by omega⟩
  have : 2 * z ≤ x * z := Nat.mul_le_mul_right z (by omega)
  rw [Nat.mul_add]; omega
theorem addQ_one {p q : Int × Int} {a b : Nat} (ha : 1 ≤ a) (hb : 1 ≤ b) (hab : a + b ≤ 6) (hp : W1 p a) (hq : W1 q b) : W1 (addQ p q) (a + b) := by
  have s1 := hp.sure (by omega); have s2 := hq.sure (by omega)
  obtain ⟨x, x'⟩ := p
  obtain ⟨y, y'⟩ := q
  obtain ⟨h1, h2⟩ := hp
  obtain ⟨h3, h4⟩ := hq
  obtain rfl : x' = 1 := h1
  obtain rfl : y' = 1 := h3
  have h2' : x.natAbs ≤ 1023 ^ a := h2
  have h4' : y.natAbs ≤ 1023 ^ b := h4
  have h5 := pow_add_le ha hb
  have h6 := pow6 hab
  unfold sureP at s1 s2
  unfold addQ
  dsimp only at s1 s2 ⊢
  rw [s1, s2, Bool.and_self, if_pos rfl]
  have e : numS x 1 y 1 = x + y := by unfold numS; omega
  rw [e, show (1 : Int).natAbs * (1 : Int).natAbs = 1 from rfl, mkQ_one (by omega)]
  refine ⟨rfl, ?_⟩
  show Int.natAbs (if negB (x + y) = true then -((x + y).natAbs : Int) else ((x + y).natAbs : Int)) ≤ _
  split <;> omega
theorem mulQ_one {p q : Int × Int} {a b : Nat} (hab : a + b ≤ 6) (hp : W1 p a) (hq : W1 q b) : W1 (mulQ p q) (a + b) := by
  have s1 := hp.sure (by omega); have s2 := hq.sure (by omega)
  obtain ⟨x, x'⟩ := p
  obtain ⟨y, y'⟩ := q
  obtain ⟨h1, h2⟩ := hp
  obtain ⟨h3, h4⟩ := hq
  obtain rfl : x' = 1 := h1
  obtain rfl : y' = 1 := h3
  have h5 : x.natAbs * y.natAbs ≤ 1023 ^ (a + b) := by rw [Nat.pow_add]; exact Nat.mul_le_mul h2 h4
  have h6 := pow6 hab
  unfold sureP at s1 s2
  unfold mulQ
  dsimp only at s1 s2 ⊢
  rw [s1, s2, Bool.and_self, if_pos rfl, show (1 : Int).natAbs * (1 : Int).natAbs = 1 from rfl, mkQ_one (by omega)]
  refine ⟨rfl, ?_⟩
  show Int.natAbs (if (negB x != negB y) = true then -((x.natAbs * y.natAbs : Nat) : Int) else ((x.natAbs * y.natAbs : Nat) : Int)) ≤ _
  split <;> omega
theorem W1.mono {p : Int × Int} {a b : Nat} (h : W1 p a) (hab : a ≤ b) : W1 p b := ⟨h.1, Nat.le_trans h.2 (Nat.pow_le_pow_right (by decide) hab)⟩
theorem fold_one {op : Int × Int → Int × Int → Int × Int} (hop : ∀ p q a b, 1 ≤ a → 1 ≤ b → a + b ≤ 6 → W1 p a → W1 q b → W1 (op p q) (a + b)) : ∀ (l : List Ex) (N : Ex → Int × Int) (C : Ex → Nat) (p : Int × Int) (c : Nat), 1 ≤ c → W1 p c →
    (∀ t ∈ l, 1 ≤ C t ∧ W1 (N t) (C t)) → c + (l.map C).sum ≤ 6 → W1 ((l.map N).foldl op p) (c + (l.map C).sum)
  | [], _, _, _, _, _, hp, _, _ => by simpa using hp
  | t :: l, N, C, p, c, hc, hp, hl, hs => by
    simp only [List.map_cons, List.sum_cons, List.foldl_cons] at hs ⊢
    have ht := hl t (by simp)
    have := fold_one hop l N C (op p (N t)) (c + C t) (by omega) (hop p (N t) c (C t) hc ht.1 (by omega) hp ht.2) (fun x hx => hl x (by simp [hx])) (by omega)
    rw [Nat.add_assoc] at this
    exact this
theorem foldQ_one {none : Int × Int} {op : Int × Int → Int × Int → Int × Int} (hov : ∀ p q, sureP p = false ∨ sureP q = false → op p q = (0, 0)) (hop : ∀ p q a b, 1 ≤ a → 1 ≤ b → a + b ≤ 6 → W1 p a → W1 q b → W1 (op p q) (a + b))
    {l : List Ex} {N : Ex → Int × Int} {C : Ex → Nat} (hne : l ≠ []) (hl : ∀ t ∈ l, 1 ≤ C t ∧ W1 (N t) (C t)) (hs : (l.map C).sum ≤ 6) : W1 (foldQ none op (l.map N)) ((l.map C).sum) := by
  cases l with
  | nil => exact absurd rfl hne
  | cons t l =>
    simp only [List.map_cons, List.sum_cons] at hs ⊢
    have ht := hl t (by simp)
    have hm : mayB (N t).1 (N t).2 = true := by
      have := ht.2.sure (by omega)
      unfold mayB; unfold sureP at this; rw [this]; simp
    rw [foldQ_may hov hm]
    exact fold_one hop l N C (N t) (C t) ht.1 ht.2 (fun x hx => hl x (by simp [hx])) hs
theorem bestQ_one {way : Int} {l : List (Int × Int)} {n : Nat} (hn : n ≤ 6) (hne : l ≠ []) (hl : ∀ p ∈ l, W1 p n) : W1 (bestQ way l) n := by
  cases l with
  | nil => exact absurd rfl hne
  | cons p l =>
    have ha : (p :: l).all sureP = true := List.all_eq_true.2 fun q hq => (hl q hq).sure hn
    show W1 (if (p :: l).all sureP then l.foldl (pickQ way) p else (0, 0)) n
    rw [if_pos ha]
    exact hl _ (foldl_pick_mem way l p)
theorem sum_mem_le {C : Ex → Nat} {l : List Ex} {t : Ex} (h : t ∈ l) : C t ≤ (l.map C).sum := sum_ge_mem C l t h

/-- THE LAW -/
theorem few_whole : ∀ (m dp left : Nat) (t : Ex), fewB m dp t = true → mayE m left t = true → kindE m t = 1 → 1 ≤ fewN m t ∧ (fewN m t ≤ 6 → W1 (numE m t) (fewN m t))
  | 0, _, _, _, h, _, _ => by simp [fewB] at h
  | m + 1, dp, left, .mk k n d u kids, h, hm, hk => by
    unfold fewB at h
    split at h
    · cases h
    rename_i h5
    by_cases k1 : k = 1
    · subst k1
      simp only [if_true, Bool.and_eq_true, decide_eq_true_eq] at h
      refine ⟨by simp [fewN], fun _ => ?_⟩
      have e : numE (m + 1) (.mk 1 n d u kids) = (n, d) := by simp [numE]
      rw [e]
      refine ⟨h.1, ?_⟩
      show n.natAbs ≤ 1023 ^ (if (1 : Int) = 1 then 1 else _)
      rw [if_pos rfl]; omega
    · rw [if_neg k1, Bool.and_eq_true] at h
      have hall := List.all_eq_true.1 h.1
      have hmk : kids.all (mayE m (left - 1)) = true ∧ lenOk k kids.length = true := by
        simp only [mayE, if_neg k1] at hm
        split at hm
        · cases hm
        · simp only [Bool.and_eq_true] at hm; exact ⟨hm.2.2.2, hm.2.2.1⟩
      have hkids := List.all_eq_true.1 hmk.1
      have hk1 : ∀ t ∈ kids, kindE m t = 1 := by
        simp only [kindE, if_neg k1] at hk
        split at hk
        · cases hk
        · rename_i h0
          split at hk
          · rename_i hc
            intro t ht
            rcases kindE_range m t with h | h | h
            · exact absurd (List.any_eq_true.2 ⟨kindE m t, List.mem_map_of_mem ht, by simpa using h⟩) h0
            · exact h
            · have := List.countP_eq_zero.1 hc (kindE m t) (List.mem_map_of_mem ht)
              simp [h] at this
          · split at hk <;> cases hk
      have IH := fun t ht => few_whole m (dp + 1) (left - 1) t (hall t ht) (hkids t ht) (hk1 t ht)
      have hN : fewN (m + 1) (.mk k n d u kids) = (kids.map (fewN m)).sum := by simp [fewN, k1]
      have hkk : k = 2 ∨ k = 4 ∨ k = 6 ∨ k = 7 ∨ k = 3 ∨ k = 5 ∨ k = 8 := by
        have hok := hmk.2
        unfold lenOk at hok
        split at hok
        · omega
        · split at hok
          · omega
          · split at hok
            · omega
            · cases hok
      have hne : kids ≠ [] := by
        intro e
        have hok := hmk.2
        rw [e] at hok
        rcases hkk with rfl | rfl | rfl | rfl | rfl | rfl | rfl <;> simp [lenOk] at hok
      rw [hN]
      refine ⟨?_, fun h6 => ?_⟩
      · cases kids with
        | nil => exact absurd rfl hne
        | cons t l => have := (IH t (by simp)).1; rw [List.map_cons, List.sum_cons]; omega
      · have hW : ∀ t ∈ kids, 1 ≤ fewN m t ∧ W1 (numE m t) (fewN m t) := fun t ht => ⟨(IH t ht).1, (IH t ht).2 (Nat.le_trans (sum_mem_le ht) h6)⟩
        have hW2 : ∀ p ∈ kids.map (numE m), W1 p ((kids.map (fewN m)).sum) := fun p hp => by
          obtain ⟨t, ht, rfl⟩ := List.mem_map.1 hp
          exact (hW t ht).2.mono (sum_mem_le ht)
        have hne2 : kids.map (numE m) ≠ [] := fun e => hne (List.map_eq_nil_iff.1 e)
        have hg : ∀ i, i < kids.length → W1 ((kids.map (numE m)).getD i (0, 0)) ((kids.map (fewN m)).sum) := fun i hi => by
          rw [List.getD_eq_getElem?_getD, List.getElem?_eq_getElem (by rw [List.length_map]; exact hi)]
          exact hW2 _ (List.getElem_mem _)
        rcases hkk with rfl | rfl | rfl | rfl | rfl | rfl | rfl
        · have e : numE (m + 1) (.mk 2 n d u kids) = foldQ (0, 1) addQ (kids.map (numE m)) := by simp [numE]
          rw [e]
          exact foldQ_one (fun _ _ => addQ_over) (fun p q a b h1 h2 h3 h4 h5 => addQ_one h1 h2 h3 h4 h5) hne hW h6
        · have e : numE (m + 1) (.mk 4 n d u kids) = foldQ (1, 1) mulQ (kids.map (numE m)) := by simp [numE]
          rw [e]
          exact foldQ_one (fun _ _ => mulQ_over) (fun p q a b _ _ h3 h4 h5 => mulQ_one h3 h4 h5) hne hW h6
        · have e : numE (m + 1) (.mk 6 n d u kids) = bestQ (-1) (kids.map (numE m)) := by simp [numE]
          rw [e]; exact bestQ_one h6 hne2 hW2
        · have e : numE (m + 1) (.mk 7 n d u kids) = bestQ 1 (kids.map (numE m)) := by simp [numE]
          rw [e]; exact bestQ_one h6 hne2 hW2
        · have e : numE (m + 1) (.mk 3 n d u kids) = negQ ((kids.map (numE m)).getD 0 (0, 0)) := by unfold numE; rfl
          rw [e]
          have hp := hg 0 (by cases kids with | nil => exact absurd rfl hne | cons t l => simp)
          have hs := hp.sure h6
          unfold negQ
          rw [if_pos hs]
          exact ⟨hp.1, by show Int.natAbs (-_) ≤ _; rw [Int.natAbs_neg]; exact hp.2⟩
        · exact absurd (.inl rfl) h5
        · have e : numE (m + 1) (.mk 8 n d u kids) = bestQ 1 [(kids.map (numE m)).getD 0 (0, 0), bestQ (-1) [(kids.map (numE m)).getD 1 (0, 0), (kids.map (numE m)).getD 2 (0, 0)]] := by unfold numE; rfl
          rw [e]
          have hl : kids.length = 3 := by simpa [lenOk] using hmk.2
          refine bestQ_one h6 (by simp) fun p hp => ?_
          simp only [List.mem_cons, List.not_mem_nil, or_false] at hp
          rcases hp with rfl | rfl
          · exact hg 0 (by omega)
          · refine bestQ_one h6 (by simp) fun p hp => ?_
            simp only [List.mem_cons, List.not_mem_nil, or_false] at hp
            rcases hp with rfl | rfl
            · exact hg 1 (by omega)
            · exact hg 2 (by omega)
end Go
