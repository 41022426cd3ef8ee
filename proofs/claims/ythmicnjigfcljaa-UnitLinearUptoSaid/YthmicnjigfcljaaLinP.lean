/- PLAIN: the length of a sum of two forms is the sum of their lengths, of a multiple the multiple, or something is over. No condition; no program. -/
import Derived.Test.YthmicnjigfcljaaQR
import Derived.Test.YthmicnjigfcljaaFmR
import Derived.Test.YthmicnjigfcljaaFmC
import Derived.Test.YthmicnjigfcljaaMo
import Derived.Test.YthmicnjigfcljaaMb
set_option linter.unusedSimpArgs false
set_option linter.unusedVariables false
namespace Go
open Go.RowKit

/-- the first units of a form, at these sizes, summed -/
def uR (sz : Int → Int × Int) (us : List (Int × Int)) : Nat → Rat
  | 0 => 0
  | n + 1 => uR sz us n + valQ (uGet us n) * valQ (sz ((n : Int) + 1))
theorem usPx_val {sz : Int → Int × Int} {us : List (Int × Int)} : ∀ n, (∀ p ∈ usPxN sz us n, sureP p = true) → (∀ i, i < n → uGet us i ≠ (0, 1) → sureP (uGet us i) = true) ∧ sumR ((usPxN sz us n).map valQ) = uR sz us n
  | 0, _ => ⟨fun i hi => absurd hi (Nat.not_lt_zero i), rfl⟩
  | n + 1, h => by
    by_cases h0 : uGet us n = (0, 1)
    · rw [usPxN_no h0] at h ⊢
      obtain ⟨h1, h2⟩ := usPx_val n h
      refine ⟨fun i hi hne => ?_, ?_⟩
      · by_cases hin : i = n
        · subst hin; exact absurd h0 hne
        · exact h1 i (by omega) hne
      · rw [h2, uR, h0, valQ_zero, Rat.zero_mul, Rat.add_zero]
    · rw [usPxN_yes h0] at h ⊢
      obtain ⟨h1, h2⟩ := usPx_val (sz := sz) (us := us) n fun p hp => h p (List.mem_append_left _ hp)
      obtain ⟨s1, s2, s3⟩ := foldMul_val (h (foldQ (1, 1) mulQ [uGet us n, sz ((n : Int) + 1)]) (by simp))
      refine ⟨fun i hi hne => ?_, ?_⟩
      · by_cases hin : i = n
        · subst hin; exact s1
        · exact h1 i (by omega) hne
      · rw [List.map_append, sumR_append, h2, uR]
        show _ + (valQ (foldQ (1, 1) mulQ [uGet us n, sz ((n : Int) + 1)]) + 0) = _
        rw [s3, Rat.add_zero]
/-- a form whose length is not over -/
theorem pxF_val {sz : Int → Int × Int} {us : List (Int × Int)} {ps : List (Bool × List Fm)} (h : sureP (pxF sz (.mk us ps)) = true) :
    (∀ i, i < 7 → sureP (uGet us i) = true) ∧ (∀ p ∈ ps, sureP (pxPart sz p) = true) ∧ valQ (pxF sz (.mk us ps)) = uR sz us 7 + sumR (ps.map fun p => valQ (pxPart sz p)) := by
  rw [pxF_eq] at h ⊢
  obtain ⟨h1, h2⟩ := foldAdd_val h
  obtain ⟨h3, h4⟩ := usPx_val (sz := sz) (us := us) 7 fun p hp => h1 p (by rw [usPxN_all] at hp; simp [hp])
  rw [usPxN_all] at h4
  refine ⟨fun i hi => ?_, fun p hp => h1 _ (List.mem_append_right _ (List.mem_map_of_mem hp)), ?_⟩
  · by_cases h0 : uGet us i = (0, 1)
    · rw [h0]; decide
    · exact h3 i hi h0
  · rw [h2, List.map_append, sumR_append, h4, List.map_map]; rfl
theorem uR_add {sz : Int → Int × Int} {a b c : List (Int × Int)} : ∀ n, (∀ i, i < n → valQ (uGet c i) = valQ (uGet a i) + valQ (uGet b i)) → uR sz c n = uR sz a n + uR sz b n
  | 0, _ => (Rat.add_zero _).symm
  | n + 1, h => by
    rw [uR, uR, uR, uR_add n (fun i hi => h i (by omega)), h n (by omega), Rat.add_mul]
    generalize uR sz a n = x
    generalize uR sz b n = y
    rw [Rat.add_assoc, Rat.add_assoc]
    congr 1
    rw [← Rat.add_assoc, ← Rat.add_assoc, Rat.add_comm y]
theorem uR_mul {sz : Int → Int × Int} {a c : List (Int × Int)} {k : Rat} : ∀ n, (∀ i, i < n → valQ (uGet c i) = valQ (uGet a i) * k) → uR sz c n = uR sz a n * k
  | 0, _ => (Rat.zero_mul _).symm
  | n + 1, h => by
    rw [uR, uR, uR_mul n (fun i hi => h i (by omega)), h n (by omega), Rat.add_mul, Rat.mul_assoc, Rat.mul_comm k, ← Rat.mul_assoc]
/-- the sum -/
theorem px_sum {sz : Int → Int × Int} (f g : Fm) (hs : sureP (pxF sz (addF [f, g])) = true) (ht : sureP (foldQ (0, 1) addQ [pxF sz f, pxF sz g]) = true) : pxF sz (addF [f, g]) = foldQ (0, 1) addQ [pxF sz f, pxF sz g] := by
  refine valQ_inj hs ht ?_
  obtain ⟨t1, t2⟩ := foldAdd_val ht
  have t3 := t1 _ (List.mem_cons_self ..)
  have t4 := t1 (pxF sz g) (by simp)
  rw [t2]
  obtain ⟨us, ps⟩ := f
  obtain ⟨us', ps'⟩ := g
  obtain ⟨_, _, a3⟩ := pxF_val t3
  obtain ⟨_, _, b3⟩ := pxF_val t4
  have e : addF [.mk us ps, .mk us' ps'] = .mk (addF [.mk us ps, .mk us' ps']).us (ps ++ ps') := by
    show Fm.mk _ _ = Fm.mk _ _
    congr 1
    simp [Fm.ps]
  rw [e] at hs ⊢
  obtain ⟨c1, _, c3⟩ := pxF_val hs
  rw [c3]
  have hu : ∀ i, i < 7 → valQ (uGet (addF [.mk us ps, .mk us' ps']).us i) = valQ (uGet us i) + valQ (uGet us' i) := fun i hi => by
    have h1 := c1 i hi
    rw [addF_u _ hi] at h1 ⊢
    obtain ⟨_, h2⟩ := foldAdd_val h1
    rw [h2]
    show valQ (uGet us i) + (valQ (uGet us' i) + 0) = _
    rw [Rat.add_zero]
  rw [uR_add 7 hu, List.map_append, sumR_append]
  show _ = valQ (pxF sz (.mk us ps)) + (valQ (pxF sz (.mk us' ps')) + 0)
  rw [Rat.add_zero, a3, b3]
  generalize uR sz us 7 = x
  generalize uR sz us' 7 = y
  generalize sumR (ps.map fun p => valQ (pxPart sz p)) = z
  generalize sumR (ps'.map fun p => valQ (pxPart sz p)) = t
  rw [Rat.add_assoc, Rat.add_assoc]
  congr 1
  rw [← Rat.add_assoc, ← Rat.add_assoc, Rat.add_comm y]

/-! multiples -/
/-- no part stands for less than it could: not one alone; not plain, or of two units -/
def realP (l : List Fm) : Prop := l.length ≠ 1 ∧ (plainB l = false ∨ 2 ≤ (List.range 7).countP (usedI l))
inductive NF : Fm → Prop
  | mk (us : List (Int × Int)) (ps : List (Bool × List Fm)) : us.length = 7 → (∀ p ∈ ps, realP p.2) → (∀ p ∈ ps, ∀ f ∈ p.2, NF f) → NF (.mk us ps)
theorem NF.plain {us : List (Int × Int)} (h : us.length = 7) : NF (.mk us []) := .mk us [] h (fun _ h => (List.not_mem_nil h).elim) (fun _ h => (List.not_mem_nil h).elim)
theorem NF.parts {f : Fm} (h : NF f) : ∀ p ∈ f.ps, realP p.2 ∧ ∀ f ∈ p.2, NF f := by
  cases h with
  | mk us ps h1 h2 h3 => exact fun p hp => ⟨h2 p hp, h3 p hp⟩
theorem NF_add {l : List Fm} (h : ∀ f ∈ l, NF f) : NF (addF l) := by
  have hp : ∀ p ∈ l.flatMap Fm.ps, realP p.2 ∧ ∀ f ∈ p.2, NF f := fun p hp => by
    obtain ⟨f, hf, hp⟩ := List.mem_flatMap.1 hp
    exact (h f hf).parts p hp
  exact .mk _ _ (by simp) (fun p h => (hp p h).1) (fun p h => (hp p h).2)
theorem NF_one (u : Int) (r : Int × Int) : NF (oneF u r) := .plain (oneU_len u r)
theorem NF_zero : NF zeroF := .plain zeroU_len
theorem NF_pick {l : List Fm} (most : Bool) (h : ∀ f ∈ l, NF f) : NF (pickF most l) := by
  by_cases h1 : l.length = 1
  · obtain ⟨f, rfl⟩ := len_one h1
    exact h f (by simp)
  · by_cases h2 : plainB l = false ∨ 2 ≤ (List.range 7).countP (usedI l)
    · rw [pickF_part h1 h2]
      refine .mk _ _ zeroU_len (fun p hp => ?_) (fun p hp => ?_)
      · rw [List.mem_singleton.1 hp]; exact ⟨h1, h2⟩
      · rw [List.mem_singleton.1 hp]; exact h
    · cases hf : (List.range 7).find? (usedI l) with
      | none => rw [pickF_none h1 h2 hf]; exact NF_zero
      | some i => rw [pickF_some h1 h2 hf]; exact NF_one _ _
theorem NF_scale (k : Int × Int) {f : Fm} (h : NF f) : NF (scaleF k f) := by
  induction h with
  | mk us ps h1 _ _ ih =>
    rw [scaleF_eq]
    refine NF_add fun g hg => ?_
    rcases List.mem_cons.1 hg with rfl | hg
    · exact .plain (by simp [h1])
    · obtain ⟨p, hp, rfl⟩ := List.mem_map.1 hg
      refine NF_pick _ fun f hf => ?_
      obtain ⟨g, hg, rfl⟩ := List.mem_map.1 hf
      exact ih p hp g hg
theorem getD_P {α : Type} {P : α → Prop} {l : List α} {d : α} (i : Nat) (h : ∀ x ∈ l, P x) (hd : P d) : P (l.getD i d) := by
  rw [List.getD_eq_getElem?_getD]
  cases hx : l[i]? with
  | none => exact hd
  | some x => exact h x (List.mem_of_getElem? hx)
theorem NF_formE : ∀ (m : Nat) (t : Ex), NF (formE m t)
  | 0, _ => by rw [formE]; exact NF_zero
  | m + 1, .mk k n d u kids => by
    have ih : ∀ f ∈ kids.map (formE m), NF f := fun f hf => by
      obtain ⟨t, _, rfl⟩ := List.mem_map.1 hf
      exact NF_formE m t
    unfold formE
    dsimp only
    split
    · refine NF_scale _ (getD_P _ (fun f hf => ?_) (.plain (by simp)))
      obtain ⟨t, _, rfl⟩ := List.mem_map.1 hf
      exact NF_formE m t
    · split
      · exact NF_add ih
      · split
        · exact NF_scale _ (getD_P _ ih NF_zero)
        · split
          · exact NF_pick _ ih
          · split
            · exact NF_pick _ ih
            · split
              · refine NF_pick _ fun f hf => ?_
                simp only [List.mem_cons, List.not_mem_nil, or_false] at hf
                rcases hf with rfl | rfl
                · exact getD_P _ ih NF_zero
                · exact NF_pick _ fun f hf => ih f (List.mem_of_mem_drop hf)
              · exact NF_one _ _
theorem sure_zero : sureP (0, 1) = true := by decide
theorem foldAdd_zeros : ∀ n, foldQ (0, 1) addQ (List.replicate n (0, 1)) = (0, 1)
  | 0 => rfl
  | n + 1 => by
    have h : ∀ n, goQ addQ (0, 1) (List.replicate n (0, 1)) = (0, 1) := fun n => by
      induction n with
      | zero => rfl
      | succ n ih =>
        rw [List.replicate_succ]
        show (if (sureP (0, 1) && sureP (0, 1)) = true then goQ addQ (addQ (0, 1) (0, 1)) (List.replicate n (0, 1)) else (0, 0)) = (0, 1)
        rw [sure_zero, show addQ (0, 1) (0, 1) = (0, 1) by decide +kernel]
        exact ih
    rw [List.replicate_succ]
    show (if sureP (0, 1) = true then goQ addQ (0, 1) (List.replicate n (0, 1)) else (0, 0)) = (0, 1)
    rw [sure_zero, if_pos rfl, h]
theorem mul_zeroL {k : Int × Int} (h : sureP k = true) : foldQ (1, 1) mulQ [(0, 1), k] = (0, 1) := by
  have hd := (sureB_yes h).1
  show (if sureP (0, 1) = true then (if (sureP (0, 1) && sureP k) = true then mulQ (0, 1) k else (0, 0)) else (0, 0)) = (0, 1)
  rw [sure_zero, h]
  show mulQ (0, 1) k = (0, 1)
  unfold mulQ
  have h0 : sureB (0 : Int) 1 = true := sure_zero
  have h1 : sureB k.1 k.2 = true := h
  simp only [h0, h1, Bool.and_self, if_true]
  rw [show (0 : Int).natAbs * k.1.natAbs = 0 by simp]
  exact mkQ_zero _ (by simp; omega)
theorem mul_zeroR {k : Int × Int} (h : sureP k = true) : foldQ (1, 1) mulQ [k, (0, 1)] = (0, 1) := by
  have hd := (sureB_yes h).1
  show (if sureP k = true then (if (sureP k && sureP (0, 1)) = true then mulQ k (0, 1) else (0, 0)) else (0, 0)) = (0, 1)
  rw [sure_zero, h]
  show mulQ k (0, 1) = (0, 1)
  unfold mulQ
  have h0 : sureB (0 : Int) 1 = true := sure_zero
  have h1 : sureB k.1 k.2 = true := h
  simp only [h0, h1, Bool.and_self, if_true]
  rw [show k.1.natAbs * (0 : Int).natAbs = 0 by simp]
  exact mkQ_zero _ (by simp; omega)
theorem valQ_eq_zero {p : Int × Int} (h : sureP p = true) : valQ p = 0 ↔ p = (0, 1) :=
  ⟨fun e => valQ_inj h sure_zero (e.trans valQ_zero.symm), fun e => by rw [e, valQ_zero]⟩
/-- a multiple's units -/
theorem scale_u (k : Int × Int) {us : List (Int × Int)} {ps : List (Bool × List Fm)} (h7 : us.length = 7) {qs : List (Bool × List Fm)} (hq : ps.map (fun p => pickF (p.1 == decide (0 ≤ k.1)) (p.2.map (scaleF k))) = qs.map fun q => .mk zeroU [q]) {i : Nat} (hi : i < 7) :
    uGet (scaleF k (.mk us ps)).us i = foldQ (0, 1) addQ (foldQ (1, 1) mulQ [uGet us i, k] :: List.replicate qs.length (0, 1)) := by
  rw [scaleF_eq, addF_u _ hi, hq]
  congr 1
  rw [List.map_cons]
  congr 1
  · show uGet (us.map fun r => foldQ (1, 1) mulQ [r, k]) i = _
    rw [uGet_eq (by simp; omega), uGet_eq (by omega), List.getElem_map]
  · rw [List.map_map]
    apply List.ext_getElem (by simp)
    intro j h1 h2
    rw [List.getElem_map, List.getElem_replicate]
    show uGet zeroU i = (0, 1)
    rw [uGet_eq (by rw [zeroU_len]; exact hi)]
    exact List.getElem_replicate _
theorem sum_zeros : ∀ n, sumR ((List.replicate n ((0 : Int), (1 : Int))).map valQ) = 0
  | 0 => rfl
  | n + 1 => by
    rw [List.replicate_succ, List.map_cons]
    show valQ (0, 1) + _ = 0
    rw [sum_zeros n, valQ_zero, Rat.add_zero]
/-- by a number that is not 0: part by part -/
theorem scale_parts {k : Int × Int} (hk : sureP k = true) (hk0 : k ≠ (0, 1)) {f : Fm} (h : NF f) :
    (scaleF k f).ps = f.ps.map (fun p => (p.1 == decide (0 ≤ k.1), p.2.map (scaleF k))) ∧ (∀ i, i < 7 → ((scaleF k f).u i = (0, 1) ↔ f.u i = (0, 1)))
      ∧ (∀ i, i < 7 → sureP ((scaleF k f).u i) = true → valQ ((scaleF k f).u i) = valQ (f.u i) * valQ k) := by
  induction h with
  | mk us ps h1 h2 _ ih =>
    have hq : ps.map (fun p => pickF (p.1 == decide (0 ≤ k.1)) (p.2.map (scaleF k))) = (ps.map fun p => (p.1 == decide (0 ≤ k.1), p.2.map (scaleF k))).map fun q => .mk zeroU [q] := by
      rw [List.map_map]
      refine List.map_congr_left fun p hp => ?_
      obtain ⟨r1, r2⟩ := h2 p hp
      refine pickF_part (by rw [List.length_map]; exact r1) ?_
      have e1 : plainB (p.2.map (scaleF k)) = plainB p.2 := by
        unfold plainB
        rw [List.all_map, Bool.eq_iff_iff, List.all_eq_true, List.all_eq_true]
        have e : ∀ f ∈ p.2, (scaleF k f).ps.length = f.ps.length := fun f hf => by rw [(ih p hp f hf).1, List.length_map]
        exact ⟨fun h f hf => by have := h f hf; simp only [Function.comp] at this; rwa [e f hf] at this, fun h f hf => by simp only [Function.comp]; rw [e f hf]; exact h f hf⟩
      have e2 : (List.range 7).countP (usedI (p.2.map (scaleF k))) = (List.range 7).countP (usedI p.2) := by
        refine List.countP_congr fun i hi => ?_
        have hi7 := List.mem_range.1 hi
        unfold usedI
        rw [List.any_map, List.any_eq_true, List.any_eq_true]
        have e : ∀ f ∈ p.2, (((scaleF k f).u i != (0, 1)) = true ↔ (f.u i != (0, 1)) = true) := fun f hf => by
          rw [bne_iff_ne, bne_iff_ne]; exact not_congr ((ih p hp f hf).2.1 i hi7)
        exact ⟨fun ⟨f, hf, h⟩ => ⟨f, hf, (e f hf).1 h⟩, fun ⟨f, hf, h⟩ => ⟨f, hf, (e f hf).2 h⟩⟩
      rw [e1, e2]; exact r2
    have hval : ∀ i, i < 7 → sureP ((scaleF k (.mk us ps)).u i) = true → valQ ((scaleF k (.mk us ps)).u i) = valQ (uGet us i) * valQ k ∧ sureP (uGet us i) = true := fun i hi hs => by
      have e : (scaleF k (.mk us ps)).u i = _ := scale_u k h1 hq hi
      rw [e] at hs ⊢
      obtain ⟨s1, s2⟩ := foldAdd_val hs
      obtain ⟨m1, _, m3⟩ := foldMul_val (s1 _ (List.mem_cons_self ..))
      rw [s2, List.map_cons]
      show valQ _ + sumR _ = _ ∧ _
      rw [sum_zeros, Rat.add_zero]
      exact ⟨m3, m1⟩
    refine ⟨?_, fun i hi => ⟨fun h0 => ?_, fun h0 => ?_⟩, fun i hi hs => (hval i hi hs).1⟩
    · rw [scaleF_eq, hq]
      show List.flatMap Fm.ps (_ :: _) = _
      rw [List.flatMap_cons, List.flatMap_map]
      show [] ++ (ps.map _).flatMap (fun q => [q]) = _
      rw [List.nil_append, List.flatMap_singleton']
      rfl
    · obtain ⟨v1, v2⟩ := hval i hi (by rw [h0]; exact sure_zero)
      rw [h0, valQ_zero] at v1
      rcases Rat.mul_eq_zero.1 v1.symm with h | h
      · exact (valQ_eq_zero v2).1 h
      · exact absurd ((valQ_eq_zero hk).1 h) hk0
    · have e : (scaleF k (.mk us ps)).u i = _ := scale_u k h1 hq hi
      have h0' : uGet us i = (0, 1) := h0
      rw [e, h0', mul_zeroL hk]
      exact foldAdd_zeros (_ + 1)
theorem cmp_val {p q : Int × Int} (hp : sureP p = true) (hq : sureP q = true) : cmpI p.1 p.2 q.1 q.2 = if valQ p < valQ q then -1 else if valQ q < valQ p then 1 else 0 := by
  obtain ⟨p1, p2⟩ := valQ_parts hp; obtain ⟨q1, q2⟩ := valQ_parts hq
  have d1 := (sureB_yes hp).1; have d2 := (sureB_yes hq).1
  have e1 : ((p.2.natAbs : Nat) : Int) = p.2 := by omega
  have e2 : ((q.2.natAbs : Nat) : Int) = q.2 := by omega
  unfold cmpI
  simp only [Rat.lt_iff, p1, p2, q1, q2, e1, e2]
/-- the least or greatest of multiples -/
theorem best_mul {k : Int × Int} (hk0 : k ≠ (0, 1)) (hk : sureP k = true) (b : Bool) : ∀ (l l' : List (Int × Int)) (p p' : Int × Int), l'.length = l.length → (∀ q ∈ l, sureP q = true) → (∀ q ∈ l', sureP q = true) → (∀ i (h : i < l.length) (h' : i < l'.length), valQ l'[i] = valQ l[i] * valQ k) →
    sureP p = true → sureP p' = true → valQ p' = valQ p * valQ k → valQ (l'.foldl (pickQ (if b == decide (0 ≤ k.1) then 1 else -1)) p') = valQ (l.foldl (pickQ (if b then 1 else -1)) p) * valQ k
  | [], [], p, p', _, _, _, _, _, _, h => h
  | x :: l, y :: l', p, p', hl, h1, h2, h3, hp, hp', h => by
    have hx := h1 x (by simp); have hy := h2 y (by simp)
    have exy : valQ y = valQ x * valQ k := h3 0 (by simp) (by simp)
    have hkn : (valQ k).num = k.1 := (valQ_parts hk).1
    have key : (cmpI y.1 y.2 p'.1 p'.2 = if (b == decide (0 ≤ k.1)) = true then 1 else -1) ↔ (cmpI x.1 x.2 p.1 p.2 = if b = true then 1 else -1) := by
      rw [cmp_val hy hp', cmp_val hx hp, exy, h]
      by_cases hs : 0 ≤ k.1
      · have hpos : 0 < valQ k := by
          have h0 : 0 ≤ valQ k := Rat.num_nonneg.1 (by rw [hkn]; exact hs)
          rcases Rat.le_iff_lt_or_eq.1 h0 with h | h
          · exact h
          · exact absurd ((valQ_eq_zero hk).1 h.symm) hk0
        simp only [Rat.mul_lt_mul_right hpos]
        have : (b == decide (0 ≤ k.1)) = b := by simp [hs]
        rw [this]
      · have hneg : 0 < - valQ k := by
          have h0 : ¬ 0 ≤ valQ k := fun h => hs (by rw [← hkn]; exact Rat.num_nonneg.2 h)
          have := Rat.not_le.1 h0
          have h2 := Rat.neg_lt_neg this
          rwa [Rat.neg_zero] at h2
        have flip : ∀ u v : Rat, u * valQ k < v * valQ k ↔ v < u := fun u v => by
          rw [← Rat.neg_lt_neg_iff, ← Rat.mul_neg, ← Rat.mul_neg, Rat.mul_lt_mul_right hneg]
        simp only [flip]
        have : (b == decide (0 ≤ k.1)) = !b := by cases b <;> simp [hs]
        rw [this]
        have hnot : ¬ (valQ p < valQ x ∧ valQ x < valQ p) := fun h => absurd h.2 (Rat.not_lt.2 (Rat.le_of_lt h.1))
        by_cases c1 : valQ p < valQ x
        · have c2 : ¬ valQ x < valQ p := fun h => hnot ⟨c1, h⟩
          cases b <;> simp [c1, c2]
        · by_cases c2 : valQ x < valQ p
          · cases b <;> simp [c1, c2]
          · cases b <;> simp [c1, c2]
    show valQ (l'.foldl _ (pickQ _ p' y)) = valQ (l.foldl _ (pickQ _ p x)) * valQ k
    have hl' : l'.length = l.length := by simpa using hl
    have r1 : ∀ q ∈ l, sureP q = true := fun q hq => h1 q (by simp [hq])
    have r2 : ∀ q ∈ l', sureP q = true := fun q hq => h2 q (by simp [hq])
    have r3 : ∀ i (h : i < l.length) (h' : i < l'.length), valQ l'[i] = valQ l[i] * valQ k := fun i hi hi' => by
      have := h3 (i + 1) (by simp; omega) (by simp; omega)
      simpa using this
    unfold pickQ
    by_cases hc : cmpI x.1 x.2 p.1 p.2 = if b = true then 1 else -1
    · rw [if_pos (key.2 hc), if_pos hc]
      exact best_mul hk0 hk b l l' x y hl' r1 r2 r3 hx hy exy
    · rw [if_neg (fun h => hc (key.1 h)), if_neg hc]
      exact best_mul hk0 hk b l l' p p' hl' r1 r2 r3 hp hp' h
  | [], _ :: _, _, _, h, _, _, _, _, _, _ => by simp at h
  | _ :: _, [], _, _, h, _, _, _, _, _, _ => by simp at h
theorem best_all {s : Int} {l : List (Int × Int)} (h : sureP (bestQ s l) = true) : ∃ p l1, l = p :: l1 ∧ (∀ q ∈ l, sureP q = true) ∧ bestQ s l = l1.foldl (pickQ s) p := by
  cases l with
  | nil => exact absurd h (by show ¬ sureP (0, 0) = true; decide)
  | cons p l =>
    have e : bestQ s (p :: l) = if (p :: l).all sureP then l.foldl (pickQ s) p else (0, 0) := rfl
    rw [e] at h
    split at h
    · rename_i hc
      exact ⟨p, l, rfl, fun q hq => List.all_eq_true.1 hc q hq, by rw [e, if_pos hc]⟩
    · exact absurd h (by decide)
/-- the length of a multiple -/
theorem px_mul {sz : Int → Int × Int} {k : Int × Int} (hk : sureP k = true) (hk0 : k ≠ (0, 1)) {f : Fm} (h : NF f) : sureP (pxF sz (scaleF k f)) = true → sureP (pxF sz f) = true → valQ (pxF sz (scaleF k f)) = valQ (pxF sz f) * valQ k := by
  induction h with
  | mk us ps h1 h2 h3 ih =>
    intro hu hp
    obtain ⟨q1, q2, q3⟩ := scale_parts hk hk0 (NF.mk us ps h1 h2 h3)
    clear q2
    have q1' : (scaleF k (.mk us ps)).ps = ps.map (fun p => (p.1 == decide (0 ≤ k.1), p.2.map (scaleF k))) := q1
    have e : scaleF k (.mk us ps) = .mk (scaleF k (.mk us ps)).us (ps.map fun p => (p.1 == decide (0 ≤ k.1), p.2.map (scaleF k))) := by
      rw [← q1']
      cases scaleF k (.mk us ps); rfl
    have q3' : ∀ i, i < 7 → sureP (uGet (scaleF k (.mk us ps)).us i) = true → valQ (uGet (scaleF k (.mk us ps)).us i) = valQ (uGet us i) * valQ k := q3
    generalize (scaleF k (.mk us ps)).us = us' at *
    rw [e] at hu ⊢
    obtain ⟨a1, a2, a3⟩ := pxF_val hu
    obtain ⟨_, b2, b3⟩ := pxF_val hp
    rw [a3, b3, uR_mul 7 (fun i hi => q3' i hi (a1 i hi)), Rat.add_mul]
    congr 1
    have hparts : ∀ p ∈ ps, valQ (pxPart sz (p.1 == decide (0 ≤ k.1), p.2.map (scaleF k))) = valQ (pxPart sz p) * valQ k := fun p hp => by
      have s1 := a2 _ (List.mem_map_of_mem hp)
      have s2 := b2 p hp
      unfold pxPart at s1 s2 ⊢
      dsimp only at s1 ⊢
      have ihp := ih p hp
      generalize p.2 = l at *
      cases l with
      | nil => exact absurd s2 (by show ¬ sureP (0, 0) = true; decide)
      | cons g l =>
        obtain ⟨x, l1, e1, hs1, er1⟩ := best_all s1
        obtain ⟨y, l2, e2, hs2, er2⟩ := best_all s2
        rw [er1, er2]
        simp only [List.map_cons, List.map_map] at e1 e2
        rw [List.cons.injEq] at e1 e2
        obtain ⟨rfl, rfl⟩ := e1
        obtain ⟨rfl, rfl⟩ := e2
        have hv : ∀ f ∈ g :: l, valQ (pxF sz (scaleF k f)) = valQ (pxF sz f) * valQ k := fun f hf =>
          ihp f hf (hs1 _ (by rw [List.map_map]; exact List.mem_map_of_mem (f := pxF sz ∘ scaleF k) hf)) (hs2 _ (List.mem_map_of_mem hf))
        refine best_mul hk0 hk p.1 _ _ _ _ (by simp) (fun q hq => hs2 q (by simp [hq])) (fun q hq => hs1 q ?_) (fun i hi hi' => ?_) (hs2 _ (by simp)) (hs1 _ (by simp)) (hv g (by simp))
        · rw [List.map_map]; exact List.mem_cons_of_mem _ hq
        · rw [List.getElem_map, List.getElem_map]
          exact hv _ (List.mem_cons_of_mem _ (List.getElem_mem _))
    clear e hu hp a1 a2 a3 b2 b3 q1 q1' q3 q3' h1 h2 h3 ih
    induction ps with
    | nil => exact (Rat.zero_mul _).symm
    | cons p ps ihs =>
      rw [List.map_cons, List.map_cons, List.map_cons]
      show valQ _ + sumR _ = (valQ _ + sumR _) * valQ k
      rw [Rat.add_mul, hparts p (by simp), ihs fun q hq => hparts q (by simp [hq])]
/-- by 0 -/
theorem scale_zero {sz : Int → Int × Int} {f : Fm} (h : NF f) : sureP (pxF sz f) = true → scaleF (0, 1) f = zeroF := by
  induction h with
  | mk us ps h1 h2 h3 ih =>
    intro hp
    obtain ⟨b1, b2, _⟩ := pxF_val hp
    have hq : ps.map (fun p => pickF (p.1 == decide (0 ≤ ((0, 1) : Int × Int).1)) (p.2.map (scaleF (0, 1)))) = List.replicate ps.length zeroF := by
      apply List.ext_getElem (by simp)
      intro j j1 j2
      rw [List.getElem_map, List.getElem_replicate]
      have hm : ps[j]'(by simpa using j1) ∈ ps := List.getElem_mem _
      generalize ps[j]'(by simpa using j1) = p at hm
      have s2 := b2 p hm
      obtain ⟨r1, _⟩ := h2 p hm
      have ihp := ih p hm
      unfold pxPart at s2
      generalize p.2 = l at *
      obtain ⟨y, l2, e2, hs2, er2⟩ := best_all s2
      have e3 : l.map (scaleF (0, 1)) = List.replicate l.length zeroF := by
        apply List.ext_getElem (by simp)
        intro i i1 i2
        rw [List.getElem_map, List.getElem_replicate]
        exact ihp _ (List.getElem_mem _) (hs2 _ (List.mem_map_of_mem (List.getElem_mem _)))
      rw [e3]
      have hpl : plainB (List.replicate l.length zeroF) = true := by
        unfold plainB; rw [List.all_eq_true]; intro f hf; rw [List.eq_of_mem_replicate hf]; rfl
      have hus : ∀ i, i < 7 → usedI (List.replicate l.length zeroF) i = false := fun i hi => by
        unfold usedI; rw [List.any_eq_false]; intro f hf; rw [List.eq_of_mem_replicate hf]
        have : zeroF.u i = (0, 1) := by
          show uGet zeroU i = _
          rw [uGet_eq (by rw [zeroU_len]; exact hi)]; exact List.getElem_replicate _
        rw [this]; simp
      refine pickF_none (by rw [List.length_replicate]; exact r1) ?_ ?_
      · intro h
        rcases h with h | h
        · rw [hpl] at h; cases h
        · have : (List.range 7).countP (usedI (List.replicate l.length zeroF)) = 0 := by
            rw [List.countP_eq_zero]; intro i hi; rw [hus i (List.mem_range.1 hi)]; simp
          omega
      · rw [List.find?_eq_none]; intro i hi; rw [hus i (List.mem_range.1 hi)]; simp
    rw [scaleF_eq, hq]
    unfold addF zeroF
    congr 1
    · apply List.ext_getElem (by simp [zeroU_len])
      intro i i1 i2
      have hi : i < 7 := by simpa using i1
      rw [List.getElem_map, List.getElem_range, List.map_cons, List.map_replicate]
      have e1 : (plainS (0, 1) us).u i = (0, 1) := by
        show uGet (us.map fun r => foldQ (1, 1) mulQ [r, (0, 1)]) i = _
        rw [uGet_eq (by simp; omega), List.getElem_map, ← uGet_eq (by omega)]
        exact mul_zeroR (b1 i hi)
      have e2 : Fm.u (.mk zeroU []) i = (0, 1) := by
        show uGet zeroU i = _
        rw [uGet_eq (by rw [zeroU_len]; exact hi)]; exact List.getElem_replicate _
      rw [e1, e2]
      exact (foldAdd_zeros (_ + 1)).trans (List.getElem_replicate _).symm
    · rw [List.flatMap_cons]
      show [] ++ _ = []
      rw [List.nil_append, List.flatMap_eq_nil_iff]
      intro f hf; rw [List.eq_of_mem_replicate hf]; rfl
theorem px_zero (sz : Int → Int × Int) : pxF sz zeroF = (0, 1) := by
  unfold zeroF
  rw [pxF_eq]
  have : usPx sz zeroU = [] := by
    unfold usPx
    rw [List.map_eq_nil_iff, List.filter_eq_nil_iff]
    intro i hi
    have e : uGet zeroU i = (0, 1) := by rw [uGet_eq (by rw [zeroU_len]; exact List.mem_range.1 hi)]; exact List.getElem_replicate _
    rw [e]; simp
  rw [this]; rfl
theorem px_times {sz : Int → Int × Int} {k : Int × Int} {f : Fm} (h : NF f) (hu : sureP (pxF sz (scaleF (cleanQ k) f)) = true) (hv : sureP (foldQ (1, 1) mulQ [pxF sz f, k]) = true) : pxF sz (scaleF (cleanQ k) f) = foldQ (1, 1) mulQ [pxF sz f, k] := by
  obtain ⟨s1, s2, s3⟩ := foldMul_val hv
  have hc : cleanQ k = k := cleanQ_may (by unfold mayB; unfold sureP at s2; rw [s2]; simp)
  rw [hc] at hu ⊢
  refine valQ_inj hu hv ?_
  rw [s3]
  by_cases hk0 : k = (0, 1)
  · subst hk0
    rw [scale_zero h s1, px_zero, valQ_zero, Rat.mul_zero]
  · exact px_mul s2 hk0 h hu s1
end Go
