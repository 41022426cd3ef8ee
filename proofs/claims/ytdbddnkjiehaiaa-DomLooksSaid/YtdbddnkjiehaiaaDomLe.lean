/- LAW: strings.FieldsFunc's pieces between spaces, tabs and line ends are the reference's. No condition. -/
import Derived.Test.YtdbddnkjiehaiaaDomLd
import Derived.Lib.FieldsP
import Derived.Lib.SpaceUEq
set_option linter.unusedSimpArgs false
set_option linter.unusedVariables false
namespace Go
open Go.RowKit
def spR (r : Nat) : Bool := r == 32 || r == 9 || r == 10
theorem get_getD (s : ByteArray) (i : Nat) : s.get! i = s.data.toList.getD i 0 := by
  obtain ⟨d⟩ := s
  show d[i]! = _
  rw [getElem!_def, List.getD_eq_getElem?_getD, Array.getElem?_toList]
  cases d[i]? <;> rfl
theorem spB_iff (c : UInt8) : spB c = spR c.toNat := by
  unfold spB spR
  have h : ∀ (k : UInt8), (c == k) = (c.toNat == k.toNat) := fun k => by
    rw [Bool.eq_iff_iff, beq_iff_eq, beq_iff_eq]
    exact ⟨fun h => by rw [h], fun h => UInt8.toNat_inj.1 h⟩
  rw [h 32, h 9, h 10]; rfl
theorem spR_hi {n : Nat} (h : 128 ≤ n) : spR n = false := by
  unfold spR
  simp only [Bool.or_eq_false_iff, beq_eq_false_iff_ne]
  omega
/-- a rune is a space only where its byte is; the bytes of another are none -/
theorem dec_sp (s : ByteArray) (i : Nat) : (spR (Utf8.decode s i).1 = true → (Utf8.decode s i).2 = 1 ∧ spB (s.data.toList.getD i 0) = true) ∧ (spR (Utf8.decode s i).1 = false → ∀ j, j < (Utf8.decode s i).2 → spB (s.data.toList.getD (i + j) 0) = false) := by
  simp only [← get_getD, spB_iff]
  rw [Lib.decode_at]
  have hc := Lib.decodeN_conts (s.size - i) (s.get! i).toNat (s.get! (i + 1)).toNat (s.get! (i + 2)).toNat (s.get! (i + 3)).toNat
  have hs := Lib.decodeN_cases (s.size - i) (s.get! i).toNat (s.get! (i + 1)).toNat (s.get! (i + 2)).toNat (s.get! (i + 3)).toNat
  have h1 : 128 ≤ (s.get! i).toNat ∨ (Lib.decodeN (s.size - i) (s.get! i).toNat (s.get! (i + 1)).toNat (s.get! (i + 2)).toNat (s.get! (i + 3)).toNat) = ((s.get! i).toNat, 1) := by
    rcases Nat.lt_or_ge (s.get! i).toNat 128 with h | h
    · exact .inr (Lib.decodeN_ascii _ _ _ _ _ h)
    · exact .inl h
  generalize hD : Lib.decodeN (s.size - i) (s.get! i).toNat (s.get! (i + 1)).toNat (s.get! (i + 2)).toNat (s.get! (i + 3)).toNat = D at *
  obtain ⟨r, k⟩ := D
  simp only at *
  rcases h1 with h1 | h1
  · have hr : 128 ≤ r := by
      rcases hs with h | h | h | h | h
      · omega
      · have := h.2.2.2.2; injection this with a b; omega
      · have := h.2.2.2.2.2; injection this with a b; omega
      · omega
      · injection h with a b; omega
    refine ⟨fun h => (by rw [spR_hi hr] at h; cases h), fun _ j hj => ?_⟩
    match j, hj with
    | 0, _ => exact spR_hi h1
    | 1, hj => exact spR_hi (by have := (hc.1 (by omega)).1; omega)
    | 2, hj => exact spR_hi (by have := (hc.2.1 (by omega)).1; omega)
    | 3, hj => exact spR_hi (by have := (hc.2.2.1 (by omega)).1; omega)
    | j + 4, hj => omega
  · injection h1 with a b
    subst a; subst b
    refine ⟨fun h => ⟨rfl, h⟩, fun h j hj => ?_⟩
    obtain rfl : j = 0 := by omega
    exact h
theorem pcs_run (s : ByteArray) : ∀ (k n i a : Nat) (acc : List ByteArray), i + k ≤ s.size → (∀ j, j < k → spB (s.data.toList.getD (i + j) 0) = false) → pcs s (n + k) i (some a) acc = pcs s n (i + k) (some a) acc
  | 0, _, _, _, _, _, _ => rfl
  | k + 1, n, i, a, acc, h, hj => by
    have h0 := hj 0 (by omega)
    rw [Nat.add_zero] at h0
    show pcs s (n + k + 1) i (some a) acc = _
    conv => lhs; unfold pcs
    rw [if_neg (by rw [h0]; simp; omega)]
    show pcs s (n + k) (i + 1) (some a) acc = _
    rw [pcs_run s k n (i + 1) a acc (by omega) fun j hk => by have := hj (j + 1) (by omega); rwa [show i + (j + 1) = i + 1 + j by omega] at this, show i + 1 + k = i + (k + 1) by omega]
theorem fields_pcs (s : ByteArray) : ∀ (f pos : Nat) (st : Option Nat) (acc : List (Nat × Nat)), pos ≤ s.size → s.size ≤ pos + f → (Lib.closeSpans s (Lib.spansFromP spR s f pos st acc)).map (fun x => s.extract x.1 x.2) = pcs s (s.size + 1 - pos) pos st (acc.map fun x => s.extract x.1 x.2)
  | 0, pos, st, acc, h1, h2 => by
    obtain rfl : pos = s.size := by omega
    rw [show s.size + 1 - s.size = 0 + 1 by omega]
    unfold pcs Lib.spansFromP Lib.closeSpans
    rw [if_pos (.inl rfl)]
    cases st <;> simp [pcs]
  | f + 1, pos, st, acc, h1, h2 => by
    by_cases hp : pos < s.size
    · have hd := dec_sp s pos
      have hw := Lib.width_pos s pos
      have hle : (Utf8.decode s pos).2 ≤ s.size - pos := by rw [Lib.decode_at]; exact Lib.decodeN_le_n' _ _ _ _ _ (by omega)
      unfold Lib.spansFromP
      rw [if_pos hp]
      generalize Utf8.decode s pos = D at *
      obtain ⟨r, k⟩ := D
      simp only at *
      cases hr : spR r with
      | true =>
        obtain ⟨q1, q2⟩ := hd.1 hr
        subst q1
        rw [if_pos rfl, show s.size + 1 - pos = (s.size + 1 - (pos + 1)) + 1 by omega]
        conv => rhs; unfold pcs
        rw [if_pos (.inr q2)]
        cases st with
        | none => exact fields_pcs s f (pos + 1) none acc (by omega) (by omega)
        | some a =>
          have := fields_pcs s f (pos + 1) none (acc ++ [(a, pos)]) (by omega) (by omega)
          simpa using this
      | false =>
        have hb := hd.2 hr
        rw [if_neg (by decide)]
        cases st with
        | some a =>
          have := fields_pcs s f (pos + k) (some a) acc (by omega) (by omega)
          rw [show s.size + 1 - pos = (s.size + 1 - (pos + k)) + k by omega, pcs_run s k _ pos a _ (by omega) hb]
          exact this
        | none =>
          have := fields_pcs s f (pos + k) (some pos) acc (by omega) (by omega)
          have h0 := hb 0 (by omega)
          rw [Nat.add_zero] at h0
          rw [show s.size + 1 - pos = (s.size + 1 - (pos + k)) + (k - 1) + 1 by omega]
          conv => rhs; unfold pcs
          rw [if_neg (by rw [h0]; simp; omega)]
          show _ = pcs s (s.size + 1 - (pos + k) + (k - 1)) (pos + 1) (some pos) _
          rw [pcs_run s (k - 1) _ (pos + 1) pos _ (by omega) fun j hj => by have := hb (j + 1) (by omega); rwa [show pos + (j + 1) = pos + 1 + j by omega] at this, show pos + 1 + (k - 1) = pos + k by omega]
          exact this
    · obtain rfl : pos = s.size := by omega
      rw [Lib.spansFromP_end _ _ _ _ _ _ hp, show s.size + 1 - s.size = 0 + 1 by omega]
      unfold pcs Lib.closeSpans
      rw [if_pos (.inl rfl)]
      cases st <;> simp [pcs]
theorem fields_pieces (s : ByteArray) : Lib.goFieldsP spR s = pieces s := by
  have := fields_pcs s s.size 0 none [] (Nat.zero_le _) (by omega)
  simpa [pieces, Lib.goFieldsP, Lib.spansOfP] using this
end Go
