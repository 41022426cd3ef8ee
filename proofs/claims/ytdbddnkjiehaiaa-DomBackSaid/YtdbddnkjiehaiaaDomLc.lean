/- WALK over jalousieref8: Pieces. No condition. -/
import Derived.Test.YtdbddnkjiehaiaaDomLb
set_option linter.unusedSimpArgs false
set_option linter.unusedVariables false
namespace Go
open Go.RowKit
def spB (c : UInt8) : Bool := c == 32 || c == 9 || c == 10
/-- a text's pieces between spaces, from place i on; f = where the piece at hand begins -/
def pcs (s : ByteArray) : Nat → Nat → Option Nat → List ByteArray → List ByteArray
  | 0, _, _, acc => acc
  | n + 1, i, f, acc =>
    if i = s.size ∨ spB (s.data.toList.getD i 0) = true then
      match f with
      | some a => pcs s n (i + 1) none (acc ++ [s.extract a i])
      | none => pcs s n (i + 1) none acc
    else match f with
      | some a => pcs s n (i + 1) (some a) acc
      | none => pcs s n (i + 1) (some i) acc
def pieces (s : ByteArray) : List ByteArray := pcs s (s.size + 1) 0 none []
def fromI : Option Nat → Int
  | some a => a
  | none => -1
end Go
namespace Go.Proofs.Ytdbddnkjiehaiaa
open Go.Maps Go.RowKit Go.Sort
set_option maxRecDepth 100000 in
set_option maxHeartbeats 8000000 in
theorem refPieces_any (w : World) (s : ByteArray) (hs : s.size ≤ 100000) : Calls Try.prog 54 #[.string s] w fun r w' => ∃ v, r = .returned v ∧ w.grows w' ∧ w'.ownsRow w.heap.size 9 1 v (pieces s).length ((pieces s).map Value.string) := by
  go_enter Try.func54, Try.ntmps54
  go_upto_region 4 with fail
  go_loopg [3, 4, 5] (s.size + 1) (fun gn v3 v4 v5 wj => ∃ (i : Nat) (f : Option Nat) (acc : List ByteArray), Hid (gn + i = s.size + 1 ∧ i ≤ s.size + 1) ∧ Hid (pieces s = pcs s (s.size + 1 - i) i f acc) ∧ v4 = .int .i64 (fromI f) ∧ Hid ((∀ a, f = some a → a ≤ i) ∧ acc.length ≤ i) ∧ v5 = .int .i64 i ∧ w.grows wj ∧ Hid (wj.ownsRow w.heap.size 9 1 v3 acc.length (acc.map Value.string)))
  case atStart => exact ⟨0, none, [], Lib.hid ⟨by simp, Nat.zero_le _⟩, Lib.hid rfl, rfl, Lib.hid ⟨fun a h => (by cases h), Nat.zero_le _⟩, by go_num, World.grows.refl, Lib.hid (World.ownsRow_nil _ _ _ _)⟩
  case round =>
    obtain ⟨i, f, acc, HQ, HP, rfl, HF, rfl, hgj, HV⟩ := hrel
    obtain ⟨j1, j2⟩ := HQ.out
    by_cases hle : i ≤ s.size
    · have hn1 : s.size + 1 - i = (s.size + 1 - (i + 1)) + 1 := by omega
      obtain ⟨F1, F2⟩ := HF.out
      have s03 := hgj.below.size
      have i1 : (i : Int) ≤ (s.size : Int) := by omega
      have hwr : wrap64 ((i : Int) + 1) = (i : Int) + 1 := by unfold wrap64; omega
      have hpo := HP.out
      rw [hn1] at hpo
      unfold pcs at hpo
      clear hn1
      by_cases hsp : i = s.size ∨ spB (s.data.toList.getD i 0) = true
      · rw [if_pos hsp] at hpo
        have HPO := Lib.hid hpo
        clear hpo HP
        have hq : (((i : Int) == (s.size : Int)) = true) ∨ ∃ h : i < s.size, ((i : Int) == (s.size : Int)) = false ∧ (((s[i]'h).toNat = 32) ∨ ((s[i]'h).toNat = 9) ∨ ((s[i]'h).toNat = 10)) := by
          by_cases he : i = s.size
          · exact .inl (by rw [he]; simp)
          · have hl : i < s.size := by omega
            refine .inr ⟨hl, beq_eq_false_iff_ne.2 (by omega), ?_⟩
            rcases hsp with h | h
            · exact absurd h he
            · have hg : s.data.toList.getD i 0 = s[i]'hl := by
                rw [List.getD_eq_getElem?_getD, List.getElem?_eq_getElem (by simpa using hl)]
                rfl
              rw [hg] at h
              unfold spB at h
              simp only [Bool.or_eq_true, beq_iff_eq] at h
              rcases h with (h | h) | h
              · exact .inl (by rw [h]; rfl)
              · exact .inr (.inl (by rw [h]; rfl))
              · exact .inr (.inr (by rw [h]; rfl))
        clear hsp
        rcases hq with hq | ⟨hl, hq, hq2 | hq2 | hq2⟩
        all_goals
          (rcases f with _ | a
           · have HPN := Lib.hid (show pieces s = pcs s (s.size + 1 - (i + 1)) (i + 1) none acc from HPO.out)
             have hfi : fromI none = -1 := rfl
             go_wp2_with fail
             go_roundg (s.size + 1 - (i + 1))
             case measure => omega
             case rel => exact ⟨i + 1, none, acc, Lib.hid ⟨by omega, by omega⟩, HPN, rfl, Lib.hid ⟨fun a h => (by cases h), by omega⟩, by go_num, (by repeat (with_reducible first | assumption | exact grA | apply grB | apply grC | apply grD | refine grE ?_ (by omega) _ | refine grF ?_ (by omega) _ _)), Lib.hid (HV.out.grows (by repeat (with_reducible first | assumption | exact grA | apply grB | apply grC | apply grD | refine grE ?_ (by omega) _ | refine grF ?_ (by omega) _ _)))⟩
           · have hle2 := F1 a rfl
             have hai : (a : Int) ≤ (i : Int) := by omega
             have HPN := Lib.hid (show pieces s = pcs s (s.size + 1 - (i + 1)) (i + 1) none (acc ++ [s.extract a i]) from HPO.out)
             have hfi : fromI (some a) = (a : Int) := rfl
             have hf0 : ¬ ((a : Int) < 0) := by omega
             obtain ⟨a6, c6, rfl⟩ := own_slice HV.out
             have hvo := HV.out
             clear HPO HV HF
             go_wp2_with (at_builtin; refine wpList_app w (w.heap.size) rfl (.tmp 36) (.tmp 41) _ rfl 9 (.string ByteArray.empty) 1 16 Try.underlying54 (by kernel_rfl) rfl (by omega) (by omega) _ acc.length _ rfl (hvo.grows (by repeat (with_reducible first | assumption | exact grA | apply grB | apply grC | apply grD | refine grE ?_ (by omega) _ | refine grF ?_ (by omega) _ _))) _ 1 _ [.string (s.extract a i)] rfl rfl (cells_of_row (e := 9) (fr := (0, 0)) (by simp [go_sem])) (by simp [Value.oneCell']) (by omega) (by repeat (with_reducible first | assumption | exact grA | apply grB | apply grC | apply grD | refine grE ?_ (by omega) _ | refine grF ?_ (by omega) _ _)) (by omega) (by simp <;> omega) ?_; intro v' w' hg' HO' HR' HG' HA')
             have HN := Lib.hid HO'.out
             rw [show acc.map Value.string ++ [.string (s.extract a i)] = (acc ++ [s.extract a i]).map Value.string by simp, show acc.length + 1 = (acc ++ [s.extract a i]).length by simp] at HN
             clear HO' HR' HG' HA'
             go_roundg (s.size + 1 - (i + 1))
             case measure => omega
             case rel => exact ⟨i + 1, none, acc ++ [s.extract a i], Lib.hid ⟨by omega, by omega⟩, HPN, rfl, Lib.hid ⟨fun a h => (by cases h), by simp; omega⟩, by go_num, hg', HN⟩)
      · rw [if_neg hsp] at hpo
        have HPO := Lib.hid hpo
        clear hpo HP
        have hl : i < s.size := by
          rcases Nat.lt_or_ge i s.size with h | h
          · exact h
          · exact absurd (.inl (by omega)) hsp
        have hq : ((i : Int) == (s.size : Int)) = false := beq_eq_false_iff_ne.2 (by omega)
        have hnn : ¬ (s[i]'hl).toNat = 32 ∧ ¬ (s[i]'hl).toNat = 9 ∧ ¬ (s[i]'hl).toNat = 10 := by
          have hg : s.data.toList.getD i 0 = s[i]'hl := by
            rw [List.getD_eq_getElem?_getD, List.getElem?_eq_getElem (by simpa using hl)]
            rfl
          have h2 : ¬ spB (s[i]'hl) = true := fun h => hsp (.inr (by rw [hg]; exact h))
          unfold spB at h2
          simp only [Bool.or_eq_true, beq_iff_eq, not_or] at h2
          exact ⟨fun h => h2.1.1 (UInt8.toNat_inj.1 h), fun h => h2.1.2 (UInt8.toNat_inj.1 h), fun h => h2.2 (UInt8.toNat_inj.1 h)⟩
        obtain ⟨q1, q2, q3⟩ := hnn
        have r1 : (((s[i]'hl).toNat : Int) == 32) = false := beq_eq_false_iff_ne.2 (by omega)
        have r2 : (((s[i]'hl).toNat : Int) == 9) = false := beq_eq_false_iff_ne.2 (by omega)
        have r3 : (((s[i]'hl).toNat : Int) == 10) = false := beq_eq_false_iff_ne.2 (by omega)
        clear hsp
        rcases f with _ | a
        · have HPN := Lib.hid (show pieces s = pcs s (s.size + 1 - (i + 1)) (i + 1) (some i) acc from HPO.out)
          have hfi : fromI none = -1 := rfl
          go_wp2_with fail
          go_roundg (s.size + 1 - (i + 1))
          case measure => omega
          case rel => exact ⟨i + 1, some i, acc, Lib.hid ⟨by omega, by omega⟩, HPN, rfl, Lib.hid ⟨fun a h => (by injection h with h; omega), by omega⟩, by go_num, (by repeat (with_reducible first | assumption | exact grA | apply grB | apply grC | apply grD | refine grE ?_ (by omega) _ | refine grF ?_ (by omega) _ _)), Lib.hid (HV.out.grows (by repeat (with_reducible first | assumption | exact grA | apply grB | apply grC | apply grD | refine grE ?_ (by omega) _ | refine grF ?_ (by omega) _ _)))⟩
        · have hle2 := F1 a rfl
          have HPN := Lib.hid (show pieces s = pcs s (s.size + 1 - (i + 1)) (i + 1) (some a) acc from HPO.out)
          have hfi : fromI (some a) = (a : Int) := rfl
          have hf0 : ¬ ((a : Int) < 0) := by omega
          go_wp2_with fail
          go_roundg (s.size + 1 - (i + 1))
          case measure => omega
          case rel => exact ⟨i + 1, some a, acc, Lib.hid ⟨by omega, by omega⟩, HPN, rfl, Lib.hid ⟨fun b h => (by injection h with h; omega), by omega⟩, by go_num, (by repeat (with_reducible first | assumption | exact grA | apply grB | apply grC | apply grD | refine grE ?_ (by omega) _ | refine grF ?_ (by omega) _ _)), Lib.hid (HV.out.grows (by repeat (with_reducible first | assumption | exact grA | apply grB | apply grC | apply grD | refine grE ?_ (by omega) _ | refine grF ?_ (by omega) _ _)))⟩
    · have i1 : ¬ ((i : Int) ≤ (s.size : Int)) := by omega
      have hn0 : s.size + 1 - i = 0 := by omega
      have hpo := HP.out
      rw [hn0] at hpo
      unfold pcs at hpo
      have HPO := Lib.hid hpo
      clear hpo hn0
      go_wp2_with fail
      go_ret
      rw [HPO.out]
      exact ⟨_, rfl, hgj, HV.out⟩
end Go.Proofs.Ytdbddnkjiehaiaa
