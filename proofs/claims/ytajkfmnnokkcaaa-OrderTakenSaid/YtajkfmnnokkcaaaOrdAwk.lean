/- WALKS over the statements' own package: an order that every program must know; rows of numbers. No condition. -/
import Derived.Test.YtajkfmnnokkcaaaWin
set_option linter.unusedSimpArgs false
set_option linter.unusedVariables false
namespace Go
open Go.RowKit
/-- a slice that reads as these whole numbers -/
abbrev IntsAt (w : World) (v : Value) (W : List Int) : Prop := SlAt w (fun _ => True) 1 (fun (x : Int) cs => cs = [Value.int .i64 x]) v W
theorem IntsAt_own {w : World} {B : Nat} {t : TypeId} {v : Value} {W : List Int} (h : w.ownsRow B t 1 v W.length (W.map (Value.int .i64))) : IntsAt w v W := by
  have ho : OwnAt w B t 1 (fun (x : Int) cs => cs = [Value.int .i64 x]) v W := by
    refine ⟨W.map fun x => [Value.int .i64 x], by simp, fun i s cs h1 h2 => ?_, ?_⟩
    · rw [List.getElem?_map, h1] at h2; cases h2; exact ⟨rfl, rfl⟩
    · have e : (W.map fun x => [Value.int .i64 x]).flatten = W.map (Value.int .i64) := by
        clear h
        induction W with
        | nil => rfl
        | cons a r ih => simp [ih]
      rw [e]; exact h
  exact ho.slAt (by omega) fun _ _ => trivial
theorem IntsAt.grow {w W : World} {v : Value} {l : List Int} (h : IntsAt w v l) (hg : w.grows W) : IntsAt W v l := h.grows hg fun _ _ _ h => h
theorem SlAt.cl {w W : World} {S : Nat → Prop} {v : Value} {l : List Cl} (h : SlAt w S 8 ClR v l) (hg : w.grows W) : SlAt W S 8 ClR v l := h.grows hg fun _ _ _ h => h
def awk0 : Cl := ⟨⟨#[97]⟩, 0, false, 0, 1, 0, 0, 0⟩
def awk1 : Cl := ⟨⟨#[97]⟩, 0, false, 0, 0, 0, 5, 0⟩
theorem awk_wins : Wins [awk0, awk1] [0] := by
  refine ⟨fun v hv => ⟨0, by simpa using hv, by simp, fun m hm _ hne => ?_⟩, by simp, fun k hk => ⟨0, by simp, ?_⟩⟩
  · obtain rfl : m = 1 := by simp at hm; omega
    exact .inl (by
      show Cl.lo awk1 awk0
      unfold Cl.lo Cl.level Cl.may Cl.lev awk0 awk1
      simp)
  · have hk : k < 2 := by simpa using hk
    rcases (by omega : k = 0 ∨ k = 1) with rfl | rfl <;> rfl
theorem awk_may : [awk0, awk1].all Cl.may = true := by
  unfold Cl.may awk0 awk1; simp
theorem awk_at {W : World} {g : Nat} {t : TypeId} (h : W.row g = some (.cells (awk0.cs ++ awk1.cs).toArray t)) : SlAt W (fun _ => True) 8 ClR (.slice (some ⟨g, 0, none⟩) 2 2) [awk0, awk1] := by
  refine ⟨some ⟨g, 0, none⟩, 2, rfl, by decide, by omega, .inr ⟨g, 0, rfl, trivial, fun i x hx => ?_⟩⟩
  have hw : awk0.Wf ∧ awk1.Wf := by unfold Cl.Wf awk0 awk1 I64; simp [ByteArray.size, maxLen]
  have hil := (List.getElem?_eq_some_iff.1 hx).1
  have h3 : i < 2 := by simpa using hil
  rcases (by omega : i = 0 ∨ i = 1) with rfl | rfl
  · cases hx
    exact ⟨awk0.cs, rfl, ⟨by rw [h]; rfl, by rw [h]; rfl⟩, rfl, hw.1⟩
  · cases hx
    exact ⟨awk1.cs, rfl, ⟨by rw [h]; rfl, by rw [h]; rfl⟩, rfl, hw.2⟩
end Go
namespace Go.Proofs.Ytajkfmnnokkcaaa
open Go.RowKit

set_option maxRecDepth 100000 in
set_option maxHeartbeats 4000000 in
theorem awake20_any (w : World) : Calls Try.prog 11 #[] w (Gives w (.bool true)) := by
  have c1 : ∀ W g, W.row g = some (.cells #[.string ⟨#[97]⟩, .int .i64 0, .bool false, .int .i64 0, .int .i64 1, .int .i64 0, .int .i64 0, .int .i64 0, .string ⟨#[97]⟩, .int .i64 0, .bool false, .int .i64 0, .int .i64 0, .int .i64 0, .int .i64 5, .int .i64 0] 34) →
      Calls Try.prog 14 #[.slice (some ⟨g, 0, none⟩) 2 2] W fun e w' => ∃ k c, e = .returned (.tuple #[.slice (some ⟨k, 0, none⟩) 1 c, .int .i64 0]) ∧ W.grows w' ∧ 1 ≤ c ∧ cellR 0 (w'.row k) = some (.int .i64 0) := fun W g h => by
    refine (ordWinners_any _ [awk0, awk1] W (awk_at h) (by decide)).mono ?_
    rintro e w' ⟨hg, ⟨hh, _⟩ | ⟨_, v, V, rfl, hV, ho⟩⟩
    · rw [awk_may] at hh; cases hh
    · obtain rfl := hV.uniq awk_wins
      obtain ⟨_, ⟨_, h0⟩ | ⟨k, c, cur, rfl, _, hh, h1, _, hsz, ht⟩⟩ := ho
      · cases h0
      · refine ⟨k, c, rfl, hg, h1, ?_⟩
        have hr : w'.row k = some (.cells cur 3 (0, 0)) := hh
        rw [hr]
        show cur[0]? = _
        have := congrArg (fun x => x[0]?) ht
        simpa using this
  have C1 := Lib.hid c1
  clear c1
  go_enter Try.func11, Try.ntmps11
  go_wp2_with (first | (go_at_call 14; (with_reducible refine (C1.out _ _ (by simp [go_sem])).mono ?_); rintro e w1 ⟨k, c, rfl, hg1, hc1, hx1⟩; have hgw : w.grows w1 := World.grows.trans (by repeat (with_reducible first | assumption | exact grA | apply grB | apply grC | apply grD | refine grE ?_ (by omega) _ | refine grF ?_ (by omega) _ _)) hg1))
  go_ret
  exact ⟨rfl, (by repeat (with_reducible first | assumption | exact grA | apply grB | apply grC | apply grD | refine grE ?_ (by omega) _ | refine grF ?_ (by omega) _ _))⟩
end Go.Proofs.Ytajkfmnnokkcaaa
