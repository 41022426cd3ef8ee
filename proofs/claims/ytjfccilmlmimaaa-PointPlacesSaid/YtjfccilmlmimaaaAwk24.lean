/- WALKS over jalousielaw24: awake. No condition. -/
import Derived.Test.YtjfccilmlmimaaaMk
set_option linter.unusedSimpArgs false
set_option linter.unusedVariables false
namespace Go.Proofs.Ytjfccilmlmimaaa
open Go.RowKit Go.Maps
theorem rise_self {r : List Int} (h : r.Pairwise (· < ·)) : Rise r r := ⟨h, fun _ => Iff.rfl⟩
def wakeB : ByteArray := { data := #[119] }
def wakeLn : Ln := ⟨wakeB, 4, 6, 1, 4⟩
theorem i64_small {n : Int} (h1 : 0 ≤ n) (h2 : n ≤ 100) : I64 n := ⟨by omega, by omega⟩
theorem wake_wf : wakeLn.Wf := ⟨by decide +kernel, i64_small (by decide) (by decide), i64_small (by decide) (by decide), i64_small (by decide) (by decide), i64_small (by decide) (by decide)⟩
theorem wake_ids : idsOf (flipR wakeB 5 1 7 1) [wakeLn] = [4] := by
  have h : flipR wakeB 5 1 7 1 wakeLn = true := by decide +kernel
  show ([wakeLn].filter _).map Ln.i = _
  rw [List.filter_cons_of_pos h]
  rfl
theorem wake_rise {r : List Int} (h : Rise r (idsOf (flipR wakeB 5 1 7 1) [wakeLn])) : r = [4] := by
  rw [wake_ids] at h
  exact h.uniq (rise_self (by simp))

set_option maxRecDepth 100000 in
set_option maxHeartbeats 4000000 in
theorem awake24_any (w : World) : Calls Try.prog 16 #[] w (Gives w (.bool true)) := by
  have c1 : ∀ W, w.grows W → W.row w.heap.size = some (.cells #[.string wakeB, .int .i64 4, .int .i64 6, .int .i64 1, .int .i64 4] 37) → Calls Try.prog 12 #[.slice (some ⟨w.heap.size, 0, none⟩) 1 1] W fun e w' => ∃ ix B, e = .returned (.pointer (some ⟨ix, 0, none⟩)) ∧ w.heap.size ≤ ix ∧ w.grows w' ∧ Hid (Idx w' ix 0 B [wakeLn]) := fun W hg hr =>
    (ixNew_any (.slice (some ⟨w.heap.size, 0, none⟩) 1 1) [wakeLn] W ⟨_, 1, rfl, by simp, by omega, .inr ⟨w.heap.size, 0, rfl, trivial, fun i x hi => by
      cases i with
      | zero => cases hi; exact ⟨_, rfl, by unfold eltAt; rw [hr]; exact ⟨rfl, rfl⟩, rfl, wake_wf⟩
      | succ i => simp at hi⟩⟩ (by simp)).mono fun e w' ⟨ix, B, q1, q2, q3, q4⟩ => ⟨ix, B, q1, Nat.le_trans hg.below.size q2, hg.trans q3, Lib.hid q4⟩
  have c2 : ∀ W ix B, w.grows W → w.heap.size ≤ ix → Idx W ix 0 B [wakeLn] → Calls Try.prog 14 #[.pointer (some ⟨ix, 0, none⟩), .string { data := #[119] }, .agg #[.int .i64 5, .int .i64 1], .agg #[.int .i64 7, .int .i64 1]] W fun e w' => ∃ (v' : Value), e = .returned v' ∧ w.grows w' ∧ IntsAt w' v' [4] := fun W ix B hg hx hI =>
    (ixFlips_any ix B 0 [wakeLn] wakeB 5 1 7 1 W hI (fun x hx => by rw [List.mem_singleton] at hx; subst hx; exact wake_wf) (by decide +kernel) (i64_small (by decide) (by decide)) (i64_small (by decide) (by decide)) (i64_small (by decide) (by decide)) (i64_small (by decide) (by decide)) (by simp) (by omega) (by omega)).mono fun e w' ⟨v', r, m, q1, q2, q3, q4, q5, q6⟩ => ⟨v', q1, q2.gr w hx hg, by rw [wake_rise q5] at q4; exact q4.at⟩
  have C1 := Lib.hid c1; have C2 := Lib.hid c2
  clear c1 c2
  go_enter Try.func16, Try.ntmps16
  go_wp2_with (first
    | (go_at_call 12; (with_reducible refine (C1.out _ (by repeat (with_reducible first | assumption | exact grA | apply grB | apply grC | apply grD | refine grE ?_ (by omega) _ | refine grF ?_ (by omega) _ _)) (by simp [go_sem, wakeB])).mono ?_); rintro e w1 ⟨ix, B, rfl, hix, hg1, HI⟩)
    | (go_at_call 14; go_loud ((with_reducible refine (C2.out _ ix B (by repeat (with_reducible first | assumption | exact grA | apply grB | apply grC | apply grD | refine grE ?_ (by omega) _ | refine grF ?_ (by omega) _ _)) hix (Idx.grows HI.out (by repeat (with_reducible first | assumption | exact grA | apply grB | apply grC | apply grD | refine grE ?_ (by omega) _ | refine grF ?_ (by omega) _ _)))).mono ?_); rintro e w2 ⟨v2, rfl, hg2, hI2⟩; obtain ⟨a2, k2, rfl, k3, k4, k5⟩ := hI2; rcases k5 with k6 | ⟨g, off, rfl, _, k7⟩; (focus (cases k6)); obtain ⟨cs, _, el, rfl⟩ := k7 0 _ rfl; have c0 := el.cell (j := 0) rfl; rw [World.cell?_row, Nat.add_zero] at c0; have zg := lt_sz el.lt; clear k7 el)))
  go_ret
  exact ⟨rfl, (by repeat (with_reducible first | assumption | exact grA | apply grB | apply grC | apply grD | refine grE ?_ (by omega) _ | refine grF ?_ (by omega) _ _))⟩
end Go.Proofs.Ytjfccilmlmimaaa
