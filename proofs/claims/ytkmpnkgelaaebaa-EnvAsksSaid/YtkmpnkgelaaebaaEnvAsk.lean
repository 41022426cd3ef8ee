/- EnvAsks: what any feature is, and which words it has. No condition but that numbers and texts are of their kinds. -/
import Derived.Test.YtkmpnkgelaaebaaEnvVl
import Derived.Test.YtkmpnkgelaaebaaEnvA
set_option linter.unusedSimpArgs false
set_option linter.unusedVariables false
namespace Go
open Go.RowKit
/-- the texts of a slice stand in memory -/
def SAt (w : World) (a : Option Addr) (l : List ByteArray) : Prop := l = [] ∨ ∃ g, a = some ⟨g, 0, none⟩ ∧ g < w.heap.size ∧ ∀ i, i < l.length → cellR i (w.row g) = some (.string (l.getD i ByteArray.empty))
theorem SAt.grows {w W : World} {a : Option Addr} {l : List ByteArray} (h : SAt w a l) (hg : w.grows W) : SAt W a l := by
  obtain ⟨x, rfl⟩ := hg
  rcases h with h | ⟨g, h1, h2, h3⟩
  · exact .inl h
  · exact .inr ⟨g, h1, by simp; omega, fun i hi => by rw [World.row_plus, if_pos h2]; exact h3 i hi⟩
theorem SRow.uni {w : World} {v : Value} {l : List ByteArray} (h : SRow w v l) : ∃ (a : Option Addr) (cap : Nat), v = .slice a l.length cap ∧ SAt w a l := by
  rcases h with ⟨rfl, rfl⟩ | ⟨g, cap, rfl, hc⟩
  · exact ⟨none, 0, rfl, .inl rfl⟩
  · refine ⟨_, cap, rfl, ?_⟩
    by_cases h0 : l = []
    · exact .inl h0
    · have h1 : 0 < l.length := List.length_pos_iff.2 h0
      refine .inr ⟨g, rfl, ?_, fun i hi => by rw [← World.cell?_row]; exact hc i hi⟩
      exact World.block_lt_of_cell? w ⟨g, 0, none⟩ (hc 0 h1)
end Go
namespace Go.Proofs.Ytkmpnkgelaaebaa
open Go.RowKit

set_option maxRecDepth 100000 in
set_option maxHeartbeats 4000000 in
theorem envAsksLaw_any (e : En) (n : ByteArray) (w : World) (he : e.Wf) : Calls Try.prog 8 #[e.v, .string n] w (Gives w (.bool true)) := by
  have v1 := fun w => envVal_any e n w he
  have v2 := fun w => refVal_any e n w he
  have d1 := fun w => word_any e n w he
  have d2 := fun w => refWord_any e n w he
  have w1 := fun w => words_any n w
  have w2 := fun w => refWords_any n w
  have hl := wordsOf_len n
  unfold maxLen at hl
  generalize e.val n = V at *
  generalize e.word n = D at *
  generalize wordsOf n = l at *
  obtain ⟨⟨V1, V2⟩, VB⟩ := V
  obtain ⟨D1, DB⟩ := D
  obtain ⟨p, w1', w2', h1, h2, f1, f2, c1, c2, s, h, q, m⟩ := e
  have H1 := Lib.hid v1; have H2 := Lib.hid v2; have H3 := Lib.hid d1; have H4 := Lib.hid d2; have H5 := Lib.hid w1; have H6 := Lib.hid w2
  clear v1 v2 d1 d2 w1 w2 he
  go_enter Try.func8, Try.ntmps8
  go_wp2_with (first | (go_at_call 30; (with_reducible refine (H1.out _).mono ?_); rintro e w1 ⟨rfl, x1, rfl⟩) | (go_at_call 31; (with_reducible refine (H2.out _).mono ?_); rintro e w1 ⟨rfl, x1, rfl⟩) | (go_at_call 32; (with_reducible refine (H3.out _).mono ?_); rintro e w1 ⟨rfl, x1, rfl⟩) | (go_at_call 33; (with_reducible refine (H4.out _).mono ?_); rintro e w1 ⟨rfl, x1, rfl⟩) | (go_at_call 34; (with_reducible refine (H5.out _).mono ?_); rintro e w1 ⟨v, rfl, ⟨x1, rfl⟩, hrow⟩; obtain ⟨aA, cA, rfl, hA⟩ := hrow.uni; clear hrow; have HSA := Lib.hid hA; clear hA) | (go_at_call 35; (with_reducible refine (H6.out _).mono ?_); rintro e w1 ⟨v, rfl, ⟨x1, rfl⟩, hrow⟩; obtain ⟨aB, cB, rfl, hB⟩ := hrow.uni; clear hrow; have HSB := Lib.hid hB; clear hB))
  go_loopw [71] (fun i wr => ∃ k : Nat, k ≤ l.length ∧ i = .int .i64 k ∧ w.grows wr ∧ Hid (SAt wr aA l) ∧ Hid (SAt wr aB l)) (fun i _ => l.length - (intOf i).toNat)
  case atStart => exact ⟨0, Nat.zero_le _, rfl, (by repeat (with_reducible first | assumption | exact World.grows.refl | apply World.grows.plus | apply World.grows.alloc | apply World.grows.drew | (refine World.grows.setRow' ?_ (by omega) _) | (refine World.grows.setCell' ?_ (by omega) _ _))), HSA.out.grows (by repeat (with_reducible first | assumption | exact World.grows.refl | apply World.grows.plus | apply World.grows.alloc | apply World.grows.drew | (refine World.grows.setRow' ?_ (by omega) _) | (refine World.grows.setCell' ?_ (by omega) _ _))), HSB.out.grows (by repeat (with_reducible first | assumption | exact World.grows.refl | apply World.grows.plus | apply World.grows.alloc | apply World.grows.drew | (refine World.grows.setRow' ?_ (by omega) _) | (refine World.grows.setCell' ?_ (by omega) _ _)))⟩
  case round =>
    clear HSA HSB
    obtain ⟨k, hk, rfl, hg, hA, hB⟩ := hrel
    by_cases hlt : k < l.length
    · rcases hA.out with h0 | ⟨g1, rfl, hg1, hc1⟩
      · rw [h0] at hlt; cases hlt
      rcases hB.out with h0 | ⟨g2, rfl, hg2, hc2⟩
      · rw [h0] at hlt; cases hlt
      have e1 := hc1 k hlt
      have e2 := hc2 k hlt
      have z1 := lt_sz hg1; have z2 := lt_sz hg2
      clear hc1 hc2 hg1 hg2
      generalize l.getD k ByteArray.empty = S at *
      have HA := Lib.hid hA.out; have HB := Lib.hid hB.out; clear hA hB
      go_wp2_with fail
      refine wp_region_plus_lit (by kernel_rfl) (by kernel_rfl) ?_
      repeat (go_big_quiet_step (fail))
      (refine wpQuiet_nil ?_; intro _ hw'; obtain ⟨xq, hw''⟩ := hw'; subst hw'')
      go_wp2_with fail
      go_roundw
      case rel => exact ⟨k + 1, by omega, by go_num, (by repeat (with_reducible first | assumption | exact World.grows.refl | apply World.grows.plus | apply World.grows.alloc | apply World.grows.drew | (refine World.grows.setRow' ?_ (by omega) _) | (refine World.grows.setCell' ?_ (by omega) _ _))), HA.out.grows (by repeat (with_reducible first | assumption | exact World.grows.refl | apply World.grows.plus | apply World.grows.alloc | apply World.grows.drew | (refine World.grows.setRow' ?_ (by omega) _) | (refine World.grows.setCell' ?_ (by omega) _ _))), HB.out.grows (by repeat (with_reducible first | assumption | exact World.grows.refl | apply World.grows.plus | apply World.grows.alloc | apply World.grows.drew | (refine World.grows.setRow' ?_ (by omega) _) | (refine World.grows.setCell' ?_ (by omega) _ _)))⟩
      case measure => simp [intOf]; omega
    · obtain rfl : k = l.length := by omega
      clear hA hB
      go_wp2_with (first | (go_at_call 26; (with_reducible refine (awake_any _).mono ?_); rintro e w1 ⟨rfl, x1, rfl⟩))
      go_ret
      exact ⟨rfl, (by repeat (with_reducible first | assumption | exact World.grows.refl | apply World.grows.plus | apply World.grows.alloc | apply World.grows.drew | (refine World.grows.setRow' ?_ (by omega) _) | (refine World.grows.setCell' ?_ (by omega) _ _)))⟩

end Go.Proofs.Ytkmpnkgelaaebaa
