/- WALKS over env and jalousieref16: which environments may be. No condition but that numbers and texts are of their kinds. -/
import Derived.Test.YtkmpnkgelaaebaaDoorEnvW
import Derived.Test.YtkmpnkgelaaebaaDoorRat2
import Derived.Test.YtkmpnkgelaaebaaDoorTail
set_option linter.unusedSimpArgs false
set_option linter.unusedVariables false
namespace Go.Proofs.YtkmpnkgelaaebaaDoor
open Go.RowKit

set_option maxHeartbeats 400000 in
theorem envSize_any (n d : Int) (w : World) (h1 : -9223372036854775808 ≤ n) (h2 : n ≤ 9223372036854775807) (h3 : -9223372036854775808 ≤ d) (h4 : d ≤ 9223372036854775807) :
    Calls Tryd.prog 16 #[.agg #[.int .i64 n, .int .i64 d]] w (Gives w (.bool (sizeB n d))) := by
  go_enter Tryd.func16, Tryd.ntmps16
  go_wp2_with (first | (go_at_call 30; (with_reducible refine (may_any _ _ _ h1 h2 h3 h4).mono ?_); rintro e w1 ⟨rfl, x1, rfl⟩))
  all_goals (go_ret; refine ⟨ret_bool ?_, (by repeat (first | exact World.grows.refl | apply World.grows.plus | apply World.grows.alloc | apply World.grows.drew))⟩; first | (simp [sizeB, *]; done) | (simp [sizeB, *]; omega))

set_option maxHeartbeats 400000 in
theorem envWhole_any (n d : Int) (w : World) (h1 : -9223372036854775808 ≤ n) (h2 : n ≤ 9223372036854775807) (h3 : -9223372036854775808 ≤ d) (h4 : d ≤ 9223372036854775807) :
    Calls Tryd.prog 17 #[.agg #[.int .i64 n, .int .i64 d]] w (Gives w (.bool (sizeB n d && (d == 1)))) := by
  go_enter Tryd.func17, Tryd.ntmps17
  go_wp2_with (first | (go_at_call 16; (with_reducible refine (envSize_any _ _ _ h1 h2 h3 h4).mono ?_); rintro e w1 ⟨rfl, x1, rfl⟩))
  all_goals (go_ret; refine ⟨ret_bool ?_, (by repeat (first | exact World.grows.refl | apply World.grows.plus | apply World.grows.alloc | apply World.grows.drew))⟩; simp [*])

/-- where the word of a feature stands -/
def fieldOf (s : ByteArray) : Option Nat :=
  if s.toList = [104, 111, 118, 101, 114] then some 10 else
  if s.toList = [112, 111, 105, 110, 116, 101, 114] then some 11 else
  if s.toList = [112, 114, 101, 102, 101, 114, 115, 45, 99, 111, 108, 111, 114, 45, 115, 99, 104, 101, 109, 101] then some 9 else
  if s.toList = [112, 114, 101, 102, 101, 114, 115, 45, 114, 101, 100, 117, 99, 101, 100, 45, 109, 111, 116, 105, 111, 110] then some 12 else
  none

set_option maxRecDepth 100000 in
set_option maxHeartbeats 1000000 in
theorem field_any (g : Nat) (s : ByteArray) (w : World) : Calls Tryd.prog 20 #[.pointer (some ⟨g, 0, none⟩), .string s] w fun e w' => e = .returned (.pointer ((fieldOf s).map fun k => ⟨g, k, none⟩)) ∧ w = w' := by
  by_cases h0 : s.toList = [104, 111, 118, 101, 114]
  · have hb0 : (s.toList == [104, 111, 118, 101, 114]) = true := by simpa using h0
    have e : fieldOf s = some 10 := by unfold fieldOf; rw [if_pos h0]
    rw [e]; clear e; clear h0
    go_enter Tryd.func20, Tryd.ntmps20
    go_wp2
    go_ret
    exact ⟨rfl, rfl⟩
  · have hb0 : (s.toList == [104, 111, 118, 101, 114]) = false := by simpa using h0
    by_cases h1 : s.toList = [112, 111, 105, 110, 116, 101, 114]
    · have hb1 : (s.toList == [112, 111, 105, 110, 116, 101, 114]) = true := by simpa using h1
      have e : fieldOf s = some 11 := by unfold fieldOf; rw [if_neg h0, if_pos h1]
      rw [e]; clear e; clear h0 h1
      go_enter Tryd.func20, Tryd.ntmps20
      go_wp2
      go_ret
      exact ⟨rfl, rfl⟩
    · have hb1 : (s.toList == [112, 111, 105, 110, 116, 101, 114]) = false := by simpa using h1
      by_cases h2 : s.toList = [112, 114, 101, 102, 101, 114, 115, 45, 99, 111, 108, 111, 114, 45, 115, 99, 104, 101, 109, 101]
      · have hb2 : (s.toList == [112, 114, 101, 102, 101, 114, 115, 45, 99, 111, 108, 111, 114, 45, 115, 99, 104, 101, 109, 101]) = true := by simpa using h2
        have e : fieldOf s = some 9 := by unfold fieldOf; rw [if_neg h0, if_neg h1, if_pos h2]
        rw [e]; clear e; clear h0 h1 h2
        go_enter Tryd.func20, Tryd.ntmps20
        go_wp2
        go_ret
        exact ⟨rfl, rfl⟩
      · have hb2 : (s.toList == [112, 114, 101, 102, 101, 114, 115, 45, 99, 111, 108, 111, 114, 45, 115, 99, 104, 101, 109, 101]) = false := by simpa using h2
        by_cases h3 : s.toList = [112, 114, 101, 102, 101, 114, 115, 45, 114, 101, 100, 117, 99, 101, 100, 45, 109, 111, 116, 105, 111, 110]
        · have hb3 : (s.toList == [112, 114, 101, 102, 101, 114, 115, 45, 114, 101, 100, 117, 99, 101, 100, 45, 109, 111, 116, 105, 111, 110]) = true := by simpa using h3
          have e : fieldOf s = some 12 := by unfold fieldOf; rw [if_neg h0, if_neg h1, if_neg h2, if_pos h3]
          rw [e]; clear e; clear h0 h1 h2 h3
          go_enter Tryd.func20, Tryd.ntmps20
          go_wp2
          go_ret
          exact ⟨rfl, rfl⟩
        · have hb3 : (s.toList == [112, 114, 101, 102, 101, 114, 115, 45, 114, 101, 100, 117, 99, 101, 100, 45, 109, 111, 116, 105, 111, 110]) = false := by simpa using h3
          have e : fieldOf s = none := by unfold fieldOf; rw [if_neg h0, if_neg h1, if_neg h2, if_neg h3]
          rw [e]; clear e h0 h1 h2 h3
          go_enter Tryd.func20, Tryd.ntmps20
          go_wp2
          go_ret
          exact ⟨rfl, rfl⟩

set_option maxRecDepth 100000 in
set_option maxHeartbeats 4000000 in
theorem envMay_any (e : En) (w : World) (he : e.Wf) : Calls Tryd.prog 7 #[e.v] w (Gives w (.bool e.may)) := by
  obtain ⟨p, w1, w2, h1, h2, f1, f2, c1, c2, s, h, q, m⟩ := e
  obtain ⟨⟨a1, a2⟩, ⟨a3, a4⟩, ⟨a5, a6⟩, ⟨a7, a8⟩, ⟨b1, b2⟩, ⟨b3, b4⟩, ⟨b5, b6⟩, b7, b8⟩ := he
  show Calls Tryd.prog 7 #[.agg #[.bool p, .int .i64 w1, .int .i64 w2, .int .i64 h1, .int .i64 h2, .int .i64 f1, .int .i64 f2, .int .i64 c1, .int .i64 c2, .string s, .string h, .string q, .string m]] w (Gives w (.bool (sizeB w1 w2 && (sizeB h1 h2 && (sizeB f1 f2 && (sizeB c1 c2 && ((c2 == 1) && (hasW (wordsOf nHover) h && (hasW (wordsOf nPointer) q && (hasW (wordsOf nScheme) s && hasW (wordsOf nMotion) m))))))))))
  have g1 := fun w => envSize_any w1 w2 w a1 a2 a3 a4
  have g2 := fun w => envSize_any h1 h2 w a5 a6 a7 a8
  have g3 := fun w => envSize_any f1 f2 w b1 b2 b3 b4
  have g4 := fun w => envWhole_any c1 c2 w b5 b6 b7 b8
  rw [← Bool.and_assoc (sizeB c1 c2)]
  generalize sizeB w1 w2 = t1 at *
  generalize sizeB h1 h2 = t2 at *
  generalize sizeB f1 f2 = t3 at *
  generalize (sizeB c1 c2 && (c2 == 1)) = t4 at *
  have G1 := Lib.hid g1; have G2 := Lib.hid g2; have G3 := Lib.hid g3; have G4 := Lib.hid g4
  clear g1 g2 g3 g4 a1 a2 a3 a4 a5 a6 a7 a8 b1 b2 b3 b4 b5 b6 b7 b8
  have i0 : ∀ w, (Instr.index 49 (.agg #[.string ⟨#[104, 111, 118, 101, 114]⟩, .string ⟨#[112, 111, 105, 110, 116, 101, 114]⟩, .string ⟨#[112, 114, 101, 102, 101, 114, 115, 45, 99, 111, 108, 111, 114, 45, 115, 99, 104, 101, 109, 101]⟩, .string ⟨#[112, 114, 101, 102, 101, 114, 115, 45, 114, 101, 100, 117, 99, 101, 100, 45, 109, 111, 116, 105, 111, 110]⟩]) (.int .i64 0)).run Tryd.prog w = .ok (.string ⟨#[104, 111, 118, 101, 114]⟩) w := fun _ => by kernel_rfl
  have i1 : ∀ w, (Instr.index 49 (.agg #[.string ⟨#[104, 111, 118, 101, 114]⟩, .string ⟨#[112, 111, 105, 110, 116, 101, 114]⟩, .string ⟨#[112, 114, 101, 102, 101, 114, 115, 45, 99, 111, 108, 111, 114, 45, 115, 99, 104, 101, 109, 101]⟩, .string ⟨#[112, 114, 101, 102, 101, 114, 115, 45, 114, 101, 100, 117, 99, 101, 100, 45, 109, 111, 116, 105, 111, 110]⟩]) (.int .i64 1)).run Tryd.prog w = .ok (.string ⟨#[112, 111, 105, 110, 116, 101, 114]⟩) w := fun _ => by kernel_rfl
  have i2 : ∀ w, (Instr.index 49 (.agg #[.string ⟨#[104, 111, 118, 101, 114]⟩, .string ⟨#[112, 111, 105, 110, 116, 101, 114]⟩, .string ⟨#[112, 114, 101, 102, 101, 114, 115, 45, 99, 111, 108, 111, 114, 45, 115, 99, 104, 101, 109, 101]⟩, .string ⟨#[112, 114, 101, 102, 101, 114, 115, 45, 114, 101, 100, 117, 99, 101, 100, 45, 109, 111, 116, 105, 111, 110]⟩]) (.int .i64 2)).run Tryd.prog w = .ok (.string ⟨#[112, 114, 101, 102, 101, 114, 115, 45, 99, 111, 108, 111, 114, 45, 115, 99, 104, 101, 109, 101]⟩) w := fun _ => by kernel_rfl
  have i3 : ∀ w, (Instr.index 49 (.agg #[.string ⟨#[104, 111, 118, 101, 114]⟩, .string ⟨#[112, 111, 105, 110, 116, 101, 114]⟩, .string ⟨#[112, 114, 101, 102, 101, 114, 115, 45, 99, 111, 108, 111, 114, 45, 115, 99, 104, 101, 109, 101]⟩, .string ⟨#[112, 114, 101, 102, 101, 114, 115, 45, 114, 101, 100, 117, 99, 101, 100, 45, 109, 111, 116, 105, 111, 110]⟩]) (.int .i64 3)).run Tryd.prog w = .ok (.string ⟨#[112, 114, 101, 102, 101, 114, 115, 45, 114, 101, 100, 117, 99, 101, 100, 45, 109, 111, 116, 105, 111, 110]⟩) w := fun _ => by kernel_rfl
  cases t1
  · go_enter Tryd.func7, Tryd.ntmps7
    go_wp2_with (first | (go_at_call 16; (with_reducible refine (G1.out _).mono ?_); rintro e w1 ⟨rfl, x1, rfl⟩))
    go_ret
    exact ⟨rfl, (by repeat (first | exact World.grows.refl | apply World.grows.plus | apply World.grows.alloc | apply World.grows.drew))⟩
  cases t2
  · go_enter Tryd.func7, Tryd.ntmps7
    go_wp2_with (first | (go_at_call 16; (with_reducible refine (G1.out _).mono ?_); rintro e w1 ⟨rfl, x1, rfl⟩) | (go_at_call 16; (with_reducible refine (G2.out _).mono ?_); rintro e w1 ⟨rfl, x1, rfl⟩))
    go_ret
    exact ⟨rfl, (by repeat (first | exact World.grows.refl | apply World.grows.plus | apply World.grows.alloc | apply World.grows.drew))⟩
  cases t3
  · go_enter Tryd.func7, Tryd.ntmps7
    go_wp2_with (first | (go_at_call 16; (with_reducible refine (G1.out _).mono ?_); rintro e w1 ⟨rfl, x1, rfl⟩) | (go_at_call 16; (with_reducible refine (G2.out _).mono ?_); rintro e w1 ⟨rfl, x1, rfl⟩) | (go_at_call 16; (with_reducible refine (G3.out _).mono ?_); rintro e w1 ⟨rfl, x1, rfl⟩))
    go_ret
    exact ⟨rfl, (by repeat (first | exact World.grows.refl | apply World.grows.plus | apply World.grows.alloc | apply World.grows.drew))⟩
  cases t4
  · go_enter Tryd.func7, Tryd.ntmps7
    go_wp2_with (first | (go_at_call 16; (with_reducible refine (G1.out _).mono ?_); rintro e w1 ⟨rfl, x1, rfl⟩) | (go_at_call 16; (with_reducible refine (G2.out _).mono ?_); rintro e w1 ⟨rfl, x1, rfl⟩) | (go_at_call 16; (with_reducible refine (G3.out _).mono ?_); rintro e w1 ⟨rfl, x1, rfl⟩) | (go_at_call 17; (with_reducible refine (G4.out _).mono ?_); rintro e w1 ⟨rfl, x1, rfl⟩))
    go_ret
    exact ⟨rfl, (by repeat (first | exact World.grows.refl | apply World.grows.plus | apply World.grows.alloc | apply World.grows.drew))⟩
  have o0 : fieldOf ⟨#[104, 111, 118, 101, 114]⟩ = some 10 := by decide +kernel
  have o1 : fieldOf ⟨#[112, 111, 105, 110, 116, 101, 114]⟩ = some 11 := by decide +kernel
  have o2 : fieldOf ⟨#[112, 114, 101, 102, 101, 114, 115, 45, 99, 111, 108, 111, 114, 45, 115, 99, 104, 101, 109, 101]⟩ = some 9 := by decide +kernel
  have o3 : fieldOf ⟨#[112, 114, 101, 102, 101, 114, 115, 45, 114, 101, 100, 117, 99, 101, 100, 45, 109, 111, 116, 105, 111, 110]⟩ = some 12 := by decide +kernel
  simp only [Bool.true_and]
  go_enter Tryd.func7, Tryd.ntmps7
  go_wp2_with (first | (go_at_call 16; (with_reducible refine (G1.out _).mono ?_); rintro e w1 ⟨rfl, x1, rfl⟩) | (go_at_call 16; (with_reducible refine (G2.out _).mono ?_); rintro e w1 ⟨rfl, x1, rfl⟩) | (go_at_call 16; (with_reducible refine (G3.out _).mono ?_); rintro e w1 ⟨rfl, x1, rfl⟩) | (go_at_call 17; (with_reducible refine (G4.out _).mono ?_); rintro e w1 ⟨rfl, x1, rfl⟩))
  refine wp_loop_rounds 5 ?_
  repeat any_goals (rw [rounds_succ]; go_wp2_with (first | (go_at_call 19; (with_reducible refine (words_any _ _).mono ?_); rintro e w1 ⟨v, rfl, ⟨x1, rfl⟩, hrow⟩) | (go_at_call 20; (with_reducible refine (field_any _ _ _).mono ?_); rintro e w1 ⟨rfl, rfl⟩) | (go_at_call 18; (with_reducible refine (sContains_any _ _ _ _ (by assumption) (wordsOf_len _)).mono ?_); rintro e w1 ⟨rfl, rfl⟩)))
  all_goals (go_ret; refine ⟨ret_bool ?_, (by repeat (first | exact World.grows.refl | apply World.grows.plus | apply World.grows.alloc | apply World.grows.drew))⟩; simp_all [nHover, nPointer, nScheme, nMotion])

end Go.Proofs.YtkmpnkgelaaebaaDoor
