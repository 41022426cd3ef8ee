/- WALKS over env and jalousieref16: the words of a feature; is a text one of a slice's? No condition but that texts are of their kinds. -/
import Derived.Test.YtkmpnkgelaaebaaDoorProg
import Derived.Test.YtkmpnkgelaaebaaDoorEnv
set_option linter.unusedSimpArgs false
set_option linter.unusedVariables false
namespace Go.Proofs.YtkmpnkgelaaebaaDoor
open Go.RowKit

set_option maxRecDepth 100000 in
set_option maxHeartbeats 1000000 in
theorem words_any (s : ByteArray) (w : World) : Calls Tryd.prog 19 #[.string s] w (GivesS w (wordsOf s)) := by
  by_cases h0 : s.toList = [104, 111, 118, 101, 114]
  · have hb0 : (s.toList == [104, 111, 118, 101, 114]) = true := by simpa using h0
    have e : wordsOf s = [⟨#[110, 111, 110, 101]⟩, ⟨#[104, 111, 118, 101, 114]⟩] := by unfold wordsOf; rw [if_pos h0]
    rw [e]; clear e; clear h0
    go_enter Tryd.func19, Tryd.ntmps19
    go_wp2
    go_ret
    refine ⟨_, rfl, (by repeat (first | exact World.grows.refl | apply World.grows.plus | apply World.grows.alloc | apply World.grows.drew)), .inr ⟨_, _, rfl, fun i hi => ?_⟩⟩
    match i, hi with
    | 0, _ => simp [go_sem]
    | 1, _ => simp [go_sem]
  · have hb0 : (s.toList == [104, 111, 118, 101, 114]) = false := by simpa using h0
    by_cases h1 : s.toList = [111, 114, 105, 101, 110, 116, 97, 116, 105, 111, 110]
    · have hb1 : (s.toList == [111, 114, 105, 101, 110, 116, 97, 116, 105, 111, 110]) = true := by simpa using h1
      have e : wordsOf s = [⟨#[112, 111, 114, 116, 114, 97, 105, 116]⟩, ⟨#[108, 97, 110, 100, 115, 99, 97, 112, 101]⟩] := by unfold wordsOf; rw [if_neg h0, if_pos h1]
      rw [e]; clear e; clear h0 h1
      go_enter Tryd.func19, Tryd.ntmps19
      go_wp2
      go_ret
      refine ⟨_, rfl, (by repeat (first | exact World.grows.refl | apply World.grows.plus | apply World.grows.alloc | apply World.grows.drew)), .inr ⟨_, _, rfl, fun i hi => ?_⟩⟩
      match i, hi with
      | 0, _ => simp [go_sem]
      | 1, _ => simp [go_sem]
    · have hb1 : (s.toList == [111, 114, 105, 101, 110, 116, 97, 116, 105, 111, 110]) = false := by simpa using h1
      by_cases h2 : s.toList = [112, 111, 105, 110, 116, 101, 114]
      · have hb2 : (s.toList == [112, 111, 105, 110, 116, 101, 114]) = true := by simpa using h2
        have e : wordsOf s = [⟨#[110, 111, 110, 101]⟩, ⟨#[99, 111, 97, 114, 115, 101]⟩, ⟨#[102, 105, 110, 101]⟩] := by unfold wordsOf; rw [if_neg h0, if_neg h1, if_pos h2]
        rw [e]; clear e; clear h0 h1 h2
        go_enter Tryd.func19, Tryd.ntmps19
        go_wp2
        go_ret
        refine ⟨_, rfl, (by repeat (first | exact World.grows.refl | apply World.grows.plus | apply World.grows.alloc | apply World.grows.drew)), .inr ⟨_, _, rfl, fun i hi => ?_⟩⟩
        match i, hi with
        | 0, _ => simp [go_sem]
        | 1, _ => simp [go_sem]
        | 2, _ => simp [go_sem]
      · have hb2 : (s.toList == [112, 111, 105, 110, 116, 101, 114]) = false := by simpa using h2
        by_cases h3 : s.toList = [112, 114, 101, 102, 101, 114, 115, 45, 99, 111, 108, 111, 114, 45, 115, 99, 104, 101, 109, 101]
        · have hb3 : (s.toList == [112, 114, 101, 102, 101, 114, 115, 45, 99, 111, 108, 111, 114, 45, 115, 99, 104, 101, 109, 101]) = true := by simpa using h3
          have e : wordsOf s = [⟨#[108, 105, 103, 104, 116]⟩, ⟨#[100, 97, 114, 107]⟩] := by unfold wordsOf; rw [if_neg h0, if_neg h1, if_neg h2, if_pos h3]
          rw [e]; clear e; clear h0 h1 h2 h3
          go_enter Tryd.func19, Tryd.ntmps19
          go_wp2
          go_ret
          refine ⟨_, rfl, (by repeat (first | exact World.grows.refl | apply World.grows.plus | apply World.grows.alloc | apply World.grows.drew)), .inr ⟨_, _, rfl, fun i hi => ?_⟩⟩
          match i, hi with
          | 0, _ => simp [go_sem]
          | 1, _ => simp [go_sem]
        · have hb3 : (s.toList == [112, 114, 101, 102, 101, 114, 115, 45, 99, 111, 108, 111, 114, 45, 115, 99, 104, 101, 109, 101]) = false := by simpa using h3
          by_cases h4 : s.toList = [112, 114, 101, 102, 101, 114, 115, 45, 114, 101, 100, 117, 99, 101, 100, 45, 109, 111, 116, 105, 111, 110]
          · have hb4 : (s.toList == [112, 114, 101, 102, 101, 114, 115, 45, 114, 101, 100, 117, 99, 101, 100, 45, 109, 111, 116, 105, 111, 110]) = true := by simpa using h4
            have e : wordsOf s = [⟨#[110, 111, 45, 112, 114, 101, 102, 101, 114, 101, 110, 99, 101]⟩, ⟨#[114, 101, 100, 117, 99, 101]⟩] := by unfold wordsOf; rw [if_neg h0, if_neg h1, if_neg h2, if_neg h3, if_pos h4]
            rw [e]; clear e; clear h0 h1 h2 h3 h4
            go_enter Tryd.func19, Tryd.ntmps19
            go_wp2
            go_ret
            refine ⟨_, rfl, (by repeat (first | exact World.grows.refl | apply World.grows.plus | apply World.grows.alloc | apply World.grows.drew)), .inr ⟨_, _, rfl, fun i hi => ?_⟩⟩
            match i, hi with
            | 0, _ => simp [go_sem]
            | 1, _ => simp [go_sem]
          · have hb4 : (s.toList == [112, 114, 101, 102, 101, 114, 115, 45, 114, 101, 100, 117, 99, 101, 100, 45, 109, 111, 116, 105, 111, 110]) = false := by simpa using h4
            rw [wordsOf_none h0 h1 h2 h3 h4]; clear h0 h1 h2 h3 h4
            go_enter Tryd.func19, Tryd.ntmps19
            go_wp2
            go_ret
            exact ⟨_, rfl, (by repeat (first | exact World.grows.refl | apply World.grows.plus | apply World.grows.alloc | apply World.grows.drew)), .inl ⟨rfl, rfl⟩⟩

set_option maxRecDepth 100000 in
set_option maxHeartbeats 1000000 in
theorem sIndex_any (v : Value) (l : List ByteArray) (s : ByteArray) (w : World) (h : SRow w v l) (hl : l.length ≤ maxLen) :
    Calls Tryd.prog 31 #[v, .string s] w fun e w' => e = .returned (.int .i64 (idxW s l 0)) ∧ w = w' := by
  unfold maxLen at hl
  rcases h with ⟨rfl, rfl⟩ | ⟨g, cap, rfl, hc⟩
  · have h0 : idxW s [] 0 = -1 := rfl
    rw [h0]; clear h0
    go_enter Tryd.func31, Tryd.ntmps31
    go_wp2
    go_rounds 1
    go_ret
    exact ⟨rfl, rfl⟩
  · have HC := Lib.hid hc; clear hc
    go_enter Tryd.func31, Tryd.ntmps31
    go_wp2
    go_loop [8] (fun u => ∃ k : Nat, k ≤ l.length ∧ u = .int .i64 k ∧ Hid (idxW s l 0 = idxW s (l.drop k) k)) (fun u => l.length - (intOf u).toNat)
    case atStart => exact ⟨0, Nat.zero_le _, rfl, rfl⟩
    case round =>
      obtain ⟨k, hk, rfl, HG⟩ := hrel
      by_cases hlt : k < l.length
      · have hcell := HC.out k hlt
        have hst := HG.out.trans (idxW_step (s := s) hlt)
        generalize l.getD k ByteArray.empty = x at *
        cases hb : (s.toList == x.toList) with
        | true =>
          rw [hb, if_pos rfl] at hst
          have HS := Lib.hid hst; clear hst HG
          go_wp2
          go_ret
          exact ⟨ret_int HS.out.symm, rfl⟩
        | false =>
          rw [hb, if_neg (by simp)] at hst
          have HS := Lib.hid hst; clear hst HG
          go_wp2
          go_round
          case rel => exact ⟨k + 1, by omega, by go_num, HS.out⟩
          case measure => simp [intOf]; omega
      · have hst := HG.out.trans (idxW_end (s := s) (by omega))
        have HS := Lib.hid hst; clear hst HG
        go_wp2
        go_ret
        exact ⟨ret_int HS.out.symm, rfl⟩

set_option maxRecDepth 100000 in
theorem sContains_any (v : Value) (l : List ByteArray) (s : ByteArray) (w : World) (h : SRow w v l) (hl : l.length ≤ maxLen) :
    Calls Tryd.prog 18 #[v, .string s] w fun e w' => e = .returned (.bool (hasW l s)) ∧ w = w' := by
  have hi := sIndex_any v l s w h hl
  rw [← idxW_has s l 0]
  have HI := Lib.hid hi; clear hi h hl
  go_enter Tryd.func18, Tryd.ntmps18
  go_wp2_with (first | (go_at_call 31; (with_reducible refine HI.out.mono ?_); rintro e w1 ⟨rfl, rfl⟩))
  go_ret
  exact ⟨rfl, rfl⟩

end Go.Proofs.YtkmpnkgelaaebaaDoor
