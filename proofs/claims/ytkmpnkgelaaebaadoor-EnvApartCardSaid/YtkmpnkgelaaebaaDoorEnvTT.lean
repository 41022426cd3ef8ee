/- WALKS over env: Turn. No condition but that numbers and texts are of their kinds. -/
import Derived.Test.YtkmpnkgelaaebaaDoorEnvC
import Derived.BigRegion
set_option linter.unusedSimpArgs false
set_option linter.unusedVariables false
namespace Go
open Go.Proofs.YtkmpnkgelaaebaaDoor
/-- the environment with a word in a place -/
def En.put (e : En) (k : Nat) (s : ByteArray) : En :=
  if k = 10 then { e with h := s } else if k = 11 then { e with q := s } else if k = 9 then { e with s := s } else { e with m := s }
def En.turn (e : En) (n wd : ByteArray) : Option En :=
  match fieldOf n with
  | none => none
  | some k => if hasW (wordsOf n) wd then some (e.put k wd) else none
theorem En.put10 (e : En) (s : ByteArray) : e.put 10 s = { e with h := s } := rfl
theorem En.put11 (e : En) (s : ByteArray) : e.put 11 s = { e with q := s } := rfl
theorem En.put9 (e : En) (s : ByteArray) : e.put 9 s = { e with s := s } := rfl
theorem En.put12 (e : En) (s : ByteArray) : e.put 12 s = { e with m := s } := rfl
theorem fieldOf_some {s : ByteArray} {k : Nat} (h : fieldOf s = some k) : k = 10 ∨ k = 11 ∨ k = 9 ∨ k = 12 := by
  unfold fieldOf at h
  repeat' split at h
  all_goals (simp at h; try omega)
end Go
namespace Go.Proofs.YtkmpnkgelaaebaaDoor
open Go.RowKit

set_option maxRecDepth 100000 in
set_option maxHeartbeats 2000000 in
theorem turnedNo_any (e : En) (why : Int) (fn : Fn) (l : List Value) (w : World) (he : e.Wf) :
    Calls Tryd.prog 23 #[e.v, .bool false, .int .i64 why, .func fn #[] l.toArray] w (Gives w (chgV e why none)) := by
  have hm := fun w => envMay_any e w he
  simp only [chgV, chgE, chgW]
  generalize e.may = t at *
  obtain ⟨p, w1, w2, h1, h2, f1, f2, c1, c2, s, h, q, m⟩ := e
  have HM := Lib.hid hm; clear hm he
  show Calls Tryd.prog 23 #[.agg #[.bool p, .int .i64 w1, .int .i64 w2, .int .i64 h1, .int .i64 h2, .int .i64 f1, .int .i64 f2, .int .i64 c1, .int .i64 c2, .string s, .string h, .string q, .string m], .bool false, .int .i64 why, .func fn #[] l.toArray] w _
  cases t <;> simp only [En.zero, Bool.false_eq_true, if_false, if_true]
  · go_enter Tryd.func23, Tryd.ntmps23
    go_wp2_with (first | (go_at_call 7; (with_reducible refine (HM.out _).mono ?_); rintro e w1 ⟨rfl, x1, rfl⟩) | ((with_reducible show bodyPost _ _ _ _ _ _); exact rett_25 rfl rfl (by simp [go_sem]) rfl ⟨by simp [go_sem], (by repeat (first | exact World.grows.refl | apply World.grows.plus | apply World.grows.alloc | apply World.grows.drew))⟩))
  · go_enter Tryd.func23, Tryd.ntmps23
    go_wp2_with (first | (go_at_call 7; (with_reducible refine (HM.out _).mono ?_); rintro e w1 ⟨rfl, x1, rfl⟩) | ((with_reducible show bodyPost _ _ _ _ _ _); exact rett_25 rfl rfl (by simp [go_sem]) rfl ⟨by simp [go_sem], (by repeat (first | exact World.grows.refl | apply World.grows.plus | apply World.grows.alloc | apply World.grows.drew))⟩))

set_option maxRecDepth 100000 in
set_option maxHeartbeats 2000000 in
theorem turnedTurn_any (e : En) (why : Int) (n wd : ByteArray) (kf k l : Nat) (w : World) (hf : fieldOf n = some kf) (lk : k < w.heap.size) (qk : w.row k = some (.cells #[.string wd] 9 (0, 0))) (ll : l < w.heap.size) (ql : w.row l = some (.cells #[.string n] 9 (0, 0))) (he : e.Wf) :
    Calls Tryd.prog 23 #[e.v, .bool true, .int .i64 why, .func (.func 28) #[] #[.pointer (some ⟨k, 0, none⟩), .pointer (some ⟨l, 0, none⟩)]] w (Gives w (chgV e why (some (e.put kf wd)))) := by
  have hm := fun w => envMay_any e w he
  have hfd := fun g w => field_any g n w
  rw [hf] at hfd
  have hkf := fieldOf_some hf
  simp only [Option.map_some] at hfd
  have ck0 : w.cell? ⟨k, 0, none⟩ = some (.string wd) := cell_of_row w k 0 _ _ _ qk
  have cl0 : w.cell? ⟨l, 0, none⟩ = some (.string n) := cell_of_row w l 0 _ _ _ ql
  have lk1 : k < w.heap.size + 1 := by omega
  have lk2 : k < w.heap.size + 1 + 1 := by omega
  have ll1 : l < w.heap.size + 1 := by omega
  have ll2 : l < w.heap.size + 1 + 1 := by omega
  clear hf
  simp only [chgV, chgE, chgW]
  generalize e.may = t at *
  obtain ⟨p, w1, w2, h1, h2, f1, f2, c1, c2, s, h, q, m⟩ := e
  have HM := Lib.hid hm; have HF := Lib.hid hfd; clear hm he hfd
  show Calls Tryd.prog 23 #[.agg #[.bool p, .int .i64 w1, .int .i64 w2, .int .i64 h1, .int .i64 h2, .int .i64 f1, .int .i64 f2, .int .i64 c1, .int .i64 c2, .string s, .string h, .string q, .string m], .bool true, .int .i64 why, .func (.func 28) #[] #[.pointer (some ⟨k, 0, none⟩), .pointer (some ⟨l, 0, none⟩)]] w _
  cases t <;> simp only [En.zero, Bool.false_eq_true, if_false, if_true]
  · go_enter Tryd.func23, Tryd.ntmps23
    go_wp2_with (first | (go_at_call 7; (with_reducible refine (HM.out _).mono ?_); rintro e w1 ⟨rfl, x1, rfl⟩) | ((with_reducible show bodyPost _ _ _ _ _ _); exact rett_25 rfl rfl (by simp [go_sem]) rfl ⟨by simp [go_sem], (by repeat (first | exact World.grows.refl | apply World.grows.plus | apply World.grows.alloc | apply World.grows.drew))⟩))
  · rcases hkf with rfl | rfl | rfl | rfl
    all_goals
      simp only [En.put10, En.put11, En.put9, En.put12]
      go_enter Tryd.func23, Tryd.ntmps23
      go_wp2_with (first | (go_at_call 7; (with_reducible refine (HM.out _).mono ?_); rintro e w1 ⟨rfl, x1, rfl⟩))
      go_in
      go_wp2_with fail
      refine wp_region_plus_tail 5 (by kernel_rfl) (by kernel_rfl) ?_
      simp only [List.take_succ_cons, List.take_zero, List.drop_succ_cons, List.drop_zero]
      repeat (go_big_quiet_step (first | (go_at_call 20; (with_reducible exact Calls.plus_of (gives_same (HF.out _ _))))))
      refine wpQuiet_nil ?_; intro _ hw'; obtain ⟨xq, hw''⟩ := hw'; subst hw''
      go_wp2_with fail
      go_wp2_with (first | ((with_reducible show bodyPost _ _ _ _ _ _); exact rett_25 rfl rfl (by simp [go_sem]) rfl ⟨by simp [go_sem], (by repeat (first | exact World.grows.refl | apply World.grows.plus | apply World.grows.alloc | apply World.grows.drew))⟩))

set_option maxRecDepth 100000 in
set_option maxHeartbeats 2000000 in
theorem turn_any (e : En) (n wd : ByteArray) (w : World) (he : e.Wf) : Calls Tryd.prog 14 #[e.v, .string n, .string wd] w (Gives w (chgV e 9 (e.turn n wd))) := by
  have hfd := fun g w => field_any g n w
  have hno := fun fn l w => turnedNo_any e 9 fn l w he
  have hco := fun v w h => sContains_any v (wordsOf n) wd w h (wordsOf_len n)
  unfold En.turn
  cases hf : fieldOf n with
  | none =>
    rw [hf] at hfd
    simp only [Option.map_none] at hfd
    simp only []
    generalize chgE e none = E0 at *
    generalize chgW e 9 none = R0 at *
    obtain ⟨p', w1', w2', h1', h2', f1', f2', c1', c2', s', h', q', m'⟩ := E0
    obtain ⟨p, w1, w2, h1, h2, f1, f2, c1, c2, s, h, q, m⟩ := e
    have HF := Lib.hid hfd; have HN := Lib.hid hno; clear hfd hno hco he hf
    go_enter Tryd.func14, Tryd.ntmps14
    go_wp2_with fail
    refine wp_region_plus_seq (by kernel_rfl) (by kernel_rfl) (fun x0 => ?_)
    repeat (any_goals (first | (refine wpSeqL_free rfl ?_; first | (go_big_quiet_skip; refine wpQuiet_nil ?_) | (go_big_quiet_step (fail); refine wpQuiet_nil ?_) | (refine wpQuiet_step (fun K hK => ?_); go_simp; split <;> (refine hK _ ?_; clear hK K; refine wpQuiet_nil ?_))) | (refine wpSeqL_link rfl (fun K hK => ?_); go_simp; first | first | (refine hK _ _ (by show World.grows _ _; repeat (first | exact World.grows.refl | apply World.grows.plus | apply World.grows.alloc | apply World.grows.drew)) ?_; clear hK K) | (((first | (go_at_call 20; (with_reducible refine (HF.out _ _).mono ?_); rintro e w1 ⟨rfl, rfl⟩))); refine ⟨_, rfl, hK _ _ (by show World.grows _ _; repeat (first | exact World.grows.refl | apply World.grows.plus | apply World.grows.alloc | apply World.grows.drew)) ?_⟩; clear hK K) | (split <;> (first | (refine hK _ _ (by show World.grows _ _; repeat (first | exact World.grows.refl | apply World.grows.plus | apply World.grows.alloc | apply World.grows.drew)) ?_; clear hK K) | (((first | (go_at_call 20; (with_reducible refine (HF.out _ _).mono ?_); rintro e w1 ⟨rfl, rfl⟩))); refine ⟨_, rfl, hK _ _ (by show World.grows _ _; repeat (first | exact World.grows.refl | apply World.grows.plus | apply World.grows.alloc | apply World.grows.drew)) ?_⟩; clear hK K))))))
    all_goals (refine wpSeqL_end ?_)
    go_wp2_with (first | (go_at_call 23; (with_reducible refine (HN.out _ _ _).mono ?_); rintro e w1 ⟨rfl, x1, rfl⟩) | ((with_reducible show bodyPost _ _ _ _ _ _); exact rett_25 rfl rfl (by simp [go_sem]) rfl ⟨by simp [go_sem], (by repeat (first | exact World.grows.refl | apply World.grows.plus | apply World.grows.alloc | apply World.grows.drew))⟩))
  | some kf =>
    have hty := fun w k lk qk l ll ql => turnedTurn_any e 9 n wd kf k l w hf lk qk ll ql he
    rw [hf] at hfd
    simp only [Option.map_some] at hfd
    simp only []
    cases hw : hasW (wordsOf n) wd with
    | false =>
      rw [hw] at hco
      simp only [Bool.false_eq_true, if_false]
      generalize chgE e none = E0 at *
      generalize chgW e 9 none = R0 at *
      obtain ⟨p', w1', w2', h1', h2', f1', f2', c1', c2', s', h', q', m'⟩ := E0
      obtain ⟨p, w1, w2, h1, h2, f1, f2, c1, c2, s, h, q, m⟩ := e
      have HF := Lib.hid hfd; have HN := Lib.hid hno; have HC := Lib.hid hco; clear hfd hno hco he hf hty hw
      go_enter Tryd.func14, Tryd.ntmps14
      go_wp2_with fail
      refine wp_region_plus_seq (by kernel_rfl) (by kernel_rfl) (fun x0 => ?_)
      repeat (any_goals (first | (refine wpSeqL_free rfl ?_; first | (go_big_quiet_skip; refine wpQuiet_nil ?_) | (go_big_quiet_step (fail); refine wpQuiet_nil ?_) | (refine wpQuiet_step (fun K hK => ?_); go_simp; split <;> (refine hK _ ?_; clear hK K; refine wpQuiet_nil ?_))) | (refine wpSeqL_link rfl (fun K hK => ?_); go_simp; first | first | (refine hK _ _ (by show World.grows _ _; repeat (first | exact World.grows.refl | apply World.grows.plus | apply World.grows.alloc | apply World.grows.drew)) ?_; clear hK K) | (((first | (go_at_call 20; (with_reducible refine (HF.out _ _).mono ?_); rintro e w1 ⟨rfl, rfl⟩) | (go_at_call 19; (with_reducible refine (words_any _ _).mono ?_); rintro e w1 ⟨v, rfl, ⟨x1, rfl⟩, hrow⟩) | (go_at_call 18; (with_reducible refine (HC.out _ _ (by assumption)).mono ?_); rintro e w1 ⟨rfl, rfl⟩))); refine ⟨_, rfl, hK _ _ (by show World.grows _ _; repeat (first | exact World.grows.refl | apply World.grows.plus | apply World.grows.alloc | apply World.grows.drew)) ?_⟩; clear hK K) | (split <;> (first | (refine hK _ _ (by show World.grows _ _; repeat (first | exact World.grows.refl | apply World.grows.plus | apply World.grows.alloc | apply World.grows.drew)) ?_; clear hK K) | (((first | (go_at_call 20; (with_reducible refine (HF.out _ _).mono ?_); rintro e w1 ⟨rfl, rfl⟩) | (go_at_call 19; (with_reducible refine (words_any _ _).mono ?_); rintro e w1 ⟨v, rfl, ⟨x1, rfl⟩, hrow⟩) | (go_at_call 18; (with_reducible refine (HC.out _ _ (by assumption)).mono ?_); rintro e w1 ⟨rfl, rfl⟩))); refine ⟨_, rfl, hK _ _ (by show World.grows _ _; repeat (first | exact World.grows.refl | apply World.grows.plus | apply World.grows.alloc | apply World.grows.drew)) ?_⟩; clear hK K))))))
      all_goals (refine wpSeqL_end ?_)
      go_wp2_with (first | (go_at_call 23; (with_reducible refine (HN.out _ _ _).mono ?_); rintro e w1 ⟨rfl, x1, rfl⟩) | ((with_reducible show bodyPost _ _ _ _ _ _); exact rett_25 rfl rfl (by simp [go_sem]) rfl ⟨by simp [go_sem], (by repeat (first | exact World.grows.refl | apply World.grows.plus | apply World.grows.alloc | apply World.grows.drew))⟩))
    | true =>
      rw [hw] at hco
      simp only [if_true]
      generalize chgE e (some (e.put kf wd)) = E0 at *
      generalize chgW e 9 (some (e.put kf wd)) = R0 at *
      obtain ⟨p', w1', w2', h1', h2', f1', f2', c1', c2', s', h', q', m'⟩ := E0
      obtain ⟨p, w1, w2, h1, h2, f1, f2, c1, c2, s, h, q, m⟩ := e
      have HF := Lib.hid hfd; have HT := Lib.hid hty; have HC := Lib.hid hco; clear hfd hno hco he hf hty hw
      go_enter Tryd.func14, Tryd.ntmps14
      go_wp2_with fail
      refine wp_region_plus_seq (by kernel_rfl) (by kernel_rfl) (fun x0 => ?_)
      repeat (any_goals (first | (refine wpSeqL_free rfl ?_; first | (go_big_quiet_skip; refine wpQuiet_nil ?_) | (go_big_quiet_step (fail); refine wpQuiet_nil ?_) | (refine wpQuiet_step (fun K hK => ?_); go_simp; split <;> (refine hK _ ?_; clear hK K; refine wpQuiet_nil ?_))) | (refine wpSeqL_link rfl (fun K hK => ?_); go_simp; first | first | (refine hK _ _ (by show World.grows _ _; repeat (first | exact World.grows.refl | apply World.grows.plus | apply World.grows.alloc | apply World.grows.drew)) ?_; clear hK K) | (((first | (go_at_call 20; (with_reducible refine (HF.out _ _).mono ?_); rintro e w1 ⟨rfl, rfl⟩) | (go_at_call 19; (with_reducible refine (words_any _ _).mono ?_); rintro e w1 ⟨v, rfl, ⟨x1, rfl⟩, hrow⟩) | (go_at_call 18; (with_reducible refine (HC.out _ _ (by assumption)).mono ?_); rintro e w1 ⟨rfl, rfl⟩))); refine ⟨_, rfl, hK _ _ (by show World.grows _ _; repeat (first | exact World.grows.refl | apply World.grows.plus | apply World.grows.alloc | apply World.grows.drew)) ?_⟩; clear hK K) | (split <;> (first | (refine hK _ _ (by show World.grows _ _; repeat (first | exact World.grows.refl | apply World.grows.plus | apply World.grows.alloc | apply World.grows.drew)) ?_; clear hK K) | (((first | (go_at_call 20; (with_reducible refine (HF.out _ _).mono ?_); rintro e w1 ⟨rfl, rfl⟩) | (go_at_call 19; (with_reducible refine (words_any _ _).mono ?_); rintro e w1 ⟨v, rfl, ⟨x1, rfl⟩, hrow⟩) | (go_at_call 18; (with_reducible refine (HC.out _ _ (by assumption)).mono ?_); rintro e w1 ⟨rfl, rfl⟩))); refine ⟨_, rfl, hK _ _ (by show World.grows _ _; repeat (first | exact World.grows.refl | apply World.grows.plus | apply World.grows.alloc | apply World.grows.drew)) ?_⟩; clear hK K))))))
      all_goals (refine wpSeqL_end ?_)
      go_wp2_with (first | (go_at_call 23; (with_reducible refine (HT.out _ _ (by simp [go_sem]) (by simp [go_sem]) _ (by simp [go_sem]) (by simp [go_sem])).mono ?_); rintro e w1 ⟨rfl, x1, rfl⟩) | ((with_reducible show bodyPost _ _ _ _ _ _); exact rett_25 rfl rfl (by simp [go_sem]) rfl ⟨by simp [go_sem], (by repeat (first | exact World.grows.refl | apply World.grows.plus | apply World.grows.alloc | apply World.grows.drew))⟩))

end Go.Proofs.YtkmpnkgelaaebaaDoor
