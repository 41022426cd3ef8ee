/- PointFlips is true for every input: the index finds what trying finds, which lines turn between any two values. No condition. -/
import Derived.Test.YtjfccilmlmimaaaAwk24
import Derived.Test.YtjfccilmlmimaaaArgsL
import Derived.Test.YtjfccilmlmimaaaRows
set_option linter.unusedSimpArgs false
set_option linter.unusedVariables false
namespace Go.Proofs.Ytjfccilmlmimaaa
open Go.RowKit Go.Maps Go.ChangeShapes Go.WideShapes Go.ChangeAt
open Go.ChangeMaps (open_string shut_string)

set_option maxRecDepth 100000 in
set_option maxHeartbeats 4000000 in
theorem pointFlips_any (v : Value) (l : List Ln) (nm : ByteArray) (a b c d : Int) (w : World) (h : SlAt w (fun _ => True) 5 LnR v l) (hs : nm.size ≤ maxLen) (wa : I64 a) (wb : I64 b) (wc : I64 c) (wd : I64 d) :
    Calls Try.prog 3 #[v, .string nm, .agg #[.int .i64 a, .int .i64 b], .agg #[.int .i64 c, .int .i64 d]] w (Gives w (.bool true)) := by
  have hl : (l.take 200).length ≤ 1048576 := by simp; omega
  have hwf : AllWf (l.take 200) := fun x hx => lines_wf h x (List.mem_of_mem_take hx)
  have c0 : ∀ W, w.grows W → Calls Try.prog 10 #[v] W fun e w' => ∃ v', e = .returned v' ∧ w' = W ∧ Hid (SlAt W (fun _ => True) 5 LnR v' (l.take 200)) := fun W hg => (cut_any v l W (h.grows hg fun _ _ _ h => h)).mono fun e w' ⟨v', q1, q2, q3⟩ => ⟨v', q1, q2, Lib.hid q3⟩
  have c1 : ∀ W v', SlAt W (fun _ => True) 5 LnR v' (l.take 200) → Calls Try.prog 12 #[v'] W fun e w' => ∃ ix B, e = .returned (.pointer (some ⟨ix, 0, none⟩)) ∧ W.heap.size ≤ ix ∧ W.grows w' ∧ Hid (Idx w' ix 0 B (l.take 200)) := fun W v' h => (ixNew_any v' _ W h hl).mono fun e w' ⟨ix, B, q1, q2, q3, q4⟩ => ⟨ix, B, q1, q2, q3, Lib.hid q4⟩
  have c2 : ∀ W v', SlAt W (fun _ => True) 5 LnR v' (l.take 200) → Calls Try.prog 11 #[v', .string nm, .agg #[.int .i64 a, .int .i64 b], .agg #[.int .i64 c, .int .i64 d]] W fun e w' => ∃ v2 r, e = .returned v2 ∧ W.grows w' ∧ Hid (IntsAt w' v2 r ∧ Rise r (idsOf (flipR nm a b c d) (l.take 200))) := fun W v' hv => (lawFlips_any v' _ nm a b c d W hv wa wb wc wd hl).mono fun e w' ⟨v2, r, q1, q2, q3, q4⟩ => ⟨v2, r, q1, q2, Lib.hid ⟨q3, q4⟩⟩
  have c3 : ∀ (W w0 : World) ix B r, w0.grows W → w0.heap.size ≤ ix → Idx W ix 0 B (l.take 200) → Rise r (idsOf (flipR nm a b c d) (l.take 200)) → Calls Try.prog 14 #[.pointer (some ⟨ix, 0, none⟩), .string nm, .agg #[.int .i64 a, .int .i64 b], .agg #[.int .i64 c, .int .i64 d]] W fun e w' => ∃ v2 n, e = .returned v2 ∧ w0.grows w' ∧ Hid (IntsAt w' v2 r ∧ Idx w' ix n B (l.take 200) ∧ 0 ≤ n ∧ n ≤ 1048576) := fun W w0 ix B r hg hx hI hr => (ixFlips_any ix B 0 _ nm a b c d W hI hwf hs wa wb wc wd hl (by omega) (by omega)).mono fun e w' ⟨v2, r2, m, q1, q2, q3, q4, q5, p, sub, q6, q7, q8⟩ => ⟨v2, _, q1, q2.gr w0 hx hg, Lib.hid ⟨by rw [hr.uniq q5]; exact q4.at, q3, by omega, by
    have h1 := subOf_len q7
    have h2 := q6.len
    have h3 : (ofN (l.take 200) (l.take 200).length nm.data.toList).length ≤ (l.take 200).length := by unfold ofN; exact Nat.le_trans (List.length_filter_le _ _) (by simp)
    omega⟩⟩
  have c4 : ∀ (W w0 : World) ix B n, w0.grows W → w0.heap.size ≤ ix → Idx W ix n B (l.take 200) → 0 ≤ n → n ≤ 1048576 → Calls Try.prog 15 #[.pointer (some ⟨ix, 0, none⟩), .string nm, .agg #[.int .i64 a, .int .i64 b], .agg #[.int .i64 c, .int .i64 d]] W fun e w' => e = .returned (.bool (!(idsOf (flipR nm a b c d) (l.take 200)).isEmpty)) ∧ w0.grows w' := fun W w0 ix B n hg hx hI h0 h1 => (ixCross_any ix B n _ nm a b c d W hI hwf hs wa wb wc wd hl h0 (by omega)).mono fun e w' ⟨m, q1, q2, q3, q4⟩ => ⟨q1, q2.gr w0 hx hg⟩
  have c5 : ∀ r, Rise r (idsOf (flipR nm a b c d) (l.take 200)) → (!(idsOf (flipR nm a b c d) (l.take 200)).isEmpty) = decide (0 < (r.length : Int)) := fun r hr => by
    have := hr.2
    cases hi : idsOf (flipR nm a b c d) (l.take 200) with
    | nil =>
      rw [hi] at this
      have : r = [] := List.eq_nil_iff_forall_not_mem.2 fun z hz => by simpa using (this z).1 hz
      rw [this]; simp
    | cons z t =>
      rw [hi] at this
      have : r ≠ [] := fun e => by have := (this z).2 (by simp); rw [e] at this; cases this
      have : 0 < r.length := List.length_pos_iff.2 this
      simp; omega
  have C0 := Lib.hid c0; have C1 := Lib.hid c1; have C2 := Lib.hid c2; have C3 := Lib.hid c3; have C4 := Lib.hid c4; have C5 := Lib.hid c5
  clear c0 c1 c2 c3 c4 c5 h hl hwf
  generalize (!(idsOf (flipR nm a b c d) (l.take 200)).isEmpty) = E at *
  go_enter Try.func3, Try.ntmps3
  go_upto_region 4 with (first
    | (go_at_call 10; (with_reducible refine (C0.out _ (by repeat (with_reducible first | assumption | exact grA | apply grB | apply grC | apply grD | refine grE ?_ (by omega) _ | refine grF ?_ (by omega) _ _))).mono ?_); rintro e w1 ⟨v1, rfl, rfl, H1⟩)
    | (go_at_call 11; (with_reducible refine (C2.out _ _ H1.out).mono ?_); rintro e w2 ⟨v2, r, rfl, hg2, HR⟩; have k2 : w.grows w2 := World.grows.trans (by repeat (with_reducible first | assumption | exact grA | apply grB | apply grC | apply grD | refine grE ?_ (by omega) _ | refine grF ?_ (by omega) _ _)) hg2; obtain ⟨a2, n2, rfl, _, _⟩ := HR.out.1.len; obtain rfl := C5.out r HR.out.2)
    | (go_at_call 12; (with_reducible refine (C1.out _ _ (H1.out.grows hg2 fun _ _ _ h => h)).mono ?_); rintro e w3 ⟨ix, B, rfl, hix, hg3, HI⟩))
  have k23 : w2.grows w3 := World.grows.trans (by repeat (with_reducible first | assumption | exact grA | apply grB | apply grC | apply grD | refine grE ?_ (by omega) _ | refine grF ?_ (by omega) _ _)) hg3
  have k22 : w2.heap.size ≤ ix := hix
  have kb := hg2.below.size
  have kr1 : w2.row w.heap.size = some (.cells #[.int .i64 a, .int .i64 b] 24) := (hg2.row_eq (by simp; omega)).trans (by simp [go_sem])
  have kr2 : w2.row (w.heap.size + 1) = some (.cells #[.int .i64 c, .int .i64 d] 24) := (hg2.row_eq (by simp)).trans (by simp [go_sem])
  have kz1 := row_sz' kr1
  have kz2 := row_sz' kr2
  have kr3 := (k23.row_eq kz1.1).trans kr1
  have kr4 := (k23.row_eq kz2.1).trans kr2
  have kz3 := row_sz' kr3
  have kz4 := row_sz' kr4
  go_wp2_with (first
    | (go_at_call 14; go_loud ((with_reducible refine (C3.out _ w2 ix B r (World.grows.trans k23 (by repeat (with_reducible first | assumption | exact grA | apply grB | apply grC | apply grD | refine grE ?_ (by omega) _ | refine grF ?_ (by omega) _ _))) k22 (Idx.grows HI.out (by repeat (with_reducible first | assumption | exact grA | apply grB | apply grC | apply grD | refine grE ?_ (by omega) _ | refine grF ?_ (by omega) _ _))) HR.out.2).mono ?_); rintro e w4 ⟨v4, n4, rfl, hg4, HR4⟩; have kr5 := (hg4.row_eq kz1.1).trans kr1; have kr6 := (hg4.row_eq kz2.1).trans kr2; have kz5 := row_sz' kr5; have kz6 := row_sz' kr6; have k4 : w.grows w4 := World.grows.trans k2 hg4))
    | (go_at_call 13; go_loud ((with_reducible refine (ints_eq _ _ r _ (HR4.out.1.grow (by repeat (with_reducible first | assumption | exact grA | apply grB | apply grC | apply grD | refine grE ?_ (by omega) _ | refine grF ?_ (by omega) _ _))) (HR.out.1.grow (World.grows.trans hg4 (by repeat (with_reducible first | assumption | exact grA | apply grB | apply grC | apply grD | refine grE ?_ (by omega) _ | refine grF ?_ (by omega) _ _))))).mono ?_); rintro e w5 ⟨rfl, x5, rfl⟩))
    | (go_at_call 15; go_loud ((with_reducible refine (C4.out _ w2 ix B n4 (World.grows.trans hg4 (by repeat (with_reducible first | assumption | exact grA | apply grB | apply grC | apply grD | refine grE ?_ (by omega) _ | refine grF ?_ (by omega) _ _))) k22 (Idx.grows HR4.out.2.1 (by repeat (with_reducible first | assumption | exact grA | apply grB | apply grC | apply grD | refine grE ?_ (by omega) _ | refine grF ?_ (by omega) _ _))) HR4.out.2.2.1 HR4.out.2.2.2).mono ?_); rintro e w6 ⟨rfl, hg6⟩; have k6 : w.grows w6 := World.grows.trans k2 hg6))
    | (go_at_call 16; (with_reducible refine (awake24_any _).mono ?_); rintro e w7 ⟨rfl, x7, rfl⟩))
  go_ret
  exact ⟨rfl, (by repeat (with_reducible first | assumption | exact grA | apply grB | apply grC | apply grD | refine grE ?_ (by omega) _ | refine grF ?_ (by omega) _ _))⟩

theorem pointFlips_own : ownKnob Try.prog.godebug = none := by kernel_rfl
theorem pointFlips_laidOut : laidOutB Try.prog = true := by kernel_rfl
set_option maxRecDepth 100000 in
set_option maxHeartbeats 2000000 in
theorem pointFlips_lifted (os : Os) (started : os.Started) (H : Type) (enc : TypeId × Value → H) :
    ReturnsInHanded {} Try.checked os 3 .any (Rows.pointFlipsSpec.pre6 enc Try.prog Try.f3 Rows.pointFlipsRow.domain false) (Rows.pointFlipsSpec.post enc Try.prog Try.f3 false true false false) := by
  refine returnsInHanded_of_change (C := Try.checked) pointFlips_own started (by kernel_rfl) Try.func3
    (ChangeSpec.witness6 (enc := enc) (C := Try.checked) false ⟨#[], #[.slice none 0 0, .string ByteArray.empty, .agg #[.int .i64 0, .int .i64 0], .agg #[.int .i64 0, .int .i64 0]], []⟩ 8 (by kernel_rfl) (by kernel_rfl) (by kernel_rfl) (by kernel_rfl)) ?_
  intro W base args ds gs before hval0 hW hcnd _
  have hval : ∀ (j : Nat) t v, Try.f3.params[j]? = some t → args[j]? = some v → Value.okWide Try.prog W .any base t v := hval0
  have hW' := hW
  obtain ⟨p, q, hA0, hV, rfl, hfz, hnd⟩ := hW
  have hA : DataW.TrodAll enc Try.prog W 0 (fun _ => true) true Try.f3.params.toList args.toList ds p := hA0
  rw [Try.params3] at hA hval
  obtain ⟨v0, vs0, d0, ds0, p0, q0, hargs, rfl, rfl, h0, r0⟩ := trodAll_cons hA
  obtain ⟨v1, vs1, d1, ds1, p1, q1, rfl, rfl, rfl, h1, r1⟩ := trodAll_cons r0
  obtain ⟨v2, vs2, d2, ds2, p2, q2, rfl, rfl, rfl, h2, r2⟩ := trodAll_cons r1
  obtain ⟨v3, vs3, d3, ds3, p3, q3, rfl, rfl, rfl, h3, r3⟩ := trodAll_cons r2
  obtain ⟨rfl, rfl, rfl⟩ := trodAll_nil r3
  obtain rfl : args = #[v0, v1, v2, v3] := by cases args; simp_all
  obtain ⟨rfl, rfl⟩ := trodVars_none hV
  have k0 := h0
  have lt0 : ∀ x ∈ p0, x.block < W.heap.size := by obtain ⟨m, hm⟩ := k0; exact DataW.trod_lt m _ _ _ hm
  have k1 := h1
  have lt1 : ∀ x ∈ p1, x.block < W.heap.size := by obtain ⟨m, hm⟩ := k1; exact DataW.trod_lt m _ _ _ hm
  have k2 := h2
  have lt2 : ∀ x ∈ p2, x.block < W.heap.size := by obtain ⟨m, hm⟩ := k2; exact DataW.trod_lt m _ _ _ hm
  have k3 := h3
  have lt3 : ∀ x ∈ p3, x.block < W.heap.size := by obtain ⟨m, hm⟩ := k3; exact DataW.trod_lt m _ _ _ hm
  obtain ⟨l, h_l⟩ := lines_arg (hval 0 22 v0 rfl rfl) h0
  obtain ⟨nm, rfl, _, _, wnm⟩ := open_string Try.underlying9 (hval 1 9 v1 rfl rfl) h1
  obtain ⟨a, b, rfl, w2_0, w2_1⟩ := rat_arg (hval 2 24 v2 rfl rfl) h2
  obtain ⟨c, d, rfl, w3_0, w3_1⟩ := rat_arg (hval 3 24 v3 rfl rfl) h3
  clear hA0 hval0
  refine (pointFlips_any v0 l nm a b c d W h_l wnm w2_0 w2_1 w3_0 w3_1).mono fun e W' ⟨he, grw⟩ => ?_
  subst he
  have bel := grw.below
  exact ⟨_, rfl, _, _, _, [], _, [], hW', trodAll_mk1 (shut_bool Try.underlying4 _), (trodAll_cons_mk (Below.trod pointFlips_laidOut (by kernel_rfl) (of_decide_eq_true (by kernel_rfl)) k0 bel lt0) (trodAll_cons_mk (Below.trod pointFlips_laidOut (by kernel_rfl) (of_decide_eq_true (by kernel_rfl)) k1 bel lt1) (trodAll_cons_mk (Below.trod pointFlips_laidOut (by kernel_rfl) (of_decide_eq_true (by kernel_rfl)) k2 bel lt2) (trodAll_cons_mk (Below.trod pointFlips_laidOut (by kernel_rfl) (of_decide_eq_true (by kernel_rfl)) k3 bel lt3) trodAll_mk0)))), rfl, bel.frame _, fun h => by cases h⟩

/-- THE STATEMENT -/
theorem pointFlips_holds : Rows.PointFlipsSaid :=
  OpenClaim.holds_of_wide 3 Try.f3 rfl rfl rfl rfl rfl rfl rfl ⟨rfl, rfl, rfl, rfl, rfl⟩ rfl rfl rfl rfl rfl (by kernel_rfl) Try.func3 (by kernel_rfl)
    (of_decide_eq_true (by kernel_rfl)) (by unfold Func.isWrapper; first | (rw [if_pos (by decide +kernel)]; kernel_rfl) | (rw [if_neg (by decide +kernel)]; exact ⟨rfl, rfl⟩))
    (fun os started H enc _ => pointFlips_lifted os started H enc)
#print axioms pointFlips_holds
end Go.Proofs.Ytjfccilmlmimaaa
