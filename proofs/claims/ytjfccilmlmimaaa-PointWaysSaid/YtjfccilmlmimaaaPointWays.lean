/- PointWays is true for every input: to and fro the same turns; what turns on the way by a third value turns on one half of it; nothing turns on the spot. No condition. -/
import Derived.Test.YtjfccilmlmimaaaWaysP
import Derived.Test.YtjfccilmlmimaaaAppN
import Derived.Test.YtjfccilmlmimaaaArgsL
import Derived.Test.YtjfccilmlmimaaaRows
set_option linter.unusedSimpArgs false
set_option linter.unusedVariables false
namespace Go.Proofs.Ytjfccilmlmimaaa
open Go.RowKit Go.Maps Go.ChangeShapes Go.WideShapes Go.ChangeAt
open Go.ChangeMaps (open_string shut_string)

set_option maxRecDepth 100000 in
set_option maxHeartbeats 8000000 in
theorem pointWays_any (v : Value) (l : List Ln) (nm : ByteArray) (a b c d e f : Int) (w : World) (h : SlAt w (fun _ => True) 5 LnR v l) (hs : nm.size ≤ maxLen) (wa : I64 a) (wb : I64 b) (wc : I64 c) (wd : I64 d) (we : I64 e) (wf : I64 f) :
    Calls Try.prog 6 #[v, .string nm, .agg #[.int .i64 a, .int .i64 b], .agg #[.int .i64 c, .int .i64 d], .agg #[.int .i64 e, .int .i64 f]] w (Gives w (.bool true)) := by
  have hl : (l.take 200).length ≤ 200 := by simp; omega
  have hwf : AllWf (l.take 200) := fun x hx => lines_wf h x (List.mem_of_mem_take hx)
  have c0 : ∀ W, w.grows W → Calls Try.prog 10 #[v] W fun e w' => ∃ v', e = .returned v' ∧ w' = W ∧ Hid (SlAt W (fun _ => True) 5 LnR v' (l.take 200)) := fun W hg => (cut_any v l W (h.grows hg fun _ _ _ h => h)).mono fun e w' ⟨v', q1, q2, q3⟩ => ⟨v', q1, q2, Lib.hid q3⟩
  generalize l.take 200 = L at *
  have c1 : ∀ W v', SlAt W (fun _ => True) 5 LnR v' L → Calls Try.prog 12 #[v'] W fun e w' => ∃ ix B, e = .returned (.pointer (some ⟨ix, 0, none⟩)) ∧ W.heap.size ≤ ix ∧ W.grows w' ∧ Hid (Idx w' ix 0 B L) := fun W v' h => (ixNew_any v' _ W h (by omega)).mono fun e w' ⟨ix, B, q1, q2, q3, q4⟩ => ⟨ix, B, q1, q2, q3, Lib.hid q4⟩
  have c2 := fun ix B => ixC ix B L nm hwf hs (by omega)
  have C0 := Lib.hid c0; have C1 := Lib.hid c1; have C2 := Lib.hid c2
  have WA := Lib.hid wa; have WB := Lib.hid wb; have WCC := Lib.hid wc; have WD := Lib.hid wd; have WE := Lib.hid we; have WF := Lib.hid wf; have HL := Lib.hid hl
  clear c0 c1 c2 h hwf wa wb wc wd we wf hl
  go_enter Try.func6, Try.ntmps6
  go_upto_region 2 with (first
    | (go_at_call 10; (with_reducible refine (C0.out _ (by repeat (with_reducible first | assumption | exact grA | apply grB | apply grC | apply grD | refine grE ?_ (by omega) _ | refine grF ?_ (by omega) _ _))).mono ?_); rintro e w1 ⟨v1, rfl, rfl, H1⟩)
    | (go_at_call 12; (with_reducible refine (C1.out _ _ H1.out).mono ?_); rintro e w2 ⟨ix, B, rfl, hix, hg2, HI⟩))
  have k2 : w.grows w2 := World.grows.trans (by repeat (with_reducible first | assumption | exact grA | apply grB | apply grC | apply grD | refine grE ?_ (by omega) _ | refine grF ?_ (by omega) _ _)) hg2
  have kx : w.heap.size + 3 ≤ ix := by simp at hix; omega
  have r7 : w2.row w.heap.size = some (.cells #[.int .i64 a, .int .i64 b] 24) := (hg2.row_eq (by simp <;> omega)).trans (by simp [go_sem])
  have r8 : w2.row (w.heap.size + 1) = some (.cells #[.int .i64 c, .int .i64 d] 24) := (hg2.row_eq (by simp <;> omega)).trans (by simp [go_sem])
  have r9 : w2.row (w.heap.size + 2) = some (.cells #[.int .i64 e, .int .i64 f] 24) := (hg2.row_eq (by simp <;> omega)).trans (by simp [go_sem])
  clear H1 hg2 hix
  have HX := Lib.hid (C2.out ix B)
  refine wp_region_seq (S := fun W => W.row w.heap.size = some (.cells #[.int .i64 a, .int .i64 b] 24) ∧ W.row (w.heap.size + 1) = some (.cells #[.int .i64 c, .int .i64 d] 24) ∧ W.row (w.heap.size + 2) = some (.cells #[.int .i64 e, .int .i64 f] 24)) (by kernel_rfl) (by kernel_rfl) ?hs ?_
  case hs =>
    show (_ ∧ _ ∧ _)
    exact ⟨r7, r8, r9⟩
  show wpSeqL _ _ _ _ _ _ (World.drew _)
  have z7 := row_sz' r7; have z8 := row_sz' r8; have z9 := row_sz' r9
  (refine wpSeqL_free rfl ?_; refine wpQuiet_step (fun K hK => ?_); rw [if_pos (by simp [Region.wanted])]; refine ⟨.pointer (some ⟨ix, 0, none⟩), fun w' hw' => ?_, ?_⟩; (focus (obtain ⟨r1, r2, r3⟩ := hw'; have s1 := row_sz' r1; have s2 := row_sz' r2; simp [Oper.quietAt, Oper.quietUpon, go_sem, r1, r2, r3, s1, s2])); go_simp; refine hK _ ?_; clear hK K; refine wpQuiet_nil ?_)
  (refine wpSeqL_free rfl ?_; refine wpQuiet_step (fun K hK => ?_); rw [if_pos (by simp [Region.wanted])]; refine ⟨.string nm, fun w' hw' => ?_, ?_⟩; (focus (obtain ⟨r1, r2, r3⟩ := hw'; have s1 := row_sz' r1; have s2 := row_sz' r2; simp [Oper.quietAt, Oper.quietUpon, go_sem, r1, r2, r3, s1, s2])); go_simp; refine hK _ ?_; clear hK K; refine wpQuiet_nil ?_)
  (refine wpSeqL_free rfl ?_; refine wpQuiet_step (fun K hK => ?_); rw [if_pos (by simp [Region.wanted])]; refine ⟨.agg #[.int .i64 a, .int .i64 b], fun w' hw' => ?_, ?_⟩; (focus (obtain ⟨r1, r2, r3⟩ := hw'; have s1 := row_sz' r1; have s2 := row_sz' r2; simp [Oper.quietAt, Oper.quietUpon, go_sem, r1, r2, r3, s1, s2])); go_simp; refine hK _ ?_; clear hK K; refine wpQuiet_nil ?_)
  (refine wpSeqL_free rfl ?_; refine wpQuiet_step (fun K hK => ?_); rw [if_pos (by simp [Region.wanted])]; refine ⟨.agg #[.int .i64 c, .int .i64 d], fun w' hw' => ?_, ?_⟩; (focus (obtain ⟨r1, r2, r3⟩ := hw'; have s1 := row_sz' r1; have s2 := row_sz' r2; simp [Oper.quietAt, Oper.quietUpon, go_sem, r1, r2, r3, s1, s2])); go_simp; refine hK _ ?_; clear hK K; refine wpQuiet_nil ?_)
  refine wpSeqL_link rfl (fun K hK => ?_)
  go_simp
  (go_at_call 14; go_loud ((with_reducible refine (HX.out.flips a b c d _ _ WA.out WB.out WCC.out WD.out (Idx.grows HI.out (by repeat (with_reducible first | assumption | exact grA | apply grB | apply grC | apply grD | refine grE ?_ (by omega) _ | refine grF ?_ (by omega) _ _))) (by omega) (by omega)).mono ?_); rintro e w3 ⟨v3, l3, n3, rfl, o3, H3⟩))
  have s3 := On.row3 (o7 := (#[.int .i64 a, .int .i64 b], 24)) (o8 := (#[.int .i64 c, .int .i64 d], 24)) (o9 := (#[.int .i64 e, .int .i64 f], 24)) o3 kx ⟨r7, r8, r9⟩
  refine ⟨_, rfl, hK _ _ s3 ?_⟩
  clear hK K
  (refine wpSeqL_free rfl ?_; refine wpQuiet_step (fun K hK => ?_); rw [if_pos (by simp [Region.wanted])]; refine ⟨.pointer (some ⟨ix, 0, none⟩), fun w' hw' => ?_, ?_⟩; (focus (obtain ⟨r1, r2, r3⟩ := hw'; have s1 := row_sz' r1; have s2 := row_sz' r2; simp [Oper.quietAt, Oper.quietUpon, go_sem, r1, r2, r3, s1, s2])); go_simp; refine hK _ ?_; clear hK K; refine wpQuiet_nil ?_)
  (refine wpSeqL_free rfl ?_; refine wpQuiet_step (fun K hK => ?_); rw [if_pos (by simp [Region.wanted])]; refine ⟨.string nm, fun w' hw' => ?_, ?_⟩; (focus (obtain ⟨r1, r2, r3⟩ := hw'; have s1 := row_sz' r1; have s2 := row_sz' r2; simp [Oper.quietAt, Oper.quietUpon, go_sem, r1, r2, r3, s1, s2])); go_simp; refine hK _ ?_; clear hK K; refine wpQuiet_nil ?_)
  (refine wpSeqL_free rfl ?_; refine wpQuiet_step (fun K hK => ?_); rw [if_pos (by simp [Region.wanted])]; refine ⟨.agg #[.int .i64 c, .int .i64 d], fun w' hw' => ?_, ?_⟩; (focus (obtain ⟨r1, r2, r3⟩ := hw'; have s1 := row_sz' r1; have s2 := row_sz' r2; simp [Oper.quietAt, Oper.quietUpon, go_sem, r1, r2, r3, s1, s2])); go_simp; refine hK _ ?_; clear hK K; refine wpQuiet_nil ?_)
  (refine wpSeqL_free rfl ?_; refine wpQuiet_step (fun K hK => ?_); rw [if_pos (by simp [Region.wanted])]; refine ⟨.agg #[.int .i64 e, .int .i64 f], fun w' hw' => ?_, ?_⟩; (focus (obtain ⟨r1, r2, r3⟩ := hw'; have s1 := row_sz' r1; have s2 := row_sz' r2; simp [Oper.quietAt, Oper.quietUpon, go_sem, r1, r2, r3, s1, s2])); go_simp; refine hK _ ?_; clear hK K; refine wpQuiet_nil ?_)
  refine wpSeqL_link rfl (fun K hK => ?_)
  go_simp
  (go_at_call 14; go_loud ((with_reducible refine (HX.out.flips c d e f _ _ WCC.out WD.out WE.out WF.out H3.out.1 H3.out.2.1 (by have := H3.out.2.2.1; have := HL.out; omega)).mono ?_); rintro e w4 ⟨v4, l4, n4, rfl, o4, H4⟩))
  have s4 := On.row3 (o7 := (#[.int .i64 a, .int .i64 b], 24)) (o8 := (#[.int .i64 c, .int .i64 d], 24)) (o9 := (#[.int .i64 e, .int .i64 f], 24)) o4 kx s3
  refine ⟨_, rfl, hK _ _ s4 ?_⟩
  clear hK K
  (refine wpSeqL_free rfl ?_; refine wpQuiet_step (fun K hK => ?_); rw [if_pos (by simp [Region.wanted])]; refine ⟨.pointer (some ⟨ix, 0, none⟩), fun w' hw' => ?_, ?_⟩; (focus (obtain ⟨r1, r2, r3⟩ := hw'; have s1 := row_sz' r1; have s2 := row_sz' r2; simp [Oper.quietAt, Oper.quietUpon, go_sem, r1, r2, r3, s1, s2])); go_simp; refine hK _ ?_; clear hK K; refine wpQuiet_nil ?_)
  (refine wpSeqL_free rfl ?_; refine wpQuiet_step (fun K hK => ?_); rw [if_pos (by simp [Region.wanted])]; refine ⟨.string nm, fun w' hw' => ?_, ?_⟩; (focus (obtain ⟨r1, r2, r3⟩ := hw'; have s1 := row_sz' r1; have s2 := row_sz' r2; simp [Oper.quietAt, Oper.quietUpon, go_sem, r1, r2, r3, s1, s2])); go_simp; refine hK _ ?_; clear hK K; refine wpQuiet_nil ?_)
  (refine wpSeqL_free rfl ?_; refine wpQuiet_step (fun K hK => ?_); rw [if_pos (by simp [Region.wanted])]; refine ⟨.agg #[.int .i64 a, .int .i64 b], fun w' hw' => ?_, ?_⟩; (focus (obtain ⟨r1, r2, r3⟩ := hw'; have s1 := row_sz' r1; have s2 := row_sz' r2; simp [Oper.quietAt, Oper.quietUpon, go_sem, r1, r2, r3, s1, s2])); go_simp; refine hK _ ?_; clear hK K; refine wpQuiet_nil ?_)
  (refine wpSeqL_free rfl ?_; refine wpQuiet_step (fun K hK => ?_); rw [if_pos (by simp [Region.wanted])]; refine ⟨.agg #[.int .i64 e, .int .i64 f], fun w' hw' => ?_, ?_⟩; (focus (obtain ⟨r1, r2, r3⟩ := hw'; have s1 := row_sz' r1; have s2 := row_sz' r2; simp [Oper.quietAt, Oper.quietUpon, go_sem, r1, r2, r3, s1, s2])); go_simp; refine hK _ ?_; clear hK K; refine wpQuiet_nil ?_)
  refine wpSeqL_link rfl (fun K hK => ?_)
  go_simp
  (go_at_call 14; go_loud ((with_reducible refine (HX.out.flips a b e f _ _ WA.out WB.out WE.out WF.out H4.out.1 (by have := H3.out.2.1; have := H4.out.2.1; omega) (by have := H3.out.2.2.1; have := H4.out.2.2.1; have := HL.out; omega)).mono ?_); rintro e w5 ⟨v5, l5, n5, rfl, o5, H5⟩))
  have s5 := On.row3 (o7 := (#[.int .i64 a, .int .i64 b], 24)) (o8 := (#[.int .i64 c, .int .i64 d], 24)) (o9 := (#[.int .i64 e, .int .i64 f], 24)) o5 kx s4
  refine ⟨_, rfl, hK _ _ s5 ?_⟩
  clear hK K
  (refine wpSeqL_free rfl ?_; refine wpQuiet_step (fun K hK => ?_); rw [if_pos (by simp [Region.wanted])]; refine ⟨v3, fun w' hw' => ?_, ?_⟩; (focus (obtain ⟨r1, r2, r3⟩ := hw'; have s1 := row_sz' r1; have s2 := row_sz' r2; simp [Oper.quietAt, Oper.quietUpon, go_sem, r1, r2, r3, s1, s2])); go_simp; refine hK _ ?_; clear hK K; refine wpQuiet_nil ?_)
  (refine wpSeqL_free rfl ?_; refine wpQuiet_step (fun K hK => ?_); rw [if_pos (by simp [Region.wanted])]; refine ⟨v4, fun w' hw' => ?_, ?_⟩; (focus (obtain ⟨r1, r2, r3⟩ := hw'; have s1 := row_sz' r1; have s2 := row_sz' r2; simp [Oper.quietAt, Oper.quietUpon, go_sem, r1, r2, r3, s1, s2])); go_simp; refine hK _ ?_; clear hK K; refine wpQuiet_nil ?_)
  (refine wpSeqL_free rfl ?_; refine wpQuiet_step (fun K hK => ?_); rw [if_pos (by simp [Region.wanted])]; refine ⟨v5, fun w' hw' => ?_, ?_⟩; (focus (obtain ⟨r1, r2, r3⟩ := hw'; have s1 := row_sz' r1; have s2 := row_sz' r2; simp [Oper.quietAt, Oper.quietUpon, go_sem, r1, r2, r3, s1, s2])); go_simp; refine hK _ ?_; clear hK K; refine wpQuiet_nil ?_)
  refine wpSeqL_end ?_
  have k5 : w.grows w5 := o5.gr w (by omega) (o4.gr w (by omega) (o3.gr w (by omega) (by repeat (with_reducible first | assumption | exact grA | apply grB | apply grC | apply grD | refine grE ?_ (by omega) _ | refine grF ?_ (by omega) _ _))))
  have A3 := Lib.hid ((H3.out.2.2.2.1.on o4).on o5); have A4 := Lib.hid (H4.out.2.2.2.1.on o5); have A5 := Lib.hid H5.out.2.2.2.1
  have R3 := Lib.hid H3.out.2.2.2.2; have R4 := Lib.hid H4.out.2.2.2.2; have R5 := Lib.hid H5.out.2.2.2.2
  have hn5 : 0 ≤ n5 ∧ n5 ≤ 600 := by
    have e1 := H3.out.2.1; have e2 := H3.out.2.2.1; have e3 := H4.out.2.1; have e4 := H4.out.2.2.1; have e5 := H5.out.2.1; have e6 := H5.out.2.2.1; have e7 := HL.out
    exact ⟨by omega, by omega⟩
  have HN5 := Lib.hid hn5
  have HI5 := Lib.hid H5.out.1
  have m3 := ids_len _ _ R3.out; have m4 := ids_len _ _ R4.out; have m5 := ids_len _ _ R5.out
  have M := Lib.hid (⟨m3, m4, m5⟩ : _ ∧ _ ∧ _)
  obtain ⟨a3, c3, rfl, _, _⟩ := A3.out.at.len
  obtain ⟨a4, c4, rfl, _, _⟩ := A4.out.at.len
  obtain ⟨a5, c5, rfl, _, _⟩ := A5.out.at.len
  obtain ⟨t7, t8, t9⟩ := s5
  clear r7 r8 r9 z7 z8 z9 s3 s4 H3 H4 H5 o3 o4 o5 HI k2 hn5 m3 m4 m5 w3 w4
  have z7 := row_sz' t7; have z8 := row_sz' t8; have z9 := row_sz' t9
  go_upto_region 5 with (first
    | (go_at_call 14; (with_reducible refine (HX.out.flips c d a b _ n5 WCC.out WD.out WA.out WB.out HI5.out HN5.out.1 (by have := HN5.out.2; omega)).mono ?_); rintro e w6 ⟨v6, l6, n6, rfl, o6, H6⟩; obtain rfl : l6 = l3 := (H6.out.2.2.2.2).uniq (by rw [flipR_swap]; exact R3.out); have y7 := (o6.row _ (by omega) z7.1).trans t7; have q7 := row_sz' y7)
    | (go_at_call 13; (with_reducible refine (ints_eq _ _ l6 _ ((A3.out.on o6).grow (by repeat (with_reducible first | assumption | exact grA | apply grB | apply grC | apply grD | refine grE ?_ (by omega) _ | refine grF ?_ (by omega) _ _))).at (H6.out.2.2.2.1.grow (by repeat (with_reducible first | assumption | exact grA | apply grB | apply grC | apply grD | refine grE ?_ (by omega) _ | refine grF ?_ (by omega) _ _))).at).mono ?_); rintro e w5' ⟨rfl, x5, rfl⟩)
    | (go_at_call 14; (with_reducible refine (HX.out.flips a b a b _ n6 WA.out WB.out WA.out WB.out (Idx.grows H6.out.1 (by repeat (with_reducible first | assumption | exact grA | apply grB | apply grC | apply grD | refine grE ?_ (by omega) _ | refine grF ?_ (by omega) _ _))) (by have := HN5.out.1; have := H6.out.2.1; omega) (by have := HN5.out.2; have := H6.out.2.2.1; have := HL.out; omega)).mono ?_); rintro e w7 ⟨v7, l7, n7, rfl, o7, H7⟩; obtain rfl : l7 = [] := (by have h7 := H7.out.2.2.2.2; rw [flipR_spot] at h7; exact h7.uniq rise_nil); obtain ⟨a7, c7, rfl, _, _⟩ := H7.out.2.2.2.1.at.len))
  have k6 : w.grows w6 := o6.gr w (by omega) k5
  have k7 : w.grows w7 := o7.gr w (by omega) (by repeat (with_reducible first | assumption | exact grA | apply grB | apply grC | apply grD | refine grE ?_ (by omega) _ | refine grF ?_ (by omega) _ _))
  have B3 := Lib.hid (((A3.out.on o6).grow (W := w6.plus x5) (by repeat (with_reducible first | assumption | exact grA | apply grB | apply grC | apply grD | refine grE ?_ (by omega) _ | refine grF ?_ (by omega) _ _))).on o7)
  have B4 := Lib.hid (((A4.out.on o6).grow (W := w6.plus x5) (by repeat (with_reducible first | assumption | exact grA | apply grB | apply grC | apply grD | refine grE ?_ (by omega) _ | refine grF ?_ (by omega) _ _))).on o7)
  have B5 := Lib.hid (((A5.out.on o6).grow (W := w6.plus x5) (by repeat (with_reducible first | assumption | exact grA | apply grB | apply grC | apply grD | refine grE ?_ (by omega) _ | refine grF ?_ (by omega) _ _))).on o7)
  have y8 := (o6.row _ (by omega) z8.1).trans t8
  have q8 := row_sz' y8
  have r7 : w7.row w.heap.size = some (.cells #[.int .i64 a, .int .i64 b] 24) := (o7.row _ (by omega) (by simp <;> omega)).trans (by simp [go_sem, y7, q7])
  have r8 : w7.row (w.heap.size + 1) = some (.cells #[.int .i64 c, .int .i64 d] 24) := (o7.row _ (by omega) (by simp <;> omega)).trans (by simp [go_sem, y8, q8])
  have HI7 := Lib.hid H7.out.1
  have hup := putAll_up R3.out.1 l4
  have HUP := Lib.hid hup
  have M3 := M.out.1; have M4 := M.out.2.1; have M5 := M.out.2.2; have hL := HL.out
  have hn6 : l6.length ≤ 200 := by omega
  have hn4 : l4.length ≤ 200 := by omega
  have hn5 : l5.length ≤ 200 := by omega
  clear H6 H7 o6 o7 A3 A4 A5 y7 y8 q7 q8 t7 t8 t9 z7 z8 z9 k5 k6 hup M3 M4 M5 hL HI5 HN5
  go_wp2_with (at_builtin; go_loud (refine wpList_appFullN (n := 1) (by' := 8) (z := .int .i64 0) rfl (.tmp 59) (.tmp 60) 26 rfl 3 (fun (x : Int) cs => cs = [Value.int .i64 x]) (fun x => [Value.int .i64 x]) Try.underlying26 (by kernel_rfl) rfl (by omega) (by omega) (fun _ _ h => h) (fun x u hu => by simp at hu; subst hu; simp [Value.oneCell']) (l := []) (r := l6) rfl (IntsAt_empty _ _ rfl (by omega)) rfl (IntsAt.grow B3.out.at (by repeat (with_reducible first | assumption | exact grA | apply grB | apply grC | apply grD | refine grE ?_ (by omega) _ | refine grF ?_ (by omega) _ _))) (by simp; omega) ?_; intro A8 N8 c8 w8 hn8 hg8 hI8))
  have g78 : w7.grows w8 := World.grows.trans (by repeat (with_reducible first | assumption | exact grA | apply grB | apply grC | apply grD | refine grE ?_ (by omega) _ | refine grF ?_ (by omega) _ _)) hg8
  have k8 : w.grows w8 := k7.trans g78
  go_loopg [15, 64] l4.length (fun gn v15 v64 wj => ∃ i : Nat, Hid (gn + i = l4.length ∧ i ≤ l4.length) ∧ v64 = .int .i64 i ∧ w8.grows wj ∧ Hid (IntsAt wj v15 (putAll l6 (l4.take i))))
  case atStart => exact ⟨0, Lib.hid ⟨by simp, Nat.zero_le _⟩, by go_num, (by repeat (with_reducible first | assumption | exact grA | apply grB | apply grC | apply grD | refine grE ?_ (by omega) _ | refine grF ?_ (by omega) _ _)), Lib.hid (by simpa [putAll] using hI8.out)⟩
  case round =>
    obtain ⟨i, HK, rfl, hgj, HV⟩ := hrel
    obtain ⟨j1, j2⟩ := HK.out
    by_cases hlt : i < l4.length
    · have i1 : (i : Int) < (l4.length : Int) := by omega
      have hgt := List.getElem?_eq_getElem hlt
      obtain ⟨_, _, e4, _, _, b5⟩ := B4.out
      injection e4 with e4 e5 e6
      clear e5
      subst e4; subst e6
      rcases b5 with h0 | ⟨g, off, rfl, _, h4⟩
      · rw [h0] at hlt; simp at hlt
      obtain ⟨cs, _, el, rfl⟩ := h4 i _ hgt
      have c0 := (el.grows (g78.trans hgj)).cell (j := 0) rfl
      rw [World.cell?_row, Nat.add_zero, Nat.mul_one] at c0
      have zg := lt_sz (el.grows (g78.trans hgj)).lt
      have hps := putAll_succ (R := l6) hgt
      have hpl := putAll_len l6 l4 i
      generalize l4[i] = X at *
      have hpt := fun W hW => put_any u15 (putAll l6 (l4.take i)) X W (HV.out.grow hW) (by omega)
      have HPT := Lib.hid hpt; have HPS := Lib.hid hps
      clear hpt hps h4 el hgt
      go_wp2_with (go_at_call 22; (with_reducible refine (HPT.out _ (by repeat (with_reducible first | assumption | exact grA | apply grB | apply grC | apply grD | refine grE ?_ (by omega) _ | refine grF ?_ (by omega) _ _))).mono ?_); rintro e wp ⟨vp, rfl, hgp, hIp⟩; have hgp2 : w8.grows wp := World.grows.trans hgj (World.grows.trans (by repeat (with_reducible first | assumption | exact grA | apply grB | apply grC | apply grD | refine grE ?_ (by omega) _ | refine grF ?_ (by omega) _ _)) hgp); have HIp := Lib.hid hIp; clear hIp)
      go_roundg (l4.length - (i + 1))
      case rel => exact ⟨i + 1, Lib.hid ⟨by omega, by omega⟩, by go_num, hgp2, Lib.hid (by rw [HPS.out]; exact HIp.out)⟩
      case measure => omega
    · have i1 : ¬ (i : Int) < (l4.length : Int) := by omega
      obtain rfl : i = l4.length := by omega
      have hpl := putAll_len l6 l4 l4.length
      rw [List.take_length] at HV hpl
      obtain ⟨A9, c9, rfl, _, _⟩ := HV.out.len
      have PT : ∀ W x, wr.grows W → x ∈ putAll l6 l4 → Calls Try.prog 22 #[.slice A9 (putAll l6 l4).length c9, .int .i64 x] W fun e w' => ∃ A' c', e = .returned (.slice A' (putAll l6 l4).length c') ∧ W.grows w' := fun W x hW hx => (put_any _ _ x W (HV.out.grow hW) (by omega)).mono fun e w' ⟨v', q1, q2, q3⟩ => by
        rw [putL_in HUP.out.1 hx] at q3
        obtain ⟨A', c', e', _, _⟩ := q3.len
        exact ⟨A', c', by rw [q1, e'], q2⟩
      have hmem : ∀ x ∈ l5, x ∈ putAll l6 l4 := fun x hx => (HUP.out.2 x).2 (by
        rcases way_half (c := c) (d := d) ((R5.out.2 x).1 hx) with h | h
        · exact .inl ((R3.out.2 x).2 h)
        · exact .inr ((R4.out.2 x).2 h))
      have HPT := Lib.hid PT; have HM := Lib.hid hmem
      have g7r : w7.grows wr := g78.trans hgj
      clear PT hmem hpl HV
      generalize (putAll l6 l4).length = P at *
      generalize wr = wo at *
      go_wp2_with fail
      go_loopg [74] l5.length (fun gn v74 wj => ∃ i : Nat, Hid (gn + i = l5.length ∧ i ≤ l5.length) ∧ v74 = .int .i64 i ∧ wo.grows wj)
      case atStart => exact ⟨0, Lib.hid ⟨by simp, Nat.zero_le _⟩, by go_num, (by repeat (with_reducible first | assumption | exact grA | apply grB | apply grC | apply grD | refine grE ?_ (by omega) _ | refine grF ?_ (by omega) _ _))⟩
      case round =>
        obtain ⟨i, HK2, rfl, hgk⟩ := hrel
        obtain ⟨j1, j2⟩ := HK2.out
        by_cases hlt2 : i < l5.length
        · have i2 : (i : Int) < (l5.length : Int) := by omega
          have hgt := List.getElem?_eq_getElem hlt2
          have hmx := HM.out _ (List.getElem_mem hlt2)
          obtain ⟨_, _, e4, _, _, b5⟩ := B5.out
          injection e4 with e4 e5 e6
          clear e5
          subst e4; subst e6
          rcases b5 with h0 | ⟨g, off, rfl, _, h4⟩
          · rw [h0] at hlt2; simp at hlt2
          obtain ⟨cs, _, el, rfl⟩ := h4 i _ hgt
          have c0 := (el.grows (g7r.trans hgk)).cell (j := 0) rfl
          rw [World.cell?_row, Nat.add_zero, Nat.mul_one] at c0
          have zg := lt_sz (el.grows (g7r.trans hgk)).lt
          generalize l5[i] = X at *
          have hpt := fun W hW => HPT.out W X hW hmx
          have HPX := Lib.hid hpt
          clear hpt h4 el hgt hmx
          go_wp2_with (go_at_call 22; (with_reducible refine (HPX.out _ (World.grows.trans hgk (by repeat (with_reducible first | assumption | exact grA | apply grB | apply grC | apply grD | refine grE ?_ (by omega) _ | refine grF ?_ (by omega) _ _)))).mono ?_); rintro e wp ⟨Ap, cp, rfl, hgp⟩; have hgp2 : wo.grows wp := World.grows.trans hgk (World.grows.trans (by repeat (with_reducible first | assumption | exact grA | apply grB | apply grC | apply grD | refine grE ?_ (by omega) _ | refine grF ?_ (by omega) _ _)) hgp))
          go_roundg (l5.length - (i + 1))
          case rel => exact ⟨i + 1, Lib.hid ⟨by omega, by omega⟩, by go_num, hgp2⟩
          case measure => omega
        · have i2 : ¬ (i : Int) < (l5.length : Int) := by omega
          obtain rfl : i = l5.length := by omega
          have gor : w7.grows wr := g7r.trans hgk
          have gr7 := (gor.row_eq (row_sz' r7).1).trans r7
          have gr8 := (gor.row_eq (row_sz' r8).1).trans r8
          have gz7 := row_sz' gr7; have gz8 := row_sz' gr8
          have kwr : w.grows wr := k7.trans gor
          have tA := HX.out.true a b wr n7 WA.out WB.out (Idx.grows HI7.out gor)
          have TA := Lib.hid tA
          have gor8 := Lib.hid (⟨gr8, gz8.1⟩ : _ ∧ _)
          clear tA
          go_upto_region 18 with (go_at_call 20; go_loud ((with_reducible refine TA.out.mono ?_); rintro e wA ⟨vA, lA, rfl, hgA, HA⟩))
          obtain ⟨aA, cA, rfl, _, _⟩ := HA.out.1.at.len
          have gr9 := (hgA.row_eq gor8.out.2).trans gor8.out.1
          have gz9 := row_sz' gr9
          have tB := HX.out.true c d wA n7 WCC.out WD.out (Idx.grows HI7.out (gor.trans hgA))
          have TB := Lib.hid tB
          clear tB
          go_upto_region 19 with (go_at_call 20; go_loud ((with_reducible refine TB.out.mono ?_); rintro e wB ⟨vB, lB, rfl, hgB, HB⟩))
          obtain ⟨aB, cB, rfl, _, _⟩ := HB.out.1.at.len
          have RA := Lib.hid HA.out.2; have RB := Lib.hid HB.out.2
          have gAB : w7.grows wB := gor.trans (hgA.trans hgB)
          have kB : w.grows wB := k7.trans gAB
          have IA := Lib.hid (HA.out.1.grow hgB).at; have IB := Lib.hid HB.out.1.at
          have I3 := Lib.hid (B3.out.grow gAB).at
          have hlB := ids_len _ _ RB.out; have hlL := HL.out
          have P3 : ∀ W x, wB.grows W → x ∈ l6 → Calls Try.prog 22 #[.slice a3 l6.length c3, .int .i64 x] W fun e w' => ∃ A' c', e = .returned (.slice A' l6.length c') ∧ W.grows w' := fun W x hW hx => (put_any _ _ x W (I3.out.grow hW) (by omega)).mono fun e w' ⟨v', q1, q2, q3⟩ => by
            rw [putL_in R3.out.1 hx] at q3
            obtain ⟨A', c', e', _, _⟩ := q3.len
            exact ⟨A', c', by rw [q1, e'], q2⟩
          have PB : ∀ W x, wB.grows W → Calls Try.prog 22 #[.slice aB lB.length cB, .int .i64 x] W fun e w' => ∃ A' c', e = .returned (.slice A' (putL lB x).length c') ∧ W.grows w' := fun W x hW => (put_any _ _ x W (IB.out.grow hW) (by omega)).mono fun e w' ⟨v', q1, q2, q3⟩ => by
            obtain ⟨A', c', e', _, _⟩ := q3.len
            exact ⟨A', c', by rw [q1, e'], q2⟩
          have hor : ∀ x ∈ lA, (putL lB x).length = lB.length ∨ x ∈ l6 := fun x hx => by
            rcases true_or (c := c) (d := d) ((RA.out.2 x).1 hx) with h | h
            · left; rw [putL_in RB.out.1 ((RB.out.2 x).2 h)]
            · right; exact (R3.out.2 x).2 h
          have HP3 := Lib.hid P3; have HPB := Lib.hid PB; have HOR := Lib.hid hor
          clear P3 PB hor HA HB TA TB hlB hlL
          go_wp2_with fail
          go_loopg [96] lA.length (fun gn v96 wj => ∃ i : Nat, Hid (gn + i = lA.length ∧ i ≤ lA.length) ∧ v96 = .int .i64 i ∧ wB.grows wj)
          case atStart => exact ⟨0, Lib.hid ⟨by simp, Nat.zero_le _⟩, by go_num, (by repeat (with_reducible first | assumption | exact grA | apply grB | apply grC | apply grD | refine grE ?_ (by omega) _ | refine grF ?_ (by omega) _ _))⟩
          case round =>
            obtain ⟨i, HK3, rfl, hgm⟩ := hrel
            obtain ⟨j1, j2⟩ := HK3.out
            by_cases hlt3 : i < lA.length
            · have i3 : (i : Int) < (lA.length : Int) := by omega
              have hgt := List.getElem?_eq_getElem hlt3
              have hox := HOR.out _ (List.getElem_mem hlt3)
              obtain ⟨_, _, e4, _, _, b5⟩ := IA.out
              injection e4 with e4 e5 e6
              clear e5
              subst e4; subst e6
              rcases b5 with h0 | ⟨g, off, rfl, _, h4⟩
              · rw [h0] at hlt3; simp at hlt3
              obtain ⟨cs, _, el, rfl⟩ := h4 i _ hgt
              have c0 := (el.grows hgm).cell (j := 0) rfl
              rw [World.cell?_row, Nat.add_zero, Nat.mul_one] at c0
              have zg := lt_sz (el.grows hgm).lt
              generalize lA[i] = X at *
              have hpb := fun W hW => HPB.out W X hW
              have hp3 := fun W hW hX => HP3.out W X hW hX
              clear h4 el hgt
              generalize (putL lB X).length = m at *
              have HP3' := Lib.hid hp3
              clear hp3
              by_cases hm : m = lB.length
              · subst hm
                have HPB' := Lib.hid hpb
                clear hpb hox
                go_wp2_with (go_at_call 22; (with_reducible refine (HPB'.out _ (World.grows.trans hgm (by repeat (with_reducible first | assumption | exact grA | apply grB | apply grC | apply grD | refine grE ?_ (by omega) _ | refine grF ?_ (by omega) _ _)))).mono ?_); rintro e wp ⟨Ap, cp, rfl, hgp⟩; have hgp2 : wB.grows wp := World.grows.trans hgm (World.grows.trans (by repeat (with_reducible first | assumption | exact grA | apply grB | apply grC | apply grD | refine grE ?_ (by omega) _ | refine grF ?_ (by omega) _ _)) hgp))
                go_roundg (lA.length - (i + 1))
                case rel => exact ⟨i + 1, Lib.hid ⟨by omega, by omega⟩, by go_num, hgp2⟩
                case measure => omega
              · have hX : X ∈ l6 := by
                  rcases hox with h | h
                  · exact (hm h).elim
                  · exact h
                have HPB' := Lib.hid hpb
                have hm1 : ((m : Int) == (lB.length : Int)) = false := by rw [beq_eq_false_iff_ne]; omega
                have hm2 : ¬ (m : Int) = (lB.length : Int) := by omega
                have HXX := Lib.hid hX
                clear hpb hox hX
                go_wp2_with (first
                  | (go_at_call 22; (with_reducible refine (HP3'.out _ (World.grows.trans hgp2 (by repeat (with_reducible first | assumption | exact grA | apply grB | apply grC | apply grD | refine grE ?_ (by omega) _ | refine grF ?_ (by omega) _ _))) HXX.out).mono ?_); rintro e wq ⟨Aq, cq, rfl, hgq⟩; have hgq2 : wB.grows wq := World.grows.trans hgp2 (World.grows.trans (by repeat (with_reducible first | assumption | exact grA | apply grB | apply grC | apply grD | refine grE ?_ (by omega) _ | refine grF ?_ (by omega) _ _)) hgq))
                  | (go_at_call 22; (with_reducible refine (HPB'.out _ (World.grows.trans hgm (by repeat (with_reducible first | assumption | exact grA | apply grB | apply grC | apply grD | refine grE ?_ (by omega) _ | refine grF ?_ (by omega) _ _)))).mono ?_); rintro e wp ⟨Ap, cp, rfl, hgp⟩; have hgp2 : wB.grows wp := World.grows.trans hgm (World.grows.trans (by repeat (with_reducible first | assumption | exact grA | apply grB | apply grC | apply grD | refine grE ?_ (by omega) _ | refine grF ?_ (by omega) _ _)) hgp)))
                go_roundg (lA.length - (i + 1))
                case rel => exact ⟨i + 1, Lib.hid ⟨by omega, by omega⟩, by go_num, hgq2⟩
                case measure => omega
            · have i3 : ¬ (i : Int) < (lA.length : Int) := by omega
              have kw : w.grows wr := kB.trans hgm
              go_wp2_with (go_at_call 16; (with_reducible refine (awake24_any _).mono ?_); rintro e w9 ⟨rfl, x9, rfl⟩)
              go_ret
              exact ⟨rfl, (by repeat (with_reducible first | assumption | exact grA | apply grB | apply grC | apply grD | refine grE ?_ (by omega) _ | refine grF ?_ (by omega) _ _))⟩

theorem pointWays_own : ownKnob Try.prog.godebug = none := by kernel_rfl
theorem pointWays_laidOut : laidOutB Try.prog = true := by kernel_rfl
set_option maxRecDepth 100000 in
set_option maxHeartbeats 2000000 in
theorem pointWays_lifted (os : Os) (started : os.Started) (H : Type) (enc : TypeId × Value → H) :
    ReturnsInHanded {} Try.checked os 6 .any (Rows.pointWaysSpec.pre6 enc Try.prog Try.f6 Rows.pointWaysRow.domain false) (Rows.pointWaysSpec.post enc Try.prog Try.f6 false true false false) := by
  refine returnsInHanded_of_change (C := Try.checked) pointWays_own started (by kernel_rfl) Try.func6
    (ChangeSpec.witness6 (enc := enc) (C := Try.checked) false ⟨#[], #[.slice none 0 0, .string ByteArray.empty, .agg #[.int .i64 0, .int .i64 0], .agg #[.int .i64 0, .int .i64 0], .agg #[.int .i64 0, .int .i64 0]], []⟩ 8 (by kernel_rfl) (by kernel_rfl) (by kernel_rfl) (by kernel_rfl)) ?_
  intro W base args ds gs before hval0 hW hcnd _
  have hval : ∀ (j : Nat) t v, Try.f6.params[j]? = some t → args[j]? = some v → Value.okWide Try.prog W .any base t v := hval0
  have hW' := hW
  obtain ⟨p, q, hA0, hV, rfl, hfz, hnd⟩ := hW
  have hA : DataW.TrodAll enc Try.prog W 0 (fun _ => true) true Try.f6.params.toList args.toList ds p := hA0
  rw [Try.params6] at hA hval
  obtain ⟨v0, vs0, d0, ds0, p0, q0, hargs, rfl, rfl, h0, r0⟩ := trodAll_cons hA
  obtain ⟨v1, vs1, d1, ds1, p1, q1, rfl, rfl, rfl, h1, r1⟩ := trodAll_cons r0
  obtain ⟨v2, vs2, d2, ds2, p2, q2, rfl, rfl, rfl, h2, r2⟩ := trodAll_cons r1
  obtain ⟨v3, vs3, d3, ds3, p3, q3, rfl, rfl, rfl, h3, r3⟩ := trodAll_cons r2
  obtain ⟨v4, vs4, d4, ds4, p4, q4, rfl, rfl, rfl, h4, r4⟩ := trodAll_cons r3
  obtain ⟨rfl, rfl, rfl⟩ := trodAll_nil r4
  obtain rfl : args = #[v0, v1, v2, v3, v4] := by cases args; simp_all
  obtain ⟨rfl, rfl⟩ := trodVars_none hV
  have k0 := h0
  have lt0 : ∀ x ∈ p0, x.block < W.heap.size := by obtain ⟨m, hm⟩ := k0; exact DataW.trod_lt m _ _ _ hm
  have k1 := h1
  have lt1 : ∀ x ∈ p1, x.block < W.heap.size := by obtain ⟨m, hm⟩ := k1; exact DataW.trod_lt m _ _ _ hm
  have k2 := h2
  have lt2 : ∀ x ∈ p2, x.block < W.heap.size := by obtain ⟨m, hm⟩ := k2; exact DataW.trod_lt m _ _ _ hm
  have k3 := h3
  have lt3 : ∀ x ∈ p3, x.block < W.heap.size := by obtain ⟨m, hm⟩ := k3; exact DataW.trod_lt m _ _ _ hm
  have k4 := h4
  have lt4 : ∀ x ∈ p4, x.block < W.heap.size := by obtain ⟨m, hm⟩ := k4; exact DataW.trod_lt m _ _ _ hm
  obtain ⟨l, h_l⟩ := lines_arg (hval 0 22 v0 rfl rfl) h0
  obtain ⟨nm, rfl, _, _, wnm⟩ := open_string Try.underlying9 (hval 1 9 v1 rfl rfl) h1
  obtain ⟨a, b, rfl, w2_0, w2_1⟩ := rat_arg (hval 2 24 v2 rfl rfl) h2
  obtain ⟨c, d, rfl, w3_0, w3_1⟩ := rat_arg (hval 3 24 v3 rfl rfl) h3
  obtain ⟨e, f, rfl, w4_0, w4_1⟩ := rat_arg (hval 4 24 v4 rfl rfl) h4
  clear hA0 hval0
  refine (pointWays_any v0 l nm a b c d e f W h_l wnm w2_0 w2_1 w3_0 w3_1 w4_0 w4_1).mono fun e W' ⟨he, grw⟩ => ?_
  subst he
  have bel := grw.below
  exact ⟨_, rfl, _, _, _, [], _, [], hW', trodAll_mk1 (shut_bool Try.underlying4 _), (trodAll_cons_mk (Below.trod pointWays_laidOut (by kernel_rfl) (of_decide_eq_true (by kernel_rfl)) k0 bel lt0) (trodAll_cons_mk (Below.trod pointWays_laidOut (by kernel_rfl) (of_decide_eq_true (by kernel_rfl)) k1 bel lt1) (trodAll_cons_mk (Below.trod pointWays_laidOut (by kernel_rfl) (of_decide_eq_true (by kernel_rfl)) k2 bel lt2) (trodAll_cons_mk (Below.trod pointWays_laidOut (by kernel_rfl) (of_decide_eq_true (by kernel_rfl)) k3 bel lt3) (trodAll_cons_mk (Below.trod pointWays_laidOut (by kernel_rfl) (of_decide_eq_true (by kernel_rfl)) k4 bel lt4) trodAll_mk0))))), rfl, bel.frame _, fun h => by cases h⟩

/-- THE STATEMENT -/
theorem pointWays_holds : Rows.PointWaysSaid :=
  OpenClaim.holds_of_wide 6 Try.f6 rfl rfl rfl rfl rfl rfl rfl ⟨rfl, rfl, rfl, rfl, rfl⟩ rfl rfl rfl rfl rfl (by kernel_rfl) Try.func6 (by kernel_rfl)
    (of_decide_eq_true (by kernel_rfl)) (by unfold Func.isWrapper; first | (rw [if_pos (by decide +kernel)]; kernel_rfl) | (rw [if_neg (by decide +kernel)]; exact ⟨rfl, rfl⟩))
    (fun os started H enc _ => pointWays_lifted os started H enc)
#print axioms pointWays_holds
end Go.Proofs.Ytjfccilmlmimaaa
