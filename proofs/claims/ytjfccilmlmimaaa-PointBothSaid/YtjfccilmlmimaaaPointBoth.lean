/- PointBoth is true for every input: an index of two lists tells what both tell together. No condition. -/
import Derived.Test.YtjfccilmlmimaaaBothP
import Derived.Test.YtjfccilmlmimaaaArgsL
import Derived.Test.YtjfccilmlmimaaaRows
set_option linter.unusedSimpArgs false
set_option linter.unusedVariables false
namespace Go.Proofs.Ytjfccilmlmimaaa
open Go.RowKit Go.Maps Go.ChangeShapes Go.WideShapes Go.ChangeAt
open Go.ChangeMaps (open_string shut_string)

theorem own_empty {w : World} {g B n : Nat} {e : TypeId} (h : w.row g = some (.cells #[] e)) (hB : B ≤ g) : w.ownsRow B e n (.slice (some ⟨g, 0, none⟩) 0 0) 0 [] :=
  ⟨by simp, .inr ⟨g, 0, #[], rfl, hB, by simpa [World.row] using h, by omega, by simp, by simp, by simp⟩⟩
theorem lines_news {W : World} {a : Option Addr} {c : Nat} {l : List Ln} (h : SlAt W (fun _ => True) 5 LnR (.slice a l.length c) l) : (l.flatMap Ln.cs).length = l.length * 5 ∧ (l.length = 0 ∨ ∃ ad, a = some ad ∧ ∀ j u, (l.flatMap Ln.cs)[j]? = some u → W.cell? (ad.add j) = some u) := by
  obtain ⟨_, _, h1, h2⟩ := h.newsC (by omega) Ln.cs fun x cs hx => hx.1
  exact ⟨h1, h2.imp (fun e => by rw [e]; rfl) id⟩
theorem lines_one (l : List Ln) : ∀ u ∈ l.flatMap Ln.cs, u.oneCell' = true := fun u hu => by
  obtain ⟨x, _, hx⟩ := List.mem_flatMap.1 hu
  simp only [Ln.cs, List.mem_cons, List.not_mem_nil, or_false] at hx
  rcases hx with rfl | rfl | rfl | rfl | rfl <;> simp [Value.oneCell']
theorem own_lines {W : World} {B : Nat} {e : TypeId} {v : Value} {l : List Ln} (hw : AllWf l) (h : W.ownsRow B e 5 v l.length (l.flatMap Ln.cs)) : SlAt W (fun _ => True) 5 LnR v l := (lines_own h hw).slAt (by omega) fun _ _ => trivial

set_option maxRecDepth 100000 in
set_option maxHeartbeats 8000000 in
theorem pointBoth_any (v v' : Value) (l m : List Ln) (nm : ByteArray) (a b c d : Int) (w : World) (h : SlAt w (fun _ => True) 5 LnR v l) (h' : SlAt w (fun _ => True) 5 LnR v' m) (hs : nm.size ≤ maxLen) (wa : I64 a) (wb : I64 b) (wc : I64 c) (wd : I64 d) :
    Calls Try.prog 7 #[v, v', .string nm, .agg #[.int .i64 a, .int .i64 b], .agg #[.int .i64 c, .int .i64 d]] w (Gives w (.bool true)) := by
  have hl : (l.take 200).length ≤ 200 := by simp; omega
  have hl' : (m.take 200).length ≤ 200 := by simp; omega
  have hwf : AllWf (l.take 200) := fun x hx => lines_wf h x (List.mem_of_mem_take hx)
  have hwf' : AllWf (m.take 200) := fun x hx => lines_wf h' x (List.mem_of_mem_take hx)
  have c0 : ∀ W, w.grows W → Calls Try.prog 10 #[v] W fun e w' => ∃ v1, e = .returned v1 ∧ w' = W ∧ Hid (SlAt W (fun _ => True) 5 LnR v1 (l.take 200)) := fun W hg => (cut_any v l W (h.grows hg fun _ _ _ h => h)).mono fun e w' ⟨v', q1, q2, q3⟩ => ⟨v', q1, q2, Lib.hid q3⟩
  have c0' : ∀ W, w.grows W → Calls Try.prog 10 #[v'] W fun e w' => ∃ v1, e = .returned v1 ∧ w' = W ∧ Hid (SlAt W (fun _ => True) 5 LnR v1 (m.take 200)) := fun W hg => (cut_any v' m W (h'.grows hg fun _ _ _ h => h)).mono fun e w' ⟨v', q1, q2, q3⟩ => ⟨v', q1, q2, Lib.hid q3⟩
  generalize l.take 200 = L at *
  generalize m.take 200 = M at *
  have hwfz : AllWf (L ++ M) := fun x hx => by
    rcases List.mem_append.1 hx with hx | hx
    · exact hwf x hx
    · exact hwf' x hx
  have c1 : ∀ W v1 (K : List Ln), K.length ≤ 400 → SlAt W (fun _ => True) 5 LnR v1 K → Calls Try.prog 12 #[v1] W fun e w' => ∃ ix B, e = .returned (.pointer (some ⟨ix, 0, none⟩)) ∧ W.heap.size < ix ∧ W.heap.size + 2 ≤ B ∧ W.grows w' ∧ Hid (Idx w' ix 0 B K) := fun W v' K hK h => (ixNew2_any v' _ W h (by omega)).mono fun e w' ⟨ix, B, q1, q2, q3, q4, q5⟩ => ⟨ix, B, q1, q2, q3, q4, Lib.hid q5⟩
  have c2 := fun Z ix B => ixZ Z ix B L nm hwf hs (by omega)
  have c2' := fun Z ix B => ixZ Z ix B M nm hwf' hs (by omega)
  have c2z := fun Z ix B => ixZ Z ix B (L ++ M) nm hwfz hs (by rw [List.length_append]; omega)
  have C0 := Lib.hid c0; have C0' := Lib.hid c0'; have C1 := Lib.hid c1; have C2 := Lib.hid c2; have C2' := Lib.hid c2'; have C2z := Lib.hid c2z; have HWZ := Lib.hid hwfz
  have WA := Lib.hid wa; have WB := Lib.hid wb; have WCC := Lib.hid wc; have WD := Lib.hid wd; have HL := Lib.hid hl; have HL' := Lib.hid hl'
  clear c0 c0' c1 c2 c2' c2z h h' hwf hwf' hwfz wa wb wc wd hl hl'
  go_enter Try.func7, Try.ntmps7
  go_upto_region 2 with (first
    | (go_at_call 10; (with_reducible refine (C0'.out _ (show w.grows _ from (by have := H1.out; exact (by repeat (with_reducible first | assumption | exact grA | apply grB | apply grC | apply grD | refine grE ?_ (by omega) _ | refine grF ?_ (by omega) _ _))))).mono ?_); rintro e w1 ⟨v2, rfl, rfl, H2⟩)
    | (go_at_call 10; (with_reducible refine (C0.out _ (by repeat (with_reducible first | assumption | exact grA | apply grB | apply grC | apply grD | refine grE ?_ (by omega) _ | refine grF ?_ (by omega) _ _))).mono ?_); rintro e w1 ⟨v1, rfl, rfl, H1⟩))
  obtain ⟨a1, c1, rfl, _, _⟩ := H1.out.len
  obtain ⟨a2, c2, rfl, _, _⟩ := H2.out.len
  have hLl := HL.out; have hLm := HL'.out
  go_upto_region 3 with (first
    | (go_at_call 12; (with_reducible refine (C1.out _ _ M (by omega) (H2.out.grows hg2 fun _ _ _ h => h)).mono ?_); rintro e w3 ⟨iy, By, rfl, hiy, hBy, hg3, HIy⟩)
    | (go_at_call 12; (with_reducible refine (C1.out _ _ L (by omega) H1.out).mono ?_); rintro e w2 ⟨ix, Bx, rfl, hix, hBx, hg2, HIx⟩))
  have r8 : w2.row w.heap.size = some (.cells #[.int .i64 a, .int .i64 b] 24) := (hg2.row_eq (by simp <;> omega)).trans (by simp [go_sem])
  have r9 : w2.row (w.heap.size + 1) = some (.cells #[.int .i64 c, .int .i64 d] 24) := (hg2.row_eq (by simp <;> omega)).trans (by simp [go_sem])
  have k2 : w.grows w2 := World.grows.trans (by repeat (with_reducible first | assumption | exact grA | apply grB | apply grC | apply grD | refine grE ?_ (by omega) _ | refine grF ?_ (by omega) _ _)) hg2
  have k3 : w.grows w3 := k2.trans hg3
  obtain ⟨mbx, hxr⟩ := idx_seg HIx.out
  have hxs := (row_sz' hxr).1
  have kb3 := k3.below.size
  have hs23 := hg3.below.size
  have nL := lines_news (H1.out.grows (W := w3.alloc (.cells #[] 37)) (World.grows.alloc (hg2.trans hg3) _) fun _ _ _ h => h)
  have NL := Lib.hid nL
  have h23 := hg2.trans hg3
  have H2' := Lib.hid (H2.out.grows h23 fun _ _ _ h => h)
  clear nL H1 H2
  go_upto_region 4 with (first
    | (at_builtin; go_loud (refine wpList_appS w w3.heap.size rfl (.tmp 30) (.tmp 31) _ rfl 37 (.agg #[.string ByteArray.empty, .int .i64 0, .int .i64 0, .int .i64 0, .int .i64 0]) 5 48 Try.underlying22 (by kernel_rfl) rfl (by omega) (by omega) vA (0 + L.length) ([] ++ L.flatMap Ln.cs) rfl (HOA.out.grows (by repeat (with_reducible first | assumption | exact grA | apply grB | apply grC | apply grD | refine grE ?_ (by omega) _ | refine grF ?_ (by omega) _ _))) _ M.length _ (M.flatMap Ln.cs) rfl (lines_news (H2'.out.grows (W := wA) g3A fun _ _ _ h => h)).1 (lines_news (H2'.out.grows (W := wA) g3A fun _ _ _ h => h)).2 (lines_one M) (by omega) (by repeat (with_reducible first | assumption | exact grA | apply grB | apply grC | apply grD | refine grE ?_ (by omega) _ | refine grF ?_ (by omega) _ _)) (by omega) (by omega) ?_; intro vB wB hgB HOB HRB HGB HAB))
    | (at_builtin; go_loud (refine wpList_appS w w3.heap.size rfl (.tmp 28) (.tmp 29) _ rfl 37 (.agg #[.string ByteArray.empty, .int .i64 0, .int .i64 0, .int .i64 0, .int .i64 0]) 5 48 Try.underlying22 (by kernel_rfl) rfl (by omega) (by omega) (.slice (some ⟨w3.heap.size, 0, none⟩) 0 0) 0 [] rfl (own_empty (by simp [go_sem]) (Nat.le_refl _)) _ L.length _ (L.flatMap Ln.cs) rfl NL.out.1 NL.out.2 (lines_one L) (by omega) (by repeat (with_reducible first | assumption | exact grA | apply grB | apply grC | apply grD | refine grE ?_ (by omega) _ | refine grF ?_ (by omega) _ _)) (by omega) (by simp <;> omega) ?_; intro vA wA hgA HOA HRA HGA HAA; have g3A : w3.grows wA := World.grows.grown (World.grows.alloc World.grows.refl _) HGA.out (fun k hk => by cases hk; exact Nat.le_refl _); have ksA := g3A.below.size))
    | (go_at_call 12; go_loud ((with_reducible refine (C1.out _ _ (L ++ M) (by rw [List.length_append]; omega) (own_lines HWZ.out (by have := HOB.out; rw [Nat.zero_add, List.nil_append] at this; rw [List.length_append, List.flatMap_append]; exact this))).mono ?_); rintro e wz ⟨iz, Bz, rfl, hiz, hBz, hgz, HIz⟩)))
  have g3B : w3.grows wB := World.grows.grown g3A HGB.out (fun k hk => (HOA.out.lt k hk).1)
  have g3z := g3B.trans hgz
  have kz : w.grows wz := k3.trans g3z
  obtain ⟨mby, hyr⟩ := idx_seg HIy.out
  have hys := (row_sz' hyr).1
  obtain ⟨mbz, hzr⟩ := idx_seg HIz.out
  have hzs := (row_sz' hzr).1
  have ksz := g3z.below.size
  have ksB := g3B.below.size
  have hxy : ix + 2 < By := by omega
  have hxz : ix + 2 < Bz := by omega
  have hyz : iy + 2 < Bz := by omega
  have hix2 : w.heap.size + 2 < ix := by simp at hix; omega
  have hiy2 : w.heap.size + 2 < iy := by omega
  have hiz2 : w.heap.size + 2 < iz := by omega
  have q8 := (((hg3.trans g3z).row_eq (row_sz' r8).1).trans r8)
  have q9 := (((hg3.trans g3z).row_eq (row_sz' r9).1).trans r9)
  have HIxz := Lib.hid (Idx.grows HIx.out (hg3.trans g3z)); have HIyz := Lib.hid (Idx.grows HIy.out g3z)
  clear r8 r9 hgB HOB HRB HGB HAB hgA HOA HRA HGA HAA g3A ksA NL H2' HIx HIy hix hiy hiz hBx hBy hBz hxr hyr hzr g3B g3z hgz ksB h23 hs23 kb3 k3 k2 hg2
  have z8 := row_sz' q8; have z9 := row_sz' q9
  have HX := Lib.hid (C2.out wz.heap.size ix Bx); have HY := Lib.hid (C2'.out wz.heap.size iy By); have HZ := Lib.hid (C2z.out wz.heap.size iz Bz)
  refine wp_region_seq (S := fun W => W.row w.heap.size = some (.cells #[.int .i64 a, .int .i64 b] 24) ∧ W.row (w.heap.size + 1) = some (.cells #[.int .i64 c, .int .i64 d] 24) ∧ W.row w.heap.size = some (.cells #[.int .i64 a, .int .i64 b] 24)) (by kernel_rfl) (by kernel_rfl) ?hs ?_
  case hs =>
    show (_ ∧ _ ∧ _)
    exact ⟨q8, q9, q8⟩
  show wpSeqL _ _ _ _ _ _ (World.drew _)
  (refine wpSeqL_free rfl ?_; refine wpQuiet_step (fun K hK => ?_); rw [if_pos (by simp [Region.wanted])]; refine ⟨.pointer (some ⟨ix, 0, none⟩), fun w' hw' => ?_, ?_⟩; (focus (obtain ⟨r1, r2, r3⟩ := hw'; have s1 := row_sz' r1; have s2 := row_sz' r2; simp [Oper.quietAt, Oper.quietUpon, go_sem, r1, r2, r3, s1, s2])); go_simp; refine hK _ ?_; clear hK K; refine wpQuiet_nil ?_)
  (refine wpSeqL_free rfl ?_; refine wpQuiet_step (fun K hK => ?_); rw [if_pos (by simp [Region.wanted])]; refine ⟨.string nm, fun w' hw' => ?_, ?_⟩; (focus (obtain ⟨r1, r2, r3⟩ := hw'; have s1 := row_sz' r1; have s2 := row_sz' r2; simp [Oper.quietAt, Oper.quietUpon, go_sem, r1, r2, r3, s1, s2])); go_simp; refine hK _ ?_; clear hK K; refine wpQuiet_nil ?_)
  (refine wpSeqL_free rfl ?_; refine wpQuiet_step (fun K hK => ?_); rw [if_pos (by simp [Region.wanted])]; refine ⟨.agg #[.int .i64 a, .int .i64 b], fun w' hw' => ?_, ?_⟩; (focus (obtain ⟨r1, r2, r3⟩ := hw'; have s1 := row_sz' r1; have s2 := row_sz' r2; simp [Oper.quietAt, Oper.quietUpon, go_sem, r1, r2, r3, s1, s2])); go_simp; refine hK _ ?_; clear hK K; refine wpQuiet_nil ?_)
  (refine wpSeqL_free rfl ?_; refine wpQuiet_step (fun K hK => ?_); rw [if_pos (by simp [Region.wanted])]; refine ⟨.agg #[.int .i64 c, .int .i64 d], fun w' hw' => ?_, ?_⟩; (focus (obtain ⟨r1, r2, r3⟩ := hw'; have s1 := row_sz' r1; have s2 := row_sz' r2; simp [Oper.quietAt, Oper.quietUpon, go_sem, r1, r2, r3, s1, s2])); go_simp; refine hK _ ?_; clear hK K; refine wpQuiet_nil ?_)
  refine wpSeqL_link rfl (fun K hK => ?_)
  go_simp
  (go_at_call 14; go_loud ((with_reducible refine (HX.out.flips a b c d _ 0 (by simp) WA.out WB.out WCC.out WD.out (Idx.grows HIxz.out (by repeat (with_reducible first | assumption | exact grA | apply grB | apply grC | apply grD | refine grE ?_ (by omega) _ | refine grF ?_ (by omega) _ _))) (by omega) (by omega)).mono ?_); rintro e w5 ⟨v5, l5, n5, rfl, o5, H5⟩))
  have q85 := (o5.row _ (by omega) z8.1).trans q8
  have q95 := (o5.row _ (by omega) z9.1).trans q9
  have s5 : wz.heap.size ≤ w5.heap.size := o5.size
  refine ⟨_, rfl, hK _ _ ⟨q85, q95, q85⟩ ?_⟩
  clear hK K
  (refine wpSeqL_free rfl ?_; refine wpQuiet_step (fun K hK => ?_); rw [if_pos (by simp [Region.wanted])]; refine ⟨.pointer (some ⟨ix, 0, none⟩), fun w' hw' => ?_, ?_⟩; (focus (obtain ⟨r1, r2, r3⟩ := hw'; have s1 := row_sz' r1; have s2 := row_sz' r2; simp [Oper.quietAt, Oper.quietUpon, go_sem, r1, r2, r3, s1, s2])); go_simp; refine hK _ ?_; clear hK K; refine wpQuiet_nil ?_)
  (refine wpSeqL_free rfl ?_; refine wpQuiet_step (fun K hK => ?_); rw [if_pos (by simp [Region.wanted])]; refine ⟨.string nm, fun w' hw' => ?_, ?_⟩; (focus (obtain ⟨r1, r2, r3⟩ := hw'; have s1 := row_sz' r1; have s2 := row_sz' r2; simp [Oper.quietAt, Oper.quietUpon, go_sem, r1, r2, r3, s1, s2])); go_simp; refine hK _ ?_; clear hK K; refine wpQuiet_nil ?_)
  (refine wpSeqL_free rfl ?_; refine wpQuiet_step (fun K hK => ?_); rw [if_pos (by simp [Region.wanted])]; refine ⟨.agg #[.int .i64 a, .int .i64 b], fun w' hw' => ?_, ?_⟩; (focus (obtain ⟨r1, r2, r3⟩ := hw'; have s1 := row_sz' r1; have s2 := row_sz' r2; simp [Oper.quietAt, Oper.quietUpon, go_sem, r1, r2, r3, s1, s2])); go_simp; refine hK _ ?_; clear hK K; refine wpQuiet_nil ?_)
  refine wpSeqL_link rfl (fun K hK => ?_)
  go_simp
  (go_at_call 20; go_loud ((with_reducible refine (HX.out.true a b _ n5 s5 WA.out WB.out H5.out.1).mono ?_); rintro e w6 ⟨v6, l6, rfl, g6, H6⟩))
  have q86 := (g6.row_eq (row_sz' q85).1).trans q85
  have q96 := (g6.row_eq (row_sz' q95).1).trans q95
  refine ⟨_, rfl, hK _ _ ⟨q86, q96, q86⟩ ?_⟩
  clear hK K
  (refine wpSeqL_free rfl ?_; refine wpQuiet_step (fun K hK => ?_); rw [if_pos (by simp [Region.wanted])]; refine ⟨v5, fun w' hw' => ?_, ?_⟩; (focus (obtain ⟨r1, r2, r3⟩ := hw'; have s1 := row_sz' r1; have s2 := row_sz' r2; simp [Oper.quietAt, Oper.quietUpon, go_sem, r1, r2, r3, s1, s2])); go_simp; refine hK _ ?_; clear hK K; refine wpQuiet_nil ?_)
  (refine wpSeqL_free rfl ?_; refine wpQuiet_step (fun K hK => ?_); rw [if_pos (by simp [Region.wanted])]; refine ⟨v6, fun w' hw' => ?_, ?_⟩; (focus (obtain ⟨r1, r2, r3⟩ := hw'; have s1 := row_sz' r1; have s2 := row_sz' r2; simp [Oper.quietAt, Oper.quietUpon, go_sem, r1, r2, r3, s1, s2])); go_simp; refine hK _ ?_; clear hK K; refine wpQuiet_nil ?_)
  refine wpSeqL_end ?_
  have HIy6 := Lib.hid (Idx.grows (Idx.rows (W := w5) (Idx.grows (W := wz.drew) HIyz.out (by repeat (with_reducible first | assumption | exact grA | apply grB | apply grC | apply grD | refine grE ?_ (by omega) _ | refine grF ?_ (by omega) _ _))) fun k hk hl => o5.row k (by omega) hl) g6)
  have HIz6 := Lib.hid (Idx.grows (Idx.rows (W := w5) (Idx.grows (W := wz.drew) HIz.out (by repeat (with_reducible first | assumption | exact grA | apply grB | apply grC | apply grD | refine grE ?_ (by omega) _ | refine grF ?_ (by omega) _ _))) fun k hk hl => o5.row k (by omega) hl) g6)
  have k6 : w.grows w6 := World.grows.trans (o5.gr w (by omega) (World.grows.drew kz)) g6
  have A5 := Lib.hid (H5.out.2.1.grow g6); have A6 := Lib.hid H6.out.1
  have R5 := Lib.hid H5.out.2.2; have R6 := Lib.hid H6.out.2
  have m5 := ids_len _ _ R5.out; have m6 := ids_len _ _ R6.out
  have s6 := g6.below.size
  have s6' : wz.heap.size ≤ w6.heap.size := Nat.le_trans s5 s6
  clear H5 H6 o5 g6 q8 q9 q85 q95 z8 z9 HIxz HIyz HIz s5 s6
  have z86 := row_sz' q86; have z96 := row_sz' q96
  have fy := HY.out.flips a b c d w6 0 s6' WA.out WB.out WCC.out WD.out HIy6.out (by omega) (by omega)
  have FY := Lib.hid fy
  clear fy
  go_upto_region 6 with (go_at_call 14; go_loud ((with_reducible refine FY.out.mono ?_); rintro e w7 ⟨v7, l7, n7, rfl, o7, H7⟩; obtain ⟨a7, c7, rfl, _, _⟩ := H7.out.2.1.at.len))
  have A57 := Lib.hid (A5.out.on o7 (by omega)); have A67 := Lib.hid (A6.out.on o7 (by omega))
  have HIz7 := Lib.hid (Idx.rows (W := w7) HIz6.out fun k hk hl => o7.row k (by omega) hl)
  have k7 : w.grows w7 := o7.gr w (by omega) k6
  have q87 := (o7.row _ (by omega) z86.1).trans q86
  have q97 := (o7.row _ (by omega) z96.1).trans q96
  have s7 : wz.heap.size ≤ w7.heap.size := Nat.le_trans s6' o7.size
  have A77 := Lib.hid H7.out.2.1; have R7 := Lib.hid H7.out.2.2; have HIy7 := Lib.hid H7.out.1
  have m7 := ids_len _ _ R7.out
  clear H7 o7 A5 A6 HIz6 HIy6 k6 q86 q96 z86 z96
  go_loopg [14, 49] l7.length (fun gn v14 v49 wj => ∃ i : Nat, Hid (gn + i = l7.length ∧ i ≤ l7.length) ∧ v49 = .int .i64 i ∧ w7.grows wj ∧ Hid (IntsFrom wz.heap.size wj v14 (putAll l5 (l7.take i))))
  case atStart => exact ⟨0, Lib.hid ⟨by simp, Nat.zero_le _⟩, by go_num, (by repeat (with_reducible first | assumption | exact grA | apply grB | apply grC | apply grD | refine grE ?_ (by omega) _ | refine grF ?_ (by omega) _ _)), Lib.hid (by simpa [putAll] using A57.out)⟩
  case round =>
    obtain ⟨i, HK, rfl, hgj, HV⟩ := hrel
    obtain ⟨j1, j2⟩ := HK.out
    have hZr := hgj.below.size
    by_cases hlt : i < l7.length
    · have i1 : (i : Int) < (l7.length : Int) := by omega
      have hgt := List.getElem?_eq_getElem hlt
      obtain ⟨_, _, e4, _, _, b5⟩ := A77.out
      injection e4 with e4 e5 e6
      clear e5
      subst e4; subst e6
      rcases b5 with h0 | ⟨g, off, rfl, _, h4⟩
      · rw [h0] at hlt; simp at hlt
      obtain ⟨cs, _, el, rfl⟩ := h4 i _ hgt
      have c0 := (el.grows hgj).cell (j := 0) rfl
      rw [World.cell?_row, Nat.add_zero, Nat.mul_one] at c0
      have zg := lt_sz (el.grows hgj).lt
      have hps := putAll_succ (R := l5) hgt
      have hpl := putAll_len l5 l7 i
      generalize l7[i] = X at *
      have hpt := fun W hW => putZ_any wz.heap.size u14 (putAll l5 (l7.take i)) X W (HV.out.grow hW) (by have := hW.below.size; omega) (by omega)
      have HPT := Lib.hid hpt; have HPS := Lib.hid hps
      clear hpt hps h4 el hgt
      go_wp2_with (go_at_call 22; (with_reducible refine (HPT.out _ (by repeat (with_reducible first | assumption | exact grA | apply grB | apply grC | apply grD | refine grE ?_ (by omega) _ | refine grF ?_ (by omega) _ _))).mono ?_); rintro e wp ⟨vp, rfl, hgp, hIp⟩; have hgp2 : w7.grows wp := World.grows.trans hgj (World.grows.trans (by repeat (with_reducible first | assumption | exact grA | apply grB | apply grC | apply grD | refine grE ?_ (by omega) _ | refine grF ?_ (by omega) _ _)) hgp); have HIp := Lib.hid hIp; clear hIp)
      go_roundg (l7.length - (i + 1))
      case rel => exact ⟨i + 1, Lib.hid ⟨by omega, by omega⟩, by go_num, hgp2, Lib.hid (by rw [HPS.out]; exact HIp.out)⟩
      case measure => omega
    · have i1 : ¬ (i : Int) < (l7.length : Int) := by omega
      obtain rfl : i = l7.length := by omega
      rw [List.take_length] at HV
      have h8 := hgj
      generalize wr = w8 at *
      have q88 := (h8.row_eq (row_sz' q87).1).trans q87
      have q98 := (h8.row_eq (row_sz' q97).1).trans q97
      have z88 := row_sz' q88; have z98 := row_sz' q98
      have ty := HY.out.true a b w8 n7 (Nat.le_trans s7 hZr) WA.out WB.out (Idx.grows HIy7.out h8)
      have TY := Lib.hid ty
      clear ty
      obtain ⟨b14, d14, rfl, _, _⟩ := HV.out.at.len
      go_upto_region 11 with (go_at_call 20; go_loud ((with_reducible refine TY.out.mono ?_); rintro e w9 ⟨v9, l9, rfl, g9, H9⟩; obtain ⟨a9, c9, rfl, _, _⟩ := H9.out.1.at.len))
      have g79 := h8.trans g9
      have A14 := Lib.hid (HV.out.grow g9); have A15 := Lib.hid (A67.out.grow g79); have A99 := Lib.hid H9.out.1; have R9 := Lib.hid H9.out.2
      have q89 := (g9.row_eq z88.1).trans q88
      have q99 := (g9.row_eq z98.1).trans q98
      have s9 : wz.heap.size ≤ w9.heap.size := Nat.le_trans (Nat.le_trans s7 hZr) g9.below.size
      have m9 := ids_len _ _ R9.out
      have HIz9 := Lib.hid (Idx.grows HIz7.out g79)
      have k9 := k7.trans g79
      clear HV H9 hgj j1 j2 HK i1 hlt h8 g9 g79 hZr z88 z98 q88 q98
      go_loopg [15, 62] l9.length (fun gn v15 v62 wj => ∃ i : Nat, Hid (gn + i = l9.length ∧ i ≤ l9.length) ∧ v62 = .int .i64 i ∧ w9.grows wj ∧ Hid (IntsFrom wz.heap.size wj v15 (putAll l6 (l9.take i))))
      case atStart => exact ⟨0, Lib.hid ⟨by simp, Nat.zero_le _⟩, by go_num, (by repeat (with_reducible first | assumption | exact grA | apply grB | apply grC | apply grD | refine grE ?_ (by omega) _ | refine grF ?_ (by omega) _ _)), Lib.hid (by simpa [putAll] using A15.out)⟩
      case round =>
        obtain ⟨i, HK, rfl, hgj, HV⟩ := hrel
        obtain ⟨j1, j2⟩ := HK.out
        have hZr := hgj.below.size
        by_cases hlt : i < l9.length
        · have i1 : (i : Int) < (l9.length : Int) := by omega
          have hgt := List.getElem?_eq_getElem hlt
          obtain ⟨_, _, e4, _, _, b5⟩ := A99.out
          injection e4 with e4 e5 e6
          clear e5
          subst e4; subst e6
          rcases b5 with h0 | ⟨g, off, rfl, _, h4⟩
          · rw [h0] at hlt; simp at hlt
          obtain ⟨cs, _, el, rfl⟩ := h4 i _ hgt
          have c0 := (el.grows hgj).cell (j := 0) rfl
          rw [World.cell?_row, Nat.add_zero, Nat.mul_one] at c0
          have zg := lt_sz (el.grows hgj).lt
          have hps := putAll_succ (R := l6) hgt
          have hpl := putAll_len l6 l9 i
          generalize l9[i] = X at *
          have hpt := fun W hW => putZ_any wz.heap.size u15 (putAll l6 (l9.take i)) X W (HV.out.grow hW) (by have := hW.below.size; omega) (by omega)
          have HPT := Lib.hid hpt; have HPS := Lib.hid hps
          clear hpt hps h4 el hgt
          go_wp2_with (go_at_call 22; (with_reducible refine (HPT.out _ (by repeat (with_reducible first | assumption | exact grA | apply grB | apply grC | apply grD | refine grE ?_ (by omega) _ | refine grF ?_ (by omega) _ _))).mono ?_); rintro e wp ⟨vp, rfl, hgp, hIp⟩; have hgp2 : w9.grows wp := World.grows.trans hgj (World.grows.trans (by repeat (with_reducible first | assumption | exact grA | apply grB | apply grC | apply grD | refine grE ?_ (by omega) _ | refine grF ?_ (by omega) _ _)) hgp); have HIp := Lib.hid hIp; clear hIp)
          go_roundg (l9.length - (i + 1))
          case rel => exact ⟨i + 1, Lib.hid ⟨by omega, by omega⟩, by go_num, hgp2, Lib.hid (by rw [HPS.out]; exact HIp.out)⟩
          case measure => omega
        · have i1 : ¬ (i : Int) < (l9.length : Int) := by omega
          obtain rfl : i = l9.length := by omega
          rw [List.take_length] at HV
          have h10 := hgj
          obtain ⟨b15, d15, rfl, _, _⟩ := HV.out.at.len
          have q80 := (h10.row_eq (row_sz' q89).1).trans q89
          have q90 := (h10.row_eq (row_sz' q99).1).trans q99
          have z80 := row_sz' q80; have z90 := row_sz' q90
          have k10 := k9.trans h10
          have fz := HZ.out.flips a b c d wr 0 (Nat.le_trans s9 hZr) WA.out WB.out WCC.out WD.out (Idx.grows HIz9.out h10) (by omega) (by omega)
          have FZ := Lib.hid fz
          have tz := fun W n hW hI => HZ.out.true a b W n hW WA.out WB.out hI
          have TZ := Lib.hid tz
          have RF := Lib.hid (putAll_rise R5.out R7.out); have RT := Lib.hid (putAll_rise R6.out R9.out)
          have B14 := Lib.hid (A14.out.grow h10); have B15 := Lib.hid HV.out
          clear fz tz HV
          go_wp2_with (first
            | (go_at_call 14; go_loud ((with_reducible refine FZ.out.mono ?_); rintro e wF ⟨vF, lF, nF, rfl, oF, HF⟩; obtain rfl : lF = putAll l5 l7 := HF.out.2.2.uniq RF.out; have kF : w.grows wF := oF.gr w (by omega) k10; have qF := (oF.row _ (by omega) z80.1).trans q80; have zF := row_sz' qF; have sF := oF.size; have C14 := Lib.hid (B14.out.on oF (by omega)); have C15 := Lib.hid (B15.out.on oF (by omega))))
            | (go_at_call 13; (with_reducible refine (ints_eq _ _ (putAll l6 l9) _ (HT.out.1.grow (by repeat (with_reducible first | assumption | exact grA | apply grB | apply grC | apply grD | refine grE ?_ (by omega) _ | refine grF ?_ (by omega) _ _))).at (C15.out.grow (World.grows.trans gFT (by repeat (with_reducible first | assumption | exact grA | apply grB | apply grC | apply grD | refine grE ?_ (by omega) _ | refine grF ?_ (by omega) _ _)))).at).mono ?_); rintro e wJ ⟨rfl, xJ, rfl⟩)
            | (go_at_call 13; (with_reducible refine (ints_eq _ _ (putAll l5 l7) _ (HF.out.2.1.grow (by repeat (with_reducible first | assumption | exact grA | apply grB | apply grC | apply grD | refine grE ?_ (by omega) _ | refine grF ?_ (by omega) _ _))).at (C14.out.grow (by repeat (with_reducible first | assumption | exact grA | apply grB | apply grC | apply grD | refine grE ?_ (by omega) _ | refine grF ?_ (by omega) _ _))).at).mono ?_); rintro e wI ⟨rfl, xI, rfl⟩)
            | (go_at_call 20; go_loud ((with_reducible refine (TZ.out _ nF (by have := sF; have := s9; simp; omega) (Idx.grows HF.out.1 (by repeat (with_reducible first | assumption | exact grA | apply grB | apply grC | apply grD | refine grE ?_ (by omega) _ | refine grF ?_ (by omega) _ _)))).mono ?_); rintro e wT ⟨vT, lT, rfl, gT, HT⟩; obtain rfl : lT = putAll l6 l9 := HT.out.2.uniq RT.out; have gFT : wF.grows wT := World.grows.trans (by repeat (with_reducible first | assumption | exact grA | apply grB | apply grC | apply grD | refine grE ?_ (by omega) _ | refine grF ?_ (by omega) _ _)) gT; have kT : w.grows wT := World.grows.trans kF gFT))
            | (go_at_call 16; (with_reducible refine (awake24_any _).mono ?_); rintro e w99 ⟨rfl, x99, rfl⟩))
          go_ret
          exact ⟨rfl, (by repeat (with_reducible first | assumption | exact grA | apply grB | apply grC | apply grD | refine grE ?_ (by omega) _ | refine grF ?_ (by omega) _ _))⟩

theorem pointBoth_own : ownKnob Try.prog.godebug = none := by kernel_rfl
theorem pointBoth_laidOut : laidOutB Try.prog = true := by kernel_rfl
set_option maxRecDepth 100000 in
set_option maxHeartbeats 2000000 in
theorem pointBoth_lifted (os : Os) (started : os.Started) (H : Type) (enc : TypeId × Value → H) :
    ReturnsInHanded {} Try.checked os 7 .any (Rows.pointBothSpec.pre6 enc Try.prog Try.f7 Rows.pointBothRow.domain false) (Rows.pointBothSpec.post enc Try.prog Try.f7 false true false false) := by
  refine returnsInHanded_of_change (C := Try.checked) pointBoth_own started (by kernel_rfl) Try.func7
    (ChangeSpec.witness6 (enc := enc) (C := Try.checked) false ⟨#[], #[.slice none 0 0, .slice none 0 0, .string ByteArray.empty, .agg #[.int .i64 0, .int .i64 0], .agg #[.int .i64 0, .int .i64 0]], []⟩ 8 (by kernel_rfl) (by kernel_rfl) (by kernel_rfl) (by kernel_rfl)) ?_
  intro W base args ds gs before hval0 hW hcnd _
  have hval : ∀ (j : Nat) t v, Try.f7.params[j]? = some t → args[j]? = some v → Value.okWide Try.prog W .any base t v := hval0
  have hW' := hW
  obtain ⟨p, q, hA0, hV, rfl, hfz, hnd⟩ := hW
  have hA : DataW.TrodAll enc Try.prog W 0 (fun _ => true) true Try.f7.params.toList args.toList ds p := hA0
  rw [Try.params7] at hA hval
  obtain ⟨v0, vs0, d0, ds0, p0, q0, hargs, rfl, rfl, h0, r0⟩ := trodAll_cons hA
  obtain ⟨v1, vs1, d1, ds1, p1, q1, rfl, rfl, rfl, h1, r1⟩ := trodAll_cons r0
  obtain ⟨v2, vs2, d2, ds2, p2, q2, rfl, rfl, rfl, h2, r2⟩ := trodAll_cons r1
  obtain ⟨v3, vs3, d3, ds3, p3, q3, rfl, rfl, rfl, h3, r3⟩ := trodAll_cons r2
  obtain ⟨v4, vs4, d4, ds4, p4, q4, rfl, rfl, rfl, h4, r4⟩ := trodAll_cons r3
  obtain ⟨rfl, rfl, rfl⟩ := trodAll_nil r4
  obtain rfl : args = #[v0, v1, v2, v3, v4] := by cases args; simp_all
  obtain ⟨rfl, rfl⟩ := trodVars_none hV
  have k0 := h0
  have lt0 : ∀ x ∈ p0, x.block < W.heap.size := by obtain ⟨m, hm⟩ := k0; exact DataW.trod_lt m _ _ _ hm
  have k1 := h1
  have lt1 : ∀ x ∈ p1, x.block < W.heap.size := by obtain ⟨m, hm⟩ := k1; exact DataW.trod_lt m _ _ _ hm
  have k2 := h2
  have lt2 : ∀ x ∈ p2, x.block < W.heap.size := by obtain ⟨m, hm⟩ := k2; exact DataW.trod_lt m _ _ _ hm
  have k3 := h3
  have lt3 : ∀ x ∈ p3, x.block < W.heap.size := by obtain ⟨m, hm⟩ := k3; exact DataW.trod_lt m _ _ _ hm
  have k4 := h4
  have lt4 : ∀ x ∈ p4, x.block < W.heap.size := by obtain ⟨m, hm⟩ := k4; exact DataW.trod_lt m _ _ _ hm
  obtain ⟨l, h_l⟩ := lines_arg (hval 0 22 v0 rfl rfl) h0
  obtain ⟨m, h_m⟩ := lines_arg (hval 1 22 v1 rfl rfl) h1
  obtain ⟨nm, rfl, _, _, wnm⟩ := open_string Try.underlying9 (hval 2 9 v2 rfl rfl) h2
  obtain ⟨a, b, rfl, w3_0, w3_1⟩ := rat_arg (hval 3 24 v3 rfl rfl) h3
  obtain ⟨c, d, rfl, w4_0, w4_1⟩ := rat_arg (hval 4 24 v4 rfl rfl) h4
  clear hA0 hval0
  refine (pointBoth_any v0 v1 l m nm a b c d W h_l h_m wnm w3_0 w3_1 w4_0 w4_1).mono fun e W' ⟨he, grw⟩ => ?_
  subst he
  have bel := grw.below
  exact ⟨_, rfl, _, _, _, [], _, [], hW', trodAll_mk1 (shut_bool Try.underlying4 _), (trodAll_cons_mk (Below.trod pointBoth_laidOut (by kernel_rfl) (of_decide_eq_true (by kernel_rfl)) k0 bel lt0) (trodAll_cons_mk (Below.trod pointBoth_laidOut (by kernel_rfl) (of_decide_eq_true (by kernel_rfl)) k1 bel lt1) (trodAll_cons_mk (Below.trod pointBoth_laidOut (by kernel_rfl) (of_decide_eq_true (by kernel_rfl)) k2 bel lt2) (trodAll_cons_mk (Below.trod pointBoth_laidOut (by kernel_rfl) (of_decide_eq_true (by kernel_rfl)) k3 bel lt3) (trodAll_cons_mk (Below.trod pointBoth_laidOut (by kernel_rfl) (of_decide_eq_true (by kernel_rfl)) k4 bel lt4) trodAll_mk0))))), rfl, bel.frame _, fun h => by cases h⟩

/-- THE STATEMENT -/
theorem pointBoth_holds : Rows.PointBothSaid :=
  OpenClaim.holds_of_wide 7 Try.f7 rfl rfl rfl rfl rfl rfl rfl ⟨rfl, rfl, rfl, rfl, rfl⟩ rfl rfl rfl rfl rfl (by kernel_rfl) Try.func7 (by kernel_rfl)
    (of_decide_eq_true (by kernel_rfl)) (by unfold Func.isWrapper; first | (rw [if_pos (by decide +kernel)]; kernel_rfl) | (rw [if_neg (by decide +kernel)]; exact ⟨rfl, rfl⟩))
    (fun os started H enc _ => pointBoth_lifted os started H enc)
#print axioms pointBoth_holds
end Go.Proofs.Ytjfccilmlmimaaa
