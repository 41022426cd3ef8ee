/- WALK over jalousieref5: the innermost is closed. No condition but that the stack stands in memory. -/
import Derived.Test.YthcaphoejplecaaGreatDoorVaU
set_option linter.unusedSimpArgs false
set_option linter.unusedVariables false
namespace Go.Proofs.YthcaphoejplecaaGreatDoor
open Go.RowKit
set_option maxRecDepth 100000 in
set_option maxHeartbeats 8000000 in
theorem fshut_any {w0 w : World} {v : Value} {p : Ps} (h : RStk w0 w v p) (ho : p.os ≠ []) (ht : p.tot ≤ 4194304) :
    Calls Tryz.prog 43 #[v] w fun e w' => ∃ v', e = .returned v' ∧ RStk w0 w' v' p.shut := by
  obtain ⟨tg, ins, hg0, hD⟩ := h
  obtain ⟨os, t, ls, m, l, rfl, hls⟩ := Ps.shut_parts hD.len ho
  rw [Ps.shut_mk]
  have hil : ins.length = os.length + 1 + 1 := by have := hD.ilen; simp at this; omega
  obtain ⟨i1, ul, rfl, hi1⟩ := snoc_of hil
  obtain ⟨ins, um, rfl, hi2⟩ := snoc_of hi1
  obtain ⟨aU, cU, rfl⟩ : ∃ a c, ul = .slice a l.length c := by
    obtain ⟨_, _, _, h3⟩ := hD.ls.inn (os.length + 1) ul l (by rw [← hi1]; simp) (by rw [List.getElem?_append_right (by simp [hls])]; simp [hls])
    exact own_slice h3
  obtain ⟨aM, cM, rfl⟩ : ∃ a c, um = .slice a m.length c := by
    obtain ⟨_, _, _, h3⟩ := hD.ls.inn os.length um m (by rw [← hi2]; simp) (by rw [← hls]; simp)
    exact own_slice h3
  obtain ⟨aF, cF, rfl⟩ := own_slice hD.fs
  obtain ⟨hP, hV⟩ := hD.pop
  have hF := hD.fs
  simp only [List.length_append, List.length_singleton, hls] at hF
  rw [frC_snoc hi1] at hF
  obtain ⟨gF, cF', curF, e1, eF, kF, mF, bF, zF, rF, sF, -⟩ := own_elt hF (X := frC os (ins ++ [.slice aM m.length cM])) (cs := t.cs ++ [.slice aU l.length cU]) (Y := []) (by simp) (by simp)
  injection e1 with e1 _ e3
  subst e3
  subst e1
  rw [frC_len hi1, hi1] at eF
  have tF : tg gF = some 0 := hD.tF gF rfl
  have hwf := hD.oswf t (by simp)
  obtain ⟨k, s, n1, d, q1, q2⟩ := t
  have eF1 : segOk ((os.length + 1) * 7) 7 (w.row gF) = true := eF.1
  have eF2 : segV ((os.length + 1) * 7) 7 (w.row gF) = .agg #[.int .i64 k, .string s, .int .i64 n1, .int .i64 d, .bool q1, .bool q2, .slice aU l.length cU] := eF.2
  have hml : m.length ≤ 4194304 := by have := ht; unfold Ps.tot at this; simp at this; omega
  have hol : os.length ≤ 4194304 := by have := ht; unfold Ps.tot at this; simp at this; omega
  rw [hi1] at hP hV
  have hle : (ls ++ [m]).length = os.length + 1 := by simp [hls]
  rw [hle] at hP
  generalize tgPop tg (os.length + 1) = tg2 at *
  obtain ⟨css, c1, c2, hOM⟩ := hP.ls.inn os.length (.slice aM m.length cM) m (by rw [← hi2]; simp) (by rw [← hls]; simp)
  obtain ⟨X, b, hX, hb, hfr⟩ := frC_last (os := os) (ins := ins) hi2
  have hF2 := hP.fs
  rw [hle, hfr] at hF2
  obtain ⟨gF', cF', curF', e1, eM, kF', mF', bF', zF', rF', sF', -⟩ := own_elt hF2 (X := X ++ b.cs) (cs := [.slice aM m.length cM]) (Y := []) (by simp) (by simp)
  injection e1 with e1 _ e3
  subst e3
  injection e1 with e1
  injection e1 with e1
  subst e1
  obtain rfl : curF' = curF := by rw [rF] at rF'; injection rF' with rF'; injection rF' with rF'; exact rF'.symm
  have hXl : (X ++ b.cs).length = os.length * 7 + 6 := by simp [hX]
  rw [hXl] at eM
  have cM2 := eM.cell (j := 0) rfl
  rw [World.cell?_row, Nat.add_zero, rF] at cM2
  have hcF : curF'[os.length * 7 + 6]? = some (.slice aM m.length cM) := cM2
  have hcl : os.length * 7 + 6 < curF'.size := (Array.getElem?_eq_some_iff.1 hcF).1
  have tF2 : tg2 gF = some 0 := hP.tF gF rfl
  have HMN : Hid (∀ g, (Value.slice aM m.length cM).ownBlock = some g → g ≠ gF ∧ g < w.heap.size) := Lib.hid fun g hg => ⟨fun e => by
    have := hP.ls.tI os.length (.slice aM m.length cM) g (by rw [← hi2]; simp) hg
    rw [e, tF2] at this; simp at this, (hOM.lt g hg).2⟩
  have zF' := lt_sz zF
  have zrF := row_sz' rF
  have i1 : (0 : Int) ≤ (os.length : Int) := by omega
  have i2 : (os.length : Int) < (os.length : Int) + 1 := by omega
  have i3 : (0 : Int) ≤ (os.length : Int) + 1 := by omega
  have i5 : (os.length : Int) + 1 < (os.length : Int) + 1 + 1 := by omega
  have i7 : (os.length : Int) + 1 ≤ (cF : Int) := by omega
  have i8 : os.length + 1 ≤ cF := by omega
  have HP := Lib.hid hP
  have HV := Lib.hid hV
  have HL := Lib.hid hls
  have HI := Lib.hid (And.intro hi2 hle)
  have HC1 := Lib.hid c1
  have HC2 := Lib.hid c2
  have HOM := Lib.hid hOM
  have HRF := Lib.hid rF
  clear hD hP hV hF hF2 hil hi1 hi2 hls hle ho ht eF eM cM2 c1 c2 hOM hfr hb hX hXl rF' hwf rF
  simp only [List.length_append, List.length_singleton, HL.out]
  go_enter Tryz.func43, Tryz.ntmps43
  go_upto_region 4 with fail
  have hgs1 : segOk 0 6 (some (.cells #[.int .i64 k, .string s, .int .i64 n1, .int .i64 d, .bool q1, .bool q2, .slice aU l.length cU] 80)) = true := rfl
  have hgs2 : segV 0 6 (some (.cells #[.int .i64 k, .string s, .int .i64 n1, .int .i64 d, .bool q1, .bool q2, .slice aU l.length cU] 80)) = .agg #[.int .i64 k, .string s, .int .i64 n1, .int .i64 d, .bool q1, .bool q2] := rfl
  have hxF := HRF.out
  have hw2 : IntKind.i64.wrap (os.length : Int) = (os.length : Int) := by rw [IntKind.wrap_i64]; omega
  go_region
  · go_wp2_with fail
    refine abs_rows (w := w) (G := fun W => Code.wp _ _ _ _ W) (by repeat (with_reducible first | assumption | exact grA | apply grB | apply grC | apply grD | refine grE ?_ (by omega) _ | refine grF ?_ (by omega) _ _)) [(w.heap.size, .cells #[.int .i64 k, .string s, .int .i64 n1, .int .i64 d, .bool q1, .bool q2, .slice aU l.length cU] 80), (gF, .cells curF' 80)] (by simp [go_sem, *]) ?_
    intro w4 gw4 hl
    simp only [List.forall_mem_cons, List.not_mem_nil, false_implies, implies_true, and_true] at hl
    obtain ⟨x4, xF⟩ := hl
    have zx4 := row_sz' x4
    have zxF := row_sz' xF
    refine wp_region_seq_tail (S := rowsAs w4 [w.heap.size, gF]) 18 (by kernel_rfl) (by kernel_rfl) (rowsAs.drew _ _) ?_
    simp only [List.take_succ_cons, List.take_zero, List.drop_succ_cons, List.drop_zero]
    show wpSeqL _ _ _ _ _ _ (World.drew w4)
    have hdd : w4.grows (World.drew w4) := World.grows.drew World.grows.refl
    repeat (refine wpSeqL_free rfl ?_; refine wpQuiet_step (fun K hK => ?_); (rw [if_pos (by simp [Region.wanted])]; refine Exists.intro ?_ ⟨fun w' hw' => ?_, ?_⟩; rotate_left; focus (have r0 := rowsAs.of hw' x4 (by simp); have s0 := row_sz' r0; have r1 := rowsAs.of hw' xF (by simp); have s1 := row_sz' r1; first | (simp [Oper.quietAt, Oper.quietUpon, go_sem, r0, r1, s0, s1, hcF, i1, i2, hgs1, hgs2, hw2]; rfl) | (exact ⟨rfl, rfl⟩))); go_simp; refine hK _ ?_; clear hK K; refine wpQuiet_nil ?_)
    have hRA : rowsAs w4 [w.heap.size, gF] (World.drew w4) := rowsAs.drew _ _
    have hd0 : (World.drew w4).heap.size = w4.heap.size := rfl
    generalize World.drew w4 = wA at *
    refine wpSeqL_link rfl (fun K hK => ?_)
    go_simp
    have hgB : wA.grows (wA.alloc (.cells #[.int .i64 k, .string s, .int .i64 n1, .int .i64 d, .bool q1, .bool q2, .slice aU l.length cU] 70)) := World.grows.alloc World.grows.refl _
    have hnB : (wA.alloc (.cells #[.int .i64 k, .string s, .int .i64 n1, .int .i64 d, .bool q1, .bool q2, .slice aU l.length cU] 70)).row w4.heap.size = some (.cells #[.int .i64 k, .string s, .int .i64 n1, .int .i64 d, .bool q1, .bool q2, .slice aU l.length cU] 70) := by rw [← hd0]; simp [go_sem]
    have hsB : (wA.alloc (.cells #[.int .i64 k, .string s, .int .i64 n1, .int .i64 d, .bool q1, .bool q2, .slice aU l.length cU] 70)).heap.size = wA.heap.size + 1 := by simp
    have hRB := hRA.grow hgB (by simp [hd0, zx4, zxF])
    refine hK _ _ hRB ?_
    clear hK K
    generalize wA.alloc (.cells #[.int .i64 k, .string s, .int .i64 n1, .int .i64 d, .bool q1, .bool q2, .slice aU l.length cU] 70) = wB at *
    have hg2B : w.grows wB := (gw4.trans hdd).trans hgB
    refine wpSeqL_appO w0.heap.size rfl rfl (.tmp 45) (.tmp 51) 58 rfl 70 (.agg #[.int .i64 0, .string ByteArray.empty, .int .i64 0, .int .i64 0, .bool false, .bool false, .slice none 0 0]) 7 72 Tryz.underlying58 (by kernel_rfl) rfl (by omega) (by omega) _ m.length _ rfl (HOM.out.grows hg2B) (some ⟨w4.heap.size, 0, none⟩) 1 1 [.int .i64 k, .string s, .int .i64 n1, .int .i64 d, .bool q1, .bool q2, .slice aU l.length cU] rfl rfl (.inr ⟨_, rfl, fun j u hu => ?_⟩) (by simp [Value.oneCell']) (by omega) (by have := hg2B.below.size; have := hg0.below.size; omega) ?_
    · exact cells_of_row (e := 70) (fr := (0, 0)) hnB j u hu
    intro v8 wG k1 k2 k3
    replace k2 : wB.grownBy wG (Value.slice aM m.length cM).ownBlock := k2
    replace k3 : v8.ownBlock = (Value.slice aM m.length cM).ownBlock ∨ v8.ownBlock = some wB.heap.size := k3
    have hs2B := hg2B.below.size
    have hRG := hRB.grown k2 (fun b hb => by
      have hb' : b = w.heap.size ∨ b = gF := by simpa using hb
      refine ⟨by rcases hb' with rfl | rfl <;> omega, fun e => ?_⟩
      obtain ⟨e1, e3⟩ := HMN.out b e.symm
      rcases hb' with rfl | rfl
      · omega
      · exact e1 rfl)
    refine ⟨hRG, ?_⟩
    obtain ⟨a8, c8, rfl⟩ := own_slice k1
    go_simp
    have hGF := hRG.of xF (by simp)
    have zGF := row_sz' hGF
    repeat (refine wpSeqL_free rfl ?_; refine wpQuiet_step (fun K hK => ?_); (rw [if_pos (by simp [Region.wanted])]; refine Exists.intro ?_ ⟨fun w' hw' => ?_, ?_⟩; rotate_left; focus (have r0 := rowsAs.of hw' x4 (by simp); have s0 := row_sz' r0; have r1 := rowsAs.of hw' xF (by simp); have s1 := row_sz' r1; first | (simp [Oper.quietAt, Oper.quietUpon, go_sem, r0, r1, s0, s1, i1, i2, hw2]; rfl) | (exact ⟨rfl, rfl⟩))); go_simp; refine hK _ ?_; clear hK K; refine wpQuiet_nil ?_)
    refine wpSeqL_end ?_
    go_wp2_with fail
    go_ret
    have hGO : w0.grows wG := (hg0.trans hg2B).grown k2 fun k hk => (HOM.out.lt k hk).1
    have hfin : RStk w0 (wG.setCell ⟨gF, os.length * 7 + 6, none⟩ (.slice a8 (m.length + 1) c8)) (.slice (some ⟨gF, 0, none⟩) (os.length + 1) cF) ⟨os, ls ++ [m ++ [.mk ⟨k, s, n1, d, q1, q2⟩ l]]⟩ := by
      have hx : ∃ tg', StkR (wG.setCell ⟨gF, os.length * 7 + 6, none⟩ (.slice a8 (m.length + 1) c8)) w0.heap.size tg' (.slice (some ⟨gF, 0, none⟩) (ls.length + 1) cF) (ins ++ [.slice a8 (m.length + 1) c8]) ⟨os, ls ++ [m ++ [.mk ⟨k, s, n1, d, q1, q2⟩ l]]⟩ := by
        refine StkR.last (by rw [HL.out]; exact HP.out) HRF.out HC1.out HC2.out HV.out ?_ (ownsRow_rowV k1 fun g hg => ?_) ?_ (fun g h1 h2 h3 => ?_) ?_
        · rcases k3 with k3 | k3
          · exact .inl k3
          · exact .inr ⟨_, k3, hs2B⟩
        · have hne8 : g ≠ gF := fun e => by
            rcases k3 with k3 | k3
            · exact (HMN.out g (k3.symm.trans hg)).1 e
            · rw [k3] at hg; injection hg with hg; omega
          rw [World.row_setCell, if_neg hne8]
        · have := k2.size; have e := World.setCell_size' wG ⟨gF, os.length * 7 + 6, none⟩ (Value.slice a8 (m.length + 1) c8); omega
        · rw [World.row_setCell, if_neg h2, row_growV k2 (by omega) (fun e => h3 e.symm)]; exact hg2B.row_eq h1
        · rw [World.row_setCell, if_pos rfl, hGF, HL.out, layV_one _ _ _ (by simpa using hcl), ← Array.toList_setIfInBounds]
          rfl
      rw [HL.out] at hx
      obtain ⟨tg', hx⟩ := hx
      exact ⟨tg', _, hGO.setCell' bF _ _, hx⟩
    exact ⟨_, rfl, hfin⟩
  · go_wp2_with fail
    refine abs_rows (w := w) (G := fun W => Code.wp _ _ _ _ W) (by repeat (with_reducible first | assumption | exact grA | apply grB | apply grC | apply grD | refine grE ?_ (by omega) _ | refine grF ?_ (by omega) _ _)) [(w.heap.size, .cells #[.int .i64 k, .string s, .int .i64 n1, .int .i64 d, .bool q1, .bool q2, .slice aU l.length cU] 80), (gF, .cells curF' 80)] (by simp [go_sem, *]) ?_
    intro w4 gw4 hl
    simp only [List.forall_mem_cons, List.not_mem_nil, false_implies, implies_true, and_true] at hl
    obtain ⟨x4, xF⟩ := hl
    have zx4 := row_sz' x4
    have zxF := row_sz' xF
    refine wp_region_seq_tail (S := rowsAs w4 [w.heap.size, gF]) 19 (by kernel_rfl) (by kernel_rfl) (rowsAs.drew _ _) ?_
    simp only [List.take_succ_cons, List.take_zero, List.drop_succ_cons, List.drop_zero]
    show wpSeqL _ _ _ _ _ _ (World.drew w4)
    have hdd : w4.grows (World.drew w4) := World.grows.drew World.grows.refl
    repeat (refine wpSeqL_free rfl ?_; refine wpQuiet_step (fun K hK => ?_); (rw [if_pos (by simp [Region.wanted])]; refine Exists.intro ?_ ⟨fun w' hw' => ?_, ?_⟩; rotate_left; focus (have r0 := rowsAs.of hw' x4 (by simp); have s0 := row_sz' r0; have r1 := rowsAs.of hw' xF (by simp); have s1 := row_sz' r1; first | (simp [Oper.quietAt, Oper.quietUpon, go_sem, r0, r1, s0, s1, hcF, i1, i2, hgs1, hgs2, hw2]; rfl) | (exact ⟨rfl, rfl⟩))); go_simp; refine hK _ ?_; clear hK K; refine wpQuiet_nil ?_)
    have hRA : rowsAs w4 [w.heap.size, gF] (World.drew w4) := rowsAs.drew _ _
    have hd0 : (World.drew w4).heap.size = w4.heap.size := rfl
    generalize World.drew w4 = wA at *
    refine wpSeqL_link rfl (fun K hK => ?_)
    go_simp
    have hgB : wA.grows (wA.alloc (.cells #[.int .i64 0, .string ⟨#[]⟩, .int .i64 0, .int .i64 0, .bool false, .bool false, .slice none 0 0] 70)) := World.grows.alloc World.grows.refl _
    have hnB : (wA.alloc (.cells #[.int .i64 0, .string ⟨#[]⟩, .int .i64 0, .int .i64 0, .bool false, .bool false, .slice none 0 0] 70)).row w4.heap.size = some (.cells #[.int .i64 0, .string ⟨#[]⟩, .int .i64 0, .int .i64 0, .bool false, .bool false, .slice none 0 0] 70) := by rw [← hd0]; simp [go_sem]
    have hsB : (wA.alloc (.cells #[.int .i64 0, .string ⟨#[]⟩, .int .i64 0, .int .i64 0, .bool false, .bool false, .slice none 0 0] 70)).heap.size = wA.heap.size + 1 := by simp
    have hRB := hRA.grow hgB (by simp [hd0, zx4, zxF])
    refine hK _ _ hRB ?_
    clear hK K
    generalize wA.alloc (.cells #[.int .i64 0, .string ⟨#[]⟩, .int .i64 0, .int .i64 0, .bool false, .bool false, .slice none 0 0] 70) = wB at *
    have hg2B : w.grows wB := (gw4.trans hdd).trans hgB
    refine wpSeqL_appO w0.heap.size rfl rfl (.tmp 25) (.tmp 32) 58 rfl 70 (.agg #[.int .i64 0, .string ByteArray.empty, .int .i64 0, .int .i64 0, .bool false, .bool false, .slice none 0 0]) 7 72 Tryz.underlying58 (by kernel_rfl) rfl (by omega) (by omega) _ m.length _ rfl (HOM.out.grows hg2B) (some ⟨w4.heap.size, 0, none⟩) 1 1 [.int .i64 0, .string ByteArray.empty, .int .i64 0, .int .i64 0, .bool false, .bool false, .slice none 0 0] rfl rfl (.inr ⟨_, rfl, fun j u hu => ?_⟩) (by simp [Value.oneCell']) (by omega) (by have := hg2B.below.size; have := hg0.below.size; omega) ?_
    · exact cells_of_row (e := 70) (fr := (0, 0)) hnB j u hu
    intro v8 wG k1 k2 k3
    replace k2 : wB.grownBy wG (Value.slice aM m.length cM).ownBlock := k2
    replace k3 : v8.ownBlock = (Value.slice aM m.length cM).ownBlock ∨ v8.ownBlock = some wB.heap.size := k3
    have hs2B := hg2B.below.size
    have hRG := hRB.grown k2 (fun b hb => by
      have hb' : b = w.heap.size ∨ b = gF := by simpa using hb
      refine ⟨by rcases hb' with rfl | rfl <;> omega, fun e => ?_⟩
      obtain ⟨e1, e3⟩ := HMN.out b e.symm
      rcases hb' with rfl | rfl
      · omega
      · exact e1 rfl)
    refine ⟨hRG, ?_⟩
    obtain ⟨gV, cV, rfl, bV, zV, hst, hown⟩ := zero_app k1 rfl
    replace k3 : some gV = (Value.slice aM m.length cM).ownBlock ∨ some gV = some wB.heap.size := k3
    go_simp
    have hGF := hRG.of xF (by simp)
    have zGF := row_sz' hGF
    repeat (refine wpSeqL_free rfl ?_; refine wpQuiet_step (fun K hK => ?_); (rw [if_pos (by simp [Region.wanted])]; refine Exists.intro ?_ ⟨fun w' hw' => ?_, ?_⟩; rotate_left; focus (have r0 := rowsAs.of hw' x4 (by simp); have s0 := row_sz' r0; have r1 := rowsAs.of hw' xF (by simp); have s1 := row_sz' r1; first | (simp [Oper.quietAt, Oper.quietUpon, go_sem, r0, r1, s0, s1, i1, i2, hw2]; rfl) | (exact ⟨rfl, rfl⟩))); go_simp; refine hK _ ?_; clear hK K; refine wpQuiet_nil ?_)
    refine wpSeqL_end ?_
    have hneV : gV ≠ gF := fun e => by
      rcases k3 with k3 | k3
      · exact (HMN.out gV k3.symm).1 e
      · injection k3 with k3; omega
    have hsd := World.setCell_size' wG ⟨gF, os.length * 7 + 6, none⟩ (Value.slice (some ⟨gV, 0, none⟩) (m.length + 1) cV)
    have hrH : (wG.setCell ⟨gF, os.length * 7 + 6, none⟩ (Value.slice (some ⟨gV, 0, none⟩) (m.length + 1) cV)).row gV = wG.row gV := by rw [World.row_setCell, if_neg hneV]
    have hst2 := hst (wG.setCell ⟨gF, os.length * 7 + 6, none⟩ (Value.slice (some ⟨gV, 0, none⟩) (m.length + 1) cV)) [.int .i64 k, .string s, .int .i64 n1, .int .i64 d, .bool q1, .bool q2, .slice aU l.length cU] rfl (by simp [Value.oneCell']) hrH
    have hown2 := hown _ _ [.int .i64 k, .string s, .int .i64 n1, .int .i64 d, .bool q1, .bool q2, .slice aU l.length cU] rfl hrH rfl
    have HOW := Lib.hid hown2
    have HST := Lib.hid hst
    have HON := Lib.hid hown
    clear hown2 hst hown
    have j1 : (0 : Int) ≤ (m.length : Int) := by omega
    have j2 : (m.length : Int) < (m.length : Int) + 1 := by omega
    go_wp2_with fail
    go_ret
    have hGO : w0.grows wG := (hg0.trans hg2B).grown k2 fun k hk => (HOM.out.lt k hk).1
    have hsz2 := size_layV gV [.int .i64 k, .string s, .int .i64 n1, .int .i64 d, .bool q1, .bool q2, .slice aU l.length cU] (m.length * 7) (wG.setCell ⟨gF, os.length * 7 + 6, none⟩ (Value.slice (some ⟨gV, 0, none⟩) (m.length + 1) cV))
    have hfin : RStk w0 ((wG.setCell ⟨gF, os.length * 7 + 6, none⟩ (.slice (some ⟨gV, 0, none⟩) (m.length + 1) cV)).setCells gV (m.length * 7) [.int .i64 k, .string s, .int .i64 n1, .int .i64 d, .bool q1, .bool q2, .slice aU l.length cU]) (.slice (some ⟨gF, 0, none⟩) (os.length + 1) cF) ⟨os, ls ++ [m ++ [.mk ⟨k, s, n1, d, q1, q2⟩ l]]⟩ := by
      have hx : ∃ tg', StkR ((wG.setCell ⟨gF, os.length * 7 + 6, none⟩ (.slice (some ⟨gV, 0, none⟩) (m.length + 1) cV)).setCells gV (m.length * 7) [.int .i64 k, .string s, .int .i64 n1, .int .i64 d, .bool q1, .bool q2, .slice aU l.length cU]) w0.heap.size tg' (.slice (some ⟨gF, 0, none⟩) (ls.length + 1) cF) (ins ++ [.slice (some ⟨gV, 0, none⟩) (m.length + 1) cV]) ⟨os, ls ++ [m ++ [.mk ⟨k, s, n1, d, q1, q2⟩ l]]⟩ := by
        refine StkR.last (by rw [HL.out]; exact HP.out) HRF.out HC1.out HC2.out HV.out ?_ HOW.out ?_ (fun g h1 h2 h3 => ?_) ?_
        · rcases k3 with k3 | k3
          · exact .inl k3
          · exact .inr ⟨_, k3, hs2B⟩
        · have := k2.size; omega
        · have hgV : g ≠ gV := fun e => by
            rcases k3 with k3 | k3
            · exact h3 (by rw [e]; exact k3.symm)
            · injection k3 with k3; omega
          rw [row_layVO _ _ hgV, World.row_setCell, if_neg h2, row_growV k2 (by omega) (fun e => h3 e.symm)]; exact hg2B.row_eq h1
        · rw [row_layVO _ _ (fun e => hneV e.symm), World.row_setCell, if_pos rfl, hGF, HL.out, layV_one _ _ _ (by simpa using hcl), ← Array.toList_setIfInBounds]
          rfl
      rw [HL.out] at hx
      obtain ⟨tg', hx⟩ := hx
      exact ⟨tg', _, grows_layV bV _ _ (hGO.setCell' bF _ _), hx⟩
    exact ⟨_, rfl, hfin⟩
end Go.Proofs.YthcaphoejplecaaGreatDoor
