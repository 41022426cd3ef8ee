/- WALK over jalousieref8: Insert where the element is put in. No condition but that a row of elements stands in memory. -/
import Derived.Test.YtdbddnkjiehaiaaGreatDomQf
set_option linter.unusedSimpArgs false
set_option linter.unusedVariables false
namespace Go.Proofs.YtdbddnkjiehaiaaGreat
open Go.Maps Go.RowKit Go.Sort
theorem own_keepRow {W W' : World} {B : Nat} {et : TypeId} {sz : Nat} {v : Value} {xs : List Value} {m : Nat} (ho : W.ownsRow B et sz v m xs) (hg : W.grownBy W' v.ownBlock) {b : Nat} {o : Obj} (hb : b < B) (hr : W.row b = some o) : W'.row b = some o :=
  World.row_grown hg hr fun hh => by have := (ho.lt b hh.symm).1; omega

set_option maxRecDepth 100000 in
set_option maxHeartbeats 8000000 in
theorem refIns_ok (w : World) (t : Nat) (Q : Nat → Prop) (v : Value) (M : Dm) (h : RefAt w t Q v M) (hG : M.Good) (e : El) (he : e ∈ M.els) (n : Nat) (hn : n ≤ e.ks.length) (tag : ByteArray) (ht : tag.size ≤ maxLen) (hnm : nameB tag.data.toList = true) (hf : M.els.length < 256) (hnx : M.next ≤ 1073741824) (hd : M.deep 32 e.id < 32) :
    Calls Tryz.prog 35 #[.pointer (some ⟨t, 0, none⟩), .int .i64 e.id, .int .i64 (n : Int), .string tag] w fun r w' => r = .returned (.tuple #[.int .i64 M.next, .int .i64 0]) ∧ REdt w t Q ⟨M.root, M.next + 1, updE M.els e.id (insE n M.next) ++ [⟨M.next, e.id, tag, [], [], plainBx⟩]⟩ w' := by
  have HAT := Lib.hid (fun (W : World) (hW : w.grows W) (id : Int) => refAt_any W t v M (h.r.grows hW) hG.wf.few id)
  have HDP := Lib.hid (fun (W : World) (hW : w.grows W) => refDepth_any W t v M (h.r.grows hW) hG e he)
  have HPL := Lib.hid (fun (W : World) => refPlain_any W)
  have hm := fun W => refName_any tag W ht
  rw [hnm] at hm
  have HM := Lib.hid hm
  obtain ⟨k, hp, hkl, hke⟩ := posE_at hG.wf.up he
  obtain ⟨g, cap, rfl, hshp, hcap⟩ := ref_slice h hG
  have HW := Lib.hid (Dm.ins_wf hG.wf hG.par he n tag hf hnx hd).1
  have hew := h.elWf e he
  have HEW := Lib.hid hew
  have hkl2 := hew.2.2.2.2.2.2.2
  have hkI : (k : Int) < (M.els.length : Int) := by omega
  have hgq := h.qv g rfl
  have htl := h.qlt t h.qt
  have hgl := h.qlt g hgq.1
  have HUP := Lib.hid hG.wf.up
  obtain ⟨cur, ka, kc, hrg, hcz, hcell, hks, qk⟩ := h.parts hke
  have hkv : (ka = none ∧ kc = 0 ∧ e.ks.length = 0) ∨ ∃ p, ka = some ⟨p, 0, none⟩ ∧ e.ks.length ≤ kc := by
    rcases hks.2 with ⟨h0, h1⟩ | ⟨p, _, _, h0, _, _, h9, _⟩
    · injection h0 with h0 _ h2; exact .inl ⟨h0, h2, h1⟩
    · injection h0 with h0 _ h2; exact .inr ⟨p, h0, by omega⟩
  have HKS := Lib.hid hks
  have HQK := Lib.hid qk
  have HR := Lib.hid h
  have hkz : k * 11 + 11 ≤ cap * 11 := by have := Nat.mul_le_mul_right 11 (show k + 1 ≤ cap by omega); omega
  have hnI : ¬ ((e.ks.length : Int) < (n : Int)) := by omega
  have hn0 : ¬ ((n : Int) < 0) := by omega
  have hfI : ¬ 256 ≤ (M.els.length : Int) := by omega
  have hxI : ¬ 1073741824 < M.next := by omega
  have hdI : ¬ 32 ≤ ((M.deep 32 e.id : Nat) : Int) := by omega
  have hM0 := hG.wf.low e he
  have hwrN : wrap64 (M.next + 1) = M.next + 1 := by unfold wrap64; omega
  clear hm h hG he hshp hks qk hew hnm hd
  generalize M.deep 32 e.id = dd at *
  rcases hkv with ⟨rfl, rfl, hk0⟩ | ⟨p, rfl, hlk⟩
  · obtain rfl : n = 0 := by omega
    have hks0 : e.ks = [] := List.length_eq_zero_iff.1 hk0
    rw [hk0] at hcell
    go_enter Tryz.func35, Tryz.ntmps35
    go_upto_region 4 with (go_at_call 43; go_loud ((with_reducible refine (HAT.out _ (by repeat (with_reducible first | assumption | exact grA | apply grB | apply grC | apply grD | refine grE ?_ (by omega) _ | refine grF ?_ (by omega) _ _)) _).mono ?_); rw [hp]; rintro r w1 ⟨rfl, hg1⟩))
    have hr1 := (hg1.row_eq hgl).trans hrg
    have hx1 := (HR.out.grows hg1).head
    have zr1 := row_sz' hr1
    have zx1 := row_sz' hx1
    go_upto_region 8 with (go_at_call 14; (with_reducible refine (HM.out _).mono ?_); rintro e w1 ⟨rfl, x1, rfl⟩)
    have hgA : w.grows (w1.plus x1) := (by repeat (with_reducible first | assumption | exact grA | apply grB | apply grC | apply grD | refine grE ?_ (by omega) _ | refine grF ?_ (by omega) _ _))
    generalize w1.plus x1 = wA at *
    have hrA := (hgA.row_eq hgl).trans hrg
    have hxA := (HR.out.grows hgA).head
    have zrA := row_sz' hrA
    have zxA := row_sz' hxA
    clear hr1 hx1 zr1 zx1
    go_upto_region 12 with (go_at_call 19; go_loud ((with_reducible refine (HDP.out _ (by repeat (with_reducible first | assumption | exact grA | apply grB | apply grC | apply grD | refine grE ?_ (by omega) _ | refine grF ?_ (by omega) _ _))).mono ?_); rintro r wB ⟨rfl, hgB0⟩))
    have hgB : w.grows wB := hgA.trans hgB0
    have hRB := HR.out.grows hgB
    have hrB := (hgB.row_eq hgl).trans hrg
    have hxB := hRB.head
    have zrB := row_sz' hrB
    have zxB := row_sz' hxB
    clear hrA hxA zrA zxA
    go_upto_region 14 with fail
    have hmB : Mvd Q w (wB.setCell ⟨t, 1, none⟩ (.int .i64 (M.next + 1))) := ((Mvd.refl Q w).grow hgB).cell _ _ _ (.inl HR.out.qt)
    have hRC := hRB.nextS (M.next + 1)
    have hxC := hRC.head
    have hrC : (wB.setCell ⟨t, 1, none⟩ (.int .i64 (M.next + 1))).row g = some (.cells cur 49) := (by rw [World.row_setCell, if_neg hgq.2]; exact hrB)
    have hsC : (wB.setCell ⟨t, 1, none⟩ (.int .i64 (M.next + 1))).heap.size = wB.heap.size := World.setCell_size' _ _ _
    have hsB := hgB.below.size
    have hsCw : w.heap.size ≤ (wB.setCell ⟨t, 1, none⟩ (.int .i64 (M.next + 1))).heap.size := by omega
    clear hrB hxB zrB zxB hgB0 hRB hsC
    generalize wB.setCell ⟨t, 1, none⟩ (.int .i64 (M.next + 1)) = wC at *
    have zrC := row_sz' hrC
    have zxC := row_sz' hxC
    have HRC := Lib.hid hRC
    have HMB := Lib.hid hmB
    clear hRC hmB
    go_upto_region 15 with (at_builtin; refine wpList_appS wC (wC.heap.size) rfl (.tmp 69) (.tmp 79) _ rfl 3 (.int .i64 0) 1 8 Tryz.underlying46 (by kernel_rfl) rfl (by omega) (by omega) _ 0 _ rfl (World.ownsRow.grows (World.ownsRow_made wC #[] 0 (Nat.le_refl _) (by decide) rfl) (by repeat (with_reducible first | assumption | exact grA | apply grB | apply grC | apply grD | refine grE ?_ (by omega) _ | refine grF ?_ (by omega) _ _))) _ 0 _ ((e.ks.take 0).map (Value.int .i64)) rfl (by simp) (.inl rfl) (int_one _) (by omega) (by repeat (with_reducible first | assumption | exact grA | apply grB | apply grC | apply grD | refine grE ?_ (by omega) _ | refine grF ?_ (by omega) _ _)) (by omega) (by simp <;> omega) ?_; intro v' w' hg' HO' HR' HG' HA')
    have ho0 := HO'.out
    rw [Nat.zero_add, List.nil_append] at ho0
    obtain ⟨a7, c7, rfl⟩ := own_slice ho0
    have hgD := hg'
    have HOD := Lib.hid ho0
    clear HO' HR' HG' HA' hg' ho0
    generalize w' = wD at *
    have hrD := (hgD.row_eq zrC.1).trans hrC
    have hxD := (hgD.row_eq zxC.1).trans hxC
    have zrD := row_sz' hrD
    have zxD := row_sz' hxD
    have hsD := hgD.below.size
    clear hrC hxC zrC zxC
    refine wp_region_seq_tail (S := fun W => W.row t = some (.cells #[.slice (some ⟨g, 0, none⟩) M.els.length cap, .int .i64 (M.next + 1)] 58) ∧ W.row g = some (.cells cur 49) ∧ Hid True) 22 (by kernel_rfl) (by kernel_rfl) ⟨hxD, hrD, Lib.hid trivial⟩ ?_
    simp only [List.take_succ_cons, List.take_zero, List.drop_succ_cons, List.drop_zero]
    show wpSeqL _ _ _ _ _ _ (World.drew wD)
    have hdd : wD.grows (World.drew wD) := World.grows.drew World.grows.refl
    have hs0 : (World.drew wD).heap.size = wD.heap.size := rfl
    have hxE : (World.drew wD).row t = _ := hxD
    have hrE : (World.drew wD).row g = _ := hrD
    generalize World.drew wD = wE at *
    (refine wpSeqL_free rfl ?_; refine wpQuiet_step (fun K hK => ?_); rw [if_pos (by simp [Region.wanted])]; refine ⟨.pointer (some ⟨t, 0, none⟩), fun w' hw' => ?_, ?_⟩; (focus (obtain ⟨r1, r2, r3⟩ := hw'; have s1 := row_sz' r1; have s2 := row_sz' r2; simp [Oper.quietAt, Oper.quietUpon, go_sem, r1, r2, r3, s1, s2])); go_simp; refine hK _ ?_; clear hK K; refine wpQuiet_nil ?_)
    (refine wpSeqL_free rfl ?_; refine wpQuiet_step (fun K hK => ?_); rw [if_pos (by simp [Region.wanted])]; refine ⟨.pointer (some ⟨t, 0, none⟩), fun w' hw' => ?_, ?_⟩; (focus (obtain ⟨r1, r2, r3⟩ := hw'; have s1 := row_sz' r1; have s2 := row_sz' r2; simp [Oper.quietAt, Oper.quietUpon, go_sem, r1, r2, r3, s1, s2])); go_simp; refine hK _ ?_; clear hK K; refine wpQuiet_nil ?_)
    (refine wpSeqL_free rfl ?_; refine wpQuiet_step (fun K hK => ?_); rw [if_pos (by simp [Region.wanted])]; refine ⟨.pointer (some ⟨t, 0, none⟩), fun w' hw' => ?_, ?_⟩; (focus (obtain ⟨r1, r2, r3⟩ := hw'; have s1 := row_sz' r1; have s2 := row_sz' r2; simp [Oper.quietAt, Oper.quietUpon, go_sem, r1, r2, r3, s1, s2])); go_simp; refine hK _ ?_; clear hK K; refine wpQuiet_nil ?_)
    (refine wpSeqL_free rfl ?_; refine wpQuiet_step (fun K hK => ?_); rw [if_pos (by simp [Region.wanted])]; refine ⟨.slice (some ⟨g, 0, none⟩) M.els.length cap, fun w' hw' => ?_, ?_⟩; (focus (obtain ⟨r1, r2, r3⟩ := hw'; have s1 := row_sz' r1; have s2 := row_sz' r2; simp [Oper.quietAt, Oper.quietUpon, go_sem, r1, r2, r3, s1, s2])); go_simp; refine hK _ ?_; clear hK K; refine wpQuiet_nil ?_)
    (refine wpSeqL_free rfl ?_; refine wpQuiet_step (fun K hK => ?_); rw [if_pos (by simp [Region.wanted])]; refine ⟨.int .i64 k, fun w' hw' => ?_, ?_⟩; (focus (obtain ⟨r1, r2, r3⟩ := hw'; have s1 := row_sz' r1; have s2 := row_sz' r2; simp [Oper.quietAt, Oper.quietUpon, go_sem, r1, r2, r3, s1, s2])); go_simp; refine hK _ ?_; clear hK K; refine wpQuiet_nil ?_)
    (refine wpSeqL_free rfl ?_; refine wpQuiet_step (fun K hK => ?_); rw [if_pos (by simp [Region.wanted])]; refine ⟨.slice a7 0 c7, fun w' hw' => ?_, ?_⟩; (focus (obtain ⟨r1, r2, r3⟩ := hw'; have s1 := row_sz' r1; have s2 := row_sz' r2; simp [Oper.quietAt, Oper.quietUpon, go_sem, r1, r2, r3, s1, s2])); go_simp; refine hK _ ?_; clear hK K; refine wpQuiet_nil ?_)
    (refine wpSeqL_free rfl ?_; refine wpQuiet_step (fun K hK => ?_); rw [if_pos (by simp [Region.wanted])]; refine ⟨.int .i64 M.next, fun w' hw' => ?_, ?_⟩; (focus (obtain ⟨r1, r2, r3⟩ := hw'; have s1 := row_sz' r1; have s2 := row_sz' r2; simp [Oper.quietAt, Oper.quietUpon, go_sem, r1, r2, r3, s1, s2])); go_simp; refine hK _ ?_; clear hK K; refine wpQuiet_nil ?_)
    refine wpSeqL_link rfl (fun K hK => ?_)
    go_simp
    have hgE : wD.grows (wE.alloc (.cells #[.int .i64 M.next] 3)) := hdd.trans (World.grows.alloc World.grows.refl _)
    have hnF : (wE.alloc (.cells #[.int .i64 M.next] 3)).row wE.heap.size = some (.cells #[.int .i64 M.next] 3) := by simp [go_sem]
    have hsF : (wE.alloc (.cells #[.int .i64 M.next] 3)).heap.size = wE.heap.size + 1 := by simp
    have hxF := (hgE.row_eq zxD.1).trans hxD
    have hrF := (hgE.row_eq zrD.1).trans hrD
    refine hK _ _ ⟨hxF, hrF, Lib.hid trivial⟩ ?_
    clear hK K hxE hrE hdd
    generalize wE.alloc (.cells #[.int .i64 M.next] 3) = wF at *
    have zxF := row_sz' hxF
    have zrF := row_sz' hrF
    have htC : t < wC.heap.size := by have := HRC.out.qlt t HRC.out.qt; exact this
    have hgC : g < wC.heap.size := by have := HRC.out.qlt g hgq.1; exact this
    refine wpSeqL_appO wC.heap.size rfl rfl (.tmp 86) (.tmp 88) 46 rfl 3 (.int .i64 0) 1 8 Tryz.underlying46 (by kernel_rfl) rfl (by omega) (by omega) _ 0 _ rfl (HOD.out.grows hgE) (some ⟨wD.heap.size, 0, none⟩) 1 1 [.int .i64 M.next] rfl rfl (.inr ⟨_, rfl, fun j u hu => ?_⟩) (by simp [Value.oneCell']) (by omega) (by omega) ?_
    · exact cells_of_row (e := 3) (fr := (0, 0)) (by rw [← hs0, hnF]) j u hu
    intro v8 wG q1 q2 q3
    have hxG := own_keepRow (HOD.out.grows hgE) q2 htC hxF
    have hrG := own_keepRow (HOD.out.grows hgE) q2 hgC hrF
    refine ⟨⟨hxG, hrG, Lib.hid trivial⟩, ?_⟩
    obtain ⟨a8, c8, rfl⟩ := own_slice q1
    go_simp
    (refine wpSeqL_free rfl ?_; refine wpQuiet_step (fun K hK => ?_); rw [if_pos (by simp [Region.wanted])]; refine ⟨.pointer (some ⟨t, 0, none⟩), fun w' hw' => ?_, ?_⟩; (focus (obtain ⟨r1, r2, r3⟩ := hw'; have s1 := row_sz' r1; have s2 := row_sz' r2; simp [Oper.quietAt, Oper.quietUpon, go_sem, r1, r2, r3, s1, s2])); go_simp; refine hK _ ?_; clear hK K; refine wpQuiet_nil ?_)
    (refine wpSeqL_free rfl ?_; refine wpQuiet_step (fun K hK => ?_); rw [if_pos (by simp [Region.wanted])]; refine ⟨.pointer (some ⟨t, 0, none⟩), fun w' hw' => ?_, ?_⟩; (focus (obtain ⟨r1, r2, r3⟩ := hw'; have s1 := row_sz' r1; have s2 := row_sz' r2; simp [Oper.quietAt, Oper.quietUpon, go_sem, r1, r2, r3, s1, s2])); go_simp; refine hK _ ?_; clear hK K; refine wpQuiet_nil ?_)
    (refine wpSeqL_free rfl ?_; refine wpQuiet_step (fun K hK => ?_); rw [if_pos (by simp [Region.wanted])]; refine ⟨.pointer (some ⟨t, 0, none⟩), fun w' hw' => ?_, ?_⟩; (focus (obtain ⟨r1, r2, r3⟩ := hw'; have s1 := row_sz' r1; have s2 := row_sz' r2; simp [Oper.quietAt, Oper.quietUpon, go_sem, r1, r2, r3, s1, s2])); go_simp; refine hK _ ?_; clear hK K; refine wpQuiet_nil ?_)
    (refine wpSeqL_free rfl ?_; refine wpQuiet_step (fun K hK => ?_); rw [if_pos (by simp [Region.wanted])]; refine ⟨.slice (some ⟨g, 0, none⟩) M.els.length cap, fun w' hw' => ?_, ?_⟩; (focus (obtain ⟨r1, r2, r3⟩ := hw'; have s1 := row_sz' r1; have s2 := row_sz' r2; simp [Oper.quietAt, Oper.quietUpon, go_sem, r1, r2, r3, s1, s2])); go_simp; refine hK _ ?_; clear hK K; refine wpQuiet_nil ?_)
    (refine wpSeqL_free rfl ?_; refine wpQuiet_step (fun K hK => ?_); rw [if_pos (by simp [Region.wanted])]; refine ⟨.int .i64 k, fun w' hw' => ?_, ?_⟩; (focus (obtain ⟨r1, r2, r3⟩ := hw'; have s1 := row_sz' r1; have s2 := row_sz' r2; simp [Oper.quietAt, Oper.quietUpon, go_sem, r1, r2, r3, s1, s2])); go_simp; refine hK _ ?_; clear hK K; refine wpQuiet_nil ?_)
    (refine wpSeqL_free rfl ?_; refine wpQuiet_step (fun K hK => ?_); rw [if_pos (by simp [Region.wanted])]; refine ⟨.pointer (some ⟨g, k * 11, none⟩), fun w' hw' => ?_, ?_⟩; (focus (obtain ⟨r1, r2, r3⟩ := hw'; have s1 := row_sz' r1; have s2 := row_sz' r2; simp [Oper.quietAt, Oper.quietUpon, go_sem, r1, r2, r3, s1, s2, hkI])); go_simp; refine hK _ ?_; clear hK K; refine wpQuiet_nil ?_)
    (refine wpSeqL_free rfl ?_; refine wpQuiet_step (fun K hK => ?_); rw [if_pos (by simp [Region.wanted])]; refine ⟨.pointer (some ⟨g, k * 11 + 3, none⟩), fun w' hw' => ?_, ?_⟩; (focus (obtain ⟨r1, r2, r3⟩ := hw'; have s1 := row_sz' r1; have s2 := row_sz' r2; simp [Oper.quietAt, Oper.quietUpon, go_sem, r1, r2, r3, s1, s2])); go_simp; refine hK _ ?_; clear hK K; refine wpQuiet_nil ?_)
    (refine wpSeqL_free rfl ?_; refine wpQuiet_step (fun K hK => ?_); rw [if_pos (by simp [Region.wanted])]; refine ⟨.slice none 0 0, fun w' hw' => ?_, ?_⟩; (focus (obtain ⟨r1, r2, r3⟩ := hw'; have s1 := row_sz' r1; have s2 := row_sz' r2; simp [Oper.quietAt, Oper.quietUpon, go_sem, r1, r2, r3, s1, s2, hcell])); go_simp; refine hK _ ?_; clear hK K; refine wpQuiet_nil ?_)
    (refine wpSeqL_free rfl ?_; refine wpQuiet_step (fun K hK => ?_); rw [if_pos (by simp [Region.wanted])]; refine ⟨.int .i64 0, fun w' hw' => ?_, ?_⟩; (focus (obtain ⟨r1, r2, r3⟩ := hw'; have s1 := row_sz' r1; have s2 := row_sz' r2; simp [Oper.quietAt, Oper.quietUpon, go_sem, r1, r2, r3, s1, s2])); go_simp; refine hK _ ?_; clear hK K; refine wpQuiet_nil ?_)
    refine wpSeqL_free rfl ?_
    refine wpQuiet_step (fun K hK => ?_)
    go_simp
    refine ⟨_, fun _ _ _ _ => rfl, ?_⟩
    refine hK _ ?_
    clear hK K
    refine wpQuiet_nil ?_
    have hsG := q2.size
    refine wpSeqL_appO wC.heap.size rfl rfl (.tmp 89) (.tmp 99) 46 rfl 3 (.int .i64 0) 1 8 Tryz.underlying46 (by kernel_rfl) rfl (by omega) (by omega) _ (0 + 1) _ rfl q1 none 0 0 ((e.ks.drop 0).map (Value.int .i64)) rfl (by simp [hk0]) (.inl ⟨rfl, rfl, rfl⟩) (int_one _) (by omega) (by omega) ?_
    intro v10 wH p1 p2 p3
    have hxH := own_keepRow q1 p2 htC hxG
    have hrH := own_keepRow q1 p2 hgC hrG
    refine ⟨⟨hxH, hrH, Lib.hid trivial⟩, ?_⟩
    obtain ⟨a10, c10, rfl⟩ := own_slice p1
    have zxH := row_sz' hxH
    have zrH := row_sz' hrH
    go_simp
    (refine wpSeqL_free rfl ?_; refine wpQuiet_step (fun K hK => ?_); rw [if_pos (by simp [Region.wanted])]; refine ⟨.pointer (some ⟨g, k * 11, none⟩), fun w' hw' => ?_, ?_⟩; (focus (obtain ⟨r1, r2, r3⟩ := hw'; have s1 := row_sz' r1; have s2 := row_sz' r2; simp [Oper.quietAt, Oper.quietUpon, go_sem, r1, r2, r3, s1, s2, hkI])); go_simp; refine hK _ ?_; clear hK K; refine wpQuiet_nil ?_)
    (refine wpSeqL_free rfl ?_; refine wpQuiet_step (fun K hK => ?_); rw [if_pos (by simp [Region.wanted])]; refine ⟨.pointer (some ⟨g, k * 11 + 3, none⟩), fun w' hw' => ?_, ?_⟩; (focus (obtain ⟨r1, r2, r3⟩ := hw'; have s1 := row_sz' r1; have s2 := row_sz' r2; simp [Oper.quietAt, Oper.quietUpon, go_sem, r1, r2, r3, s1, s2])); go_simp; refine hK _ ?_; clear hK K; refine wpQuiet_nil ?_)
    refine wpSeqL_end ?_
    go_upto_region 16 with fail
    have hrowH : ∀ b, b < wC.heap.size → wH.row b = wC.row b := fun b hb => by
      have z1 := hgE.below.size
      rw [World.row_grow p2 (by omega) (fun hh => by have := (q1.lt b hh.symm).1; omega), World.row_grow q2 (by omega) (fun hh => by have := ((HOD.out.grows hgE).lt b hh.symm).1; omega)]
      exact (hgD.trans hgE).row_eq hb
    have hsH := p2.size
    have hszF := hgE.below.size
    have hMH : Mvd Q w wH := (((HMB.out.grow (hgD.trans hgE)).grown q2 fun b hb => .inr (by have := ((HOD.out.grows hgE).lt b hb).1; omega))).grown p2 fun b hb => .inr (by have := (q1.lt b hb).1; omega)
    have hRH : RefAt wH t Q (.slice (some ⟨g, 0, none⟩) M.els.length cap) ⟨M.root, M.next + 1, M.els⟩ := HRC.out.keep (fun b hb => hrowH b (HRC.out.qlt b hb)) (by omega)
    have hlen10 : (insE 0 M.next e).ks.length = 1 := by
      show (e.ks.take 0 ++ M.next :: e.ks.drop 0).length = _
      simp [hk0]
    have hval10 : (insE 0 M.next e).ks.map (Value.int .i64) = (e.ks.take 0).map (Value.int .i64) ++ [.int .i64 M.next] ++ (e.ks.drop 0).map (Value.int .i64) := by
      show (e.ks.take 0 ++ M.next :: e.ks.drop 0).map _ = _
      simp
    have hp1 : wH.ownsRow wC.heap.size 3 1 (.slice a10 1 c10) 1 ((insE 0 M.next e).ks.map (Value.int .i64)) := by rw [hval10]; exact p1
    clear p1
    have p1 := hp1
    clear hp1
    have hMI : Mvd Q w (wH.setCell ⟨g, k * 11 + 3, none⟩ (.slice a10 1 c10)) := hMH.cell _ _ _ (.inl hgq.1)
    have hsI : (wH.setCell ⟨g, k * 11 + 3, none⟩ (.slice a10 1 c10)).heap.size = wH.heap.size := World.setCell_size' _ _ _
    have hiWf : (insE 0 M.next e).Wf := by
      have hmem : insE 0 M.next e ∈ updE M.els e.id (insE 0 M.next) ++ [⟨M.next, e.id, tag, [], [], plainBx⟩] := List.mem_append_left _ (updE_mem.2 ⟨e, List.mem_of_getElem? hke, by rw [if_pos rfl]⟩)
      have h9 := wf_kids HW.out hmem
      have hw := HEW.out
      refine ⟨hw.1, hw.2.1, hw.2.2.1, fun x hx => ?_, hw.2.2.2.2.1, hw.2.2.2.2.2.1, hw.2.2.2.2.2.2.1, h9⟩
      rcases (mem_ins 0).1 hx with rfl | hx
      · exact ⟨by omega, by omega⟩
      · exact hw.2.2.2.1 x hx
    have hRI : RefAt (wH.setCell ⟨g, k * 11 + 3, none⟩ (.slice a10 1 c10)) t (fun b => Q b ∨ w.heap.size ≤ b ∧ b < wH.heap.size) (.slice (some ⟨g, 0, none⟩) M.els.length cap) ⟨M.root, M.next + 1, updE M.els e.id (insE 0 M.next)⟩ := by
      refine RefAt.one (w := wH) (W := wH.setCell ⟨g, k * 11 + 3, none⟩ (.slice a10 1 c10)) (Q := Q) (Q' := fun b => Q b ∨ w.heap.size ≤ b ∧ b < wH.heap.size) (M := ⟨M.root, M.next + 1, M.els⟩) hRH HUP.out hke (insE 0 M.next) (j := 3) (vs := [.slice a10 1 c10]) (by simp) rfl (fun b hb hne => by rw [World.row_setCell, if_neg hne]) (fun b hb => .inl hb) (fun b hb => ?_) (fun cs hx => ?_) hiWf
      · rw [hsI]
        rcases hb with hb | hb
        · exact hRH.qlt b hb
        · exact hb.2
      · obtain ⟨ka2, aa2, kc2, ac2, rfl, _, ha, _, z2⟩ := hx
        refine ⟨a10, aa2, c10, ac2, by unfold elO; rw [hlen10]; rfl, World.ownsRow.mono_base (Nat.zero_le _) (ownsRow_row (by rw [hlen10]; exact p1) fun b hb => by rw [World.row_setCell, if_neg (by have := (p1.lt b (by rw [hlen10] at hb; exact hb)).1; omega)]), ownsRow_row ha fun b hb => by rw [World.row_setCell, if_neg (z2 b hb).2.2], fun b hb => ?_, fun b hb => ⟨.inl (z2 b hb).1, (z2 b hb).2⟩⟩
        have := p1.lt b (by rw [hlen10] at hb; exact hb)
        exact ⟨.inr ⟨by omega, by omega⟩, by omega, by omega⟩
    clear p1 p2 p3 q1 q2 q3 hrowH hMH hRH hxH hrH zxH zrH hxG hrG hxF hrF zxF zrF hxD hrD zxD zrD hnF hgE hgD hval10 hlen10 HOD HMB
    have hIdl : (updE M.els e.id (insE 0 M.next)).length = M.els.length := by unfold updE; simp
    generalize wH.setCell ⟨g, k * 11 + 3, none⟩ (.slice a10 1 c10) = wI at *
    have hsIw : w.heap.size ≤ wI.heap.size := by omega
    have hRI2 : RefAt wI t (fun b => Q b ∨ w.heap.size ≤ b ∧ b < wI.heap.size) (.slice (some ⟨g, 0, none⟩) M.els.length cap) ⟨M.root, M.next + 1, updE M.els e.id (insE 0 M.next)⟩ := by rw [hsI]; exact hRI
    have hxI := hRI2.head
    have zxI := row_sz' hxI
    have HRI := Lib.hid hRI2
    have HMI := Lib.hid hMI
    obtain ⟨css, l1, l2, l3⟩ := hRI2.els
    have L2 := Lib.hid l2
    have L3 := Lib.hid l3
    have htI : t < wI.heap.size := hRI2.qlt t hRI2.qt
    have hgI : g < wI.heap.size := hRI2.qlt g (.inl hgq.1)
    clear hRI hRI2 hMI l2 l3 hsI
    refine wp_region_seq_tail (S := fun W => W.row t = some (.cells #[.slice (some ⟨g, 0, none⟩) M.els.length cap, .int .i64 (M.next + 1)] 58) ∧ Hid True) 14 (by kernel_rfl) (by kernel_rfl) ⟨hxI, Lib.hid trivial⟩ ?_
    simp only [List.take_succ_cons, List.take_zero, List.drop_succ_cons, List.drop_zero]
    show wpSeqL _ _ _ _ _ _ (World.drew wI)
    have hdd : wI.grows (World.drew wI) := World.grows.drew World.grows.refl
    generalize World.drew wI = wJ at *
    (refine wpSeqL_free rfl ?_; refine wpQuiet_step (fun K hK => ?_); rw [if_pos (by simp [Region.wanted])]; refine ⟨.pointer (some ⟨t, 0, none⟩), fun w' hw' => ?_, ?_⟩; (focus (obtain ⟨r1, _⟩ := hw'; have s1 := row_sz' r1; simp [Oper.quietAt, Oper.quietUpon, go_sem, r1, s1])); go_simp; refine hK _ ?_; clear hK K; refine wpQuiet_nil ?_)
    (refine wpSeqL_free rfl ?_; refine wpQuiet_step (fun K hK => ?_); rw [if_pos (by simp [Region.wanted])]; refine ⟨.pointer (some ⟨t, 0, none⟩), fun w' hw' => ?_, ?_⟩; (focus (obtain ⟨r1, _⟩ := hw'; have s1 := row_sz' r1; simp [Oper.quietAt, Oper.quietUpon, go_sem, r1, s1])); go_simp; refine hK _ ?_; clear hK K; refine wpQuiet_nil ?_)
    (refine wpSeqL_free rfl ?_; refine wpQuiet_step (fun K hK => ?_); rw [if_pos (by simp [Region.wanted])]; refine ⟨.pointer (some ⟨t, 0, none⟩), fun w' hw' => ?_, ?_⟩; (focus (obtain ⟨r1, _⟩ := hw'; have s1 := row_sz' r1; simp [Oper.quietAt, Oper.quietUpon, go_sem, r1, s1])); go_simp; refine hK _ ?_; clear hK K; refine wpQuiet_nil ?_)
    (refine wpSeqL_free rfl ?_; refine wpQuiet_step (fun K hK => ?_); rw [if_pos (by simp [Region.wanted])]; refine ⟨.pointer (some ⟨t, 0, none⟩), fun w' hw' => ?_, ?_⟩; (focus (obtain ⟨r1, _⟩ := hw'; have s1 := row_sz' r1; simp [Oper.quietAt, Oper.quietUpon, go_sem, r1, s1])); go_simp; refine hK _ ?_; clear hK K; refine wpQuiet_nil ?_)
    (refine wpSeqL_free rfl ?_; refine wpQuiet_step (fun K hK => ?_); rw [if_pos (by simp [Region.wanted])]; refine ⟨.slice (some ⟨g, 0, none⟩) M.els.length cap, fun w' hw' => ?_, ?_⟩; (focus (obtain ⟨r1, _⟩ := hw'; have s1 := row_sz' r1; simp [Oper.quietAt, Oper.quietUpon, go_sem, r1, s1])); go_simp; refine hK _ ?_; clear hK K; refine wpQuiet_nil ?_)
    (refine wpSeqL_free rfl ?_; refine wpQuiet_step (fun K hK => ?_); rw [if_pos (by simp [Region.wanted])]; refine ⟨.int .i64 M.next, fun w' hw' => ?_, ?_⟩; (focus (obtain ⟨r1, _⟩ := hw'; have s1 := row_sz' r1; simp [Oper.quietAt, Oper.quietUpon, go_sem, r1, s1])); go_simp; refine hK _ ?_; clear hK K; refine wpQuiet_nil ?_)
    (refine wpSeqL_free rfl ?_; refine wpQuiet_step (fun K hK => ?_); rw [if_pos (by simp [Region.wanted])]; refine ⟨.int .i64 e.id, fun w' hw' => ?_, ?_⟩; (focus (obtain ⟨r1, _⟩ := hw'; have s1 := row_sz' r1; simp [Oper.quietAt, Oper.quietUpon, go_sem, r1, s1])); go_simp; refine hK _ ?_; clear hK K; refine wpQuiet_nil ?_)
    (refine wpSeqL_free rfl ?_; refine wpQuiet_step (fun K hK => ?_); rw [if_pos (by simp [Region.wanted])]; refine ⟨.string tag, fun w' hw' => ?_, ?_⟩; (focus (obtain ⟨r1, _⟩ := hw'; have s1 := row_sz' r1; simp [Oper.quietAt, Oper.quietUpon, go_sem, r1, s1])); go_simp; refine hK _ ?_; clear hK K; refine wpQuiet_nil ?_)
    refine wpSeqL_link rfl (fun K hK => ?_)
    go_simp
    (go_at_call 56; go_loud ((with_reducible refine (HPL.out _).mono ?_); rintro r wK ⟨rfl, hgK⟩))
    have hgK2 := hdd.trans hgK
    have hxK := (hgK2.row_eq htI).trans hxI
    refine ⟨_, rfl, hK _ _ ⟨hxK, Lib.hid trivial⟩ ?_⟩
    clear hK K
    refine wpSeqL_free rfl ?_
    refine wpQuiet_step (fun K hK => ?_)
    go_simp
    refine ⟨_, fun _ _ _ => rfl, ?_⟩
    refine hK _ ?_
    clear hK K
    refine wpQuiet_nil ?_
    refine wpSeqL_link rfl (fun K hK => ?_)
    go_simp
    have hgL : wI.grows (wK.alloc (.cells #[.int .i64 M.next, .int .i64 e.id, .string tag, .slice none 0 0, .slice none 0 0, .int .i64 0, .string ByteArray.empty, .int .i64 0, .int .i64 1, .int .i64 0, .int .i64 1] 49)) := hgK2.trans (World.grows.alloc World.grows.refl _)
    have hnL : (wK.alloc (.cells #[.int .i64 M.next, .int .i64 e.id, .string tag, .slice none 0 0, .slice none 0 0, .int .i64 0, .string ByteArray.empty, .int .i64 0, .int .i64 1, .int .i64 0, .int .i64 1] 49)).row wK.heap.size = some (.cells #[.int .i64 M.next, .int .i64 e.id, .string tag, .slice none 0 0, .slice none 0 0, .int .i64 0, .string ByteArray.empty, .int .i64 0, .int .i64 1, .int .i64 0, .int .i64 1] 49) := by simp [go_sem]
    have hxL := (hgL.row_eq htI).trans hxI
    refine hK _ _ ⟨hxL, Lib.hid trivial⟩ ?_
    clear hK K hxK hgK hdd hgK2
    generalize wK.alloc (.cells #[.int .i64 M.next, .int .i64 e.id, .string tag, .slice none 0 0, .slice none 0 0, .int .i64 0, .string ByteArray.empty, .int .i64 0, .int .i64 1, .int .i64 0, .int .i64 1] 49) = wL at *
    have hsL := hgL.below.size
    have hl3 : wL.ownsRow 0 49 11 (.slice (some ⟨g, 0, none⟩) M.els.length cap) M.els.length css.flatten := by
      have := L3.out.grows hgL
      show wL.ownsRow 0 49 11 _ _ _
      rw [show (⟨M.root, M.next + 1, updE M.els e.id (insE 0 M.next)⟩ : Dm).els.length = M.els.length from hIdl] at this
      exact this
    refine wpSeqL_appO 0 rfl rfl (.tmp 107) (.tmp 113) 22 rfl 49 (.agg #[.int .i64 0, .int .i64 0, .string ByteArray.empty, .slice none 0 0, .slice none 0 0, .int .i64 0, .string ByteArray.empty, .int .i64 0, .int .i64 0, .int .i64 0, .int .i64 0]) 11 136 Tryz.underlying22 (by kernel_rfl) rfl (by omega) (by omega) _ M.els.length _ rfl hl3 (some ⟨wK.heap.size, 0, none⟩) 1 1 [.int .i64 M.next, .int .i64 e.id, .string tag, .slice none 0 0, .slice none 0 0, .int .i64 0, .string ByteArray.empty, .int .i64 0, .int .i64 1, .int .i64 0, .int .i64 1] rfl rfl (.inr ⟨_, rfl, fun j u hu => ?_⟩) (by simp [Value.oneCell']) (by omega) (by omega) ?_
    · exact cells_of_row (e := 49) (fr := (0, 0)) (by rw [hnL]) j u hu
    intro v14 wM p1 p2 p3
    obtain ⟨a14, c14, rfl⟩ := own_slice p1
    have hxM : wM.row t = _ := World.row_grown p2 hxL (fun hh => hgq.2 (by injection hh with hh; exact hh.symm))
    have zxM := row_sz' hxM
    refine ⟨⟨hxM, Lib.hid trivial⟩, ?_⟩
    go_simp
    (refine wpSeqL_free rfl ?_; refine wpQuiet_step (fun K hK => ?_); rw [if_pos (by simp [Region.wanted])]; refine ⟨.pointer (some ⟨t, 0, none⟩), fun w' hw' => ?_, ?_⟩; (focus (obtain ⟨r1, _⟩ := hw'; have s1 := row_sz' r1; simp [Oper.quietAt, Oper.quietUpon, go_sem, r1, s1])); go_simp; refine hK _ ?_; clear hK K; refine wpQuiet_nil ?_)
    (refine wpSeqL_free rfl ?_; refine wpQuiet_step (fun K hK => ?_); rw [if_pos (by simp [Region.wanted])]; refine ⟨.pointer (some ⟨t, 0, none⟩), fun w' hw' => ?_, ?_⟩; (focus (obtain ⟨r1, _⟩ := hw'; have s1 := row_sz' r1; simp [Oper.quietAt, Oper.quietUpon, go_sem, r1, s1])); go_simp; refine hK _ ?_; clear hK K; refine wpQuiet_nil ?_)
    refine wpSeqL_end ?_
    go_wp2_with fail
    go_ret2
    have hW0 : (wM.setCell ⟨t, 0, none⟩ (.slice a14 (M.els.length + 1) c14)).row t = some (.cells #[.slice a14 (M.els.length + 1) c14, .int .i64 (M.next + 1)] 58) := by rw [World.row_setCell, if_pos rfl, hxM]; rfl
    have hsW : (wM.setCell ⟨t, 0, none⟩ (.slice a14 (M.els.length + 1) c14)).heap.size = wM.heap.size := World.setCell_size' _ _ _
    have hrW : ∀ b, b < wI.heap.size → b ≠ t → b ≠ g → (wM.setCell ⟨t, 0, none⟩ (.slice a14 (M.els.length + 1) c14)).row b = wI.row b := fun b hb h1 h2 => by
      rw [World.row_setCell, if_neg h1, World.row_grow p2 (by omega) (fun hh => h2 (by injection hh))]
      exact hgL.row_eq hb
    have hMW : Mvd Q w (wM.setCell ⟨t, 0, none⟩ (.slice a14 (M.els.length + 1) c14)) := (((HMI.out.grow hgL).grown p2 fun b hb => .inl (by injection hb with hb; rw [← hb]; exact hgq.1))).cell _ _ _ (.inl HR.out.qt)
    have hsM := p2.size
    have hoW : (wM.setCell ⟨t, 0, none⟩ (.slice a14 (M.els.length + 1) c14)).ownsRow 0 49 11 (.slice a14 (M.els.length + 1) c14) (M.els.length + 1) (css.flatten ++ elO ⟨M.next, e.id, tag, [], [], plainBx⟩ none none 0 0) := ownsRow_row p1 fun b hb => by
      rw [World.row_setCell, if_neg]
      rcases p3 with p3 | p3
      · rw [p3] at hb; injection hb with hb; rw [← hb]; exact fun hh => hgq.2 hh
      · rw [p3] at hb; injection hb with hb; omega
    have hnewWf : El.Wf ⟨M.next, e.id, tag, [], [], plainBx⟩ := by
      have hw := HEW.out
      exact ⟨show I64 M.next from ⟨by omega, by omega⟩, hw.1, ht, fun k hk => (by cases hk), fun x hx => (by cases hx), ⟨i64s (n := 0) (by decide) (by decide), (by decide +kernel : ByteArray.empty.size ≤ maxLen), i64s (n := 0) (by decide) (by decide), i64s (n := 1) (by decide) (by decide), i64s (n := 0) (by decide) (by decide), i64s (n := 1) (by decide) (by decide)⟩, Nat.zero_le _, Nat.zero_le _⟩
    generalize wM.setCell ⟨t, 0, none⟩ (.slice a14 (M.els.length + 1) c14) = W at *
    refine ⟨rfl, fun b => Q b ∨ w.heap.size ≤ b ∧ b < W.heap.size, .slice a14 (M.els.length + 1) c14, hMW.chg, ?_⟩
    refine RefAt.anew (Q' := fun b => Q b ∨ w.heap.size ≤ b ∧ b < W.heap.size) (css := css ++ [elO ⟨M.next, e.id, tag, [], [], plainBx⟩ none none 0 0]) HRI.out (by simp [l1, hIdl]) (fun i x cs z1 z2 => ?_) (by simp only [List.length_append, hIdl, List.flatten_append, List.flatten_cons, List.flatten_nil, List.append_nil, List.length_cons, List.length_nil]; exact hoW) (fun x hx => ?_) ?_ (fun b hb h1 h2 => hrW b (HRI.out.qlt b hb) h1 (fun hh => h2 (by rw [hh]; rfl))) hW0 (fun b hb => ?_) (fun b h1 h2 => .inr ⟨by omega, h2⟩) (fun b hb => ?_)
    · have l1' : css.length = (updE M.els e.id (insE 0 M.next)).length := l1
      rcases Nat.lt_or_ge i css.length with hi | hi
      · rw [List.getElem?_append_left (by omega)] at z1
        rw [List.getElem?_append_left hi] at z2
        exact L2.out i x cs z1 z2
      · rw [List.getElem?_append_right (by omega), l1'.symm] at z1
        rw [List.getElem?_append_right hi] at z2
        cases hq : i - css.length with
        | zero =>
          rw [hq] at z1 z2
          cases z1; cases z2
          exact ⟨rfl, none, none, 0, 0, rfl, World.ownsRow_nil _ _ _ _, World.ownsRow_nil _ _ _ _, fun g hg => (nomatch (show none = some g from hg)), fun g hg => (nomatch (show none = some g from hg))⟩
        | succ j => rw [hq] at z1; simp at z1
    · rcases List.mem_append.1 hx with hx | hx
      · exact HRI.out.elWf x hx
      · simp only [List.mem_cons, List.not_mem_nil, or_false] at hx
        rw [hx]; exact hnewWf
    · rcases p3 with p3 | p3
      · exact .inl p3
      · exact .inr fun nb hb => by rw [p3] at hb; injection hb with hb; omega
    · rcases hb with hb | hb
      · exact .inl hb
      · exact .inr ⟨hb.1, by omega⟩
    · rcases hb with hb | hb
      · have := HR.out.qlt b hb; omega
      · exact hb.2
  · go_enter Tryz.func35, Tryz.ntmps35
    go_upto_region 4 with (go_at_call 43; go_loud ((with_reducible refine (HAT.out _ (by repeat (with_reducible first | assumption | exact grA | apply grB | apply grC | apply grD | refine grE ?_ (by omega) _ | refine grF ?_ (by omega) _ _)) _).mono ?_); rw [hp]; rintro r w1 ⟨rfl, hg1⟩))
    have hr1 := (hg1.row_eq hgl).trans hrg
    have hx1 := (HR.out.grows hg1).head
    have zr1 := row_sz' hr1
    have zx1 := row_sz' hx1
    go_upto_region 8 with (go_at_call 14; (with_reducible refine (HM.out _).mono ?_); rintro e w1 ⟨rfl, x1, rfl⟩)
    have hgA : w.grows (w1.plus x1) := (by repeat (with_reducible first | assumption | exact grA | apply grB | apply grC | apply grD | refine grE ?_ (by omega) _ | refine grF ?_ (by omega) _ _))
    generalize w1.plus x1 = wA at *
    have hrA := (hgA.row_eq hgl).trans hrg
    have hxA := (HR.out.grows hgA).head
    have zrA := row_sz' hrA
    have zxA := row_sz' hxA
    clear hr1 hx1 zr1 zx1
    go_upto_region 12 with (go_at_call 19; go_loud ((with_reducible refine (HDP.out _ (by repeat (with_reducible first | assumption | exact grA | apply grB | apply grC | apply grD | refine grE ?_ (by omega) _ | refine grF ?_ (by omega) _ _))).mono ?_); rintro r wB ⟨rfl, hgB0⟩))
    have hgB : w.grows wB := hgA.trans hgB0
    have hRB := HR.out.grows hgB
    have hrB := (hgB.row_eq hgl).trans hrg
    have hxB := hRB.head
    have zrB := row_sz' hrB
    have zxB := row_sz' hxB
    clear hrA hxA zrA zxA
    go_upto_region 14 with fail
    have hmB : Mvd Q w (wB.setCell ⟨t, 1, none⟩ (.int .i64 (M.next + 1))) := ((Mvd.refl Q w).grow hgB).cell _ _ _ (.inl HR.out.qt)
    have hRC := hRB.nextS (M.next + 1)
    have hxC := hRC.head
    have hrC : (wB.setCell ⟨t, 1, none⟩ (.int .i64 (M.next + 1))).row g = some (.cells cur 49) := (by rw [World.row_setCell, if_neg hgq.2]; exact hrB)
    have hkC : (wB.setCell ⟨t, 1, none⟩ (.int .i64 (M.next + 1))).ownsRow 0 3 1 (.slice (some ⟨p, 0, none⟩) e.ks.length kc) e.ks.length (e.ks.map (Value.int .i64)) := ownsRow_row (HKS.out.grows hgB) fun b hb => by rw [World.row_setCell, if_neg (HQK.out b hb).2.1]
    have hsC : (wB.setCell ⟨t, 1, none⟩ (.int .i64 (M.next + 1))).heap.size = wB.heap.size := World.setCell_size' _ _ _
    have hsB := hgB.below.size
    have hsCw : w.heap.size ≤ (wB.setCell ⟨t, 1, none⟩ (.int .i64 (M.next + 1))).heap.size := by omega
    clear hrB hxB zrB zxB hgB0 hRB hsC
    generalize wB.setCell ⟨t, 1, none⟩ (.int .i64 (M.next + 1)) = wC at *
    have zrC := row_sz' hrC
    have zxC := row_sz' hxC
    have HRC := Lib.hid hRC
    have HMB := Lib.hid hmB
    have HKC := Lib.hid hkC
    have HNW := Lib.hid (fun (W : World) (hW : wC.grows W) => show n = 0 ∨ ∃ ad, (some ⟨p, 0, none⟩ : Option Addr) = some ad ∧ ∀ j u, ((e.ks.take n).map (Value.int .i64))[j]? = some u → W.cell? (ad.add j) = some u by
      have h1 := (int_news (take_ints (IntsAt_own (hkC.grows hW)) hn)).2
      rw [List.length_take, Nat.min_eq_left hn] at h1
      exact h1)
    clear hRC hmB hkC
    have hnk : (n : Int) ≤ (kc : Int) := by omega
    go_upto_region 15 with (at_builtin; refine wpList_appS wC (wC.heap.size) rfl (.tmp 69) (.tmp 79) _ rfl 3 (.int .i64 0) 1 8 Tryz.underlying46 (by kernel_rfl) rfl (by omega) (by omega) _ 0 _ rfl (World.ownsRow.grows (World.ownsRow_made wC #[] 0 (Nat.le_refl _) (by decide) rfl) (by repeat (with_reducible first | assumption | exact grA | apply grB | apply grC | apply grD | refine grE ?_ (by omega) _ | refine grF ?_ (by omega) _ _))) _ n _ ((e.ks.take n).map (Value.int .i64)) rfl (by simp; omega) (HNW.out _ (by repeat (with_reducible first | assumption | exact grA | apply grB | apply grC | apply grD | refine grE ?_ (by omega) _ | refine grF ?_ (by omega) _ _))) (int_one _) (by omega) (by repeat (with_reducible first | assumption | exact grA | apply grB | apply grC | apply grD | refine grE ?_ (by omega) _ | refine grF ?_ (by omega) _ _)) (by omega) (by simp <;> omega) ?_; intro v' w' hg' HO' HR' HG' HA')
    have ho0 := HO'.out
    rw [Nat.zero_add, List.nil_append] at ho0
    obtain ⟨a7, c7, rfl⟩ := own_slice ho0
    have hgD := hg'
    have HOD := Lib.hid ho0
    clear HO' HR' HG' HA' hg' ho0
    generalize w' = wD at *
    have hrD := (hgD.row_eq zrC.1).trans hrC
    have hxD := (hgD.row_eq zxC.1).trans hxC
    have zrD := row_sz' hrD
    have zxD := row_sz' hxD
    have hsD := hgD.below.size
    have hID := Lib.hid (IntsAt_own (HKC.out.grows hgD))
    clear hrC hxC zrC zxC
    refine wp_region_seq_tail (S := fun W => W.row t = some (.cells #[.slice (some ⟨g, 0, none⟩) M.els.length cap, .int .i64 (M.next + 1)] 58) ∧ W.row g = some (.cells cur 49) ∧ Hid True) 22 (by kernel_rfl) (by kernel_rfl) ⟨hxD, hrD, Lib.hid trivial⟩ ?_
    simp only [List.take_succ_cons, List.take_zero, List.drop_succ_cons, List.drop_zero]
    show wpSeqL _ _ _ _ _ _ (World.drew wD)
    have hdd : wD.grows (World.drew wD) := World.grows.drew World.grows.refl
    have hs0 : (World.drew wD).heap.size = wD.heap.size := rfl
    have hxE : (World.drew wD).row t = _ := hxD
    have hrE : (World.drew wD).row g = _ := hrD
    generalize World.drew wD = wE at *
    (refine wpSeqL_free rfl ?_; refine wpQuiet_step (fun K hK => ?_); rw [if_pos (by simp [Region.wanted])]; refine ⟨.pointer (some ⟨t, 0, none⟩), fun w' hw' => ?_, ?_⟩; (focus (obtain ⟨r1, r2, r3⟩ := hw'; have s1 := row_sz' r1; have s2 := row_sz' r2; simp [Oper.quietAt, Oper.quietUpon, go_sem, r1, r2, r3, s1, s2])); go_simp; refine hK _ ?_; clear hK K; refine wpQuiet_nil ?_)
    (refine wpSeqL_free rfl ?_; refine wpQuiet_step (fun K hK => ?_); rw [if_pos (by simp [Region.wanted])]; refine ⟨.pointer (some ⟨t, 0, none⟩), fun w' hw' => ?_, ?_⟩; (focus (obtain ⟨r1, r2, r3⟩ := hw'; have s1 := row_sz' r1; have s2 := row_sz' r2; simp [Oper.quietAt, Oper.quietUpon, go_sem, r1, r2, r3, s1, s2])); go_simp; refine hK _ ?_; clear hK K; refine wpQuiet_nil ?_)
    (refine wpSeqL_free rfl ?_; refine wpQuiet_step (fun K hK => ?_); rw [if_pos (by simp [Region.wanted])]; refine ⟨.pointer (some ⟨t, 0, none⟩), fun w' hw' => ?_, ?_⟩; (focus (obtain ⟨r1, r2, r3⟩ := hw'; have s1 := row_sz' r1; have s2 := row_sz' r2; simp [Oper.quietAt, Oper.quietUpon, go_sem, r1, r2, r3, s1, s2])); go_simp; refine hK _ ?_; clear hK K; refine wpQuiet_nil ?_)
    (refine wpSeqL_free rfl ?_; refine wpQuiet_step (fun K hK => ?_); rw [if_pos (by simp [Region.wanted])]; refine ⟨.slice (some ⟨g, 0, none⟩) M.els.length cap, fun w' hw' => ?_, ?_⟩; (focus (obtain ⟨r1, r2, r3⟩ := hw'; have s1 := row_sz' r1; have s2 := row_sz' r2; simp [Oper.quietAt, Oper.quietUpon, go_sem, r1, r2, r3, s1, s2])); go_simp; refine hK _ ?_; clear hK K; refine wpQuiet_nil ?_)
    (refine wpSeqL_free rfl ?_; refine wpQuiet_step (fun K hK => ?_); rw [if_pos (by simp [Region.wanted])]; refine ⟨.int .i64 k, fun w' hw' => ?_, ?_⟩; (focus (obtain ⟨r1, r2, r3⟩ := hw'; have s1 := row_sz' r1; have s2 := row_sz' r2; simp [Oper.quietAt, Oper.quietUpon, go_sem, r1, r2, r3, s1, s2])); go_simp; refine hK _ ?_; clear hK K; refine wpQuiet_nil ?_)
    (refine wpSeqL_free rfl ?_; refine wpQuiet_step (fun K hK => ?_); rw [if_pos (by simp [Region.wanted])]; refine ⟨.slice a7 n c7, fun w' hw' => ?_, ?_⟩; (focus (obtain ⟨r1, r2, r3⟩ := hw'; have s1 := row_sz' r1; have s2 := row_sz' r2; simp [Oper.quietAt, Oper.quietUpon, go_sem, r1, r2, r3, s1, s2])); go_simp; refine hK _ ?_; clear hK K; refine wpQuiet_nil ?_)
    (refine wpSeqL_free rfl ?_; refine wpQuiet_step (fun K hK => ?_); rw [if_pos (by simp [Region.wanted])]; refine ⟨.int .i64 M.next, fun w' hw' => ?_, ?_⟩; (focus (obtain ⟨r1, r2, r3⟩ := hw'; have s1 := row_sz' r1; have s2 := row_sz' r2; simp [Oper.quietAt, Oper.quietUpon, go_sem, r1, r2, r3, s1, s2])); go_simp; refine hK _ ?_; clear hK K; refine wpQuiet_nil ?_)
    refine wpSeqL_link rfl (fun K hK => ?_)
    go_simp
    have hgE : wD.grows (wE.alloc (.cells #[.int .i64 M.next] 3)) := hdd.trans (World.grows.alloc World.grows.refl _)
    have hnF : (wE.alloc (.cells #[.int .i64 M.next] 3)).row wE.heap.size = some (.cells #[.int .i64 M.next] 3) := by simp [go_sem]
    have hsF : (wE.alloc (.cells #[.int .i64 M.next] 3)).heap.size = wE.heap.size + 1 := by simp
    have hxF := (hgE.row_eq zxD.1).trans hxD
    have hrF := (hgE.row_eq zrD.1).trans hrD
    refine hK _ _ ⟨hxF, hrF, Lib.hid trivial⟩ ?_
    clear hK K hxE hrE hdd
    generalize wE.alloc (.cells #[.int .i64 M.next] 3) = wF at *
    have zxF := row_sz' hxF
    have zrF := row_sz' hrF
    have htC : t < wC.heap.size := by have := HRC.out.qlt t HRC.out.qt; exact this
    have hgC : g < wC.heap.size := by have := HRC.out.qlt g hgq.1; exact this
    refine wpSeqL_appO wC.heap.size rfl rfl (.tmp 86) (.tmp 88) 46 rfl 3 (.int .i64 0) 1 8 Tryz.underlying46 (by kernel_rfl) rfl (by omega) (by omega) _ n _ rfl (HOD.out.grows hgE) (some ⟨wD.heap.size, 0, none⟩) 1 1 [.int .i64 M.next] rfl rfl (.inr ⟨_, rfl, fun j u hu => ?_⟩) (by simp [Value.oneCell']) (by omega) (by omega) ?_
    · exact cells_of_row (e := 3) (fr := (0, 0)) (by rw [← hs0, hnF]) j u hu
    intro v8 wG q1 q2 q3
    have hxG := own_keepRow (HOD.out.grows hgE) q2 htC hxF
    have hrG := own_keepRow (HOD.out.grows hgE) q2 hgC hrF
    refine ⟨⟨hxG, hrG, Lib.hid trivial⟩, ?_⟩
    obtain ⟨a8, c8, rfl⟩ := own_slice q1
    go_simp
    (refine wpSeqL_free rfl ?_; refine wpQuiet_step (fun K hK => ?_); rw [if_pos (by simp [Region.wanted])]; refine ⟨.pointer (some ⟨t, 0, none⟩), fun w' hw' => ?_, ?_⟩; (focus (obtain ⟨r1, r2, r3⟩ := hw'; have s1 := row_sz' r1; have s2 := row_sz' r2; simp [Oper.quietAt, Oper.quietUpon, go_sem, r1, r2, r3, s1, s2])); go_simp; refine hK _ ?_; clear hK K; refine wpQuiet_nil ?_)
    (refine wpSeqL_free rfl ?_; refine wpQuiet_step (fun K hK => ?_); rw [if_pos (by simp [Region.wanted])]; refine ⟨.pointer (some ⟨t, 0, none⟩), fun w' hw' => ?_, ?_⟩; (focus (obtain ⟨r1, r2, r3⟩ := hw'; have s1 := row_sz' r1; have s2 := row_sz' r2; simp [Oper.quietAt, Oper.quietUpon, go_sem, r1, r2, r3, s1, s2])); go_simp; refine hK _ ?_; clear hK K; refine wpQuiet_nil ?_)
    (refine wpSeqL_free rfl ?_; refine wpQuiet_step (fun K hK => ?_); rw [if_pos (by simp [Region.wanted])]; refine ⟨.pointer (some ⟨t, 0, none⟩), fun w' hw' => ?_, ?_⟩; (focus (obtain ⟨r1, r2, r3⟩ := hw'; have s1 := row_sz' r1; have s2 := row_sz' r2; simp [Oper.quietAt, Oper.quietUpon, go_sem, r1, r2, r3, s1, s2])); go_simp; refine hK _ ?_; clear hK K; refine wpQuiet_nil ?_)
    (refine wpSeqL_free rfl ?_; refine wpQuiet_step (fun K hK => ?_); rw [if_pos (by simp [Region.wanted])]; refine ⟨.slice (some ⟨g, 0, none⟩) M.els.length cap, fun w' hw' => ?_, ?_⟩; (focus (obtain ⟨r1, r2, r3⟩ := hw'; have s1 := row_sz' r1; have s2 := row_sz' r2; simp [Oper.quietAt, Oper.quietUpon, go_sem, r1, r2, r3, s1, s2])); go_simp; refine hK _ ?_; clear hK K; refine wpQuiet_nil ?_)
    (refine wpSeqL_free rfl ?_; refine wpQuiet_step (fun K hK => ?_); rw [if_pos (by simp [Region.wanted])]; refine ⟨.int .i64 k, fun w' hw' => ?_, ?_⟩; (focus (obtain ⟨r1, r2, r3⟩ := hw'; have s1 := row_sz' r1; have s2 := row_sz' r2; simp [Oper.quietAt, Oper.quietUpon, go_sem, r1, r2, r3, s1, s2])); go_simp; refine hK _ ?_; clear hK K; refine wpQuiet_nil ?_)
    (refine wpSeqL_free rfl ?_; refine wpQuiet_step (fun K hK => ?_); rw [if_pos (by simp [Region.wanted])]; refine ⟨.pointer (some ⟨g, k * 11, none⟩), fun w' hw' => ?_, ?_⟩; (focus (obtain ⟨r1, r2, r3⟩ := hw'; have s1 := row_sz' r1; have s2 := row_sz' r2; simp [Oper.quietAt, Oper.quietUpon, go_sem, r1, r2, r3, s1, s2, hkI])); go_simp; refine hK _ ?_; clear hK K; refine wpQuiet_nil ?_)
    (refine wpSeqL_free rfl ?_; refine wpQuiet_step (fun K hK => ?_); rw [if_pos (by simp [Region.wanted])]; refine ⟨.pointer (some ⟨g, k * 11 + 3, none⟩), fun w' hw' => ?_, ?_⟩; (focus (obtain ⟨r1, r2, r3⟩ := hw'; have s1 := row_sz' r1; have s2 := row_sz' r2; simp [Oper.quietAt, Oper.quietUpon, go_sem, r1, r2, r3, s1, s2])); go_simp; refine hK _ ?_; clear hK K; refine wpQuiet_nil ?_)
    (refine wpSeqL_free rfl ?_; refine wpQuiet_step (fun K hK => ?_); rw [if_pos (by simp [Region.wanted])]; refine ⟨.slice (some ⟨p, 0, none⟩) e.ks.length kc, fun w' hw' => ?_, ?_⟩; (focus (obtain ⟨r1, r2, r3⟩ := hw'; have s1 := row_sz' r1; have s2 := row_sz' r2; simp [Oper.quietAt, Oper.quietUpon, go_sem, r1, r2, r3, s1, s2, hcell])); go_simp; refine hK _ ?_; clear hK K; refine wpQuiet_nil ?_)
    (refine wpSeqL_free rfl ?_; refine wpQuiet_step (fun K hK => ?_); rw [if_pos (by simp [Region.wanted])]; refine ⟨.int .i64 n, fun w' hw' => ?_, ?_⟩; (focus (obtain ⟨r1, r2, r3⟩ := hw'; have s1 := row_sz' r1; have s2 := row_sz' r2; simp [Oper.quietAt, Oper.quietUpon, go_sem, r1, r2, r3, s1, s2])); go_simp; refine hK _ ?_; clear hK K; refine wpQuiet_nil ?_)
    have hkF := HKC.out.grows (hgD.trans hgE)
    have hkG : wG.ownsRow 0 3 1 (.slice (some ⟨p, 0, none⟩) e.ks.length kc) e.ks.length (e.ks.map (Value.int .i64)) := ownsRow_row hkF fun b hb => World.row_grow q2 (hkF.lt b hb).2 (fun hh => by
      have h1 := ((HOD.out.grows hgE).lt b hh.symm).1
      have h2 := (HKC.out.lt b hb).2
      omega)
    have hdl : (e.ks.drop n).length = e.ks.length - n := List.length_drop
    refine wpSeqL_free rfl ?_
    refine wpQuiet_step (fun K hK => ?_)
    go_simp
    generalize hif : (if kc = n then some (⟨p, 0, none⟩ : Addr) else some ⟨p, n, none⟩) = a9
    have HNW2 : ∃ ad, a9 = some ad ∧ ∀ j u, ((e.ks.drop n).map (Value.int .i64))[j]? = some u → wG.cell? (ad.add j) = some u := by
      by_cases hc : kc = n
      · rw [if_pos hc] at hif
        have h0 : e.ks.drop n = [] := List.drop_eq_nil_of_le (by omega)
        exact ⟨_, hif.symm, fun j u hu => by rw [h0] at hu; simp at hu⟩
      · rw [if_neg hc] at hif
        have h1 := drop_ints (IntsAt_own hkG) hn
        rw [Nat.zero_add] at h1
        rcases (int_news h1).2 with h2 | ⟨ad, h2, h3⟩
        · have h0 : e.ks.drop n = [] := List.length_eq_zero_iff.1 h2
          exact ⟨_, hif.symm, fun j u hu => by rw [h0] at hu; simp at hu⟩
        · exact ⟨ad, hif.symm.trans h2, h3⟩
    refine ⟨_, fun _ _ _ _ => rfl, ?_⟩
    refine hK _ ?_
    clear hK K hif
    refine wpQuiet_nil ?_
    have hsG := q2.size
    refine wpSeqL_appO wC.heap.size rfl rfl (.tmp 89) (.tmp 99) 46 rfl 3 (.int .i64 0) 1 8 Tryz.underlying46 (by kernel_rfl) rfl (by omega) (by omega) _ (n + 1) _ rfl q1 a9 (e.ks.length - n) (kc - n) ((e.ks.drop n).map (Value.int .i64)) rfl (by simp) (.inr HNW2) (int_one _) (by omega) (by omega) ?_
    intro v10 wH p1 p2 p3
    have hxH := own_keepRow q1 p2 htC hxG
    have hrH := own_keepRow q1 p2 hgC hrG
    refine ⟨⟨hxH, hrH, Lib.hid trivial⟩, ?_⟩
    obtain ⟨a10, c10, rfl⟩ := own_slice p1
    have zxH := row_sz' hxH
    have zrH := row_sz' hrH
    go_simp
    (refine wpSeqL_free rfl ?_; refine wpQuiet_step (fun K hK => ?_); rw [if_pos (by simp [Region.wanted])]; refine ⟨.pointer (some ⟨g, k * 11, none⟩), fun w' hw' => ?_, ?_⟩; (focus (obtain ⟨r1, r2, r3⟩ := hw'; have s1 := row_sz' r1; have s2 := row_sz' r2; simp [Oper.quietAt, Oper.quietUpon, go_sem, r1, r2, r3, s1, s2, hkI])); go_simp; refine hK _ ?_; clear hK K; refine wpQuiet_nil ?_)
    (refine wpSeqL_free rfl ?_; refine wpQuiet_step (fun K hK => ?_); rw [if_pos (by simp [Region.wanted])]; refine ⟨.pointer (some ⟨g, k * 11 + 3, none⟩), fun w' hw' => ?_, ?_⟩; (focus (obtain ⟨r1, r2, r3⟩ := hw'; have s1 := row_sz' r1; have s2 := row_sz' r2; simp [Oper.quietAt, Oper.quietUpon, go_sem, r1, r2, r3, s1, s2])); go_simp; refine hK _ ?_; clear hK K; refine wpQuiet_nil ?_)
    refine wpSeqL_end ?_
    go_upto_region 16 with fail
    have hrowH : ∀ b, b < wC.heap.size → wH.row b = wC.row b := fun b hb => by
      have z1 := hgE.below.size
      rw [World.row_grow p2 (by omega) (fun hh => by have := (q1.lt b hh.symm).1; omega), World.row_grow q2 (by omega) (fun hh => by have := ((HOD.out.grows hgE).lt b hh.symm).1; omega)]
      exact (hgD.trans hgE).row_eq hb
    have hsH := p2.size
    have hszF := hgE.below.size
    have hMH : Mvd Q w wH := (((HMB.out.grow (hgD.trans hgE)).grown q2 fun b hb => .inr (by have := ((HOD.out.grows hgE).lt b hb).1; omega))).grown p2 fun b hb => .inr (by have := (q1.lt b hb).1; omega)
    have hRH : RefAt wH t Q (.slice (some ⟨g, 0, none⟩) M.els.length cap) ⟨M.root, M.next + 1, M.els⟩ := HRC.out.keep (fun b hb => hrowH b (HRC.out.qlt b hb)) (by omega)
    have hlen10 : (insE n M.next e).ks.length = n + 1 + (e.ks.length - n) := by
      show (e.ks.take n ++ M.next :: e.ks.drop n).length = _
      simp; omega
    have hval10 : (insE n M.next e).ks.map (Value.int .i64) = (e.ks.take n).map (Value.int .i64) ++ [.int .i64 M.next] ++ (e.ks.drop n).map (Value.int .i64) := by
      show (e.ks.take n ++ M.next :: e.ks.drop n).map _ = _
      simp
    rw [← hval10, ← hlen10] at p1
    rw [← hlen10]
    have hMI : Mvd Q w (wH.setCell ⟨g, k * 11 + 3, none⟩ (.slice a10 (insE n M.next e).ks.length c10)) := hMH.cell _ _ _ (.inl hgq.1)
    have hsI : (wH.setCell ⟨g, k * 11 + 3, none⟩ (.slice a10 (insE n M.next e).ks.length c10)).heap.size = wH.heap.size := World.setCell_size' _ _ _
    have hiWf : (insE n M.next e).Wf := by
      have hmem : insE n M.next e ∈ updE M.els e.id (insE n M.next) ++ [⟨M.next, e.id, tag, [], [], plainBx⟩] := List.mem_append_left _ (updE_mem.2 ⟨e, List.mem_of_getElem? hke, by rw [if_pos rfl]⟩)
      have h9 := wf_kids HW.out hmem
      have hw := HEW.out
      refine ⟨hw.1, hw.2.1, hw.2.2.1, fun x hx => ?_, hw.2.2.2.2.1, hw.2.2.2.2.2.1, hw.2.2.2.2.2.2.1, h9⟩
      rcases (mem_ins n).1 hx with rfl | hx
      · exact ⟨by omega, by omega⟩
      · exact hw.2.2.2.1 x hx
    have hRI : RefAt (wH.setCell ⟨g, k * 11 + 3, none⟩ (.slice a10 (insE n M.next e).ks.length c10)) t (fun b => Q b ∨ w.heap.size ≤ b ∧ b < wH.heap.size) (.slice (some ⟨g, 0, none⟩) M.els.length cap) ⟨M.root, M.next + 1, updE M.els e.id (insE n M.next)⟩ := by
      refine RefAt.one (w := wH) (W := wH.setCell ⟨g, k * 11 + 3, none⟩ (.slice a10 (insE n M.next e).ks.length c10)) (Q := Q) (Q' := fun b => Q b ∨ w.heap.size ≤ b ∧ b < wH.heap.size) (M := ⟨M.root, M.next + 1, M.els⟩) hRH HUP.out hke (insE n M.next) (j := 3) (vs := [.slice a10 (insE n M.next e).ks.length c10]) (by simp) rfl (fun b hb hne => by rw [World.row_setCell, if_neg hne]) (fun b hb => .inl hb) (fun b hb => ?_) (fun cs hx => ?_) hiWf
      · rw [hsI]
        rcases hb with hb | hb
        · exact hRH.qlt b hb
        · exact hb.2
      · obtain ⟨ka2, aa2, kc2, ac2, rfl, _, ha, _, z2⟩ := hx
        refine ⟨a10, aa2, c10, ac2, rfl, World.ownsRow.mono_base (Nat.zero_le _) (ownsRow_row p1 fun b hb => by rw [World.row_setCell, if_neg (by have := (p1.lt b hb).1; omega)]), ownsRow_row ha fun b hb => by rw [World.row_setCell, if_neg (z2 b hb).2.2], fun b hb => ?_, fun b hb => ⟨.inl (z2 b hb).1, (z2 b hb).2⟩⟩
        have := p1.lt b hb
        exact ⟨.inr ⟨by omega, by omega⟩, by omega, by omega⟩
    clear p1 p2 p3 q1 q2 q3 hrowH hMH hRH hxH hrH zxH zrH hxG hrG hxF hrF zxF zrF hxD hrD zxD zrD HNW2 hkF hkG hnF HNW hgE hgD hval10 hlen10 hID HOD HKC HMB
    have hIdl : (updE M.els e.id (insE n M.next)).length = M.els.length := by unfold updE; simp
    generalize wH.setCell ⟨g, k * 11 + 3, none⟩ (.slice a10 (insE n M.next e).ks.length c10) = wI at *
    have hsIw : w.heap.size ≤ wI.heap.size := by omega
    have hRI2 : RefAt wI t (fun b => Q b ∨ w.heap.size ≤ b ∧ b < wI.heap.size) (.slice (some ⟨g, 0, none⟩) M.els.length cap) ⟨M.root, M.next + 1, updE M.els e.id (insE n M.next)⟩ := by rw [hsI]; exact hRI
    have hxI := hRI2.head
    have zxI := row_sz' hxI
    have HRI := Lib.hid hRI2
    have HMI := Lib.hid hMI
    obtain ⟨css, l1, l2, l3⟩ := hRI2.els
    have L2 := Lib.hid l2
    have L3 := Lib.hid l3
    have htI : t < wI.heap.size := hRI2.qlt t hRI2.qt
    have hgI : g < wI.heap.size := hRI2.qlt g (.inl hgq.1)
    clear hRI hRI2 hMI l2 l3 hsI
    refine wp_region_seq_tail (S := fun W => W.row t = some (.cells #[.slice (some ⟨g, 0, none⟩) M.els.length cap, .int .i64 (M.next + 1)] 58) ∧ Hid True) 14 (by kernel_rfl) (by kernel_rfl) ⟨hxI, Lib.hid trivial⟩ ?_
    simp only [List.take_succ_cons, List.take_zero, List.drop_succ_cons, List.drop_zero]
    show wpSeqL _ _ _ _ _ _ (World.drew wI)
    have hdd : wI.grows (World.drew wI) := World.grows.drew World.grows.refl
    generalize World.drew wI = wJ at *
    (refine wpSeqL_free rfl ?_; refine wpQuiet_step (fun K hK => ?_); rw [if_pos (by simp [Region.wanted])]; refine ⟨.pointer (some ⟨t, 0, none⟩), fun w' hw' => ?_, ?_⟩; (focus (obtain ⟨r1, _⟩ := hw'; have s1 := row_sz' r1; simp [Oper.quietAt, Oper.quietUpon, go_sem, r1, s1])); go_simp; refine hK _ ?_; clear hK K; refine wpQuiet_nil ?_)
    (refine wpSeqL_free rfl ?_; refine wpQuiet_step (fun K hK => ?_); rw [if_pos (by simp [Region.wanted])]; refine ⟨.pointer (some ⟨t, 0, none⟩), fun w' hw' => ?_, ?_⟩; (focus (obtain ⟨r1, _⟩ := hw'; have s1 := row_sz' r1; simp [Oper.quietAt, Oper.quietUpon, go_sem, r1, s1])); go_simp; refine hK _ ?_; clear hK K; refine wpQuiet_nil ?_)
    (refine wpSeqL_free rfl ?_; refine wpQuiet_step (fun K hK => ?_); rw [if_pos (by simp [Region.wanted])]; refine ⟨.pointer (some ⟨t, 0, none⟩), fun w' hw' => ?_, ?_⟩; (focus (obtain ⟨r1, _⟩ := hw'; have s1 := row_sz' r1; simp [Oper.quietAt, Oper.quietUpon, go_sem, r1, s1])); go_simp; refine hK _ ?_; clear hK K; refine wpQuiet_nil ?_)
    (refine wpSeqL_free rfl ?_; refine wpQuiet_step (fun K hK => ?_); rw [if_pos (by simp [Region.wanted])]; refine ⟨.pointer (some ⟨t, 0, none⟩), fun w' hw' => ?_, ?_⟩; (focus (obtain ⟨r1, _⟩ := hw'; have s1 := row_sz' r1; simp [Oper.quietAt, Oper.quietUpon, go_sem, r1, s1])); go_simp; refine hK _ ?_; clear hK K; refine wpQuiet_nil ?_)
    (refine wpSeqL_free rfl ?_; refine wpQuiet_step (fun K hK => ?_); rw [if_pos (by simp [Region.wanted])]; refine ⟨.slice (some ⟨g, 0, none⟩) M.els.length cap, fun w' hw' => ?_, ?_⟩; (focus (obtain ⟨r1, _⟩ := hw'; have s1 := row_sz' r1; simp [Oper.quietAt, Oper.quietUpon, go_sem, r1, s1])); go_simp; refine hK _ ?_; clear hK K; refine wpQuiet_nil ?_)
    (refine wpSeqL_free rfl ?_; refine wpQuiet_step (fun K hK => ?_); rw [if_pos (by simp [Region.wanted])]; refine ⟨.int .i64 M.next, fun w' hw' => ?_, ?_⟩; (focus (obtain ⟨r1, _⟩ := hw'; have s1 := row_sz' r1; simp [Oper.quietAt, Oper.quietUpon, go_sem, r1, s1])); go_simp; refine hK _ ?_; clear hK K; refine wpQuiet_nil ?_)
    (refine wpSeqL_free rfl ?_; refine wpQuiet_step (fun K hK => ?_); rw [if_pos (by simp [Region.wanted])]; refine ⟨.int .i64 e.id, fun w' hw' => ?_, ?_⟩; (focus (obtain ⟨r1, _⟩ := hw'; have s1 := row_sz' r1; simp [Oper.quietAt, Oper.quietUpon, go_sem, r1, s1])); go_simp; refine hK _ ?_; clear hK K; refine wpQuiet_nil ?_)
    (refine wpSeqL_free rfl ?_; refine wpQuiet_step (fun K hK => ?_); rw [if_pos (by simp [Region.wanted])]; refine ⟨.string tag, fun w' hw' => ?_, ?_⟩; (focus (obtain ⟨r1, _⟩ := hw'; have s1 := row_sz' r1; simp [Oper.quietAt, Oper.quietUpon, go_sem, r1, s1])); go_simp; refine hK _ ?_; clear hK K; refine wpQuiet_nil ?_)
    refine wpSeqL_link rfl (fun K hK => ?_)
    go_simp
    (go_at_call 56; go_loud ((with_reducible refine (HPL.out _).mono ?_); rintro r wK ⟨rfl, hgK⟩))
    have hgK2 := hdd.trans hgK
    have hxK := (hgK2.row_eq htI).trans hxI
    refine ⟨_, rfl, hK _ _ ⟨hxK, Lib.hid trivial⟩ ?_⟩
    clear hK K
    refine wpSeqL_free rfl ?_
    refine wpQuiet_step (fun K hK => ?_)
    go_simp
    refine ⟨_, fun _ _ _ => rfl, ?_⟩
    refine hK _ ?_
    clear hK K
    refine wpQuiet_nil ?_
    refine wpSeqL_link rfl (fun K hK => ?_)
    go_simp
    have hgL : wI.grows (wK.alloc (.cells #[.int .i64 M.next, .int .i64 e.id, .string tag, .slice none 0 0, .slice none 0 0, .int .i64 0, .string ByteArray.empty, .int .i64 0, .int .i64 1, .int .i64 0, .int .i64 1] 49)) := hgK2.trans (World.grows.alloc World.grows.refl _)
    have hnL : (wK.alloc (.cells #[.int .i64 M.next, .int .i64 e.id, .string tag, .slice none 0 0, .slice none 0 0, .int .i64 0, .string ByteArray.empty, .int .i64 0, .int .i64 1, .int .i64 0, .int .i64 1] 49)).row wK.heap.size = some (.cells #[.int .i64 M.next, .int .i64 e.id, .string tag, .slice none 0 0, .slice none 0 0, .int .i64 0, .string ByteArray.empty, .int .i64 0, .int .i64 1, .int .i64 0, .int .i64 1] 49) := by simp [go_sem]
    have hxL := (hgL.row_eq htI).trans hxI
    refine hK _ _ ⟨hxL, Lib.hid trivial⟩ ?_
    clear hK K hxK hgK hdd hgK2
    generalize wK.alloc (.cells #[.int .i64 M.next, .int .i64 e.id, .string tag, .slice none 0 0, .slice none 0 0, .int .i64 0, .string ByteArray.empty, .int .i64 0, .int .i64 1, .int .i64 0, .int .i64 1] 49) = wL at *
    have hsL := hgL.below.size
    have hl3 : wL.ownsRow 0 49 11 (.slice (some ⟨g, 0, none⟩) M.els.length cap) M.els.length css.flatten := by
      have := L3.out.grows hgL
      show wL.ownsRow 0 49 11 _ _ _
      rw [show (⟨M.root, M.next + 1, updE M.els e.id (insE n M.next)⟩ : Dm).els.length = M.els.length from hIdl] at this
      exact this
    refine wpSeqL_appO 0 rfl rfl (.tmp 107) (.tmp 113) 22 rfl 49 (.agg #[.int .i64 0, .int .i64 0, .string ByteArray.empty, .slice none 0 0, .slice none 0 0, .int .i64 0, .string ByteArray.empty, .int .i64 0, .int .i64 0, .int .i64 0, .int .i64 0]) 11 136 Tryz.underlying22 (by kernel_rfl) rfl (by omega) (by omega) _ M.els.length _ rfl hl3 (some ⟨wK.heap.size, 0, none⟩) 1 1 [.int .i64 M.next, .int .i64 e.id, .string tag, .slice none 0 0, .slice none 0 0, .int .i64 0, .string ByteArray.empty, .int .i64 0, .int .i64 1, .int .i64 0, .int .i64 1] rfl rfl (.inr ⟨_, rfl, fun j u hu => ?_⟩) (by simp [Value.oneCell']) (by omega) (by omega) ?_
    · exact cells_of_row (e := 49) (fr := (0, 0)) (by rw [hnL]) j u hu
    intro v14 wM p1 p2 p3
    obtain ⟨a14, c14, rfl⟩ := own_slice p1
    have hxM : wM.row t = _ := World.row_grown p2 hxL (fun hh => hgq.2 (by injection hh with hh; exact hh.symm))
    have zxM := row_sz' hxM
    refine ⟨⟨hxM, Lib.hid trivial⟩, ?_⟩
    go_simp
    (refine wpSeqL_free rfl ?_; refine wpQuiet_step (fun K hK => ?_); rw [if_pos (by simp [Region.wanted])]; refine ⟨.pointer (some ⟨t, 0, none⟩), fun w' hw' => ?_, ?_⟩; (focus (obtain ⟨r1, _⟩ := hw'; have s1 := row_sz' r1; simp [Oper.quietAt, Oper.quietUpon, go_sem, r1, s1])); go_simp; refine hK _ ?_; clear hK K; refine wpQuiet_nil ?_)
    (refine wpSeqL_free rfl ?_; refine wpQuiet_step (fun K hK => ?_); rw [if_pos (by simp [Region.wanted])]; refine ⟨.pointer (some ⟨t, 0, none⟩), fun w' hw' => ?_, ?_⟩; (focus (obtain ⟨r1, _⟩ := hw'; have s1 := row_sz' r1; simp [Oper.quietAt, Oper.quietUpon, go_sem, r1, s1])); go_simp; refine hK _ ?_; clear hK K; refine wpQuiet_nil ?_)
    refine wpSeqL_end ?_
    go_wp2_with fail
    go_ret2
    have hW0 : (wM.setCell ⟨t, 0, none⟩ (.slice a14 (M.els.length + 1) c14)).row t = some (.cells #[.slice a14 (M.els.length + 1) c14, .int .i64 (M.next + 1)] 58) := by rw [World.row_setCell, if_pos rfl, hxM]; rfl
    have hsW : (wM.setCell ⟨t, 0, none⟩ (.slice a14 (M.els.length + 1) c14)).heap.size = wM.heap.size := World.setCell_size' _ _ _
    have hrW : ∀ b, b < wI.heap.size → b ≠ t → b ≠ g → (wM.setCell ⟨t, 0, none⟩ (.slice a14 (M.els.length + 1) c14)).row b = wI.row b := fun b hb h1 h2 => by
      rw [World.row_setCell, if_neg h1, World.row_grow p2 (by omega) (fun hh => h2 (by injection hh))]
      exact hgL.row_eq hb
    have hMW : Mvd Q w (wM.setCell ⟨t, 0, none⟩ (.slice a14 (M.els.length + 1) c14)) := (((HMI.out.grow hgL).grown p2 fun b hb => .inl (by injection hb with hb; rw [← hb]; exact hgq.1))).cell _ _ _ (.inl HR.out.qt)
    have hsM := p2.size
    have hoW : (wM.setCell ⟨t, 0, none⟩ (.slice a14 (M.els.length + 1) c14)).ownsRow 0 49 11 (.slice a14 (M.els.length + 1) c14) (M.els.length + 1) (css.flatten ++ elO ⟨M.next, e.id, tag, [], [], plainBx⟩ none none 0 0) := ownsRow_row p1 fun b hb => by
      rw [World.row_setCell, if_neg]
      rcases p3 with p3 | p3
      · rw [p3] at hb; injection hb with hb; rw [← hb]; exact fun hh => hgq.2 hh
      · rw [p3] at hb; injection hb with hb; omega
    have hnewWf : El.Wf ⟨M.next, e.id, tag, [], [], plainBx⟩ := by
      have hw := HEW.out
      exact ⟨show I64 M.next from ⟨by omega, by omega⟩, hw.1, ht, fun k hk => (by cases hk), fun x hx => (by cases hx), ⟨i64s (n := 0) (by decide) (by decide), (by decide +kernel : ByteArray.empty.size ≤ maxLen), i64s (n := 0) (by decide) (by decide), i64s (n := 1) (by decide) (by decide), i64s (n := 0) (by decide) (by decide), i64s (n := 1) (by decide) (by decide)⟩, Nat.zero_le _, Nat.zero_le _⟩
    generalize wM.setCell ⟨t, 0, none⟩ (.slice a14 (M.els.length + 1) c14) = W at *
    refine ⟨rfl, fun b => Q b ∨ w.heap.size ≤ b ∧ b < W.heap.size, .slice a14 (M.els.length + 1) c14, hMW.chg, ?_⟩
    refine RefAt.anew (Q' := fun b => Q b ∨ w.heap.size ≤ b ∧ b < W.heap.size) (css := css ++ [elO ⟨M.next, e.id, tag, [], [], plainBx⟩ none none 0 0]) HRI.out (by simp [l1, hIdl]) (fun i x cs z1 z2 => ?_) (by simp only [List.length_append, hIdl, List.flatten_append, List.flatten_cons, List.flatten_nil, List.append_nil, List.length_cons, List.length_nil]; exact hoW) (fun x hx => ?_) ?_ (fun b hb h1 h2 => hrW b (HRI.out.qlt b hb) h1 (fun hh => h2 (by rw [hh]; rfl))) hW0 (fun b hb => ?_) (fun b h1 h2 => .inr ⟨by omega, h2⟩) (fun b hb => ?_)
    · have l1' : css.length = (updE M.els e.id (insE n M.next)).length := l1
      rcases Nat.lt_or_ge i css.length with hi | hi
      · rw [List.getElem?_append_left (by omega)] at z1
        rw [List.getElem?_append_left hi] at z2
        exact L2.out i x cs z1 z2
      · rw [List.getElem?_append_right (by omega), l1'.symm] at z1
        rw [List.getElem?_append_right hi] at z2
        cases hq : i - css.length with
        | zero =>
          rw [hq] at z1 z2
          cases z1; cases z2
          exact ⟨rfl, none, none, 0, 0, rfl, World.ownsRow_nil _ _ _ _, World.ownsRow_nil _ _ _ _, fun g hg => (nomatch (show none = some g from hg)), fun g hg => (nomatch (show none = some g from hg))⟩
        | succ j => rw [hq] at z1; simp at z1
    · rcases List.mem_append.1 hx with hx | hx
      · exact HRI.out.elWf x hx
      · simp only [List.mem_cons, List.not_mem_nil, or_false] at hx
        rw [hx]; exact hnewWf
    · rcases p3 with p3 | p3
      · exact .inl p3
      · exact .inr fun nb hb => by rw [p3] at hb; injection hb with hb; omega
    · rcases hb with hb | hb
      · exact .inl hb
      · exact .inr ⟨hb.1, by omega⟩
    · rcases hb with hb | hb
      · have := HR.out.qlt b hb; omega
      · exact hb.2
end Go.Proofs.YtdbddnkjiehaiaaGreat
