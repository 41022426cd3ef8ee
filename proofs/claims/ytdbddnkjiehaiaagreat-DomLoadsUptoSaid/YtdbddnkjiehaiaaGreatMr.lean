/- Texts of the walk, one after the other; what each proves stands ahead of it. -/
import Derived.Test.YtdbddnkjiehaiaaGreatMp
set_option linter.unusedSimpArgs false
set_option linter.unusedVariables false
/- WALK over dom: Load of any elements. -/
namespace Go.Proofs.YtdbddnkjiehaiaaGreat
open Go.Maps Go.RowKit Go.Sort
theorem Jnd_els {M N : Dm} (h : M.els = N.els) (hj : Jnd M) : Jnd N := by
  obtain ⟨a, b, l⟩ := M
  obtain ⟨c, d, m⟩ := N
  simp only at h
  subst h
  obtain ⟨h1, r, h2, h3, h4, h5⟩ := hj
  refine ⟨h1, r, h2, h3, h4, ?_⟩
  rw [belowEls (M := ⟨c, d, l⟩) (N := ⟨a, b, l⟩) rfl]
  exact h5
theorem isR_one {M : Dm} (hj : Jnd M) {x y : Int} (hx : isR M x = true) (hy : isR M y = true) : x = y := by
  obtain ⟨_, r, _, h3, _⟩ := hj
  have : ∀ {z}, isR M z = true → z = r := fun {z} hz => by
    unfold isR at hz
    cases hc : M.at z with
    | none => rw [hc] at hz; cases hz
    | some e => rw [hc] at hz; obtain ⟨he, h2⟩ := findE_some hc; rw [← h2]; exact h3 e he (of_decide_eq_true hz)
  rw [this hx, this hy]
/-- what Load of elements that may be by themselves comes to -/
def LdP (w : World) (M : Dm) (dep : Int → Nat) (r : Ending) (w' : World) : Prop := w.grows w' ∧ ((¬ Jnd M ∧ r = .returned (.tuple #[.pointer none, .int .i64 5])) ∨ (Jnd M ∧ (∃ e ∈ M.els, 32 < dep e.id) ∧ r = .returned (.tuple #[.pointer none, .int .i64 7])) ∨
  (Jnd M ∧ (∀ e ∈ M.els, dep e.id ≤ 32) ∧ ∃ (L : Ly) (rt : Int), r = .returned (.tuple #[.pointer (some ⟨L.t, 0, none⟩), .int .i64 0]) ∧ isR M rt = true ∧ RawAt w' L ⟨rt, lastI M.els + 1, M.els⟩ ∧ ∀ k, L.own M.els k → w.heap.size ≤ k))

set_option maxRecDepth 100000 in
set_option maxHeartbeats 40000000 in
theorem domLoadD_any (w : World) (v : Value) (M : Dm) (h : ElsAt w v M.els) (hw : ∀ e ∈ M.els, e.Wf0) (hne : M.els.length ≠ 0) (hfew : M.els.length ≤ 256) (herr : elsErr (-1) M.els = 0) (dep : Int → Nat) (hdep : Jnd M → ∃ r, isR M r = true ∧ Dep0 M r dep) : Calls Tryz.prog 4 #[v] w (LdP w M dep) := by
  obtain ⟨a0, c0, rfl, _⟩ := h.len
  have HE := Lib.hid (els_get h).2
  have HW := Lib.hid hw; have HFI := Lib.hid (elsErr_ok herr); have HER := Lib.hid herr; have HDP := Lib.hid hdep
  clear h hw herr hdep
  have hmk := fun (W : World) => run_makeMap (P := Tryz.prog) 43 W
  have i1 : ¬ (M.els.length : Int) = 0 := by omega
  have i2 : ¬ (256 : Int) < (M.els.length : Int) := by omega
  have i3 : ((M.els.length : Int) == 0) = false := by simp; exact fun hh => hne (by rw [hh]; rfl)
  go_enter Tryz.func4, Tryz.ntmps4
  go_upto_region 8 with fail
  have hg1 : w.grows ((w.alloc (Obj.map #[] 0)).alloc (.cells #[.map (some w.heap.size), .int .i64 0, .int .i64 0] 45)) := (by repeat (with_reducible first | assumption | exact grA | apply grB | apply grC | apply grD | refine grE ?_ (by omega) _ | refine grF ?_ (by omega) _ _))
  have hr1 : ((w.alloc (Obj.map #[] 0)).alloc (.cells #[.map (some w.heap.size), .int .i64 0, .int .i64 0] 45)).row (w.heap.size + 1) = some (.cells #[.map (some w.heap.size), .int .i64 0, .int .i64 0] 45) := by simp [go_sem]
  have hm1 : ((w.alloc (Obj.map #[] 0)).alloc (.cells #[.map (some w.heap.size), .int .i64 0, .int .i64 0] 45)).ownsMap Tryz.prog 3 heldP w.heap.size 0 (.map []) := ownsMap_row (World.ownsMap_made w _ _ _) (World.grows.row_eq (by repeat (with_reducible first | assumption | exact grA | apply grB | apply grC | apply grD | refine grE ?_ (by omega) _ | refine grF ?_ (by omega) _ _)) (by simp))
  have hz1 : w.heap.size < ((w.alloc (Obj.map #[] 0)).alloc (.cells #[.map (some w.heap.size), .int .i64 0, .int .i64 0] 45)).heap.size := by simp; omega
  have HC0 := Lib.hid (show CpSt w ((w.alloc (Obj.map #[] 0)).alloc (.cells #[.map (some w.heap.size), .int .i64 0, .int .i64 0] 45)) ⟨0, 0, M.els⟩ (w.heap.size + 1) w.heap.size w.heap.size ⟨w.heap.size + 1, w.heap.size, fun _ => 0, fun _ => .slice none 0 0, fun _ => .slice none 0 0, fun g => if g = w.heap.size + 1 then (-1, 0) else (-1, 1)⟩ [] (.map []) from
    ⟨rfl, rfl, hg1, hr1, hm1, fun _ => rfl, fun i hi => (by cases hi), fun i _ => rfl, rfl, List.nodup_nil, fun x hx => (by cases hx), fun e _ hx => (by cases hx), if_pos rfl, if_neg (by omega), fun e _ hx => (by cases hx), by omega, Nat.le_refl _, fun e _ hx => (by cases hx), Nat.le_refl _, hz1, by omega⟩)
  generalize ((w.alloc (Obj.map #[] 0)).alloc (.cells #[.map (some w.heap.size), .int .i64 0, .int .i64 0] 45)) = w1 at *
  clear hr1 hm1
  go_loopg [5, 22] M.els.length (fun gn v5 v22 wj => ∃ (i : Nat) (lc : Int) (Lc : Ly) (D' : DataW Value), Hid (gn + i = M.els.length ∧ i ≤ M.els.length) ∧ v22 = .int .i64 i ∧ v5 = .int .i64 lc ∧ Hid (lc = lastI (M.els.take i) ∧ elsErr lc (M.els.drop i) = 0) ∧ Hid (CpSt w wj ⟨0, 0, M.els⟩ (w.heap.size + 1) w.heap.size w.heap.size Lc ((M.els.take i).map El.id) D'))
  case atStart => exact ⟨0, _, _, _, Lib.hid ⟨by simp, Nat.zero_le _⟩, by go_num, rfl, Lib.hid ⟨by simp [lastI], by simpa using HER.out⟩, HC0⟩
  case round =>
    obtain ⟨i, lc, Lc, D', HQ, rfl, rfl, HL, HC⟩ := hrel
    obtain ⟨j1, j2⟩ := HQ.out
    have hgr := HC.out.gr
    by_cases hlt : i < M.els.length
    · have iI : (i : Int) < (M.els.length : Int) := by omega
      rcases HE.out with h0 | ⟨g, off, rfl, e1⟩
      · rw [h0] at hlt; simp at hlt
      have hgt := List.getElem?_eq_getElem hlt
      have hmem := List.getElem_mem hlt
      have hst := elsErr_at (last := lc) hgt
      rw [HL.out.2] at hst
      have hlast2 := lastI_take hgt
      obtain ⟨cs, l1, k1, ka, aa, kc, ac, rfl, hks, hats⟩ := e1 i _ hgt
      have HTK := Lib.hid (show M.els.take (i + 1) = M.els.take i ++ [M.els[i]] by rw [List.take_add_one, hgt]; rfl)
      have hnv : M.els[i].id ∉ (M.els.take i).map El.id := fun hm => by
        obtain ⟨x, hx, hxi⟩ := List.mem_map.1 hm
        obtain ⟨j, hj, rfl⟩ := List.mem_iff_getElem.1 hx
        have hji : j < i := by simp at hj; omega
        rw [List.getElem_take] at hxi
        have := List.pairwise_iff_getElem.1 HFI.out.2 j i (by omega) hlt hji
        omega
      generalize M.els[i] = e at *
      have k2 := k1.grows hgr
      have z3 := lt_sz k2.lt
      obtain ⟨u1, u2⟩ := k2
      rw [l1] at u1 u2
      have hew := HW.out e hmem
      have he0 : e.err lc = 0 := by
        apply Classical.byContradiction
        intro hh
        rw [if_pos hh] at hst
        exact hh hst.symm
      rw [if_neg (by simp [he0])] at hst
      have HST := Lib.hid hst.symm
      have hwr := fun (W : World) (hg : w.grows W) => domWrongG_any W e lc ka aa kc ac (hats.grows hg fun _ _ _ h => h) hew
      rw [he0] at hwr
      have HWR := Lib.hid hwr
      have HCP := Lib.hid (fun (W : World) (hg : w.grows W) => domCopiedG_any W e ka aa kc ac (hks.grows hg fun _ _ _ h => h) (hats.grows hg fun _ _ _ h => h) hew.2.2.2.2.2.2.2 hew.2.2.2.2.2.2.1)
      have HNV := Lib.hid hnv; have HM := Lib.hid hmem; have HL2 := Lib.hid hlast2
      clear e1 hks hats k1 hgt hnv hmem hlast2 hst he0 hwr
      go_upto_region 11 with (go_at_call 10; go_loud ((with_reducible refine (HWR.out _ (by repeat (with_reducible first | assumption | exact grA | apply grB | apply grC | apply grD | refine grE ?_ (by omega) _ | refine grF ?_ (by omega) _ _))).mono ?_); rintro r wB ⟨rfl, hgB⟩))
      have hgrB : wr.grows wB := World.grows.trans (by repeat (with_reducible first | assumption | exact grA | apply grB | apply grC | apply grD | refine grE ?_ (by omega) _ | refine grF ?_ (by omega) _ _)) hgB
      have hqB : wB.row wr.heap.size = some (.cells #[.int .i64 e.id, .int .i64 e.p, .string e.tag, .slice ka e.ks.length kc, .slice aa e.at'.length ac, .int .i64 e.bx.ty, .string e.bx.nm, .int .i64 e.bx.a, .int .i64 e.bx.b, .int .i64 e.bx.c, .int .i64 e.bx.d] 49) := by
        have q2 := hgB.row_eq (g := wr.heap.size) (by simp)
        simp [go_sem] at q2; exact q2
      have zB := row_sz' hqB
      have hgwB : w.grows wB := hgr.trans hgrB
      clear hgB u1 u2 z3
      go_upto_region 15 with (go_at_call 11; go_loud ((with_reducible refine (HCP.out _ hgwB).mono ?_); rintro r wC ⟨ka', aa', kc', ac', rfl, hgC, hkC, haC⟩))
      have hd : ∀ g, (Value.slice ka' e.ks.length kc').ownBlock = some g → (Value.slice aa' e.at'.length ac').ownBlock ≠ some g := fun g h1 h2 => by
        rcases hkC.2 with ⟨h0, _⟩ | ⟨b1, _, _, h0, _, q1, _⟩
        · injection h0 with h0; subst h0; cases h1
        rcases haC.2 with ⟨h3, _⟩ | ⟨b2, _, _, h3, _, q2, _⟩
        · injection h3 with h3; subst h3; cases h2
        injection h0 with h0; injection h3 with h3
        subst h0; subst h3
        injection h1 with h1; injection h2 with h2
        subst h1; subst h2
        rw [q1] at q2
        injection q2 with q2
        injection q2 with _ q2 _
        exact absurd q2 (by decide)
      have hsC := hgC.below.size
      have hgC4 : wC.grows (wC.alloc (.cells #[.int .i64 e.id, .int .i64 e.p, .string e.tag, .slice ka' e.ks.length kc', .slice aa' e.at'.length ac', .int .i64 e.bx.ty, .string e.bx.nm, .int .i64 e.bx.a, .int .i64 e.bx.b, .int .i64 e.bx.c, .int .i64 e.bx.d] 49)) := World.grows.alloc World.grows.refl _
      have hn4 : (wC.alloc (.cells #[.int .i64 e.id, .int .i64 e.p, .string e.tag, .slice ka' e.ks.length kc', .slice aa' e.at'.length ac', .int .i64 e.bx.ty, .string e.bx.nm, .int .i64 e.bx.a, .int .i64 e.bx.b, .int .i64 e.bx.c, .int .i64 e.bx.d] 49)).row wC.heap.size = some (.cells #[.int .i64 e.id, .int .i64 e.p, .string e.tag, .slice ka' e.ks.length kc', .slice aa' e.at'.length ac', .int .i64 e.bx.ty, .string e.bx.nm, .int .i64 e.bx.a, .int .i64 e.bx.b, .int .i64 e.bx.c, .int .i64 e.bx.d] 49) := by simp [go_sem]
      generalize (wC.alloc (.cells #[.int .i64 e.id, .int .i64 e.p, .string e.tag, .slice ka' e.ks.length kc', .slice aa' e.at'.length ac', .int .i64 e.bx.ty, .string e.bx.nm, .int .i64 e.bx.a, .int .i64 e.bx.b, .int .i64 e.bx.c, .int .i64 e.bx.d] 49)) = w4 at *
      have hgB4 : wB.grows w4 := hgC.trans hgC4
      have hgr4 : wr.grows w4 := hgrB.trans hgB4
      have hhl := (row_sz' HC.out.head).1
      have hml := HC.out.map.lt
      have hx4 : w4.row (w.heap.size + 1) = _ := (hgr4.row_eq hhl).trans HC.out.head
      have zx4 := row_sz' hx4
      have hq4 : w4.row wr.heap.size = _ := (hgB4.row_eq zB.1).trans hqB
      have zq4 := row_sz' hq4
      have HO4 := Lib.hid (ownsMap_row HC.out.map (hgr4.row_eq hml))
      have hvl : ((M.els.take i).map El.id).length < maxLen := by simp only [maxLen]; simp; omega
      have hiI := (HW.out e HM.out).1
      refine wp_region_plus_tail 6 (by kernel_rfl) (by kernel_rfl) ?_
      simp only [List.take_succ_cons, List.take_zero, List.drop_succ_cons, List.drop_zero]
      repeat (go_big_quiet_step (fail))
      refine wpQuiet_nil ?_; intro _ hw'; obtain ⟨xq, hw''⟩ := hw'; subst hw''
      have hg46 : w4.grows (w4.plus xq) := (by repeat (with_reducible first | assumption | exact grA | apply grB | apply grC | apply grD | refine grE ?_ (by omega) _ | refine grF ?_ (by omega) _ _))
      have HO6 := Lib.hid (ownsMap_row HO4.out (hg46.row_eq HO4.out.lt))
      generalize w4.plus xq = w6 at *
      go_wp2_with (at_mapUpdate; go_loud (refine wpList_mapUpdate_own _ rfl (.tmp 39) (.tmp 41) (.tmp 9) 43 rfl 3 52 (int_keyed Tryz.underlying3) Tryz.underlying43 heldP w.heap.size ((M.els.take i).map El.id).length D' rfl HO6.out hvl (.int .i64 e.id) (.pointer (some ⟨wC.heap.size, 0, none⟩)) (.int .i64 e.id) rfl (by simp [go_sem]) (keyOf_int_mk Tryz.underlying3 (lit_wf hiI)) _ [] rfl ?_); intro w5 hown5 hgr5)
      have hs5 := hgr5.size
      have hs46 := hg46.below.size
      have hsC4 := hgC4.below.size
      have hsB := hgrB.below.size
      have hsr := hgr.below.size
      have rr : ∀ k, k < w6.heap.size → k ≠ w.heap.size → w5.row k = w6.row k := fun k hk hn => World.row_grow hgr5 hk (fun h => by injection h with h; exact hn h)
      have hnl4 := (row_sz' hn4).1
      obtain ⟨L5, h5⟩ := CpSt.step (w1 := wB) (wC := wC) (W5 := w5) (nb := wC.heap.size) (ka := ka') (aa := aa') (kc := kc') (ac := ac') HC.out HM.out HNV.out (fun e he => (HFI.out.1 e he).1.low) HFI.out.2
        (World.grows.grown (hgr.trans (hgr4.trans hg46)) hgr5 (fun k hk => by cases hk; exact Nat.le_refl _)) (fun k hk h1 h2 => (rr k (by have := hgr4.below.size; omega) h1).trans ((hg46.row_eq (by have := hgr4.below.size; omega)).trans (hgr4.row_eq hk))) (by omega) hsB hkC haC hd (Nat.le_refl _) hsC
        (fun k h1 h2 => (rr k (by omega) (by omega)).trans ((hg46.row_eq (by omega)).trans (hgC4.row_eq h2))) ((rr _ (by omega) (by omega)).trans ((hg46.row_eq hnl4).trans hn4)) hown5
      have H5 := Lib.hid (show CpSt w w5 ⟨0, 0, M.els⟩ (w.heap.size + 1) w.heap.size w.heap.size L5 ((M.els.take (i + 1)).map El.id) _ by rw [HTK.out, List.map_append]; exact h5)
      clear h5 hown5 hgr5 rr hkC haC hd hgC4 hn4 hgC hgB4 hgr4 hx4 zx4 hq4 zq4 hg46 HO6 HO4
      go_wp2_with fail
      go_roundg (M.els.length - (i + 1))
      case measure => omega
      case rel => exact ⟨i + 1, _, _, _, Lib.hid ⟨by omega, by omega⟩, by go_num, rfl, Lib.hid ⟨HL2.out.symm, HST.out⟩, H5⟩
    · have iI : ¬ (i : Int) < (M.els.length : Int) := by omega
      obtain rfl : i = M.els.length := by omega
      have hlc : lc = lastI M.els := by have := HL.out.1; rwa [List.take_length] at this
      obtain ⟨em, hem, hlm⟩ : ∃ e ∈ M.els, lastI M.els = e.id := lastI_mem (fun hh => hne (by rw [hh]; rfl))
      have hlow := (HFI.out.1 em hem).1.low
      have hnx := (HFI.out.1 em hem).1.top
      have hlcI : 0 ≤ lc ∧ lc ≤ 1073741824 := by omega
      have HC1 := Lib.hid (show CpSt w wr ⟨0, 0, M.els⟩ (w.heap.size + 1) w.heap.size w.heap.size Lc (M.els.map El.id) D' by have := HC.out; rwa [List.take_length] at this)
      have hxr := HC1.out.head
      have zxr := row_sz' hxr
      have HLC := Lib.hid hlc
      clear HC hlow hnx hem hlm hlc
      go_upto_region 18 with fail
      have hsr := hgr.below.size
      have hxW : (wr.setCell ⟨w.heap.size + 1, 2, none⟩ (.int .i64 (lc + 1))).row (w.heap.size + 1) = some (.cells #[.map (some w.heap.size), .int .i64 (0 : Int), .int .i64 (lc + 1)] 45) := by
        simp [go_sem, hxr, zxr]
      have hgW : w.grows (wr.setCell ⟨w.heap.size + 1, 2, none⟩ (.int .i64 (lc + 1))) := grF hgr (by omega) _ _
      have HC2 := Lib.hid (HC1.out.hd (M' := ⟨0, lc + 1, M.els⟩) rfl hgW (fun k hk => by rw [World.row_setCell, if_neg hk]) (World.setCell_size' _ _ _) hxW (by omega) (fun e he => (HFI.out.1 e he).1.low))
      generalize (wr.setCell ⟨w.heap.size + 1, 2, none⟩ (.int .i64 (lc + 1))) = w8 at *
      clear hxW hxr zxr hlcI
      obtain ⟨hT8, hO8⟩ := HC2.out.raw HFI.out.2 (fun e he => (HFI.out.1 e he).1.low) hfew HW.out
      have HJ := Lib.hid (domJoinedG_any w w8 Lc ⟨0, lc + 1, M.els⟩ hgW hT8 (by rw [HC2.out.t]; omega))
      rw [HC2.out.t] at HJ
      have HO8 := Lib.hid hO8
      have hLt : Lc.t = w.heap.size + 1 := HC2.out.t
      have HLt := Lib.hid hLt
      clear hT8 hO8 hLt HC1 HC2
      go_upto_region 18 with fail
      have HBJ := Lib.hid (show ∀ b, (b = true ↔ Jnd ⟨0, lc + 1, M.els⟩) → (b = true ↔ Jnd M) from fun b hb => hb.trans ⟨Jnd_els rfl, Jnd_els rfl⟩)
      by_cases hJM : Jnd M
      case neg =>
        go_wp2_with (go_at_call 12; go_loud ((with_reducible refine (HJ.out).mono ?_); rintro r w9 ⟨b, rfl, hg9, hbj, rt, hT9, hrt⟩; (obtain rfl : b = false := (by cases b; rfl; exact absurd ((HBJ.out _ hbj).1 rfl) hJM))))
        go_ret2
        exact ⟨hg9, .inl ⟨hJM, rfl⟩⟩
      obtain ⟨rr, hrr, hD⟩ := HDP.out hJM
      have HJM := Lib.hid hJM
      clear hJM
      go_upto_region 20 with (go_at_call 12; go_loud ((with_reducible refine (HJ.out).mono ?_); rintro r w9 ⟨b, rfl, hg9, hbj, rt, hT9, hrt⟩; (obtain rfl : b = true := (HBJ.out _ hbj).2 HJM.out); (have HRT2 := Lib.hid (show isR M rt = true from hrt rfl))))
      have hrt2 : isR M rt = true := HRT2.out
      obtain rfl : rr = rt := isR_one HJM.out hrr hrt2
      have HD := Lib.hid (show Dep0 ⟨rr, lc + 1, M.els⟩ rr dep from ⟨hD.root, hD.kid, hD.pos, hD.top, hD.par⟩)
      have HRR := Lib.hid hrt2
      have hx9 := hT9.head
      rw [HLt.out] at hx9
      have zx9 := row_sz' hx9
      obtain ⟨c, D, hcn, hown, hmp, hhas, hsz⟩ := hT9.map
      have HOW := Lib.hid hown; have HH := Lib.hid hhas
      have HLT := Lib.hid (fun k (hk : Lc.own M.els k) => hT9.lt hk)
      have HT := Lib.hid hT9
      have s0 := hg9.below.size
      clear hT9 hown hmp hhas hsz HJ hrt hrt2 hD hbj hrr
      go_wp2_with (at_range; go_loud (refine wpList_range_own _ rfl _ 43 rfl 3 52 (int_keyed Tryz.underlying3) Tryz.underlying43 heldP Lc.mb c D rfl HOW.out ?_); intro w2 hrg2 hg2 hs2)
      try go_frame
      have hgw2 : w.grows w2 := World.grows.grown hg9 hg2 (fun _ h => nomatch h)
      have r2 : ∀ k, k < w9.heap.size → w2.row k = w9.row k := fun k hk => World.row_grow hg2 hk (fun h => nomatch h)
      have HT2 := Lib.hid (HT.out.keep (W := w2) fun k _ hl => r2 k hl)
      have HRG := Lib.hid hrg2
      clear hrg2 hx9 zx9 r2 hg2
      go_loopg [10] M.els.length (fun gn v10 wj => ∃ (vs : List Int) (left : Lit → Bool) (cnt : Nat), Hid (gn + vs.length = M.els.length) ∧ Hid (vs.Nodup ∧ ∀ x ∈ vs, ∃ e ∈ M.els, e.id = x ∧ dep e.id ≤ 32) ∧ w.grows wj ∧ Hid (RawAt wj Lc ⟨rr, lc + 1, M.els⟩) ∧ Hid (wj.ranges Tryz.prog 3 heldP Lc.mb w9.heap.size c D left cnt) ∧ Hid (∀ i, left (.int .i64 i) = true ↔ ((M.at i).isSome = true ∧ i ∉ vs)))
      case atStart => exact ⟨[], _, _, Lib.hid (by simp), Lib.hid ⟨List.nodup_nil, fun x hx => nomatch hx⟩, hgw2, HT2, HRG, Lib.hid fun i => by rw [HH.out]; simp; rfl⟩
      case round =>
        obtain ⟨vs, left, cnt, HQ2, HV, hgj, HTJ, HR, HL3⟩ := hrel
        go_wp2_with (at_next; go_loud (refine wpList_next_ranges _ rfl _ rfl 3 (int_keyed Tryz.underlying3) heldP (Value.int .i64) (id : Value → Value) (fun key kl hkey => by obtain ⟨x, rfl, _⟩ := Maps.keyOf_int_inv Tryz.underlying3 hkey; exact ⟨x, rfl⟩) (fun v y _ => ⟨v, rfl⟩) Lc.mb w9.heap.size c D left cnt rfl HR.out ?_ ?_))
        · intro hc0 hl0
          have HALL := Lib.hid (show ∀ e ∈ M.els, dep e.id ≤ 32 from fun e he => by
            have hin : e.id ∈ vs := by
              apply Classical.byContradiction
              intro hn
              have := (HL3.out e.id).2 ⟨by unfold Dm.at; rw [findE_of HFI.out.2 he]; rfl, hn⟩
              rw [hl0] at this; cases this
            obtain ⟨e', he', h1, h2⟩ := HV.out.2 e.id hin
            rw [← h1]; exact h2)
          have HLC2 := Lib.hid (show lc = lastI M.els from HLC.out)
          go_wp2_with fail
          go_ret2
          refine ⟨hgj, .inr (.inr ⟨HJM.out, HALL.out, Lc, rr, by rw [HLt.out]; rfl, HRR.out, ?_, HO8.out⟩)⟩
          rw [← HLC2.out]; exact HTJ.out
        · intro x c' kl y1 y2 w3 cnt' hkx hlx hRc hat hrg3 hcl hg3 hs3 hen
          obtain ⟨_, hx', rfl, hwx⟩ := Maps.keyOf_int_inv Tryz.underlying3 hkx
          cases hx'
          obtain ⟨hsome, hnv⟩ := (HL3.out x).1 hlx
          cases hat0 : M.at x with
          | none => rw [hat0] at hsome; cases hsome
          | some e =>
            obtain ⟨he, rfl⟩ := findE_some hat0
            have hgw3 : w.grows w3 := World.grows.grown hgj hg3 (fun k hk => by cases hk; exact s0)
            have r3 : ∀ k, k < wr.heap.size → k ≠ w9.heap.size → w3.row k = wr.row k := fun k hk hn => World.row_grow hg3 hk (fun h => by injection h with h; exact hn h)
            have HT3 := Lib.hid (HTJ.out.keep (W := w3) fun k hk hl => r3 k hl (by have := HLT.out k hk; omega))
            have HDPT := Lib.hid (domDepthG_any w3 Lc ⟨rr, lc + 1, M.els⟩ HT3.out HD.out e he)
            rw [HLt.out] at HDPT
            have hdl := HD.out.top e he
            have HRG3 := Lib.hid hrg3
            have hq := HQ2.out
            have HE := Lib.hid he; have HNV := Lib.hid hnv
            obtain ⟨dp, hdp⟩ : ∃ dp, dp = dep e.id := ⟨_, rfl⟩
            rw [← hdp] at HDPT hdl
            have HDQ := Lib.hid hdp
            clear hat hRc hlx hkx hwx hsome hat0 hnv hrg3 r3 he hdp
            by_cases h32 : 32 < dp
            · have hdI : (32 : Int) < (dp : Int) := by omega
              have HBAD := Lib.hid (show ∃ e ∈ M.els, 32 < dep e.id from ⟨e, HE.out, by rw [← HDQ.out]; exact h32⟩)
              go_wp2_with (go_at_call 13; go_loud ((with_reducible refine (HDPT.out).mono ?_); rintro r w4 ⟨rfl, rfl⟩))
              go_ret2
              exact ⟨hgw3, .inr (.inl ⟨HJM.out, HBAD.out, rfl⟩)⟩
            · have hdI : ¬ (32 : Int) < (dp : Int) := by omega
              have HV5 := Lib.hid (show (vs ++ [e.id]).Nodup ∧ ∀ x ∈ vs ++ [e.id], ∃ e ∈ M.els, e.id = x ∧ dep e.id ≤ 32 from ⟨by
                rw [List.nodup_append]
                exact ⟨HV.out.1, by simp, fun a ha b hb hab => by simp at hb; subst hb; subst hab; exact HNV.out ha⟩, fun y hy => by
                rcases List.mem_append.1 hy with hy | hy
                · exact HV.out.2 y hy
                · simp at hy; exact ⟨e, HE.out, hy.symm, by rw [← HDQ.out]; omega⟩⟩)
              have hvn : vs.length + 1 ≤ M.els.length := by
                have h1 := nodup_len (l := vs ++ [e.id]) (m := M.els.map El.id) HV5.out.1 fun x hx => by
                  obtain ⟨e', he', rfl, _⟩ := HV5.out.2 x hx
                  exact List.mem_map.2 ⟨e', he', rfl⟩
                simp at h1; omega
              have HL5 := Lib.hid (show ∀ i, (left (.int .i64 i) && !(Lit.int .i64 i).sameKey (.int .i64 e.id)) = true ↔ ((M.at i).isSome = true ∧ i ∉ vs ++ [e.id]) from fun i => by
                rw [Bool.and_eq_true, HL3.out i]
                by_cases hi : i = e.id
                · subst hi; simp [Lit.sameKey]
                · simp [Lit.sameKey, hi])
              go_wp2_with (go_at_call 13; go_loud ((with_reducible refine (HDPT.out).mono ?_); rintro r w4 ⟨rfl, rfl⟩))
              go_roundg (M.els.length - (vs.length + 1))
              case measure => omega
              case rel => exact ⟨vs ++ [e.id], _, cnt', Lib.hid (by simp; omega), HV5, hgw3, HT3, HRG3, HL5⟩
end Go.Proofs.YtdbddnkjiehaiaaGreat

/- WALK over dom: Load of elements that may not be. -/
namespace Go.Proofs.YtdbddnkjiehaiaaGreat
open Go.Maps Go.RowKit Go.Sort

set_option maxRecDepth 100000 in
set_option maxHeartbeats 40000000 in
theorem domLoadE_any (w : World) (v : Value) (M : Dm) (h : ElsAt w v M.els) (hw : ∀ e ∈ M.els, e.Wf0) (hfew : M.els.length ≤ 256) (herr : elsErr (-1) M.els ≠ 0) : Calls Tryz.prog 4 #[v] w fun r w' => r = .returned (.tuple #[.pointer none, .int .i64 (elsErr (-1) M.els)]) ∧ w.grows w' := by
  obtain ⟨a0, c0, rfl, _⟩ := h.len
  have HE := Lib.hid (els_get h).2
  have hne : M.els.length ≠ 0 := fun hh => herr (by rw [List.length_eq_zero_iff.1 hh]; rfl)
  have HW := Lib.hid hw; have HER := Lib.hid herr
  clear h hw herr
  have hmk := fun (W : World) => run_makeMap (P := Tryz.prog) 43 W
  have i1 : ¬ (M.els.length : Int) = 0 := by omega
  have i2 : ¬ (256 : Int) < (M.els.length : Int) := by omega
  have i3 : ((M.els.length : Int) == 0) = false := by simp; exact fun hh => hne (by rw [hh]; rfl)
  go_enter Tryz.func4, Tryz.ntmps4
  go_upto_region 8 with fail
  have hg1 : w.grows ((w.alloc (Obj.map #[] 0)).alloc (.cells #[.map (some w.heap.size), .int .i64 0, .int .i64 0] 45)) := (by repeat (with_reducible first | assumption | exact grA | apply grB | apply grC | apply grD | refine grE ?_ (by omega) _ | refine grF ?_ (by omega) _ _))
  have hr1 : ((w.alloc (Obj.map #[] 0)).alloc (.cells #[.map (some w.heap.size), .int .i64 0, .int .i64 0] 45)).row (w.heap.size + 1) = some (.cells #[.map (some w.heap.size), .int .i64 0, .int .i64 0] 45) := by simp [go_sem]
  have hm1 : ((w.alloc (Obj.map #[] 0)).alloc (.cells #[.map (some w.heap.size), .int .i64 0, .int .i64 0] 45)).ownsMap Tryz.prog 3 heldP w.heap.size 0 (.map []) := ownsMap_row (World.ownsMap_made w _ _ _) (World.grows.row_eq (by repeat (with_reducible first | assumption | exact grA | apply grB | apply grC | apply grD | refine grE ?_ (by omega) _ | refine grF ?_ (by omega) _ _)) (by simp))
  have hz1 : w.heap.size < ((w.alloc (Obj.map #[] 0)).alloc (.cells #[.map (some w.heap.size), .int .i64 0, .int .i64 0] 45)).heap.size := by simp; omega
  have HH0 := Lib.hid hr1; have HM0 := Lib.hid hm1
  generalize ((w.alloc (Obj.map #[] 0)).alloc (.cells #[.map (some w.heap.size), .int .i64 0, .int .i64 0] 45)) = w1 at *
  clear hr1 hm1
  go_loopg [5, 22] M.els.length (fun gn v5 v22 wj => ∃ (i : Nat) (lc : Int) (D' : DataW Value), Hid (gn + i = M.els.length ∧ i ≤ M.els.length) ∧ v22 = .int .i64 i ∧ v5 = .int .i64 lc ∧ Hid (elsErr (-1) M.els = elsErr lc (M.els.drop i)) ∧ w.grows wj ∧ Hid (wj.row (w.heap.size + 1) = some (.cells #[.map (some w.heap.size), .int .i64 0, .int .i64 0] 45)) ∧ Hid (wj.ownsMap Tryz.prog 3 heldP w.heap.size i D'))
  case atStart => exact ⟨0, -1, _, Lib.hid ⟨by simp, Nat.zero_le _⟩, by go_num, by go_num, Lib.hid (by simp), hg1, HH0, HM0⟩
  case round =>
    obtain ⟨i, lc, D', HQ, rfl, rfl, HL, hgr, HHD, HMP⟩ := hrel
    obtain ⟨j1, j2⟩ := HQ.out
    have hlt0 : i < M.els.length := by
      apply Classical.byContradiction
      intro hn
      have h1 := HL.out
      rw [List.drop_eq_nil_of_le (by omega)] at h1
      exact HER.out h1
    by_cases hlt : i < M.els.length
    · have iI : (i : Int) < (M.els.length : Int) := by omega
      rcases HE.out with h0 | ⟨g, off, rfl, e1⟩
      · rw [h0] at hlt; simp at hlt
      have hgt := List.getElem?_eq_getElem hlt
      have hmem := List.getElem_mem hlt
      have hst := elsErr_at (last := lc) hgt
      rw [← HL.out] at hst
      obtain ⟨cs, l1, k1, ka, aa, kc, ac, rfl, hks, hats⟩ := e1 i _ hgt
      generalize M.els[i] = e at *
      have k2 := k1.grows hgr
      have z3 := lt_sz k2.lt
      obtain ⟨u1, u2⟩ := k2
      rw [l1] at u1 u2
      have hew := HW.out e hmem
      have HWR := Lib.hid (fun (W : World) (hg : w.grows W) => domWrongG_any W e lc ka aa kc ac (hats.grows hg fun _ _ _ h => h) hew)
      have HCP := Lib.hid (fun (W : World) (hg : w.grows W) => domCopiedG_any W e ka aa kc ac (hks.grows hg fun _ _ _ h => h) (hats.grows hg fun _ _ _ h => h) hew.2.2.2.2.2.2.2 hew.2.2.2.2.2.2.1)
      have HM := Lib.hid hmem
      obtain ⟨er, her⟩ : ∃ er, er = e.err lc := ⟨_, rfl⟩
      rw [← her] at HWR hst
      clear e1 hks hats k1 hgt hmem
      by_cases her0 : er = 0
      case neg =>
        rw [if_pos (by exact her0)] at hst
        have HANS := Lib.hid hst
        have hb : (er != 0) = true := by simpa using her0
        have hb2 : (er == 0) = false := by simpa using her0
        clear hst her her0
        go_wp2_with (go_at_call 10; go_loud ((with_reducible refine (HWR.out _ (by repeat (with_reducible first | assumption | exact grA | apply grB | apply grC | apply grD | refine grE ?_ (by omega) _ | refine grF ?_ (by omega) _ _))).mono ?_); rintro r wB ⟨rfl, hgB⟩))
        go_ret2
        exact ⟨by rw [HANS.out]; rfl, World.grows.trans (by repeat (with_reducible first | assumption | exact grA | apply grB | apply grC | apply grD | refine grE ?_ (by omega) _ | refine grF ?_ (by omega) _ _)) hgB⟩
      subst her0
      rw [if_neg (by simp)] at hst
      have HST := Lib.hid hst
      clear hst her
      go_upto_region 11 with (go_at_call 10; go_loud ((with_reducible refine (HWR.out _ (by repeat (with_reducible first | assumption | exact grA | apply grB | apply grC | apply grD | refine grE ?_ (by omega) _ | refine grF ?_ (by omega) _ _))).mono ?_); rintro r wB ⟨rfl, hgB⟩))
      have hgrB : wr.grows wB := World.grows.trans (by repeat (with_reducible first | assumption | exact grA | apply grB | apply grC | apply grD | refine grE ?_ (by omega) _ | refine grF ?_ (by omega) _ _)) hgB
      have hqB : wB.row wr.heap.size = some (.cells #[.int .i64 e.id, .int .i64 e.p, .string e.tag, .slice ka e.ks.length kc, .slice aa e.at'.length ac, .int .i64 e.bx.ty, .string e.bx.nm, .int .i64 e.bx.a, .int .i64 e.bx.b, .int .i64 e.bx.c, .int .i64 e.bx.d] 49) := by
        have q2 := hgB.row_eq (g := wr.heap.size) (by simp)
        simp [go_sem] at q2; exact q2
      have zB := row_sz' hqB
      have hgwB : w.grows wB := hgr.trans hgrB
      clear hgB u1 u2 z3
      go_upto_region 15 with (go_at_call 11; go_loud ((with_reducible refine (HCP.out _ hgwB).mono ?_); rintro r wC ⟨ka', aa', kc', ac', rfl, hgC, hkC, haC⟩))
      have hd : ∀ g, (Value.slice ka' e.ks.length kc').ownBlock = some g → (Value.slice aa' e.at'.length ac').ownBlock ≠ some g := fun g h1 h2 => by
        rcases hkC.2 with ⟨h0, _⟩ | ⟨b1, _, _, h0, _, q1, _⟩
        · injection h0 with h0; subst h0; cases h1
        rcases haC.2 with ⟨h3, _⟩ | ⟨b2, _, _, h3, _, q2, _⟩
        · injection h3 with h3; subst h3; cases h2
        injection h0 with h0; injection h3 with h3
        subst h0; subst h3
        injection h1 with h1; injection h2 with h2
        subst h1; subst h2
        rw [q1] at q2
        injection q2 with q2
        injection q2 with _ q2 _
        exact absurd q2 (by decide)
      have hsC := hgC.below.size
      have hgC4 : wC.grows (wC.alloc (.cells #[.int .i64 e.id, .int .i64 e.p, .string e.tag, .slice ka' e.ks.length kc', .slice aa' e.at'.length ac', .int .i64 e.bx.ty, .string e.bx.nm, .int .i64 e.bx.a, .int .i64 e.bx.b, .int .i64 e.bx.c, .int .i64 e.bx.d] 49)) := World.grows.alloc World.grows.refl _
      have hn4 : (wC.alloc (.cells #[.int .i64 e.id, .int .i64 e.p, .string e.tag, .slice ka' e.ks.length kc', .slice aa' e.at'.length ac', .int .i64 e.bx.ty, .string e.bx.nm, .int .i64 e.bx.a, .int .i64 e.bx.b, .int .i64 e.bx.c, .int .i64 e.bx.d] 49)).row wC.heap.size = some (.cells #[.int .i64 e.id, .int .i64 e.p, .string e.tag, .slice ka' e.ks.length kc', .slice aa' e.at'.length ac', .int .i64 e.bx.ty, .string e.bx.nm, .int .i64 e.bx.a, .int .i64 e.bx.b, .int .i64 e.bx.c, .int .i64 e.bx.d] 49) := by simp [go_sem]
      generalize (wC.alloc (.cells #[.int .i64 e.id, .int .i64 e.p, .string e.tag, .slice ka' e.ks.length kc', .slice aa' e.at'.length ac', .int .i64 e.bx.ty, .string e.bx.nm, .int .i64 e.bx.a, .int .i64 e.bx.b, .int .i64 e.bx.c, .int .i64 e.bx.d] 49)) = w4 at *
      have hgB4 : wB.grows w4 := hgC.trans hgC4
      have hgr4 : wr.grows w4 := hgrB.trans hgB4
      have hhl := (row_sz' HHD.out).1
      have hml := HMP.out.lt
      have hx4 : w4.row (w.heap.size + 1) = _ := (hgr4.row_eq hhl).trans HHD.out
      have zx4 := row_sz' hx4
      have hq4 : w4.row wr.heap.size = _ := (hgB4.row_eq zB.1).trans hqB
      have zq4 := row_sz' hq4
      have HO4 := Lib.hid (ownsMap_row HMP.out (hgr4.row_eq hml))
      have hvl : i < maxLen := by simp only [maxLen]; omega
      have hiI := (HW.out e HM.out).1
      refine wp_region_plus_tail 6 (by kernel_rfl) (by kernel_rfl) ?_
      simp only [List.take_succ_cons, List.take_zero, List.drop_succ_cons, List.drop_zero]
      repeat (go_big_quiet_step (fail))
      refine wpQuiet_nil ?_; intro _ hw'; obtain ⟨xq, hw''⟩ := hw'; subst hw''
      have hg46 : w4.grows (w4.plus xq) := (by repeat (with_reducible first | assumption | exact grA | apply grB | apply grC | apply grD | refine grE ?_ (by omega) _ | refine grF ?_ (by omega) _ _))
      have HO6 := Lib.hid (ownsMap_row HO4.out (hg46.row_eq HO4.out.lt))
      generalize w4.plus xq = w6 at *
      go_wp2_with (at_mapUpdate; go_loud (refine wpList_mapUpdate_own _ rfl (.tmp 39) (.tmp 41) (.tmp 9) 43 rfl 3 52 (int_keyed Tryz.underlying3) Tryz.underlying43 heldP w.heap.size i D' rfl HO6.out hvl (.int .i64 e.id) (.pointer (some ⟨wC.heap.size, 0, none⟩)) (.int .i64 e.id) rfl (by simp [go_sem]) (keyOf_int_mk Tryz.underlying3 (lit_wf hiI)) _ [] rfl ?_); intro w5 hown5 hgr5)
      have hs46 := hg46.below.size
      have hsr := hgr.below.size
      have hrs4 := hgr4.below.size
      have rr : ∀ k, k < w6.heap.size → k ≠ w.heap.size → w5.row k = w6.row k := fun k hk hn => World.row_grow hgr5 hk (fun h => by injection h with h; exact hn h)
      have hgw5 : w.grows w5 := World.grows.grown (hgr.trans (hgr4.trans hg46)) hgr5 (fun k hk => by cases hk; exact Nat.le_refl _)
      have HH5 := Lib.hid ((rr (w.heap.size + 1) (by omega) (by omega)).trans ((hg46.row_eq zx4.1).trans hx4))
      have HM5 := Lib.hid hown5
      clear hown5 hgr5 rr hkC haC hd hgC4 hn4 hgC hgB4 hgr4 hx4 zx4 hq4 zq4 hg46 HO6 HO4
      go_wp2_with fail
      go_roundg (M.els.length - (i + 1))
      case measure => omega
      case rel => exact ⟨i + 1, _, _, Lib.hid ⟨by omega, by omega⟩, by go_num, rfl, HST, hgw5, HH5, HM5⟩
    · exact absurd hlt0 hlt

set_option maxRecDepth 100000 in
set_option maxHeartbeats 8000000 in
theorem domLoad0_any (w : World) (a : Option Addr) (c : Nat) : Calls Tryz.prog 4 #[.slice a 0 c] w fun r w' => r = .returned (.tuple #[.pointer none, .int .i64 1]) ∧ w.grows w' := by
  go_enter Tryz.func4, Tryz.ntmps4
  go_wp2_with fail
  go_ret2
  exact ⟨rfl, (by repeat (with_reducible first | assumption | exact grA | apply grB | apply grC | apply grD | refine grE ?_ (by omega) _ | refine grF ?_ (by omega) _ _))⟩
set_option maxRecDepth 100000 in
set_option maxHeartbeats 8000000 in
theorem domLoadF_any (w : World) (a : Option Addr) (n c : Nat) (hn : 256 < n) : Calls Tryz.prog 4 #[.slice a n c] w fun r w' => r = .returned (.tuple #[.pointer none, .int .i64 6]) ∧ w.grows w' := by
  have i1 : ¬ (n : Int) = 0 := by omega
  have i2 : (256 : Int) < (n : Int) := by omega
  have i3 : ((n : Int) == 0) = false := by simpa using i1
  have i4 : ¬ n = 0 := by omega
  go_enter Tryz.func4, Tryz.ntmps4
  go_wp2_with fail
  go_ret2
  exact ⟨rfl, (by repeat (with_reducible first | assumption | exact grA | apply grB | apply grC | apply grD | refine grE ?_ (by omega) _ | refine grF ?_ (by omega) _ _))⟩
end Go.Proofs.YtdbddnkjiehaiaaGreat

/- PLAIN: elements that Load takes are a tree. No condition; no program. -/
namespace Go
open Go.RowKit
theorem isR_el {M : Dm} {r : Int} (h : isR M r = true) : ∃ e ∈ M.els, e.id = r ∧ e.p = -1 := by
  unfold isR at h
  cases hc : M.at r with
  | none => rw [hc] at h; cases h
  | some e => rw [hc] at h; obtain ⟨he, h2⟩ := findE_some hc; exact ⟨e, he, h2, of_decide_eq_true h⟩
theorem jnd_dep {M : Dm} (hE : elsErr (-1) M.els = 0) (hf : M.els.length ≤ 256) (hJ : Jnd M) : ∃ dep, ∃ r, isR M r = true ∧ Dep0 M r dep := by
  obtain ⟨h1, h2⟩ := elsErr_ok hE
  obtain ⟨hok, r, hr, hone, hk, hl⟩ := hJ
  have hs := shp_of h2 (fun e he => (h1 e he).1.low) hf hok hr
  obtain ⟨dep, hd⟩ := hs.dep hl
  obtain ⟨e, he, e1, e2⟩ := hr
  exact ⟨dep, r, by rw [← e1, isR_at h2 he]; exact decide_eq_true e2, hd⟩
theorem load_good {M : Dm} (hE : elsErr (-1) M.els = 0) (hf : M.els.length ≤ 256) (hJ : Jnd M) {rt : Int} (hr : isR M rt = true) {dep : Int → Nat} (hD : Dep0 M rt dep) (h32 : ∀ e ∈ M.els, dep e.id ≤ 32) (hw : ∀ e ∈ M.els, e.Wf0) :
    Dm.Good ⟨rt, lastI M.els + 1, M.els⟩ ∧ ∀ e ∈ M.els, e.Wf := by
  obtain ⟨h1, h2⟩ := elsErr_ok hE
  obtain ⟨hok, _, _, _, _, _⟩ := hJ
  have hro := isR_el hr
  have hs := shp_of h2 (fun e he => (h1 e he).1.low) hf hok hro
  have htop : lastI M.els ≤ 1073741824 := by
    obtain ⟨e, he, h3⟩ := lastI_mem (l := M.els) (fun hh => by obtain ⟨e, he, _⟩ := hro; rw [hh] at he; cases he)
    rw [h3]; exact (h1 e he).1.top
  refine ⟨⟨⟨h2, fun e he => ⟨(h1 e he).1.low, ?_⟩, ?_, hf, hro, fun e he k hk => ?_, fun e he => (hok e he).2.1, ⟨dep, hD.root, hD.kid, h32⟩⟩, hD.par, fun e he => (h1 e he).1.ups⟩, fun e he => ?_⟩
  · have := lastI_ge h2 he
    show e.id < lastI M.els + 1; omega
  · show lastI M.els + 1 ≤ 1073741825; omega
  · obtain ⟨f, hf', h3, h4⟩ := (hok e he).2.2 k hk
    exact ⟨f, hf', h3, h4, by rw [← h3]; exact hs.ne_root he hf' h4⟩
  · obtain ⟨w1, w2, w3, w4, w5, w6, w7, w8⟩ := hw e he
    have := okE_few (hok e he)
    exact ⟨w1, w2, w3, w4, w5, w6, (h1 e he).1.few, by omega⟩
end Go
