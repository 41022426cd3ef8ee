/- WALK of DomBack: a tree's elements, loaded, are that tree; tree order. No condition but that the script lies in memory. -/
import Derived.Test.YtdbddnkjiehaiaaMn
import Derived.Test.YtdbddnkjiehaiaaDomUnW
import Derived.Test.YtdbddnkjiehaiaaMl
set_option linter.unusedSimpArgs false
set_option linter.unusedVariables false
namespace Go.Proofs.Ytdbddnkjiehaiaa
open Go.Maps Go.RowKit Go.Sort
/-- the tree behind i steps -/
def BkSt (w wj : World) (t : Nat) (M : Dm) : Prop := ∃ L : Ly, L.t = t ∧ One w wj L M ∧ M.Good ∧ M.Fit ∧ M.Short

set_option maxRecDepth 100000 in
set_option maxHeartbeats 40000000 in
theorem domBack_any (v : Value) (l : List Opn) (w : World) (hs : SlAt w (fun _ => True) 11 OpR v l) : Calls Try.prog 7 #[v] w (Gives w (.bool true)) := by
  obtain ⟨a0, c0, rfl, _⟩ := hs.len
  obtain ⟨_, hl63, hg⟩ := ops_get hs
  have HG := Lib.hid hg
  clear hs hg
  have HN := Lib.hid (domNew_any w ⟨#[97]⟩ (by decide +kernel))
  have HX := Lib.hid awk_name
  have hmk := fun (W : World) => run_makeMap (P := Try.prog) 74 W
  go_enter Try.func7, Try.ntmps7
  go_upto_region 2 with (go_at_call 8; go_loud ((with_reducible refine (HN.out).mono ?_); rintro r w2 ⟨hg2, ⟨hbad, _⟩ | ⟨_, L1, rfl, hT1, hO1⟩⟩); (first | (exact absurd (HX.out.symm.trans hbad) (by decide)) | skip))
  have HS := Lib.hid (show BkSt w w2 L1.t (newM ⟨#[97]⟩) from ⟨L1, rfl, ⟨hg2, hT1, hO1⟩, newM_good _, fit_new (by decide +kernel), short_new _⟩)
  clear hT1 hO1 HN HX
  generalize L1.t = t1 at *
  generalize newM ⟨#[97]⟩ = M0 at *
  go_upto_block 0 with fail
  go_cut [5] (fun v5 wx => ∃ M : Dm, Hid (BkSt w wx t1 M))
  case first =>
    go_wp2_with fail
    go_loopg [5] 200 (fun gn v5 wj => ∃ (i : Nat) (M : Dm), Hid (gn + i = 200 ∧ i ≤ 200 ∧ i ≤ l.length) ∧ v5 = .int .i64 i ∧ Hid (BkSt w wj t1 M))
    case atStart => exact ⟨0, M0, Lib.hid ⟨by simp, Nat.zero_le _, Nat.zero_le _⟩, by go_num, HS⟩
    case round =>
      obtain ⟨i, M, HQ, rfl, HS1⟩ := hrel
      obtain ⟨j1, j2, j3⟩ := HQ.out
      by_cases hin : i < l.length ∧ i < 200
      · have i1 : (i : Int) < (l.length : Int) := by omega
        have i2 : (i : Int) < 200 := by omega
        rcases HG.out with h0 | ⟨g, off, rfl, el⟩
        · rw [h0] at hin; simp at hin
        have hgt := List.getElem?_eq_getElem hin.1
        obtain ⟨cs, l1, k1, rfl, hok⟩ := el i _ hgt
        generalize l[i] = x at *
        obtain ⟨Lt, e1, h2, hG, hF, hS⟩ := HS1.out
        have kr := k1.grows h2.gr
        have zr := lt_sz kr.lt
        obtain ⟨u1, u2⟩ := kr
        rw [l1] at u1 u2
        have hst := step_any wr Lt M h2.t hG x hok
        rw [e1] at hst
        have HST := Lib.hid hst
        have H2 := Lib.hid h2; have HGD := Lib.hid hG; have HFD := Lib.hid hF; have HSD := Lib.hid hS
        clear hst el HG hgt h2 hG hF hS HS1 HS k1
        go_wp2_with (go_at_call 10; go_loud ((with_reducible refine HST.out.mono ?_); rintro r w5 ⟨rfl, hE⟩))
        obtain ⟨Lu', f2, h5⟩ := H2.out.step hE
        have HN := Lib.hid (show BkSt w w5 t1 (M.step x).2.2 from ⟨Lu', f2.trans e1, h5, HGD.out.step x, HFD.out.step x, HSD.out.step x⟩)
        clear hE h5
        go_roundg (200 - (i + 1))
        case measure => omega
        case rel => exact ⟨i + 1, (M.step x).2.2, Lib.hid ⟨by omega, by omega, by omega⟩, by go_num, HN⟩
      · by_cases hl : i < l.length
        · have i1 : (i : Int) < (l.length : Int) := by omega
          have i2 : ¬ (i : Int) < 200 := by omega
          clear hin
          go_wp2_with fail
          go_meet
          case rel => exact ⟨M, HS1⟩
        · have i1 : ¬ (i : Int) < (l.length : Int) := by omega
          clear hin
          go_wp2_with fail
          go_meet
          case rel => exact ⟨M, HS1⟩
  case rest =>
    obtain ⟨M, HS1⟩ := hcut
    obtain ⟨Lt, e1, h2, hG, hF, hS⟩ := HS1.out
    have hE := domElems_any wc Lt M h2.t
    rw [e1] at hE
    have HE := Lib.hid hE
    have HEW := Lib.hid h2.t.elWf
    have HLD := Lib.hid (fun (W : World) (v : Value) (hv : ElsAt W v M.els) => domLoad_any W v M hv hG hF hS h2.t.elWf)
    have K1 := Lib.hid (fun (W : World) (hW : wc.grows W) => (show Calls _ _ #[.pointer (some ⟨t1, 0, none⟩)] W _ from e1 ▸ domOrder_any W Lt M (h2.t.grows hW)))
    have K2 := Lib.hid (fun (W : World) (hW : wc.grows W) => (show Calls _ _ #[.pointer (some ⟨t1, 0, none⟩)] W _ from e1 ▸ domRoot_any W Lt M (h2.t.grows hW)))
    have K3 := Lib.hid (fun (W : World) (hW : wc.grows W) => (show Calls _ _ #[.pointer (some ⟨t1, 0, none⟩)] W _ from e1 ▸ domNext_any W Lt M (h2.t.grows hW)))
    have K4 := Lib.hid (fun (W : World) (hW : wc.grows W) => (show Calls _ _ #[.pointer (some ⟨t1, 0, none⟩)] W _ from e1 ▸ domLen_any W Lt M (h2.t.grows hW)))
    have K5 := Lib.hid (fun (W : World) (hW : wc.grows W) (id : Int) (hi : I64 id) => (show Calls _ _ #[.pointer (some ⟨t1, 0, none⟩), .int .i64 id] W _ from e1 ▸ domBelow_any W Lt M (h2.t.grows hW) id hi))
    have hfew := hG.wf.few
    have hrt : M.back.root = M.root := rfl
    have hnx : ¬ M.next < M.back.next := by have := hG.back.2; omega
    have HBB := Lib.hid (show M.back.below 32 M.back.root = M.below 32 M.root from M.back_below 32 M.root)
    have hbl : (M.below 32 M.root).length ≤ 256 := by rw [hG.order_len]; omega
    have HGD := Lib.hid hG; have HW := Lib.hid h2.gr
    clear hE h2 hG hF hS HS1 HS HG
    go_upto_region 9 with (go_at_call 25; go_loud ((with_reducible refine HE.out.mono ?_); rintro r w5 ⟨v5, rfl, hg5, hO5⟩; (obtain ⟨a5, c5, rfl⟩ := outs_slice hO5); (have HO5 := Lib.hid (show ElsAt w5 _ M.els from ElsAt.keep hO5.slAt fun _ _ _ => rfl)); clear hO5))
    go_upto_region 10 with (go_at_call 33; go_loud ((with_reducible refine (HLD.out w5 _ HO5.out).mono ?_); rintro r w6 ⟨L6, rfl, hg6, hT6, hO6⟩))
    have hg56 : wc.grows w6 := hg5.trans hg6
    have J1 := Lib.hid (fun (W : World) (hW : w6.grows W) => domElems_any W L6 M.back (hT6.grows hW))
    have j2 := fun (W : World) (hW : w6.grows W) => domOrder_any W L6 M.back (hT6.grows hW)
    rw [HBB.out] at j2
    have J2 := Lib.hid j2
    clear j2
    have J3 := Lib.hid (fun (W : World) (hW : w6.grows W) => domRoot_any W L6 M.back (hT6.grows hW))
    have J4 := Lib.hid (fun (W : World) (hW : w6.grows W) => domNext_any W L6 M.back (hT6.grows hW))
    have HO5' := Lib.hid (HO5.out.grows hg6)
    clear hT6 hO6 HE HLD
    generalize L6.t = t6 at *
    go_upto_region 12 with (first
      | (go_at_call 25; go_loud ((with_reducible refine (J1.out _ World.grows.refl).mono ?_); rintro r w7 ⟨v7, rfl, hg7, hO7⟩; (obtain ⟨a7, c7, rfl⟩ := outs_slice hO7); (have HO7 := Lib.hid (show ElsAt w7 _ M.els from ElsAt.keep hO7.slAt fun _ _ _ => rfl)); clear hO7))
      | (go_at_call 27; go_loud ((with_reducible refine (elems_any _ M.els HEW.out _ _ _ _ _ _ HO7.out (HO5'.out.grows hg7) (by omega)).mono ?_); rintro r w8 ⟨rfl, hg8⟩; (have hg78 := hg7.trans hg8)))
      | (go_at_call 26; ((with_reducible refine (J2.out _ hg78).mono ?_); rintro r w9 ⟨v9, rfl, hg9, hv9⟩; (obtain ⟨a9, c9, rfl⟩ := own_slice hv9); (have hg79 := hg78.trans hg9); (have hg59 := hg56.trans hg79); (have HV9 := Lib.hid (IntsAt_own hv9)); clear hv9))
      | (go_at_call 26; ((with_reducible refine (K1.out _ hg59).mono ?_); rintro r w10 ⟨v10, rfl, hg10, hv10⟩; (obtain ⟨a10, c10, rfl⟩ := own_slice hv10); (have hg710 := hg79.trans hg10); (have hg510 := hg59.trans hg10); (have HV10 := Lib.hid (IntsAt_own hv10)); clear hv10))
      | (go_at_call 21; go_loud ((with_reducible refine (ints_any _ (M.below 32 M.root) a9 a10 _ _ c9 c10 (HV9.out.grow hg10) HV10.out (by omega)).mono ?_); rintro r w11 ⟨rfl, hg11⟩; (have hg711 := hg710.trans hg11); (have hg511 := hg510.trans hg11)))
      | (go_at_call 34; ((with_reducible refine (J3.out _ hg711).mono ?_); rintro r w12 ⟨rfl, rfl⟩))
      | (go_at_call 34; ((with_reducible refine (K2.out _ hg511).mono ?_); rintro r w12 ⟨rfl, rfl⟩))
      | (go_at_call 29; ((with_reducible refine (J4.out _ hg711).mono ?_); rintro r w12 ⟨rfl, rfl⟩))
      | (go_at_call 29; ((with_reducible refine (K3.out _ hg511).mono ?_); rintro r w12 ⟨rfl, rfl⟩)))
    have HA := Lib.hid (HO5'.out.grows hg711)
    have hgA : w.grows w12 := HW.out.trans hg511
    have HMA := Lib.hid (MpI.made w12)
    have hsA : w12.heap.size < (w12.alloc (Obj.map #[] 0)).heap.size := by simp
    have hgB1 : w12.grows (w12.alloc (Obj.map #[] 0)) := (by repeat (with_reducible first | assumption | exact grA | apply grB | apply grC | apply grD | refine grE ?_ (by omega) _ | refine grF ?_ (by omega) _ _))
    clear HV9 HV10 hg7 hg8 hg78 hg9 hg79 hg59 hg10 hg710 hg510 hg711 HO7 HO5 HO5'
    go_upto_region 14 with (go_at_call 26; ((with_reducible refine (K1.out _ (hg511.trans hgB1)).mono ?_); rintro r wO ⟨vO, rfl, hgO, hvO⟩; (obtain ⟨aO, cO, rfl⟩ := own_slice hvO); (have HVO := Lib.hid hvO); clear hvO))
    have hgC : w12.grows wO := hgB1.trans hgO
    have HMO := Lib.hid (HMA.out.grows hgO)
    have hsO := hgO.below.size
    generalize (w12.alloc (Obj.map #[] 0)).heap.size = nB at *
    generalize hmbq : w12.heap.size = mb at HMO hsA ⊢
    clear HMA hgB1 hgO
    have HON := Lib.hid HGD.out.order_once
    have HOM := Lib.hid (fun x => HGD.out.order_mem (x := x))
    have HOL := Lib.hid HGD.out.order_len
    have HOR := Lib.hid (fun e (he : e ∈ M.els) => HGD.out.order he)
    have HHD := Lib.hid (fun e (he : e ∈ M.els) => HGD.out.below_head he)
    generalize M.below 32 M.root = ord at *
    go_loopg [91] ord.length (fun gn v91 wj => ∃ (i : Nat) (f : Int → Option Int) (D : DataW Value), Hid (gn + i = ord.length ∧ i ≤ ord.length) ∧ v91 = .int .i64 i ∧ w12.grows wj ∧ Hid (wO.heap.size ≤ wj.heap.size ∧ ∀ k, k < wO.heap.size → k ≠ mb → wj.row k = wO.row k) ∧ Hid (MpI wj mb i f D) ∧ Hid ((∀ (j : Nat) (x : Int), j < i → ord[j]? = some x → f x = some (j : Int)) ∧ ∀ x, x ∉ ord.take i → f x = none))
    case atStart => exact ⟨0, _, _, Lib.hid ⟨by simp, Nat.zero_le _⟩, by go_num, hgC, Lib.hid ⟨Nat.le_refl _, fun _ _ _ => rfl⟩, HMO, Lib.hid ⟨fun j x hj => by omega, fun x _ => rfl⟩⟩
    case round =>
      obtain ⟨i, f, D, HQ, rfl, hgj, HRJ, HMJ, HF⟩ := hrel
      obtain ⟨j1, j2⟩ := HQ.out
      by_cases hlt : i < ord.length
      · have iI : (i : Int) < (ord.length : Int) := by omega
        have hgt := List.getElem?_eq_getElem hlt
        obtain ⟨e, he, hei⟩ := (HOM.out _).1 (List.getElem_mem hlt)
        rw [← hei] at hgt
        have hid : I64 e.id := (HEW.out e he).1
        have hnew : f e.id = none := HF.out.2 _ fun hm => by
          obtain ⟨j, hj, hj2⟩ := List.mem_iff_getElem.1 hm
          have hji : j < i := by simp at hj; omega
          rw [List.getElem_take] at hj2
          have := (List.getElem?_inj (by omega) HON.out).1 (show ord[j]? = ord[i]? by rw [List.getElem?_eq_getElem (by omega), hgt, hj2])
          omega
        have hoj := ownsRow_row HVO.out (W := wr) fun g hg => HRJ.out.2 g (HVO.out.lt g hg).2 (by have := (HVO.out.lt g hg).1; omega)
        obtain ⟨_, _, e4, _, _, b5⟩ := IntsAt_own hoj
        injection e4 with e4 e5 e6
        clear e5
        subst e4; subst e6
        rcases b5 with h0' | ⟨g, off, rfl, _, h4⟩
        · rw [h0'] at hlt; simp at hlt
        obtain ⟨cs, _, el, rfl⟩ := h4 i _ hgt
        have c0 := el.cell (j := 0) rfl
        rw [World.cell?_row, Nat.add_zero, Nat.mul_one] at c0
        have zg := lt_sz el.lt
        have hlk := HMJ.out.look_ok e.id hid
        rw [hnew] at hlk
        simp only [Option.getD_none, Option.isSome_none] at hlk
        have hvl : i < maxLen := by simp only [maxLen]; omega
        have HOK := Lib.hid HMJ.out.own
        have HGT := Lib.hid hgt
        clear hoj h4 el hgt hei
        go_wp2_with (at_mapUpdate; go_loud (refine wpList_mapUpdate_own _ rfl (.tmp 103) (.tmp 104) (.tmp 105) 74 rfl 3 3 (int_keyed Try.underlying3) Try.underlying74 heldP mb i D rfl HOK.out hvl (.int .i64 e.id) (.int .i64 i) (.int .i64 e.id) rfl (by simp [go_sem]) (keyOf_int_mk Try.underlying3 (lit_wf hid)) _ [] rfl ?_); intro w5 hown5 hgr5)
        have rr : ∀ k, k < wr.heap.size → k ≠ mb → w5.row k = wr.row k := fun k hk hn => World.row_grow hgr5 hk (fun h => by injection h with h; exact hn h)
        have hgw5 : w12.grows w5 := World.grows.grown hgj hgr5 (fun k hk => by cases hk; omega)
        have HR5 := Lib.hid (show wO.heap.size ≤ w5.heap.size ∧ ∀ k, k < wO.heap.size → k ≠ mb → w5.row k = wO.row k from ⟨Nat.le_trans HRJ.out.1 hgr5.size, fun k hk hn => (rr k (by have := HRJ.out.1; omega) hn).trans (HRJ.out.2 k hk hn)⟩)
        have HM5 := Lib.hid (HMJ.out.put hnew hown5)
        have HF5 := Lib.hid (show (∀ (j : Nat) (x : Int), j < i + 1 → ord[j]? = some x → (if x = e.id then some (i : Int) else f x) = some (j : Int)) ∧ ∀ x, x ∉ ord.take (i + 1) → (if x = e.id then some (i : Int) else f x) = none from by
          refine ⟨fun j x hj hx => ?_, fun x hx => ?_⟩
          · by_cases hxe : x = e.id
            · subst hxe
              have := (List.getElem?_inj (by omega) HON.out).1 (hx.trans HGT.out.symm)
              rw [if_pos rfl, this]
            · rw [if_neg hxe]
              have : j ≠ i := fun hh => by subst hh; rw [HGT.out] at hx; injection hx with hx; exact hxe hx.symm
              exact HF.out.1 j x (by omega) hx
          · rw [List.take_add_one, HGT.out] at hx
            simp only [Option.toList_some, List.mem_append, List.mem_singleton, not_or] at hx
            rw [if_neg hx.2]; exact HF.out.2 x hx.1)
        clear rr hown5 hgr5 hlk c0 zg HOK HMJ HRJ HF hnew
        go_wp2_with fail
        go_roundg (ord.length - (i + 1))
        case measure => omega
        case rel => exact ⟨i + 1, _, _, Lib.hid ⟨by omega, by omega⟩, by go_num, hgw5, HR5, HM5, HF5⟩
      · have iI : ¬ (i : Int) < (ord.length : Int) := by omega
        obtain rfl : i = ord.length := by omega
        have HF1 := Lib.hid (fun (j : Nat) (x : Int) (hx : ord[j]? = some x) => HF.out.1 j x (List.getElem?_eq_some_iff.1 hx).1 hx)
        have HF2 := Lib.hid (fun (x : Int) (hx : x ∉ ord) => HF.out.2 x (by rw [List.take_length]; exact hx))
        have hmbj : mb < wr.heap.size := HMJ.out.own.lt
        clear HF HRJ HQ
        go_upto_region 22 with fail
        generalize wr = wD at *
        go_loopg [109] M.els.length (fun gn v109 wj => ∃ i : Nat, Hid (gn + i = M.els.length ∧ i ≤ M.els.length) ∧ v109 = .int .i64 i ∧ wD.grows wj)
        case atStart => exact ⟨0, Lib.hid ⟨by simp, Nat.zero_le _⟩, by go_num, World.grows.refl⟩
        case round =>
          obtain ⟨i, HQ2, rfl, hgk⟩ := hrel
          obtain ⟨m1, m2⟩ := HQ2.out
          have hgk12 := hgj.trans hgk
          by_cases hlt : i < M.els.length
          · have iI2 : (i : Int) < (M.els.length : Int) := by omega
            rcases (els_get HA.out).2 with h0 | ⟨g, off, rfl, e2⟩
            · rw [h0] at hlt; simp at hlt
            have hgt := List.getElem?_eq_getElem hlt
            have hmem := List.getElem_mem hlt
            obtain ⟨cs, l1, k1, ka, aa, kc, ac, rfl, _, _⟩ := e2 i _ hgt
            generalize M.els[i] = e at *
            have k2 := k1.grows hgk12
            have z3 := lt_sz k2.lt
            obtain ⟨u1, u2⟩ := k2
            rw [l1] at u1 u2
            have hid := (HEW.out e hmem).1
            obtain ⟨i0, p1, p2⟩ := HOR.out e hmem
            obtain ⟨tl, htl⟩ := HHD.out e hmem
            have hf0 := HF1.out (i0 + 0) e.id (p1 0 e.id (by rw [htl]; rfl))
            rw [Nat.add_zero] at hf0
            have hlk1 : ∀ o, (Instr.lookup 74 (.map (some mb)) (.int .i64 e.id) true).run Try.prog (wr.alloc o) = .ok (.tuple #[.int .i64 i0, .bool true]) (wr.alloc o) := fun o => by
              have := (HMJ.out.grows (hgk.trans (World.grows.alloc World.grows.refl o))).look_ok e.id hid
              rw [hf0] at this; exact this
            have hep := (HEW.out e hmem).2.1
            have hlow := HGD.out.wf.low e hmem
            have hi0 : i0 < ord.length := by
              have := (List.getElem?_eq_some_iff.1 (p1 0 e.id (by rw [htl]; rfl))).1
              omega
            have hbel : (M.below 32 e.id).length ≤ 256 := by
              have := Dm.below_few HGD.out.wf 32 hmem (List.prefix_refl _)
              omega
            have HP1 := Lib.hid p1
            have HB5 := Lib.hid (fun (W : World) (hW : wc.grows W) => K5.out W hW e.id hid)
            have HBID := Lib.hid (fun (k : Nat) (x : Int) (hx : (M.below 32 e.id)[k]? = some x) => show I64 x by
              have h1 := List.mem_of_getElem? (p1 k x hx)
              obtain ⟨y, hy, rfl⟩ := (HOM.out x).1 h1
              exact (HEW.out y hy).1)
            have hgkc := hg511.trans hgk12
            have hgkw := hgA.trans hgk12
            generalize M.below 32 e.id = bel at *
            clear p1 htl hf0 e2 hgt k1
            by_cases hr : e.id = M.root
            case' pos =>
              have hp : e.p = -1 := by
                obtain ⟨r, hr1, hr2, hr3⟩ := HGD.out.wf.rootE
                obtain rfl := ids_inj HGD.out.wf.up hmem hr1 (hr.trans hr2.symm)
                exact hr3
              have hfp : f e.p = none := HF2.out _ fun hm => by
                obtain ⟨y, hy, hy2⟩ := (HOM.out _).1 hm
                have := HGD.out.wf.low y hy
                omega
              have hlk2 : ∀ o, (Instr.lookup 74 (.map (some mb)) (.int .i64 e.p) true).run Try.prog (wr.alloc o) = .ok (.tuple #[.int .i64 0, .bool false]) (wr.alloc o) := fun o => by
                have := (HMJ.out.grows (hgk.trans (World.grows.alloc World.grows.refl o))).look_ok e.p hep
                rw [hfp] at this; exact this
              rw [hp] at u2
              simp only [hp] at hlk2
              clear hr hfp p2 hp
              go_upto_region 28 with fail
            case' neg =>
              obtain ⟨j0, q1, q2⟩ := p2 hr
              have hfp := HF1.out j0 e.p q2
              have hp : ¬ e.p = -1 := by
                obtain ⟨y, hy, hy2⟩ := (HOM.out _).1 (List.mem_of_getElem? q2)
                have := HGD.out.wf.low y hy
                omega
              have hpb : (e.p == -1) = false := by simp [hp]
              have hpb2 : (e.p != -1) = true := by simp [hp]
              have hlk2 : ∀ o, (Instr.lookup 74 (.map (some mb)) (.int .i64 e.p) true).run Try.prog (wr.alloc o) = .ok (.tuple #[.int .i64 j0, .bool true]) (wr.alloc o) := fun o => by
                have := (HMJ.out.grows (hgk.trans (World.grows.alloc World.grows.refl o))).look_ok e.p hep
                rw [hfp] at this; exact this
              have hji : ¬ (i0 : Int) ≤ (j0 : Int) := by omega
              clear hr hfp p2 q2
              go_upto_region 28 with fail
            all_goals
              go_upto_region 30 with (go_at_call 22; go_loud ((with_reducible refine (HB5.out _ (World.grows.alloc hgkc _)).mono ?_); rintro r wE ⟨vE, rfl, hgE, hvE⟩; (obtain ⟨aE, cE, rfl⟩ := own_slice hvE); (have HVE := Lib.hid (IntsAt_own hvE)); clear hvE))
              have hgE1 : wr.grows wE := World.grows.trans (by repeat (with_reducible first | assumption | exact grA | apply grB | apply grC | apply grD | refine grE ?_ (by omega) _ | refine grF ?_ (by omega) _ _)) hgE
              have HME := Lib.hid (HMJ.out.grows (hgk.trans hgE1))
              have hgE2 := hgk.trans hgE1
              clear hgE hlk1 hlk2 u1 u2 z3
              go_loopg [150] bel.length (fun gn v150 wj => ∃ k : Nat, Hid (gn + k = bel.length ∧ k ≤ bel.length) ∧ v150 = .int .i64 k ∧ wE.grows wj)
              case atStart => exact ⟨0, Lib.hid ⟨by simp, Nat.zero_le _⟩, by go_num, World.grows.refl⟩
              case round =>
                obtain ⟨k, HQ3, rfl, hgz⟩ := hrel
                obtain ⟨n1, n2⟩ := HQ3.out
                have hgz2 := hgE2.trans hgz
                by_cases hlt3 : k < bel.length
                · have iI3 : (k : Int) < (bel.length : Int) := by omega
                  have hgt := List.getElem?_eq_getElem hlt3
                  obtain ⟨_, _, e4, _, _, b5⟩ := HVE.out.grow hgz
                  injection e4 with e4 e5 e6
                  clear e5
                  subst e4; subst e6
                  rcases b5 with h0' | ⟨g3, off3, rfl, _, h4⟩
                  · rw [h0'] at hlt3; simp at hlt3
                  obtain ⟨cs3, _, el, rfl⟩ := h4 k _ hgt
                  generalize bel[k] = x at *
                  have c0 := el.cell (j := 0) rfl
                  rw [World.cell?_row, Nat.add_zero, Nat.mul_one] at c0
                  have zg := lt_sz el.lt
                  have hfx := HF1.out (i0 + k) x (HP1.out k x hgt)
                  have hlk := (HME.out.grows hgz).look x (HBID.out k x hgt)
                  rw [hfx] at hlk
                  simp only [Option.getD_some, Int.natCast_add] at hlk
                  clear h4 el hgt hfx
                  go_wp2_with fail
                  go_roundg (bel.length - (k + 1))
                  case measure => omega
                  case rel => exact ⟨k + 1, Lib.hid ⟨by omega, by omega⟩, by go_num, hgz⟩
                · have iI3 : ¬ (k : Int) < (bel.length : Int) := by omega
                  go_wp2_with fail
                  go_roundg (M.els.length - (i + 1))
                  case measure => omega
                  case rel => exact ⟨i + 1, Lib.hid ⟨by omega, by omega⟩, by go_num, hgz2⟩
          · have iI2 : ¬ (i : Int) < (M.els.length : Int) := by omega
            have hml := (HMJ.out.grows hgk).len
            have hol := HOL.out
            have hgkc := hg511.trans hgk12
            have hgkw := hgA.trans hgk12
            go_wp2_with (first
              | (go_at_call 35; go_loud ((with_reducible refine (K4.out _ hgkc).mono ?_); rintro r w13 ⟨rfl, rfl⟩))
              | (go_at_call 24; go_loud ((with_reducible refine (awake_any _).mono ?_); rintro r w14 ⟨rfl, hg14⟩)))
            go_ret
            exact ⟨rfl, hgkw.trans hg14⟩
end Go.Proofs.Ytdbddnkjiehaiaa
