/- WALK of DomUndone: what was put in and taken out again leaves all as it was, but the next number; a copy keeps to itself. No condition. -/
import Derived.Test.YtdbddnkjiehaiaaDomUnP
import Derived.Test.YtdbddnkjiehaiaaDomApW
import Derived.Deep.CutBlock
set_option linter.unusedSimpArgs false
set_option linter.unusedVariables false
namespace Go.Proofs.Ytdbddnkjiehaiaa
open Go.Maps Go.RowKit Go.Sort
/-- the tree behind i steps -/
def UnSt (w1 wj : World) (t : Nat) (M : Dm) : Prop := ∃ L : Ly, L.t = t ∧ One w1 wj L M ∧ M.Good
/-- the tree, and the list handed out -/
def UnSy (w1 wj w5 : World) (B t : Nat) (M : Dm) : Prop := ∃ L : Ly, L.t = t ∧ One w1 wj L M ∧ M.Good ∧ Stay B w5 wj L M
/-- the tree, its copy behind i steps, and the list handed out -/
def UnSc (w1 wj w5 : World) (B t u : Nat) (M M' : Dm) : Prop := ∃ L Lc : Ly, L.t = t ∧ Lc.t = u ∧ Two w1 wj L Lc M M' ∧ M'.Good ∧ Stay B w5 wj Lc M'

set_option maxRecDepth 100000 in
set_option maxHeartbeats 40000000 in
theorem domUndone_any (v v' : Value) (l m : List Opn) (parent place : Int) (tag : ByteArray) (w : World) (hs : SlAt w (fun _ => True) 11 OpR v l) (hs' : SlAt w (fun _ => True) 11 OpR v' m) (hp : I64 parent) (hq : I64 place) (ht : tag.size ≤ maxLen) : Calls Try.prog 6 #[v, .int .i64 parent, .int .i64 place, .string tag, v'] w (Gives w (.bool true)) := by
  obtain ⟨a0, c0, rfl, _⟩ := hs.len
  obtain ⟨_, hl63, hg⟩ := ops_get hs
  obtain ⟨a1, c1, rfl, _⟩ := hs'.len
  obtain ⟨_, hm63, hgm⟩ := ops_get hs'
  have HG := Lib.hid hg; have HGM := Lib.hid hgm
  clear hs hg hs' hgm
  have HN := Lib.hid (domNew_any w ⟨#[97]⟩ (by decide +kernel))
  have HX := Lib.hid awk_name
  go_enter Try.func6, Try.ntmps6
  go_upto_region 2 with (go_at_call 8; go_loud ((with_reducible refine (HN.out).mono ?_); rintro r w2 ⟨hg2, ⟨hbad, _⟩ | ⟨_, L1, rfl, hT1, hO1⟩⟩); (first | (exact absurd (HX.out.symm.trans hbad) (by decide)) | skip))
  have HS := Lib.hid (show UnSt w w2 L1.t (newM ⟨#[97]⟩) from ⟨L1, rfl, ⟨hg2, hT1, hO1⟩, newM_good _⟩)
  clear hT1 hO1 HN HX
  generalize L1.t = t1 at *
  generalize newM ⟨#[97]⟩ = M0 at *
  go_upto_block 0 with fail
  go_cut [13] (fun v13 wx => ∃ M : Dm, Hid (UnSt w wx t1 M))
  case first =>
    go_wp2_with fail
    go_loopg [13] 200 (fun gn v13 wj => ∃ (i : Nat) (M : Dm), Hid (gn + i = 200 ∧ i ≤ 200 ∧ i ≤ l.length) ∧ v13 = .int .i64 i ∧ Hid (UnSt w wj t1 M))
    case atStart => exact ⟨0, M0, Lib.hid ⟨by simp, Nat.zero_le _, Nat.zero_le _⟩, by go_num, HS⟩
    case round =>
      obtain ⟨i, M, HQ, rfl, HS1⟩ := hrel
      obtain ⟨j1, j2, j3⟩ := HQ.out
      by_cases hin : i < l.length ∧ i < 200
      · have i1 : (i : Int) < (l.length : Int) := by omega
        have i2 : (i : Int) < 200 := by omega
        rcases HG.out with h0 | ⟨g, off, rfl, el⟩
        · rw [h0] at hin; simp at hin
        have hgt := List.getElem?_eq_getElem hin.1
        obtain ⟨cs, l1, k1, rfl, hok⟩ := el i _ hgt
        generalize l[i] = x at *
        obtain ⟨Lt, e1, h2, hG⟩ := HS1.out
        have kr := k1.grows h2.gr
        have zr := lt_sz kr.lt
        obtain ⟨u1, u2⟩ := kr
        rw [l1] at u1 u2
        have hst := step_any wr Lt M h2.t hG x hok
        rw [e1] at hst
        have HST := Lib.hid hst
        have H2 := Lib.hid h2; have HGD := Lib.hid hG
        clear hst el HG HGM hgt h2 hG HS1 HS k1
        go_wp2_with (go_at_call 10; go_loud ((with_reducible refine HST.out.mono ?_); rintro r w5 ⟨rfl, hE⟩))
        obtain ⟨Lu', f2, h5⟩ := H2.out.step hE
        have HN := Lib.hid (show UnSt w w5 t1 (M.step x).2.2 from ⟨Lu', f2.trans e1, h5, HGD.out.step x⟩)
        clear hE h5
        go_roundg (200 - (i + 1))
        case measure => omega
        case rel => exact ⟨i + 1, (M.step x).2.2, Lib.hid ⟨by omega, by omega, by omega⟩, by go_num, HN⟩
      · by_cases hl : i < l.length
        · have i1 : (i : Int) < (l.length : Int) := by omega
          have i2 : ¬ (i : Int) < 200 := by omega
          clear hin
          go_wp2_with fail
          go_meet
          case rel => exact ⟨M, HS1⟩
        · have i1 : ¬ (i : Int) < (l.length : Int) := by omega
          clear hin
          go_wp2_with fail
          go_meet
          case rel => exact ⟨M, HS1⟩
  case rest =>
    obtain ⟨M, HS1⟩ := hcut
    obtain ⟨Lt, e1, h2, hG⟩ := HS1.out
    have hE := domElems_any wc Lt M h2.t
    rw [e1] at hE
    have HE := Lib.hid hE; have H2 := Lib.hid h2; have HGD := Lib.hid hG
    have hNx := Lib.hid (fun (W : World) (hW : wc.grows W) => (show Calls _ _ #[.pointer (some ⟨t1, 0, none⟩)] W _ from e1 ▸ domNext_any W Lt M (h2.t.grows hW)))
    clear hE h2 hG HS1 HS HG
    have hgw := H2.out.gr
    go_upto_region 9 with (first
      | (go_at_call 29; (with_reducible refine (hNx.out _ hg5).mono ?_); rintro r w6 ⟨rfl, rfl⟩)
      | (go_at_call 25; (with_reducible refine HE.out.mono ?_); rintro r w5 ⟨v5, rfl, hg5, hO5⟩; obtain ⟨a5, c5, rfl⟩ := outs_slice hO5; (have HO5 := Lib.hid hO5); clear hO5))
    have h6 := H2.out.grows hg5
    have HST6 := Lib.hid (stay_of H2.out hg5)
    have hin := domIns_any w6 Lt M h6.t HGD.out.par parent place tag hp hq ht
    rw [e1] at hin
    have HIN := Lib.hid hin
    have H6 := Lib.hid h6
    have hnx := HGD.out.wf.nxt
    have hn0 : 0 ≤ M.next := by
      obtain ⟨r, hr, _⟩ := HGD.out.wf.rootE
      have := HGD.out.wf.low r hr; omega
    clear hin h6 HE hNx
    go_upto_region 10 with (go_at_call 30; go_loud ((with_reducible refine HIN.out.mono ?_); rintro r w7 ⟨rfl, hE⟩))
    obtain ⟨L7, f7, h7, s7⟩ := H6.out.stay HST6.out hE
    have hcs := ins_cases M parent place tag
    have hGi := HGD.out.ins parent place tag
    generalize hIe : M.ins parent place tag = I at *
    obtain ⟨ri, ci, Mi⟩ := I
    simp only at *
    have HCS := Lib.hid hcs
    have H7 := Lib.hid h7; have S7 := Lib.hid s7; have HGI := Lib.hid hGi
    clear hE h7 s7 hGi hcs HIN H6 HST6 hIe
    have hBw : w.heap.size ≤ wc.heap.size := hgw.below.size
    clear H2 hg5
    generalize wc.heap.size = B at *
    go_upto_if 55 with fail
    go_cut [16] (fun v16 wx => ∃ M2 : Dm, Hid (UnSy w wx w6 B t1 M2 ∧ M2.els = M.els))
    case first =>
      rcases HCS.out with ⟨c', hc', hi'⟩ | ⟨e, he, n, hep, b1, b2, b3, hi'⟩
      · simp only [Prod.mk.injEq] at hi'
        obtain ⟨rfl, rfl, rfl⟩ := hi'
        have hcb : ¬ ci = 0 := hc'
        have HNx := Lib.hid (show Calls _ _ #[.pointer (some ⟨t1, 0, none⟩)] w7 _ from e1 ▸ f7 ▸ domNext_any w7 L7 Mi H7.out.t)
        go_wp2_with (go_at_call 29; go_loud ((with_reducible refine HNx.out.mono ?_); rintro r w8 ⟨rfl, rfl⟩))
        go_meet
        case rel => exact ⟨Mi, Lib.hid ⟨⟨L7, f7.trans e1, H7.out, HGI.out, S7.out⟩, rfl⟩⟩
      · simp only [Prod.mk.injEq] at hi'
        obtain ⟨rfl, rfl, rfl⟩ := hi'
        have hrm := domRem_any w7 L7 _ H7.out.t HGI.out.par M.next ⟨by omega, by omega⟩
        rw [f7, e1, undo HGD.out he] at hrm
        have HRM := Lib.hid hrm
        have hGn := good_next HGD.out b2
        clear hrm
        go_wp2_with (first
          | (go_at_call 29; go_loud ((with_reducible refine HNx.out.mono ?_); rintro r w9 ⟨rfl, rfl⟩))
          | (go_at_call 31; go_loud ((with_reducible refine HRM.out.mono ?_); rintro r w8 ⟨rfl, hE8⟩); obtain ⟨L8, f8, h8, s8⟩ := H7.out.stay S7.out hE8; (have HNx := Lib.hid (show Calls _ _ #[.pointer (some ⟨t1, 0, none⟩)] w8 _ from e1 ▸ f7 ▸ f8 ▸ domNext_any w8 L8 _ h8.t))))
        go_meet
        case rel => exact ⟨_, Lib.hid ⟨⟨L8, f8.trans (f7.trans e1), h8, hGn, s8⟩, rfl⟩⟩
    case rest =>
      obtain ⟨M2, HS2⟩ := hcut
      obtain ⟨⟨L2, e2, h2, hG2, s2⟩, hels⟩ := HS2.out
      clear HCS H7 S7 HGI HGD HS2
      have HEt := Lib.hid (fun (W : World) (hW : wc.grows W) => (show Calls _ _ #[.pointer (some ⟨t1, 0, none⟩)] W _ from e2 ▸ domElems_any W L2 M2 (h2.t.grows hW)))
      have HNt := Lib.hid (fun (W : World) (hW : wc.grows W) => (show Calls _ _ #[.pointer (some ⟨t1, 0, none⟩)] W _ from e2 ▸ domNext_any W L2 M2 (h2.t.grows hW)))
      have HCt := Lib.hid (fun (W : World) (hW : wc.grows W) => (show Calls _ _ #[.pointer (some ⟨t1, 0, none⟩)] W _ from e2 ▸ domCopy_any W L2 M2 (h2.t.grows hW)))
      have hw5 := s2.els HO5.out
      rw [← hels] at hw5
      have HW5 := Lib.hid hw5
      have hO5 := HO5.out
      rw [← hels] at hO5
      have HO5q := Lib.hid hO5
      clear hO5 HO5
      have HEW := Lib.hid (fun e he => h2.t.elWf e he)
      have hfew : M2.els.length ≤ 256 := hG2.wf.few
      have hnl : M.els.length = M2.els.length := by rw [hels]
      rw [hnl] at *
      have H2 := Lib.hid h2; have HG2 := Lib.hid hG2; have S2 := Lib.hid s2
      clear h2 hG2 s2 hw5 hels hnl
      go_upto_region 17 with (first
        | (go_at_call 27; (with_reducible refine (elems_any w8 _ HEW.out _ _ _ _ _ _ (ElsAt.keep HO8.out.slAt fun _ _ _ => rfl) (HW5.out.grows hb8) (by omega)).mono ?_); rintro r w9 ⟨rfl, x9, rfl⟩)
        | (go_at_call 25; (with_reducible refine (HEt.out _ World.grows.refl).mono ?_); rintro r w8 ⟨v8, rfl, hb8, hO8⟩; obtain ⟨a8, c8, rfl⟩ := outs_slice hO8; (have HO8 := Lib.hid hO8); clear hO8))
      have hb9 : wc.grows (w8.plus x9) := World.grows.plus hb8 _
      generalize w8.plus x9 = w9 at *
      clear HO8
      go_upto_region 18 with (go_at_call 32; go_loud ((with_reducible refine (HCt.out _ hb9).mono ?_); rintro r w10 ⟨Lc, rfl, hg10, hTc, hOc⟩))
      obtain ⟨h10, s10⟩ := two_copy (H2.out.grows hb9) (S2.out.grows hb9) hg10 hTc hOc
      have hb10 := hb9.trans hg10
      have HEc := Lib.hid (fun (W : World) (hW : w10.grows W) => domElems_any W Lc M2 (hTc.grows hW))
      have HNc := Lib.hid (fun (W : World) (hW : w10.grows W) => domNext_any W Lc M2 (hTc.grows hW))
      have H10 := Lib.hid h10; have S10 := Lib.hid s10
      have HNt2 := Lib.hid (fun (W : World) (hW : w10.grows W) => HNt.out W (hb10.trans hW))
      have HW10 := Lib.hid (HW5.out.grows hb10)
      clear h10 s10 hTc hOc HNt
      generalize hLc : Lc.t = tc at *
      have HS10 := Lib.hid (show UnSc w w10 w6 B t1 tc M2 M2 from ⟨L2, Lc, e2, hLc, H10.out, HG2.out, S10.out⟩)
      clear hLc
      go_upto_region 20 with (first
        | (go_at_call 27; (with_reducible refine (elems_any w11 _ HEW.out _ _ _ _ _ _ (ElsAt.keep HO11.out.slAt fun _ _ _ => rfl) (HW10.out.grows hb11) (by omega)).mono ?_); rintro r w12 ⟨rfl, x12, rfl⟩)
        | (go_at_call 25; (with_reducible refine (HEc.out _ World.grows.refl).mono ?_); rintro r w11 ⟨v11, rfl, hb11, hO11⟩; obtain ⟨a11, c11, rfl⟩ := outs_slice hO11; (have HO11 := Lib.hid hO11); clear hO11)
        | (go_at_call 29; (with_reducible refine (HNc.out _ (World.grows.plus hb11 _)).mono ?_); rintro r w13 ⟨rfl, rfl⟩)
        | (go_at_call 29; (with_reducible refine (HNt2.out _ (World.grows.plus hb11 _)).mono ?_); rintro r w13 ⟨rfl, rfl⟩))
      have hb14 : w10.grows (w11.plus x12) := World.grows.plus hb11 _
      have HS14 := Lib.hid (show UnSc w (w11.plus x12) w6 B t1 tc M2 M2 from (by obtain ⟨L, Lc, f1, f2, f3, f4, f5⟩ := HS10.out; exact ⟨L, Lc, f1, f2, f3.grows hb14, f4, f5.grows hb14⟩))
      generalize w11.plus x12 = w14 at *
      clear HO11 HEc HNc HNt2 HEt HCt HW10 H10 S10 HS10 H2 S2 HW5
      go_upto_block 2 with fail
      go_cut [19] (fun v19 wx => ∃ M' : Dm, Hid (UnSc w wx w6 B t1 tc M2 M'))
      case first =>
        go_wp2_with fail
        go_loopg [19] 50 (fun gn v19 wj => ∃ (i : Nat) (M' : Dm), Hid (gn + i = 50 ∧ i ≤ 50 ∧ i ≤ m.length) ∧ v19 = .int .i64 i ∧ Hid (UnSc w wj w6 B t1 tc M2 M'))
        case atStart => exact ⟨0, M2, Lib.hid ⟨by simp, Nat.zero_le _, Nat.zero_le _⟩, by go_num, HS14⟩
        case round =>
          obtain ⟨i, M', HQ, rfl, HS1⟩ := hrel
          obtain ⟨j1, j2, j3⟩ := HQ.out
          by_cases hin : i < m.length ∧ i < 50
          · have i1 : (i : Int) < (m.length : Int) := by omega
            have i2 : (i : Int) < 50 := by omega
            rcases HGM.out with h0 | ⟨g, off, rfl, el⟩
            · rw [h0] at hin; simp at hin
            have hgt := List.getElem?_eq_getElem hin.1
            obtain ⟨cs, l1, k1, rfl, hok⟩ := el i _ hgt
            generalize m[i] = x at *
            obtain ⟨Lt, Lx, q1, q2, h2, hG, hS⟩ := HS1.out
            have kr := k1.grows h2.gr
            have zr := lt_sz kr.lt
            obtain ⟨u1, u2⟩ := kr
            rw [l1] at u1 u2
            have hst := step_any wr Lx M' h2.u hG x hok
            rw [q2] at hst
            have HST := Lib.hid hst
            have H2 := Lib.hid h2; have HGD := Lib.hid hG; have HSY := Lib.hid hS
            clear hst el HGM hgt h2 hG hS HS1 k1 HS14
            go_wp2_with (go_at_call 10; go_loud ((with_reducible refine HST.out.mono ?_); rintro r w15 ⟨rfl, hE⟩))
            obtain ⟨Lu', f2, h5, h6⟩ := H2.out.stay HSY.out hE
            have HN := Lib.hid (show UnSc w w15 w6 B t1 tc M2 (M'.step x).2.2 from ⟨Lt, Lu', q1, f2.trans q2, h5, HGD.out.step x, h6⟩)
            clear hE h5 h6
            go_roundg (50 - (i + 1))
            case measure => omega
            case rel => exact ⟨i + 1, (M'.step x).2.2, Lib.hid ⟨by omega, by omega, by omega⟩, by go_num, HN⟩
          · by_cases hl : i < m.length
            · have i1 : (i : Int) < (m.length : Int) := by omega
              have i2 : ¬ (i : Int) < 50 := by omega
              clear hin
              go_wp2_with fail
              go_meet
              case rel => exact ⟨M', HS1⟩
            · have i1 : ¬ (i : Int) < (m.length : Int) := by omega
              clear hin
              go_wp2_with fail
              go_meet
              case rel => exact ⟨M', HS1⟩
      case rest =>
        obtain ⟨M', HS1⟩ := hcut
        obtain ⟨Lt, Lx, q1, q2, h2, hG, hS⟩ := HS1.out
        have hE := domElems_any wc Lt M2 h2.t
        rw [q1] at hE
        have HE := Lib.hid hE
        have HWz := Lib.hid (hS.els HO5q.out)
        have hgz := h2.gr
        clear hE h2 hG hS HS1 HS14
        go_wp2_with (first
          | (go_at_call 24; (with_reducible refine (awake_any _).mono ?_); rintro r wa ⟨rfl, xa, rfl⟩)
          | (go_at_call 27; (with_reducible refine (elems_any w18 _ HEW.out _ _ _ _ _ _ (ElsAt.keep HO18.out.slAt fun _ _ _ => rfl) (HWz.out.grows hb18) (by omega)).mono ?_); rintro r w19 ⟨rfl, x19, rfl⟩)
          | (go_at_call 25; (with_reducible refine HE.out.mono ?_); rintro r w18 ⟨v18, rfl, hb18, hO18⟩; obtain ⟨a18, c18, rfl⟩ := outs_slice hO18; (have HO18 := Lib.hid hO18); (have hgz18 := hgz.trans hb18); clear hO18))
        go_ret
        exact ⟨rfl, (by repeat (with_reducible first | assumption | exact grA | apply grB | apply grC | apply grD | refine grE ?_ (by omega) _ | refine grF ?_ (by omega) _ _))⟩
end Go.Proofs.Ytdbddnkjiehaiaa
