/- WALK of DomApart: edits of unlike elements' attributes and boxes may change places, and what is handed out is the caller's own. No condition. -/
import Derived.Test.YtdbddnkjiehaiaaDomSp
import Derived.Test.YtdbddnkjiehaiaaMk
import Derived.Test.YtdbddnkjiehaiaaArgsD
import Derived.Deep.CutBlock
set_option linter.unusedSimpArgs false
set_option linter.unusedVariables false
namespace Go.Proofs.Ytdbddnkjiehaiaa
open Go.Maps Go.RowKit Go.Sort
theorem ops_get {w : World} {a : Option Addr} {n c : Nat} {l : List Opn} (h : SlAt w (fun _ => True) 11 OpR (.slice a n c) l) : n = l.length ∧ l.length ≤ 9223372036854775807 ∧ (l = [] ∨ ∃ g off, a = some ⟨g, off, none⟩ ∧ ∀ (i : Nat) (x : Opn), l[i]? = some x → ∃ cs, cs.length = 11 ∧ eltAt w g (off + i * 11) cs ∧ OpR x cs) := by
  obtain ⟨_, _, e4, h5, h6, b5⟩ := h
  injection e4 with e4 e5 e6
  subst e4; subst e6; subst e5
  exact ⟨rfl, Nat.le_trans h5 h6, b5.imp id fun ⟨g, off, h1, _, h2⟩ => ⟨g, off, h1, h2⟩⟩
theorem good_ne {M : Dm} (h : M.Good) : M.els ≠ [] := fun e => by
  obtain ⟨r, hr, _⟩ := h.wf.rootE
  rw [e] at hr; cases hr
theorem outs_slice {w : World} {B : Nat} {v : Value} {l : List El} (h : Outs w B v l) : ∃ a c, v = .slice a l.length c := by
  obtain ⟨css, h1, _, h3⟩ := h
  exact own_slice h3
/-- the two trees behind i steps -/
def ApSt (w1 wj : World) (t u : Nat) (M : Dm) : Prop := ∃ Lt Lu : Ly, Lt.t = t ∧ Lu.t = u ∧ Two w1 wj Lt Lu M M ∧ M.Good
theorem apNew {w1 w2 w3 : World} {L1 L2 : Ly} {tag : ByteArray} (h1 : w1.grows w2) (h2 : w2.grows w3) (t1 : TreeAt w2 L1 (newM tag)) (t2 : TreeAt w3 L2 (newM tag)) (o1 : ∀ k, L1.own (newM tag).els k → w1.heap.size ≤ k) (o2 : ∀ k, L2.own (newM tag).els k → w2.heap.size ≤ k) : ApSt w1 w3 L1.t L2.t (newM tag) := by
  have := h1.below.size
  exact ⟨L1, L2, rfl, rfl, ⟨h1.trans h2, t1.grows h2, t2, o1, fun k hk => by have := o2 k hk; omega, fun k hk hu => by have := t1.lt hk; have := o2 k hu; omega⟩, newM_good tag⟩

set_option maxRecDepth 100000 in
set_option maxHeartbeats 40000000 in
theorem domApart_any (v : Value) (l : List Opn) (a b : Opn) (w : World) (hs : SlAt w (fun _ => True) 11 OpR v l) (ha : a.Ok) (hb : b.Ok) : Calls Try.prog 4 #[v, .agg (opC a).toArray, .agg (opC b).toArray] w (Gives w (.bool true)) := by
  obtain ⟨a0, c0, rfl, _⟩ := hs.len
  obtain ⟨_, hl63, hg⟩ := ops_get hs
  have HG := Lib.hid hg; have HA := Lib.hid ha; have HB := Lib.hid hb
  clear hs hg ha hb
  have HN := Lib.hid (fun W => domNew_any W ⟨#[97]⟩ (by decide +kernel))
  have HX := Lib.hid awk_name
  obtain ⟨ka, ia, pa, na, va, ⟨ta, sa, a1, a2, a3, a4⟩⟩ := a
  obtain ⟨kb, ib, pb, nb, vb, ⟨tb, sb, b1, b2, b3, b4⟩⟩ := b
  show Calls _ _ #[_, .agg #[.int .i64 ka, .int .i64 ia, .int .i64 pa, .string na, .string va, .int .i64 ta, .string sa, .int .i64 a1, .int .i64 a2, .int .i64 a3, .int .i64 a4], .agg #[.int .i64 kb, .int .i64 ib, .int .i64 pb, .string nb, .string vb, .int .i64 tb, .string sb, .int .i64 b1, .int .i64 b2, .int .i64 b3, .int .i64 b4]] _ _
  go_enter Try.func4, Try.ntmps4
  go_upto_region 1 with fail
  have hg1 : w.grows ((w.alloc (.cells #[.int .i64 ka, .int .i64 ia, .int .i64 pa, .string na, .string va, .int .i64 ta, .string sa, .int .i64 a1, .int .i64 a2, .int .i64 a3, .int .i64 a4] 37)).alloc (.cells #[.int .i64 kb, .int .i64 ib, .int .i64 pb, .string nb, .string vb, .int .i64 tb, .string sb, .int .i64 b1, .int .i64 b2, .int .i64 b3, .int .i64 b4] 37)) := (by repeat (with_reducible first | assumption | exact grA | apply grB | apply grC | apply grD | refine grE ?_ (by omega) _ | refine grF ?_ (by omega) _ _))
  have rA : ((w.alloc (.cells #[.int .i64 ka, .int .i64 ia, .int .i64 pa, .string na, .string va, .int .i64 ta, .string sa, .int .i64 a1, .int .i64 a2, .int .i64 a3, .int .i64 a4] 37)).alloc (.cells #[.int .i64 kb, .int .i64 ib, .int .i64 pb, .string nb, .string vb, .int .i64 tb, .string sb, .int .i64 b1, .int .i64 b2, .int .i64 b3, .int .i64 b4] 37)).row w.heap.size = some (.cells #[.int .i64 ka, .int .i64 ia, .int .i64 pa, .string na, .string va, .int .i64 ta, .string sa, .int .i64 a1, .int .i64 a2, .int .i64 a3, .int .i64 a4] 37) := by simp [go_sem]
  have rB : ((w.alloc (.cells #[.int .i64 ka, .int .i64 ia, .int .i64 pa, .string na, .string va, .int .i64 ta, .string sa, .int .i64 a1, .int .i64 a2, .int .i64 a3, .int .i64 a4] 37)).alloc (.cells #[.int .i64 kb, .int .i64 ib, .int .i64 pb, .string nb, .string vb, .int .i64 tb, .string sb, .int .i64 b1, .int .i64 b2, .int .i64 b3, .int .i64 b4] 37)).row (w.heap.size + 1) = some (.cells #[.int .i64 kb, .int .i64 ib, .int .i64 pb, .string nb, .string vb, .int .i64 tb, .string sb, .int .i64 b1, .int .i64 b2, .int .i64 b3, .int .i64 b4] 37) := by simp [go_sem]
  generalize ((w.alloc (.cells #[.int .i64 ka, .int .i64 ia, .int .i64 pa, .string na, .string va, .int .i64 ta, .string sa, .int .i64 a1, .int .i64 a2, .int .i64 a3, .int .i64 a4] 37)).alloc (.cells #[.int .i64 kb, .int .i64 ib, .int .i64 pb, .string nb, .string vb, .int .i64 tb, .string sb, .int .i64 b1, .int .i64 b2, .int .i64 b3, .int .i64 b4] 37)) = w1 at *
  have RA := Lib.hid rA; have RB := Lib.hid rB
  clear rA rB
  go_upto_region 2 with (go_at_call 8; go_loud ((with_reducible refine (HN.out _).mono ?_); rintro r w2 ⟨hg2, ⟨hbad, _⟩ | ⟨_, L1, rfl, hT1, hO1⟩⟩); (first | (exact absurd (HX.out.symm.trans hbad) (by decide)) | skip))
  go_upto_region 3 with (go_at_call 8; go_loud ((with_reducible refine (HN.out _).mono ?_); rintro r w3 ⟨hg3, ⟨hbad, _⟩ | ⟨_, L2, rfl, hT2, hO2⟩⟩); (first | (exact absurd (HX.out.symm.trans hbad) (by decide)) | skip))
  have HS := Lib.hid (apNew hg2 hg3 hT1 hT2 hO1 hO2)
  clear hT1 hT2 hO1 hO2 HN HX
  generalize L1.t = t1 at *
  generalize L2.t = t2 at *
  generalize newM ⟨#[97]⟩ = M0 at *
  go_upto_block 0 with fail
  go_cut [11] (fun v11 wx => ∃ M : Dm, Hid (ApSt w1 wx t1 t2 M))
  case first =>
    go_wp2_with fail
    go_loopg [11] 200 (fun gn v11 wj => ∃ (i : Nat) (M : Dm), Hid (gn + i = 200 ∧ i ≤ 200 ∧ i ≤ l.length) ∧ v11 = .int .i64 i ∧ Hid (ApSt w1 wj t1 t2 M))
    case atStart => exact ⟨0, M0, Lib.hid ⟨by simp, Nat.zero_le _, Nat.zero_le _⟩, by go_num, HS⟩
    case round =>
      obtain ⟨i, M, HQ, rfl, HS1⟩ := hrel
      obtain ⟨j1, j2, j3⟩ := HQ.out
      by_cases hin : i < l.length ∧ i < 200
      · have i1 : (i : Int) < (l.length : Int) := by omega
        have i2 : (i : Int) < 200 := by omega
        rcases HG.out with h0 | ⟨g, off, rfl, el⟩
        · rw [h0] at hin; simp at hin
        have hgt := List.getElem?_eq_getElem hin.1
        obtain ⟨cs, l1, k1, rfl, hok⟩ := el i _ hgt
        generalize l[i] = x at *
        obtain ⟨Lt, Lu, e1, e2, h2, hG⟩ := HS1.out
        have kr := k1.grows (hg1.trans h2.gr)
        have zr := lt_sz kr.lt
        obtain ⟨u1, u2⟩ := kr
        rw [l1] at u1 u2
        have hst := step_any wr Lt M h2.t hG x hok
        rw [e1] at hst
        have HST := Lib.hid hst
        have H2 := Lib.hid h2; have HGD := Lib.hid hG
        clear hst el HG hgt h2 hG HS1 HS HA HB RA RB
        go_upto_region 9 with (go_at_call 10; go_loud ((with_reducible refine HST.out.mono ?_); rintro r w4 ⟨rfl, hE⟩))
        obtain ⟨Lt', f1, h4⟩ := H2.out.stepT hE
        have kr4 := k1.grows (hg1.trans h4.gr)
        have zr4 := lt_sz kr4.lt
        obtain ⟨u3, u4⟩ := kr4
        rw [l1] at u3 u4
        have hst := step_any w4 Lu M h4.u HGD.out x hok
        rw [e2] at hst
        have HST4 := Lib.hid hst
        have H4 := Lib.hid h4
        clear hst h4 u1 u2 zr HST hE k1
        go_wp2_with (go_at_call 10; go_loud ((with_reducible refine HST4.out.mono ?_); rintro r w5 ⟨rfl, hE⟩))
        obtain ⟨Lu', f2, h5⟩ := H4.out.stepU hE
        have HN := Lib.hid (show ApSt w1 w5 t1 t2 (M.step x).2.2 from ⟨Lt', Lu', f1.trans e1, f2.trans e2, h5, HGD.out.step x⟩)
        clear hE h5
        go_roundg (200 - (i + 1))
        case measure => omega
        case rel => exact ⟨i + 1, (M.step x).2.2, Lib.hid ⟨by omega, by omega, by omega⟩, by go_num, HN⟩
      · by_cases hl : i < l.length
        · have i1 : (i : Int) < (l.length : Int) := by omega
          have i2 : ¬ (i : Int) < 200 := by omega
          clear hin
          go_wp2_with fail
          go_meet
          case rel => exact ⟨M, HS1⟩
        · have i1 : ¬ (i : Int) < (l.length : Int) := by omega
          clear hin
          go_wp2_with fail
          go_meet
          case rel => exact ⟨M, HS1⟩
  case rest =>
    obtain ⟨M, HS1⟩ := hcut
    obtain ⟨Lt, Lu, e1, e2, h2, hG⟩ := HS1.out
    have hE := domElems_any wc Lt M h2.t
    rw [e1] at hE
    have HE := Lib.hid hE; have H2 := Lib.hid h2; have HGD := Lib.hid hG
    clear hE h2 hG HS1 HS HG
    go_upto_region 12 with (go_at_call 25; go_loud ((with_reducible refine HE.out.mono ?_); rintro r w5 ⟨v5, rfl, hg5, hO5⟩); obtain ⟨a5, c5, rfl⟩ := outs_slice hO5)
    obtain ⟨g5, rfl, hsp⟩ : ∃ g, a5 = some ⟨g, 0, none⟩ ∧ SpI wc.heap.size g M.els w5 w5 0 := by
      rcases (SpI.of hO5).2 with h | h
      · exact absurd h (good_ne HGD.out)
      · exact h
    have HSP := Lib.hid hsp
    have hfew : M.els.length ≤ 256 := HGD.out.wf.few
    have HEW := Lib.hid (fun e he => H2.out.t.elWf e he)
    clear hO5 hsp HE
    go_loopg [66] M.els.length (fun gn v66 wj => ∃ i : Nat, Hid (gn + i = M.els.length ∧ i ≤ M.els.length) ∧ v66 = .int .i64 i ∧ Hid (SpI wc.heap.size g5 M.els w5 wj i))
    case atStart => exact ⟨0, Lib.hid ⟨by simp, Nat.zero_le _⟩, by go_num, HSP⟩
    case round =>
      obtain ⟨i, HQ, rfl, HI⟩ := hrel
      obtain ⟨j1, j2⟩ := HQ.out
      by_cases hlt : i < M.els.length
      · have i1 : (i : Int) < (M.els.length : Int) := by omega
        have hgt := List.getElem?_eq_getElem hlt
        have hew := HEW.out _ (List.getElem_mem hlt)
        obtain ⟨kx, ax, kc, ac, el, hk, hat⟩ := HI.out.el i _ (Nat.le_refl _) hgt
        have hkl := hew.2.2.2.2.2.2.2
        have hal := hew.2.2.2.2.2.2.1
        generalize M.els[i] = x at *
        have c3 := el.cell (j := 3) rfl
        have c4 := el.cell (j := 4) rfl
        rw [World.cell?_row] at c3 c4
        have zg := lt_sz el.lt
        have hlow := HI.out.low
        have HK := Lib.hid hk; have HAT := Lib.hid hat; have HC4 := Lib.hid c4
        obtain ⟨sg, hsg, hsg2⟩ := HI.out.row
        have HSG := Lib.hid hsg
        clear hk hat el hgt hew hsg
        go_upto_region 15 with fail
        generalize wr = wq at *
        go_loopg [75] x.ks.length (fun gn v75 wj => ∃ k : Nat, Hid (gn + k = x.ks.length ∧ k ≤ x.ks.length) ∧ v75 = .int .i64 k ∧ Hid (Spn wc.heap.size g5 wq wj))
        case atStart => exact ⟨0, Lib.hid ⟨by simp, Nat.zero_le _⟩, by go_num, Lib.hid (Spn.refl _ _ _)⟩
        case round =>
          obtain ⟨k, HQ', rfl, HP⟩ := hrel
          obtain ⟨k1, k2⟩ := HQ'.out
          have hrw := HP.out.row
          have c3r : cellR (i * 11 + 3) (wr.row g5) = some (.slice kx x.ks.length kc) := by rw [hrw]; exact c3
          have c4r : cellR (i * 11 + 4) (wr.row g5) = some (.slice ax x.at'.length ac) := by rw [hrw]; exact HC4.out
          have zg2 := lt_sz (show g5 < wr.heap.size by have := HP.out.abv.size; omega)
          clear hrw
          by_cases hkl2 : k < x.ks.length
          · have i2 : (k : Int) < (x.ks.length : Int) := by omega
            rcases HK.out with h0 | ⟨b5, s5, rfl, hb, hbn, hsh, hms⟩
            · omega
            obtain ⟨u, hu, hf⟩ := (HP.out.kp b5 s5 hsh).at (i := k) (by omega)
            have zb := lt_sz (show b5 < wr.heap.size by obtain ⟨_, _, h, _⟩ := HP.out.kp b5 s5 hsh; exact (row_sz' h).1)
            have HN := Lib.hid (HP.out.cell hb hbn k (.int .i64 (-7)))
            clear HP hsh HAT HK
            go_wp2_with fail
            go_roundg (x.ks.length - (k + 1))
            case measure => omega
            case rel => exact ⟨k + 1, Lib.hid ⟨by omega, by omega⟩, by go_num, HN⟩
          · have i2 : ¬ (k : Int) < (x.ks.length : Int) := by omega
            go_upto_region 20 with fail
            clear HQ' k1 k2 i2 hkl2 c3r c4r zg2 c3 zg
            go_loopg [92] x.at'.length (fun gn v92 wj => ∃ k : Nat, Hid (gn + k = x.at'.length ∧ k ≤ x.at'.length) ∧ v92 = .int .i64 k ∧ Hid (Spn wc.heap.size g5 wq wj))
            case atStart => exact ⟨0, Lib.hid ⟨by simp, Nat.zero_le _⟩, by go_num, HP⟩
            case round =>
              obtain ⟨k', HQ', rfl, HP⟩ := hrel
              obtain ⟨k1, k2⟩ := HQ'.out
              have hrw := HP.out.row
              have c4r : cellR (i * 11 + 4) (wr.row g5) = some (.slice ax x.at'.length ac) := by rw [hrw]; exact HC4.out
              have zg2 := lt_sz (show g5 < wr.heap.size by obtain ⟨_, _, h, _⟩ := HP.out.kp g5 sg HSG.out; exact (row_sz' h).1)
              clear hrw
              by_cases hkl2 : k' < x.at'.length
              · have i2 : (k' : Int) < (x.at'.length : Int) := by omega
                rcases HAT.out with h0 | ⟨b5, s5, rfl, hb, hbn, hsh, hms⟩
                · omega
                have hok := (HP.out.kp b5 s5 hsh).okW (o := k' * 2) (n := 2) (by omega)
                have hst := run_storeR_seg (P := Try.prog) wr 62 b5 (k' * 2) 2 [.string { data := #[115, 112, 111, 105, 108, 116] }, .string { data := #[] }] rfl (by kernel_rfl) (by simp [Value.oneCell']) hok
                have zb := lt_sz (show b5 < wr.heap.size by obtain ⟨_, _, h, _⟩ := HP.out.kp b5 s5 hsh; exact (row_sz' h).1)
                have HN := Lib.hid (HP.out.cells hb hbn (k' * 2) [.string { data := #[115, 112, 111, 105, 108, 116] }, .string { data := #[] }])
                clear HP hsh HAT HK hok
                go_wp2_with fail
                go_roundg (x.at'.length - (k' + 1))
                case measure => omega
                case rel => exact ⟨k' + 1, Lib.hid ⟨by omega, by omega⟩, by go_num, HN⟩
              · have i2 : ¬ (k' : Int) < (x.at'.length : Int) := by omega
                have hok := (HP.out.kp g5 sg HSG.out).okW (o := i * 11) (n := 11) (by omega)
                have hst := run_storeR_seg (P := Try.prog) wr 46 g5 (i * 11) 11 [.int .i64 0, .int .i64 0, .string { data := #[115, 112, 111, 105, 108, 116] }, .slice none 0 0, .slice none 0 0, .int .i64 0, .string { data := #[] }, .int .i64 0, .int .i64 0, .int .i64 0, .int .i64 0] rfl (by kernel_rfl) (by simp [Value.oneCell']) hok
                have HN := Lib.hid (HI.out.next HP.out [.int .i64 0, .int .i64 0, .string { data := #[115, 112, 111, 105, 108, 116] }, .slice none 0 0, .slice none 0 0, .int .i64 0, .string { data := #[] }, .int .i64 0, .int .i64 0, .int .i64 0, .int .i64 0] rfl)
                clear HP HAT HK hok HI HQ' k1 k2
                go_wp2_with fail
                go_roundg (M.els.length - (i + 1))
                case measure => omega
                case rel => exact ⟨i + 1, Lib.hid ⟨by omega, by omega⟩, by go_num, HN⟩
      · have i1 : ¬ (i : Int) < (M.els.length : Int) := by omega
        go_upto_region 26 with fail
        have h6 := H2.out.abv hg5 (Nat.le_refl _) HI.out.abv
        have hO := domOrder_any wr Lt M h6.t
        rw [e1] at hO
        have HO := Lib.hid hO
        have H6 := Lib.hid h6
        have hbl : (M.below 32 M.root).length ≤ 256 := by
          obtain ⟨r, hr, hr1, _⟩ := HGD.out.wf.rootE
          have := Dm.below_few HGD.out.wf 32 hr (List.prefix_refl _)
          rw [hr1] at this; omega
        have hB0 : 0 < wr.heap.size := by have := h6.gr.below.size; have := hg1.below.size; have := h6.t.lt (.inl rfl); omega
        generalize hBe : M.below 32 M.root = bl at *
        have HBE := Lib.hid hBe
        clear h6 hO HI HQ j1 j2 i1 hlt H2 HSP hg5 hBe
        go_upto_region 28 with (go_at_call 26; go_loud ((with_reducible refine HO.out.mono ?_); rintro r w7 ⟨v7, rfl, hg7, hv7⟩); obtain ⟨a7, c7, rfl⟩ := own_slice hv7)
        have hrm := own_shp hv7 0 (fun b hb e => by have := (hv7.lt b hb).1; omega)
        rw [Nat.mul_one] at hrm
        have HRM := Lib.hid hrm
        clear hrm hv7 HO
        generalize wr = wp at *
        go_loopg [113] bl.length (fun gn v113 wj => ∃ k : Nat, Hid (gn + k = bl.length ∧ k ≤ bl.length) ∧ v113 = .int .i64 k ∧ Hid (Abv wp.heap.size w7 wj ∧ Keeps w7 wj))
        case atStart => exact ⟨0, Lib.hid ⟨by simp, Nat.zero_le _⟩, by go_num, Lib.hid ⟨Abv.refl _ _, Keeps.refl _⟩⟩
        case round =>
          obtain ⟨k, HQ', rfl, HP⟩ := hrel
          obtain ⟨k1, k2⟩ := HQ'.out
          by_cases hkl2 : k < bl.length
          · have i2 : (k : Int) < (bl.length : Int) := by omega
            rcases HRM.out with h0 | ⟨b5, s5, rfl, hb, hbn, hsh, hms⟩
            · omega
            obtain ⟨u, hu, hf⟩ := (HP.out.2 b5 s5 hsh).at (i := k) (by omega)
            have zb := lt_sz (show b5 < wr.heap.size by obtain ⟨_, _, h, _⟩ := HP.out.2 b5 s5 hsh; exact (row_sz' h).1)
            have HN := Lib.hid (show Abv _ _ _ ∧ Keeps _ _ from ⟨HP.out.1.cell hb k (.int .i64 (-9)), HP.out.2.cell b5 k (.int .i64 (-9))⟩)
            clear HP hsh HRM
            go_wp2_with fail
            go_roundg (bl.length - (k + 1))
            case measure => omega
            case rel => exact ⟨k + 1, Lib.hid ⟨by omega, by omega⟩, by go_num, HN⟩
          · have i2 : ¬ (k : Int) < (bl.length : Int) := by omega
            have h8 := H6.out.abv hg7 (Nat.le_refl _) HP.out.1
            clear HP HQ' HRM H6
            go_upto_region 32 with fail
            clear k1 k2 i2 hkl2
            have HEt := Lib.hid (fun (W : World) (hW : wr.grows W) => (show Calls _ _ #[.pointer (some ⟨t1, 0, none⟩)] W _ from e1 ▸ domElems_any W Lt M (h8.t.grows hW)))
            have HEu := Lib.hid (fun (W : World) (hW : wr.grows W) => (show Calls _ _ #[.pointer (some ⟨t2, 0, none⟩)] W _ from e2 ▸ domElems_any W Lu M (h8.u.grows hW)))
            have HOt := Lib.hid (fun (W : World) (hW : wr.grows W) => (show Calls _ _ #[.pointer (some ⟨t1, 0, none⟩)] W _ from e1 ▸ domOrder_any W Lt M (h8.t.grows hW)))
            have HOu := Lib.hid (fun (W : World) (hW : wr.grows W) => (show Calls _ _ #[.pointer (some ⟨t2, 0, none⟩)] W _ from e2 ▸ domOrder_any W Lu M (h8.u.grows hW)))
            have H8 := Lib.hid h8
            clear h8
            go_upto_region 34 with (first
              | (go_at_call 21; (with_reducible refine (ints_any w12 (M.below 32 M.root) a11 a12 _ _ c11 c12 (HV11.out.grow hg12) HV12.out (by rw [HBE.out]; omega)).mono ?_); rintro r w13 ⟨rfl, x13, rfl⟩)
              | (go_at_call 26; (with_reducible refine (HOu.out _ hb11).mono ?_); rintro r w12 ⟨v12, rfl, hg12, hv12⟩; obtain ⟨a12, c12, rfl⟩ := own_slice hv12; (have HV12 := Lib.hid (IntsAt_own hv12)); (have hb12 := hb11.trans hg12); clear hv12)
              | (go_at_call 26; (with_reducible refine (HOt.out _ (hb9.plus _)).mono ?_); rintro r w11 ⟨v11, rfl, hg11, hv11⟩; obtain ⟨a11, c11, rfl⟩ := own_slice hv11; (have HV11 := Lib.hid (IntsAt_own hv11)); (have hb11 := (World.grows.plus hb9 _).trans hg11); clear hv11)
              | (go_at_call 27; (with_reducible refine (elems_any w9 _ HEW.out _ _ _ _ _ _ (ElsAt.keep HO8.out.slAt fun g _ hl => hg9.row_eq hl) (ElsAt.keep HO9.out.slAt fun _ _ _ => rfl) (by omega)).mono ?_); rintro r w10 ⟨rfl, x10, rfl⟩)
              | (go_at_call 25; (with_reducible refine (HEu.out _ hb8).mono ?_); rintro r w9 ⟨v9, rfl, hg9, hO9⟩; obtain ⟨a9, c9, rfl⟩ := outs_slice hO9; (have HO9 := Lib.hid hO9); (have hb9 := hb8.trans hg9); clear hO9)
              | (go_at_call 25; (with_reducible refine (HEt.out _ World.grows.refl).mono ?_); rintro r w8 ⟨v8, rfl, hb8, hO8⟩; obtain ⟨a8, c8, rfl⟩ := outs_slice hO8; (have HO8 := Lib.hid hO8); clear hO8))
            have hgW : wr.grows (w12.plus x13) := World.grows.plus hb12 _
            generalize w12.plus x13 = wW at *
            have HW := Lib.hid (H8.out.grows hgW)
            have rA : wW.row w.heap.size = _ := (HW.out.gr.row_eq (row_sz' RA.out).1).trans RA.out
            have rB : wW.row (w.heap.size + 1) = _ := (HW.out.gr.row_eq (row_sz' RB.out).1).trans RB.out
            have zA := row_sz' rA
            have zB := row_sz' rB
            have hwW := hg1.trans HW.out.gr
            clear HV11 HV12 HO8 HO9 hgW H8 HEt HEu HOt HOu
            by_cases q1 : ka < 2
            · go_wp2_with (go_at_call 24; (with_reducible refine (awake_any _).mono ?_); rintro r wa ⟨rfl, xa, rfl⟩)
              go_ret
              exact ⟨rfl, (by repeat (with_reducible first | assumption | exact grA | apply grB | apply grC | apply grD | refine grE ?_ (by omega) _ | refine grF ?_ (by omega) _ _))⟩
            by_cases q2 : kb < 2
            · go_wp2_with (go_at_call 24; (with_reducible refine (awake_any _).mono ?_); rintro r wa ⟨rfl, xa, rfl⟩)
              go_ret
              exact ⟨rfl, (by repeat (with_reducible first | assumption | exact grA | apply grB | apply grC | apply grD | refine grE ?_ (by omega) _ | refine grF ?_ (by omega) _ _))⟩
            by_cases q3 : ia = ib
            · go_wp2_with (go_at_call 24; (with_reducible refine (awake_any _).mono ?_); rintro r wa ⟨rfl, xa, rfl⟩)
              go_ret
              exact ⟨rfl, (by repeat (with_reducible first | assumption | exact grA | apply grB | apply grC | apply grD | refine grE ?_ (by omega) _ | refine grF ?_ (by omega) _ _))⟩
            obtain ⟨m1, m2, m3⟩ := step_comm (⟨ka, ia, pa, na, va, ⟨ta, sa, a1, a2, a3, a4⟩⟩ : Opn) (⟨kb, ib, pb, nb, vb, ⟨tb, sb, b1, b2, b3, b4⟩⟩ : Opn) (by show 2 ≤ ka; omega) (by show 2 ≤ kb; omega) q3 M
            have M1 := Lib.hid m1; have M2 := Lib.hid m2; have M3 := Lib.hid m3
            clear m1 m2 m3
            have hs1 := step_any wW Lt M HW.out.t HGD.out (⟨ka, ia, pa, na, va, ⟨ta, sa, a1, a2, a3, a4⟩⟩ : Opn) HA.out
            rw [e1] at hs1
            have HS1 := Lib.hid (show Calls _ _ #[_, .agg #[.int .i64 ka, .int .i64 ia, .int .i64 pa, .string na, .string va, .int .i64 ta, .string sa, .int .i64 a1, .int .i64 a2, .int .i64 a3, .int .i64 a4]] _ _ from hs1)
            clear hs1
            go_upto_region 37 with (go_at_call 10; go_loud ((with_reducible refine HS1.out.mono ?_); rintro r y1 ⟨rfl, hE1⟩))
            obtain ⟨Lt1, f1, k1⟩ := HW.out.stepT hE1
            have rB1 : y1.row (w.heap.size + 1) = _ := (k1.gr.row_eq (row_sz' RB.out).1).trans RB.out
            have zB1 := row_sz' rB1
            have hs2 := step_any y1 Lt1 _ k1.t (HGD.out.step (⟨ka, ia, pa, na, va, ⟨ta, sa, a1, a2, a3, a4⟩⟩ : Opn)) (⟨kb, ib, pb, nb, vb, ⟨tb, sb, b1, b2, b3, b4⟩⟩ : Opn) HB.out
            rw [f1, e1, M2.out] at hs2
            have HS2 := Lib.hid (show Calls _ _ #[_, .agg #[.int .i64 kb, .int .i64 ib, .int .i64 pb, .string nb, .string vb, .int .i64 tb, .string sb, .int .i64 b1, .int .i64 b2, .int .i64 b3, .int .i64 b4]] _ _ from hs2)
            have K1 := Lib.hid k1
            clear hs2 k1 hE1 HS1 rB zB
            go_upto_region 38 with (go_at_call 10; go_loud ((with_reducible refine HS2.out.mono ?_); rintro r y2 ⟨rfl, hE2⟩))
            obtain ⟨Lt2, f2, k2⟩ := K1.out.stepT hE2
            have rB2 : y2.row (w.heap.size + 1) = _ := (k2.gr.row_eq (row_sz' RB.out).1).trans RB.out
            have zB2 := row_sz' rB2
            have hs3 := step_any y2 Lu M k2.u HGD.out (⟨kb, ib, pb, nb, vb, ⟨tb, sb, b1, b2, b3, b4⟩⟩ : Opn) HB.out
            rw [e2] at hs3
            have HS3 := Lib.hid (show Calls _ _ #[_, .agg #[.int .i64 kb, .int .i64 ib, .int .i64 pb, .string nb, .string vb, .int .i64 tb, .string sb, .int .i64 b1, .int .i64 b2, .int .i64 b3, .int .i64 b4]] _ _ from hs3)
            have K2 := Lib.hid k2
            clear hs3 k2 hE2 HS2 rB1 zB1
            go_upto_region 39 with (go_at_call 10; go_loud ((with_reducible refine HS3.out.mono ?_); rintro r y3 ⟨rfl, hE3⟩))
            obtain ⟨Lu1, f3, k3⟩ := K2.out.stepU hE3
            have rA3 : y3.row w.heap.size = _ := (k3.gr.row_eq (row_sz' RA.out).1).trans RA.out
            have zA3 := row_sz' rA3
            have hs4 := step_any y3 Lu1 _ k3.u (HGD.out.step (⟨kb, ib, pb, nb, vb, ⟨tb, sb, b1, b2, b3, b4⟩⟩ : Opn)) (⟨ka, ia, pa, na, va, ⟨ta, sa, a1, a2, a3, a4⟩⟩ : Opn) HA.out
            rw [f3, e2, ← M1.out] at hs4
            have HS4 := Lib.hid (show Calls _ _ #[_, .agg #[.int .i64 ka, .int .i64 ia, .int .i64 pa, .string na, .string va, .int .i64 ta, .string sa, .int .i64 a1, .int .i64 a2, .int .i64 a3, .int .i64 a4]] _ _ from hs4)
            have K3 := Lib.hid k3
            clear hs4 k3 hE3 HS3 rB2 zB2 rA zA
            go_upto_region 40 with (go_at_call 10; go_loud ((with_reducible refine HS4.out.mono ?_); rintro r y4 ⟨rfl, hE4⟩))
            obtain ⟨Lu2, f4, k4⟩ := K3.out.stepU hE4
            rw [← M3.out] at k4
            have hGG := (HGD.out.step (⟨ka, ia, pa, na, va, ⟨ta, sa, a1, a2, a3, a4⟩⟩ : Opn)).step (⟨kb, ib, pb, nb, vb, ⟨tb, sb, b1, b2, b3, b4⟩⟩ : Opn)
            generalize ((M.step (⟨ka, ia, pa, na, va, ⟨ta, sa, a1, a2, a3, a4⟩⟩ : Opn)).2.2.step (⟨kb, ib, pb, nb, vb, ⟨tb, sb, b1, b2, b3, b4⟩⟩ : Opn)).2.2 = MM at *
            have HEtq := Lib.hid (fun (W : World) (hW : y4.grows W) => (show Calls _ _ #[.pointer (some ⟨t1, 0, none⟩)] W _ from e1 ▸ f1 ▸ f2 ▸ domElems_any W Lt2 MM (k4.t.grows hW)))
            have HEuq := Lib.hid (fun (W : World) (hW : y4.grows W) => (show Calls _ _ #[.pointer (some ⟨t2, 0, none⟩)] W _ from e2 ▸ f3 ▸ f4 ▸ domElems_any W Lu2 MM (k4.u.grows hW)))
            have HEWq := Lib.hid (fun e he => k4.t.elWf e he)
            have hfq : MM.els.length ≤ 256 := hGG.wf.few
            have hwy : w.grows y4 := hg1.trans k4.gr
            clear k4 hE4 HS4 rA3 zA3 K1 K2 K3 hGG
            go_wp2_with (first
              | (go_at_call 24; (with_reducible refine (awake_any _).mono ?_); rintro r wa ⟨rfl, xa, rfl⟩)
              | (go_at_call 27; (with_reducible refine (elems_any w9q _ HEWq.out _ _ _ _ _ _ (ElsAt.keep HO8q.out.slAt fun g _ hl => hg9q.row_eq hl) (ElsAt.keep HO9q.out.slAt fun _ _ _ => rfl) (by omega)).mono ?_); rintro r w10q ⟨rfl, x10q, rfl⟩)
              | (go_at_call 25; (with_reducible refine (HEuq.out _ hb8q).mono ?_); rintro r w9q ⟨v9q, rfl, hg9q, hO9q⟩; obtain ⟨a9q, c9q, rfl⟩ := outs_slice hO9q; (have HO9q := Lib.hid hO9q); (have hb9q := hb8q.trans hg9q); clear hO9q)
              | (go_at_call 25; (with_reducible refine (HEtq.out _ World.grows.refl).mono ?_); rintro r w8q ⟨v8q, rfl, hb8q, hO8q⟩; obtain ⟨a8q, c8q, rfl⟩ := outs_slice hO8q; (have HO8q := Lib.hid hO8q); clear hO8q))
            go_ret
            have hb9w := hwy.trans hb9q
            exact ⟨rfl, (by repeat (with_reducible first | assumption | exact grA | apply grB | apply grC | apply grD | refine grE ?_ (by omega) _ | refine grF ?_ (by omega) _ _))⟩
end Go.Proofs.Ytdbddnkjiehaiaa
