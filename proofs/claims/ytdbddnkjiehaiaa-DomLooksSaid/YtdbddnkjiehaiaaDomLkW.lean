/- WALK of DomLooks: whatever is looked at, the tree and the reference tell the same. No condition but that the script lies in memory. -/
import Derived.Test.YtdbddnkjiehaiaaDomLh
import Derived.Deep.CutBlock
set_option linter.unusedSimpArgs false
set_option linter.unusedVariables false
namespace Go.Proofs.Ytdbddnkjiehaiaa
open Go.Maps Go.RowKit Go.Sort
def DuSh (W wj : World) (t u : Nat) (M : Dm) : Prop := DuSt W wj t u M ∧ M.Short

theorem belowA_few {M : Dm} (hG : M.Good) (id : Int) : (M.below 32 id).length ≤ 256 := by
  cases hat : M.at id with
  | none => unfold Dm.below; rw [hat]; simp
  | some e =>
    obtain ⟨he, rfl⟩ := findE_some hat
    obtain ⟨dep, _, d2, _⟩ := hG.wf.dep
    have h2 := nodup_len (m := M.els.map El.id) (Dm.below_once hG.wf d2 32 e he) fun x hx => by
      obtain ⟨f, hf, h1⟩ := (Dm.below_up hG.wf d2 32 e he x hx).1
      exact List.mem_map.2 ⟨f, hf, h1⟩
    have h3 := hG.wf.few
    simp at h2; omega

set_option maxRecDepth 100000 in
set_option maxHeartbeats 40000000 in
theorem domLooks_any (v : Value) (l : List Opn) (id : Int) (nm : ByteArray) (w : World) (hs : SlAt w (fun _ => True) 11 OpR v l) (hi : I64 id) : Calls Try.prog 3 #[v, .int .i64 id, .string nm] w (Gives w (.bool true)) := by
  obtain ⟨a0, c0, rfl, _⟩ := hs.len
  obtain ⟨_, hl63, hg⟩ := ops_get8 hs
  have HG := Lib.hid hg
  clear hs hg
  have HN := Lib.hid (fun W => domNew_any W ⟨#[97]⟩ (by decide +kernel))
  have HM := Lib.hid (fun W => refNew_any W ⟨#[97]⟩ (by decide +kernel))
  have HX := Lib.hid awk_name
  go_enter Try.func3, Try.ntmps3
  go_upto_region 2 with (go_at_call 8; go_loud ((with_reducible refine (HN.out _).mono ?_); rintro r w2 ⟨hg2, ⟨hbad, _⟩ | ⟨_, L1, rfl, hT1, hO1⟩⟩); (first | (exact absurd (HX.out.symm.trans hbad) (by decide)) | skip))
  go_upto_region 3 with (go_at_call 9; go_loud ((with_reducible refine (HM.out _).mono ?_); rintro r w3 ⟨hg3, ⟨hbad, _⟩ | ⟨_, t2, Q2, v2, rfl, hR2, hO2⟩⟩); (first | (exact absurd (HX.out.symm.trans hbad) (by decide)) | skip))
  have HS := Lib.hid (show DuSh w w3 L1.t t2 (newM ⟨#[97]⟩) from ⟨duNew hg2 hg3 hT1 hR2 hO1 hO2, short_new _⟩)
  have hw3 := hg2.trans hg3
  clear hT1 hR2 hO1 hO2 HN HM HX
  generalize L1.t = t1 at *
  generalize newM ⟨#[97]⟩ = M0 at *
  go_upto_block 0 with fail
  go_cut [11] (fun v11 wx => ∃ M : Dm, Hid (DuSh w wx t1 t2 M))
  case first =>
    go_wp2_with fail
    go_loopg [11] 200 (fun gn v11 wj => ∃ (i : Nat) (M : Dm), Hid (gn + i = 200 ∧ i ≤ 200 ∧ i ≤ l.length) ∧ v11 = .int .i64 i ∧ Hid (DuSh w wj t1 t2 M))
    case atStart => exact ⟨0, M0, Lib.hid ⟨by simp, Nat.zero_le _, Nat.zero_le _⟩, by go_num, HS⟩
    case round =>
      obtain ⟨i, M, HQ, rfl, HS1⟩ := hrel
      obtain ⟨j1, j2, j3⟩ := HQ.out
      obtain ⟨Lt, Q, vr, e1, h2, hG⟩ := HS1.out.1
      by_cases hin : i < l.length ∧ i < 200
      · have i1 : (i : Int) < (l.length : Int) := by omega
        have i2 : (i : Int) < 200 := by omega
        rcases HG.out with h0 | ⟨g, off, rfl, el⟩
        · rw [h0] at hin; simp at hin
        have hgt := List.getElem?_eq_getElem hin.1
        obtain ⟨cs, l1, k1, rfl, hok⟩ := el i _ hgt
        generalize l[i] = x at *
        have kr := k1.grows h2.gr
        have zr := lt_sz kr.lt
        obtain ⟨u1, u2⟩ := kr
        rw [l1] at u1 u2
        have hst := step_any wr Lt M h2.tr hG x hok
        rw [e1] at hst
        have HST := Lib.hid hst
        have H2 := Lib.hid h2; have HGD := Lib.hid hG
        have HSH := Lib.hid HS1.out.2
        clear hst el HG hgt h2 hG HS1 HS
        go_upto_region 9 with (go_at_call 10; go_loud ((with_reducible refine HST.out.mono ?_); rintro r w4 ⟨rfl, hE⟩))
        obtain ⟨Lt', f1, h4⟩ := H2.out.stepT hE
        have kr4 := k1.grows h4.gr
        have zr4 := lt_sz kr4.lt
        obtain ⟨u3, u4⟩ := kr4
        rw [l1] at u3 u4
        have HST4 := Lib.hid (model_any w4 t2 Q vr M h4.rf HGD.out x hok)
        have H4 := Lib.hid h4
        clear h4 u1 u2 zr HST hE k1
        go_wp2_with (go_at_call 11; go_loud ((with_reducible refine HST4.out.mono ?_); rintro r w5 ⟨rfl, hE⟩))
        obtain ⟨Q', v', h5⟩ := H4.out.stepU hE
        have HN := Lib.hid (show DuSh w w5 t1 t2 (M.step x).2.2 from ⟨⟨Lt', Q', v', f1.trans e1, h5, HGD.out.step x⟩, HSH.out.step x⟩)
        clear hE h5 u3 u4 zr4
        go_roundg (200 - (i + 1))
        case measure => omega
        case rel => exact ⟨i + 1, (M.step x).2.2, Lib.hid ⟨by omega, by omega, by omega⟩, by go_num, HN⟩
      · by_cases hl : i < l.length
        · have i1 : (i : Int) < (l.length : Int) := by omega
          have i2 : ¬ (i : Int) < 200 := by omega
          clear hin h2
          go_wp2_with fail
          go_meet
          case rel => exact ⟨M, HS1⟩
        · have i1 : ¬ (i : Int) < (l.length : Int) := by omega
          clear hin h2
          go_wp2_with fail
          go_meet
          case rel => exact ⟨M, HS1⟩
  case rest =>
    obtain ⟨M, HS1⟩ := hcut
    obtain ⟨⟨Lt, Q, vr, e1, h2, hG⟩, hS⟩ := HS1.out
    have K1 := Lib.hid (fun (W : World) (hW : wc.grows W) => (show Calls _ _ #[.pointer (some ⟨t1, 0, none⟩), .int .i64 id] W _ from e1 ▸ domPlace_any W Lt M (h2.tr.grows hW) hG.par id hi))
    have K2 := Lib.hid (fun (W : World) (hW : wc.grows W) => refPlace_any W t2 vr M (h2.rf.r.grows hW) hG h2.rf.elWf id)
    have K3 := Lib.hid (fun (W : World) (hW : wc.grows W) => (show Calls _ _ #[.pointer (some ⟨t1, 0, none⟩), .int .i64 id, .string nm] W _ from e1 ▸ domAttr_any W Lt M (h2.tr.grows hW) hG.ups id nm hi))
    have K4 := Lib.hid (fun (W : World) (hW : wc.grows W) => refAttr_any W t2 vr M (h2.rf.r.grows hW) hG h2.rf.elWf id nm)
    have K5 := Lib.hid (fun (W : World) (hW : wc.grows W) => (show Calls _ _ #[.pointer (some ⟨t1, 0, none⟩), .int .i64 id] W _ from e1 ▸ domElem_any W Lt M (h2.tr.grows hW) id hi))
    have K6 := Lib.hid (fun (W : World) (hW : wc.grows W) => refAt_any W t2 vr M (h2.rf.r.grows hW) hG.wf.few id)
    have K7 := Lib.hid (fun (W : World) (hW : wc.grows W) => (show Calls _ _ #[.pointer (some ⟨t1, 0, none⟩), .int .i64 id] W _ from e1 ▸ domClasses_any W Lt M (h2.tr.grows hW) hG.ups hS id hi))
    have K8 := Lib.hid (fun (W : World) (hW : wc.grows W) => refClasses_any W t2 vr M (h2.rf.r.grows hW) hG h2.rf.elWf hS id)
    have K9 := Lib.hid (fun (W : World) (hW : wc.grows W) => (show Calls _ _ #[.pointer (some ⟨t1, 0, none⟩), .int .i64 id] W _ from e1 ▸ domBelow_any W Lt M (h2.tr.grows hW) id hi))
    have K10 := Lib.hid (fun (W : World) (hW : wc.grows W) => refBelowA_any W t2 vr M (h2.rf.r.grows hW) hG h2.rf.elWf id)
    have hbl := belowA_few hG id
    have hcl : (onceL (pieces (M.attr id ⟨#[99, 108, 97, 115, 115]⟩).1)).length ≤ 257 := by
      have q1 := once_len (pieces (M.attr id ⟨#[99, 108, 97, 115, 115]⟩).1) []
      have q2 := pieces_len (M.attr id ⟨#[99, 108, 97, 115, 115]⟩).1
      have q3 := hS.attr id ⟨#[99, 108, 97, 115, 115]⟩
      unfold onceL; simp only [List.length_nil] at q1; omega
    generalize M.below 32 id = bl at *
    generalize onceL (pieces (M.attr id ⟨#[99, 108, 97, 115, 115]⟩).1) = cl at *
    have HBL := Lib.hid hbl
    have H2 := Lib.hid h2; have HGD := Lib.hid hG; have HSH := Lib.hid hS
    have HW := Lib.hid h2.gr
    clear h2 hG hS HS1 HS HG hbl
    go_upto_region 14 with (first
      | (go_at_call 12; go_loud ((with_reducible refine (K1.out _ World.grows.refl).mono ?_); rintro r w4 ⟨rfl, hg4⟩))
      | (go_at_call 13; go_loud ((with_reducible refine (K2.out _ hg4).mono ?_); rintro r w5 ⟨rfl, hg5⟩); (have hg45 := hg4.trans hg5))
      | (go_at_call 14; go_loud ((with_reducible refine (K3.out _ hg45).mono ?_); rintro r w6 ⟨rfl, hg6⟩); (have hg46 := hg45.trans hg6))
      | (go_at_call 15; go_loud ((with_reducible refine (K4.out _ hg46).mono ?_); rintro r w7 ⟨rfl, hg7⟩); (have hg47 := hg46.trans hg7)))
    rcases hat : M.at id with _ | e
    case' none =>
      have hp : posE M.els id = -1 := posE_none (findE_none hat)
      have HAT := Lib.hid hat
      clear hat
      go_upto_region 16 with (first
        | (go_at_call 16; go_loud ((with_reducible refine (K5.out _ hg47).mono ?_); rintro r w8 ⟨hg8, ⟨_, rfl⟩ | ⟨e, hbad, _⟩⟩); (all_goals (first | (exact absurd (HAT.out.symm.trans hbad) (by simp)) | skip)); (have hg48 := hg47.trans hg8))
        | (go_at_call 17; go_loud ((with_reducible refine (K6.out _ (by repeat (with_reducible first | assumption | exact grA | apply grB | apply grC | apply grD | refine grE ?_ (by omega) _ | refine grF ?_ (by omega) _ _))).mono ?_); rw [hp]; rintro r w9 ⟨rfl, hg9⟩)))
      have HSZ := Lib.hid (fun (W : World) => (show Calls Try.prog 18 #[.agg #[.int .i64 0, .int .i64 0, .string ByteArray.empty, .slice none 0 0, .slice none 0 0, .int .i64 0, .string ByteArray.empty, .int .i64 0, .int .i64 0, .int .i64 0, .int .i64 0], .agg #[.int .i64 0, .int .i64 0, .string ⟨#[]⟩, .slice none 0 0, .slice none 0 0, .int .i64 0, .string ⟨#[]⟩, .int .i64 0, .int .i64 0, .int .i64 0, .int .i64 0]] W (Gives W (.bool true)) from sameE_any W (fun _ => True) (fun _ => True) ⟨0, 0, ByteArray.empty, [], [], ⟨0, ByteArray.empty, 0, 0, 0, 0⟩⟩ _ _ ⟨none, none, 0, 0, rfl, IntsAt_own (World.ownsRow_nil W 0 3 1), at_slat (World.ownsRow_nil W 0 62 2)⟩ ⟨none, none, 0, 0, rfl, IntsAt_own (World.ownsRow_nil W 0 3 1), at_slat (World.ownsRow_nil W 0 62 2)⟩ (Nat.zero_le _) (Nat.zero_le _)))
      generalize M.place id = pl at *
      generalize M.attr id nm = av at *
      have q9 : w9.row w8.heap.size = some (.cells #[.int .i64 0, .int .i64 0, .string ByteArray.empty, .slice none 0 0, .slice none 0 0, .int .i64 0, .string ByteArray.empty, .int .i64 0, .int .i64 0, .int .i64 0, .int .i64 0] 46) := by
        have q2 := hg9.row_eq (g := w8.heap.size) (by simp)
        simp [go_sem] at q2; exact q2
      have z9 := row_sz' q9
      have hgw9 : wc.grows w9 := World.grows.trans (by repeat (with_reducible first | assumption | exact grA | apply grB | apply grC | apply grD | refine grE ?_ (by omega) _ | refine grF ?_ (by omega) _ _)) hg9
      refine wp_region_plus_seq (by kernel_rfl) (by kernel_rfl) (fun x0 => ?_)
      repeat (any_goals (first | (refine wpSeqL_free rfl ?_; first | (go_big_quiet_skip; refine wpQuiet_nil ?_) | (go_big_quiet_step (fail); refine wpQuiet_nil ?_) | (refine wpQuiet_step (fun K hK => ?_); go_simp; split <;> (refine hK _ ?_; clear hK K; refine wpQuiet_nil ?_))) | (refine wpSeqL_link rfl (fun K hK => ?_); go_simp; first | first | (refine hK _ _ (by show World.grows _ _; repeat (first | assumption | exact grA | apply grB | apply grC | apply grD)) ?_; clear hK K) | (((go_at_call 18; go_loud ((with_reducible refine (HSZ.out _).mono ?_); rintro r w10 ⟨rfl, x10, rfl⟩))); refine ⟨_, rfl, hK _ _ (by show World.grows _ _; repeat (first | assumption | exact grA | apply grB | apply grC | apply grD)) ?_⟩; clear hK K) | (split <;> (first | (refine hK _ _ (by show World.grows _ _; repeat (first | assumption | exact grA | apply grB | apply grC | apply grD)) ?_; clear hK K) | (((go_at_call 18; go_loud ((with_reducible refine (HSZ.out _).mono ?_); rintro r w10 ⟨rfl, x10, rfl⟩))); refine ⟨_, rfl, hK _ _ (by show World.grows _ _; repeat (first | assumption | exact grA | apply grB | apply grC | apply grD)) ?_⟩; clear hK K))))))
      all_goals (refine wpSeqL_end ?_)
      go_upto_region 18 with fail
      have hgz : wc.grows ((w9.plus x0).plus x10) := (by repeat (with_reducible first | assumption | exact grA | apply grB | apply grC | apply grD | refine grE ?_ (by omega) _ | refine grF ?_ (by omega) _ _))
      generalize (w9.plus x0).plus x10 = wz at *
      clear HSZ z9 q9 hg9 hgw9
    case' some =>
      obtain ⟨he, rfl⟩ := findE_some hat
      obtain ⟨k, hp, hkl, hke⟩ := posE_at HGD.out.wf.up he
      have hfew := HGD.out.wf.few
      have hkI : (k : Int) < (M.els.length : Int) := by omega
      have hk0 : (0 : Int) ≤ (k : Int) := by omega
      have hewf := H2.out.rf.elWf e he
      have hL := H2.out.rf.r
      obtain ⟨a1, c1, rfl, _⟩ := hL.els.len
      rcases (els_get hL.els).2 with h0 | ⟨g1, o1, rfl, e2⟩
      · rw [h0] at hkl; simp at hkl
      obtain ⟨cs2, l2, k2, ka2, aa2, kc2, ac2, rfl, hks2, hats2⟩ := e2 k _ hke
      have HR2 := Lib.hid (show ElR wc (fun _ => True) e _ from ⟨ka2, aa2, kc2, ac2, rfl, hks2, hats2⟩)
      have KE := Lib.hid k2
      have HAT := Lib.hid hat
      have HWF := Lib.hid hewf
      have HL := Lib.hid hL
      clear hat hks2 hats2 k2 e2 he hewf hL hke
      go_upto_region 15 with (go_at_call 16; go_loud ((with_reducible refine (K5.out _ hg47).mono ?_); rintro r w8 ⟨hg8, ⟨hbad, _⟩ | ⟨e', he', cs1, ⟨ka1, aa1, kc1, ac1, rfl, hks1, hats1⟩, rfl⟩⟩); (all_goals (first | (exact absurd (HAT.out.symm.trans hbad) (by simp)) | skip)); ((obtain rfl : e = e' := Option.some.inj (HAT.out.symm.trans he'); (have HR1 := Lib.hid (show ElR w8 _ e _ from ⟨ka1, aa1, kc1, ac1, rfl, hks1, hats1⟩)); (have hg48 := hg47.trans hg8); clear hks1 hats1 he')))
      go_upto_region 16 with (go_at_call 17; go_loud ((with_reducible refine (K6.out _ (by repeat (with_reducible first | assumption | exact grA | apply grB | apply grC | apply grD | refine grE ?_ (by omega) _ | refine grF ?_ (by omega) _ _))).mono ?_); rw [hp]; rintro r w9 ⟨rfl, hg9⟩))
      have q9 : w9.row w8.heap.size = some (.cells #[.int .i64 e.id, .int .i64 e.p, .string e.tag, .slice ka1 e.ks.length kc1, .slice aa1 e.at'.length ac1, .int .i64 e.bx.ty, .string e.bx.nm, .int .i64 e.bx.a, .int .i64 e.bx.b, .int .i64 e.bx.c, .int .i64 e.bx.d] 46) := by
        have q2 := hg9.row_eq (g := w8.heap.size) (by simp)
        simp [go_sem] at q2; exact q2
      have z9 := row_sz' q9
      have hgw9 : wc.grows w9 := World.grows.trans (by repeat (with_reducible first | assumption | exact grA | apply grB | apply grC | apply grD | refine grE ?_ (by omega) _ | refine grF ?_ (by omega) _ _)) hg9
      have hg89 : w8.grows w9 := World.grows.trans (by repeat (with_reducible first | assumption | exact grA | apply grB | apply grC | apply grD | refine grE ?_ (by omega) _ | refine grF ?_ (by omega) _ _)) hg9
      have hx9 := (HL.out.grows hgw9).head
      have zx9 := row_sz' hx9
      have k9 := KE.out.grows hgw9
      have zk9 := lt_sz k9.lt
      obtain ⟨u1, u2⟩ := k9
      rw [l2] at u1 u2
      have HSZ := Lib.hid (fun (W : World) (hW : w9.grows W) => (show Calls Try.prog 18 #[.agg #[.int .i64 e.id, .int .i64 e.p, .string e.tag, .slice ka1 e.ks.length kc1, .slice aa1 e.at'.length ac1, .int .i64 e.bx.ty, .string e.bx.nm, .int .i64 e.bx.a, .int .i64 e.bx.b, .int .i64 e.bx.c, .int .i64 e.bx.d], .agg #[.int .i64 e.id, .int .i64 e.p, .string e.tag, .slice ka2 e.ks.length kc2, .slice aa2 e.at'.length ac2, .int .i64 e.bx.ty, .string e.bx.nm, .int .i64 e.bx.a, .int .i64 e.bx.b, .int .i64 e.bx.c, .int .i64 e.bx.d]] W (Gives W (.bool true)) from sameE_any W (fun _ => True) (fun _ => True) e _ _ (HR1.out.keep fun g _ hg => ⟨(hg89.trans hW).row_eq hg, trivial⟩) (HR2.out.keep fun g _ hg => ⟨(hgw9.trans hW).row_eq hg, trivial⟩) (by have := HWF.out.2.2.2.2.2.2.2; omega) (by have := HWF.out.2.2.2.2.2.2.1; omega)))
      generalize M.place e.id = pl at *
      generalize M.attr e.id nm = av at *
      refine wp_region_plus_seq (by kernel_rfl) (by kernel_rfl) (fun x0 => ?_)
      repeat (any_goals (first | (refine wpSeqL_free rfl ?_; first | (go_big_quiet_skip; refine wpQuiet_nil ?_) | (go_big_quiet_step (fail); refine wpQuiet_nil ?_) | (refine wpQuiet_step (fun K hK => ?_); go_simp; split <;> (refine hK _ ?_; clear hK K; refine wpQuiet_nil ?_))) | (refine wpSeqL_link rfl (fun K hK => ?_); go_simp; first | first | (refine hK _ _ (by show World.grows _ _; repeat (first | assumption | exact grA | apply grB | apply grC | apply grD)) ?_; clear hK K) | (((go_at_call 18; go_loud ((with_reducible refine (HSZ.out _ (by repeat (with_reducible first | assumption | exact grA | apply grB | apply grC | apply grD | refine grE ?_ (by omega) _ | refine grF ?_ (by omega) _ _))).mono ?_); rintro r w10 ⟨rfl, x10, rfl⟩))); refine ⟨_, rfl, hK _ _ (by show World.grows _ _; repeat (first | assumption | exact grA | apply grB | apply grC | apply grD)) ?_⟩; clear hK K) | (split <;> (first | (refine hK _ _ (by show World.grows _ _; repeat (first | assumption | exact grA | apply grB | apply grC | apply grD)) ?_; clear hK K) | (((go_at_call 18; go_loud ((with_reducible refine (HSZ.out _ (by repeat (with_reducible first | assumption | exact grA | apply grB | apply grC | apply grD | refine grE ?_ (by omega) _ | refine grF ?_ (by omega) _ _))).mono ?_); rintro r w10 ⟨rfl, x10, rfl⟩))); refine ⟨_, rfl, hK _ _ (by show World.grows _ _; repeat (first | assumption | exact grA | apply grB | apply grC | apply grD)) ?_⟩; clear hK K))))))
      all_goals (refine wpSeqL_end ?_)
      go_upto_region 18 with fail
      have hgz : wc.grows ((w9.plus x0).plus x10) := (by repeat (with_reducible first | assumption | exact grA | apply grB | apply grC | apply grD | refine grE ?_ (by omega) _ | refine grF ?_ (by omega) _ _))
      generalize (w9.plus x0).plus x10 = wz at *
      clear HSZ z9 q9 hg9 hgw9 hg89 hx9 zx9 u1 u2 zk9
    all_goals
      go_upto_region 19 with (first
        | (go_at_call 19; go_loud ((with_reducible refine (K7.out _ hgz).mono ?_); rintro r wa ⟨va, rfl, hga, hva⟩; (obtain ⟨a5, c5, rfl, hs5⟩ := strs_own hva); (have hgza := hgz.trans hga); (have HA := Lib.hid hs5); clear hs5 hva))
        | (go_at_call 20; go_loud ((with_reducible refine (K8.out _ hgza).mono ?_); rintro r wb ⟨vb, rfl, hgb, hvb⟩; (obtain ⟨a6, c6, rfl, hs6⟩ := strs_own hvb); (have hgzb := hgza.trans hgb); (have HB := Lib.hid hs6); clear hs6 hvb)))
      go_upto_region 22 with (first
        | (go_at_call 22; go_loud ((with_reducible refine (K9.out _ hgzb).mono ?_); rintro r wd ⟨vd, rfl, hgd, hvd⟩; (obtain ⟨a7, c7, rfl⟩ := own_slice hvd); (have hgzd := hgzb.trans hgd); (have HV7 := Lib.hid (IntsAt_own hvd)); clear hvd))
        | (go_at_call 23; go_loud ((with_reducible refine (K10.out _ hgzd).mono ?_); rintro r we ⟨ve, rfl, hge, hve⟩; (obtain ⟨a8, c8, rfl⟩ := own_slice hve); (have hgze := hgzd.trans hge); (have HV8 := Lib.hid (IntsAt_own hve)); clear hve))
        | (go_at_call 21; go_loud ((with_reducible refine (ints_any _ bl a7 a8 _ _ c7 c8 (HV7.out.grow hge) HV8.out (by have := HBL.out; omega)).mono ?_); rintro r w9 ⟨rfl, x9, rfl⟩)))
      have hgae : wa.grows we := (hgb.trans hgd).trans hge
      have hgbe : wb.grows we := hgd.trans hge
      have hwe : w.grows we := HW.out.trans hgze
      go_loopg [165, 25] cl.length (fun gn v165 v25 wj => ∃ i : Nat, Hid (gn + i = cl.length ∧ i ≤ cl.length) ∧ v165 = .int .i64 i ∧ we.grows wj)
      case atStart => exact ⟨0, Lib.hid ⟨by simp, Nat.zero_le _⟩, by go_num, (by repeat (with_reducible first | assumption | exact grA | apply grB | apply grC | apply grD | refine grE ?_ (by omega) _ | refine grF ?_ (by omega) _ _))⟩
      case round =>
        obtain ⟨i, HQ, rfl, hgj⟩ := hrel
        obtain ⟨j1, j2⟩ := HQ.out
        have hwj := hwe.trans hgj
        by_cases hlt : i < cl.length
        · have i1 : (i : Int) < (cl.length : Int) := by omega
          rcases HA.out with h0 | ⟨g5, rfl, z5, e5⟩
          · rw [h0] at hlt; simp at hlt
          rcases HB.out with h0 | ⟨g6, rfl, z6, e6⟩
          · rw [h0] at hlt; simp at hlt
          have hgt := List.getElem?_eq_getElem hlt
          have c5' := e5 i _ hgt
          have c6' := e6 i _ hgt
          rw [← (hgae.trans hgj).row_eq z5] at c5'
          rw [← (hgbe.trans hgj).row_eq z6] at c6'
          have y5 := lt_sz (Nat.lt_of_lt_of_le z5 (hgae.trans hgj).below.size)
          have y6 := lt_sz (Nat.lt_of_lt_of_le z6 (hgbe.trans hgj).below.size)
          generalize cl[i] = x at *
          clear e5 e6 hgt z5 z6
          go_upto_region 24 with fail
          refine wp_region_plus_lit (by kernel_rfl) (by kernel_rfl) ?_
          repeat (go_big_quiet_step (fail))
          (refine wpQuiet_nil ?_; intro _ hw'; obtain ⟨xq, hw''⟩ := hw'; subst hw'')
          go_wp2_with fail
          go_roundg (cl.length - (i + 1))
          case measure => omega
          case rel => exact ⟨i + 1, Lib.hid ⟨by omega, by omega⟩, by go_num, (by repeat (with_reducible first | assumption | exact grA | apply grB | apply grC | apply grD | refine grE ?_ (by omega) _ | refine grF ?_ (by omega) _ _))⟩
        · have i1 : ¬ (i : Int) < (cl.length : Int) := by omega
          go_wp2_with (go_at_call 24; go_loud ((with_reducible refine (awake_any _).mono ?_); rintro r wf ⟨rfl, hgf⟩))
          go_ret
          exact ⟨rfl, hwj.trans hgf⟩
end Go.Proofs.Ytdbddnkjiehaiaa
