/- WALK of DomLoads: elements with any numbers: a tree of them, or the error, as the reference tells; edits behind that. -/
import Derived.Test.YtdbddnkjiehaiaaGreatDomMu
import Derived.Test.YtdbddnkjiehaiaaGreatDomPlW
set_option linter.unusedSimpArgs false
set_option linter.unusedVariables false
namespace Go.Proofs.YtdbddnkjiehaiaaGreat
open Go.Maps Go.RowKit Go.Sort
set_option maxRecDepth 100000 in
set_option maxHeartbeats 8000000 in
theorem refLoad0_any (w : World) (a : Option Addr) (c : Nat) : Calls Tryz.prog 5 #[.slice a 0 c] w fun r w' => r = .returned (.tuple #[.pointer none, .int .i64 1]) ∧ w.grows w' := by
  go_enter Tryz.func5, Tryz.ntmps5
  go_wp2_with fail
  go_ret2
  exact ⟨rfl, (by repeat (with_reducible first | assumption | exact grA | apply grB | apply grC | apply grD | refine grE ?_ (by omega) _ | refine grF ?_ (by omega) _ _))⟩
set_option maxRecDepth 100000 in
set_option maxHeartbeats 8000000 in
theorem refLoadF_any (w : World) (a : Option Addr) (n c : Nat) (hn : 256 < n) : Calls Tryz.prog 5 #[.slice a n c] w fun r w' => r = .returned (.tuple #[.pointer none, .int .i64 6]) ∧ w.grows w' := by
  have i1 : ¬ (n : Int) = 0 := by omega
  have i2 : (256 : Int) < (n : Int) := by omega
  have i3 : ((n : Int) == 0) = false := by simpa using i1
  have i4 : ¬ n = 0 := by omega
  go_enter Tryz.func5, Tryz.ntmps5
  go_wp2_with fail
  go_ret2
  exact ⟨rfl, (by repeat (with_reducible first | assumption | exact grA | apply grB | apply grC | apply grD | refine grE ?_ (by omega) _ | refine grF ?_ (by omega) _ _))⟩
/-- the two trees that are loaded -/
theorem duLoad {w1 w2 w3 : World} {L : Ly} {tb : Nat} {v : Value} {rt : Int} {l : List El} (h1 : w1.grows w2) (h2 : w2.grows w3) (t1 : RawAt w2 L ⟨rt, lastI l + 1, l⟩) (o1 : ∀ k, L.own l k → w1.heap.size ≤ k) (r1 : R2 w2 w3 tb v (lastI l + 1) l) (hG : Dm.Good ⟨rt, lastI l + 1, l⟩) (hw : ∀ e ∈ l, e.Wf) : DuSt w1 w3 L.t tb ⟨rt, lastI l + 1, l⟩ := by
  have s1 := h1.below.size
  have hT : TreeAt w2 L ⟨rt, lastI l + 1, l⟩ := t1.tree hG.wf hw
  exact ⟨L, _, v, rfl, ⟨h1.trans h2, hT.grows h2, r1.ref rt hw, o1, fun k hk => by omega, fun k hk hq => by have := hT.lt hk; omega⟩, hG⟩

set_option maxRecDepth 100000 in
set_option maxHeartbeats 40000000 in
theorem domLoads_any (v v' : Value) (M : Dm) (l : List Opn) (w : World) (hv : ElsAt w v M.els) (hw : ∀ e ∈ M.els, e.Wf0) (hs : SlAt w (fun _ => True) 11 OpR v' l) : Calls Tryz.prog 3 #[v, v'] w (Gives w (.bool true)) := by
  obtain ⟨a1, c1, rfl, _⟩ := hs.len
  obtain ⟨_, hl63, hg⟩ := ops_get8 hs
  have HG := Lib.hid hg
  clear hs hg
  by_cases hbad : M.els.length = 0 ∨ 256 < M.els.length ∨ elsErr (-1) M.els ≠ 0
  · -- an error of the elements by themselves
    obtain ⟨a0, c0, rfl, _⟩ := hv.len
    have HCA : ∃ c : Int, c ≠ 0 ∧ (∀ W, w.grows W → Calls Tryz.prog 4 #[.slice a0 M.els.length c0] W fun r w' => r = .returned (.tuple #[.pointer none, .int .i64 c]) ∧ W.grows w') ∧ (∀ W, w.grows W → Calls Tryz.prog 5 #[.slice a0 M.els.length c0] W fun r w' => r = .returned (.tuple #[.pointer none, .int .i64 c]) ∧ W.grows w') := by
      by_cases h0 : M.els.length = 0
      · rw [h0]
        exact ⟨1, by decide, fun W _ => domLoad0_any W a0 c0, fun W _ => refLoad0_any W a0 c0⟩
      by_cases h1 : 256 < M.els.length
      · exact ⟨6, by decide, fun W _ => domLoadF_any W a0 _ c0 h1, fun W _ => refLoadF_any W a0 _ c0 h1⟩
      have h2 : elsErr (-1) M.els ≠ 0 := by
        rcases hbad with h | h | h
        · exact absurd h h0
        · exact absurd h h1
        · exact h
      refine ⟨elsErr (-1) M.els, h2, fun W hW => domLoadE_any W _ M (hv.grows hW) hw (by omega) h2, fun W hW => (refLoadG_any W _ M (hv.grows hW) hw h0 (by omega) (fun _ => 0) (fun _ hz => absurd hz h2)).mono ?_⟩
      rintro r w' ⟨hgr, ⟨_, hr⟩ | ⟨hz, _⟩⟩
      · exact ⟨hr, hgr⟩
      · exact absurd hz h2
    obtain ⟨c, hc, hd, hr⟩ := HCA
    have HD := Lib.hid hd; have HR := Lib.hid hr
    have hcb : (c == 0) = false := by simpa using hc
    have hcb2 : (c != 0) = true := by simpa using hc
    clear hd hr hv hw hbad HG
    go_enter Tryz.func3, Tryz.ntmps3
    go_upto_region 2 with (go_at_call 4; go_loud ((with_reducible refine (HD.out _ World.grows.refl).mono ?_); rintro r w2 ⟨rfl, hg2⟩))
    go_upto_region 3 with (go_at_call 5; go_loud ((with_reducible refine (HR.out _ hg2).mono ?_); rintro r w3 ⟨rfl, hg3⟩))
    have hw3 := hg2.trans hg3
    go_wp2_with (go_at_call 6; (with_reducible refine (awake_any _).mono ?_); rintro r wa ⟨rfl, xa, rfl⟩)
    go_ret
    exact ⟨rfl, (by repeat (with_reducible first | assumption | exact grA | apply grB | apply grC | apply grD | refine grE ?_ (by omega) _ | refine grF ?_ (by omega) _ _))⟩
  have h0 : M.els.length ≠ 0 := fun h => hbad (.inl h)
  have h1 : M.els.length ≤ 256 := by apply Classical.byContradiction; intro h; exact hbad (.inr (.inl (by omega)))
  have h2 : elsErr (-1) M.els = 0 := by apply Classical.byContradiction; intro h; exact hbad (.inr (.inr h))
  clear hbad
  obtain ⟨dep, hdep⟩ : ∃ dep, Jnd M → ∃ r, isR M r = true ∧ Dep0 M r dep := by
    by_cases hJ : Jnd M
    · obtain ⟨dep, hd⟩ := jnd_dep h2 h1 hJ
      exact ⟨dep, fun _ => hd⟩
    · exact ⟨fun _ => 0, fun h => absurd h hJ⟩
  have HD := Lib.hid (domLoadD_any w v M hv hw h0 h1 h2 dep hdep)
  have HR := Lib.hid (fun (W : World) (hW : w.grows W) => refLoadG_any W v M (hv.grows hW) hw h0 h1 dep (fun hj _ => hdep hj))
  by_cases hok : Jnd M ∧ ∀ e ∈ M.els, dep e.id ≤ 32
  case neg =>
    have HCA : ∃ c : Int, c ≠ 0 ∧ (Calls Tryz.prog 4 #[v] w fun r w' => r = .returned (.tuple #[.pointer none, .int .i64 c]) ∧ w.grows w') ∧ (∀ W, w.grows W → Calls Tryz.prog 5 #[v] W fun r w' => r = .returned (.tuple #[.pointer none, .int .i64 c]) ∧ W.grows w') := by
      by_cases hJ : Jnd M
      · have hdp : ¬ ∀ e ∈ M.els, dep e.id ≤ 32 := fun h => hok ⟨hJ, h⟩
        refine ⟨7, by decide, HD.out.mono ?_, fun W hW => (HR.out W hW).mono ?_⟩
        · rintro r w' ⟨hgr, ⟨hj, _⟩ | ⟨_, _, hr⟩ | ⟨_, h32, _⟩⟩
          · exact absurd hJ hj
          · exact ⟨hr, hgr⟩
          · exact absurd h32 hdp
        · rintro r w' ⟨hgr, ⟨hz, _⟩ | ⟨_, ⟨hj, _⟩ | ⟨_, _, hr⟩ | ⟨_, h32, _⟩⟩⟩
          · exact absurd h2 hz
          · exact absurd hJ hj
          · exact ⟨hr, hgr⟩
          · exact absurd h32 hdp
      · refine ⟨5, by decide, HD.out.mono ?_, fun W hW => (HR.out W hW).mono ?_⟩
        · rintro r w' ⟨hgr, ⟨_, hr⟩ | ⟨hj, _⟩ | ⟨hj, _⟩⟩
          · exact ⟨hr, hgr⟩
          · exact absurd hj hJ
          · exact absurd hj hJ
        · rintro r w' ⟨hgr, ⟨hz, _⟩ | ⟨_, ⟨_, hr⟩ | ⟨hj, _⟩ | ⟨hj, _⟩⟩⟩
          · exact absurd h2 hz
          · exact ⟨hr, hgr⟩
          · exact absurd hj hJ
          · exact absurd hj hJ
    obtain ⟨c, hc, hd, hr⟩ := HCA
    have HD2 := Lib.hid hd; have HR2 := Lib.hid hr
    have hcb : (c == 0) = false := by simpa using hc
    have hcb2 : (c != 0) = true := by simpa using hc
    clear hd hr hv hw HG HD HR hdep hok h2
    go_enter Tryz.func3, Tryz.ntmps3
    go_upto_region 2 with (go_at_call 4; go_loud ((with_reducible refine (HD2.out).mono ?_); rintro r w2 ⟨rfl, hg2⟩))
    go_upto_region 3 with (go_at_call 5; go_loud ((with_reducible refine (HR2.out _ hg2).mono ?_); rintro r w3 ⟨rfl, hg3⟩))
    have hw3 := hg2.trans hg3
    go_wp2_with (go_at_call 6; (with_reducible refine (awake_any _).mono ?_); rintro r wa ⟨rfl, xa, rfl⟩)
    go_ret
    exact ⟨rfl, (by repeat (with_reducible first | assumption | exact grA | apply grB | apply grC | apply grD | refine grE ?_ (by omega) _ | refine grF ?_ (by omega) _ _))⟩
  obtain ⟨hJ, h32⟩ := hok
  have HLG := Lib.hid (fun rt (hr : isR M rt = true) => by
    obtain ⟨r0, hr0, hD0⟩ := hdep hJ
    obtain rfl := isR_one hJ hr0 hr
    exact load_good h2 h1 hJ hr hD0 h32 hw)
  have HD2 := Lib.hid (HD.out.mono (R' := fun r w' => w.grows w' ∧ ∃ (L : Ly) (rt : Int), r = .returned (.tuple #[.pointer (some ⟨L.t, 0, none⟩), .int .i64 0]) ∧ isR M rt = true ∧ RawAt w' L ⟨rt, lastI M.els + 1, M.els⟩ ∧ ∀ k, L.own M.els k → w.heap.size ≤ k) (by
    rintro r w' ⟨hgr, ⟨hj, _⟩ | ⟨_, ⟨e, he, hb⟩, _⟩ | ⟨_, _, h⟩⟩
    · exact absurd hJ hj
    · have := h32 e he; omega
    · exact ⟨hgr, h⟩))
  have HR2 := Lib.hid (fun (W : World) (hW : w.grows W) => (HR.out W hW).mono (R' := fun r w' => W.grows w' ∧ ∃ (tb : Nat) (v' : Value), r = .returned (.tuple #[.pointer (some ⟨tb, 0, none⟩), .int .i64 0]) ∧ R2 W w' tb v' (lastI M.els + 1) M.els) (by
    rintro r w' ⟨hgr, ⟨hz, _⟩ | ⟨_, ⟨hj, _⟩ | ⟨_, ⟨e, he, hb⟩, _⟩ | ⟨_, _, h⟩⟩⟩
    · exact absurd h2 hz
    · exact absurd hJ hj
    · have := h32 e he; omega
    · exact ⟨hgr, h⟩))
  clear HD HR hv hw hdep h2
  go_enter Tryz.func3, Tryz.ntmps3
  go_upto_region 2 with (go_at_call 4; go_loud ((with_reducible refine (HD2.out).mono ?_); rintro r w2 ⟨hg2, L, rt, rfl, hrt, hT, hO⟩))
  go_upto_region 3 with (go_at_call 5; go_loud ((with_reducible refine (HR2.out _ hg2).mono ?_); rintro r w3 ⟨hg3, t2, vr, rfl, hR⟩))
  have HS0 := Lib.hid (duLoad hg2 hg3 hT hO hR (HLG.out rt hrt).1 (HLG.out rt hrt).2)
  have hw3 := hg2.trans hg3
  clear hT hO hR HD2 HR2 HLG hrt hJ h32
  generalize L.t = t1 at *
  generalize (⟨rt, lastI M.els + 1, M.els⟩ : Dm) = M0 at *
  obtain ⟨Lt0, Q0, vr0, e0, hd0, hG0⟩ := HS0.out
  have hLK0 := like_any w3 Lt0 t2 Q0 vr0 M0 hd0.tr hd0.rf hG0
  rw [e0] at hLK0
  have HLK0 := Lib.hid hLK0
  have HD0 := Lib.hid hd0
  have HG0 := Lib.hid hG0
  clear hLK0 hd0 hG0 HS0
  go_upto_region 8 with (go_at_call 7; go_loud ((with_reducible refine HLK0.out.mono ?_); rintro r w3' ⟨rfl, hg3'⟩))
  have HS := Lib.hid (show DuSt w w3' t1 t2 M0 from ⟨Lt0, Q0, vr0, e0, HD0.out.grows hg3', HG0.out⟩)
  have hw3' := hw3.trans hg3'
  clear HD0 HG0 HLK0
  go_loopg [9] 60 (fun gn v9 wj => ∃ (i : Nat) (M : Dm), Hid (gn + i = 60 ∧ i ≤ 60 ∧ i ≤ l.length) ∧ v9 = .int .i64 i ∧ Hid (DuSt w wj t1 t2 M))
  case atStart => exact ⟨0, M0, Lib.hid ⟨by simp, Nat.zero_le _, Nat.zero_le _⟩, by go_num, HS⟩
  case round =>
    obtain ⟨i, M, HQ, rfl, HS1⟩ := hrel
    obtain ⟨j1, j2, j3⟩ := HQ.out
    obtain ⟨Lt, Q, vr, e1, h2, hG⟩ := HS1.out
    by_cases hin : i < l.length ∧ i < 60
    · have i1 : (i : Int) < (l.length : Int) := by omega
      have i2 : (i : Int) < 60 := by omega
      rcases HG.out with h0 | ⟨g, off, rfl, el⟩
      · rw [h0] at hin; simp at hin
      have hgt := List.getElem?_eq_getElem hin.1
      obtain ⟨cs, l1, k1, rfl, hok⟩ := el i _ hgt
      generalize l[i] = x at *
      have kr := k1.grows h2.gr
      have zr := lt_sz kr.lt
      obtain ⟨u1, u2⟩ := kr
      rw [l1] at u1 u2
      have hst := step_any wr Lt M h2.tr hG x hok
      rw [e1] at hst
      have HST := Lib.hid hst
      have H2 := Lib.hid h2; have HGD := Lib.hid hG
      clear hst el HG hgt h2 hG HS1 HS
      go_upto_region 11 with (go_at_call 8; go_loud ((with_reducible refine HST.out.mono ?_); rintro r w4 ⟨rfl, hE⟩))
      obtain ⟨Lt', f1, h4⟩ := H2.out.stepT hE
      have kr4 := k1.grows h4.gr
      have zr4 := lt_sz kr4.lt
      obtain ⟨u3, u4⟩ := kr4
      rw [l1] at u3 u4
      have HST4 := Lib.hid (model_any w4 t2 Q vr M h4.rf HGD.out x hok)
      have H4 := Lib.hid h4
      clear h4 u1 u2 zr HST hE k1
      go_upto_region 12 with (go_at_call 9; go_loud ((with_reducible refine HST4.out.mono ?_); rintro r w5 ⟨rfl, hE⟩))
      obtain ⟨Q', v', h5⟩ := H4.out.stepU hE
      have hLK := like_any w5 Lt' t2 Q' v' (M.step x).2.2 h5.tr h5.rf (HGD.out.step x)
      rw [f1.trans e1] at hLK
      have HLK := Lib.hid hLK
      have HD5 := Lib.hid h5
      have HGX := Lib.hid (HGD.out.step x)
      clear hLK hE h5 u3 u4 zr4
      generalize M.step x = sx at *
      go_wp2_with (go_at_call 7; go_loud ((with_reducible refine HLK.out.mono ?_); rintro r w6 ⟨rfl, hg6⟩))
      have HN := Lib.hid (show DuSt w w6 t1 t2 sx.2.2 from ⟨Lt', Q', v', f1.trans e1, HD5.out.grows hg6, HGX.out⟩)
      go_roundg (60 - (i + 1))
      case measure => omega
      case rel => exact ⟨i + 1, sx.2.2, Lib.hid ⟨by omega, by omega, by omega⟩, by go_num, HN⟩
    · have hwr := h2.gr
      by_cases hl : i < l.length
      · have i1 : (i : Int) < (l.length : Int) := by omega
        have i2 : ¬ (i : Int) < 60 := by omega
        clear hin h2
        go_wp2_with (go_at_call 6; (with_reducible refine (awake_any _).mono ?_); rintro r wa ⟨rfl, xa, rfl⟩)
        go_ret
        exact ⟨rfl, (by repeat (with_reducible first | assumption | exact grA | apply grB | apply grC | apply grD | refine grE ?_ (by omega) _ | refine grF ?_ (by omega) _ _))⟩
      · have i1 : ¬ (i : Int) < (l.length : Int) := by omega
        clear hin h2
        go_wp2_with (go_at_call 6; (with_reducible refine (awake_any _).mono ?_); rintro r wa ⟨rfl, xa, rfl⟩)
        go_ret
        exact ⟨rfl, (by repeat (with_reducible first | assumption | exact grA | apply grB | apply grC | apply grD | refine grE ?_ (by omega) _ | refine grF ?_ (by omega) _ _))⟩
end Go.Proofs.YtdbddnkjiehaiaaGreat
