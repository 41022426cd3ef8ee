/- WALK of DomPlays: a tree and the reference's, played the same script, stay alike. No condition. -/
import Derived.Test.YtdbddnkjiehaiaaDomQk
import Derived.Test.YtdbddnkjiehaiaaMl
import Derived.Test.YtdbddnkjiehaiaaArgsD
set_option linter.unusedSimpArgs false
set_option linter.unusedVariables false
namespace Go.Proofs.Ytdbddnkjiehaiaa
open Go.Maps Go.RowKit Go.Sort
theorem ops_get8 {w : World} {a : Option Addr} {n c : Nat} {l : List Opn} (h : SlAt w (fun _ => True) 11 OpR (.slice a n c) l) : n = l.length ∧ l.length ≤ 9223372036854775807 ∧ (l = [] ∨ ∃ g off, a = some ⟨g, off, none⟩ ∧ ∀ (i : Nat) (x : Opn), l[i]? = some x → ∃ cs, cs.length = 11 ∧ eltAt w g (off + i * 11) cs ∧ OpR x cs) := by
  obtain ⟨_, _, e4, h5, h6, b5⟩ := h
  injection e4 with e4 e5 e6
  subst e4; subst e6; subst e5
  exact ⟨rfl, Nat.le_trans h5 h6, b5.imp id fun ⟨g, off, h1, _, h2⟩ => ⟨g, off, h1, h2⟩⟩
/-- a tree and the reference's, apart in memory -/
structure Duo (W w : World) (L : Ly) (t : Nat) (Q : Nat → Prop) (v : Value) (Mt Mu : Dm) : Prop where
  gr : W.grows w
  tr : TreeAt w L Mt
  rf : RefAt w t Q v Mu
  ot : ∀ k, L.own Mt.els k → W.heap.size ≤ k
  ou : ∀ k, Q k → W.heap.size ≤ k
  ap : ∀ k, L.own Mt.els k → ¬ Q k
theorem Duo.grows {W w w' : World} {L : Ly} {t : Nat} {Q : Nat → Prop} {v : Value} {Mt Mu : Dm} (h : Duo W w L t Q v Mt Mu) (hg : w.grows w') : Duo W w' L t Q v Mt Mu := ⟨h.gr.trans hg, h.tr.grows hg, h.rf.grows hg, h.ot, h.ou, h.ap⟩
theorem Duo.stepT {W w w' : World} {L : Ly} {t : Nat} {Q : Nat → Prop} {v : Value} {Mt Mu Mt' : Dm} (h : Duo W w L t Q v Mt Mu) (he : Edt w L Mt Mt' w') : ∃ L' : Ly, L'.t = L.t ∧ Duo W w' L' t Q v Mt' Mu := by
  obtain ⟨L', h1, h2, h3⟩ := he
  refine ⟨L', h1, h2.gr W h.ot h.gr, h3, h.rf.keep (fun k hk => h2.row k (fun ht => h.ap k ht hk) (h.rf.qlt k hk)) h2.size, fun k hk => ?_, h.ou, fun k hk hu => ?_⟩
  · rcases h2.sub k hk with h4 | h4
    · exact h.ot k h4
    · exact Nat.le_trans h.gr.below.size h4
  · rcases h2.sub k hk with h4 | h4
    · exact h.ap k h4 hu
    · have := h.rf.qlt k hu; omega
theorem Duo.stepU {W w w' : World} {L : Ly} {t : Nat} {Q : Nat → Prop} {v : Value} {Mt Mu Mu' : Dm} (h : Duo W w L t Q v Mt Mu) (he : REdt w t Q Mu' w') : ∃ (Q' : Nat → Prop) (v' : Value), Duo W w' L t Q' v' Mt Mu' := by
  obtain ⟨Q', v', h2, h3⟩ := he
  refine ⟨Q', v', h2.gr W h.ou h.gr, h.tr.chg h2 fun k hk ht => h.ap k hk ht, h3, h.ot, fun k hk => ?_, fun k hk hu => ?_⟩
  · rcases h2.sub k hk with h4 | h4
    · exact h.ou k h4
    · exact Nat.le_trans h.gr.below.size h4
  · rcases h2.sub k hu with h4 | h4
    · exact h.ap k hk h4
    · have := h.tr.lt hk; omega
/-- the two behind some steps -/
def DuSt (W wj : World) (t u : Nat) (M : Dm) : Prop := ∃ (L : Ly) (Q : Nat → Prop) (v : Value), L.t = t ∧ Duo W wj L u Q v M M ∧ M.Good
theorem duNew {w1 w2 w3 : World} {L : Ly} {t : Nat} {Q : Nat → Prop} {v : Value} {tag : ByteArray} (h1 : w1.grows w2) (h2 : w2.grows w3) (t1 : TreeAt w2 L (newM tag)) (t2 : RefAt w3 t Q v (newM tag)) (o1 : ∀ k, L.own (newM tag).els k → w1.heap.size ≤ k) (o2 : ∀ k, Q k → w2.heap.size ≤ k) : DuSt w1 w3 L.t t (newM tag) := by
  have := h1.below.size
  exact ⟨L, Q, v, rfl, ⟨h1.trans h2, t1.grows h2, t2, o1, fun k hk => by have := o2 k hk; omega, fun k hk hu => by have := t1.lt hk; have := o2 k hu; omega⟩, newM_good tag⟩

set_option maxRecDepth 100000 in
set_option maxHeartbeats 40000000 in
theorem domPlays_any (tag : ByteArray) (v : Value) (l : List Opn) (w : World) (ht : tag.size ≤ maxLen) (hs : SlAt w (fun _ => True) 11 OpR v l) : Calls Try.prog 5 #[.string tag, v] w (Gives w (.bool true)) := by
  obtain ⟨a0, c0, rfl, _⟩ := hs.len
  obtain ⟨_, hl63, hg⟩ := ops_get8 hs
  have HG := Lib.hid hg
  clear hs hg
  have HN := Lib.hid (fun W => domNew_any W tag ht)
  have HM := Lib.hid (fun W => refNew_any W tag ht)
  cases hn : nameB tag.data.toList with
  | false =>
    have HX := Lib.hid hn
    clear hn
    go_enter Try.func5, Try.ntmps5
    go_upto_region 2 with (go_at_call 8; go_loud ((with_reducible refine (HN.out _).mono ?_); rintro r w2 ⟨hg2, ⟨_, rfl⟩ | ⟨hbad, L1, rfl, hT1, hO1⟩⟩); (all_goals (first | (exact absurd (HX.out.symm.trans hbad) (by decide)) | skip)))
    go_upto_region 3 with (go_at_call 9; go_loud ((with_reducible refine (HM.out _).mono ?_); rintro r w3 ⟨hg3, ⟨_, rfl⟩ | ⟨hbad, t2, Q2, v2, rfl, hR2, hO2⟩⟩); (all_goals (first | (exact absurd (HX.out.symm.trans hbad) (by decide)) | skip)))
    have hw3 := hg2.trans hg3
    go_wp2_with (go_at_call 24; (with_reducible refine (awake_any _).mono ?_); rintro r wa ⟨rfl, xa, rfl⟩)
    go_ret
    exact ⟨rfl, (by repeat (with_reducible first | assumption | exact grA | apply grB | apply grC | apply grD | refine grE ?_ (by omega) _ | refine grF ?_ (by omega) _ _))⟩
  | true =>
    have HX := Lib.hid hn
    clear hn
    go_enter Try.func5, Try.ntmps5
    go_upto_region 2 with (go_at_call 8; go_loud ((with_reducible refine (HN.out _).mono ?_); rintro r w2 ⟨hg2, ⟨hbad, _⟩ | ⟨_, L1, rfl, hT1, hO1⟩⟩); (first | (exact absurd (HX.out.symm.trans hbad) (by decide)) | skip))
    go_upto_region 3 with (go_at_call 9; go_loud ((with_reducible refine (HM.out _).mono ?_); rintro r w3 ⟨hg3, ⟨hbad, _⟩ | ⟨_, t2, Q2, v2, rfl, hR2, hO2⟩⟩); (first | (exact absurd (HX.out.symm.trans hbad) (by decide)) | skip))
    have HS := Lib.hid (duNew hg2 hg3 hT1 hR2 hO1 hO2)
    have hw3 := hg2.trans hg3
    clear hT1 hR2 hO1 hO2 HN HM HX
    generalize L1.t = t1 at *
    generalize newM tag = M0 at *
    go_upto_region 6 with fail
    go_loopg [9] 400 (fun gn v9 wj => ∃ (i : Nat) (M : Dm), Hid (gn + i = 400 ∧ i ≤ 400 ∧ i ≤ l.length) ∧ v9 = .int .i64 i ∧ Hid (DuSt w wj t1 t2 M))
    case atStart => exact ⟨0, M0, Lib.hid ⟨by simp, Nat.zero_le _, Nat.zero_le _⟩, by go_num, HS⟩
    case round =>
      obtain ⟨i, M, HQ, rfl, HS1⟩ := hrel
      obtain ⟨j1, j2, j3⟩ := HQ.out
      obtain ⟨Lt, Q, vr, e1, h2, hG⟩ := HS1.out
      by_cases hin : i < l.length ∧ i < 400
      · have i1 : (i : Int) < (l.length : Int) := by omega
        have i2 : (i : Int) < 400 := by omega
        rcases HG.out with h0 | ⟨g, off, rfl, el⟩
        · rw [h0] at hin; simp at hin
        have hgt := List.getElem?_eq_getElem hin.1
        obtain ⟨cs, l1, k1, rfl, hok⟩ := el i _ hgt
        generalize l[i] = x at *
        have kr := k1.grows h2.gr
        have zr := lt_sz kr.lt
        obtain ⟨u1, u2⟩ := kr
        rw [l1] at u1 u2
        have hst := step_any wr Lt M h2.tr hG x hok
        rw [e1] at hst
        have HST := Lib.hid hst
        have H2 := Lib.hid h2; have HGD := Lib.hid hG
        clear hst el HG hgt h2 hG HS1 HS
        go_upto_region 9 with (go_at_call 10; go_loud ((with_reducible refine HST.out.mono ?_); rintro r w4 ⟨rfl, hE⟩))
        obtain ⟨Lt', f1, h4⟩ := H2.out.stepT hE
        have kr4 := k1.grows h4.gr
        have zr4 := lt_sz kr4.lt
        obtain ⟨u3, u4⟩ := kr4
        rw [l1] at u3 u4
        have HST4 := Lib.hid (model_any w4 t2 Q vr M h4.rf HGD.out x hok)
        have H4 := Lib.hid h4
        clear h4 u1 u2 zr HST hE k1
        go_upto_region 10 with (go_at_call 11; go_loud ((with_reducible refine HST4.out.mono ?_); rintro r w5 ⟨rfl, hE⟩))
        obtain ⟨Q', v', h5⟩ := H4.out.stepU hE
        have hLK := like_any w5 Lt' t2 Q' v' (M.step x).2.2 h5.tr h5.rf (HGD.out.step x)
        rw [f1.trans e1] at hLK
        have HLK := Lib.hid hLK
        have HD5 := Lib.hid h5
        have HGX := Lib.hid (HGD.out.step x)
        clear hLK hE h5 u3 u4 zr4
        generalize M.step x = sx at *
        go_wp2_with (go_at_call 28; go_loud ((with_reducible refine HLK.out.mono ?_); rintro r w6 ⟨rfl, hg6⟩))
        have HN := Lib.hid (show DuSt w w6 t1 t2 sx.2.2 from ⟨Lt', Q', v', f1.trans e1, HD5.out.grows hg6, HGX.out⟩)
        go_roundg (400 - (i + 1))
        case measure => omega
        case rel => exact ⟨i + 1, sx.2.2, Lib.hid ⟨by omega, by omega, by omega⟩, by go_num, HN⟩
      · have hwr := h2.gr
        by_cases hl : i < l.length
        · have i1 : (i : Int) < (l.length : Int) := by omega
          have i2 : ¬ (i : Int) < 400 := by omega
          clear hin h2
          go_wp2_with (go_at_call 24; (with_reducible refine (awake_any _).mono ?_); rintro r wa ⟨rfl, xa, rfl⟩)
          go_ret
          exact ⟨rfl, (by repeat (with_reducible first | assumption | exact grA | apply grB | apply grC | apply grD | refine grE ?_ (by omega) _ | refine grF ?_ (by omega) _ _))⟩
        · have i1 : ¬ (i : Int) < (l.length : Int) := by omega
          clear hin h2
          go_wp2_with (go_at_call 24; (with_reducible refine (awake_any _).mono ?_); rintro r wa ⟨rfl, xa, rfl⟩)
          go_ret
          exact ⟨rfl, (by repeat (with_reducible first | assumption | exact grA | apply grB | apply grC | apply grD | refine grE ?_ (by omega) _ | refine grF ?_ (by omega) _ _))⟩
end Go.Proofs.Ytdbddnkjiehaiaa
