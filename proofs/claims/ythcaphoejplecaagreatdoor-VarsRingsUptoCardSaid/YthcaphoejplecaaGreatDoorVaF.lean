/- WALK over jalousieref5: the component values of tokens. No condition but the bound on their number. -/
import Derived.Test.YthcaphoejplecaaGreatDoorVaR
import Derived.Test.YthcaphoejplecaaGreatDoorVaY
import Derived.Test.YthcaphoejplecaaGreatDoorSeqJ
set_option linter.unusedSimpArgs false
set_option linter.unusedVariables false
namespace Go.Proofs.YthcaphoejplecaaGreatDoor
open Go.RowKit
theorem RStk.start {w0 w : World} {b0 : Nat} (hg : w0.grows w) (l0 : w0.heap.size ≤ b0) (h0 : w.row b0 = some (.cells #[.int .i64 0, .string ByteArray.empty, .int .i64 0, .int .i64 0, .bool false, .bool false, .slice none 0 0] 80)) :
    RStk w0 w (.slice (some ⟨b0, 0, none⟩) 1 1) (Ps.run []) := by
  refine ⟨(fun g => if g = b0 then some 0 else none), [.slice none 0 0], hg, rfl, ?_, (fun t ht => (by cases ht)), ⟨rfl, fun i v l q1 q2 => ?_, fun i v g q1 q2 => ?_⟩, fun g hg => ?_⟩
  · exact ⟨rfl, .inr ⟨b0, 1, _, rfl, l0, h0, Nat.le_refl _, by simp [maxLen], rfl, rfl⟩⟩
  · cases i with
    | zero =>
      simp [Ps.run] at q1 q2
      subst q1; subst q2
      exact ⟨[], rfl, fun j x cs p1 _ => by simp at p1, by simp, .inl ⟨rfl, rfl⟩⟩
    | succ i => simp at q1
  · cases i with
    | zero => simp at q1; subst q1; cases q2
    | succ i => simp at q1
  · have : b0 = g := by injection hg
    simp [this]
set_option maxRecDepth 100000 in
set_option maxHeartbeats 8000000 in
theorem fValues_any {w : World} {v : Value} {l : List Tk} (h : TksAt w v l) (hn : l.length ≤ 4194304) :
    Calls Tryz.prog 26 #[v] w fun e w' => ∃ r, e = .returned r ∧ w.grows w' ∧ VsAt w' (fun g => w.heap.size ≤ g) r (parse l) := by
  obtain ⟨a, cap, rfl, hcap, hcap2, h⟩ := h
  have HE := Lib.hid h
  clear h
  go_enter Tryz.func26, Tryz.ntmps26
  go_upto_region 2 with fail
  have hG : w.grows (w.alloc (.cells #[.int .i64 0, .string ⟨#[]⟩, .int .i64 0, .int .i64 0, .bool false, .bool false, .slice none 0 0] 80)) := (by repeat (with_reducible first | assumption | exact grA | apply grB | apply grC | apply grD | refine grE ?_ (by omega) _ | refine grF ?_ (by omega) _ _))
  have HS0 : Hid (RStk w (w.alloc (.cells #[.int .i64 0, .string ⟨#[]⟩, .int .i64 0, .int .i64 0, .bool false, .bool false, .slice none 0 0] 80)) (.slice (some ⟨w.heap.size, 0, none⟩) 1 1) (Ps.run [])) :=
    Lib.hid (RStk.start hG (Nat.le_refl _) (by simp [go_sem]; rfl))
  generalize (w.alloc (.cells #[.int .i64 0, .string ⟨#[]⟩, .int .i64 0, .int .i64 0, .bool false, .bool false, .slice none 0 0] 80)) = w1 at *
  go_wp2_with fail
  go_loopg [3, 11] l.length (fun gn v3 v11 wj => ∃ i : Nat, Hid (gn + i = l.length ∧ i ≤ l.length) ∧ v11 = .int .i64 i ∧ Hid (RStk w wj v3 (Ps.run (l.take i))))
  case atStart => exact ⟨0, Lib.hid ⟨by simp, Nat.zero_le _⟩, by go_num, by simpa using HS0⟩
  case round =>
    obtain ⟨i, HQ, rfl, HS⟩ := hrel
    obtain ⟨j1, j2⟩ := HQ.out
    by_cases hlt : i < l.length
    · have iI : (i : Int) < (l.length : Int) := by omega
      rcases HE.out with h0 | ⟨g, off, rfl, -, e1⟩
      · rw [h0] at hlt; simp at hlt
      have hgt : l[i]? = some l[i] := List.getElem?_eq_getElem hlt
      have HST := Lib.hid (Ps.run_succ hgt)
      have hpt := Ps.run_tot i l
      obtain ⟨cs, _, k1, rfl, twf⟩ := e1 i _ hgt
      generalize Ps.run (l.take i) = p at *
      generalize l[i] = t at *
      obtain ⟨k, s, n1, d, q1, q2⟩ := t
      obtain ⟨tg, ins, hg0, hD⟩ := HS.out
      have k2 := k1.grows hg0
      have z3 := lt_sz k2.lt
      obtain ⟨u1, u2⟩ := k2
      replace u1 : segOk (off + i * 6) 6 (wr.row g) = true := u1
      replace u2 : segV (off + i * 6) 6 (wr.row g) = .agg #[.int .i64 k, .string s, .int .i64 n1, .int .i64 d, .bool q1, .bool q2] := u2
      obtain ⟨os, ls⟩ := p
      have hpl := hD.len
      simp only at hpl
      obtain ⟨ls0, m, rfl, hls⟩ := snoc_of hpl
      have hil : ins.length = os.length + 1 := hD.ilen
      obtain ⟨ins, um, rfl, hi2⟩ := snoc_of hil
      obtain ⟨aM, cM, rfl⟩ : ∃ a c, um = .slice a m.length c := by
        obtain ⟨_, _, _, h3⟩ := hD.ls.inn os.length um m (by rw [← hi2]; simp) (by rw [← hls]; simp)
        exact own_slice h3
      obtain ⟨X, b, hX, hb, hfr⟩ := frC_last (os := os) (ins := ins) hi2
      have hF := hD.fs
      have hle : (ls0 ++ [m]).length = os.length + 1 := by simp [hls]
      simp only [hle, hfr] at hF
      obtain ⟨gF, cF, curF, rfl, eF, kF, mF, bF, zF, rF, sF, -⟩ := own_elt hF (X := X) (cs := b.cs ++ [.slice aM m.length cM]) (Y := []) (by simp) (by simp)
      rw [hX] at eF
      have c0 := eF.cell (j := 0) rfl
      have c6 := eF.cell (j := 6) rfl
      rw [World.cell?_row, rF] at c0 c6
      rw [Nat.add_zero] at c0
      have hc0 : curF[os.length * 7]? = some (.int .i64 b.k) := c0
      have hc6 : curF[os.length * 7 + 6]? = some (.slice aM m.length cM) := c6
      have hcl : os.length * 7 + 6 < curF.size := (Array.getElem?_eq_some_iff.1 hc6).1
      have tF : tg gF = some 0 := hD.tF gF rfl
      obtain ⟨css, c1, c2, hOM⟩ := hD.ls.inn os.length (.slice aM m.length cM) m (by rw [← hi2]; simp) (by rw [← hls]; simp)
      have HMN : Hid (∀ g, (Value.slice aM m.length cM).ownBlock = some g → g ≠ gF ∧ g < wr.heap.size) := Lib.hid fun g hg => ⟨fun e => by
        have := hD.ls.tI os.length (.slice aM m.length cM) g (by rw [← hi2]; simp) hg
        rw [e, tF] at this; simp at this, (hOM.lt g hg).2⟩
      have zF' := lt_sz zF
      have htot : (⟨os, ls0 ++ [m]⟩ : Ps).tot ≤ 4194304 := by omega
      have hml : m.length ≤ 4194304 := by have := htot; unfold Ps.tot at this; simp at this; omega
      have hol : os.length ≤ 4194304 := by have := htot; unfold Ps.tot at this; simp at this; omega
      have hw2 : IntKind.i64.wrap (os.length : Int) = (os.length : Int) := by rw [IntKind.wrap_i64]; omega
      have i1 : (0 : Int) ≤ (os.length : Int) := by omega
      have i2 : (os.length : Int) < (os.length : Int) + 1 := by omega
      have ii0 : (0 : Int) ≤ (i : Int) := by omega
      have HD := Lib.hid hD
      have HTW := Lib.hid twf
      have HTT := Lib.hid htot
      have HH := Lib.hid (And.intro hls (And.intro hi2 hle))
      have HB := Lib.hid (And.intro hb hX)
      have HC1 := Lib.hid c1
      have HC2 := Lib.hid c2
      have HOM := Lib.hid hOM
      have HRF := Lib.hid rF
      clear e1 hgt k1 hD hpl hpt twf hil hi2 hle hls hF hfr hX hb eF c0 c6 c1 c2 hOM htot rF
      go_upto_region 6 with fail
      have hxF := HRF.out
      refine abs_rows (w := wr) (G := fun W => Code.wp _ _ _ _ W) (by repeat (with_reducible first | assumption | exact grA | apply grB | apply grC | apply grD | refine grE ?_ (by omega) _ | refine grF ?_ (by omega) _ _)) [(wr.heap.size, .cells #[.int .i64 k, .string s, .int .i64 n1, .int .i64 d, .bool q1, .bool q2] 65), (gF, .cells curF 80)] (by simp [go_sem, *]) ?_
      intro w2 gw2 hl
      simp only [List.forall_mem_cons, List.not_mem_nil, false_implies, implies_true, and_true] at hl
      obtain ⟨x7, xF⟩ := hl
      have zx7 := row_sz' x7
      have zxF := row_sz' xF
      have hs2 := gw2.below.size
      have hg2 := hg0.trans gw2
      have HD2 := Lib.hid (HD.out.keep hs2 (fun g _ hl => gw2.row_eq hl) (fun _ _ => rfl))
      have HOM2 := Lib.hid (HOM.out.grows gw2)
      have HC22 : Hid (∀ (j : Nat) (x : Vt) (cs : List Value), m[j]? = some x → css[j]? = some cs → cs.length = 7 ∧ VOk w2 (RoS w2 w.heap.size tg) x cs) := Lib.hid fun j x cs p1 p2 => ⟨(HC2.out j x cs p1 p2).1, (HC2.out j x cs p1 p2).2.keep fun g hg _ => ⟨gw2.row_eq hg.2.2, hg.1, hg.2.1, by have := hg.2.2; omega⟩⟩
      have HS2 := Lib.hid (HS.out.grows gw2)
      clear hxF HD HOM HC2 HRF u1 u2 z3 HS gw2
      generalize wr.heap.size = b7 at *
      by_cases ho : os = []
      · have HREF : Hid (Ps.step ⟨os, ls0 ++ [m]⟩ ⟨k, s, n1, d, q1, q2⟩ = if clo k ≠ 0 then ⟨os ++ [⟨k, s, n1, d, q1, q2⟩], ls0 ++ [m] ++ [[]]⟩ else ⟨os, addTop (ls0 ++ [m]) (.mk ⟨k, s, n1, d, q1, q2⟩ [])⟩) := Lib.hid (by
          rw [Ps.step_ref, if_neg (fun hh => hh.1 ho)])
        have b0 : ¬ (0 : Int) < (os.length : Int) := by rw [ho]; simp
        have b0n : decide (0 < os.length) = false := by rw [ho]; rfl
        have b0i : decide ((0 : Int) < (os.length : Int)) = false := by rw [ho]; rfl
        clear ho
        refine wp_region_plus_lit (by kernel_rfl) (by kernel_rfl) ?_
        repeat (go_big_quiet_step (fail))
        (refine wpQuiet_nil ?_; intro _ hw'; obtain ⟨xq, hw''⟩ := hw'; subst hw'')
        go_upto_region 8 with fail
        have gw3 : w2.grows (w2.plus xq) := (by repeat (with_reducible first | assumption | exact grA | apply grB | apply grC | apply grD | refine grE ?_ (by omega) _ | refine grF ?_ (by omega) _ _))
        have x73 : (w2.plus xq).row b7 = _ := (gw3.row_eq zx7.1).trans x7
        have xF3 : (w2.plus xq).row gF = _ := (gw3.row_eq zxF.1).trans xF
        have hg3 := hg2.trans gw3
        have HD3 := Lib.hid (HD2.out.keep gw3.below.size (fun g _ hl => gw3.row_eq hl) (fun _ _ => rfl))
        have HOM3 := Lib.hid (HOM2.out.grows gw3)
        have hs3 := gw3.below.size
        have hlF3 : gF < (w2.plus xq).heap.size := by omega
        have HC3 : Hid (∀ (j : Nat) (x : Vt) (cs : List Value), m[j]? = some x → css[j]? = some cs → cs.length = 7 ∧ VOk (w2.plus xq) (RoS (w2.plus xq) w.heap.size tg) x cs) := Lib.hid fun j x cs p1 p2 => ⟨(HC22.out j x cs p1 p2).1, (HC22.out j x cs p1 p2).2.keep fun g hg _ => ⟨gw3.row_eq hg.2.2, hg.1, hg.2.1, by have := hg.2.2; omega⟩⟩
        clear x7 xF zx7 zxF
        generalize w2.plus xq = w3 at *
        have z73 := row_sz' x73
        have zF3 := row_sz' xF3
        by_cases hc : clo k = 0
        · have HDEF : Hid (Ps.step ⟨os, ls0 ++ [m]⟩ ⟨k, s, n1, d, q1, q2⟩ = ⟨os, ls0 ++ [m ++ [.mk ⟨k, s, n1, d, q1, q2⟩ []]]⟩) := Lib.hid (by
            rw [HREF.out, if_neg (by show ¬ clo k ≠ 0; omega), addTop_snoc])
          have hcb : (clo k == 0) = true := by rw [hc]; rfl
          go_upto_region 10 with ((go_at_call 42; (with_reducible refine (fclo_any k _).mono ?_); rintro e w1 ⟨rfl, x1, rfl⟩))
          refine abs_rows (w := w3) (G := fun W => Code.wp _ _ _ _ W) (by repeat (with_reducible first | assumption | exact grA | apply grB | apply grC | apply grD | refine grE ?_ (by omega) _ | refine grF ?_ (by omega) _ _)) [(b7, .cells #[.int .i64 k, .string s, .int .i64 n1, .int .i64 d, .bool q1, .bool q2] 65), (gF, .cells curF 80)] (by simp [go_sem, *]) ?_
          intro w4 gw4 hl
          simp only [List.forall_mem_cons, List.not_mem_nil, false_implies, implies_true, and_true] at hl
          obtain ⟨x4, xF4⟩ := hl
          have zx4 := row_sz' x4
          have zxF4 := row_sz' xF4
          refine wp_region_seq_inv (S := rowsAs w4 [b7, gF]) 10 (by kernel_rfl) (by kernel_rfl) (rowsAs.drew _ _) ?_
          simp only [List.take_succ_cons, List.take_zero, List.drop_succ_cons, List.drop_zero]
          show wpSeqL _ _ _ _ _ _ (World.drew w4)
          have hdd : w4.grows (World.drew w4) := World.grows.drew World.grows.refl
          repeat (refine wpSeqL_free rfl ?_; refine wpQuiet_step (fun K hK => ?_); (rw [if_pos (by simp [Region.wanted])]; refine Exists.intro ?_ ⟨fun w' hw' => ?_, ?_⟩; rotate_left; focus (have r0 := rowsAs.of hw' x4 (by simp); have s0 := row_sz' r0; have r1 := rowsAs.of hw' xF4 (by simp); have s1 := row_sz' r1; first | (simp [Oper.quietAt, Oper.quietUpon, go_sem, r0, r1, s0, s1, hc6, i1, i2, hw2]; rfl) | (exact ⟨rfl, rfl⟩))); go_simp; refine hK _ ?_; clear hK K; refine wpQuiet_nil ?_)
          have hRA : rowsAs w4 [b7, gF] (World.drew w4) := rowsAs.drew _ _
          have hd0 : (World.drew w4).heap.size = w4.heap.size := rfl
          generalize World.drew w4 = wA at *
          refine wpSeqL_link rfl (fun K hK => ?_)
          go_simp
          have hgB : wA.grows (wA.alloc (.cells #[.int .i64 0, .string ⟨#[]⟩, .int .i64 0, .int .i64 0, .bool false, .bool false, .slice none 0 0] 70)) := World.grows.alloc World.grows.refl _
          have hnB : (wA.alloc (.cells #[.int .i64 0, .string ⟨#[]⟩, .int .i64 0, .int .i64 0, .bool false, .bool false, .slice none 0 0] 70)).row w4.heap.size = some (.cells #[.int .i64 0, .string ⟨#[]⟩, .int .i64 0, .int .i64 0, .bool false, .bool false, .slice none 0 0] 70) := by rw [← hd0]; simp [go_sem]
          have hsB : (wA.alloc (.cells #[.int .i64 0, .string ⟨#[]⟩, .int .i64 0, .int .i64 0, .bool false, .bool false, .slice none 0 0] 70)).heap.size = wA.heap.size + 1 := by simp
          have hRB := hRA.grow hgB (by simp [hd0, zx4, zxF4])
          refine hK _ _ hRB ?_
          clear hK K
          generalize wA.alloc (.cells #[.int .i64 0, .string ⟨#[]⟩, .int .i64 0, .int .i64 0, .bool false, .bool false, .slice none 0 0] 70) = wB at *
          have hg2B : w3.grows wB := (gw4.trans hdd).trans hgB
          refine wpSeqL_appO w.heap.size rfl rfl (.tmp 47) (.tmp 51) 58 rfl 70 (.agg #[.int .i64 0, .string ByteArray.empty, .int .i64 0, .int .i64 0, .bool false, .bool false, .slice none 0 0]) 7 72 Tryz.underlying58 (by kernel_rfl) rfl (by omega) (by omega) _ m.length _ rfl (HOM3.out.grows hg2B) (some ⟨w4.heap.size, 0, none⟩) 1 1 [.int .i64 0, .string ByteArray.empty, .int .i64 0, .int .i64 0, .bool false, .bool false, .slice none 0 0] rfl rfl (.inr ⟨_, rfl, fun j u hu => ?_⟩) (by simp [Value.oneCell']) (by omega) (by have := hg2B.below.size; have := hg3.below.size; omega) ?_
          · exact cells_of_row (e := 70) (fr := (0, 0)) hnB j u hu
          intro v8 wG k1 k2 k3
          replace k2 : wB.grownBy wG (Value.slice aM m.length cM).ownBlock := k2
          replace k3 : v8.ownBlock = (Value.slice aM m.length cM).ownBlock ∨ v8.ownBlock = some wB.heap.size := k3
          have hs2B := hg2B.below.size
          have hRG := hRB.grown k2 (fun b hb => by
            have hb' : b = b7 ∨ b = gF := by simpa using hb
            refine ⟨by rcases hb' with rfl | rfl <;> omega, fun e => ?_⟩
            obtain ⟨e1, e3⟩ := HMN.out b e.symm
            rcases hb' with rfl | rfl
            · omega
            · exact e1 rfl)
          refine ⟨hRG, ?_⟩
          obtain ⟨gV, cV, rfl, bV, zV, hst, hown⟩ := zero_app k1 rfl
          replace k3 : some gV = (Value.slice aM m.length cM).ownBlock ∨ some gV = some wB.heap.size := k3
          have hneV : gV ≠ gF := fun e => by
            rcases k3 with k3 | k3
            · exact (HMN.out gV k3.symm).1 e
            · injection k3 with k3; omega
          have hneV7 : gV ≠ b7 := fun e => by
            rcases k3 with k3 | k3
            · have := (HMN.out gV k3.symm).2; omega
            · injection k3 with k3; omega
          have j1 : (0 : Int) ≤ (m.length : Int) := by omega
          have j2 : (m.length : Int) < (m.length : Int) + 1 := by omega
          have hGF := hRG.of xF4 (by simp)
          have hGO : w.grows wG := (hg3.trans hg2B).grown k2 fun k hk => (HOM3.out.lt k hk).1
          have HG0 := Lib.hid hGO
          have HST2 := Lib.hid hst
          have hst := HST2.out
          have HOWN := Lib.hid hown
          clear hown
          refine wpSeqL_end ?_
          intro a0 ha0
          have g43 := congrArg (fun x : Act => x.tmps.getD 43 undef) ha0
          have g44 := congrArg (fun x : Act => x.tmps.getD 44 undef) ha0
          have g49 := congrArg (fun x : Act => x.tmps.getD 49 undef) ha0
          have g50 := congrArg (fun x : Act => x.tmps.getD 50 undef) ha0
          have g52 := congrArg (fun x : Act => x.tmps.getD 52 undef) ha0
          have hn0 : a0.tmps.size = 66 := by rw [ha0]; rfl
          obtain ⟨J, hJd⟩ : ∃ J : (Nat → Bool) → Act → World → Prop, J = (fun L a' W => Fr a0 [53, 54, 55] a' ∧ w.grows W ∧ W.heap.size = wG.heap.size ∧ (∀ g, g ≠ gV → g ≠ gF → W.row g = wG.row g) ∧ (L 11 = false → W.row gV = wG.row gV) ∧ (L 11 = true → ∃ W0 : World, W0.row gV = wG.row gV ∧ W.row gV = (W0.setCells gV (m.length * 7) [.int .i64 k, .string s, .int .i64 n1, .int .i64 d, .bool q1, .bool q2, .slice none 0 0]).row gV) ∧ (L 14 = false → W.row gF = wG.row gF) ∧ (L 14 = true → W.row gF = some (.cells (layV curF.toList (os.length * 7 + 6) [.slice (some ⟨gV, 0, none⟩) (m.length + 1) cV]).toArray 80)) ∧ (L 10 = true → a'.tmps.getD 53 undef = .pointer (some ⟨gV, m.length * 7, none⟩)) ∧ (L 12 = true → a'.tmps.getD 54 undef = .pointer (some ⟨gF, os.length * 7, none⟩)) ∧ (L 13 = true → a'.tmps.getD 55 undef = .pointer (some ⟨gF, os.length * 7 + 6, none⟩)) ∧ True) := ⟨_, rfl⟩
          refine ⟨J, ?_, ?_, ?_⟩
          · intro L hL1 hL2
            rw [hJd]
            exact ⟨Fr.refl, HG0.out, rfl, (fun g _ _ => rfl), fun _ => rfl, iN (hL2 11 (by decide) (by decide)), fun _ => rfl, iN (hL2 14 (by decide) (by decide)), iN (hL2 10 (by decide) (by decide)), iN (hL2 12 (by decide) (by decide)), iN (hL2 13 (by decide) (by decide)), trivial⟩
          · refine And.intro ?_ (And.intro ?_ (And.intro ?_ (And.intro ?_ (And.intro ?_ (And.intro ?_ (And.intro ?_ (And.intro ?_ (And.intro ?_ (And.intro ?_ (And.intro ?_ (And.intro ?_ (And.intro ?_ (And.intro ?_ (And.intro ?_ trivial))))))))))))))
            · exact fun h => absurd h (by decide)
            · exact fun h => absurd h (by decide)
            · exact fun h => absurd h (by decide)
            · exact fun h => absurd h (by decide)
            · exact fun h => absurd h (by decide)
            · exact fun h => absurd h (by decide)
            · exact fun h => absurd h (by decide)
            · exact fun h => absurd h (by decide)
            · exact fun h => absurd h (by decide)
            · exact fun h => absurd h (by decide)
            · intro _ L a W hL hd hcl hJ K hK
              obtain ⟨hLn, hJ⟩ := hJ
              rw [hJd] at hJ
              obtain ⟨hf, hG, hsz, ho, b11, r11, b14, r14, f10, f12, f13, _⟩ := hJ
              have hn : a.tmps.size = 66 := hf.2.1.trans hn0
              have e50 := (hf.2.2 50 (by decide)).trans g50; have e50r := get_eval e50
              have e52 := (hf.2.2 52 (by decide)).trans g52; have e52r := get_eval e52
              have HF := Lib.hid (And.intro hLn (And.intro hL (And.intro hn (And.intro hf (And.intro hG (And.intro hsz (And.intro ho (And.intro b11 (And.intro r11 (And.intro b14 (And.intro r14 (And.intro f10 (And.intro f12 (And.intro f13 trivial))))))))))))))
              clear hLn hL hd hcl hn hf hG hsz ho b11 r11 b14 r14 f10 f12 f13 g43 g44 g49 g50 g52
              go_simp
              obtain ⟨hLn, hL, hn, hf, hG, hsz, ho, b11, r11, b14, r14, f10, f12, f13, _⟩ := HF.out
              refine hK _ _ ?_
              refine ⟨fun j hj => upL_of (hLn j hj), ?_⟩
              rw [hJd]
              exact ⟨(hf.put (by decide)), hG, hsz, ho, (fun h => b11 (by rwa [upL_ne L (by decide)] at h)), (iq0 rfl r11), (fun h => b14 (by rwa [upL_ne L (by decide)] at h)), (iq0 rfl r14), (fun _ => iS hn rfl), (iq rfl rfl f12), (iq rfl rfl f13), trivial⟩
            · intro _ L a W hL hd hcl hJ K hK
              obtain ⟨hLn, hJ⟩ := hJ
              rw [hJd] at hJ
              obtain ⟨hf, hG, hsz, ho, b11, r11, b14, r14, f10, f12, f13, _⟩ := hJ
              have hn : a.tmps.size = 66 := hf.2.1.trans hn0
              have e49 := (hf.2.2 49 (by decide)).trans g49; have e49r := get_eval e49
              have p10 := f10 (hd 10 (by kernel_rfl)); have p10r := get_eval p10
              have hb := b11 hL
              have hst2 := hst W [.int .i64 k, .string s, .int .i64 n1, .int .i64 d, .bool q1, .bool q2, .slice none 0 0] rfl (by simp [Value.oneCell']) hb
              have HF := Lib.hid (And.intro hLn (And.intro hL (And.intro hn (And.intro hf (And.intro hG (And.intro hsz (And.intro ho (And.intro b11 (And.intro r11 (And.intro b14 (And.intro r14 (And.intro f10 (And.intro f12 (And.intro f13 trivial))))))))))))))
              clear hLn hL hd hcl hn hf hG hsz ho b11 r11 b14 r14 f10 f12 f13 g43 g44 g49 g50 g52
              go_simp
              obtain ⟨hLn, hL, hn, hf, hG, hsz, ho, b11, r11, b14, r14, f10, f12, f13, _⟩ := HF.out
              refine hK _ _ ?_
              refine ⟨fun j hj => upL_of (hLn j hj), ?_⟩
              rw [hJd]
              have hO : ∀ g, g ≠ gV → (W.setCells gV (m.length * 7) [.int .i64 k, .string s, .int .i64 n1, .int .i64 d, .bool q1, .bool q2, .slice none 0 0]).row g = W.row g := fun g hne => row_layVO _ _ hne _ _ _
              exact ⟨hf, grows_layV bV _ _ hG, (size_layV _ _ _ _).trans hsz, (fun g n11 n14 => (hO g n11).trans (ho g n11 n14)), (fun h => absurd ((upL_self L 11).symm.trans h) (by decide)), (fun _ => ⟨W, b11 hL, rfl⟩), (fun h => (hO gF (by first | assumption | (exact Ne.symm (by assumption)))).trans (b14 (by rwa [upL_ne L (by decide)] at h))), (fun h => by have := r14 (iU rfl h); rw [← (hO gF (by first | assumption | (exact Ne.symm (by assumption))))] at this; exact this), (iq0 rfl f10), (iq0 rfl f12), (iq0 rfl f13), trivial⟩
            · intro _ L a W hL hd hcl hJ K hK
              obtain ⟨hLn, hJ⟩ := hJ
              rw [hJd] at hJ
              obtain ⟨hf, hG, hsz, ho, b11, r11, b14, r14, f10, f12, f13, _⟩ := hJ
              have hn : a.tmps.size = 66 := hf.2.1.trans hn0
              have e43 := (hf.2.2 43 (by decide)).trans g43; have e43r := get_eval e43
              have e44 := (hf.2.2 44 (by decide)).trans g44; have e44r := get_eval e44
              have HF := Lib.hid (And.intro hLn (And.intro hL (And.intro hn (And.intro hf (And.intro hG (And.intro hsz (And.intro ho (And.intro b11 (And.intro r11 (And.intro b14 (And.intro r14 (And.intro f10 (And.intro f12 (And.intro f13 trivial))))))))))))))
              clear hLn hL hd hcl hn hf hG hsz ho b11 r11 b14 r14 f10 f12 f13 g43 g44 g49 g50 g52
              go_simp
              obtain ⟨hLn, hL, hn, hf, hG, hsz, ho, b11, r11, b14, r14, f10, f12, f13, _⟩ := HF.out
              refine hK _ _ ?_
              refine ⟨fun j hj => upL_of (hLn j hj), ?_⟩
              rw [hJd]
              exact ⟨(hf.put (by decide)), hG, hsz, ho, (fun h => b11 (by rwa [upL_ne L (by decide)] at h)), (iq0 rfl r11), (fun h => b14 (by rwa [upL_ne L (by decide)] at h)), (iq0 rfl r14), (iq rfl rfl f10), (fun _ => iS hn rfl), (iq rfl rfl f13), trivial⟩
            · intro _ L a W hL hd hcl hJ K hK
              obtain ⟨hLn, hJ⟩ := hJ
              rw [hJd] at hJ
              obtain ⟨hf, hG, hsz, ho, b11, r11, b14, r14, f10, f12, f13, _⟩ := hJ
              have hn : a.tmps.size = 66 := hf.2.1.trans hn0
              have p12 := f12 (hd 12 (by kernel_rfl)); have p12r := get_eval p12
              have HF := Lib.hid (And.intro hLn (And.intro hL (And.intro hn (And.intro hf (And.intro hG (And.intro hsz (And.intro ho (And.intro b11 (And.intro r11 (And.intro b14 (And.intro r14 (And.intro f10 (And.intro f12 (And.intro f13 trivial))))))))))))))
              clear hLn hL hd hcl hn hf hG hsz ho b11 r11 b14 r14 f10 f12 f13 g43 g44 g49 g50 g52
              go_simp
              obtain ⟨hLn, hL, hn, hf, hG, hsz, ho, b11, r11, b14, r14, f10, f12, f13, _⟩ := HF.out
              refine hK _ _ ?_
              refine ⟨fun j hj => upL_of (hLn j hj), ?_⟩
              rw [hJd]
              exact ⟨(hf.put (by decide)), hG, hsz, ho, (fun h => b11 (by rwa [upL_ne L (by decide)] at h)), (iq0 rfl r11), (fun h => b14 (by rwa [upL_ne L (by decide)] at h)), (iq0 rfl r14), (iq rfl rfl f10), (iq rfl rfl f12), (fun _ => iS hn rfl), trivial⟩
            · intro _ L a W hL hd hcl hJ K hK
              obtain ⟨hLn, hJ⟩ := hJ
              rw [hJd] at hJ
              obtain ⟨hf, hG, hsz, ho, b11, r11, b14, r14, f10, f12, f13, _⟩ := hJ
              have hn : a.tmps.size = 66 := hf.2.1.trans hn0
              have e52 := (hf.2.2 52 (by decide)).trans g52; have e52r := get_eval e52
              have p13 := f13 (hd 13 (by kernel_rfl)); have p13r := get_eval p13
              have hb := b14 hL
              have hbF := hb.trans hGF; have zbF := row_sz' hbF
              have HF := Lib.hid (And.intro hLn (And.intro hL (And.intro hn (And.intro hf (And.intro hG (And.intro hsz (And.intro ho (And.intro b11 (And.intro r11 (And.intro b14 (And.intro r14 (And.intro f10 (And.intro f12 (And.intro f13 trivial))))))))))))))
              clear hLn hL hd hcl hn hf hG hsz ho b11 r11 b14 r14 f10 f12 f13 g43 g44 g49 g50 g52
              go_simp
              obtain ⟨hLn, hL, hn, hf, hG, hsz, ho, b11, r11, b14, r14, f10, f12, f13, _⟩ := HF.out
              refine hK _ _ ?_
              refine ⟨fun j hj => upL_of (hLn j hj), ?_⟩
              rw [hJd]
              have hO : ∀ g, g ≠ gF → (W.setCell ⟨gF, os.length * 7 + 6, none⟩ (.slice (some ⟨gV, 0, none⟩) (m.length + 1) cV)).row g = W.row g := fun g hne => (by rw [World.row_setCell, if_neg hne])
              exact ⟨hf, hG.setCell' bF _ _, (World.setCell_size' _ _ _).trans hsz, (fun g n11 n14 => (hO g n14).trans (ho g n11 n14)), (fun h => (hO gV (by first | assumption | (exact Ne.symm (by assumption)))).trans (b11 (by rwa [upL_ne L (by decide)] at h))), (fun h => by have := r11 (iU rfl h); rw [← (hO gV (by first | assumption | (exact Ne.symm (by assumption))))] at this; exact this), (fun h => absurd ((upL_self L 14).symm.trans h) (by decide)), (fun _ => (by rw [World.row_setCell, if_pos rfl, b14 hL, hGF, layV_one _ _ _ (by simpa using hcl), ← Array.toList_setIfInBounds]; rfl)), (iq0 rfl f10), (iq0 rfl f12), (iq0 rfl f13), trivial⟩
          intro a Wf hJ
          rw [hJd] at hJ
          obtain ⟨hf, hG, hsz, ho, b11, r11, b14, r14, f10, f12, f13, _⟩ := hJ
          clear hJd
          clear b11
          replace r11 := r11 rfl
          clear b14
          replace r14 := r14 rfl
          replace f10 := f10 rfl
          replace f12 := f12 rfl
          replace f13 := f13 rfl
          have ha := hf.puts [53, 54, 55] _ (by intro d hd; show d < a0.tmps.size; rw [hn0]; revert d; decide)
          simp only [List.map_cons, List.map_nil, f10, f12, f13] at ha
          clear f10 f12 f13 hf g43 g44 g49 g50 g52 hn0
          subst ha
          subst ha0
          simp only [putL]
          go_simp
          have hfin : RStk w Wf (.slice (some ⟨gF, 0, none⟩) (os.length + 1) cF) ⟨os, ls0 ++ [m ++ [.mk ⟨k, s, n1, d, q1, q2⟩ []]]⟩ := by
            obtain ⟨W0, e1, e2⟩ := r11
            have hown2 := HOWN.out W0 Wf [.int .i64 k, .string s, .int .i64 n1, .int .i64 d, .bool q1, .bool q2, .slice none 0 0] rfl e1 e2
            have hx : ∃ tg', StkR Wf w.heap.size tg' (.slice (some ⟨gF, 0, none⟩) (ls0.length + 1) cF) (ins ++ [.slice (some ⟨gV, 0, none⟩) (m.length + 1) cV]) ⟨os, ls0 ++ [m ++ [.mk ⟨k, s, n1, d, q1, q2⟩ []]]⟩ := by
              refine StkR.last (by rw [HH.out.1]; exact HD3.out) xF3 HC1.out HC3.out (VOk_mk HTW.out (SlAt_nil _ _ _ _)) ?_ hown2 ?_ (fun g h1 h2 h3 => ?_) ?_
              · rcases k3 with k3 | k3
                · exact .inl k3
                · exact .inr ⟨_, k3, hs2B⟩
              · have := k2.size; omega
              · have hgV : g ≠ gV := fun e => by
                  rcases k3 with k3 | k3
                  · exact h3 (by rw [e]; exact k3.symm)
                  · injection k3 with k3; omega
                rw [ho g hgV h2, row_growV k2 (by omega) (fun e => h3 e.symm)]; exact hg2B.row_eq h1
              · rw [r14, HH.out.1]
            rw [HH.out.1] at hx
            obtain ⟨tg', hx⟩ := hx
            exact ⟨tg', _, hG, hx⟩
          have HFIN := Lib.hid hfin
          clear r11 r14 ho hfin
          go_wp2_with fail
          go_roundg (l.length - (i + 1))
          case measure => omega
          case rel => exact ⟨i + 1, Lib.hid ⟨by omega, by omega⟩, by go_num, by rw [HST.out, HDEF.out]; exact HFIN⟩
        · have HPS : Hid (Ps.step ⟨os, ls0 ++ [m]⟩ ⟨k, s, n1, d, q1, q2⟩ = ⟨os ++ [⟨k, s, n1, d, q1, q2⟩], ls0 ++ [m] ++ [[]]⟩) := Lib.hid (by
            rw [HREF.out, if_pos (by show clo k ≠ 0; exact hc)])
          have hcb : (clo k == 0) = false := by simpa using hc
          have hon : some gF = (Value.slice (some ⟨gF, 0, none⟩) (os.length + 1) cF).ownBlock := rfl
          go_upto_region 9 with ((go_at_call 42; (with_reducible refine (fclo_any k _).mono ?_); rintro e w1 ⟨rfl, x1, rfl⟩))
          have gw4 : w3.grows (w3.plus x1) := (by repeat (with_reducible first | assumption | exact grA | apply grB | apply grC | apply grD | refine grE ?_ (by omega) _ | refine grF ?_ (by omega) _ _))
          have hg4 := hg3.trans gw4
          have HD4 := Lib.hid (HD3.out.keep gw4.below.size (fun g _ hl => gw4.row_eq hl) (fun _ _ => rfl))
          have x74 : (w3.plus x1).row b7 = _ := (gw4.row_eq z73.1).trans x73
          clear z73 zF3 x73 xF3 HD3
          generalize w3.plus x1 = w4 at *
          have z74 := row_sz' x74
          have hFS : w4.ownsRow w.heap.size 80 7 (.slice (some ⟨gF, 0, none⟩) (os.length + 1) cF) (os.length + 1) (frC os (ins ++ [.slice aM m.length cM])) := by
            have := HD4.out.fs
            simp only [HH.out.2.2] at this
            exact this
          go_upto_region 11 with ((at_builtin; refine wpList_app w (w.heap.size) rfl (.tmp 38) (.tmp 41) _ rfl 80 (.agg #[.int .i64 0, .string ByteArray.empty, .int .i64 0, .int .i64 0, .bool false, .bool false, .slice none 0 0]) 7 72 Tryz.underlying81 (by kernel_rfl) rfl (by omega) (by omega) _ (os.length + 1) _ rfl ((hFS.grows (by repeat (with_reducible first | assumption | exact grA | apply grB | apply grC | apply grD | refine grE ?_ (by omega) _ | refine grF ?_ (by omega) _ _)))) _ 1 _ [.int .i64 k, .string s, .int .i64 n1, .int .i64 d, .bool q1, .bool q2, .slice none 0 0] rfl rfl (cells_of_row (e := 80) (fr := (0, 0)) (by simp [go_sem])) (by simp [Value.oneCell']) (by omega) (by repeat (with_reducible first | assumption | exact grA | apply grB | apply grC | apply grD | refine grE ?_ (by omega) _ | refine grF ?_ (by omega) _ _)) (by omega) (by first | omega | (simp <;> omega)) ?_; intro v' w' hg' HO' HR' HG' HA'); (obtain ⟨aF1, cF1, rfl⟩ := own_slice HO'.out))
          have HFIN : Hid (RStk w w' (.slice aF1 (os.length + 1 + 1) cF1) ⟨os ++ [⟨k, s, n1, d, q1, q2⟩], ls0 ++ [m] ++ [[]]⟩) := by
            have hgA : w4.grows (w4.alloc (.cells #[.int .i64 k, .string s, .int .i64 n1, .int .i64 d, .bool q1, .bool q2, .slice none 0 0] 80)) := (by repeat (with_reducible first | assumption | exact grA | apply grB | apply grC | apply grD | refine grE ?_ (by omega) _ | refine grF ?_ (by omega) _ _))
            have hsA := hgA.below.size
            have hsz := HG'.out.size
            have hx := HD4.out.push (W := w') (v' := .slice aF1 (os.length + 1 + 1) cF1) HTW.out (by simp only [HH.out.2.2]; exact HO'.out) ?_ (by omega) (fun g h1 h2 h3 => ?_)
            · exact Lib.hid ⟨_, _, hg', hx⟩
            · rcases HA'.out with e | e
              · exact .inl e
              · exact .inr ⟨_, e, hsA⟩
            · rw [row_growV HG'.out (by omega) (fun e => h3 (by have e2 : g = gF := by injection e
                                                                rw [e2]; exact HD4.out.tF gF rfl))]
              exact hgA.row_eq h2
          clear HO' HG' HA' HR' hg'
          go_wp2_with fail
          go_roundg (l.length - (i + 1))
          case measure => omega
          case rel => exact ⟨i + 1, Lib.hid ⟨by omega, by omega⟩, by go_num, by rw [HST.out, HPS.out]; exact HFIN⟩
      · have b0 : (0 : Int) < (os.length : Int) := by have := List.length_pos_iff.2 ho; omega
        have b0n : 0 < os.length := List.length_pos_iff.2 ho
        have hbl : (os.getLastD zeroTk) = b := HB.out.1.symm
        by_cases hsh : k = clo b.k
        · have HSH : Hid (Ps.step ⟨os, ls0 ++ [m]⟩ ⟨k, s, n1, d, q1, q2⟩ = Ps.shut ⟨os, ls0 ++ [m]⟩) := Lib.hid (by
            rw [Ps.step_ref, if_pos ⟨ho, by rw [hbl]; exact hsh⟩])
          have hb1 : (k == clo b.k) = true := by simpa using hsh
          have HO := Lib.hid ho
          clear ho hsh hbl
          refine wp_region_plus_lit (by kernel_rfl) (by kernel_rfl) ?_
          repeat (go_big_quiet_step ((go_at_call 42; (with_reducible exact Calls.plus_of (fclo_any b.k _)))))
          (refine wpQuiet_nil ?_; intro _ hw'; obtain ⟨xq, hw''⟩ := hw'; subst hw'')
          have HS4 := Lib.hid (HS2.out.grows (show w2.grows (w2.plus xq) from (by repeat (with_reducible first | assumption | exact grA | apply grB | apply grC | apply grD | refine grE ?_ (by omega) _ | refine grF ?_ (by omega) _ _))))
          go_wp2_with (go_at_call 43; go_loud ((with_reducible refine (fshut_any HS4.out HO.out HTT.out).mono ?_); rintro r w9 ⟨v9, rfl, hS9⟩))
          go_roundg (l.length - (i + 1))
          case measure => omega
          case rel => exact ⟨i + 1, Lib.hid ⟨by omega, by omega⟩, by go_num, by rw [HST.out, HSH.out]; exact Lib.hid hS9⟩
        · have HREF : Hid (Ps.step ⟨os, ls0 ++ [m]⟩ ⟨k, s, n1, d, q1, q2⟩ = if clo k ≠ 0 then ⟨os ++ [⟨k, s, n1, d, q1, q2⟩], ls0 ++ [m] ++ [[]]⟩ else ⟨os, addTop (ls0 ++ [m]) (.mk ⟨k, s, n1, d, q1, q2⟩ [])⟩) := Lib.hid (by
            rw [Ps.step_ref, if_neg (fun hh => hsh (by have := hh.2; simp only [hbl] at this; exact this))])
          have hb1 : (k == clo b.k) = false := by simpa using hsh
          clear ho hsh hbl
          refine wp_region_plus_lit (by kernel_rfl) (by kernel_rfl) ?_
          repeat (go_big_quiet_step ((go_at_call 42; (with_reducible exact Calls.plus_of (fclo_any b.k _)))))
          (refine wpQuiet_nil ?_; intro _ hw'; obtain ⟨xq, hw''⟩ := hw'; subst hw'')
          go_upto_region 8 with fail
          have gw3 : w2.grows (w2.plus xq) := (by repeat (with_reducible first | assumption | exact grA | apply grB | apply grC | apply grD | refine grE ?_ (by omega) _ | refine grF ?_ (by omega) _ _))
          have x73 : (w2.plus xq).row b7 = _ := (gw3.row_eq zx7.1).trans x7
          have xF3 : (w2.plus xq).row gF = _ := (gw3.row_eq zxF.1).trans xF
          have hg3 := hg2.trans gw3
          have HD3 := Lib.hid (HD2.out.keep gw3.below.size (fun g _ hl => gw3.row_eq hl) (fun _ _ => rfl))
          have HOM3 := Lib.hid (HOM2.out.grows gw3)
          have hs3 := gw3.below.size
          have hlF3 : gF < (w2.plus xq).heap.size := by omega
          have HC3 : Hid (∀ (j : Nat) (x : Vt) (cs : List Value), m[j]? = some x → css[j]? = some cs → cs.length = 7 ∧ VOk (w2.plus xq) (RoS (w2.plus xq) w.heap.size tg) x cs) := Lib.hid fun j x cs p1 p2 => ⟨(HC22.out j x cs p1 p2).1, (HC22.out j x cs p1 p2).2.keep fun g hg _ => ⟨gw3.row_eq hg.2.2, hg.1, hg.2.1, by have := hg.2.2; omega⟩⟩
          clear x7 xF zx7 zxF
          generalize w2.plus xq = w3 at *
          have z73 := row_sz' x73
          have zF3 := row_sz' xF3
          by_cases hc : clo k = 0
          · have HDEF : Hid (Ps.step ⟨os, ls0 ++ [m]⟩ ⟨k, s, n1, d, q1, q2⟩ = ⟨os, ls0 ++ [m ++ [.mk ⟨k, s, n1, d, q1, q2⟩ []]]⟩) := Lib.hid (by
              rw [HREF.out, if_neg (by show ¬ clo k ≠ 0; omega), addTop_snoc])
            have hcb : (clo k == 0) = true := by rw [hc]; rfl
            go_upto_region 10 with ((go_at_call 42; (with_reducible refine (fclo_any k _).mono ?_); rintro e w1 ⟨rfl, x1, rfl⟩))
            refine abs_rows (w := w3) (G := fun W => Code.wp _ _ _ _ W) (by repeat (with_reducible first | assumption | exact grA | apply grB | apply grC | apply grD | refine grE ?_ (by omega) _ | refine grF ?_ (by omega) _ _)) [(b7, .cells #[.int .i64 k, .string s, .int .i64 n1, .int .i64 d, .bool q1, .bool q2] 65), (gF, .cells curF 80)] (by simp [go_sem, *]) ?_
            intro w4 gw4 hl
            simp only [List.forall_mem_cons, List.not_mem_nil, false_implies, implies_true, and_true] at hl
            obtain ⟨x4, xF4⟩ := hl
            have zx4 := row_sz' x4
            have zxF4 := row_sz' xF4
            refine wp_region_seq_inv (S := rowsAs w4 [b7, gF]) 10 (by kernel_rfl) (by kernel_rfl) (rowsAs.drew _ _) ?_
            simp only [List.take_succ_cons, List.take_zero, List.drop_succ_cons, List.drop_zero]
            show wpSeqL _ _ _ _ _ _ (World.drew w4)
            have hdd : w4.grows (World.drew w4) := World.grows.drew World.grows.refl
            repeat (refine wpSeqL_free rfl ?_; refine wpQuiet_step (fun K hK => ?_); (rw [if_pos (by simp [Region.wanted])]; refine Exists.intro ?_ ⟨fun w' hw' => ?_, ?_⟩; rotate_left; focus (have r0 := rowsAs.of hw' x4 (by simp); have s0 := row_sz' r0; have r1 := rowsAs.of hw' xF4 (by simp); have s1 := row_sz' r1; first | (simp [Oper.quietAt, Oper.quietUpon, go_sem, r0, r1, s0, s1, hc6, i1, i2, hw2]; rfl) | (exact ⟨rfl, rfl⟩))); go_simp; refine hK _ ?_; clear hK K; refine wpQuiet_nil ?_)
            have hRA : rowsAs w4 [b7, gF] (World.drew w4) := rowsAs.drew _ _
            have hd0 : (World.drew w4).heap.size = w4.heap.size := rfl
            generalize World.drew w4 = wA at *
            refine wpSeqL_link rfl (fun K hK => ?_)
            go_simp
            have hgB : wA.grows (wA.alloc (.cells #[.int .i64 0, .string ⟨#[]⟩, .int .i64 0, .int .i64 0, .bool false, .bool false, .slice none 0 0] 70)) := World.grows.alloc World.grows.refl _
            have hnB : (wA.alloc (.cells #[.int .i64 0, .string ⟨#[]⟩, .int .i64 0, .int .i64 0, .bool false, .bool false, .slice none 0 0] 70)).row w4.heap.size = some (.cells #[.int .i64 0, .string ⟨#[]⟩, .int .i64 0, .int .i64 0, .bool false, .bool false, .slice none 0 0] 70) := by rw [← hd0]; simp [go_sem]
            have hsB : (wA.alloc (.cells #[.int .i64 0, .string ⟨#[]⟩, .int .i64 0, .int .i64 0, .bool false, .bool false, .slice none 0 0] 70)).heap.size = wA.heap.size + 1 := by simp
            have hRB := hRA.grow hgB (by simp [hd0, zx4, zxF4])
            refine hK _ _ hRB ?_
            clear hK K
            generalize wA.alloc (.cells #[.int .i64 0, .string ⟨#[]⟩, .int .i64 0, .int .i64 0, .bool false, .bool false, .slice none 0 0] 70) = wB at *
            have hg2B : w3.grows wB := (gw4.trans hdd).trans hgB
            refine wpSeqL_appO w.heap.size rfl rfl (.tmp 47) (.tmp 51) 58 rfl 70 (.agg #[.int .i64 0, .string ByteArray.empty, .int .i64 0, .int .i64 0, .bool false, .bool false, .slice none 0 0]) 7 72 Tryz.underlying58 (by kernel_rfl) rfl (by omega) (by omega) _ m.length _ rfl (HOM3.out.grows hg2B) (some ⟨w4.heap.size, 0, none⟩) 1 1 [.int .i64 0, .string ByteArray.empty, .int .i64 0, .int .i64 0, .bool false, .bool false, .slice none 0 0] rfl rfl (.inr ⟨_, rfl, fun j u hu => ?_⟩) (by simp [Value.oneCell']) (by omega) (by have := hg2B.below.size; have := hg3.below.size; omega) ?_
            · exact cells_of_row (e := 70) (fr := (0, 0)) hnB j u hu
            intro v8 wG k1 k2 k3
            replace k2 : wB.grownBy wG (Value.slice aM m.length cM).ownBlock := k2
            replace k3 : v8.ownBlock = (Value.slice aM m.length cM).ownBlock ∨ v8.ownBlock = some wB.heap.size := k3
            have hs2B := hg2B.below.size
            have hRG := hRB.grown k2 (fun b hb => by
              have hb' : b = b7 ∨ b = gF := by simpa using hb
              refine ⟨by rcases hb' with rfl | rfl <;> omega, fun e => ?_⟩
              obtain ⟨e1, e3⟩ := HMN.out b e.symm
              rcases hb' with rfl | rfl
              · omega
              · exact e1 rfl)
            refine ⟨hRG, ?_⟩
            obtain ⟨gV, cV, rfl, bV, zV, hst, hown⟩ := zero_app k1 rfl
            replace k3 : some gV = (Value.slice aM m.length cM).ownBlock ∨ some gV = some wB.heap.size := k3
            have hneV : gV ≠ gF := fun e => by
              rcases k3 with k3 | k3
              · exact (HMN.out gV k3.symm).1 e
              · injection k3 with k3; omega
            have hneV7 : gV ≠ b7 := fun e => by
              rcases k3 with k3 | k3
              · have := (HMN.out gV k3.symm).2; omega
              · injection k3 with k3; omega
            have j1 : (0 : Int) ≤ (m.length : Int) := by omega
            have j2 : (m.length : Int) < (m.length : Int) + 1 := by omega
            have hGF := hRG.of xF4 (by simp)
            have hGO : w.grows wG := (hg3.trans hg2B).grown k2 fun k hk => (HOM3.out.lt k hk).1
            have HG0 := Lib.hid hGO
            have HST2 := Lib.hid hst
            have hst := HST2.out
            have HOWN := Lib.hid hown
            clear hown
            refine wpSeqL_end ?_
            intro a0 ha0
            have g43 := congrArg (fun x : Act => x.tmps.getD 43 undef) ha0
            have g44 := congrArg (fun x : Act => x.tmps.getD 44 undef) ha0
            have g49 := congrArg (fun x : Act => x.tmps.getD 49 undef) ha0
            have g50 := congrArg (fun x : Act => x.tmps.getD 50 undef) ha0
            have g52 := congrArg (fun x : Act => x.tmps.getD 52 undef) ha0
            have hn0 : a0.tmps.size = 66 := by rw [ha0]; rfl
            obtain ⟨J, hJd⟩ : ∃ J : (Nat → Bool) → Act → World → Prop, J = (fun L a' W => Fr a0 [53, 54, 55] a' ∧ w.grows W ∧ W.heap.size = wG.heap.size ∧ (∀ g, g ≠ gV → g ≠ gF → W.row g = wG.row g) ∧ (L 11 = false → W.row gV = wG.row gV) ∧ (L 11 = true → ∃ W0 : World, W0.row gV = wG.row gV ∧ W.row gV = (W0.setCells gV (m.length * 7) [.int .i64 k, .string s, .int .i64 n1, .int .i64 d, .bool q1, .bool q2, .slice none 0 0]).row gV) ∧ (L 14 = false → W.row gF = wG.row gF) ∧ (L 14 = true → W.row gF = some (.cells (layV curF.toList (os.length * 7 + 6) [.slice (some ⟨gV, 0, none⟩) (m.length + 1) cV]).toArray 80)) ∧ (L 10 = true → a'.tmps.getD 53 undef = .pointer (some ⟨gV, m.length * 7, none⟩)) ∧ (L 12 = true → a'.tmps.getD 54 undef = .pointer (some ⟨gF, os.length * 7, none⟩)) ∧ (L 13 = true → a'.tmps.getD 55 undef = .pointer (some ⟨gF, os.length * 7 + 6, none⟩)) ∧ True) := ⟨_, rfl⟩
            refine ⟨J, ?_, ?_, ?_⟩
            · intro L hL1 hL2
              rw [hJd]
              exact ⟨Fr.refl, HG0.out, rfl, (fun g _ _ => rfl), fun _ => rfl, iN (hL2 11 (by decide) (by decide)), fun _ => rfl, iN (hL2 14 (by decide) (by decide)), iN (hL2 10 (by decide) (by decide)), iN (hL2 12 (by decide) (by decide)), iN (hL2 13 (by decide) (by decide)), trivial⟩
            · refine And.intro ?_ (And.intro ?_ (And.intro ?_ (And.intro ?_ (And.intro ?_ (And.intro ?_ (And.intro ?_ (And.intro ?_ (And.intro ?_ (And.intro ?_ (And.intro ?_ (And.intro ?_ (And.intro ?_ (And.intro ?_ (And.intro ?_ trivial))))))))))))))
              · exact fun h => absurd h (by decide)
              · exact fun h => absurd h (by decide)
              · exact fun h => absurd h (by decide)
              · exact fun h => absurd h (by decide)
              · exact fun h => absurd h (by decide)
              · exact fun h => absurd h (by decide)
              · exact fun h => absurd h (by decide)
              · exact fun h => absurd h (by decide)
              · exact fun h => absurd h (by decide)
              · exact fun h => absurd h (by decide)
              · intro _ L a W hL hd hcl hJ K hK
                obtain ⟨hLn, hJ⟩ := hJ
                rw [hJd] at hJ
                obtain ⟨hf, hG, hsz, ho, b11, r11, b14, r14, f10, f12, f13, _⟩ := hJ
                have hn : a.tmps.size = 66 := hf.2.1.trans hn0
                have e50 := (hf.2.2 50 (by decide)).trans g50; have e50r := get_eval e50
                have e52 := (hf.2.2 52 (by decide)).trans g52; have e52r := get_eval e52
                have HF := Lib.hid (And.intro hLn (And.intro hL (And.intro hn (And.intro hf (And.intro hG (And.intro hsz (And.intro ho (And.intro b11 (And.intro r11 (And.intro b14 (And.intro r14 (And.intro f10 (And.intro f12 (And.intro f13 trivial))))))))))))))
                clear hLn hL hd hcl hn hf hG hsz ho b11 r11 b14 r14 f10 f12 f13 g43 g44 g49 g50 g52
                go_simp
                obtain ⟨hLn, hL, hn, hf, hG, hsz, ho, b11, r11, b14, r14, f10, f12, f13, _⟩ := HF.out
                refine hK _ _ ?_
                refine ⟨fun j hj => upL_of (hLn j hj), ?_⟩
                rw [hJd]
                exact ⟨(hf.put (by decide)), hG, hsz, ho, (fun h => b11 (by rwa [upL_ne L (by decide)] at h)), (iq0 rfl r11), (fun h => b14 (by rwa [upL_ne L (by decide)] at h)), (iq0 rfl r14), (fun _ => iS hn rfl), (iq rfl rfl f12), (iq rfl rfl f13), trivial⟩
              · intro _ L a W hL hd hcl hJ K hK
                obtain ⟨hLn, hJ⟩ := hJ
                rw [hJd] at hJ
                obtain ⟨hf, hG, hsz, ho, b11, r11, b14, r14, f10, f12, f13, _⟩ := hJ
                have hn : a.tmps.size = 66 := hf.2.1.trans hn0
                have e49 := (hf.2.2 49 (by decide)).trans g49; have e49r := get_eval e49
                have p10 := f10 (hd 10 (by kernel_rfl)); have p10r := get_eval p10
                have hb := b11 hL
                have hst2 := hst W [.int .i64 k, .string s, .int .i64 n1, .int .i64 d, .bool q1, .bool q2, .slice none 0 0] rfl (by simp [Value.oneCell']) hb
                have HF := Lib.hid (And.intro hLn (And.intro hL (And.intro hn (And.intro hf (And.intro hG (And.intro hsz (And.intro ho (And.intro b11 (And.intro r11 (And.intro b14 (And.intro r14 (And.intro f10 (And.intro f12 (And.intro f13 trivial))))))))))))))
                clear hLn hL hd hcl hn hf hG hsz ho b11 r11 b14 r14 f10 f12 f13 g43 g44 g49 g50 g52
                go_simp
                obtain ⟨hLn, hL, hn, hf, hG, hsz, ho, b11, r11, b14, r14, f10, f12, f13, _⟩ := HF.out
                refine hK _ _ ?_
                refine ⟨fun j hj => upL_of (hLn j hj), ?_⟩
                rw [hJd]
                have hO : ∀ g, g ≠ gV → (W.setCells gV (m.length * 7) [.int .i64 k, .string s, .int .i64 n1, .int .i64 d, .bool q1, .bool q2, .slice none 0 0]).row g = W.row g := fun g hne => row_layVO _ _ hne _ _ _
                exact ⟨hf, grows_layV bV _ _ hG, (size_layV _ _ _ _).trans hsz, (fun g n11 n14 => (hO g n11).trans (ho g n11 n14)), (fun h => absurd ((upL_self L 11).symm.trans h) (by decide)), (fun _ => ⟨W, b11 hL, rfl⟩), (fun h => (hO gF (by first | assumption | (exact Ne.symm (by assumption)))).trans (b14 (by rwa [upL_ne L (by decide)] at h))), (fun h => by have := r14 (iU rfl h); rw [← (hO gF (by first | assumption | (exact Ne.symm (by assumption))))] at this; exact this), (iq0 rfl f10), (iq0 rfl f12), (iq0 rfl f13), trivial⟩
              · intro _ L a W hL hd hcl hJ K hK
                obtain ⟨hLn, hJ⟩ := hJ
                rw [hJd] at hJ
                obtain ⟨hf, hG, hsz, ho, b11, r11, b14, r14, f10, f12, f13, _⟩ := hJ
                have hn : a.tmps.size = 66 := hf.2.1.trans hn0
                have e43 := (hf.2.2 43 (by decide)).trans g43; have e43r := get_eval e43
                have e44 := (hf.2.2 44 (by decide)).trans g44; have e44r := get_eval e44
                have HF := Lib.hid (And.intro hLn (And.intro hL (And.intro hn (And.intro hf (And.intro hG (And.intro hsz (And.intro ho (And.intro b11 (And.intro r11 (And.intro b14 (And.intro r14 (And.intro f10 (And.intro f12 (And.intro f13 trivial))))))))))))))
                clear hLn hL hd hcl hn hf hG hsz ho b11 r11 b14 r14 f10 f12 f13 g43 g44 g49 g50 g52
                go_simp
                obtain ⟨hLn, hL, hn, hf, hG, hsz, ho, b11, r11, b14, r14, f10, f12, f13, _⟩ := HF.out
                refine hK _ _ ?_
                refine ⟨fun j hj => upL_of (hLn j hj), ?_⟩
                rw [hJd]
                exact ⟨(hf.put (by decide)), hG, hsz, ho, (fun h => b11 (by rwa [upL_ne L (by decide)] at h)), (iq0 rfl r11), (fun h => b14 (by rwa [upL_ne L (by decide)] at h)), (iq0 rfl r14), (iq rfl rfl f10), (fun _ => iS hn rfl), (iq rfl rfl f13), trivial⟩
              · intro _ L a W hL hd hcl hJ K hK
                obtain ⟨hLn, hJ⟩ := hJ
                rw [hJd] at hJ
                obtain ⟨hf, hG, hsz, ho, b11, r11, b14, r14, f10, f12, f13, _⟩ := hJ
                have hn : a.tmps.size = 66 := hf.2.1.trans hn0
                have p12 := f12 (hd 12 (by kernel_rfl)); have p12r := get_eval p12
                have HF := Lib.hid (And.intro hLn (And.intro hL (And.intro hn (And.intro hf (And.intro hG (And.intro hsz (And.intro ho (And.intro b11 (And.intro r11 (And.intro b14 (And.intro r14 (And.intro f10 (And.intro f12 (And.intro f13 trivial))))))))))))))
                clear hLn hL hd hcl hn hf hG hsz ho b11 r11 b14 r14 f10 f12 f13 g43 g44 g49 g50 g52
                go_simp
                obtain ⟨hLn, hL, hn, hf, hG, hsz, ho, b11, r11, b14, r14, f10, f12, f13, _⟩ := HF.out
                refine hK _ _ ?_
                refine ⟨fun j hj => upL_of (hLn j hj), ?_⟩
                rw [hJd]
                exact ⟨(hf.put (by decide)), hG, hsz, ho, (fun h => b11 (by rwa [upL_ne L (by decide)] at h)), (iq0 rfl r11), (fun h => b14 (by rwa [upL_ne L (by decide)] at h)), (iq0 rfl r14), (iq rfl rfl f10), (iq rfl rfl f12), (fun _ => iS hn rfl), trivial⟩
              · intro _ L a W hL hd hcl hJ K hK
                obtain ⟨hLn, hJ⟩ := hJ
                rw [hJd] at hJ
                obtain ⟨hf, hG, hsz, ho, b11, r11, b14, r14, f10, f12, f13, _⟩ := hJ
                have hn : a.tmps.size = 66 := hf.2.1.trans hn0
                have e52 := (hf.2.2 52 (by decide)).trans g52; have e52r := get_eval e52
                have p13 := f13 (hd 13 (by kernel_rfl)); have p13r := get_eval p13
                have hb := b14 hL
                have hbF := hb.trans hGF; have zbF := row_sz' hbF
                have HF := Lib.hid (And.intro hLn (And.intro hL (And.intro hn (And.intro hf (And.intro hG (And.intro hsz (And.intro ho (And.intro b11 (And.intro r11 (And.intro b14 (And.intro r14 (And.intro f10 (And.intro f12 (And.intro f13 trivial))))))))))))))
                clear hLn hL hd hcl hn hf hG hsz ho b11 r11 b14 r14 f10 f12 f13 g43 g44 g49 g50 g52
                go_simp
                obtain ⟨hLn, hL, hn, hf, hG, hsz, ho, b11, r11, b14, r14, f10, f12, f13, _⟩ := HF.out
                refine hK _ _ ?_
                refine ⟨fun j hj => upL_of (hLn j hj), ?_⟩
                rw [hJd]
                have hO : ∀ g, g ≠ gF → (W.setCell ⟨gF, os.length * 7 + 6, none⟩ (.slice (some ⟨gV, 0, none⟩) (m.length + 1) cV)).row g = W.row g := fun g hne => (by rw [World.row_setCell, if_neg hne])
                exact ⟨hf, hG.setCell' bF _ _, (World.setCell_size' _ _ _).trans hsz, (fun g n11 n14 => (hO g n14).trans (ho g n11 n14)), (fun h => (hO gV (by first | assumption | (exact Ne.symm (by assumption)))).trans (b11 (by rwa [upL_ne L (by decide)] at h))), (fun h => by have := r11 (iU rfl h); rw [← (hO gV (by first | assumption | (exact Ne.symm (by assumption))))] at this; exact this), (fun h => absurd ((upL_self L 14).symm.trans h) (by decide)), (fun _ => (by rw [World.row_setCell, if_pos rfl, b14 hL, hGF, layV_one _ _ _ (by simpa using hcl), ← Array.toList_setIfInBounds]; rfl)), (iq0 rfl f10), (iq0 rfl f12), (iq0 rfl f13), trivial⟩
            intro a Wf hJ
            rw [hJd] at hJ
            obtain ⟨hf, hG, hsz, ho, b11, r11, b14, r14, f10, f12, f13, _⟩ := hJ
            clear hJd
            clear b11
            replace r11 := r11 rfl
            clear b14
            replace r14 := r14 rfl
            replace f10 := f10 rfl
            replace f12 := f12 rfl
            replace f13 := f13 rfl
            have ha := hf.puts [53, 54, 55] _ (by intro d hd; show d < a0.tmps.size; rw [hn0]; revert d; decide)
            simp only [List.map_cons, List.map_nil, f10, f12, f13] at ha
            clear f10 f12 f13 hf g43 g44 g49 g50 g52 hn0
            subst ha
            subst ha0
            simp only [putL]
            go_simp
            have hfin : RStk w Wf (.slice (some ⟨gF, 0, none⟩) (os.length + 1) cF) ⟨os, ls0 ++ [m ++ [.mk ⟨k, s, n1, d, q1, q2⟩ []]]⟩ := by
              obtain ⟨W0, e1, e2⟩ := r11
              have hown2 := HOWN.out W0 Wf [.int .i64 k, .string s, .int .i64 n1, .int .i64 d, .bool q1, .bool q2, .slice none 0 0] rfl e1 e2
              have hx : ∃ tg', StkR Wf w.heap.size tg' (.slice (some ⟨gF, 0, none⟩) (ls0.length + 1) cF) (ins ++ [.slice (some ⟨gV, 0, none⟩) (m.length + 1) cV]) ⟨os, ls0 ++ [m ++ [.mk ⟨k, s, n1, d, q1, q2⟩ []]]⟩ := by
                refine StkR.last (by rw [HH.out.1]; exact HD3.out) xF3 HC1.out HC3.out (VOk_mk HTW.out (SlAt_nil _ _ _ _)) ?_ hown2 ?_ (fun g h1 h2 h3 => ?_) ?_
                · rcases k3 with k3 | k3
                  · exact .inl k3
                  · exact .inr ⟨_, k3, hs2B⟩
                · have := k2.size; omega
                · have hgV : g ≠ gV := fun e => by
                    rcases k3 with k3 | k3
                    · exact h3 (by rw [e]; exact k3.symm)
                    · injection k3 with k3; omega
                  rw [ho g hgV h2, row_growV k2 (by omega) (fun e => h3 e.symm)]; exact hg2B.row_eq h1
                · rw [r14, HH.out.1]
              rw [HH.out.1] at hx
              obtain ⟨tg', hx⟩ := hx
              exact ⟨tg', _, hG, hx⟩
            have HFIN := Lib.hid hfin
            clear r11 r14 ho hfin
            go_wp2_with fail
            go_roundg (l.length - (i + 1))
            case measure => omega
            case rel => exact ⟨i + 1, Lib.hid ⟨by omega, by omega⟩, by go_num, by rw [HST.out, HDEF.out]; exact HFIN⟩
          · have HPS : Hid (Ps.step ⟨os, ls0 ++ [m]⟩ ⟨k, s, n1, d, q1, q2⟩ = ⟨os ++ [⟨k, s, n1, d, q1, q2⟩], ls0 ++ [m] ++ [[]]⟩) := Lib.hid (by
              rw [HREF.out, if_pos (by show clo k ≠ 0; exact hc)])
            have hcb : (clo k == 0) = false := by simpa using hc
            have hon : some gF = (Value.slice (some ⟨gF, 0, none⟩) (os.length + 1) cF).ownBlock := rfl
            go_upto_region 9 with ((go_at_call 42; (with_reducible refine (fclo_any k _).mono ?_); rintro e w1 ⟨rfl, x1, rfl⟩))
            have gw4 : w3.grows (w3.plus x1) := (by repeat (with_reducible first | assumption | exact grA | apply grB | apply grC | apply grD | refine grE ?_ (by omega) _ | refine grF ?_ (by omega) _ _))
            have hg4 := hg3.trans gw4
            have HD4 := Lib.hid (HD3.out.keep gw4.below.size (fun g _ hl => gw4.row_eq hl) (fun _ _ => rfl))
            have x74 : (w3.plus x1).row b7 = _ := (gw4.row_eq z73.1).trans x73
            clear z73 zF3 x73 xF3 HD3
            generalize w3.plus x1 = w4 at *
            have z74 := row_sz' x74
            have hFS : w4.ownsRow w.heap.size 80 7 (.slice (some ⟨gF, 0, none⟩) (os.length + 1) cF) (os.length + 1) (frC os (ins ++ [.slice aM m.length cM])) := by
              have := HD4.out.fs
              simp only [HH.out.2.2] at this
              exact this
            go_upto_region 11 with ((at_builtin; refine wpList_app w (w.heap.size) rfl (.tmp 38) (.tmp 41) _ rfl 80 (.agg #[.int .i64 0, .string ByteArray.empty, .int .i64 0, .int .i64 0, .bool false, .bool false, .slice none 0 0]) 7 72 Tryz.underlying81 (by kernel_rfl) rfl (by omega) (by omega) _ (os.length + 1) _ rfl ((hFS.grows (by repeat (with_reducible first | assumption | exact grA | apply grB | apply grC | apply grD | refine grE ?_ (by omega) _ | refine grF ?_ (by omega) _ _)))) _ 1 _ [.int .i64 k, .string s, .int .i64 n1, .int .i64 d, .bool q1, .bool q2, .slice none 0 0] rfl rfl (cells_of_row (e := 80) (fr := (0, 0)) (by simp [go_sem])) (by simp [Value.oneCell']) (by omega) (by repeat (with_reducible first | assumption | exact grA | apply grB | apply grC | apply grD | refine grE ?_ (by omega) _ | refine grF ?_ (by omega) _ _)) (by omega) (by first | omega | (simp <;> omega)) ?_; intro v' w' hg' HO' HR' HG' HA'); (obtain ⟨aF1, cF1, rfl⟩ := own_slice HO'.out))
            have HFIN : Hid (RStk w w' (.slice aF1 (os.length + 1 + 1) cF1) ⟨os ++ [⟨k, s, n1, d, q1, q2⟩], ls0 ++ [m] ++ [[]]⟩) := by
              have hgA : w4.grows (w4.alloc (.cells #[.int .i64 k, .string s, .int .i64 n1, .int .i64 d, .bool q1, .bool q2, .slice none 0 0] 80)) := (by repeat (with_reducible first | assumption | exact grA | apply grB | apply grC | apply grD | refine grE ?_ (by omega) _ | refine grF ?_ (by omega) _ _))
              have hsA := hgA.below.size
              have hsz := HG'.out.size
              have hx := HD4.out.push (W := w') (v' := .slice aF1 (os.length + 1 + 1) cF1) HTW.out (by simp only [HH.out.2.2]; exact HO'.out) ?_ (by omega) (fun g h1 h2 h3 => ?_)
              · exact Lib.hid ⟨_, _, hg', hx⟩
              · rcases HA'.out with e | e
                · exact .inl e
                · exact .inr ⟨_, e, hsA⟩
              · rw [row_growV HG'.out (by omega) (fun e => h3 (by have e2 : g = gF := by injection e
                                                                  rw [e2]; exact HD4.out.tF gF rfl))]
                exact hgA.row_eq h2
            clear HO' HG' HA' HR' hg'
            go_wp2_with fail
            go_roundg (l.length - (i + 1))
            case measure => omega
            case rel => exact ⟨i + 1, Lib.hid ⟨by omega, by omega⟩, by go_num, by rw [HST.out, HPS.out]; exact HFIN⟩
    · have iI : ¬ (i : Int) < (l.length : Int) := by omega
      obtain rfl : i = l.length := by omega
      rw [List.take_length] at HS
      have HL := Lib.hid (show (Ps.run l).tot ≤ 4194304 by have := Ps.run_tot l.length l; rw [List.take_length] at this; omega)
      go_wp2_with fail
      go_loopg [3] (Ps.run l).os.length (fun gn v3 wj => ∃ p : Ps, Hid (RStk w wj v3 p ∧ p.tot ≤ 4194304 ∧ gn = p.os.length ∧ Ps.ends p.os.length p = Ps.ends (Ps.run l).os.length (Ps.run l)))
      case atStart => exact ⟨Ps.run l, Lib.hid ⟨HS.out, HL.out, rfl, rfl⟩⟩
      case round =>
        obtain ⟨p, HR⟩ := hrel
        obtain ⟨r1, r3, r4, r5⟩ := HR.out
        obtain ⟨tg, ins, hg0, hD⟩ := r1
        have r2 := hD.len
        obtain ⟨aF, cF, rfl⟩ := own_slice hD.fs
        by_cases ho : p.os = []
        · have b1 : ¬ (1 : Int) < (p.ls.length : Int) := by rw [r2, ho]; simp
          have b1n : decide (1 < p.ls.length) = false := by rw [r2, ho]; rfl
          have hl1 : p.ls.length = 0 + 1 := by rw [r2, ho]; rfl
          obtain ⟨os, ls⟩ := p
          simp only at ho hl1
          obtain ⟨l0, L, rfl, h0⟩ := snoc_of hl1
          obtain rfl : l0 = [] := List.length_eq_zero_iff.1 h0
          have hi1 : ins.length = 0 + 1 := by have := hD.ls.len; simp at this; omega
          obtain ⟨i0, uL, rfl, h0'⟩ := snoc_of hi1
          obtain rfl : i0 = [] := List.length_eq_zero_iff.1 h0'
          obtain ⟨hP, hV⟩ := hD.ls.pop
          obtain ⟨X, b, hX, hb, hfr⟩ := frC_last (os := os) (ins := []) (by rw [ho]; rfl)
          have hF := hD.fs
          simp only [hfr] at hF
          obtain ⟨gF, cF', curF, e1, eF, kF, mF, bF, zF, rF, sF, -⟩ := own_elt hF (X := X) (cs := b.cs ++ [uL]) (Y := []) (by simp) (by simp)
          injection e1 with e1 e2 e3
          subst e3
          subst e1
          rw [hX, ho] at eF
          have c6 := eF.cell (j := 6) rfl
          rw [World.cell?_row] at c6
          simp only [List.length_nil, Nat.zero_mul, Nat.zero_add] at c6
          replace c6 : cellR 6 (wr.row gF) = some uL := c6
          have zgF := lt_sz zF
          obtain ⟨aL, kL, rfl, -⟩ := hV.len
          have hpar : parse l = L := by
            unfold parse
            rw [← r5]
            simp only at ho ⊢
            rw [ho]; rfl
          have HV := Lib.hid (And.intro hV hpar)
          have hgw := hg0
          clear hD r5 hV hP rF hpar HR HS hF hfr hb eF
          simp only [List.nil_append, List.length_singleton] at b1 b1n ⊢
          go_wp2_with fail
          go_ret
          refine ⟨_, rfl, hgw.trans (by repeat (with_reducible first | assumption | exact grA | apply grB | apply grC | apply grD | refine grE ?_ (by omega) _ | refine grF ?_ (by omega) _ _)), ?_⟩
          rw [HV.out.2]
          exact HV.out.1.keep fun g hg hl => ⟨(show World.grows wr _ from (by repeat (with_reducible first | assumption | exact grA | apply grB | apply grC | apply grD | refine grE ?_ (by omega) _ | refine grF ?_ (by omega) _ _))).row_eq hl, hg.1⟩
        · have hn1 : 1 ≤ p.os.length := List.length_pos_iff.2 ho
          have b1 : (1 : Int) < (p.ls.length : Int) := by omega
          have b1n : 1 < p.ls.length := by omega
          have HPO := Lib.hid (And.intro ho (And.intro r3 r5))
          have HS4 := Lib.hid (show RStk w wr (.slice aF p.ls.length cF) p from ⟨tg, ins, hg0, hD⟩)
          have HNX : Hid (p.shut.tot ≤ 4194304 ∧ p.shut.os.length < p.os.length ∧ Ps.ends p.shut.os.length p.shut = Ps.ends p.os.length p) := Lib.hid (by
            have e1 : p.shut.os.length = p.os.length - 1 := by unfold Ps.shut; simp
            refine ⟨Nat.le_trans (Ps.shut_tot r2 ho) r3, by omega, ?_⟩
            rw [e1]
            obtain ⟨n, hn⟩ : ∃ n, p.os.length = n + 1 := ⟨p.os.length - 1, by omega⟩
            rw [hn]; rfl)
          clear hD r5 r3 r2 ho HR HS
          go_wp2_with (go_at_call 43; go_loud ((with_reducible refine (fshut_any HS4.out HPO.out.1 HPO.out.2.1).mono ?_); rintro r w9 ⟨v9, rfl, hS9⟩))
          go_roundg p.shut.os.length
          case measure => have := HNX.out.2.1; omega
          case rel => exact ⟨p.shut, Lib.hid ⟨hS9, HNX.out.1, rfl, HNX.out.2.2.trans HPO.out.2.2⟩⟩
end Go.Proofs.YthcaphoejplecaaGreatDoor
