/- WALK over rule: the component values of tokens. No condition but the bound on their number. -/
import Derived.Test.YthcaphoejplecaaGreatDoorVaV
set_option linter.unusedSimpArgs false
set_option linter.unusedVariables false
namespace Go.Proofs.YthcaphoejplecaaGreatDoor
open Go.RowKit
theorem rowG {w W W' : World} {row : Option Nat} {b : Nat} {o : Obj} (h : w.row b = some o) (hgr : W.grownBy W' row) (hg : w.grows W) (hne : some b ≠ row) : W'.row b = some o := by
  have hl := (row_sz' h).1
  have := hg.below.size
  rw [row_growV hgr (by omega) hne, hg.row_eq hl]; exact h
abbrev TksAt (w : World) (v : Value) (l : List Tk) : Prop := SlAt w (fun _ => True) 6 TkR v l
set_option maxRecDepth 100000 in
set_option maxHeartbeats 8000000 in
theorem rValues_any {w : World} {v : Value} {l : List Tk} (h : TksAt w v l) (hn : l.length ≤ 4194304) :
    Calls Tryz.prog 30 #[v] w fun e w' => ∃ r, e = .returned r ∧ w.grows w' ∧ VsAt w' (fun g => w.heap.size ≤ g) r (parse l) := by
  obtain ⟨a, cap, rfl, hcap, hcap2, h⟩ := h
  have HE := Lib.hid h
  clear h
  go_enter Tryz.func30, Tryz.ntmps30
  go_upto_region 4 with fail
  have hG : w.grows (((w.alloc (.cells #[.slice none 0 0] 58)).alloc (.cells #[.slice (some ⟨w.heap.size, 0, none⟩) 1 1] 89)).alloc (.cells #[.slice none 0 0] 27)) := (by repeat (with_reducible first | assumption | exact grA | apply grB | apply grC | apply grD | refine grE ?_ (by omega) _ | refine grF ?_ (by omega) _ _))
  have HS0 : Hid (Stk w (((w.alloc (.cells #[.slice none 0 0] 58)).alloc (.cells #[.slice (some ⟨w.heap.size, 0, none⟩) 1 1] 89)).alloc (.cells #[.slice none 0 0] 27)) (w.heap.size + 1) (w.heap.size + 1 + 1) (Ps.run [])) :=
    Lib.hid (Stk.start (b0 := w.heap.size) hG (Nat.le_refl _) (by omega) (by omega) (by omega) (by omega) (by omega) (by simp [go_sem]) (by simp [go_sem]) (by simp [go_sem]))
  generalize (((w.alloc (.cells #[.slice none 0 0] 58)).alloc (.cells #[.slice (some ⟨w.heap.size, 0, none⟩) 1 1] 89)).alloc (.cells #[.slice none 0 0] 27)) = w1 at *
  have lb3 : w.heap.size ≤ w.heap.size + 1 := by omega
  have lb4 : w.heap.size ≤ w.heap.size + 1 + 1 := by omega
  generalize w.heap.size + 1 + 1 = b4 at *
  generalize w.heap.size + 1 = b3 at *
  go_wp2_with fail
  go_loopg [13] l.length (fun gn v13 wj => ∃ i : Nat, Hid (gn + i = l.length ∧ i ≤ l.length) ∧ v13 = .int .i64 i ∧ Hid (Stk w wj b3 b4 (Ps.run (l.take i))))
  case atStart => exact ⟨0, Lib.hid ⟨by simp, Nat.zero_le _⟩, by go_num, by simpa using HS0⟩
  case round =>
    obtain ⟨i, HQ, rfl, HS⟩ := hrel
    obtain ⟨j1, j2⟩ := HQ.out
    by_cases hlt : i < l.length
    · have iI : (i : Int) < (l.length : Int) := by omega
      rcases HE.out with h0 | ⟨g, off, rfl, -, e1⟩
      · rw [h0] at hlt; simp at hlt
      have hgt : l[i]? = some l[i] := List.getElem?_eq_getElem hlt
      have HST := Lib.hid (Ps.run_succ hgt)
      have hpl := Ps.run_len (l.take i)
      have hpt := Ps.run_tot i l
      obtain ⟨cs, _, k1, rfl, twf⟩ := e1 i _ hgt
      generalize Ps.run (l.take i) = p at *
      generalize l[i] = t at *
      obtain ⟨k, s, n1, d, q1, q2⟩ := t
      obtain ⟨tg, vO, vS, ins, hg0, hD, t3, t4, l3, l4, hx3, hx4⟩ := HS.out
      have k2 := k1.grows hg0
      have z3 := lt_sz k2.lt
      obtain ⟨u1, u2⟩ := k2
      replace u1 : segOk (off + i * 6) 6 (wr.row g) = true := u1
      replace u2 : segV (off + i * 6) 6 (wr.row g) = .agg #[.int .i64 k, .string s, .int .i64 n1, .int .i64 d, .bool q1, .bool q2] := u2
      obtain ⟨aO, cO, rfl⟩ := own_slice hD.os
      obtain ⟨aS, cS, rfl⟩ := own_slice hD.ss
      have zx3 := row_sz' hx3
      have zx4 := row_sz' hx4
      have HD := Lib.hid hD
      have HP := Lib.hid (And.intro hpl hpt)
      have HTW := Lib.hid twf
      have ii0 : (0 : Int) ≤ (i : Int) := by omega
      clear e1 hgt k1 hD hpl hpt twf
      go_upto_region 12 with fail
      refine abs_rows (w := wr) (G := fun W => Code.wp _ _ _ _ W) (by repeat (with_reducible first | assumption | exact grA | apply grB | apply grC | apply grD | refine grE ?_ (by omega) _ | refine grF ?_ (by omega) _ _)) [(b3, .cells #[.slice aS p.ls.length cS] 89), (b4, .cells #[.slice aO p.os.length cO] 27), (wr.heap.size, .cells #[.int .i64 k, .string s, .int .i64 n1, .int .i64 d, .bool q1, .bool q2] 65)] (by simp [go_sem, *]) ?_
      intro w2 gw2 hl
      simp only [List.forall_mem_cons, List.not_mem_nil, false_implies, implies_true, and_true] at hl
      obtain ⟨y3, y4, y7⟩ := hl
      have zy3 := row_sz' y3
      have zy4 := row_sz' y4
      have zy7 := row_sz' y7
      have hs2 := gw2.below.size
      have HD2 := Lib.hid (HD.out.keep hs2 (fun g _ hl _ _ => gw2.row_eq hl) (fun _ _ => rfl))
      have hg2 := hg0.trans gw2
      have hb7 : wr.heap.size < w2.heap.size := zy7.1
      have l7 : w.heap.size ≤ wr.heap.size := hg0.below.size
      have mO7 : some wr.heap.size ≠ (Value.slice aO p.os.length cO).ownBlock := fun e => by have := (HD.out.os.lt _ e.symm).2; omega
      have mM7 : ∀ (j : Nat) (u : Value) (m : List Vt), ins[j]? = some u → p.ls[j]? = some m → ∀ g, u.ownBlock = some g → g < wr.heap.size := fun j u m q1 q2 g hg => by
        obtain ⟨_, _, _, h3⟩ := HD.out.ls.inn j u m q1 q2
        exact (h3.lt g hg).2
      have HM7 := Lib.hid mM7
      clear mM7
      generalize wr.heap.size = b7 at *
      have htot : p.tot ≤ 4194304 := by have := HP.out.2; omega
      have ho4 : p.os.length ≤ 4194304 := by unfold Ps.tot at htot; omega
      have mO3 : some b3 ≠ (Value.slice aO p.os.length cO).ownBlock := fun e => by have := HD2.out.tO _ e.symm; rw [t3] at this; simp at this
      have mO4 : some b4 ≠ (Value.slice aO p.os.length cO).ownBlock := fun e => by have := HD2.out.tO _ e.symm; rw [t4] at this; simp at this
      have mS3 : some b3 ≠ (Value.slice aS p.ls.length cS).ownBlock := fun e => by have := HD2.out.tS _ e.symm; rw [t3] at this; simp at this
      have mS4 : some b4 ≠ (Value.slice aS p.ls.length cS).ownBlock := fun e => by have := HD2.out.tS _ e.symm; rw [t4] at this; simp at this
      by_cases hc : 0 < clo k
      · have HSTP := Lib.hid (show (p.step ⟨k, s, n1, d, q1, q2⟩) = ⟨p.os ++ [⟨k, s, n1, d, q1, q2⟩], p.ls ++ [[]]⟩ by unfold Ps.step; rw [if_pos hc])
        go_upto_region 13 with ((go_at_call 49; (with_reducible refine (rclo_any k _).mono ?_); rintro e w1 ⟨rfl, x1, rfl⟩))
        go_upto_region 14 with ((at_builtin; refine wpList_app w (w.heap.size) rfl (.tmp 48) (.tmp 50) _ rfl 65 (.agg #[.int .i64 0, .string ByteArray.empty, .int .i64 0, .int .i64 0, .bool false, .bool false]) 6 48 Tryz.underlying27 (by kernel_rfl) rfl (by omega) (by omega) _ p.os.length _ rfl ((HD2.out.os.grows (by repeat (with_reducible first | assumption | exact grA | apply grB | apply grC | apply grD | refine grE ?_ (by omega) _ | refine grF ?_ (by omega) _ _)))) _ 1 _ [.int .i64 k, .string s, .int .i64 n1, .int .i64 d, .bool q1, .bool q2] rfl rfl (cells_of_row (e := 65) (fr := (0, 0)) (by simp [go_sem])) (by simp [Value.oneCell']) (by omega) (by repeat (with_reducible first | assumption | exact grA | apply grB | apply grC | apply grD | refine grE ?_ (by omega) _ | refine grF ?_ (by omega) _ _)) (by omega) (by first | omega | (simp <;> omega)) ?_; intro v' w' hg' HO' HR' HG' HA'); (obtain ⟨aO1, cO1, rfl⟩ := own_slice HO'.out; have z4 := rowG y4 HG'.out (by repeat (with_reducible first | assumption | exact grA | apply grB | apply grC | apply grD | refine grE ?_ (by omega) _ | refine grF ?_ (by omega) _ _)) mO4; have z3 := rowG y3 HG'.out (by repeat (with_reducible first | assumption | exact grA | apply grB | apply grC | apply grD | refine grE ?_ (by omega) _ | refine grF ?_ (by omega) _ _)) mO3; have zz4 := row_sz' z4; have zz3 := row_sz' z3))
        have hgA : w2.grows ((w2.plus x1).alloc (.cells #[.int .i64 k, .string s, .int .i64 n1, .int .i64 d, .bool q1, .bool q2] 65)) := (by repeat (with_reducible first | assumption | exact grA | apply grB | apply grC | apply grD | refine grE ?_ (by omega) _ | refine grF ?_ (by omega) _ _))
        have hsA := hgA.below.size
        have HK1 : Hid (Stk w (w'.setCell ⟨b4, 0, none⟩ (.slice aO1 (p.os.length + 1) cO1)) b3 b4 ⟨p.os ++ [⟨k, s, n1, d, q1, q2⟩], p.ls⟩) := by
          have hgr : w.grows w' := hg'
          have hsz := HG'.out.size
          refine Lib.hid (Stk.pushO HD2.out t3 t4 l3 l4 y3 zy4.1 HTW.out ?_ (ownsRow_rowV HO'.out fun g hg => ?_) (hgr.setCell' l4 _ _) ?_ (fun g h1 h2 h3 => ?_) ?_)
          · rcases HA'.out with e | e
            · exact .inl e
            · exact .inr ⟨_, e, hsA⟩
          · rw [World.row_setCell, if_neg (fun e => ?_)]
            rcases HA'.out with e2 | e2
            · exact mO4 (by rw [← e, ← hg]; exact e2)
            · have := zy4.1
              rw [hg] at e2; injection e2 with e2; omega
          · have e := World.setCell_size' w' ⟨b4, 0, none⟩ (Value.slice aO1 (p.os.length + 1) cO1); omega
          · rw [World.row_setCell, if_neg h2, row_growV HG'.out (by omega) (fun e => h3 e.symm)]; exact hgA.row_eq h1
          · rw [World.row_setCell, if_pos rfl, z4]; rfl
        generalize w'.setCell ⟨b4, 0, none⟩ (.slice aO1 (p.os.length + 1) cO1) = w5 at *
        clear HO' HG' HA' HR' z3 z4 hgA hsA hg' zz3 zz4
        obtain ⟨tg5, vO5, vS5, ins5, hg5, hD5, t53, t54, _, _, x53, x54⟩ := HK1.out
        obtain ⟨aS5, cS5, rfl⟩ := own_slice hD5.ss
        replace x53 : w5.row b3 = some (.cells #[.slice aS5 p.ls.length cS5] 89) := x53
        have zx53 := row_sz' x53
        have zx54 := row_sz' x54
        have HD5 := Lib.hid hD5
        have m53 : some b3 ≠ (Value.slice aS5 p.ls.length cS5).ownBlock := fun e => by have := hD5.tS _ e.symm; rw [t53] at this; simp at this
        have m54 : some b4 ≠ (Value.slice aS5 p.ls.length cS5).ownBlock := fun e => by have := hD5.tS _ e.symm; rw [t54] at this; simp at this
        have hl4 : p.ls.length ≤ 4194305 := by have := HP.out.1; omega
        clear hD5
        go_upto_region 17 with ((at_builtin; refine wpList_app w (w.heap.size) rfl (.tmp 52) (.tmp 53) _ rfl 58 (.slice none 0 0) 1 24 Tryz.underlying89 (by kernel_rfl) rfl (by omega) (by omega) _ p.ls.length _ rfl ((HD5.out.ss.grows (by repeat (with_reducible first | assumption | exact grA | apply grB | apply grC | apply grD | refine grE ?_ (by omega) _ | refine grF ?_ (by omega) _ _)))) _ 1 _ [.slice none 0 0] rfl rfl (cells_of_row (e := 58) (fr := (0, 0)) (by simp [go_sem])) (by simp [Value.oneCell']) (by omega) (by repeat (with_reducible first | assumption | exact grA | apply grB | apply grC | apply grD | refine grE ?_ (by omega) _ | refine grF ?_ (by omega) _ _)) (by omega) (by first | omega | (simp <;> omega)) ?_; intro v' w' hg' HO' HR' HG' HA'); (obtain ⟨aS1, cS1, rfl⟩ := own_slice HO'.out; have z3 := rowG x53 HG'.out (by repeat (with_reducible first | assumption | exact grA | apply grB | apply grC | apply grD | refine grE ?_ (by omega) _ | refine grF ?_ (by omega) _ _)) m53; have zz3 := row_sz' z3))
        have hgA : w5.grows (w5.alloc (.cells #[.slice none 0 0] 58)) := (by repeat (with_reducible first | assumption | exact grA | apply grB | apply grC | apply grD | refine grE ?_ (by omega) _ | refine grF ?_ (by omega) _ _))
        have hsA := hgA.below.size
        have HK2 : Hid (Stk w (w'.setCell ⟨b3, 0, none⟩ (.slice aS1 (p.ls.length + 1) cS1)) b3 b4 ⟨p.os ++ [⟨k, s, n1, d, q1, q2⟩], p.ls ++ [[]]⟩) := by
          have hgr : w.grows w' := hg'
          have hsz := HG'.out.size
          refine Lib.hid (Stk.pushS HD5.out t53 t54 l3 l4 zx53.1 x54 ?_ (ownsRow_rowV HO'.out fun g hg => ?_) (hgr.setCell' l3 _ _) ?_ (fun g h1 h2 h3 => ?_) ?_)
          · rcases HA'.out with e | e
            · exact .inl e
            · exact .inr ⟨_, e, hsA⟩
          · rw [World.row_setCell, if_neg (fun e => ?_)]
            rcases HA'.out with e2 | e2
            · exact m53 (by rw [← e, ← hg]; exact e2)
            · have := zx53.1
              rw [hg] at e2; injection e2 with e2; omega
          · have e := World.setCell_size' w' ⟨b3, 0, none⟩ (Value.slice aS1 (p.ls.length + 1) cS1); omega
          · rw [World.row_setCell, if_neg h2, row_growV HG'.out (by omega) (fun e => h3 e.symm)]; exact hgA.row_eq h1
          · rw [World.row_setCell, if_pos rfl, z3]; rfl
        generalize w'.setCell ⟨b3, 0, none⟩ (.slice aS1 (p.ls.length + 1) cS1) = w6 at *
        clear HO' HG' HA' HR' z3 hgA hsA hg' zz3
        go_wp2_with fail
        go_roundg (l.length - (i + 1))
        case measure => omega
        case rel => exact ⟨i + 1, Lib.hid ⟨by omega, by omega⟩, by go_num, by rw [HST.out, HSTP.out]; exact HK2⟩
      · have hc0 : clo k = 0 := by rcases clo_cases k with h | h <;> omega
        clear hc
        go_upto_region 15 with ((go_at_call 49; (with_reducible refine (rclo_any k _).mono ?_); rintro e w1 ⟨rfl, x1, rfl⟩))
        have HS2 : Stk w (w2.plus x1) b3 b4 p := ((HS.out.grows gw2).grows (by repeat (with_reducible first | assumption | exact grA | apply grB | apply grC | apply grD | refine grE ?_ (by omega) _ | refine grF ?_ (by omega) _ _)))
        have y73 : (w2.plus x1).row b3 = _ := ((show w2.grows (w2.plus x1) from (by repeat (with_reducible first | assumption | exact grA | apply grB | apply grC | apply grD | refine grE ?_ (by omega) _ | refine grF ?_ (by omega) _ _))).row_eq zy3.1).trans y3
        have y74 : (w2.plus x1).row b4 = _ := ((show w2.grows (w2.plus x1) from (by repeat (with_reducible first | assumption | exact grA | apply grB | apply grC | apply grD | refine grE ?_ (by omega) _ | refine grF ?_ (by omega) _ _))).row_eq zy4.1).trans y4
        have y77 : (w2.plus x1).row b7 = _ := ((show w2.grows (w2.plus x1) from (by repeat (with_reducible first | assumption | exact grA | apply grB | apply grC | apply grD | refine grE ?_ (by omega) _ | refine grF ?_ (by omega) _ _))).row_eq zy7.1).trans y7
        have hD3 := HD2.out.keep (show w2.grows (w2.plus x1) from (by repeat (with_reducible first | assumption | exact grA | apply grB | apply grC | apply grD | refine grE ?_ (by omega) _ | refine grF ?_ (by omega) _ _))).below.size (fun g _ hl _ _ => (show w2.grows (w2.plus x1) from (by repeat (with_reducible first | assumption | exact grA | apply grB | apply grC | apply grD | refine grE ?_ (by omega) _ | refine grF ?_ (by omega) _ _))).row_eq hl) (fun _ _ => rfl)
        have hg3 := hg2.trans (show w2.grows (w2.plus x1) from (by repeat (with_reducible first | assumption | exact grA | apply grB | apply grC | apply grD | refine grE ?_ (by omega) _ | refine grF ?_ (by omega) _ _)))
        clear y3 y4 y7 zy3 zy4 zy7 HD2 HD hx3 hx4 zx3 zx4 gw2
        generalize w2.plus x1 = w3 at *
        obtain ⟨os, ls⟩ := p
        obtain ⟨hpl, hpt⟩ := HP.out
        clear HS HP
        dsimp only at y73 y74 ho4 hpl hpt mO3 mO4 mO7 mS3 mS4 ⊢
        obtain ⟨ls0, m, rfl, hls⟩ := snoc_of hpl
        have hil : ins.length = os.length + 1 := by have := hD3.ls.len; simp at this; omega
        obtain ⟨ins, um, rfl, hi2⟩ := snoc_of hil
        obtain ⟨aM, cM, rfl⟩ : ∃ a c, um = .slice a m.length c := by
          obtain ⟨_, _, _, h3⟩ := hD3.ls.inn os.length um m (by rw [← hi2]; simp) (by rw [← hls]; simp)
          exact own_slice h3
        obtain ⟨css, c1, c2, hOM⟩ := hD3.ls.inn os.length (.slice aM m.length cM) m (by rw [← hi2]; simp) (by rw [← hls]; simp)
        have hSS := hD3.ss
        simp only [List.length_append, List.length_singleton, hls] at hSS y73 mS3 mS4
        obtain ⟨gS, cS', curS, e1, eM, kS, mS, bS, zS, rS, sS, -⟩ := own_elt hSS (X := ins) (cs := [.slice aM m.length cM]) (Y := []) (by simp) (by simp)
        injection e1 with e1 _ e3
        subst e3
        subst e1
        rw [hi2] at eM
        have cM2 := eM.cell (j := 0) rfl
        rw [World.cell?_row, Nat.add_zero] at cM2
        have hcS : curS[os.length]? = some (.slice aM m.length cM) := by rw [rS] at cM2; exact cM2
        have hcl : os.length < curS.size := (Array.getElem?_eq_some_iff.1 hcS).1
        have tS2 : tg gS = some 1 := hD3.tS gS rfl
        have HMN : Hid (∀ g, (Value.slice aM m.length cM).ownBlock = some g → g ≠ gS ∧ g < w3.heap.size ∧ g ≠ b3 ∧ g ≠ b4 ∧ g ≠ b7) := Lib.hid fun g hg => by
          have hh := hD3.ls.tI os.length (.slice aM m.length cM) g (by rw [← hi2]; simp) hg
          refine ⟨fun e => ?_, (hOM.lt g hg).2, fun e => ?_, fun e => ?_, fun e => ?_⟩
          · rw [e, tS2] at hh; simp at hh
          · rw [e, t3] at hh; simp at hh
          · rw [e, t4] at hh; simp at hh
          · have := HM7.out os.length (.slice aM m.length cM) m (by rw [← hi2]; simp) (by rw [← hls]; simp) g hg
            omega
        have zy73 := row_sz' y73
        have zy74 := row_sz' y74
        have zy77 := row_sz' y77
        have zrS := row_sz' rS
        have HOS := Lib.hid hD3.os
        have HD3 := Lib.hid hD3
        have HC1 := Lib.hid c1
        have HC2 := Lib.hid c2
        have HOM := Lib.hid hOM
        have HH := Lib.hid (And.intro hls (And.intro hil hi2))
        have HTT := Lib.hid (And.intro hpt htot)
        have hml : m.length ≤ 4194304 := by have := htot; unfold Ps.tot at this; simp at this; omega
        have HS3 := Lib.hid HS2
        clear hD3 c1 c2 hOM eM cM2 hSS HS2 hls hil hi2 hpl hpt htot
        by_cases ho : os = []
        · have HDEF : Hid (Ps.step ⟨os, ls0 ++ [m]⟩ ⟨k, s, n1, d, q1, q2⟩ = ⟨os, ls0 ++ [m ++ [.mk ⟨k, s, n1, d, q1, q2⟩ []]]⟩) := Lib.hid (by
            unfold Ps.step
            rw [if_neg (by show ¬ 0 < clo k; omega), if_neg (fun hh => hh.1 ho), addTop_snoc])
          have b0 : ¬ (0 : Int) < (os.length : Int) := by rw [ho]; simp
          have b0n : decide (0 < os.length) = false := by rw [ho]; rfl
          have b0i : decide ((0 : Int) < (os.length : Int)) = false := by rw [ho]; rfl
          clear ho
          refine wp_region_plus_lit (by kernel_rfl) (by kernel_rfl) ?_
          repeat (go_big_quiet_step (fail))
          (refine wpQuiet_nil ?_; intro _ hw'; obtain ⟨xq, hw''⟩ := hw'; subst hw'')
          go_wp2_with fail
          have i1 : (0 : Int) ≤ (os.length : Int) := by omega
          have i2 : (os.length : Int) < (os.length : Int) + 1 := by omega
          go_region
          · go_wp2_with fail
            refine abs_rows (w := w3) (G := fun W => Code.wp _ _ _ _ W) (by repeat (with_reducible first | assumption | exact grA | apply grB | apply grC | apply grD | refine grE ?_ (by omega) _ | refine grF ?_ (by omega) _ _)) [(b3, .cells #[.slice (some ⟨gS, 0, none⟩) (os.length + 1) cS] 89), (b7, .cells #[.int .i64 k, .string s, .int .i64 n1, .int .i64 d, .bool q1, .bool q2] 65), (gS, .cells curS 58)] (by simp [go_sem, *]) ?_
            intro w4 gw4 hl
            simp only [List.forall_mem_cons, List.not_mem_nil, false_implies, implies_true, and_true] at hl
            obtain ⟨x3, x7, xS⟩ := hl
            have zx3 := row_sz' x3
            have zx7 := row_sz' x7
            have zxS := row_sz' xS
            refine wp_region_seq_tail (S := rowsAs w4 [b3, b7, gS]) 11 (by kernel_rfl) (by kernel_rfl) (rowsAs.drew _ _) ?_
            simp only [List.take_succ_cons, List.take_zero, List.drop_succ_cons, List.drop_zero]
            show wpSeqL _ _ _ _ _ _ (World.drew w4)
            have hdd : w4.grows (World.drew w4) := World.grows.drew World.grows.refl
            repeat (refine wpSeqL_free rfl ?_; refine wpQuiet_step (fun K hK => ?_); (rw [if_pos (by simp [Region.wanted])]; refine Exists.intro ?_ ⟨fun w' hw' => ?_, ?_⟩; rotate_left; focus (have r0 := rowsAs.of hw' x3 (by simp); have s0 := row_sz' r0; have r1 := rowsAs.of hw' x7 (by simp); have s1 := row_sz' r1; have r2 := rowsAs.of hw' xS (by simp); have s2 := row_sz' r2; first | (simp [Oper.quietAt, Oper.quietUpon, go_sem, r0, r1, r2, s0, s1, s2, hcS, i1, i2]; rfl) | (exact ⟨rfl, rfl⟩))); go_simp; refine hK _ ?_; clear hK K; refine wpQuiet_nil ?_)
            have hRA : rowsAs w4 [b3, b7, gS] (World.drew w4) := rowsAs.drew _ _
            have hd0 : (World.drew w4).heap.size = w4.heap.size := rfl
            generalize World.drew w4 = wA at *
            refine wpSeqL_link rfl (fun K hK => ?_)
            go_simp
            have hgB : wA.grows (wA.alloc (.cells #[.int .i64 k, .string s, .int .i64 n1, .int .i64 d, .bool q1, .bool q2, .slice none 0 0] 70)) := World.grows.alloc World.grows.refl _
            have hnB : (wA.alloc (.cells #[.int .i64 k, .string s, .int .i64 n1, .int .i64 d, .bool q1, .bool q2, .slice none 0 0] 70)).row w4.heap.size = some (.cells #[.int .i64 k, .string s, .int .i64 n1, .int .i64 d, .bool q1, .bool q2, .slice none 0 0] 70) := by rw [← hd0]; simp [go_sem]
            have hsB : (wA.alloc (.cells #[.int .i64 k, .string s, .int .i64 n1, .int .i64 d, .bool q1, .bool q2, .slice none 0 0] 70)).heap.size = wA.heap.size + 1 := by simp
            have hRB := hRA.grow hgB (by simp [hd0, zx3, zx7, zxS])
            refine hK _ _ hRB ?_
            clear hK K
            generalize wA.alloc (.cells #[.int .i64 k, .string s, .int .i64 n1, .int .i64 d, .bool q1, .bool q2, .slice none 0 0] 70) = wB at *
            have hg2B : w3.grows wB := (gw4.trans hdd).trans hgB
            refine wpSeqL_appO w.heap.size rfl rfl (.tmp 37) (.tmp 40) 58 rfl 70 (.agg #[.int .i64 0, .string ByteArray.empty, .int .i64 0, .int .i64 0, .bool false, .bool false, .slice none 0 0]) 7 72 Tryz.underlying58 (by kernel_rfl) rfl (by omega) (by omega) _ m.length _ rfl (HOM.out.grows hg2B) (some ⟨w4.heap.size, 0, none⟩) 1 1 [.int .i64 k, .string s, .int .i64 n1, .int .i64 d, .bool q1, .bool q2, .slice none 0 0] rfl rfl (.inr ⟨_, rfl, fun j u hu => ?_⟩) (by simp [Value.oneCell']) (by omega) (by have := hg2B.below.size; have := hg3.below.size; omega) ?_
            · exact cells_of_row (e := 70) (fr := (0, 0)) hnB j u hu
            intro v8 wG k1 k2 k3
            replace k2 : wB.grownBy wG (Value.slice aM m.length cM).ownBlock := k2
            replace k3 : v8.ownBlock = (Value.slice aM m.length cM).ownBlock ∨ v8.ownBlock = some wB.heap.size := k3
            have hs2B := hg2B.below.size
            have hRG := hRB.grown k2 (fun b hb => by
              have hb' : b = b3 ∨ b = b7 ∨ b = gS := by simpa using hb
              refine ⟨by rcases hb' with rfl | rfl | rfl <;> omega, fun e => ?_⟩
              obtain ⟨e1, _, e3, _, e5⟩ := HMN.out b e.symm
              rcases hb' with rfl | rfl | rfl
              · exact e3 rfl
              · exact e5 rfl
              · exact e1 rfl)
            refine ⟨hRG, ?_⟩
            obtain ⟨a8, c8, rfl⟩ := own_slice k1
            go_simp
            have hGS := hRG.of xS (by simp)
            have zGS := row_sz' hGS
            repeat (refine wpSeqL_free rfl ?_; refine wpQuiet_step (fun K hK => ?_); (rw [if_pos (by simp [Region.wanted])]; refine Exists.intro ?_ ⟨fun w' hw' => ?_, ?_⟩; rotate_left; focus (have r0 := rowsAs.of hw' x3 (by simp); have s0 := row_sz' r0; have r1 := rowsAs.of hw' x7 (by simp); have s1 := row_sz' r1; have r2 := rowsAs.of hw' xS (by simp); have s2 := row_sz' r2; first | (simp [Oper.quietAt, Oper.quietUpon, go_sem, r0, r1, r2, s0, s1, s2, i1, i2]; rfl) | (exact ⟨rfl, rfl⟩))); go_simp; refine hK _ ?_; clear hK K; refine wpQuiet_nil ?_)
            refine wpSeqL_end ?_
            go_wp2_with fail
            have hGO : w.grows wG := (hg3.trans hg2B).grown k2 fun k hk => (HOM.out.lt k hk).1
            have HF : Hid (Stk w (wG.setCell ⟨gS, os.length, none⟩ (.slice a8 (m.length + 1) c8)) b3 b4 ⟨os, ls0 ++ [m ++ [.mk ⟨k, s, n1, d, q1, q2⟩ []]]⟩) := by
              refine Lib.hid (Stk.last (gS := gS) (cS := cS) (by have := HD3.out; rw [List.length_append] at this; exact this) t3 t4 l3 l4 (by rw [HH.out.1]; exact y73) y74 rS HC1.out HC2.out (VOk_mk HTW.out (SlAt_nil _ _ _ _)) ?_ (ownsRow_rowV k1 fun g hg => ?_) (hGO.setCell' bS _ _) ?_ (fun g h1 h2 h3 => ?_) ?_)
              · rcases k3 with k3 | k3
                · exact .inl k3
                · exact .inr ⟨_, k3, hs2B⟩
              · have hne8 : g ≠ gS := fun e => by
                  rcases k3 with k3 | k3
                  · exact (HMN.out g (k3.symm.trans hg)).1 e
                  · rw [k3] at hg; injection hg with hg; have := zrS.1; omega
                rw [World.row_setCell, if_neg hne8]
              · have := k2.size; have e := World.setCell_size' wG ⟨gS, os.length, none⟩ (Value.slice a8 (m.length + 1) c8); omega
              · rw [World.row_setCell, if_neg h2, row_growV k2 (by omega) (fun e => h3 e.symm)]; exact hg2B.row_eq h1
              · rw [World.row_setCell, if_pos rfl, hGS, HH.out.1, layV_one _ _ _ (by simpa using hcl), ← Array.toList_setIfInBounds]
                rfl
            go_roundg (l.length - (i + 1))
            case measure => omega
            case rel => exact ⟨i + 1, Lib.hid ⟨by omega, by omega⟩, by go_num, by rw [HST.out, HDEF.out]; exact HF⟩
          · go_wp2_with fail
            refine abs_rows (w := w3) (G := fun W => Code.wp _ _ _ _ W) (by repeat (with_reducible first | assumption | exact grA | apply grB | apply grC | apply grD | refine grE ?_ (by omega) _ | refine grF ?_ (by omega) _ _)) [(b3, .cells #[.slice (some ⟨gS, 0, none⟩) (os.length + 1) cS] 89), (b7, .cells #[.int .i64 k, .string s, .int .i64 n1, .int .i64 d, .bool q1, .bool q2] 65), (gS, .cells curS 58)] (by simp [go_sem, *]) ?_
            intro w4 gw4 hl
            simp only [List.forall_mem_cons, List.not_mem_nil, false_implies, implies_true, and_true] at hl
            obtain ⟨x3, x7, xS⟩ := hl
            have zx3 := row_sz' x3
            have zx7 := row_sz' x7
            have zxS := row_sz' xS
            refine wp_region_seq_tail (S := rowsAs w4 [b3, b7, gS]) 10 (by kernel_rfl) (by kernel_rfl) (rowsAs.drew _ _) ?_
            simp only [List.take_succ_cons, List.take_zero, List.drop_succ_cons, List.drop_zero]
            show wpSeqL _ _ _ _ _ _ (World.drew w4)
            have hdd : w4.grows (World.drew w4) := World.grows.drew World.grows.refl
            repeat (refine wpSeqL_free rfl ?_; refine wpQuiet_step (fun K hK => ?_); (rw [if_pos (by simp [Region.wanted])]; refine Exists.intro ?_ ⟨fun w' hw' => ?_, ?_⟩; rotate_left; focus (have r0 := rowsAs.of hw' x3 (by simp); have s0 := row_sz' r0; have r1 := rowsAs.of hw' x7 (by simp); have s1 := row_sz' r1; have r2 := rowsAs.of hw' xS (by simp); have s2 := row_sz' r2; first | (simp [Oper.quietAt, Oper.quietUpon, go_sem, r0, r1, r2, s0, s1, s2, hcS, i1, i2]; rfl) | (exact ⟨rfl, rfl⟩))); go_simp; refine hK _ ?_; clear hK K; refine wpQuiet_nil ?_)
            have hRA : rowsAs w4 [b3, b7, gS] (World.drew w4) := rowsAs.drew _ _
            have hd0 : (World.drew w4).heap.size = w4.heap.size := rfl
            generalize World.drew w4 = wA at *
            refine wpSeqL_link rfl (fun K hK => ?_)
            go_simp
            have hgB : wA.grows (wA.alloc (.cells #[.int .i64 0, .string ⟨#[]⟩, .int .i64 0, .int .i64 0, .bool false, .bool false, .slice none 0 0] 70)) := World.grows.alloc World.grows.refl _
            have hnB : (wA.alloc (.cells #[.int .i64 0, .string ⟨#[]⟩, .int .i64 0, .int .i64 0, .bool false, .bool false, .slice none 0 0] 70)).row w4.heap.size = some (.cells #[.int .i64 0, .string ⟨#[]⟩, .int .i64 0, .int .i64 0, .bool false, .bool false, .slice none 0 0] 70) := by rw [← hd0]; simp [go_sem]
            have hsB : (wA.alloc (.cells #[.int .i64 0, .string ⟨#[]⟩, .int .i64 0, .int .i64 0, .bool false, .bool false, .slice none 0 0] 70)).heap.size = wA.heap.size + 1 := by simp
            have hRB := hRA.grow hgB (by simp [hd0, zx3, zx7, zxS])
            refine hK _ _ hRB ?_
            clear hK K
            generalize wA.alloc (.cells #[.int .i64 0, .string ⟨#[]⟩, .int .i64 0, .int .i64 0, .bool false, .bool false, .slice none 0 0] 70) = wB at *
            have hg2B : w3.grows wB := (gw4.trans hdd).trans hgB
            refine wpSeqL_appO w.heap.size rfl rfl (.tmp 24) (.tmp 28) 58 rfl 70 (.agg #[.int .i64 0, .string ByteArray.empty, .int .i64 0, .int .i64 0, .bool false, .bool false, .slice none 0 0]) 7 72 Tryz.underlying58 (by kernel_rfl) rfl (by omega) (by omega) _ m.length _ rfl (HOM.out.grows hg2B) (some ⟨w4.heap.size, 0, none⟩) 1 1 [.int .i64 0, .string ByteArray.empty, .int .i64 0, .int .i64 0, .bool false, .bool false, .slice none 0 0] rfl rfl (.inr ⟨_, rfl, fun j u hu => ?_⟩) (by simp [Value.oneCell']) (by omega) (by have := hg2B.below.size; have := hg3.below.size; omega) ?_
            · exact cells_of_row (e := 70) (fr := (0, 0)) hnB j u hu
            intro v8 wG k1 k2 k3
            replace k2 : wB.grownBy wG (Value.slice aM m.length cM).ownBlock := k2
            replace k3 : v8.ownBlock = (Value.slice aM m.length cM).ownBlock ∨ v8.ownBlock = some wB.heap.size := k3
            have hs2B := hg2B.below.size
            have hRG := hRB.grown k2 (fun b hb => by
              have hb' : b = b3 ∨ b = b7 ∨ b = gS := by simpa using hb
              refine ⟨by rcases hb' with rfl | rfl | rfl <;> omega, fun e => ?_⟩
              obtain ⟨e1, _, e3, _, e5⟩ := HMN.out b e.symm
              rcases hb' with rfl | rfl | rfl
              · exact e3 rfl
              · exact e5 rfl
              · exact e1 rfl)
            refine ⟨hRG, ?_⟩
            obtain ⟨gV, cV, rfl, bV, zV, hst, hown⟩ := zero_app k1 rfl
            replace k3 : some gV = (Value.slice aM m.length cM).ownBlock ∨ some gV = some wB.heap.size := k3
            go_simp
            have hGS := hRG.of xS (by simp)
            have zGS := row_sz' hGS
            repeat (refine wpSeqL_free rfl ?_; refine wpQuiet_step (fun K hK => ?_); (rw [if_pos (by simp [Region.wanted])]; refine Exists.intro ?_ ⟨fun w' hw' => ?_, ?_⟩; rotate_left; focus (have r0 := rowsAs.of hw' x3 (by simp); have s0 := row_sz' r0; have r1 := rowsAs.of hw' x7 (by simp); have s1 := row_sz' r1; have r2 := rowsAs.of hw' xS (by simp); have s2 := row_sz' r2; first | (simp [Oper.quietAt, Oper.quietUpon, go_sem, r0, r1, r2, s0, s1, s2, i1, i2]; rfl) | (exact ⟨rfl, rfl⟩))); go_simp; refine hK _ ?_; clear hK K; refine wpQuiet_nil ?_)
            refine wpSeqL_end ?_
            have hneV : gV ≠ gS := fun e => by
              rcases k3 with k3 | k3
              · exact (HMN.out gV k3.symm).1 e
              · injection k3 with k3; have := zrS.1; omega
            have hsd := World.setCell_size' wG ⟨gS, os.length, none⟩ (Value.slice (some ⟨gV, 0, none⟩) (m.length + 1) cV)
            have hrH : (wG.setCell ⟨gS, os.length, none⟩ (Value.slice (some ⟨gV, 0, none⟩) (m.length + 1) cV)).row gV = wG.row gV := by rw [World.row_setCell, if_neg hneV]
            have hst2 := hst (wG.setCell ⟨gS, os.length, none⟩ (Value.slice (some ⟨gV, 0, none⟩) (m.length + 1) cV)) [.int .i64 k, .string s, .int .i64 n1, .int .i64 d, .bool q1, .bool q2, .slice none 0 0] rfl (by simp [Value.oneCell']) hrH
            have hown2 := hown _ _ [.int .i64 k, .string s, .int .i64 n1, .int .i64 d, .bool q1, .bool q2, .slice none 0 0] rfl hrH rfl
            have HOW := Lib.hid hown2
            have HST' := Lib.hid hst
            have HON := Lib.hid hown
            clear hown2 hst hown
            have j1 : (0 : Int) ≤ (m.length : Int) := by omega
            have j2 : (m.length : Int) < (m.length : Int) + 1 := by omega
            go_wp2_with fail
            have hGO : w.grows wG := (hg3.trans hg2B).grown k2 fun k hk => (HOM.out.lt k hk).1
            have hsz2 := size_layV gV [.int .i64 k, .string s, .int .i64 n1, .int .i64 d, .bool q1, .bool q2, .slice none 0 0] (m.length * 7) (wG.setCell ⟨gS, os.length, none⟩ (Value.slice (some ⟨gV, 0, none⟩) (m.length + 1) cV))
            have HF : Hid (Stk w ((wG.setCell ⟨gS, os.length, none⟩ (.slice (some ⟨gV, 0, none⟩) (m.length + 1) cV)).setCells gV (m.length * 7) [.int .i64 k, .string s, .int .i64 n1, .int .i64 d, .bool q1, .bool q2, .slice none 0 0]) b3 b4 ⟨os, ls0 ++ [m ++ [.mk ⟨k, s, n1, d, q1, q2⟩ []]]⟩) := by
              refine Lib.hid (Stk.last (gS := gS) (cS := cS) (by have := HD3.out; rw [List.length_append] at this; exact this) t3 t4 l3 l4 (by rw [HH.out.1]; exact y73) y74 rS HC1.out HC2.out (VOk_mk HTW.out (SlAt_nil _ _ _ _)) ?_ HOW.out (grows_layV bV _ _ (hGO.setCell' bS _ _)) ?_ (fun g h1 h2 h3 => ?_) ?_)
              · rcases k3 with k3 | k3
                · exact .inl k3
                · exact .inr ⟨_, k3, hs2B⟩
              · have := k2.size; omega
              · have hgV : g ≠ gV := fun e => by
                  rcases k3 with k3 | k3
                  · exact h3 (by rw [e]; exact k3.symm)
                  · injection k3 with k3; omega
                rw [row_layVO _ _ hgV, World.row_setCell, if_neg h2, row_growV k2 (by omega) (fun e => h3 e.symm)]; exact hg2B.row_eq h1
              · rw [row_layVO _ _ (fun e => hneV e.symm), World.row_setCell, if_pos rfl, hGS, HH.out.1, layV_one _ _ _ (by simpa using hcl), ← Array.toList_setIfInBounds]
                rfl
            go_roundg (l.length - (i + 1))
            case measure => omega
            case rel => exact ⟨i + 1, Lib.hid ⟨by omega, by omega⟩, by go_num, by rw [HST.out, HDEF.out]; exact HF⟩
        · have hn1 : 1 ≤ os.length := List.length_pos_iff.2 ho
          obtain ⟨o1, t1, hos, h1⟩ := snoc_of (l := os) (n := os.length - 1) (by omega)
          have hfl : (o1.flatMap Tk.cs).length = (os.length - 1) * 6 := by
            have : ∀ (o : List Tk), (o.flatMap Tk.cs).length = o.length * 6 := fun o => by
              induction o with
              | nil => rfl
              | cons a o ih => rw [List.flatMap_cons, List.length_append, ih]; simp; omega
            rw [this, h1]
          obtain ⟨gO, cO', curO, e1, eO, kO, mO, bO, zO, -, -, -⟩ := own_elt HOS.out (X := o1.flatMap Tk.cs) (cs := t1.cs) (Y := []) (by rw [hos]; simp) (by simp)
          injection e1 with e1 _ e3
          subst e3
          subst e1
          rw [hfl] at eO
          obtain ⟨n, hn, hidx⟩ : ∃ n : Nat, os.length - 1 = n ∧ (os.length : Int) - 1 = (n : Int) := ⟨_, rfl, by omega⟩
          rw [hn] at eO
          have cO2 := eO.cell (j := 0) rfl
          rw [World.cell?_row, Nat.add_zero] at cO2
          have zO' := lt_sz zO
          have hnw : IntKind.i64.wrap (n : Int) = (n : Int) := by rw [IntKind.wrap_i64]; omega
          have n0 : (0 : Int) ≤ (n : Int) := by omega
          have n2 : (n : Int) < (os.length : Int) := by omega
          have b0 : (0 : Int) < (os.length : Int) := by omega
          have b0n : 0 < os.length := by omega
          have hlast : os.getLastD ⟨0, ByteArray.empty, 0, 0, false, false⟩ = t1 := by rw [hos]; simp
          have HO1 := Lib.hid (And.intro ho (And.intro hlast hn))
          clear ho hos hlast hfl eO h1 hn hn1
          by_cases hsh : clo t1.k = k
          · have HSH : Hid (Ps.step ⟨os, ls0 ++ [m]⟩ ⟨k, s, n1, d, q1, q2⟩ = Ps.shut ⟨os, ls0 ++ [m]⟩) := Lib.hid (by
              unfold Ps.step
              rw [if_neg (by show ¬ 0 < clo k; omega), if_pos ⟨HO1.out.1, by show clo (os.getLastD _).k = k; rw [HO1.out.2.1]; exact hsh⟩])
            have hb : (clo t1.k == k) = true := by simpa using hsh
            clear hsh
            refine wp_region_plus_lit (by kernel_rfl) (by kernel_rfl) ?_
            repeat (go_big_quiet_step ((go_at_call 49; (with_reducible exact Calls.plus_of (rclo_any t1.k _)))))
            (refine wpQuiet_nil ?_; intro _ hw'; obtain ⟨xq, hw''⟩ := hw'; subst hw'')
            have HS4 := Lib.hid (HS3.out.grows (show w3.grows (w3.plus xq) from (by repeat (with_reducible first | assumption | exact grA | apply grB | apply grC | apply grD | refine grE ?_ (by omega) _ | refine grF ?_ (by omega) _ _))))
            have HPL := Lib.hid (show (ls0 ++ [m]).length = os.length + 1 by rw [List.length_append, HH.out.1]; rfl)
            go_wp2_with (go_at_call 48; go_loud ((with_reducible refine (rshut_any HS4.out HPL.out HO1.out.1 HTT.out.2).mono ?_); rintro r w9 ⟨rfl, hS9⟩))
            go_roundg (l.length - (i + 1))
            case measure => omega
            case rel => exact ⟨i + 1, Lib.hid ⟨by omega, by omega⟩, by go_num, by rw [HST.out, HSH.out]; exact Lib.hid hS9⟩
          · have HDEF : Hid (Ps.step ⟨os, ls0 ++ [m]⟩ ⟨k, s, n1, d, q1, q2⟩ = ⟨os, ls0 ++ [m ++ [.mk ⟨k, s, n1, d, q1, q2⟩ []]]⟩) := Lib.hid (by
              unfold Ps.step
              rw [if_neg (by show ¬ 0 < clo k; omega), if_neg (fun hh => hsh (by have := hh.2; simp only at this; rw [HO1.out.2.1] at this; exact this)), addTop_snoc])
            have hb : (clo t1.k == k) = false := by simpa using hsh
            clear hsh
            refine wp_region_plus_lit (by kernel_rfl) (by kernel_rfl) ?_
            repeat (go_big_quiet_step ((go_at_call 49; (with_reducible exact Calls.plus_of (rclo_any t1.k _)))))
            (refine wpQuiet_nil ?_; intro _ hw'; obtain ⟨xq, hw''⟩ := hw'; subst hw'')
            go_wp2_with fail
            have i1 : (0 : Int) ≤ (os.length : Int) := by omega
            have i2 : (os.length : Int) < (os.length : Int) + 1 := by omega
            go_region
            · go_wp2_with fail
              refine abs_rows (w := w3) (G := fun W => Code.wp _ _ _ _ W) (by repeat (with_reducible first | assumption | exact grA | apply grB | apply grC | apply grD | refine grE ?_ (by omega) _ | refine grF ?_ (by omega) _ _)) [(b3, .cells #[.slice (some ⟨gS, 0, none⟩) (os.length + 1) cS] 89), (b7, .cells #[.int .i64 k, .string s, .int .i64 n1, .int .i64 d, .bool q1, .bool q2] 65), (gS, .cells curS 58)] (by simp [go_sem, *]) ?_
              intro w4 gw4 hl
              simp only [List.forall_mem_cons, List.not_mem_nil, false_implies, implies_true, and_true] at hl
              obtain ⟨x3, x7, xS⟩ := hl
              have zx3 := row_sz' x3
              have zx7 := row_sz' x7
              have zxS := row_sz' xS
              refine wp_region_seq_tail (S := rowsAs w4 [b3, b7, gS]) 11 (by kernel_rfl) (by kernel_rfl) (rowsAs.drew _ _) ?_
              simp only [List.take_succ_cons, List.take_zero, List.drop_succ_cons, List.drop_zero]
              show wpSeqL _ _ _ _ _ _ (World.drew w4)
              have hdd : w4.grows (World.drew w4) := World.grows.drew World.grows.refl
              repeat (refine wpSeqL_free rfl ?_; refine wpQuiet_step (fun K hK => ?_); (rw [if_pos (by simp [Region.wanted])]; refine Exists.intro ?_ ⟨fun w' hw' => ?_, ?_⟩; rotate_left; focus (have r0 := rowsAs.of hw' x3 (by simp); have s0 := row_sz' r0; have r1 := rowsAs.of hw' x7 (by simp); have s1 := row_sz' r1; have r2 := rowsAs.of hw' xS (by simp); have s2 := row_sz' r2; first | (simp [Oper.quietAt, Oper.quietUpon, go_sem, r0, r1, r2, s0, s1, s2, hcS, i1, i2]; rfl) | (exact ⟨rfl, rfl⟩))); go_simp; refine hK _ ?_; clear hK K; refine wpQuiet_nil ?_)
              have hRA : rowsAs w4 [b3, b7, gS] (World.drew w4) := rowsAs.drew _ _
              have hd0 : (World.drew w4).heap.size = w4.heap.size := rfl
              generalize World.drew w4 = wA at *
              refine wpSeqL_link rfl (fun K hK => ?_)
              go_simp
              have hgB : wA.grows (wA.alloc (.cells #[.int .i64 k, .string s, .int .i64 n1, .int .i64 d, .bool q1, .bool q2, .slice none 0 0] 70)) := World.grows.alloc World.grows.refl _
              have hnB : (wA.alloc (.cells #[.int .i64 k, .string s, .int .i64 n1, .int .i64 d, .bool q1, .bool q2, .slice none 0 0] 70)).row w4.heap.size = some (.cells #[.int .i64 k, .string s, .int .i64 n1, .int .i64 d, .bool q1, .bool q2, .slice none 0 0] 70) := by rw [← hd0]; simp [go_sem]
              have hsB : (wA.alloc (.cells #[.int .i64 k, .string s, .int .i64 n1, .int .i64 d, .bool q1, .bool q2, .slice none 0 0] 70)).heap.size = wA.heap.size + 1 := by simp
              have hRB := hRA.grow hgB (by simp [hd0, zx3, zx7, zxS])
              refine hK _ _ hRB ?_
              clear hK K
              generalize wA.alloc (.cells #[.int .i64 k, .string s, .int .i64 n1, .int .i64 d, .bool q1, .bool q2, .slice none 0 0] 70) = wB at *
              have hg2B : w3.grows wB := (gw4.trans hdd).trans hgB
              refine wpSeqL_appO w.heap.size rfl rfl (.tmp 37) (.tmp 40) 58 rfl 70 (.agg #[.int .i64 0, .string ByteArray.empty, .int .i64 0, .int .i64 0, .bool false, .bool false, .slice none 0 0]) 7 72 Tryz.underlying58 (by kernel_rfl) rfl (by omega) (by omega) _ m.length _ rfl (HOM.out.grows hg2B) (some ⟨w4.heap.size, 0, none⟩) 1 1 [.int .i64 k, .string s, .int .i64 n1, .int .i64 d, .bool q1, .bool q2, .slice none 0 0] rfl rfl (.inr ⟨_, rfl, fun j u hu => ?_⟩) (by simp [Value.oneCell']) (by omega) (by have := hg2B.below.size; have := hg3.below.size; omega) ?_
              · exact cells_of_row (e := 70) (fr := (0, 0)) hnB j u hu
              intro v8 wG k1 k2 k3
              replace k2 : wB.grownBy wG (Value.slice aM m.length cM).ownBlock := k2
              replace k3 : v8.ownBlock = (Value.slice aM m.length cM).ownBlock ∨ v8.ownBlock = some wB.heap.size := k3
              have hs2B := hg2B.below.size
              have hRG := hRB.grown k2 (fun b hb => by
                have hb' : b = b3 ∨ b = b7 ∨ b = gS := by simpa using hb
                refine ⟨by rcases hb' with rfl | rfl | rfl <;> omega, fun e => ?_⟩
                obtain ⟨e1, _, e3, _, e5⟩ := HMN.out b e.symm
                rcases hb' with rfl | rfl | rfl
                · exact e3 rfl
                · exact e5 rfl
                · exact e1 rfl)
              refine ⟨hRG, ?_⟩
              obtain ⟨a8, c8, rfl⟩ := own_slice k1
              go_simp
              have hGS := hRG.of xS (by simp)
              have zGS := row_sz' hGS
              repeat (refine wpSeqL_free rfl ?_; refine wpQuiet_step (fun K hK => ?_); (rw [if_pos (by simp [Region.wanted])]; refine Exists.intro ?_ ⟨fun w' hw' => ?_, ?_⟩; rotate_left; focus (have r0 := rowsAs.of hw' x3 (by simp); have s0 := row_sz' r0; have r1 := rowsAs.of hw' x7 (by simp); have s1 := row_sz' r1; have r2 := rowsAs.of hw' xS (by simp); have s2 := row_sz' r2; first | (simp [Oper.quietAt, Oper.quietUpon, go_sem, r0, r1, r2, s0, s1, s2, i1, i2]; rfl) | (exact ⟨rfl, rfl⟩))); go_simp; refine hK _ ?_; clear hK K; refine wpQuiet_nil ?_)
              refine wpSeqL_end ?_
              go_wp2_with fail
              have hGO : w.grows wG := (hg3.trans hg2B).grown k2 fun k hk => (HOM.out.lt k hk).1
              have HF : Hid (Stk w (wG.setCell ⟨gS, os.length, none⟩ (.slice a8 (m.length + 1) c8)) b3 b4 ⟨os, ls0 ++ [m ++ [.mk ⟨k, s, n1, d, q1, q2⟩ []]]⟩) := by
                refine Lib.hid (Stk.last (gS := gS) (cS := cS) (by have := HD3.out; rw [List.length_append] at this; exact this) t3 t4 l3 l4 (by rw [HH.out.1]; exact y73) y74 rS HC1.out HC2.out (VOk_mk HTW.out (SlAt_nil _ _ _ _)) ?_ (ownsRow_rowV k1 fun g hg => ?_) (hGO.setCell' bS _ _) ?_ (fun g h1 h2 h3 => ?_) ?_)
                · rcases k3 with k3 | k3
                  · exact .inl k3
                  · exact .inr ⟨_, k3, hs2B⟩
                · have hne8 : g ≠ gS := fun e => by
                    rcases k3 with k3 | k3
                    · exact (HMN.out g (k3.symm.trans hg)).1 e
                    · rw [k3] at hg; injection hg with hg; have := zrS.1; omega
                  rw [World.row_setCell, if_neg hne8]
                · have := k2.size; have e := World.setCell_size' wG ⟨gS, os.length, none⟩ (Value.slice a8 (m.length + 1) c8); omega
                · rw [World.row_setCell, if_neg h2, row_growV k2 (by omega) (fun e => h3 e.symm)]; exact hg2B.row_eq h1
                · rw [World.row_setCell, if_pos rfl, hGS, HH.out.1, layV_one _ _ _ (by simpa using hcl), ← Array.toList_setIfInBounds]
                  rfl
              go_roundg (l.length - (i + 1))
              case measure => omega
              case rel => exact ⟨i + 1, Lib.hid ⟨by omega, by omega⟩, by go_num, by rw [HST.out, HDEF.out]; exact HF⟩
            · go_wp2_with fail
              refine abs_rows (w := w3) (G := fun W => Code.wp _ _ _ _ W) (by repeat (with_reducible first | assumption | exact grA | apply grB | apply grC | apply grD | refine grE ?_ (by omega) _ | refine grF ?_ (by omega) _ _)) [(b3, .cells #[.slice (some ⟨gS, 0, none⟩) (os.length + 1) cS] 89), (b7, .cells #[.int .i64 k, .string s, .int .i64 n1, .int .i64 d, .bool q1, .bool q2] 65), (gS, .cells curS 58)] (by simp [go_sem, *]) ?_
              intro w4 gw4 hl
              simp only [List.forall_mem_cons, List.not_mem_nil, false_implies, implies_true, and_true] at hl
              obtain ⟨x3, x7, xS⟩ := hl
              have zx3 := row_sz' x3
              have zx7 := row_sz' x7
              have zxS := row_sz' xS
              refine wp_region_seq_tail (S := rowsAs w4 [b3, b7, gS]) 10 (by kernel_rfl) (by kernel_rfl) (rowsAs.drew _ _) ?_
              simp only [List.take_succ_cons, List.take_zero, List.drop_succ_cons, List.drop_zero]
              show wpSeqL _ _ _ _ _ _ (World.drew w4)
              have hdd : w4.grows (World.drew w4) := World.grows.drew World.grows.refl
              repeat (refine wpSeqL_free rfl ?_; refine wpQuiet_step (fun K hK => ?_); (rw [if_pos (by simp [Region.wanted])]; refine Exists.intro ?_ ⟨fun w' hw' => ?_, ?_⟩; rotate_left; focus (have r0 := rowsAs.of hw' x3 (by simp); have s0 := row_sz' r0; have r1 := rowsAs.of hw' x7 (by simp); have s1 := row_sz' r1; have r2 := rowsAs.of hw' xS (by simp); have s2 := row_sz' r2; first | (simp [Oper.quietAt, Oper.quietUpon, go_sem, r0, r1, r2, s0, s1, s2, hcS, i1, i2]; rfl) | (exact ⟨rfl, rfl⟩))); go_simp; refine hK _ ?_; clear hK K; refine wpQuiet_nil ?_)
              have hRA : rowsAs w4 [b3, b7, gS] (World.drew w4) := rowsAs.drew _ _
              have hd0 : (World.drew w4).heap.size = w4.heap.size := rfl
              generalize World.drew w4 = wA at *
              refine wpSeqL_link rfl (fun K hK => ?_)
              go_simp
              have hgB : wA.grows (wA.alloc (.cells #[.int .i64 0, .string ⟨#[]⟩, .int .i64 0, .int .i64 0, .bool false, .bool false, .slice none 0 0] 70)) := World.grows.alloc World.grows.refl _
              have hnB : (wA.alloc (.cells #[.int .i64 0, .string ⟨#[]⟩, .int .i64 0, .int .i64 0, .bool false, .bool false, .slice none 0 0] 70)).row w4.heap.size = some (.cells #[.int .i64 0, .string ⟨#[]⟩, .int .i64 0, .int .i64 0, .bool false, .bool false, .slice none 0 0] 70) := by rw [← hd0]; simp [go_sem]
              have hsB : (wA.alloc (.cells #[.int .i64 0, .string ⟨#[]⟩, .int .i64 0, .int .i64 0, .bool false, .bool false, .slice none 0 0] 70)).heap.size = wA.heap.size + 1 := by simp
              have hRB := hRA.grow hgB (by simp [hd0, zx3, zx7, zxS])
              refine hK _ _ hRB ?_
              clear hK K
              generalize wA.alloc (.cells #[.int .i64 0, .string ⟨#[]⟩, .int .i64 0, .int .i64 0, .bool false, .bool false, .slice none 0 0] 70) = wB at *
              have hg2B : w3.grows wB := (gw4.trans hdd).trans hgB
              refine wpSeqL_appO w.heap.size rfl rfl (.tmp 24) (.tmp 28) 58 rfl 70 (.agg #[.int .i64 0, .string ByteArray.empty, .int .i64 0, .int .i64 0, .bool false, .bool false, .slice none 0 0]) 7 72 Tryz.underlying58 (by kernel_rfl) rfl (by omega) (by omega) _ m.length _ rfl (HOM.out.grows hg2B) (some ⟨w4.heap.size, 0, none⟩) 1 1 [.int .i64 0, .string ByteArray.empty, .int .i64 0, .int .i64 0, .bool false, .bool false, .slice none 0 0] rfl rfl (.inr ⟨_, rfl, fun j u hu => ?_⟩) (by simp [Value.oneCell']) (by omega) (by have := hg2B.below.size; have := hg3.below.size; omega) ?_
              · exact cells_of_row (e := 70) (fr := (0, 0)) hnB j u hu
              intro v8 wG k1 k2 k3
              replace k2 : wB.grownBy wG (Value.slice aM m.length cM).ownBlock := k2
              replace k3 : v8.ownBlock = (Value.slice aM m.length cM).ownBlock ∨ v8.ownBlock = some wB.heap.size := k3
              have hs2B := hg2B.below.size
              have hRG := hRB.grown k2 (fun b hb => by
                have hb' : b = b3 ∨ b = b7 ∨ b = gS := by simpa using hb
                refine ⟨by rcases hb' with rfl | rfl | rfl <;> omega, fun e => ?_⟩
                obtain ⟨e1, _, e3, _, e5⟩ := HMN.out b e.symm
                rcases hb' with rfl | rfl | rfl
                · exact e3 rfl
                · exact e5 rfl
                · exact e1 rfl)
              refine ⟨hRG, ?_⟩
              obtain ⟨gV, cV, rfl, bV, zV, hst, hown⟩ := zero_app k1 rfl
              replace k3 : some gV = (Value.slice aM m.length cM).ownBlock ∨ some gV = some wB.heap.size := k3
              go_simp
              have hGS := hRG.of xS (by simp)
              have zGS := row_sz' hGS
              repeat (refine wpSeqL_free rfl ?_; refine wpQuiet_step (fun K hK => ?_); (rw [if_pos (by simp [Region.wanted])]; refine Exists.intro ?_ ⟨fun w' hw' => ?_, ?_⟩; rotate_left; focus (have r0 := rowsAs.of hw' x3 (by simp); have s0 := row_sz' r0; have r1 := rowsAs.of hw' x7 (by simp); have s1 := row_sz' r1; have r2 := rowsAs.of hw' xS (by simp); have s2 := row_sz' r2; first | (simp [Oper.quietAt, Oper.quietUpon, go_sem, r0, r1, r2, s0, s1, s2, i1, i2]; rfl) | (exact ⟨rfl, rfl⟩))); go_simp; refine hK _ ?_; clear hK K; refine wpQuiet_nil ?_)
              refine wpSeqL_end ?_
              have hneV : gV ≠ gS := fun e => by
                rcases k3 with k3 | k3
                · exact (HMN.out gV k3.symm).1 e
                · injection k3 with k3; have := zrS.1; omega
              have hsd := World.setCell_size' wG ⟨gS, os.length, none⟩ (Value.slice (some ⟨gV, 0, none⟩) (m.length + 1) cV)
              have hrH : (wG.setCell ⟨gS, os.length, none⟩ (Value.slice (some ⟨gV, 0, none⟩) (m.length + 1) cV)).row gV = wG.row gV := by rw [World.row_setCell, if_neg hneV]
              have hst2 := hst (wG.setCell ⟨gS, os.length, none⟩ (Value.slice (some ⟨gV, 0, none⟩) (m.length + 1) cV)) [.int .i64 k, .string s, .int .i64 n1, .int .i64 d, .bool q1, .bool q2, .slice none 0 0] rfl (by simp [Value.oneCell']) hrH
              have hown2 := hown _ _ [.int .i64 k, .string s, .int .i64 n1, .int .i64 d, .bool q1, .bool q2, .slice none 0 0] rfl hrH rfl
              have HOW := Lib.hid hown2
              have HST' := Lib.hid hst
              have HON := Lib.hid hown
              clear hown2 hst hown
              have j1 : (0 : Int) ≤ (m.length : Int) := by omega
              have j2 : (m.length : Int) < (m.length : Int) + 1 := by omega
              go_wp2_with fail
              have hGO : w.grows wG := (hg3.trans hg2B).grown k2 fun k hk => (HOM.out.lt k hk).1
              have hsz2 := size_layV gV [.int .i64 k, .string s, .int .i64 n1, .int .i64 d, .bool q1, .bool q2, .slice none 0 0] (m.length * 7) (wG.setCell ⟨gS, os.length, none⟩ (Value.slice (some ⟨gV, 0, none⟩) (m.length + 1) cV))
              have HF : Hid (Stk w ((wG.setCell ⟨gS, os.length, none⟩ (.slice (some ⟨gV, 0, none⟩) (m.length + 1) cV)).setCells gV (m.length * 7) [.int .i64 k, .string s, .int .i64 n1, .int .i64 d, .bool q1, .bool q2, .slice none 0 0]) b3 b4 ⟨os, ls0 ++ [m ++ [.mk ⟨k, s, n1, d, q1, q2⟩ []]]⟩) := by
                refine Lib.hid (Stk.last (gS := gS) (cS := cS) (by have := HD3.out; rw [List.length_append] at this; exact this) t3 t4 l3 l4 (by rw [HH.out.1]; exact y73) y74 rS HC1.out HC2.out (VOk_mk HTW.out (SlAt_nil _ _ _ _)) ?_ HOW.out (grows_layV bV _ _ (hGO.setCell' bS _ _)) ?_ (fun g h1 h2 h3 => ?_) ?_)
                · rcases k3 with k3 | k3
                  · exact .inl k3
                  · exact .inr ⟨_, k3, hs2B⟩
                · have := k2.size; omega
                · have hgV : g ≠ gV := fun e => by
                    rcases k3 with k3 | k3
                    · exact h3 (by rw [e]; exact k3.symm)
                    · injection k3 with k3; omega
                  rw [row_layVO _ _ hgV, World.row_setCell, if_neg h2, row_growV k2 (by omega) (fun e => h3 e.symm)]; exact hg2B.row_eq h1
                · rw [row_layVO _ _ (fun e => hneV e.symm), World.row_setCell, if_pos rfl, hGS, HH.out.1, layV_one _ _ _ (by simpa using hcl), ← Array.toList_setIfInBounds]
                  rfl
              go_roundg (l.length - (i + 1))
              case measure => omega
              case rel => exact ⟨i + 1, Lib.hid ⟨by omega, by omega⟩, by go_num, by rw [HST.out, HDEF.out]; exact HF⟩
    · have iI : ¬ (i : Int) < (l.length : Int) := by omega
      obtain rfl : i = l.length := by omega
      rw [List.take_length] at HS
      have HL := Lib.hid (And.intro (Ps.run_len l) (show (Ps.run l).tot ≤ 4194304 by have := Ps.run_tot l.length l; rw [List.take_length] at this; omega))
      go_wp2_with fail
      go_loopg [] (Ps.run l).os.length (fun gn wj => ∃ p : Ps, Hid (Stk w wj b3 b4 p ∧ p.ls.length = p.os.length + 1 ∧ p.tot ≤ 4194304 ∧ gn = p.os.length ∧ Ps.ends p.os.length p = Ps.ends (Ps.run l).os.length (Ps.run l)))
      case atStart => exact ⟨Ps.run l, Lib.hid ⟨HS.out, HL.out.1, HL.out.2, rfl, rfl⟩⟩
      case round =>
        obtain ⟨p, HR⟩ := hrel
        obtain ⟨r1, r2, r3, r4, r5⟩ := HR.out
        obtain ⟨tg, vO, vS, ins, hg0, hD, t3, t4, l3, l4, hx3, hx4⟩ := r1
        obtain ⟨aO, cO, rfl⟩ := own_slice hD.os
        obtain ⟨aS, cS, rfl⟩ := own_slice hD.ss
        have zx3 := row_sz' hx3
        have zx4 := row_sz' hx4
        by_cases ho : p.os = []
        · have b0 : ¬ (0 : Int) < (p.os.length : Int) := by rw [ho]; simp
          have b0n : decide (0 < p.os.length) = false := by rw [ho]; rfl
          have hl1 : p.ls.length = 0 + 1 := by rw [r2, ho]; rfl
          obtain ⟨os, ls⟩ := p
          simp only at ho hl1
          obtain ⟨l0, L, rfl, h0⟩ := snoc_of hl1
          obtain rfl : l0 = [] := List.length_eq_zero_iff.1 h0
          have hi1 : ins.length = 0 + 1 := by have := hD.ls.len; simp at this; omega
          obtain ⟨i0, uL, rfl, h0'⟩ := snoc_of hi1
          obtain rfl : i0 = [] := List.length_eq_zero_iff.1 h0'
          obtain ⟨hP, hV⟩ := hD.ls.pop
          obtain ⟨gS, cS', curS, e1, eM, kS, mS, bS, zS, rS, sS, -⟩ := own_elt hD.ss (X := []) (cs := [uL]) (Y := []) (by simp) (by simp)
          injection e1 with e1 e2 e3
          subst e3
          subst e1
          have cM2 := eM.cell (j := 0) rfl
          rw [World.cell?_row] at cM2
          simp only [List.length_nil, Nat.add_zero] at cM2
          have zgS := lt_sz zS
          obtain ⟨aL, kL, rfl, -⟩ := hV.len
          have hpar : parse l = L := by
            unfold parse
            rw [← r5]
            simp only at ho ⊢
            rw [ho]; rfl
          have HV := Lib.hid (And.intro hV hpar)
          have hgw := hg0
          replace hx3 : wr.row b3 = some (.cells #[.slice (some ⟨gS, 0, none⟩) 1 cS] 89) := hx3
          clear hD r5 hV hP rS hpar HR HS
          go_wp2_with fail
          go_ret
          refine ⟨_, rfl, hgw.trans (by repeat (with_reducible first | assumption | exact grA | apply grB | apply grC | apply grD | refine grE ?_ (by omega) _ | refine grF ?_ (by omega) _ _)), ?_⟩
          rw [HV.out.2]
          exact HV.out.1.keep fun g hg hl => ⟨(show World.grows wr _ from (by repeat (with_reducible first | assumption | exact grA | apply grB | apply grC | apply grD | refine grE ?_ (by omega) _ | refine grF ?_ (by omega) _ _))).row_eq hl, hg.1⟩
        · have hn1 : 1 ≤ p.os.length := List.length_pos_iff.2 ho
          have b0 : (0 : Int) < (p.os.length : Int) := by omega
          have b0n : 0 < p.os.length := by omega
          have HPO := Lib.hid (And.intro ho (And.intro r2 (And.intro r3 r5)))
          have HS4 := Lib.hid (show Stk w wr b3 b4 p from ⟨tg, _, _, ins, hg0, hD, t3, t4, l3, l4, hx3, hx4⟩)
          have HNX : Hid (p.shut.ls.length = p.shut.os.length + 1 ∧ p.shut.tot ≤ 4194304 ∧ p.shut.os.length < p.os.length ∧ Ps.ends p.shut.os.length p.shut = Ps.ends p.os.length p) := Lib.hid (by
            have e1 : p.shut.os.length = p.os.length - 1 := by unfold Ps.shut; simp
            refine ⟨Ps.shut_len r2 ho, Nat.le_trans (Ps.shut_tot r2 ho) r3, by omega, ?_⟩
            rw [e1]
            obtain ⟨n, hn⟩ : ∃ n, p.os.length = n + 1 := ⟨p.os.length - 1, by omega⟩
            rw [hn]; rfl)
          clear hD r5 r3 r2 ho HR HS
          go_wp2_with (go_at_call 48; go_loud ((with_reducible refine (rshut_any HS4.out HPO.out.2.1 HPO.out.1 HPO.out.2.2.1).mono ?_); rintro r w9 ⟨rfl, hS9⟩))
          go_roundg p.shut.os.length
          case measure => have := HNX.out.2.2.1; omega
          case rel => exact ⟨p.shut, Lib.hid ⟨hS9, HNX.out.1, HNX.out.2.1, rfl, HNX.out.2.2.2.trans HPO.out.2.2.2⟩⟩
end Go.Proofs.YthcaphoejplecaaGreatDoor
