/- PointFew is true for every input: only lines between the two values are looked at. No condition. (printed by mkfew.py) -/
import Derived.Test.YtjfccilmlmimaaaAwk24
import Derived.Test.YtjfccilmlmimaaaPtAsk
import Derived.Test.YtjfccilmlmimaaaArgsL
import Derived.Test.YtjfccilmlmimaaaRows
set_option linter.unusedSimpArgs false
set_option linter.unusedVariables false
namespace Go.Proofs.Ytjfccilmlmimaaa
open Go.RowKit Go.Maps Go.ChangeShapes Go.WideShapes Go.ChangeAt
open Go.ChangeMaps (open_string shut_string)

theorem refCmp2 (a b c d : Int) (w : World) (wa : I64 a) (wb : I64 b) (wc : I64 c) (wd : I64 d) : Calls Try.prog 18 #[.agg #[.int .i64 a, .int .i64 b], .agg #[.int .i64 c, .int .i64 d]] w (Gives w (.tuple #[.int .i64 (if both a b c d = true then cmpI a b c d else 0), .bool (both a b c d)])) := by
  have := refCmp_any a b c d w wa wb wc wd
  unfold cmpV at this
  unfold both
  cases h : (sureB a b && sureB c d) <;> simpa [h] using this
/-- what the walk leans on -/
structure FewC (l : List Ln) (nm : ByteArray) (a b c d : Int) (w : World) : Prop where
  asked : ∀ W ix B n, Idx W ix n B l → Calls Try.prog 23 #[.pointer (some ⟨ix, 0, none⟩)] W fun e w' => e = .returned (.int .i64 n) ∧ W = w'
  new : ∀ W v', SlAt W (fun _ => True) 5 LnR v' l → Calls Try.prog 12 #[v'] W fun e w' => ∃ ix B, e = .returned (.pointer (some ⟨ix, 0, none⟩)) ∧ W.heap.size ≤ ix ∧ W.grows w' ∧ Hid (Idx w' ix 0 B l)
  flips : ∀ (W w0 : World) ix B, w0.grows W → w0.heap.size ≤ ix → Idx W ix 0 B l → Calls Try.prog 14 #[.pointer (some ⟨ix, 0, none⟩), .string nm, .agg #[.int .i64 a, .int .i64 b], .agg #[.int .i64 c, .int .i64 d]] W fun e w' => ∃ (v2 : Value) (m : Nat), e = .returned v2 ∧ w0.grows w' ∧ Hid (Idx w' ix (m : Int) B l ∧ Looks a b c d nm l m)
  cross : ∀ (W w0 : World) ix B (m : Nat), w0.grows W → w0.heap.size ≤ ix → Idx W ix (m : Int) B l → m ≤ 200 → Calls Try.prog 15 #[.pointer (some ⟨ix, 0, none⟩), .string nm, .agg #[.int .i64 c, .int .i64 d], .agg #[.int .i64 a, .int .i64 b]] W fun e w' => ∃ (r : Bool) (m2 : Nat), e = .returned (.bool r) ∧ w0.grows w' ∧ Hid (Idx w' ix ((m : Int) + (m2 : Int)) B l ∧ Looks c d a b nm l m2)
theorem fewC (l : List Ln) (nm : ByteArray) (a b c d : Int) (w : World) (hwf : AllWf l) (hl : l.length ≤ 1048576) (hs : nm.size ≤ maxLen) (wa : I64 a) (wb : I64 b) (wc : I64 c) (wd : I64 d) : FewC l nm a b c d w where
  asked := fun W ix B n hI => (ixAsked_any ix B n l W hI).mono fun e w' ⟨h1, h2⟩ => ⟨h1, h2.symm⟩
  new := fun W v' h => (ixNew_any v' _ W h hl).mono fun e w' ⟨ix, B, q1, q2, q3, q4⟩ => ⟨ix, B, q1, q2, q3, Lib.hid q4⟩
  flips := fun W w0 ix B hg hx hI => (ixFlips_any ix B 0 l nm a b c d W hI hwf hs wa wb wc wd hl (by omega) (by omega)).mono fun e w' ⟨v2, r, m, q1, q2, q3, q4, q5, q6⟩ => ⟨v2, m, q1, q2.gr w0 hx hg, Lib.hid ⟨by rw [Int.zero_add] at q3; exact q3, q6⟩⟩
  cross := fun W w0 ix B m hg hx hI hm => (ixCross_any ix B (m : Int) l nm c d a b W hI hwf hs wc wd wa wb hl (by omega) (by omega)).mono fun e w' ⟨m2, q1, q2, q3, q4⟩ => ⟨_, m2, q1, q2.gr w0 hx hg, Lib.hid ⟨q3, q4⟩⟩

set_option maxRecDepth 100000 in
set_option maxHeartbeats 8000000 in
theorem fewNo_any (v : Value) (l : List Ln) (l0 : List Ln) (nm : ByteArray) (a b c d : Int) (w : World) (h : SlAt w (fun _ => True) 5 LnR v l0) (el : l = l0.take 200) (wa : I64 a) (wb : I64 b) (wc : I64 c) (wd : I64 d) (hC : FewC l nm a b c d w) (hb : both a b c d = false) :
    Calls Try.prog 9 #[v, .string nm, .agg #[.int .i64 a, .int .i64 b], .agg #[.int .i64 c, .int .i64 d]] w (Gives w (.bool true)) := by
  have c0 : ∀ W, w.grows W → Calls Try.prog 10 #[v] W fun e w' => ∃ v', e = .returned v' ∧ w' = W ∧ Hid (SlAt W (fun _ => True) 5 LnR v' l) := fun W hg => (cut_any v l0 W (h.grows hg fun _ _ _ h => h)).mono fun e w' ⟨v', q1, q2, q3⟩ => ⟨v', q1, q2, Lib.hid (by rw [el]; exact q3)⟩
  have hN : l.length ≤ 200 := by rw [el]; simp; omega
  have k1 := fun W => refCmp2 a b c d W wa wb wc wd
  rw [hb, if_neg (by simp)] at k1
  clear hb
  have C0 := Lib.hid c0; have K1 := Lib.hid k1; have HC := Lib.hid hC; have WA := Lib.hid wa; have WB := Lib.hid wb; have WCC := Lib.hid wc; have WD := Lib.hid wd
  clear c0 k1 h hC el wa wb wc wd
  go_enter Try.func9, Try.ntmps9
  go_upto_region 9 with (first
    | (go_at_call 10; (with_reducible refine (C0.out _ (by repeat (with_reducible first | assumption | exact grA | apply grB | apply grC | apply grD | refine grE ?_ (by omega) _ | refine grF ?_ (by omega) _ _))).mono ?_); rintro e w1 ⟨v1, rfl, rfl, H1⟩)
    | (go_at_call 12; (with_reducible refine (HC.out.new _ _ H1.out).mono ?_); rintro e w2 ⟨ix, B, rfl, hix, hg2, HI⟩; have k2 : w.grows w2 := World.grows.trans (by repeat (with_reducible first | assumption | exact grA | apply grB | apply grC | apply grD | refine grE ?_ (by omega) _ | refine grF ?_ (by omega) _ _)) hg2; have kix : w.heap.size ≤ ix := by (simp at hix; omega))
    | (go_at_call 23; (with_reducible refine (HC.out.asked _ ix B (m : Int) (Idx.grows HF.out.1 (by repeat (with_reducible first | assumption | exact grA | apply grB | apply grC | apply grD | refine grE ?_ (by omega) _ | refine grF ?_ (by omega) _ _)))).mono ?_); rintro e wA ⟨rfl, rfl⟩)
    | (go_at_call 23; (with_reducible refine (HC.out.asked _ ix B 0 (Idx.grows HI.out (by repeat (with_reducible first | assumption | exact grA | apply grB | apply grC | apply grD | refine grE ?_ (by omega) _ | refine grF ?_ (by omega) _ _)))).mono ?_); rintro e wA ⟨rfl, rfl⟩; have kr1 : w2.row w.heap.size = some (.cells #[.int .i64 a, .int .i64 b] 24) := (hg2.row_eq (by simp; omega)).trans (by simp [go_sem]); have kr2 : w2.row (w.heap.size + 1) = some (.cells #[.int .i64 c, .int .i64 d] 24) := (hg2.row_eq (by simp)).trans (by simp [go_sem]); have kz1 := row_sz' kr1; have kz2 := row_sz' kr2)
    | (go_at_call 14; (with_reducible refine (HC.out.flips _ (((w.alloc (.cells #[.int .i64 a, .int .i64 b] 24)).alloc (.cells #[.int .i64 c, .int .i64 d] 24))) ix B (World.grows.trans hg2 (by repeat (with_reducible first | assumption | exact grA | apply grB | apply grC | apply grD | refine grE ?_ (by omega) _ | refine grF ?_ (by omega) _ _))) hix (Idx.grows HI.out (by repeat (with_reducible first | assumption | exact grA | apply grB | apply grC | apply grD | refine grE ?_ (by omega) _ | refine grF ?_ (by omega) _ _)))).mono ?_); rintro e w3 ⟨v3, m, rfl, hg3, HF⟩; have k3 : w.grows w3 := World.grows.trans (by repeat (with_reducible first | assumption | exact grA | apply grB | apply grC | apply grD | refine grE ?_ (by omega) _ | refine grF ?_ (by omega) _ _)) hg3; have kr3 : w3.row w.heap.size = some (.cells #[.int .i64 a, .int .i64 b] 24) := (hg3.row_eq (by simp; omega)).trans (by simp [go_sem]); have kr4 : w3.row (w.heap.size + 1) = some (.cells #[.int .i64 c, .int .i64 d] 24) := (hg3.row_eq (by simp)).trans (by simp [go_sem]); have kz3 := row_sz' kr3; have kz4 := row_sz' kr4)
    | (go_at_call 18; (with_reducible refine (K1.out _).mono ?_); rintro e w1 ⟨rfl, x1, rfl⟩))
  have nm0 : 0 ≤ (m : Int) := by omega
  go_wp2_with (go_at_call 16; (with_reducible refine (awake24_any _).mono ?_); rintro e w7 ⟨rfl, x7, rfl⟩)
  go_ret
  exact ⟨rfl, (by repeat (with_reducible first | assumption | exact grA | apply grB | apply grC | apply grD | refine grE ?_ (by omega) _ | refine grF ?_ (by omega) _ _))⟩

set_option maxRecDepth 100000 in
set_option maxHeartbeats 8000000 in
theorem fewLt_any (v : Value) (l : List Ln) (l0 : List Ln) (nm : ByteArray) (a b c d : Int) (w : World) (h : SlAt w (fun _ => True) 5 LnR v l0) (el : l = l0.take 200) (wa : I64 a) (wb : I64 b) (wc : I64 c) (wd : I64 d) (hC : FewC l nm a b c d w) (hb : both a b c d = true) (hk : cmpI a b c d < 0) :
    Calls Try.prog 9 #[v, .string nm, .agg #[.int .i64 a, .int .i64 b], .agg #[.int .i64 c, .int .i64 d]] w (Gives w (.bool true)) := by
  have c0 : ∀ W, w.grows W → Calls Try.prog 10 #[v] W fun e w' => ∃ v', e = .returned v' ∧ w' = W ∧ Hid (SlAt W (fun _ => True) 5 LnR v' l) := fun W hg => (cut_any v l0 W (h.grows hg fun _ _ _ h => h)).mono fun e w' ⟨v', q1, q2, q3⟩ => ⟨v', q1, q2, Lib.hid (by rw [el]; exact q3)⟩
  have hN : l.length ≤ 200 := by rw [el]; simp; omega
  have k1 := fun W => refCmp2 a b c d W wa wb wc wd
  rw [hb, if_pos rfl] at k1
  have n1 : ¬ cmpI a b c d = 0 := by omega
  have n2 : ¬ 0 < cmpI a b c d := by omega
  have few := fun m (hm : Looks a b c d nm l m) => hm.few hb
  have few2 := fun m (hm : Looks c d a b nm l m) => hm.swap.few hb
  have FEW := Lib.hid few; have FEW2 := Lib.hid few2
  clear few few2 hb
  have HKK := Lib.hid hk
  generalize hcc : cmpI a b c d = cc at *
  have HCC := Lib.hid hcc
  clear hcc
  have C0 := Lib.hid c0; have K1 := Lib.hid k1; have HC := Lib.hid hC; have WA := Lib.hid wa; have WB := Lib.hid wb; have WCC := Lib.hid wc; have WD := Lib.hid wd
  clear c0 k1 h hC el wa wb wc wd
  go_enter Try.func9, Try.ntmps9
  go_upto_region 10 with (first
    | (go_at_call 10; (with_reducible refine (C0.out _ (by repeat (with_reducible first | assumption | exact grA | apply grB | apply grC | apply grD | refine grE ?_ (by omega) _ | refine grF ?_ (by omega) _ _))).mono ?_); rintro e w1 ⟨v1, rfl, rfl, H1⟩)
    | (go_at_call 12; (with_reducible refine (HC.out.new _ _ H1.out).mono ?_); rintro e w2 ⟨ix, B, rfl, hix, hg2, HI⟩; have k2 : w.grows w2 := World.grows.trans (by repeat (with_reducible first | assumption | exact grA | apply grB | apply grC | apply grD | refine grE ?_ (by omega) _ | refine grF ?_ (by omega) _ _)) hg2; have kix : w.heap.size ≤ ix := by (simp at hix; omega))
    | (go_at_call 23; (with_reducible refine (HC.out.asked _ ix B (m : Int) (Idx.grows HF.out.1 (by repeat (with_reducible first | assumption | exact grA | apply grB | apply grC | apply grD | refine grE ?_ (by omega) _ | refine grF ?_ (by omega) _ _)))).mono ?_); rintro e wA ⟨rfl, rfl⟩)
    | (go_at_call 23; (with_reducible refine (HC.out.asked _ ix B 0 (Idx.grows HI.out (by repeat (with_reducible first | assumption | exact grA | apply grB | apply grC | apply grD | refine grE ?_ (by omega) _ | refine grF ?_ (by omega) _ _)))).mono ?_); rintro e wA ⟨rfl, rfl⟩; have kr1 : w2.row w.heap.size = some (.cells #[.int .i64 a, .int .i64 b] 24) := (hg2.row_eq (by simp; omega)).trans (by simp [go_sem]); have kr2 : w2.row (w.heap.size + 1) = some (.cells #[.int .i64 c, .int .i64 d] 24) := (hg2.row_eq (by simp)).trans (by simp [go_sem]); have kz1 := row_sz' kr1; have kz2 := row_sz' kr2)
    | (go_at_call 14; (with_reducible refine (HC.out.flips _ (((w.alloc (.cells #[.int .i64 a, .int .i64 b] 24)).alloc (.cells #[.int .i64 c, .int .i64 d] 24))) ix B (World.grows.trans hg2 (by repeat (with_reducible first | assumption | exact grA | apply grB | apply grC | apply grD | refine grE ?_ (by omega) _ | refine grF ?_ (by omega) _ _))) hix (Idx.grows HI.out (by repeat (with_reducible first | assumption | exact grA | apply grB | apply grC | apply grD | refine grE ?_ (by omega) _ | refine grF ?_ (by omega) _ _)))).mono ?_); rintro e w3 ⟨v3, m, rfl, hg3, HF⟩; have k3 : w.grows w3 := World.grows.trans (by repeat (with_reducible first | assumption | exact grA | apply grB | apply grC | apply grD | refine grE ?_ (by omega) _ | refine grF ?_ (by omega) _ _)) hg3; have kr3 : w3.row w.heap.size = some (.cells #[.int .i64 a, .int .i64 b] 24) := (hg3.row_eq (by simp; omega)).trans (by simp [go_sem]); have kr4 : w3.row (w.heap.size + 1) = some (.cells #[.int .i64 c, .int .i64 d] 24) := (hg3.row_eq (by simp)).trans (by simp [go_sem]); have kz3 := row_sz' kr3; have kz4 := row_sz' kr4)
    | (go_at_call 18; (with_reducible refine (K1.out _).mono ?_); rintro e w1 ⟨rfl, x1, rfl⟩))
  clear kr1 kr2 kz1 kz2
  have H3 := Lib.hid (H1.out.grows hg3 fun _ _ _ h => h)
  clear H1 HI hg2 k2 hix
  have kw3 : w.heap.size + 2 ≤ w3.heap.size := by have := hg3.below.size; simp at this; omega
  go_cut [13, 14] (fun s13 s14 wx => (∃ g k : Nat, s13 = .pointer (some ⟨g, 0, none⟩) ∧ s14 = .pointer (some ⟨k, 0, none⟩) ∧ g ≠ k ∧ w3.heap.size ≤ g ∧ w3.heap.size ≤ k ∧ wx.row g = some (.cells #[.int .i64 a, .int .i64 b] 24) ∧ wx.row k = some (.cells #[.int .i64 c, .int .i64 d] 24) ∧ wx.row w.heap.size = some (.cells #[.int .i64 a, .int .i64 b] 24) ∧ wx.row (w.heap.size + 1) = some (.cells #[.int .i64 c, .int .i64 d] 24) ∧ w3.grows wx))
  case first =>
    refine abs_rows (w := w3) (G := fun W => Code.wp _ _ _ _ W) (by repeat (with_reducible first | assumption | exact grA | apply grB | apply grC | apply grD | refine grE ?_ (by omega) _ | refine grF ?_ (by omega) _ _)) [(w.heap.size, .cells #[.int .i64 a, .int .i64 b] 24), (w.heap.size + 1, .cells #[.int .i64 c, .int .i64 d] 24)] (by simp [go_sem, *]) ?_
    intro V gV hl
    simp only [List.forall_mem_cons, List.not_mem_nil, false_implies, implies_true, and_true] at hl
    obtain ⟨hx, hy⟩ := hl
    have zhx := row_sz' hx
    have zhy := row_sz' hy
    go_region
    all_goals (go_wp2_with fail; go_meet; have zz := zhx.1; have zy := zhy.1; have zw := gV.below.size; refine ⟨_, _, rfl, rfl, by omega, by omega, by omega, by simp [go_sem, *], by simp [go_sem, *], by simp [go_sem, *], by simp [go_sem, *], (by repeat (with_reducible first | assumption | exact grA | apply grB | apply grC | apply grD | refine grE ?_ (by omega) _ | refine grF ?_ (by omega) _ _))⟩)
  case rest =>
    obtain ⟨g, k, rfl, rfl, hgk, hg0, hk0, hx, hy, hA, hB, hg⟩ := hcut
    have z1 := row_sz' hx; have z2 := row_sz' hy; have z3 := row_sz' hA; have z4 := row_sz' hB
    have hkg : (k = g) = False := eq_false (fun e => hgk e.symm)
    have hgk' : (g = k) = False := eq_false hgk
    obtain ⟨a1, cap1, rfl, p1, p2, p3⟩ := H3.out
    have P3 := Lib.hid p3
    have hg3w : w.grows wc := World.grows.trans k3 hg
    clear p3 H3 hgk hA hB z3 z4
    have hA := (hg.row_eq kz3.1).trans kr3
    have hB := (hg.row_eq kz4.1).trans kr4
    have z3 := row_sz' hA; have z4 := row_sz' hB
    go_wp2_with fail
    go_loopg [15, 61] l.length (fun gn v15 v61 wj => ∃ i : Nat, Hid (gn + i = l.length ∧ i ≤ l.length) ∧ v61 = .int .i64 i ∧ v15 = .int .i64 (cntB nm a b c d l i : Nat) ∧ wc.grows wj)
    case atStart => exact ⟨0, Lib.hid ⟨by simp, Nat.zero_le _⟩, by go_num, by simp [cntB], (by repeat (with_reducible first | assumption | exact grA | apply grB | apply grC | apply grD | refine grE ?_ (by omega) _ | refine grF ?_ (by omega) _ _))⟩
    case round =>
      obtain ⟨i, HK, rfl, rfl, hgj⟩ := hrel
      obtain ⟨j1, j2⟩ := HK.out
      have hx1 := (hgj.row_eq z1.1).trans hx; have hy1 := (hgj.row_eq z2.1).trans hy
      have y1 := row_sz' hx1; have y2 := row_sz' hy1
      have hcl := cntB_le nm a b c d l i
      by_cases hlt : i < l.length
      · rcases P3.out with h0 | ⟨g5, off5, rfl, _, h4⟩
        · rw [h0] at hlt; simp at hlt
        have hgt := List.getElem?_eq_getElem hlt
        obtain ⟨cs, _, el, ec, wx⟩ := h4 i _ hgt
        generalize l[i] = x at *
        subst ec
        replace el := el.grows (World.grows.trans hg hgj)
        have e1 : segOk (off5 + i * 5) 5 (wr.row g5) = true := el.1
        have e2 : segV (off5 + i * 5) 5 (wr.row g5) = x.v := el.2
        have zg := lt_sz el.lt
        have i1 : (i : Int) < (l.length : Int) := by omega
        have hsc := cntB_succ (nm := nm) (a := a) (b := b) (c := c) (d := d) hgt
        have kk1 := fun W => refCmp2 a b x.p x.q W WA.out WB.out wx.2.2.1 wx.2.2.2.1
        have kk2 := fun W => refCmp2 x.p x.q c d W wx.2.2.1 wx.2.2.2.1 WCC.out WD.out
        unfold betw at hsc
        obtain ⟨nx, o, q, r, id⟩ := x
        simp only at hsc kk1 kk2
        generalize cntB nm a b c d l i = K at *
        generalize both a b q r = P1 at *
        generalize cmpI a b q r = C1 at *
        generalize both q r c d = P2 at *
        generalize (if P2 = true then cmpI q r c d else 0) = Q at *
        clear el h4 hgt wx
        have KK2 := Lib.hid kk2
        clear kk2
        by_cases hn : nx = nm
        · subst hn
          cases P1 with
          | false =>
            have HSC : Hid (_ = K) := Lib.hid (hsc.trans <| by simp)
            rw [if_neg (by simp)] at kk1
            have KK1 := Lib.hid kk1
            clear kk1 hsc
            go_wp2_with (first | (go_at_call 18; (with_reducible refine (KK1.out _).mono ?_); rintro e w1 ⟨rfl, x1, rfl⟩) | (go_at_call 18; (with_reducible refine (KK2.out _).mono ?_); rintro e w1 ⟨rfl, x1, rfl⟩))
            go_roundg (l.length - (i + 1))
            case rel => exact ⟨i + 1, Lib.hid ⟨by omega, by omega⟩, by go_num, by (rw [HSC.out]; try go_num), (by repeat (with_reducible first | assumption | exact grA | apply grB | apply grC | apply grD | refine grE ?_ (by omega) _ | refine grF ?_ (by omega) _ _))⟩
            case measure => omega
          | true =>
            rw [if_pos rfl] at kk1
            have KK1 := Lib.hid kk1
            clear kk1
            by_cases h1 : C1 ≤ 0
            · by_cases h2 : Q ≤ 0
              · have HSC : Hid (_ = K + 1) := Lib.hid (hsc.trans <| by simp [h1, h2])
                clear hsc
                go_wp2_with (first | (go_at_call 18; (with_reducible refine (KK1.out _).mono ?_); rintro e w1 ⟨rfl, x1, rfl⟩) | (go_at_call 18; (with_reducible refine (KK2.out _).mono ?_); rintro e w1 ⟨rfl, x1, rfl⟩))
                go_roundg (l.length - (i + 1))
                case rel => exact ⟨i + 1, Lib.hid ⟨by omega, by omega⟩, by go_num, by (rw [HSC.out]; try go_num), (by repeat (with_reducible first | assumption | exact grA | apply grB | apply grC | apply grD | refine grE ?_ (by omega) _ | refine grF ?_ (by omega) _ _))⟩
                case measure => omega
              · have HSC : Hid (_ = K) := Lib.hid (hsc.trans <| by simp [h2])
                clear hsc
                go_wp2_with (first | (go_at_call 18; (with_reducible refine (KK1.out _).mono ?_); rintro e w1 ⟨rfl, x1, rfl⟩) | (go_at_call 18; (with_reducible refine (KK2.out _).mono ?_); rintro e w1 ⟨rfl, x1, rfl⟩))
                go_roundg (l.length - (i + 1))
                case rel => exact ⟨i + 1, Lib.hid ⟨by omega, by omega⟩, by go_num, by (rw [HSC.out]; try go_num), (by repeat (with_reducible first | assumption | exact grA | apply grB | apply grC | apply grD | refine grE ?_ (by omega) _ | refine grF ?_ (by omega) _ _))⟩
                case measure => omega
            · have HSC : Hid (_ = K) := Lib.hid (hsc.trans <| by simp [h1])
              clear hsc
              go_wp2_with (first | (go_at_call 18; (with_reducible refine (KK1.out _).mono ?_); rintro e w1 ⟨rfl, x1, rfl⟩) | (go_at_call 18; (with_reducible refine (KK2.out _).mono ?_); rintro e w1 ⟨rfl, x1, rfl⟩))
              go_roundg (l.length - (i + 1))
              case rel => exact ⟨i + 1, Lib.hid ⟨by omega, by omega⟩, by go_num, by (rw [HSC.out]; try go_num), (by repeat (with_reducible first | assumption | exact grA | apply grB | apply grC | apply grD | refine grE ?_ (by omega) _ | refine grF ?_ (by omega) _ _))⟩
              case measure => omega
        · have HSC : Hid (_ = K) := Lib.hid (hsc.trans <| by simp [hn])
          have hq : ¬ nx.toList = nm.toList := by rw [ByteArray.toList_eq, ByteArray.toList_eq, nameEq]; exact hn
          generalize (if P1 = true then C1 else 0) = Z at *
          have KK1 := Lib.hid kk1
          clear kk1 hsc
          go_wp2_with (first | (go_at_call 18; (with_reducible refine (KK1.out _).mono ?_); rintro e w1 ⟨rfl, x1, rfl⟩) | (go_at_call 18; (with_reducible refine (KK2.out _).mono ?_); rintro e w1 ⟨rfl, x1, rfl⟩))
          go_roundg (l.length - (i + 1))
          case rel => exact ⟨i + 1, Lib.hid ⟨by omega, by omega⟩, by go_num, by (rw [HSC.out]; try go_num), (by repeat (with_reducible first | assumption | exact grA | apply grB | apply grC | apply grD | refine grE ?_ (by omega) _ | refine grF ?_ (by omega) _ _))⟩
          case measure => omega
      · have i1 : ¬ (i : Int) < (l.length : Int) := by omega
        obtain rfl : i = l.length := by omega
        have hK := cntB_all nm a b c d l
        have hm := looks_len HF.out.2
        have w3r : w3.grows wr := World.grows.trans hg hgj
        have hww : w.grows wr := World.grows.trans k3 w3r
        have hA1 := (hgj.row_eq z3.1).trans hA; have hB1 := (hgj.row_eq z4.1).trans hB
        have y3 := row_sz' hA1; have y4 := row_sz' hB1
        have hmK := (FEW.out m HF.out.2).2.1 HKK.out
        rw [← hK] at hmK
        have hFE := fun m2 (hm2 : Looks c d a b nm l m2) => (FEW2.out m2 hm2).2.1 HKK.out
        rw [← hK] at hFE
        have HFE := Lib.hid hFE
        clear hK hFE
        generalize cntB nm a b c d l l.length = K at *
        have f1 : ¬ ((m : Int) < 0) := by omega
        have f2 : ¬ ((K : Int) < (m : Int)) := by omega
        have f3 : wrap64 (2 * (K : Int)) = 2 * (K : Int) := by unfold wrap64; omega
        have HMK := Lib.hid hmK
        clear hmK
        go_upto_region 27 with (first
          | (go_at_call 15; go_loud ((with_reducible refine (HC.out.cross _ w ix B m (World.grows.trans hww (by repeat (with_reducible first | assumption | exact grA | apply grB | apply grC | apply grD | refine grE ?_ (by omega) _ | refine grF ?_ (by omega) _ _))) kix (Idx.grows HF.out.1 (World.grows.trans w3r (by repeat (with_reducible first | assumption | exact grA | apply grB | apply grC | apply grD | refine grE ?_ (by omega) _ | refine grF ?_ (by omega) _ _)))) (by omega)).mono ?_); rintro e w6 ⟨r, m2, rfl, hg6, HX⟩)))
        have hm2 := HFE.out m2 HX.out.2
        have hm1 := HMK.out
        have f4 : (m : Int) + (m2 : Int) ≤ 2 * (K : Int) := by omega
        have f5 : (m : Int) ≤ (m : Int) + (m2 : Int) := by omega
        clear hm2 hm1
        go_wp2_with (first
          | (go_at_call 23; (with_reducible refine (HC.out.asked _ ix B _ (Idx.grows HX.out.1 (by repeat (with_reducible first | assumption | exact grA | apply grB | apply grC | apply grD | refine grE ?_ (by omega) _ | refine grF ?_ (by omega) _ _)))).mono ?_); rintro e wA ⟨rfl, rfl⟩)
          | (go_at_call 16; (with_reducible refine (awake24_any _).mono ?_); rintro e w7 ⟨rfl, x7, rfl⟩))
        go_ret
        exact ⟨rfl, (by repeat (with_reducible first | assumption | exact grA | apply grB | apply grC | apply grD | refine grE ?_ (by omega) _ | refine grF ?_ (by omega) _ _))⟩

set_option maxRecDepth 100000 in
set_option maxHeartbeats 8000000 in
theorem fewEq_any (v : Value) (l : List Ln) (l0 : List Ln) (nm : ByteArray) (a b c d : Int) (w : World) (h : SlAt w (fun _ => True) 5 LnR v l0) (el : l = l0.take 200) (wa : I64 a) (wb : I64 b) (wc : I64 c) (wd : I64 d) (hC : FewC l nm a b c d w) (hb : both a b c d = true) (hk : cmpI a b c d = 0) :
    Calls Try.prog 9 #[v, .string nm, .agg #[.int .i64 a, .int .i64 b], .agg #[.int .i64 c, .int .i64 d]] w (Gives w (.bool true)) := by
  have c0 : ∀ W, w.grows W → Calls Try.prog 10 #[v] W fun e w' => ∃ v', e = .returned v' ∧ w' = W ∧ Hid (SlAt W (fun _ => True) 5 LnR v' l) := fun W hg => (cut_any v l0 W (h.grows hg fun _ _ _ h => h)).mono fun e w' ⟨v', q1, q2, q3⟩ => ⟨v', q1, q2, Lib.hid (by rw [el]; exact q3)⟩
  have hN : l.length ≤ 200 := by rw [el]; simp; omega
  have k1 := fun W => refCmp2 a b c d W wa wb wc wd
  rw [hb, if_pos rfl] at k1
  rw [hk] at k1
  have few := fun m (hm : Looks a b c d nm l m) => hm.few hb
  have few2 := fun m (hm : Looks c d a b nm l m) => hm.swap.few hb
  have FEW := Lib.hid few; have FEW2 := Lib.hid few2
  clear few few2 hb
  have HKK := Lib.hid hk
  clear hk
  have C0 := Lib.hid c0; have K1 := Lib.hid k1; have HC := Lib.hid hC; have WA := Lib.hid wa; have WB := Lib.hid wb; have WCC := Lib.hid wc; have WD := Lib.hid wd
  clear c0 k1 h hC el wa wb wc wd
  go_enter Try.func9, Try.ntmps9
  go_upto_region 10 with (first
    | (go_at_call 10; (with_reducible refine (C0.out _ (by repeat (with_reducible first | assumption | exact grA | apply grB | apply grC | apply grD | refine grE ?_ (by omega) _ | refine grF ?_ (by omega) _ _))).mono ?_); rintro e w1 ⟨v1, rfl, rfl, H1⟩)
    | (go_at_call 12; (with_reducible refine (HC.out.new _ _ H1.out).mono ?_); rintro e w2 ⟨ix, B, rfl, hix, hg2, HI⟩; have k2 : w.grows w2 := World.grows.trans (by repeat (with_reducible first | assumption | exact grA | apply grB | apply grC | apply grD | refine grE ?_ (by omega) _ | refine grF ?_ (by omega) _ _)) hg2; have kix : w.heap.size ≤ ix := by (simp at hix; omega))
    | (go_at_call 23; (with_reducible refine (HC.out.asked _ ix B (m : Int) (Idx.grows HF.out.1 (by repeat (with_reducible first | assumption | exact grA | apply grB | apply grC | apply grD | refine grE ?_ (by omega) _ | refine grF ?_ (by omega) _ _)))).mono ?_); rintro e wA ⟨rfl, rfl⟩)
    | (go_at_call 23; (with_reducible refine (HC.out.asked _ ix B 0 (Idx.grows HI.out (by repeat (with_reducible first | assumption | exact grA | apply grB | apply grC | apply grD | refine grE ?_ (by omega) _ | refine grF ?_ (by omega) _ _)))).mono ?_); rintro e wA ⟨rfl, rfl⟩; have kr1 : w2.row w.heap.size = some (.cells #[.int .i64 a, .int .i64 b] 24) := (hg2.row_eq (by simp; omega)).trans (by simp [go_sem]); have kr2 : w2.row (w.heap.size + 1) = some (.cells #[.int .i64 c, .int .i64 d] 24) := (hg2.row_eq (by simp)).trans (by simp [go_sem]); have kz1 := row_sz' kr1; have kz2 := row_sz' kr2)
    | (go_at_call 14; (with_reducible refine (HC.out.flips _ (((w.alloc (.cells #[.int .i64 a, .int .i64 b] 24)).alloc (.cells #[.int .i64 c, .int .i64 d] 24))) ix B (World.grows.trans hg2 (by repeat (with_reducible first | assumption | exact grA | apply grB | apply grC | apply grD | refine grE ?_ (by omega) _ | refine grF ?_ (by omega) _ _))) hix (Idx.grows HI.out (by repeat (with_reducible first | assumption | exact grA | apply grB | apply grC | apply grD | refine grE ?_ (by omega) _ | refine grF ?_ (by omega) _ _)))).mono ?_); rintro e w3 ⟨v3, m, rfl, hg3, HF⟩; have k3 : w.grows w3 := World.grows.trans (by repeat (with_reducible first | assumption | exact grA | apply grB | apply grC | apply grD | refine grE ?_ (by omega) _ | refine grF ?_ (by omega) _ _)) hg3; have kr3 : w3.row w.heap.size = some (.cells #[.int .i64 a, .int .i64 b] 24) := (hg3.row_eq (by simp; omega)).trans (by simp [go_sem]); have kr4 : w3.row (w.heap.size + 1) = some (.cells #[.int .i64 c, .int .i64 d] 24) := (hg3.row_eq (by simp)).trans (by simp [go_sem]); have kz3 := row_sz' kr3; have kz4 := row_sz' kr4)
    | (go_at_call 18; (with_reducible refine (K1.out _).mono ?_); rintro e w1 ⟨rfl, x1, rfl⟩))
  clear kr1 kr2 kz1 kz2
  have H3 := Lib.hid (H1.out.grows hg3 fun _ _ _ h => h)
  clear H1 HI hg2 k2 hix
  have kw3 : w.heap.size + 2 ≤ w3.heap.size := by have := hg3.below.size; simp at this; omega
  go_cut [13, 14] (fun s13 s14 wx => (∃ g k : Nat, s13 = .pointer (some ⟨g, 0, none⟩) ∧ s14 = .pointer (some ⟨k, 0, none⟩) ∧ g ≠ k ∧ w3.heap.size ≤ g ∧ w3.heap.size ≤ k ∧ wx.row g = some (.cells #[.int .i64 a, .int .i64 b] 24) ∧ wx.row k = some (.cells #[.int .i64 c, .int .i64 d] 24) ∧ wx.row w.heap.size = some (.cells #[.int .i64 a, .int .i64 b] 24) ∧ wx.row (w.heap.size + 1) = some (.cells #[.int .i64 c, .int .i64 d] 24) ∧ w3.grows wx))
  case first =>
    refine abs_rows (w := w3) (G := fun W => Code.wp _ _ _ _ W) (by repeat (with_reducible first | assumption | exact grA | apply grB | apply grC | apply grD | refine grE ?_ (by omega) _ | refine grF ?_ (by omega) _ _)) [(w.heap.size, .cells #[.int .i64 a, .int .i64 b] 24), (w.heap.size + 1, .cells #[.int .i64 c, .int .i64 d] 24)] (by simp [go_sem, *]) ?_
    intro V gV hl
    simp only [List.forall_mem_cons, List.not_mem_nil, false_implies, implies_true, and_true] at hl
    obtain ⟨hx, hy⟩ := hl
    have zhx := row_sz' hx
    have zhy := row_sz' hy
    go_region
    all_goals (go_wp2_with fail; go_meet; have zz := zhx.1; have zy := zhy.1; have zw := gV.below.size; refine ⟨_, _, rfl, rfl, by omega, by omega, by omega, by simp [go_sem, *], by simp [go_sem, *], by simp [go_sem, *], by simp [go_sem, *], (by repeat (with_reducible first | assumption | exact grA | apply grB | apply grC | apply grD | refine grE ?_ (by omega) _ | refine grF ?_ (by omega) _ _))⟩)
  case rest =>
    obtain ⟨g, k, rfl, rfl, hgk, hg0, hk0, hx, hy, hA, hB, hg⟩ := hcut
    have z1 := row_sz' hx; have z2 := row_sz' hy; have z3 := row_sz' hA; have z4 := row_sz' hB
    have hkg : (k = g) = False := eq_false (fun e => hgk e.symm)
    have hgk' : (g = k) = False := eq_false hgk
    obtain ⟨a1, cap1, rfl, p1, p2, p3⟩ := H3.out
    have P3 := Lib.hid p3
    have hg3w : w.grows wc := World.grows.trans k3 hg
    clear p3 H3 hgk hA hB z3 z4
    have hA := (hg.row_eq kz3.1).trans kr3
    have hB := (hg.row_eq kz4.1).trans kr4
    have z3 := row_sz' hA; have z4 := row_sz' hB
    go_wp2_with fail
    go_loopg [15, 61] l.length (fun gn v15 v61 wj => ∃ i : Nat, Hid (gn + i = l.length ∧ i ≤ l.length) ∧ v61 = .int .i64 i ∧ v15 = .int .i64 (cntB nm a b c d l i : Nat) ∧ wc.grows wj)
    case atStart => exact ⟨0, Lib.hid ⟨by simp, Nat.zero_le _⟩, by go_num, by simp [cntB], (by repeat (with_reducible first | assumption | exact grA | apply grB | apply grC | apply grD | refine grE ?_ (by omega) _ | refine grF ?_ (by omega) _ _))⟩
    case round =>
      obtain ⟨i, HK, rfl, rfl, hgj⟩ := hrel
      obtain ⟨j1, j2⟩ := HK.out
      have hx1 := (hgj.row_eq z1.1).trans hx; have hy1 := (hgj.row_eq z2.1).trans hy
      have y1 := row_sz' hx1; have y2 := row_sz' hy1
      have hcl := cntB_le nm a b c d l i
      by_cases hlt : i < l.length
      · rcases P3.out with h0 | ⟨g5, off5, rfl, _, h4⟩
        · rw [h0] at hlt; simp at hlt
        have hgt := List.getElem?_eq_getElem hlt
        obtain ⟨cs, _, el, ec, wx⟩ := h4 i _ hgt
        generalize l[i] = x at *
        subst ec
        replace el := el.grows (World.grows.trans hg hgj)
        have e1 : segOk (off5 + i * 5) 5 (wr.row g5) = true := el.1
        have e2 : segV (off5 + i * 5) 5 (wr.row g5) = x.v := el.2
        have zg := lt_sz el.lt
        have i1 : (i : Int) < (l.length : Int) := by omega
        have hsc := cntB_succ (nm := nm) (a := a) (b := b) (c := c) (d := d) hgt
        have kk1 := fun W => refCmp2 a b x.p x.q W WA.out WB.out wx.2.2.1 wx.2.2.2.1
        have kk2 := fun W => refCmp2 x.p x.q c d W wx.2.2.1 wx.2.2.2.1 WCC.out WD.out
        unfold betw at hsc
        obtain ⟨nx, o, q, r, id⟩ := x
        simp only at hsc kk1 kk2
        generalize cntB nm a b c d l i = K at *
        generalize both a b q r = P1 at *
        generalize cmpI a b q r = C1 at *
        generalize both q r c d = P2 at *
        generalize (if P2 = true then cmpI q r c d else 0) = Q at *
        clear el h4 hgt wx
        have KK2 := Lib.hid kk2
        clear kk2
        by_cases hn : nx = nm
        · subst hn
          cases P1 with
          | false =>
            have HSC : Hid (_ = K) := Lib.hid (hsc.trans <| by simp)
            rw [if_neg (by simp)] at kk1
            have KK1 := Lib.hid kk1
            clear kk1 hsc
            go_wp2_with (first | (go_at_call 18; (with_reducible refine (KK1.out _).mono ?_); rintro e w1 ⟨rfl, x1, rfl⟩) | (go_at_call 18; (with_reducible refine (KK2.out _).mono ?_); rintro e w1 ⟨rfl, x1, rfl⟩))
            go_roundg (l.length - (i + 1))
            case rel => exact ⟨i + 1, Lib.hid ⟨by omega, by omega⟩, by go_num, by (rw [HSC.out]; try go_num), (by repeat (with_reducible first | assumption | exact grA | apply grB | apply grC | apply grD | refine grE ?_ (by omega) _ | refine grF ?_ (by omega) _ _))⟩
            case measure => omega
          | true =>
            rw [if_pos rfl] at kk1
            have KK1 := Lib.hid kk1
            clear kk1
            by_cases h1 : C1 ≤ 0
            · by_cases h2 : Q ≤ 0
              · have HSC : Hid (_ = K + 1) := Lib.hid (hsc.trans <| by simp [h1, h2])
                clear hsc
                go_wp2_with (first | (go_at_call 18; (with_reducible refine (KK1.out _).mono ?_); rintro e w1 ⟨rfl, x1, rfl⟩) | (go_at_call 18; (with_reducible refine (KK2.out _).mono ?_); rintro e w1 ⟨rfl, x1, rfl⟩))
                go_roundg (l.length - (i + 1))
                case rel => exact ⟨i + 1, Lib.hid ⟨by omega, by omega⟩, by go_num, by (rw [HSC.out]; try go_num), (by repeat (with_reducible first | assumption | exact grA | apply grB | apply grC | apply grD | refine grE ?_ (by omega) _ | refine grF ?_ (by omega) _ _))⟩
                case measure => omega
              · have HSC : Hid (_ = K) := Lib.hid (hsc.trans <| by simp [h2])
                clear hsc
                go_wp2_with (first | (go_at_call 18; (with_reducible refine (KK1.out _).mono ?_); rintro e w1 ⟨rfl, x1, rfl⟩) | (go_at_call 18; (with_reducible refine (KK2.out _).mono ?_); rintro e w1 ⟨rfl, x1, rfl⟩))
                go_roundg (l.length - (i + 1))
                case rel => exact ⟨i + 1, Lib.hid ⟨by omega, by omega⟩, by go_num, by (rw [HSC.out]; try go_num), (by repeat (with_reducible first | assumption | exact grA | apply grB | apply grC | apply grD | refine grE ?_ (by omega) _ | refine grF ?_ (by omega) _ _))⟩
                case measure => omega
            · have HSC : Hid (_ = K) := Lib.hid (hsc.trans <| by simp [h1])
              clear hsc
              go_wp2_with (first | (go_at_call 18; (with_reducible refine (KK1.out _).mono ?_); rintro e w1 ⟨rfl, x1, rfl⟩) | (go_at_call 18; (with_reducible refine (KK2.out _).mono ?_); rintro e w1 ⟨rfl, x1, rfl⟩))
              go_roundg (l.length - (i + 1))
              case rel => exact ⟨i + 1, Lib.hid ⟨by omega, by omega⟩, by go_num, by (rw [HSC.out]; try go_num), (by repeat (with_reducible first | assumption | exact grA | apply grB | apply grC | apply grD | refine grE ?_ (by omega) _ | refine grF ?_ (by omega) _ _))⟩
              case measure => omega
        · have HSC : Hid (_ = K) := Lib.hid (hsc.trans <| by simp [hn])
          have hq : ¬ nx.toList = nm.toList := by rw [ByteArray.toList_eq, ByteArray.toList_eq, nameEq]; exact hn
          generalize (if P1 = true then C1 else 0) = Z at *
          have KK1 := Lib.hid kk1
          clear kk1 hsc
          go_wp2_with (first | (go_at_call 18; (with_reducible refine (KK1.out _).mono ?_); rintro e w1 ⟨rfl, x1, rfl⟩) | (go_at_call 18; (with_reducible refine (KK2.out _).mono ?_); rintro e w1 ⟨rfl, x1, rfl⟩))
          go_roundg (l.length - (i + 1))
          case rel => exact ⟨i + 1, Lib.hid ⟨by omega, by omega⟩, by go_num, by (rw [HSC.out]; try go_num), (by repeat (with_reducible first | assumption | exact grA | apply grB | apply grC | apply grD | refine grE ?_ (by omega) _ | refine grF ?_ (by omega) _ _))⟩
          case measure => omega
      · have i1 : ¬ (i : Int) < (l.length : Int) := by omega
        obtain rfl : i = l.length := by omega
        have hK := cntB_all nm a b c d l
        have hm := looks_len HF.out.2
        have w3r : w3.grows wr := World.grows.trans hg hgj
        have hww : w.grows wr := World.grows.trans k3 w3r
        have hA1 := (hgj.row_eq z3.1).trans hA; have hB1 := (hgj.row_eq z4.1).trans hB
        have y3 := row_sz' hA1; have y4 := row_sz' hB1
        have hm0 : m = 0 := (FEW.out m HF.out.2).1 HKK.out
        subst hm0
        go_wp2_with (first
          | (go_at_call 15; (with_reducible refine (HC.out.cross _ w ix B 0 (World.grows.trans hww (by repeat (with_reducible first | assumption | exact grA | apply grB | apply grC | apply grD | refine grE ?_ (by omega) _ | refine grF ?_ (by omega) _ _))) kix (Idx.grows HF.out.1 (World.grows.trans w3r (by repeat (with_reducible first | assumption | exact grA | apply grB | apply grC | apply grD | refine grE ?_ (by omega) _ | refine grF ?_ (by omega) _ _)))) (by omega)).mono ?_); rintro e w6 ⟨r, m2, rfl, hg6, HX⟩; obtain rfl : m2 = 0 := (FEW2.out m2 HX.out.2).1 HKK.out)
          | (go_at_call 23; (with_reducible refine (HC.out.asked _ ix B 0 (Idx.grows (by simpa using HX.out.1) (by repeat (with_reducible first | assumption | exact grA | apply grB | apply grC | apply grD | refine grE ?_ (by omega) _ | refine grF ?_ (by omega) _ _)))).mono ?_); rintro e wA ⟨rfl, rfl⟩)
          | (go_at_call 16; (with_reducible refine (awake24_any _).mono ?_); rintro e w7 ⟨rfl, x7, rfl⟩))
        go_ret
        exact ⟨rfl, (by repeat (with_reducible first | assumption | exact grA | apply grB | apply grC | apply grD | refine grE ?_ (by omega) _ | refine grF ?_ (by omega) _ _))⟩

set_option maxRecDepth 100000 in
set_option maxHeartbeats 8000000 in
theorem fewGt_any (v : Value) (l : List Ln) (l0 : List Ln) (nm : ByteArray) (a b c d : Int) (w : World) (h : SlAt w (fun _ => True) 5 LnR v l0) (el : l = l0.take 200) (wa : I64 a) (wb : I64 b) (wc : I64 c) (wd : I64 d) (hC : FewC l nm a b c d w) (hb : both a b c d = true) (hk : 0 < cmpI a b c d) :
    Calls Try.prog 9 #[v, .string nm, .agg #[.int .i64 a, .int .i64 b], .agg #[.int .i64 c, .int .i64 d]] w (Gives w (.bool true)) := by
  have c0 : ∀ W, w.grows W → Calls Try.prog 10 #[v] W fun e w' => ∃ v', e = .returned v' ∧ w' = W ∧ Hid (SlAt W (fun _ => True) 5 LnR v' l) := fun W hg => (cut_any v l0 W (h.grows hg fun _ _ _ h => h)).mono fun e w' ⟨v', q1, q2, q3⟩ => ⟨v', q1, q2, Lib.hid (by rw [el]; exact q3)⟩
  have hN : l.length ≤ 200 := by rw [el]; simp; omega
  have k1 := fun W => refCmp2 a b c d W wa wb wc wd
  rw [hb, if_pos rfl] at k1
  have n1 : ¬ cmpI a b c d = 0 := by omega
  have few := fun m (hm : Looks a b c d nm l m) => hm.few hb
  have few2 := fun m (hm : Looks c d a b nm l m) => hm.swap.few hb
  have FEW := Lib.hid few; have FEW2 := Lib.hid few2
  clear few few2 hb
  have HKK := Lib.hid hk
  generalize hcc : cmpI a b c d = cc at *
  have HCC := Lib.hid hcc
  clear hcc
  have C0 := Lib.hid c0; have K1 := Lib.hid k1; have HC := Lib.hid hC; have WA := Lib.hid wa; have WB := Lib.hid wb; have WCC := Lib.hid wc; have WD := Lib.hid wd
  clear c0 k1 h hC el wa wb wc wd
  go_enter Try.func9, Try.ntmps9
  go_upto_region 10 with (first
    | (go_at_call 10; (with_reducible refine (C0.out _ (by repeat (with_reducible first | assumption | exact grA | apply grB | apply grC | apply grD | refine grE ?_ (by omega) _ | refine grF ?_ (by omega) _ _))).mono ?_); rintro e w1 ⟨v1, rfl, rfl, H1⟩)
    | (go_at_call 12; (with_reducible refine (HC.out.new _ _ H1.out).mono ?_); rintro e w2 ⟨ix, B, rfl, hix, hg2, HI⟩; have k2 : w.grows w2 := World.grows.trans (by repeat (with_reducible first | assumption | exact grA | apply grB | apply grC | apply grD | refine grE ?_ (by omega) _ | refine grF ?_ (by omega) _ _)) hg2; have kix : w.heap.size ≤ ix := by (simp at hix; omega))
    | (go_at_call 23; (with_reducible refine (HC.out.asked _ ix B (m : Int) (Idx.grows HF.out.1 (by repeat (with_reducible first | assumption | exact grA | apply grB | apply grC | apply grD | refine grE ?_ (by omega) _ | refine grF ?_ (by omega) _ _)))).mono ?_); rintro e wA ⟨rfl, rfl⟩)
    | (go_at_call 23; (with_reducible refine (HC.out.asked _ ix B 0 (Idx.grows HI.out (by repeat (with_reducible first | assumption | exact grA | apply grB | apply grC | apply grD | refine grE ?_ (by omega) _ | refine grF ?_ (by omega) _ _)))).mono ?_); rintro e wA ⟨rfl, rfl⟩; have kr1 : w2.row w.heap.size = some (.cells #[.int .i64 a, .int .i64 b] 24) := (hg2.row_eq (by simp; omega)).trans (by simp [go_sem]); have kr2 : w2.row (w.heap.size + 1) = some (.cells #[.int .i64 c, .int .i64 d] 24) := (hg2.row_eq (by simp)).trans (by simp [go_sem]); have kz1 := row_sz' kr1; have kz2 := row_sz' kr2)
    | (go_at_call 14; (with_reducible refine (HC.out.flips _ (((w.alloc (.cells #[.int .i64 a, .int .i64 b] 24)).alloc (.cells #[.int .i64 c, .int .i64 d] 24))) ix B (World.grows.trans hg2 (by repeat (with_reducible first | assumption | exact grA | apply grB | apply grC | apply grD | refine grE ?_ (by omega) _ | refine grF ?_ (by omega) _ _))) hix (Idx.grows HI.out (by repeat (with_reducible first | assumption | exact grA | apply grB | apply grC | apply grD | refine grE ?_ (by omega) _ | refine grF ?_ (by omega) _ _)))).mono ?_); rintro e w3 ⟨v3, m, rfl, hg3, HF⟩; have k3 : w.grows w3 := World.grows.trans (by repeat (with_reducible first | assumption | exact grA | apply grB | apply grC | apply grD | refine grE ?_ (by omega) _ | refine grF ?_ (by omega) _ _)) hg3; have kr3 : w3.row w.heap.size = some (.cells #[.int .i64 a, .int .i64 b] 24) := (hg3.row_eq (by simp; omega)).trans (by simp [go_sem]); have kr4 : w3.row (w.heap.size + 1) = some (.cells #[.int .i64 c, .int .i64 d] 24) := (hg3.row_eq (by simp)).trans (by simp [go_sem]); have kz3 := row_sz' kr3; have kz4 := row_sz' kr4)
    | (go_at_call 18; (with_reducible refine (K1.out _).mono ?_); rintro e w1 ⟨rfl, x1, rfl⟩))
  clear kr1 kr2 kz1 kz2
  have H3 := Lib.hid (H1.out.grows hg3 fun _ _ _ h => h)
  clear H1 HI hg2 k2 hix
  have kw3 : w.heap.size + 2 ≤ w3.heap.size := by have := hg3.below.size; simp at this; omega
  go_cut [13, 14] (fun s13 s14 wx => (∃ g k : Nat, s13 = .pointer (some ⟨g, 0, none⟩) ∧ s14 = .pointer (some ⟨k, 0, none⟩) ∧ g ≠ k ∧ w3.heap.size ≤ g ∧ w3.heap.size ≤ k ∧ wx.row g = some (.cells #[.int .i64 a, .int .i64 b] 24) ∧ wx.row k = some (.cells #[.int .i64 c, .int .i64 d] 24) ∧ wx.row w.heap.size = some (.cells #[.int .i64 a, .int .i64 b] 24) ∧ wx.row (w.heap.size + 1) = some (.cells #[.int .i64 c, .int .i64 d] 24) ∧ w3.grows wx))
  case first =>
    refine abs_rows (w := w3) (G := fun W => Code.wp _ _ _ _ W) (by repeat (with_reducible first | assumption | exact grA | apply grB | apply grC | apply grD | refine grE ?_ (by omega) _ | refine grF ?_ (by omega) _ _)) [(w.heap.size, .cells #[.int .i64 a, .int .i64 b] 24), (w.heap.size + 1, .cells #[.int .i64 c, .int .i64 d] 24)] (by simp [go_sem, *]) ?_
    intro V gV hl
    simp only [List.forall_mem_cons, List.not_mem_nil, false_implies, implies_true, and_true] at hl
    obtain ⟨hx, hy⟩ := hl
    have zhx := row_sz' hx
    have zhy := row_sz' hy
    go_region
    all_goals (go_wp2_with fail; go_meet; have zz := zhx.1; have zy := zhy.1; have zw := gV.below.size; refine ⟨_, _, rfl, rfl, by omega, by omega, by omega, by simp [go_sem, *], by simp [go_sem, *], by simp [go_sem, *], by simp [go_sem, *], (by repeat (with_reducible first | assumption | exact grA | apply grB | apply grC | apply grD | refine grE ?_ (by omega) _ | refine grF ?_ (by omega) _ _))⟩)
  case rest =>
    obtain ⟨g, k, rfl, rfl, hgk, hg0, hk0, hx, hy, hA, hB, hg⟩ := hcut
    have z1 := row_sz' hx; have z2 := row_sz' hy; have z3 := row_sz' hA; have z4 := row_sz' hB
    have hkg : (k = g) = False := eq_false (fun e => hgk e.symm)
    have hgk' : (g = k) = False := eq_false hgk
    go_upto_if 56 with fail
    go_cut [13] (fun s13 wx => s13 = .pointer (some ⟨g, 0, none⟩) ∧ wx.row g = some (.cells #[.int .i64 c, .int .i64 d] 24) ∧ wx.row k = some (.cells #[.int .i64 a, .int .i64 b] 24) ∧ wx.row w.heap.size = some (.cells #[.int .i64 a, .int .i64 b] 24) ∧ wx.row (w.heap.size + 1) = some (.cells #[.int .i64 c, .int .i64 d] 24) ∧ w3.grows wx)
    case first =>
      have e1 : (w.heap.size = g) = False := by apply eq_false; omega
      have e2 : (w.heap.size + 1 = g) = False := by apply eq_false; omega
      have e3 : (w.heap.size = k) = False := by apply eq_false; omega
      have e4 : (w.heap.size + 1 = k) = False := by apply eq_false; omega
      go_upto_region 12 with fail
      go_region
      all_goals (go_wp2_with fail; go_meet; exact ⟨rfl, by simp [go_sem, *], by simp [go_sem, *], by simp [go_sem, *], by simp [go_sem, *], (by repeat (with_reducible first | assumption | exact grA | apply grB | apply grC | apply grD | refine grE ?_ (by omega) _ | refine grF ?_ (by omega) _ _))⟩)
    case rest =>
    obtain ⟨rfl, hx, hy, hA, hB, hg⟩ := hcut
    rename_i wq hx' hy' hA' hB' hg'
    have z1 := row_sz' hx; have z2 := row_sz' hy; have z3 := row_sz' hA; have z4 := row_sz' hB
    obtain ⟨a1, cap1, rfl, p1, p2, p3⟩ := H3.out
    have P3 := Lib.hid p3
    have hg3w : w.grows wc := World.grows.trans k3 hg
    clear p3 H3 hgk hA hB z3 z4
    have hA := (hg.row_eq kz3.1).trans kr3
    have hB := (hg.row_eq kz4.1).trans kr4
    have z3 := row_sz' hA; have z4 := row_sz' hB
    go_wp2_with fail
    go_loopg [15, 61] l.length (fun gn v15 v61 wj => ∃ i : Nat, Hid (gn + i = l.length ∧ i ≤ l.length) ∧ v61 = .int .i64 i ∧ v15 = .int .i64 (cntB nm c d a b l i : Nat) ∧ wc.grows wj)
    case atStart => exact ⟨0, Lib.hid ⟨by simp, Nat.zero_le _⟩, by go_num, by simp [cntB], (by repeat (with_reducible first | assumption | exact grA | apply grB | apply grC | apply grD | refine grE ?_ (by omega) _ | refine grF ?_ (by omega) _ _))⟩
    case round =>
      obtain ⟨i, HK, rfl, rfl, hgj⟩ := hrel
      obtain ⟨j1, j2⟩ := HK.out
      have hx1 := (hgj.row_eq z1.1).trans hx; have hy1 := (hgj.row_eq z2.1).trans hy
      have y1 := row_sz' hx1; have y2 := row_sz' hy1
      have hcl := cntB_le nm c d a b l i
      by_cases hlt : i < l.length
      · rcases P3.out with h0 | ⟨g5, off5, rfl, _, h4⟩
        · rw [h0] at hlt; simp at hlt
        have hgt := List.getElem?_eq_getElem hlt
        obtain ⟨cs, _, el, ec, wx⟩ := h4 i _ hgt
        generalize l[i] = x at *
        subst ec
        replace el := el.grows (World.grows.trans hg hgj)
        have e1 : segOk (off5 + i * 5) 5 (wr.row g5) = true := el.1
        have e2 : segV (off5 + i * 5) 5 (wr.row g5) = x.v := el.2
        have zg := lt_sz el.lt
        have i1 : (i : Int) < (l.length : Int) := by omega
        have hsc := cntB_succ (nm := nm) (a := c) (b := d) (c := a) (d := b) hgt
        have kk1 := fun W => refCmp2 c d x.p x.q W WCC.out WD.out wx.2.2.1 wx.2.2.2.1
        have kk2 := fun W => refCmp2 x.p x.q a b W wx.2.2.1 wx.2.2.2.1 WA.out WB.out
        unfold betw at hsc
        obtain ⟨nx, o, q, r, id⟩ := x
        simp only at hsc kk1 kk2
        generalize cntB nm c d a b l i = K at *
        generalize both c d q r = P1 at *
        generalize cmpI c d q r = C1 at *
        generalize both q r a b = P2 at *
        generalize (if P2 = true then cmpI q r a b else 0) = Q at *
        clear el h4 hgt wx
        have KK2 := Lib.hid kk2
        clear kk2
        by_cases hn : nx = nm
        · subst hn
          cases P1 with
          | false =>
            have HSC : Hid (_ = K) := Lib.hid (hsc.trans <| by simp)
            rw [if_neg (by simp)] at kk1
            have KK1 := Lib.hid kk1
            clear kk1 hsc
            go_wp2_with (first | (go_at_call 18; (with_reducible refine (KK1.out _).mono ?_); rintro e w1 ⟨rfl, x1, rfl⟩) | (go_at_call 18; (with_reducible refine (KK2.out _).mono ?_); rintro e w1 ⟨rfl, x1, rfl⟩))
            go_roundg (l.length - (i + 1))
            case rel => exact ⟨i + 1, Lib.hid ⟨by omega, by omega⟩, by go_num, by (rw [HSC.out]; try go_num), (by repeat (with_reducible first | assumption | exact grA | apply grB | apply grC | apply grD | refine grE ?_ (by omega) _ | refine grF ?_ (by omega) _ _))⟩
            case measure => omega
          | true =>
            rw [if_pos rfl] at kk1
            have KK1 := Lib.hid kk1
            clear kk1
            by_cases h1 : C1 ≤ 0
            · by_cases h2 : Q ≤ 0
              · have HSC : Hid (_ = K + 1) := Lib.hid (hsc.trans <| by simp [h1, h2])
                clear hsc
                go_wp2_with (first | (go_at_call 18; (with_reducible refine (KK1.out _).mono ?_); rintro e w1 ⟨rfl, x1, rfl⟩) | (go_at_call 18; (with_reducible refine (KK2.out _).mono ?_); rintro e w1 ⟨rfl, x1, rfl⟩))
                go_roundg (l.length - (i + 1))
                case rel => exact ⟨i + 1, Lib.hid ⟨by omega, by omega⟩, by go_num, by (rw [HSC.out]; try go_num), (by repeat (with_reducible first | assumption | exact grA | apply grB | apply grC | apply grD | refine grE ?_ (by omega) _ | refine grF ?_ (by omega) _ _))⟩
                case measure => omega
              · have HSC : Hid (_ = K) := Lib.hid (hsc.trans <| by simp [h2])
                clear hsc
                go_wp2_with (first | (go_at_call 18; (with_reducible refine (KK1.out _).mono ?_); rintro e w1 ⟨rfl, x1, rfl⟩) | (go_at_call 18; (with_reducible refine (KK2.out _).mono ?_); rintro e w1 ⟨rfl, x1, rfl⟩))
                go_roundg (l.length - (i + 1))
                case rel => exact ⟨i + 1, Lib.hid ⟨by omega, by omega⟩, by go_num, by (rw [HSC.out]; try go_num), (by repeat (with_reducible first | assumption | exact grA | apply grB | apply grC | apply grD | refine grE ?_ (by omega) _ | refine grF ?_ (by omega) _ _))⟩
                case measure => omega
            · have HSC : Hid (_ = K) := Lib.hid (hsc.trans <| by simp [h1])
              clear hsc
              go_wp2_with (first | (go_at_call 18; (with_reducible refine (KK1.out _).mono ?_); rintro e w1 ⟨rfl, x1, rfl⟩) | (go_at_call 18; (with_reducible refine (KK2.out _).mono ?_); rintro e w1 ⟨rfl, x1, rfl⟩))
              go_roundg (l.length - (i + 1))
              case rel => exact ⟨i + 1, Lib.hid ⟨by omega, by omega⟩, by go_num, by (rw [HSC.out]; try go_num), (by repeat (with_reducible first | assumption | exact grA | apply grB | apply grC | apply grD | refine grE ?_ (by omega) _ | refine grF ?_ (by omega) _ _))⟩
              case measure => omega
        · have HSC : Hid (_ = K) := Lib.hid (hsc.trans <| by simp [hn])
          have hq : ¬ nx.toList = nm.toList := by rw [ByteArray.toList_eq, ByteArray.toList_eq, nameEq]; exact hn
          generalize (if P1 = true then C1 else 0) = Z at *
          have KK1 := Lib.hid kk1
          clear kk1 hsc
          go_wp2_with (first | (go_at_call 18; (with_reducible refine (KK1.out _).mono ?_); rintro e w1 ⟨rfl, x1, rfl⟩) | (go_at_call 18; (with_reducible refine (KK2.out _).mono ?_); rintro e w1 ⟨rfl, x1, rfl⟩))
          go_roundg (l.length - (i + 1))
          case rel => exact ⟨i + 1, Lib.hid ⟨by omega, by omega⟩, by go_num, by (rw [HSC.out]; try go_num), (by repeat (with_reducible first | assumption | exact grA | apply grB | apply grC | apply grD | refine grE ?_ (by omega) _ | refine grF ?_ (by omega) _ _))⟩
          case measure => omega
      · have i1 : ¬ (i : Int) < (l.length : Int) := by omega
        obtain rfl : i = l.length := by omega
        have hK := cntB_all nm c d a b l
        have hm := looks_len HF.out.2
        have w3r : w3.grows wr := World.grows.trans hg hgj
        have hww : w.grows wr := World.grows.trans k3 w3r
        have hA1 := (hgj.row_eq z3.1).trans hA; have hB1 := (hgj.row_eq z4.1).trans hB
        have y3 := row_sz' hA1; have y4 := row_sz' hB1
        have hmK := (FEW.out m HF.out.2).2.2 HKK.out
        rw [← hK] at hmK
        have hFE := fun m2 (hm2 : Looks c d a b nm l m2) => (FEW2.out m2 hm2).2.2 HKK.out
        rw [← hK] at hFE
        have HFE := Lib.hid hFE
        clear hK hFE
        generalize cntB nm c d a b l l.length = K at *
        have f1 : ¬ ((m : Int) < 0) := by omega
        have f2 : ¬ ((K : Int) < (m : Int)) := by omega
        have f3 : wrap64 (2 * (K : Int)) = 2 * (K : Int) := by unfold wrap64; omega
        have HMK := Lib.hid hmK
        clear hmK
        go_upto_region 27 with (first
          | (go_at_call 15; go_loud ((with_reducible refine (HC.out.cross _ w ix B m (World.grows.trans hww (by repeat (with_reducible first | assumption | exact grA | apply grB | apply grC | apply grD | refine grE ?_ (by omega) _ | refine grF ?_ (by omega) _ _))) kix (Idx.grows HF.out.1 (World.grows.trans w3r (by repeat (with_reducible first | assumption | exact grA | apply grB | apply grC | apply grD | refine grE ?_ (by omega) _ | refine grF ?_ (by omega) _ _)))) (by omega)).mono ?_); rintro e w6 ⟨r, m2, rfl, hg6, HX⟩)))
        have hm2 := HFE.out m2 HX.out.2
        have hm1 := HMK.out
        have f4 : (m : Int) + (m2 : Int) ≤ 2 * (K : Int) := by omega
        have f5 : (m : Int) ≤ (m : Int) + (m2 : Int) := by omega
        clear hm2 hm1
        go_wp2_with (first
          | (go_at_call 23; (with_reducible refine (HC.out.asked _ ix B _ (Idx.grows HX.out.1 (by repeat (with_reducible first | assumption | exact grA | apply grB | apply grC | apply grD | refine grE ?_ (by omega) _ | refine grF ?_ (by omega) _ _)))).mono ?_); rintro e wA ⟨rfl, rfl⟩)
          | (go_at_call 16; (with_reducible refine (awake24_any _).mono ?_); rintro e w7 ⟨rfl, x7, rfl⟩))
        go_ret
        exact ⟨rfl, (by repeat (with_reducible first | assumption | exact grA | apply grB | apply grC | apply grD | refine grE ?_ (by omega) _ | refine grF ?_ (by omega) _ _))⟩

theorem pointFew_any (v : Value) (l : List Ln) (nm : ByteArray) (a b c d : Int) (w : World) (h : SlAt w (fun _ => True) 5 LnR v l) (hs : nm.size ≤ maxLen) (wa : I64 a) (wb : I64 b) (wc : I64 c) (wd : I64 d) :
    Calls Try.prog 9 #[v, .string nm, .agg #[.int .i64 a, .int .i64 b], .agg #[.int .i64 c, .int .i64 d]] w (Gives w (.bool true)) := by
  have hC := fewC (l.take 200) nm a b c d w (fun x hx => lines_wf h x (List.mem_of_mem_take hx)) (by simp; omega) hs wa wb wc wd
  cases hb : both a b c d with
  | false => exact fewNo_any v _ l nm a b c d w h rfl wa wb wc wd hC hb
  | true =>
    rcases Int.lt_trichotomy (cmpI a b c d) 0 with hk | hk | hk
    · exact fewLt_any v _ l nm a b c d w h rfl wa wb wc wd hC hb hk
    · exact fewEq_any v _ l nm a b c d w h rfl wa wb wc wd hC hb hk
    · exact fewGt_any v _ l nm a b c d w h rfl wa wb wc wd hC hb hk

theorem pointFew_own : ownKnob Try.prog.godebug = none := by kernel_rfl
theorem pointFew_laidOut : laidOutB Try.prog = true := by kernel_rfl
set_option maxRecDepth 100000 in
set_option maxHeartbeats 2000000 in
theorem pointFew_lifted (os : Os) (started : os.Started) (H : Type) (enc : TypeId × Value → H) :
    ReturnsInHanded {} Try.checked os 9 .any (Rows.pointFewSpec.pre6 enc Try.prog Try.f9 Rows.pointFewRow.domain false) (Rows.pointFewSpec.post enc Try.prog Try.f9 false true false false) := by
  refine returnsInHanded_of_change (C := Try.checked) pointFew_own started (by kernel_rfl) Try.func9
    (ChangeSpec.witness6 (enc := enc) (C := Try.checked) false ⟨#[], #[.slice none 0 0, .string ByteArray.empty, .agg #[.int .i64 0, .int .i64 0], .agg #[.int .i64 0, .int .i64 0]], []⟩ 8 (by kernel_rfl) (by kernel_rfl) (by kernel_rfl) (by kernel_rfl)) ?_
  intro W base args ds gs before hval0 hW hcnd _
  have hval : ∀ (j : Nat) t v, Try.f9.params[j]? = some t → args[j]? = some v → Value.okWide Try.prog W .any base t v := hval0
  have hW' := hW
  obtain ⟨p, q, hA0, hV, rfl, hfz, hnd⟩ := hW
  have hA : DataW.TrodAll enc Try.prog W 0 (fun _ => true) true Try.f9.params.toList args.toList ds p := hA0
  rw [Try.params9] at hA hval
  obtain ⟨v0, vs0, d0, ds0, p0, q0, hargs, rfl, rfl, h0, r0⟩ := trodAll_cons hA
  obtain ⟨v1, vs1, d1, ds1, p1, q1, rfl, rfl, rfl, h1, r1⟩ := trodAll_cons r0
  obtain ⟨v2, vs2, d2, ds2, p2, q2, rfl, rfl, rfl, h2, r2⟩ := trodAll_cons r1
  obtain ⟨v3, vs3, d3, ds3, p3, q3, rfl, rfl, rfl, h3, r3⟩ := trodAll_cons r2
  obtain ⟨rfl, rfl, rfl⟩ := trodAll_nil r3
  obtain rfl : args = #[v0, v1, v2, v3] := by cases args; simp_all
  obtain ⟨rfl, rfl⟩ := trodVars_none hV
  have k0 := h0
  have lt0 : ∀ x ∈ p0, x.block < W.heap.size := by obtain ⟨m, hm⟩ := k0; exact DataW.trod_lt m _ _ _ hm
  have k1 := h1
  have lt1 : ∀ x ∈ p1, x.block < W.heap.size := by obtain ⟨m, hm⟩ := k1; exact DataW.trod_lt m _ _ _ hm
  have k2 := h2
  have lt2 : ∀ x ∈ p2, x.block < W.heap.size := by obtain ⟨m, hm⟩ := k2; exact DataW.trod_lt m _ _ _ hm
  have k3 := h3
  have lt3 : ∀ x ∈ p3, x.block < W.heap.size := by obtain ⟨m, hm⟩ := k3; exact DataW.trod_lt m _ _ _ hm
  obtain ⟨l, h_l⟩ := lines_arg (hval 0 22 v0 rfl rfl) h0
  obtain ⟨nm, rfl, _, _, wnm⟩ := open_string Try.underlying9 (hval 1 9 v1 rfl rfl) h1
  obtain ⟨a, b, rfl, w2_0, w2_1⟩ := rat_arg (hval 2 24 v2 rfl rfl) h2
  obtain ⟨c, d, rfl, w3_0, w3_1⟩ := rat_arg (hval 3 24 v3 rfl rfl) h3
  clear hA0 hval0
  refine (pointFew_any v0 l nm a b c d W h_l wnm w2_0 w2_1 w3_0 w3_1).mono fun e W' ⟨he, grw⟩ => ?_
  subst he
  have bel := grw.below
  exact ⟨_, rfl, _, _, _, [], _, [], hW', trodAll_mk1 (shut_bool Try.underlying4 _), (trodAll_cons_mk (Below.trod pointFew_laidOut (by kernel_rfl) (of_decide_eq_true (by kernel_rfl)) k0 bel lt0) (trodAll_cons_mk (Below.trod pointFew_laidOut (by kernel_rfl) (of_decide_eq_true (by kernel_rfl)) k1 bel lt1) (trodAll_cons_mk (Below.trod pointFew_laidOut (by kernel_rfl) (of_decide_eq_true (by kernel_rfl)) k2 bel lt2) (trodAll_cons_mk (Below.trod pointFew_laidOut (by kernel_rfl) (of_decide_eq_true (by kernel_rfl)) k3 bel lt3) trodAll_mk0)))), rfl, bel.frame _, fun h => by cases h⟩

/-- THE STATEMENT -/
theorem pointFew_holds : Rows.PointFewSaid :=
  OpenClaim.holds_of_wide 9 Try.f9 rfl rfl rfl rfl rfl rfl rfl ⟨rfl, rfl, rfl, rfl, rfl⟩ rfl rfl rfl rfl rfl (by kernel_rfl) Try.func9 (by kernel_rfl)
    (of_decide_eq_true (by kernel_rfl)) (by unfold Func.isWrapper; first | (rw [if_pos (by decide +kernel)]; kernel_rfl) | (rw [if_neg (by decide +kernel)]; exact ⟨rfl, rfl⟩))
    (fun os started H enc _ => pointFew_lifted os started H enc)
#print axioms pointFew_holds
end Go.Proofs.Ytjfccilmlmimaaa

