/- Texts of the walk, one after the other; what each proves stands ahead of it. -/
import Derived.Test.YthcaphoejplecaaDoorTk4
import Derived.Test.YthcaphoejplecaaDoorVr1
set_option linter.unusedSimpArgs false
set_option linter.unusedVariables false
/- WALKS over jalousieref21.Same and the law VarsOrder. No condition but bounds and the table of kinds. -/
namespace Go
open Go.RowKit
theorem SlAt.take {α : Type} {w : World} {S : Nat → Prop} {n : Nat} {R : α → List Value → Prop} {a : Option Addr} {len cap : Nat} {l : List α} (h : SlAt w S n R (.slice a len cap) l) {k : Nat} (hk : k ≤ l.length) :
    SlAt w S n R (.slice a k cap) (l.take k) := by
  obtain ⟨a', cap', e, h2, h3, h4⟩ := h
  injection e with e1 e2 e3
  subst e1; subst e3
  have hl : (l.take k).length = k := by simp [hk]
  refine ⟨a, cap, by rw [hl], by omega, h3, ?_⟩
  rcases h4 with rfl | ⟨g, off, rfl, hS, h7⟩
  · exact .inl (by simp)
  · refine .inr ⟨g, off, rfl, hS, fun i x hx => h7 i x ?_⟩
    have hi := (List.getElem?_eq_some_iff.1 hx).1
    rw [List.getElem?_take] at hx
    split at hx
    · exact hx
    · cases hx
/-- names that differ -/
def DistC (o : List Cu) : Prop := o.Pairwise fun a b => a.n ≠ b.n
theorem findCu_rev {o : List Cu} (h : DistC o) : findCu o.reverse = findCu o := by
  funext n
  unfold findCu
  split
  · congr 1
    rw [List.reverse_reverse]
    have key : ∀ (l : List Cu), DistC l → l.find? (fun c => decide (c.n = n)) = l.reverse.find? (fun c => decide (c.n = n)) := fun l => by
      induction l with
      | nil => intro _; rfl
      | cons a l ih =>
        intro hd
        obtain ⟨h1, h2⟩ := List.pairwise_cons.1 hd
        rw [List.reverse_cons, List.find?_append, ← ih h2, List.find?_cons]
        by_cases e : a.n = n
        · have hnone : l.find? (fun c => decide (c.n = n)) = none := by
            rw [List.find?_eq_none]
            intro c hc
            simp only [decide_eq_true_iff]
            exact fun e2 => h1 c hc (e.trans e2.symm)
          rw [hnone]; simp [e]
        · simp [e]
    exact key o h
  · rfl
end Go
namespace Go.Proofs.YthcaphoejplecaaDoor
open Go.RowKit Go.Maps
set_option maxRecDepth 100000 in
set_option maxHeartbeats 4000000 in
/-- the same customs are the same -/
theorem fcusame_any {w : World} {S S' : Nat → Prop} {u v : Value} {l : List Cu} (h : CusAt w S u l) (h' : CusAt w S' v l) : Calls Tryd.prog 23 #[u, v] w (Gives w (.bool true)) := by
  obtain ⟨a, cap, rfl, hcap, hcap2⟩ := SlAt.len h
  obtain ⟨a', cap', rfl, -, -⟩ := SlAt.len h'
  have H := Lib.hid h
  have H' := Lib.hid h'
  clear h h'
  go_enter Tryd.func23, Tryd.ntmps23
  go_wp2_with fail
  go_loopg [13] l.length (fun gn v13 wj => ∃ i : Nat, Hid (gn + i = l.length ∧ i ≤ l.length) ∧ v13 = .int .i64 i ∧ w.grows wj)
  case atStart => exact ⟨0, Lib.hid ⟨by simp, Nat.zero_le _⟩, by go_num, (by repeat (with_reducible first | assumption | exact grA | apply grB | apply grC | apply grD | refine grE ?_ (by omega) _ | refine grF ?_ (by omega) _ _))⟩
  case round =>
    obtain ⟨i, HQ, rfl, hgj⟩ := hrel
    obtain ⟨j1, j2⟩ := HQ.out
    by_cases hlt : i < l.length
    · have hgt : l[i]? = some l[i] := List.getElem?_eq_getElem hlt
      obtain ⟨g, off, cs, rfl, -, -, k1, hv⟩ := H.out.elt hgt
      obtain ⟨g', off', cs', rfl, -, -, k1', hv'⟩ := H'.out.elt hgt
      generalize l[i] = x at *
      obtain ⟨nm, ts⟩ := x
      obtain ⟨hnm, t, rfl, hts, htl⟩ := hv
      obtain ⟨hnm', t', rfl, hts', htl'⟩ := hv'
      obtain ⟨aT, cT, rfl, -, -⟩ := hts.len
      obtain ⟨aU, cU, rfl, -, -⟩ := hts'.len
      have HSM := Lib.hid (fun (W : World) (hg : wr.grows W) => fsame_any (hts.grows (hgj.trans hg) fun _ _ _ h => h) (hts'.grows (hgj.trans hg) fun _ _ _ h => h))
      have k2 := k1.grows hgj
      have z3 := lt_sz k2.lt
      have c0 := k2.cell (j := 0) rfl
      have c1 := k2.cell (j := 1) rfl
      rw [World.cell?_row, Nat.add_zero] at c0
      rw [World.cell?_row] at c1
      have k2' := k1'.grows hgj
      have z3' := lt_sz k2'.lt
      have c0' := k2'.cell (j := 0) rfl
      have c1' := k2'.cell (j := 1) rfl
      rw [World.cell?_row, Nat.add_zero] at c0'
      rw [World.cell?_row] at c1'
      have i1 : (0 : Int) ≤ (i : Int) := by omega
      have i2 : (i : Int) < (l.length : Int) := by omega
      have iw : IntKind.i64.wrap ((i : Int) + 1) = (i : Int) + 1 := by rw [IntKind.wrap_i64]; omega
      have hb : (nm.toList == nm.toList) = true := by simp
      clear k1 k1' k2 k2' hts hts' htl htl' hgt hlt
      go_upto_region 6 with fail
      refine wp_region_plus_lit (by kernel_rfl) (by kernel_rfl) ?_
      repeat (go_big_quiet_step ((go_at_call 10; (with_reducible exact Calls.plus_of (HSM.out _ (by repeat (with_reducible first | assumption | exact grA | apply grB | apply grC | apply grD | refine grE ?_ (by omega) _ | refine grF ?_ (by omega) _ _)))))))
      (refine wpQuiet_nil ?_; intro _ hw'; obtain ⟨xq, hw''⟩ := hw'; subst hw'')
      go_wp2_with fail
      go_roundg (l.length - (i + 1))
      case measure => have := HQ.out; omega
      case rel => exact ⟨i + 1, Lib.hid ⟨by omega, by omega⟩, by go_num, hgj.trans (by repeat (with_reducible first | assumption | exact grA | apply grB | apply grC | apply grD | refine grE ?_ (by omega) _ | refine grF ?_ (by omega) _ _))⟩
    · have i2 : ¬ (i : Int) < (l.length : Int) := by omega
      go_wp2_with fail
      go_ret
      exact ⟨rfl, hgj.trans (by repeat (with_reducible first | assumption | exact grA | apply grB | apply grC | apply grD | refine grE ?_ (by omega) _ | refine grF ?_ (by omega) _ _))⟩
set_option maxRecDepth 100000 in
set_option maxHeartbeats 8000000 in
theorem order_any {w : World} {v u : Value} {own down : List Cu} {So Sd : Nat → Prop} (ho : CusAt w So v own) (hol : own.length ≤ 4194304) (hd : CusAt w Sd u down) (hdl : down.length ≤ 4194304) (hSo : ∀ g, So g → g < w.heap.size) (hSd : ∀ g, Sd g → g < w.heap.size) (hK : KindsAt w) :
    Calls Tryd.prog 7 #[v, u] w (Gives w (.bool true)) := by
  obtain ⟨a0, c0', rfl, hcap, hcap2⟩ := SlAt.len ho
  have HW := Lib.hid (fun (W : World) (hg : w.grows W) => awake_any (hK.grows hg))
  have HDW := Lib.hid hd
  have HSS := Lib.hid (And.intro hSo hSd)
  clear hd hSo hSd hK
  by_cases hk : 30 < own.length
  · have m1 : (30 : Int) < (own.length : Int) := by omega
    have m2 : (30 : Int) ≤ (c0' : Int) := by omega
    have m3 : 30 ≤ c0' := by omega
    obtain ⟨o, ho2⟩ : ∃ o, own.take 30 = o := ⟨_, rfl⟩
    have hlo : o.length = 30 := by rw [← ho2]; simp; omega
    have HOW0 := Lib.hid (show CusAt w So (.slice a0 30 c0') o by rw [← ho2]; exact SlAt.take ho (by omega))
    have HLO := Lib.hid hlo
    clear ho2 ho hcap hcap2 hk
    clear hlo
    go_enter Tryd.func7, Tryd.ntmps7
    go_upto_region 3 with fail
    generalize hsv : Value.slice a0 30 c0' = sv
    obtain ⟨N, rfl, hN⟩ : ∃ N, sv = Value.slice a0 N c0' ∧ N = 30 := ⟨30, hsv.symm, rfl⟩
    have HOW : Hid (CusAt w So (.slice a0 N c0') o) := by rw [hN]; exact HOW0
    have hl30 : N ≤ 30 := by omega
    rw [← hN] at HLO
    clear HOW0 hsv hN m1 m2 m3
    have hlo := HLO.out
    have lw : IntKind.i64.wrap ((N : Int) - 1) = (N : Int) - 1 := by rw [IntKind.wrap_i64]; omega
    go_wp2_with fail
    go_loopg [5, 6] N (fun gn v5 v6 wj => ∃ (q : Nat) (a : Option Addr) (cc : Nat), Hid (gn = q ∧ q ≤ N) ∧ v6 = .int .i64 ((q : Int) - 1) ∧ v5 = .slice a (N - q) cc ∧ w.grows wj ∧ Hid (OwnAt wj w.heap.size 35 2 (CuR wj So) (.slice a (N - q) cc) (o.drop q).reverse ∧ ∀ j k x y, q ≤ j → k < j → o[j]? = some x → o[k]? = some y → y.n ≠ x.n))
    case atStart =>
      refine ⟨N, none, 0, Lib.hid ⟨rfl, Nat.le_refl _⟩, by first | rfl | (simp; done) | go_num, by simp, (by repeat (with_reducible first | assumption | exact grA | apply grB | apply grC | apply grD | refine grE ?_ (by omega) _ | refine grF ?_ (by omega) _ _)), Lib.hid ⟨?_, fun j k x y h1 h2 h3 => by have := (List.getElem?_eq_some_iff.1 h3).1; have := HLO.out; omega⟩⟩
      rw [show o.drop N = [] from by rw [← HLO.out]; exact List.drop_length]
      exact ⟨[], rfl, fun i x cs h => by simp at h, by simpa using World.ownsRow_nil _ _ _ _⟩
    case round =>
      obtain ⟨q, a1, c1, HQ, rfl, rfl, hgj, HO⟩ := hrel
      obtain ⟨jq, j2⟩ := HQ.out
      cases q with
      | zero =>
        have i0 : ¬ (0 : Int) ≤ (((0 : Nat) : Int) - 1) := by omega
        have hdist : DistC o := by
          unfold DistC
          rw [List.pairwise_iff_getElem]
          intro i j hi hj hij
          exact HO.out.2 j i _ _ (Nat.zero_le _) hij (List.getElem?_eq_getElem hj) (List.getElem?_eq_getElem hi)
        have hO := HO.out.1
        have hbk : CusAt wr (fun g => g < wr.heap.size) (.slice a1 (N - 0) c1) (o.drop 0).reverse := by
          have hx := OwnAt.slAt (S := fun g => g < wr.heap.size) hO (by omega) (fun g hg => by
            obtain ⟨css, p1, p2, p3⟩ := hO
            exact (p3.lt g hg).2)
          exact SlAt.keep hx (fun g hg hl => ⟨rfl, hl⟩) fun _ _ _ hx => hx.keep fun g hg hl => ⟨rfl, hl⟩
        simp only [List.drop_zero, Nat.sub_zero] at hbk ⊢
        have hrev : o.reverse.length = N := by rw [List.length_reverse]; exact HLO.out
        have HR1 := Lib.hid (fun (W : World) (hg : wr.grows W) => resolve_any (w := W) (CusAt.grows HOW.out (hgj.trans hg)) (by have := HLO.out; omega) (CusAt.grows HDW.out (hgj.trans hg)) hdl (fun g h => Nat.lt_of_lt_of_le (HSS.out.1 g h) (hgj.trans hg).below.size) (fun g h => Nat.lt_of_lt_of_le (HSS.out.2 g h) (hgj.trans hg).below.size))
        have HR2 := Lib.hid (fun (W : World) (hg : wr.grows W) => resolve_any (w := W) (CusAt.grows hbk hg) (by omega) (CusAt.grows HDW.out (hgj.trans hg)) hdl (fun g h => Nat.lt_of_lt_of_le h hg.below.size) (fun g h => Nat.lt_of_lt_of_le (HSS.out.2 g h) (hgj.trans hg).below.size))
        rw [findCu_rev hdist] at HR2
        clear hbk hO hdist HO hrev
        go_wp2_with (first | (go_at_call 23; (with_reducible refine (HSM.out _ (by repeat (with_reducible first | assumption | exact grA | apply grB | apply grC | apply grD | refine grE ?_ (by omega) _ | refine grF ?_ (by omega) _ _))).mono ?_); rintro e w1 ⟨rfl, x1, rfl⟩) | (go_at_call 11; (with_reducible refine (HW.out _ (hgw2.trans (by repeat (with_reducible first | assumption | exact grA | apply grB | apply grC | apply grD | refine grE ?_ (by omega) _ | refine grF ?_ (by omega) _ _)))).mono ?_); rintro e w1 ⟨rfl, x1, rfl⟩) | (go_at_call 21; go_loud ((with_reducible refine (HR2.out _ (hgr1.trans (by repeat (with_reducible first | assumption | exact grA | apply grB | apply grC | apply grD | refine grE ?_ (by omega) _ | refine grF ?_ (by omega) _ _)))).mono ?_); rintro r w2 ⟨v2, r2, rfl, hg2, hi2, -, hc2⟩; (have hg12 : w1.grows w2 := World.grows.trans (by repeat (with_reducible first | assumption | exact grA | apply grB | apply grC | apply grD | refine grE ?_ (by omega) _ | refine grF ?_ (by omega) _ _)) hg2); (obtain rfl := hi1.uniq hi2); (obtain ⟨a2, c2, rfl, -, -⟩ := hc2.len); (have HSM := Lib.hid (fun (W : World) (hg : w2.grows W) => fcusame_any (CusAt.grows hc1 (hg12.trans hg)) (CusAt.grows hc2 hg))); (have hgw2 : w.grows w2 := hgj.trans (hgr1.trans hg12)))) | (go_at_call 21; go_loud ((with_reducible refine (HR1.out _ (by repeat (with_reducible first | assumption | exact grA | apply grB | apply grC | apply grD | refine grE ?_ (by omega) _ | refine grF ?_ (by omega) _ _))).mono ?_); rintro r w1 ⟨v1, r1, rfl, hg1, hi1, -, hc1⟩; (have hgr1 : wr.grows w1 := World.grows.trans (by repeat (with_reducible first | assumption | exact grA | apply grB | apply grC | apply grD | refine grE ?_ (by omega) _ | refine grF ?_ (by omega) _ _)) hg1); (obtain ⟨a3, c3, rfl, -, -⟩ := hc1.len))))
        go_ret
        exact ⟨rfl, hgw2.trans (by repeat (with_reducible first | assumption | exact grA | apply grB | apply grC | apply grD | refine grE ?_ (by omega) _ | refine grF ?_ (by omega) _ _))⟩
      | succ q =>
        have e0 : (((q + 1 : Nat) : Int) - 1) = (q : Int) := by omega
        rw [e0]
        have i0 : (0 : Int) ≤ (q : Int) := by omega
        have i1 : (q : Int) < (N : Int) := by omega
        have iw : IntKind.i64.wrap ((q : Int) - 1) = (q : Int) - 1 := by rw [IntKind.wrap_i64]; omega
        have hqo : q < o.length := by have := HLO.out; omega
        have hgt : o[q]? = some o[q] := List.getElem?_eq_getElem hqo
        obtain ⟨g, off, cs, rfl, -, -, k1, hv⟩ := HOW.out.elt hgt
        generalize o[q] = x at *
        obtain ⟨nm, ts⟩ := x
        obtain ⟨hnm, t, rfl, hts, htl⟩ := hv
        obtain ⟨aT, cT, rfl, -, -⟩ := hts.len
        have HGT := Lib.hid hgt
        have HTS := Lib.hid (And.intro hts (And.intro htl hnm))
        have HK1 := Lib.hid k1
        clear e0 hgt hts htl k1
        go_wp2_with fail
        go_loopg [21] q (fun gn v21 wj => ∃ kk : Nat, Hid (gn + kk = q ∧ kk ≤ q) ∧ v21 = .int .i64 kk ∧ wr.grows wj ∧ Hid (∀ k y, k < kk → o[k]? = some y → y.n ≠ nm))
        case atStart => exact ⟨0, Lib.hid ⟨by simp, Nat.zero_le _⟩, by go_num, (by repeat (with_reducible first | assumption | exact grA | apply grB | apply grC | apply grD | refine grE ?_ (by omega) _ | refine grF ?_ (by omega) _ _)), Lib.hid fun k y h => by omega⟩
        case round =>
          obtain ⟨kk, HQ2, rfl, hgj2, HN⟩ := hrel
          obtain ⟨p1, p2⟩ := HQ2.out
          have hgw := hgj.trans hgj2
          have k2 := HK1.out.grows hgw
          have z3 := lt_sz k2.lt
          by_cases hlt : kk < q
          · have n1 : (kk : Int) < (q : Int) := by omega
            have n0 : (0 : Int) ≤ (kk : Int) := by omega
            have n2 : (kk : Int) < (N : Int) := by omega
            have nw : IntKind.i64.wrap ((kk : Int) + 1) = (kk : Int) + 1 := by rw [IntKind.wrap_i64]; omega
            have hko : kk < o.length := by have := HLO.out; omega
            have hgt2 : o[kk]? = some o[kk] := List.getElem?_eq_getElem hko
            obtain ⟨g2, off2, cs2, eg, -, -, k12, hv2⟩ := HOW.out.elt hgt2
            injection eg with eg
            injection eg with eg1 eg2
            subst eg1
            subst eg2
            generalize o[kk] = y at *
            obtain ⟨nm2, ts2⟩ := y
            obtain ⟨hnm2, t2, rfl, hts2, htl2⟩ := hv2
            have k22 := k12.grows hgw
            have c0 := k2.cell (j := 0) rfl
            rw [World.cell?_row, Nat.add_zero] at c0
            have c2 := k22.cell (j := 0) rfl
            rw [World.cell?_row, Nat.add_zero] at c2
            have HG2 := Lib.hid hgt2
            clear k2 k12 k22 hts2 htl2 hgt2
            by_cases hnn : nm2 = nm
            · subst hnn
              have hb : (nm2.toList == nm2.toList) = true := by simp
              go_upto_region 10 with fail
              refine wp_region_plus_lit (by kernel_rfl) (by kernel_rfl) ?_
              repeat (go_big_quiet_step (fail))
              (refine wpQuiet_nil ?_; intro _ hw'; obtain ⟨xq, hw''⟩ := hw'; subst hw'')
              go_wp2_with ((go_at_call 11; (with_reducible refine (HW.out _ (hgw.trans (by repeat (with_reducible first | assumption | exact grA | apply grB | apply grC | apply grD | refine grE ?_ (by omega) _ | refine grF ?_ (by omega) _ _)))).mono ?_); rintro e w1 ⟨rfl, x1, rfl⟩))
              go_ret
              exact ⟨rfl, hgw.trans (by repeat (with_reducible first | assumption | exact grA | apply grB | apply grC | apply grD | refine grE ?_ (by omega) _ | refine grF ?_ (by omega) _ _))⟩
            · have hb : (nm2.toList == nm.toList) = false := by
                rw [beq_eq_false_iff_ne]; exact fun e => hnn (ba_toList_inj e)
              have hb2 : ¬ nm2.toList = nm.toList := fun e => hnn (ba_toList_inj e)
              have HNN := Lib.hid hnn
              clear hnn
              go_upto_region 10 with fail
              refine wp_region_plus_lit (by kernel_rfl) (by kernel_rfl) ?_
              repeat (go_big_quiet_step (fail))
              (refine wpQuiet_nil ?_; intro _ hw'; obtain ⟨xq, hw''⟩ := hw'; subst hw'')
              go_wp2_with fail
              go_roundg (q - (kk + 1))
              case measure => omega
              case rel => exact ⟨kk + 1, Lib.hid ⟨by omega, by omega⟩, by go_num, hgj2.trans (by repeat (with_reducible first | assumption | exact grA | apply grB | apply grC | apply grD | refine grE ?_ (by omega) _ | refine grF ?_ (by omega) _ _)), Lib.hid fun k y h1 h2 => by
                by_cases e : k = kk
                · subst e; rw [HG2.out] at h2; injection h2 with h2; rw [← h2]; exact HNN.out
                · exact HN.out k y (by omega) h2⟩
          · have n1 : ¬ (kk : Int) < (q : Int) := by omega
            obtain rfl : kk = q := by omega
            obtain ⟨u1, u2⟩ := k2
            replace u1 : segOk (off + kk * 2) 2 (wr.row g) = true := u1
            replace u2 : segV (off + kk * 2) 2 (wr.row g) = .agg #[.string nm, .slice aT ts.length cT] := u2
            obtain ⟨css, q1, q2, q3⟩ := HO.out.1
            have hlen : (o.drop (kk + 1)).reverse.length = N - (kk + 1) := by rw [List.length_reverse, List.length_drop, HLO.out]
            rw [hlen] at q3
            have hg2s := hgj2.below.size
            have hgjs := hgj.below.size
            have HQ3 := Lib.hid (World.ownsRow.grows q3 hgj2)
            have HC12 := Lib.hid (And.intro q1 q2)
            have HO2 := Lib.hid HO.out.2
            have hle64 : N - (kk + 1) ≤ 64 := by omega
            clear q1 q2 q3 HO
            go_upto_region 6 with ((at_builtin; refine wpList_app w (w.heap.size) rfl (.tmp 37) (.tmp 42) _ rfl 35 (.agg #[.string ByteArray.empty, .slice none 0 0]) 2 40 Tryd.underlying23 (by kernel_rfl) rfl (by omega) (by omega) _ (N - (kk + 1)) _ rfl ((World.ownsRow.grows HQ3.out (by repeat (with_reducible first | assumption | exact grA | apply grB | apply grC | apply grD | refine grE ?_ (by omega) _ | refine grF ?_ (by omega) _ _)))) _ 1 _ [.string nm, .slice aT ts.length cT] rfl rfl (cells_of_row (e := 35) (fr := (0, 0)) (by simp [go_sem])) (by simp [Value.oneCell']) (by omega) (by repeat (with_reducible first | assumption | exact grA | apply grB | apply grC | apply grD | refine grE ?_ (by omega) _ | refine grF ?_ (by omega) _ _)) (by omega) (by first | omega | (simp <;> omega)) ?_; intro v' w' hg' HO' HR' HG' HA'); (obtain ⟨aE, cE, rfl⟩ := own_slice HO'.out))
            have hsub : N - (kk + 1) + 1 = N - kk := by omega
            have hdrp : (o.drop kk).reverse = (o.drop (kk + 1)).reverse ++ [⟨nm, ts⟩] := by
              have hkl : kk < o.length := by have := HLO.out; omega
              rw [List.drop_eq_getElem_cons hkl, List.reverse_cons]
              have := HGT.out
              rw [List.getElem?_eq_getElem hkl] at this
              injection this with this
              rw [this]
            have HNEW : Hid (OwnAt w' w.heap.size 35 2 (CuR w' So) (.slice aE (N - kk) cE) (o.drop kk).reverse) := by
              rw [hdrp]
              refine Lib.hid (OwnAt.append (R := CuR w So) (css' := [[.string nm, .slice aT ts.length cT]]) (l' := [⟨nm, ts⟩]) HC12.out.1 (fun j x cs h1 h2 => ?_) rfl (fun j x cs h1 h2 => ?_) (fun x cs hx => hx.keep fun g hg hl => ⟨hg'.row_eq hl, hg⟩) ?_)
              · obtain ⟨p1, p2⟩ := HC12.out.2 j x cs h1 h2
                refine ⟨p1, p2.keep fun g hg hl => ⟨(hgj.row_eq (HSS.out.1 g hg)).symm, hg⟩⟩
              · cases j with
                | succ j => simp at h1
                | zero =>
                  simp at h1 h2
                  subst h1; subst h2
                  exact ⟨rfl, HTS.out.2.2, _, rfl, HTS.out.1, HTS.out.2.1⟩
              · rw [hlen]
                have := HO'.out
                rw [← hsub]
                simpa using this
            have hgE := hg'
            clear HO' HG' HA' HR' hg' u1 u2
            rw [hsub]
            go_wp2_with fail
            go_roundg kk
            case measure => omega
            case rel =>
              refine ⟨kk, aE, cE, Lib.hid ⟨rfl, by omega⟩, by go_num, rfl, hgE.trans (by repeat (with_reducible first | assumption | exact grA | apply grB | apply grC | apply grD | refine grE ?_ (by omega) _ | refine grF ?_ (by omega) _ _)), Lib.hid ⟨?_, fun j k x y h1 h2 h3 h4 => ?_⟩⟩
              · obtain ⟨css2, p1, p2, p3⟩ := HNEW.out
                exact ⟨css2, p1, fun j x cs h1 h2 => ⟨(p2 j x cs h1 h2).1, (p2 j x cs h1 h2).2.keep fun g hg hl => ⟨World.grows.row_eq (by repeat (with_reducible first | assumption | exact grA | apply grB | apply grC | apply grD | refine grE ?_ (by omega) _ | refine grF ?_ (by omega) _ _)) hl, hg⟩⟩, World.ownsRow.grows p3 (by repeat (with_reducible first | assumption | exact grA | apply grB | apply grC | apply grD | refine grE ?_ (by omega) _ | refine grF ?_ (by omega) _ _))⟩
              · by_cases e : j = kk
                · subst e
                  rw [HGT.out] at h3; injection h3 with h3; subst h3
                  exact HN.out k y h2 h4
                · exact HO2.out j k x y (by omega) h2 h3 h4
  · have m1 : ¬ (30 : Int) < (own.length : Int) := by omega
    obtain ⟨N, hN⟩ : ∃ N, own.length = N := ⟨_, rfl⟩
    have hl30 : N ≤ 30 := by omega
    rw [hN] at m1 ho ⊢
    have HOW := Lib.hid ho
    have HLO := Lib.hid hN
    clear ho hcap hcap2 hk hN hol
    go_enter Tryd.func7, Tryd.ntmps7
    go_upto_region 3 with fail
    have hlo := HLO.out
    have lw : IntKind.i64.wrap ((N : Int) - 1) = (N : Int) - 1 := by rw [IntKind.wrap_i64]; omega
    go_wp2_with fail
    go_loopg [5, 6] N (fun gn v5 v6 wj => ∃ (q : Nat) (a : Option Addr) (cc : Nat), Hid (gn = q ∧ q ≤ N) ∧ v6 = .int .i64 ((q : Int) - 1) ∧ v5 = .slice a (N - q) cc ∧ w.grows wj ∧ Hid (OwnAt wj w.heap.size 35 2 (CuR wj So) (.slice a (N - q) cc) (own.drop q).reverse ∧ ∀ j k x y, q ≤ j → k < j → own[j]? = some x → own[k]? = some y → y.n ≠ x.n))
    case atStart =>
      refine ⟨N, none, 0, Lib.hid ⟨rfl, Nat.le_refl _⟩, by first | rfl | (simp; done) | go_num, by simp, (by repeat (with_reducible first | assumption | exact grA | apply grB | apply grC | apply grD | refine grE ?_ (by omega) _ | refine grF ?_ (by omega) _ _)), Lib.hid ⟨?_, fun j k x y h1 h2 h3 => by have := (List.getElem?_eq_some_iff.1 h3).1; have := HLO.out; omega⟩⟩
      rw [show own.drop N = [] from by rw [← HLO.out]; exact List.drop_length]
      exact ⟨[], rfl, fun i x cs h => by simp at h, by simpa using World.ownsRow_nil _ _ _ _⟩
    case round =>
      obtain ⟨q, a1, c1, HQ, rfl, rfl, hgj, HO⟩ := hrel
      obtain ⟨jq, j2⟩ := HQ.out
      cases q with
      | zero =>
        have i0 : ¬ (0 : Int) ≤ (((0 : Nat) : Int) - 1) := by omega
        have hdist : DistC own := by
          unfold DistC
          rw [List.pairwise_iff_getElem]
          intro i j hi hj hij
          exact HO.out.2 j i _ _ (Nat.zero_le _) hij (List.getElem?_eq_getElem hj) (List.getElem?_eq_getElem hi)
        have hO := HO.out.1
        have hbk : CusAt wr (fun g => g < wr.heap.size) (.slice a1 (N - 0) c1) (own.drop 0).reverse := by
          have hx := OwnAt.slAt (S := fun g => g < wr.heap.size) hO (by omega) (fun g hg => by
            obtain ⟨css, p1, p2, p3⟩ := hO
            exact (p3.lt g hg).2)
          exact SlAt.keep hx (fun g hg hl => ⟨rfl, hl⟩) fun _ _ _ hx => hx.keep fun g hg hl => ⟨rfl, hl⟩
        simp only [List.drop_zero, Nat.sub_zero] at hbk ⊢
        have hrev : own.reverse.length = N := by rw [List.length_reverse]; exact HLO.out
        have HR1 := Lib.hid (fun (W : World) (hg : wr.grows W) => resolve_any (w := W) (CusAt.grows HOW.out (hgj.trans hg)) (by have := HLO.out; omega) (CusAt.grows HDW.out (hgj.trans hg)) hdl (fun g h => Nat.lt_of_lt_of_le (HSS.out.1 g h) (hgj.trans hg).below.size) (fun g h => Nat.lt_of_lt_of_le (HSS.out.2 g h) (hgj.trans hg).below.size))
        have HR2 := Lib.hid (fun (W : World) (hg : wr.grows W) => resolve_any (w := W) (CusAt.grows hbk hg) (by omega) (CusAt.grows HDW.out (hgj.trans hg)) hdl (fun g h => Nat.lt_of_lt_of_le h hg.below.size) (fun g h => Nat.lt_of_lt_of_le (HSS.out.2 g h) (hgj.trans hg).below.size))
        rw [findCu_rev hdist] at HR2
        clear hbk hO hdist HO hrev
        go_wp2_with (first | (go_at_call 23; (with_reducible refine (HSM.out _ (by repeat (with_reducible first | assumption | exact grA | apply grB | apply grC | apply grD | refine grE ?_ (by omega) _ | refine grF ?_ (by omega) _ _))).mono ?_); rintro e w1 ⟨rfl, x1, rfl⟩) | (go_at_call 11; (with_reducible refine (HW.out _ (hgw2.trans (by repeat (with_reducible first | assumption | exact grA | apply grB | apply grC | apply grD | refine grE ?_ (by omega) _ | refine grF ?_ (by omega) _ _)))).mono ?_); rintro e w1 ⟨rfl, x1, rfl⟩) | (go_at_call 21; go_loud ((with_reducible refine (HR2.out _ (hgr1.trans (by repeat (with_reducible first | assumption | exact grA | apply grB | apply grC | apply grD | refine grE ?_ (by omega) _ | refine grF ?_ (by omega) _ _)))).mono ?_); rintro r w2 ⟨v2, r2, rfl, hg2, hi2, -, hc2⟩; (have hg12 : w1.grows w2 := World.grows.trans (by repeat (with_reducible first | assumption | exact grA | apply grB | apply grC | apply grD | refine grE ?_ (by omega) _ | refine grF ?_ (by omega) _ _)) hg2); (obtain rfl := hi1.uniq hi2); (obtain ⟨a2, c2, rfl, -, -⟩ := hc2.len); (have HSM := Lib.hid (fun (W : World) (hg : w2.grows W) => fcusame_any (CusAt.grows hc1 (hg12.trans hg)) (CusAt.grows hc2 hg))); (have hgw2 : w.grows w2 := hgj.trans (hgr1.trans hg12)))) | (go_at_call 21; go_loud ((with_reducible refine (HR1.out _ (by repeat (with_reducible first | assumption | exact grA | apply grB | apply grC | apply grD | refine grE ?_ (by omega) _ | refine grF ?_ (by omega) _ _))).mono ?_); rintro r w1 ⟨v1, r1, rfl, hg1, hi1, -, hc1⟩; (have hgr1 : wr.grows w1 := World.grows.trans (by repeat (with_reducible first | assumption | exact grA | apply grB | apply grC | apply grD | refine grE ?_ (by omega) _ | refine grF ?_ (by omega) _ _)) hg1); (obtain ⟨a3, c3, rfl, -, -⟩ := hc1.len))))
        go_ret
        exact ⟨rfl, hgw2.trans (by repeat (with_reducible first | assumption | exact grA | apply grB | apply grC | apply grD | refine grE ?_ (by omega) _ | refine grF ?_ (by omega) _ _))⟩
      | succ q =>
        have e0 : (((q + 1 : Nat) : Int) - 1) = (q : Int) := by omega
        rw [e0]
        have i0 : (0 : Int) ≤ (q : Int) := by omega
        have i1 : (q : Int) < (N : Int) := by omega
        have iw : IntKind.i64.wrap ((q : Int) - 1) = (q : Int) - 1 := by rw [IntKind.wrap_i64]; omega
        have hqo : q < own.length := by have := HLO.out; omega
        have hgt : own[q]? = some own[q] := List.getElem?_eq_getElem hqo
        obtain ⟨g, off, cs, rfl, -, -, k1, hv⟩ := HOW.out.elt hgt
        generalize own[q] = x at *
        obtain ⟨nm, ts⟩ := x
        obtain ⟨hnm, t, rfl, hts, htl⟩ := hv
        obtain ⟨aT, cT, rfl, -, -⟩ := hts.len
        have HGT := Lib.hid hgt
        have HTS := Lib.hid (And.intro hts (And.intro htl hnm))
        have HK1 := Lib.hid k1
        clear e0 hgt hts htl k1
        go_wp2_with fail
        go_loopg [21] q (fun gn v21 wj => ∃ kk : Nat, Hid (gn + kk = q ∧ kk ≤ q) ∧ v21 = .int .i64 kk ∧ wr.grows wj ∧ Hid (∀ k y, k < kk → own[k]? = some y → y.n ≠ nm))
        case atStart => exact ⟨0, Lib.hid ⟨by simp, Nat.zero_le _⟩, by go_num, (by repeat (with_reducible first | assumption | exact grA | apply grB | apply grC | apply grD | refine grE ?_ (by omega) _ | refine grF ?_ (by omega) _ _)), Lib.hid fun k y h => by omega⟩
        case round =>
          obtain ⟨kk, HQ2, rfl, hgj2, HN⟩ := hrel
          obtain ⟨p1, p2⟩ := HQ2.out
          have hgw := hgj.trans hgj2
          have k2 := HK1.out.grows hgw
          have z3 := lt_sz k2.lt
          by_cases hlt : kk < q
          · have n1 : (kk : Int) < (q : Int) := by omega
            have n0 : (0 : Int) ≤ (kk : Int) := by omega
            have n2 : (kk : Int) < (N : Int) := by omega
            have nw : IntKind.i64.wrap ((kk : Int) + 1) = (kk : Int) + 1 := by rw [IntKind.wrap_i64]; omega
            have hko : kk < own.length := by have := HLO.out; omega
            have hgt2 : own[kk]? = some own[kk] := List.getElem?_eq_getElem hko
            obtain ⟨g2, off2, cs2, eg, -, -, k12, hv2⟩ := HOW.out.elt hgt2
            injection eg with eg
            injection eg with eg1 eg2
            subst eg1
            subst eg2
            generalize own[kk] = y at *
            obtain ⟨nm2, ts2⟩ := y
            obtain ⟨hnm2, t2, rfl, hts2, htl2⟩ := hv2
            have k22 := k12.grows hgw
            have c0 := k2.cell (j := 0) rfl
            rw [World.cell?_row, Nat.add_zero] at c0
            have c2 := k22.cell (j := 0) rfl
            rw [World.cell?_row, Nat.add_zero] at c2
            have HG2 := Lib.hid hgt2
            clear k2 k12 k22 hts2 htl2 hgt2
            by_cases hnn : nm2 = nm
            · subst hnn
              have hb : (nm2.toList == nm2.toList) = true := by simp
              go_upto_region 10 with fail
              refine wp_region_plus_lit (by kernel_rfl) (by kernel_rfl) ?_
              repeat (go_big_quiet_step (fail))
              (refine wpQuiet_nil ?_; intro _ hw'; obtain ⟨xq, hw''⟩ := hw'; subst hw'')
              go_wp2_with ((go_at_call 11; (with_reducible refine (HW.out _ (hgw.trans (by repeat (with_reducible first | assumption | exact grA | apply grB | apply grC | apply grD | refine grE ?_ (by omega) _ | refine grF ?_ (by omega) _ _)))).mono ?_); rintro e w1 ⟨rfl, x1, rfl⟩))
              go_ret
              exact ⟨rfl, hgw.trans (by repeat (with_reducible first | assumption | exact grA | apply grB | apply grC | apply grD | refine grE ?_ (by omega) _ | refine grF ?_ (by omega) _ _))⟩
            · have hb : (nm2.toList == nm.toList) = false := by
                rw [beq_eq_false_iff_ne]; exact fun e => hnn (ba_toList_inj e)
              have hb2 : ¬ nm2.toList = nm.toList := fun e => hnn (ba_toList_inj e)
              have HNN := Lib.hid hnn
              clear hnn
              go_upto_region 10 with fail
              refine wp_region_plus_lit (by kernel_rfl) (by kernel_rfl) ?_
              repeat (go_big_quiet_step (fail))
              (refine wpQuiet_nil ?_; intro _ hw'; obtain ⟨xq, hw''⟩ := hw'; subst hw'')
              go_wp2_with fail
              go_roundg (q - (kk + 1))
              case measure => omega
              case rel => exact ⟨kk + 1, Lib.hid ⟨by omega, by omega⟩, by go_num, hgj2.trans (by repeat (with_reducible first | assumption | exact grA | apply grB | apply grC | apply grD | refine grE ?_ (by omega) _ | refine grF ?_ (by omega) _ _)), Lib.hid fun k y h1 h2 => by
                by_cases e : k = kk
                · subst e; rw [HG2.out] at h2; injection h2 with h2; rw [← h2]; exact HNN.out
                · exact HN.out k y (by omega) h2⟩
          · have n1 : ¬ (kk : Int) < (q : Int) := by omega
            obtain rfl : kk = q := by omega
            obtain ⟨u1, u2⟩ := k2
            replace u1 : segOk (off + kk * 2) 2 (wr.row g) = true := u1
            replace u2 : segV (off + kk * 2) 2 (wr.row g) = .agg #[.string nm, .slice aT ts.length cT] := u2
            obtain ⟨css, q1, q2, q3⟩ := HO.out.1
            have hlen : (own.drop (kk + 1)).reverse.length = N - (kk + 1) := by rw [List.length_reverse, List.length_drop, HLO.out]
            rw [hlen] at q3
            have hg2s := hgj2.below.size
            have hgjs := hgj.below.size
            have HQ3 := Lib.hid (World.ownsRow.grows q3 hgj2)
            have HC12 := Lib.hid (And.intro q1 q2)
            have HO2 := Lib.hid HO.out.2
            have hle64 : N - (kk + 1) ≤ 64 := by omega
            clear q1 q2 q3 HO
            go_upto_region 6 with ((at_builtin; refine wpList_app w (w.heap.size) rfl (.tmp 37) (.tmp 42) _ rfl 35 (.agg #[.string ByteArray.empty, .slice none 0 0]) 2 40 Tryd.underlying23 (by kernel_rfl) rfl (by omega) (by omega) _ (N - (kk + 1)) _ rfl ((World.ownsRow.grows HQ3.out (by repeat (with_reducible first | assumption | exact grA | apply grB | apply grC | apply grD | refine grE ?_ (by omega) _ | refine grF ?_ (by omega) _ _)))) _ 1 _ [.string nm, .slice aT ts.length cT] rfl rfl (cells_of_row (e := 35) (fr := (0, 0)) (by simp [go_sem])) (by simp [Value.oneCell']) (by omega) (by repeat (with_reducible first | assumption | exact grA | apply grB | apply grC | apply grD | refine grE ?_ (by omega) _ | refine grF ?_ (by omega) _ _)) (by omega) (by first | omega | (simp <;> omega)) ?_; intro v' w' hg' HO' HR' HG' HA'); (obtain ⟨aE, cE, rfl⟩ := own_slice HO'.out))
            have hsub : N - (kk + 1) + 1 = N - kk := by omega
            have hdrp : (own.drop kk).reverse = (own.drop (kk + 1)).reverse ++ [⟨nm, ts⟩] := by
              have hkl : kk < own.length := by have := HLO.out; omega
              rw [List.drop_eq_getElem_cons hkl, List.reverse_cons]
              have := HGT.out
              rw [List.getElem?_eq_getElem hkl] at this
              injection this with this
              rw [this]
            have HNEW : Hid (OwnAt w' w.heap.size 35 2 (CuR w' So) (.slice aE (N - kk) cE) (own.drop kk).reverse) := by
              rw [hdrp]
              refine Lib.hid (OwnAt.append (R := CuR w So) (css' := [[.string nm, .slice aT ts.length cT]]) (l' := [⟨nm, ts⟩]) HC12.out.1 (fun j x cs h1 h2 => ?_) rfl (fun j x cs h1 h2 => ?_) (fun x cs hx => hx.keep fun g hg hl => ⟨hg'.row_eq hl, hg⟩) ?_)
              · obtain ⟨p1, p2⟩ := HC12.out.2 j x cs h1 h2
                refine ⟨p1, p2.keep fun g hg hl => ⟨(hgj.row_eq (HSS.out.1 g hg)).symm, hg⟩⟩
              · cases j with
                | succ j => simp at h1
                | zero =>
                  simp at h1 h2
                  subst h1; subst h2
                  exact ⟨rfl, HTS.out.2.2, _, rfl, HTS.out.1, HTS.out.2.1⟩
              · rw [hlen]
                have := HO'.out
                rw [← hsub]
                simpa using this
            have hgE := hg'
            clear HO' HG' HA' HR' hg' u1 u2
            rw [hsub]
            go_wp2_with fail
            go_roundg kk
            case measure => omega
            case rel =>
              refine ⟨kk, aE, cE, Lib.hid ⟨rfl, by omega⟩, by go_num, rfl, hgE.trans (by repeat (with_reducible first | assumption | exact grA | apply grB | apply grC | apply grD | refine grE ?_ (by omega) _ | refine grF ?_ (by omega) _ _)), Lib.hid ⟨?_, fun j k x y h1 h2 h3 h4 => ?_⟩⟩
              · obtain ⟨css2, p1, p2, p3⟩ := HNEW.out
                exact ⟨css2, p1, fun j x cs h1 h2 => ⟨(p2 j x cs h1 h2).1, (p2 j x cs h1 h2).2.keep fun g hg hl => ⟨World.grows.row_eq (by repeat (with_reducible first | assumption | exact grA | apply grB | apply grC | apply grD | refine grE ?_ (by omega) _ | refine grF ?_ (by omega) _ _)) hl, hg⟩⟩, World.ownsRow.grows p3 (by repeat (with_reducible first | assumption | exact grA | apply grB | apply grC | apply grD | refine grE ?_ (by omega) _ | refine grF ?_ (by omega) _ _))⟩
              · by_cases e : j = kk
                · subst e
                  rw [HGT.out] at h3; injection h3 with h3; subst h3
                  exact HN.out k y h2 h4
                · exact HO2.out j k x y (by omega) h2 h3 h4
end Go.Proofs.YthcaphoejplecaaDoor

/- WALK over the law VarsDown. No condition but bounds and the table of kinds. -/
namespace Go
open Go.RowKit
theorem Sol.none {ab F : Known} (h : Sol (fun _ => none) ab F) : F = ab := by
  funext n; exact h.out n rfl
theorem findCu_nil : findCu [] = fun _ => none := by
  funext n; unfold findCu; split <;> rfl
/-- a list that tells a map is found as that map -/
theorem Tells.find {F : Known} {r : List Cu} (h : Tells F r) (n : ByteArray) : findCu r n = if customB n = true then F n else none := by
  unfold findCu
  by_cases hc : customB n = true
  · rw [if_pos hc, if_pos hc]
    cases hf : r.reverse.find? (fun c => decide (c.n = n)) with
    | none =>
      cases hF : F n with
      | none => rfl
      | some ts =>
        have hm := (h.mem ⟨n, ts⟩).2 hF
        have := List.find?_eq_none.1 hf ⟨n, ts⟩ (List.mem_reverse.2 hm)
        simp at this
    | some c =>
      have h1 := List.find?_some hf
      simp only [decide_eq_true_iff] at h1
      have h2 := (h.mem c).1 (List.mem_reverse.1 (List.mem_of_find?_eq_some hf))
      rw [h1] at h2
      rw [h2]; rfl
  · rw [if_neg hc, if_neg hc]
theorem findCu_cust {l : List Cu} {n : ByteArray} (h : findCu l n ≠ none) : customB n = true := by
  unfold findCu at h
  split at h
  · assumption
  · exact absurd rfl h
theorem findCu_has {l : List Cu} {c : Cu} (h : c ∈ l) (hc : customB c.n = true) : findCu l c.n ≠ none := by
  unfold findCu
  rw [if_pos hc]
  cases hf : l.reverse.find? (fun d => decide (d.n = c.n)) with
  | none =>
    have := List.find?_eq_none.1 hf c (List.mem_reverse.2 h)
    simp at this
  | some d => simp
theorem Tells.len {l r : List Cu} (h : Tells (findCu l) r) : r.length ≤ l.length := by
  have h1 := nodup_le (l := r.map Cu.n) (bs := l.map Cu.n) (by
    refine List.pairwise_map.2 (h.up.imp fun {a b} hab e => ?_)
    rw [e] at hab
    exact u8_irrefl _ hab) fun x hx => by
    obtain ⟨c, hc, rfl⟩ := List.mem_map.1 hx
    exact findCu_names (by rw [(h.mem c).1 hc]; simp)
  simpa using h1
theorem rise_next {r : List Cu} (h : RiseC r) {i : Nat} {a b : Cu} (ha : r[i]? = some a) (hb : r[i + 1]? = some b) : Op.bytesLess a.n.toList b.n.toList = true := by
  have h1 := (List.getElem?_eq_some_iff.1 ha).1
  have h2 := (List.getElem?_eq_some_iff.1 hb).1
  have h3 := List.pairwise_iff_getElem.1 h i (i + 1) h1 h2 (Nat.lt_succ_self i)
  rw [(List.getElem?_eq_some_iff.1 ha).2, (List.getElem?_eq_some_iff.1 hb).2] at h3
  rw [Proofs.bytesLess_eq, ByteArray.toList_eq, ByteArray.toList_eq]
  exact decide_eq_true h3
end Go
namespace Go.Proofs.YthcaphoejplecaaDoor
open Go.RowKit Go.Maps
set_option maxRecDepth 100000 in
set_option maxHeartbeats 8000000 in
theorem down_any {w : World} {v u : Value} {own down : List Cu} {So Sd : Nat → Prop} (ho : CusAt w So v own) (hol : own.length ≤ 4194304) (hd : CusAt w Sd u down) (hdl : down.length ≤ 4194304) (hSo : ∀ g, So g → g < w.heap.size) (hSd : ∀ g, Sd g → g < w.heap.size) (hK : KindsAt w) :
    Calls Tryd.prog 6 #[v, u] w (Gives w (.bool true)) := by
  obtain ⟨a0, c0', rfl, hcap, hcap2⟩ := SlAt.len ho
  obtain ⟨aD, cD, rfl, -, -⟩ := SlAt.len hd
  have HW := Lib.hid (fun (W : World) (hg : w.grows W) => awake_any (hK.grows hg))
  have HDW := Lib.hid hd
  have HSS := Lib.hid (And.intro hSo hSd)
  have HR1 := Lib.hid (fun (W : World) (hg : w.grows W) => resolve_any (w := W) (v := .slice none 0 0) (own := []) (So := fun _ => False) (SlAt_nil _ _ _ _) (by simp) (CusAt.grows hd hg) hdl (fun g h => h.elim) (fun g h => Nat.lt_of_lt_of_le (hSd g h) hg.below.size))
  clear hd hSo hSd hK
  by_cases hk : 40 < own.length
  · have m1 : (40 : Int) < (own.length : Int) := by omega
    have m2 : (40 : Int) ≤ (c0' : Int) := by omega
    have m3 : 40 ≤ c0' := by omega
    obtain ⟨o, ho2⟩ : ∃ o, own.take 40 = o := ⟨_, rfl⟩
    have hlo : o.length = 40 := by rw [← ho2]; simp; omega
    have HOW0 := Lib.hid (show CusAt w So (.slice a0 40 c0') o by rw [← ho2]; exact SlAt.take ho (by omega))
    have HLO := Lib.hid hlo
    clear ho2 ho hcap hcap2 hk hlo
    go_enter Tryd.func6, Tryd.ntmps6
    go_upto_region 3 with fail
    generalize hsv : Value.slice a0 40 c0' = sv
    obtain ⟨N, rfl, hN⟩ : ∃ N, sv = Value.slice a0 N c0' ∧ N = 40 := ⟨40, hsv.symm, rfl⟩
    have HOW : Hid (CusAt w So (.slice a0 N c0') o) := by rw [hN]; exact HOW0
    have hl30 : N ≤ 40 := by omega
    rw [← hN] at HLO
    clear HOW0 hsv hN m1 m2 m3
    go_wp2_with (go_at_call 21; go_loud ((with_reducible refine (HR1.out _ (by repeat (with_reducible first | assumption | exact grA | apply grB | apply grC | apply grD | refine grE ?_ (by omega) _ | refine grF ?_ (by omega) _ _))).mono ?_); rintro r w1 ⟨v1, r1, rfl, hg1, hi1, hl1, hc1⟩; (have hgw1 : w.grows w1 := World.grows.trans (by repeat (with_reducible first | assumption | exact grA | apply grB | apply grC | apply grD | refine grE ?_ (by omega) _ | refine grF ?_ (by omega) _ _)) hg1); (obtain ⟨aA, cA, rfl, -, -⟩ := hc1.len); (have HC1 := Lib.hid hc1); clear hc1))
    obtain ⟨F1, hs1, ht1⟩ := hi1
    rw [findCu_nil] at hs1
    have hF1 := hs1.none
    subst hF1
    have HT1 := Lib.hid ht1
    have hl1' := ht1.len
    clear hs1 ht1
    go_loopg [30] r1.length (fun gn v30 wj => ∃ i : Nat, Hid (gn + i = r1.length ∧ i ≤ r1.length) ∧ v30 = .int .i64 i ∧ w1.grows wj)
    case atStart => exact ⟨0, Lib.hid ⟨by simp, Nat.zero_le _⟩, by go_num, (by repeat (with_reducible first | assumption | exact grA | apply grB | apply grC | apply grD | refine grE ?_ (by omega) _ | refine grF ?_ (by omega) _ _))⟩
    case round =>
      obtain ⟨i, HQ, rfl, hgj⟩ := hrel
      obtain ⟨j1, j2⟩ := HQ.out
      have hgwj := hgw1.trans hgj
      by_cases hlt : i < r1.length
      · have i1 : (0 : Int) ≤ (i : Int) := by omega
        have i2 : (i : Int) < (r1.length : Int) := by omega
        have iw : IntKind.i64.wrap ((i : Int) + 1) = (i : Int) + 1 := by rw [IntKind.wrap_i64]; omega
        have hgt : r1[i]? = some r1[i] := List.getElem?_eq_getElem hlt
        obtain ⟨g, off, cs, rfl, -, -, k1, hv⟩ := HC1.out.elt hgt
        have hmm := (HT1.out.mem r1[i]).1 (List.getElem_mem hlt)
        generalize r1[i] = x at *
        obtain ⟨nm, ts⟩ := x
        obtain ⟨hnm, t, rfl, hts, htl⟩ := hv
        obtain ⟨aT, cT, rfl, -, -⟩ := hts.len
        have hfind : findCu down nm = some ts := hmm
        have HFD := Lib.hid (fun (W : World) (hg : w.grows W) => ffind_any (w := W) (nm := nm) (CusAt.grows HDW.out hg) hdl)
        rw [hfind] at HFD
        have k2 := k1.grows hgj
        have z3 := lt_sz k2.lt
        obtain ⟨u1, u2⟩ := k2
        replace u1 : segOk (off + i * 2) 2 (wr.row g) = true := u1
        replace u2 : segV (off + i * 2) 2 (wr.row g) = .agg #[.string nm, .slice aT ts.length cT] := u2
        have HGT := Lib.hid hgt
        have HTS := Lib.hid hts
        have HK1 := Lib.hid k1
        clear hgt hmm hts htl k1 hfind
        go_upto_region 7 with fail
        refine abs_rows (w := wr) (G := fun W => Code.wp _ _ _ _ W) (by repeat (with_reducible first | assumption | exact grA | apply grB | apply grC | apply grD | refine grE ?_ (by omega) _ | refine grF ?_ (by omega) _ _)) [(wr.heap.size, .cells #[.string nm, .slice aT ts.length cT] 35)] (by simp [go_sem, *]) ?_
        intro w2 gw2 hl
        simp only [List.forall_mem_cons, List.not_mem_nil, false_implies, implies_true, and_true] at hl
        have x9 := hl
        have zx9 := row_sz' x9
        have hg2 := hgj.trans gw2
        have hgw2 := hgw1.trans hg2
        go_upto_region 8 with (go_at_call 18; go_loud ((with_reducible refine (HFD.out _ (hgw2.trans (by repeat (with_reducible first | assumption | exact grA | apply grB | apply grC | apply grD | refine grE ?_ (by omega) _ | refine grF ?_ (by omega) _ _)))).mono ?_); rintro r w3 ⟨hg3, u3, rfl, h3, -⟩; (have hg23 : w2.grows w3 := World.grows.trans (by repeat (with_reducible first | assumption | exact grA | apply grB | apply grC | apply grD | refine grE ?_ (by omega) _ | refine grF ?_ (by omega) _ _)) hg3); (obtain ⟨a3, c3, rfl, -, -⟩ := h3.len); (have x93 := (hg23.row_eq zx9.1).trans x9); (have zx93 := row_sz' x93)))
        have HSM := Lib.hid (fun (W : World) (hg : w3.grows W) => fsame_any (h3.grows hg fun _ _ _ h => h) (HTS.out.grows (hg2.trans (hg23.trans hg)) fun _ _ _ h => h))
        have hgj3 := hg2.trans hg23
        clear h3 hg3 u1 u2 x9 zx9
        cases i with
        | zero =>
          refine wp_region_plus_lit (by kernel_rfl) (by kernel_rfl) ?_
          repeat (go_big_quiet_step ((go_at_call 10; (with_reducible exact Calls.plus_of (HSM.out _ (by repeat (with_reducible first | assumption | exact grA | apply grB | apply grC | apply grD | refine grE ?_ (by omega) _ | refine grF ?_ (by omega) _ _)))))))
          (refine wpQuiet_nil ?_; intro _ hw'; obtain ⟨xq, hw''⟩ := hw'; subst hw'')
          go_wp2_with fail
          go_roundg (r1.length - 1)
          case measure => omega
          case rel => exact ⟨1, Lib.hid ⟨by omega, by omega⟩, by go_num, hgj3.trans (by repeat (with_reducible first | assumption | exact grA | apply grB | apply grC | apply grD | refine grE ?_ (by omega) _ | refine grF ?_ (by omega) _ _))⟩
        | succ i =>
          have hgp : r1[i]? = some r1[i] := List.getElem?_eq_getElem (by omega)
          obtain ⟨gp, offp, csp, ep, -, -, kp, hvp⟩ := HC1.out.elt hgp
          injection ep with ep
          injection ep with ep1 ep2
          subst ep1
          subst ep2
          have hbl := rise_next HT1.out.up hgp HGT.out
          generalize r1[i] = y at *
          obtain ⟨nmp, tsp⟩ := y
          obtain ⟨-, tp, rfl, -, -⟩ := hvp
          have kp2 := kp.grows hgj3
          have cp := kp2.cell (j := 0) rfl
          rw [World.cell?_row, Nat.add_zero] at cp
          have zp := lt_sz kp2.lt
          have p1 : (0 : Int) ≤ (i : Int) := by omega
          have p2 : (i : Int) < (r1.length : Int) := by omega
          have p3 : IntKind.i64.wrap (i : Int) = (i : Int) := by rw [IntKind.wrap_i64]; omega
          have p4 : (0 : Int) < (i : Int) + 1 := by omega
          simp only at hbl
          clear hgp kp kp2
          refine wp_region_plus_lit (by kernel_rfl) (by kernel_rfl) ?_
          repeat (go_big_quiet_step ((go_at_call 10; (with_reducible exact Calls.plus_of (HSM.out _ (by repeat (with_reducible first | assumption | exact grA | apply grB | apply grC | apply grD | refine grE ?_ (by omega) _ | refine grF ?_ (by omega) _ _)))))))
          (refine wpQuiet_nil ?_; intro _ hw'; obtain ⟨xq, hw''⟩ := hw'; subst hw'')
          go_wp2_with fail
          go_roundg (r1.length - (i + 1 + 1))
          case measure => omega
          case rel => exact ⟨i + 1 + 1, Lib.hid ⟨by omega, by omega⟩, by go_num, hgj3.trans (by repeat (with_reducible first | assumption | exact grA | apply grB | apply grC | apply grD | refine grE ?_ (by omega) _ | refine grF ?_ (by omega) _ _))⟩
      · have i2 : ¬ (i : Int) < (r1.length : Int) := by omega
        obtain rfl : i = r1.length := by omega
        have HG1 := Lib.hid hgj
        clear HQ j1 j2 i2
        go_wp2_with fail
        go_loopg [69] down.length (fun gn v69 wj => ∃ i : Nat, Hid (gn + i = down.length ∧ i ≤ down.length) ∧ v69 = .int .i64 i ∧ w1.grows wj)
        case atStart => exact ⟨0, Lib.hid ⟨by simp, Nat.zero_le _⟩, by go_num, HG1.out.trans (by repeat (with_reducible first | assumption | exact grA | apply grB | apply grC | apply grD | refine grE ?_ (by omega) _ | refine grF ?_ (by omega) _ _))⟩
        case round =>
          obtain ⟨i, HQ, rfl, hgj2⟩ := hrel
          obtain ⟨j1, j2⟩ := HQ.out
          have hgwj2 := hgw1.trans hgj2
          by_cases hlt : i < down.length
          · have i1 : (0 : Int) ≤ (i : Int) := by omega
            have i2 : (i : Int) < (down.length : Int) := by omega
            have iw : IntKind.i64.wrap ((i : Int) + 1) = (i : Int) + 1 := by rw [IntKind.wrap_i64]; omega
            have hgt : down[i]? = some down[i] := List.getElem?_eq_getElem hlt
            obtain ⟨g, off, cs, rfl, -, -, k1, hv⟩ := HDW.out.elt hgt
            have hmem := List.getElem_mem hlt
            have hhas := fun hc => findCu_has hmem hc
            generalize down[i] = x at *
            obtain ⟨nm, ts⟩ := x
            obtain ⟨hnm, t, rfl, hts, htl⟩ := hv
            obtain ⟨aT, cT, rfl, -, -⟩ := hts.len
            have hfa := HT1.out.find nm
            have HFA := Lib.hid (fun (W : World) (hg : w1.grows W) => ffind_any (w := W) (nm := nm) (CusAt.grows HC1.out hg) (Nat.le_trans hl1' hdl))
            have HCU := Lib.hid (fun (W : World) => fcustom_any nm W)
            have k2 := k1.grows hgwj2
            have z3 := lt_sz k2.lt
            obtain ⟨u1, u2⟩ := k2
            replace u1 : segOk (off + i * 2) 2 (wr.row g) = true := u1
            replace u2 : segV (off + i * 2) 2 (wr.row g) = .agg #[.string nm, .slice aT ts.length cT] := u2
            clear hgt hts htl k1 hmem
            go_upto_region 14 with fail
            refine abs_rows (w := wr) (G := fun W => Code.wp _ _ _ _ W) (by repeat (with_reducible first | assumption | exact grA | apply grB | apply grC | apply grD | refine grE ?_ (by omega) _ | refine grF ?_ (by omega) _ _)) [(wr.heap.size, .cells #[.string nm, .slice aT ts.length cT] 35)] (by simp [go_sem, *]) ?_
            intro w2 gw2 hl
            simp only [List.forall_mem_cons, List.not_mem_nil, false_implies, implies_true, and_true] at hl
            have x9 := hl
            have zx9 := row_sz' x9
            have hg2 := hgj2.trans gw2
            clear u1 u2 z3
            cases hcb : customB nm with
            | true =>
              obtain ⟨ts2, h2⟩ : ∃ ts2, findCu down nm = some ts2 := by
                cases h : findCu down nm with
                | none => exact absurd h (hhas hcb)
                | some ts2 => exact ⟨ts2, rfl⟩
              rw [hcb, if_pos rfl, h2] at hfa
              rw [hfa] at HFA
              rw [hcb] at HCU
              clear hhas hfa h2 hcb
              go_wp2_with (first | (go_at_call 22; (with_reducible refine (HCU.out _).mono ?_); rintro e w1 ⟨rfl, x1, rfl⟩) | (go_at_call 18; go_loud ((with_reducible refine (HFA.out _ (hg2.trans (by repeat (with_reducible first | assumption | exact grA | apply grB | apply grC | apply grD | refine grE ?_ (by omega) _ | refine grF ?_ (by omega) _ _)))).mono ?_); rintro r w3 ⟨hg3, u3, rfl, -, -⟩; (have hg23 : w2.grows w3 := World.grows.trans (by repeat (with_reducible first | assumption | exact grA | apply grB | apply grC | apply grD | refine grE ?_ (by omega) _ | refine grF ?_ (by omega) _ _)) hg3); (have x93 := (hg23.row_eq zx9.1).trans x9); (have zx93 := row_sz' x93))))
              go_roundg (down.length - (i + 1))
              case measure => omega
              case rel => exact ⟨i + 1, Lib.hid ⟨by omega, by omega⟩, by go_num, (hg2.trans hg23).trans (by repeat (with_reducible first | assumption | exact grA | apply grB | apply grC | apply grD | refine grE ?_ (by omega) _ | refine grF ?_ (by omega) _ _))⟩
            | false =>
              rw [hcb, if_neg (by decide)] at hfa
              rw [hfa] at HFA
              rw [hcb] at HCU
              clear hhas hfa hcb
              go_wp2_with (first | (go_at_call 22; (with_reducible refine (HCU.out _).mono ?_); rintro e w1 ⟨rfl, x1, rfl⟩) | (go_at_call 18; go_loud ((with_reducible refine (HFA.out _ (hg2.trans (by repeat (with_reducible first | assumption | exact grA | apply grB | apply grC | apply grD | refine grE ?_ (by omega) _ | refine grF ?_ (by omega) _ _)))).mono ?_); rintro r w3 ⟨hg3, rfl⟩; (have hg23 : w2.grows w3 := World.grows.trans (by repeat (with_reducible first | assumption | exact grA | apply grB | apply grC | apply grD | refine grE ?_ (by omega) _ | refine grF ?_ (by omega) _ _)) hg3); (have x93 := (hg23.row_eq zx9.1).trans x9); (have zx93 := row_sz' x93))))
              go_roundg (down.length - (i + 1))
              case measure => omega
              case rel => exact ⟨i + 1, Lib.hid ⟨by omega, by omega⟩, by go_num, (hg2.trans hg23).trans (by repeat (with_reducible first | assumption | exact grA | apply grB | apply grC | apply grD | refine grE ?_ (by omega) _ | refine grF ?_ (by omega) _ _))⟩
          · have i2 : ¬ (i : Int) < (down.length : Int) := by omega
            have HR2 := Lib.hid (fun (W : World) (hg : w1.grows W) => resolve_any (w := W) (CusAt.grows HOW.out (hgw1.trans hg)) (by have := HLO.out; omega) (CusAt.grows HDW.out (hgw1.trans hg)) hdl (fun g h => Nat.lt_of_lt_of_le (HSS.out.1 g h) (hgw1.trans hg).below.size) (fun g h => Nat.lt_of_lt_of_le (HSS.out.2 g h) (hgw1.trans hg).below.size))
            have HG2 := Lib.hid hgj2
            clear HQ j1 j2
            go_wp2_with (go_at_call 21; go_loud ((with_reducible refine (HR2.out _ (HG2.out.trans (by repeat (with_reducible first | assumption | exact grA | apply grB | apply grC | apply grD | refine grE ?_ (by omega) _ | refine grF ?_ (by omega) _ _)))).mono ?_); rintro r w5 ⟨v5, r2, rfl, hg5, hi2, hl2, hc2⟩; (have hgw5 : w.grows w5 := (hgw1.trans HG2.out).trans (World.grows.trans (by repeat (with_reducible first | assumption | exact grA | apply grB | apply grC | apply grD | refine grE ?_ (by omega) _ | refine grF ?_ (by omega) _ _)) hg5)); (obtain ⟨aB, cB, rfl, -, -⟩ := hc2.len); (have HC2 := Lib.hid hc2); clear hc2))
            obtain ⟨F2, hs2, ht2⟩ := hi2
            have HS2 := Lib.hid hs2
            have HT2 := Lib.hid ht2
            clear hs2 ht2 i2
            go_loopg [91] r2.length (fun gn v91 wj => ∃ i : Nat, Hid (gn + i = r2.length ∧ i ≤ r2.length) ∧ v91 = .int .i64 i ∧ w5.grows wj)
            case atStart => exact ⟨0, Lib.hid ⟨by simp, Nat.zero_le _⟩, by go_num, (by repeat (with_reducible first | assumption | exact grA | apply grB | apply grC | apply grD | refine grE ?_ (by omega) _ | refine grF ?_ (by omega) _ _))⟩
            case round =>
              obtain ⟨i, HQ, rfl, hgj3⟩ := hrel
              obtain ⟨j1, j2⟩ := HQ.out
              have hgwj3 := hgw5.trans hgj3
              by_cases hlt2 : i < r2.length
              · have i1 : (0 : Int) ≤ (i : Int) := by omega
                have i2 : (i : Int) < (r2.length : Int) := by omega
                have iw : IntKind.i64.wrap ((i : Int) + 1) = (i : Int) + 1 := by rw [IntKind.wrap_i64]; omega
                have hgt : r2[i]? = some r2[i] := List.getElem?_eq_getElem hlt2
                obtain ⟨g, off, cs, rfl, -, -, k1, hv⟩ := HC2.out.elt hgt
                have hmm := (HT2.out.mem r2[i]).1 (List.getElem_mem hlt2)
                generalize r2[i] = x at *
                obtain ⟨nm, ts⟩ := x
                obtain ⟨hnm, t, rfl, hts, htl⟩ := hv
                obtain ⟨aT, cT, rfl, -, -⟩ := hts.len
                have HFD := Lib.hid (fun (W : World) (hg : w.grows W) => ffind_any (w := W) (nm := nm) (CusAt.grows HDW.out hg) hdl)
                have HFO := Lib.hid (fun (W : World) (hg : w.grows W) => ffind_any (w := W) (nm := nm) (CusAt.grows HOW.out hg) (by have := HLO.out; omega))
                have k2 := k1.grows hgj3
                have z3 := lt_sz k2.lt
                obtain ⟨u1, u2⟩ := k2
                replace u1 : segOk (off + i * 2) 2 (wr.row g) = true := u1
                replace u2 : segV (off + i * 2) 2 (wr.row g) = .agg #[.string nm, .slice aT ts.length cT] := u2
                have HGT := Lib.hid hgt
                have HTS := Lib.hid hts
                have HMM := Lib.hid hmm
                clear hgt hmm hts htl k1
                go_upto_region 22 with fail
                refine abs_rows (w := wr) (G := fun W => Code.wp _ _ _ _ W) (by repeat (with_reducible first | assumption | exact grA | apply grB | apply grC | apply grD | refine grE ?_ (by omega) _ | refine grF ?_ (by omega) _ _)) [(wr.heap.size, .cells #[.string nm, .slice aT ts.length cT] 35)] (by simp [go_sem, *]) ?_
                intro w2 gw2 hl
                simp only [List.forall_mem_cons, List.not_mem_nil, false_implies, implies_true, and_true] at hl
                have x9 := hl
                have zx9 := row_sz' x9
                have hg2 := hgj3.trans gw2
                have hgw2 := hgw5.trans hg2
                clear u1 u2 z3
                cases i with
                | zero =>
                  refine wp_region_plus_lit (by kernel_rfl) (by kernel_rfl) ?_
                  repeat (go_big_quiet_step (fail))
                  (refine wpQuiet_nil ?_; intro _ hw'; obtain ⟨xq, hw''⟩ := hw'; subst hw'')
                  cases hfo : findCu o nm with
                  | some tw =>
                    rw [hfo] at HFO
                    clear hfo
                    cases hfd : findCu down nm with
                    | some td =>
                      rw [hfd] at HFD
                      clear hfd
                      go_wp2_with (first | (go_at_call 18; go_loud ((with_reducible refine (HFD.out _ (hgw6.trans (by repeat (with_reducible first | assumption | exact grA | apply grB | apply grC | apply grD | refine grE ?_ (by omega) _ | refine grF ?_ (by omega) _ _)))).mono ?_); rintro r w7 ⟨hg7, u7, rfl, h7, -⟩; (have hg67 : w6.grows w7 := World.grows.trans (by repeat (with_reducible first | assumption | exact grA | apply grB | apply grC | apply grD | refine grE ?_ (by omega) _ | refine grF ?_ (by omega) _ _)) hg7); (have x97 := (hg67.row_eq zx96.1).trans x96); (have zx97 := row_sz' x97))) | (go_at_call 18; go_loud ((with_reducible refine (HFO.out _ (hgw2.trans (by repeat (with_reducible first | assumption | exact grA | apply grB | apply grC | apply grD | refine grE ?_ (by omega) _ | refine grF ?_ (by omega) _ _)))).mono ?_); rintro r w6 ⟨hg6, u6, rfl, -, -⟩; (have hg26 : w2.grows w6 := World.grows.trans (by repeat (with_reducible first | assumption | exact grA | apply grB | apply grC | apply grD | refine grE ?_ (by omega) _ | refine grF ?_ (by omega) _ _)) hg6); (have x96 := (hg26.row_eq zx9.1).trans x9); (have zx96 := row_sz' x96); (have hgw6 := hgw2.trans hg26))))
                      go_roundg (r2.length - 1)
                      case measure => omega
                      case rel => exact ⟨1, Lib.hid ⟨by omega, by omega⟩, by go_num, (hg2.trans (hg26.trans hg67)).trans (by repeat (with_reducible first | assumption | exact grA | apply grB | apply grC | apply grD | refine grE ?_ (by omega) _ | refine grF ?_ (by omega) _ _))⟩
                    | none =>
                      rw [hfd] at HFD
                      clear hfd
                      go_wp2_with (first | (go_at_call 18; go_loud ((with_reducible refine (HFD.out _ (hgw6.trans (by repeat (with_reducible first | assumption | exact grA | apply grB | apply grC | apply grD | refine grE ?_ (by omega) _ | refine grF ?_ (by omega) _ _)))).mono ?_); rintro r w7 ⟨hg7, rfl⟩; (have hg67 : w6.grows w7 := World.grows.trans (by repeat (with_reducible first | assumption | exact grA | apply grB | apply grC | apply grD | refine grE ?_ (by omega) _ | refine grF ?_ (by omega) _ _)) hg7); (have x97 := (hg67.row_eq zx96.1).trans x96); (have zx97 := row_sz' x97))) | (go_at_call 18; go_loud ((with_reducible refine (HFO.out _ (hgw2.trans (by repeat (with_reducible first | assumption | exact grA | apply grB | apply grC | apply grD | refine grE ?_ (by omega) _ | refine grF ?_ (by omega) _ _)))).mono ?_); rintro r w6 ⟨hg6, u6, rfl, -, -⟩; (have hg26 : w2.grows w6 := World.grows.trans (by repeat (with_reducible first | assumption | exact grA | apply grB | apply grC | apply grD | refine grE ?_ (by omega) _ | refine grF ?_ (by omega) _ _)) hg6); (have x96 := (hg26.row_eq zx9.1).trans x9); (have zx96 := row_sz' x96); (have hgw6 := hgw2.trans hg26))))
                      go_roundg (r2.length - 1)
                      case measure => omega
                      case rel => exact ⟨1, Lib.hid ⟨by omega, by omega⟩, by go_num, (hg2.trans (hg26.trans hg67)).trans (by repeat (with_reducible first | assumption | exact grA | apply grB | apply grC | apply grD | refine grE ?_ (by omega) _ | refine grF ?_ (by omega) _ _))⟩
                  | none =>
                    have hfd : findCu down nm = some ts := by rw [← HS2.out.out nm hfo]; exact HMM.out
                    rw [hfo] at HFO
                    rw [hfd] at HFD
                    clear hfo hfd
                    go_upto_region 26 with (first | (go_at_call 18; go_loud ((with_reducible refine (HFD.out _ (hgw6.trans (by repeat (with_reducible first | assumption | exact grA | apply grB | apply grC | apply grD | refine grE ?_ (by omega) _ | refine grF ?_ (by omega) _ _)))).mono ?_); rintro r w7 ⟨hg7, u7, rfl, h7, -⟩; (have hg67 : w6.grows w7 := World.grows.trans (by repeat (with_reducible first | assumption | exact grA | apply grB | apply grC | apply grD | refine grE ?_ (by omega) _ | refine grF ?_ (by omega) _ _)) hg7); (have x97 := (hg67.row_eq zx96.1).trans x96); (have zx97 := row_sz' x97); (obtain ⟨a7, c7, rfl, -, -⟩ := h7.len))) | (go_at_call 18; go_loud ((with_reducible refine (HFO.out _ (hgw2.trans (by repeat (with_reducible first | assumption | exact grA | apply grB | apply grC | apply grD | refine grE ?_ (by omega) _ | refine grF ?_ (by omega) _ _)))).mono ?_); rintro r w6 ⟨hg6, rfl⟩; (have hg26 : w2.grows w6 := World.grows.trans (by repeat (with_reducible first | assumption | exact grA | apply grB | apply grC | apply grD | refine grE ?_ (by omega) _ | refine grF ?_ (by omega) _ _)) hg6); (have x96 := (hg26.row_eq zx9.1).trans x9); (have zx96 := row_sz' x96); (have hgw6 := hgw2.trans hg26))))
                    have HSM := Lib.hid (fun (W : World) (hg : w7.grows W) => fsame_any (h7.grows hg fun _ _ _ h => h) (HTS.out.grows (hg2.trans (hg26.trans (hg67.trans hg))) fun _ _ _ h => h))
                    clear h7
                    go_wp2_with ((go_at_call 10; (with_reducible refine (HSM.out _ (by repeat (with_reducible first | assumption | exact grA | apply grB | apply grC | apply grD | refine grE ?_ (by omega) _ | refine grF ?_ (by omega) _ _))).mono ?_); rintro e w1 ⟨rfl, x1, rfl⟩))
                    go_roundg (r2.length - 1)
                    case measure => omega
                    case rel => exact ⟨1, Lib.hid ⟨by omega, by omega⟩, by go_num, (hg2.trans (hg26.trans hg67)).trans (by repeat (with_reducible first | assumption | exact grA | apply grB | apply grC | apply grD | refine grE ?_ (by omega) _ | refine grF ?_ (by omega) _ _))⟩
                | succ i =>
                  have hgp : r2[i]? = some r2[i] := List.getElem?_eq_getElem (by omega)
                  obtain ⟨gp, offp, csp, ep, -, -, kp, hvp⟩ := HC2.out.elt hgp
                  injection ep with ep
                  injection ep with ep1 ep2
                  subst ep1
                  subst ep2
                  have hbl := rise_next HT2.out.up hgp HGT.out
                  generalize r2[i] = y at *
                  obtain ⟨nmp, tsp⟩ := y
                  obtain ⟨-, tp, rfl, -, -⟩ := hvp
                  have kp2 := kp.grows hg2
                  have cp := kp2.cell (j := 0) rfl
                  rw [World.cell?_row, Nat.add_zero] at cp
                  have zp := lt_sz kp2.lt
                  have p1 : (0 : Int) ≤ (i : Int) := by omega
                  have p2 : (i : Int) < (r2.length : Int) := by omega
                  have p3 : IntKind.i64.wrap (i : Int) = (i : Int) := by rw [IntKind.wrap_i64]; omega
                  have p4 : (0 : Int) < (i : Int) + 1 := by omega
                  simp only at hbl
                  clear hgp kp kp2
                  refine wp_region_plus_lit (by kernel_rfl) (by kernel_rfl) ?_
                  repeat (go_big_quiet_step (fail))
                  (refine wpQuiet_nil ?_; intro _ hw'; obtain ⟨xq, hw''⟩ := hw'; subst hw'')
                  cases hfo : findCu o nm with
                  | some tw =>
                    rw [hfo] at HFO
                    clear hfo
                    cases hfd : findCu down nm with
                    | some td =>
                      rw [hfd] at HFD
                      clear hfd
                      go_wp2_with (first | (go_at_call 18; go_loud ((with_reducible refine (HFD.out _ (hgw6.trans (by repeat (with_reducible first | assumption | exact grA | apply grB | apply grC | apply grD | refine grE ?_ (by omega) _ | refine grF ?_ (by omega) _ _)))).mono ?_); rintro r w7 ⟨hg7, u7, rfl, h7, -⟩; (have hg67 : w6.grows w7 := World.grows.trans (by repeat (with_reducible first | assumption | exact grA | apply grB | apply grC | apply grD | refine grE ?_ (by omega) _ | refine grF ?_ (by omega) _ _)) hg7); (have x97 := (hg67.row_eq zx96.1).trans x96); (have zx97 := row_sz' x97))) | (go_at_call 18; go_loud ((with_reducible refine (HFO.out _ (hgw2.trans (by repeat (with_reducible first | assumption | exact grA | apply grB | apply grC | apply grD | refine grE ?_ (by omega) _ | refine grF ?_ (by omega) _ _)))).mono ?_); rintro r w6 ⟨hg6, u6, rfl, -, -⟩; (have hg26 : w2.grows w6 := World.grows.trans (by repeat (with_reducible first | assumption | exact grA | apply grB | apply grC | apply grD | refine grE ?_ (by omega) _ | refine grF ?_ (by omega) _ _)) hg6); (have x96 := (hg26.row_eq zx9.1).trans x9); (have zx96 := row_sz' x96); (have hgw6 := hgw2.trans hg26))))
                      go_roundg (r2.length - (i+1+1))
                      case measure => omega
                      case rel => exact ⟨(i+1+1), Lib.hid ⟨by omega, by omega⟩, by go_num, (hg2.trans (hg26.trans hg67)).trans (by repeat (with_reducible first | assumption | exact grA | apply grB | apply grC | apply grD | refine grE ?_ (by omega) _ | refine grF ?_ (by omega) _ _))⟩
                    | none =>
                      rw [hfd] at HFD
                      clear hfd
                      go_wp2_with (first | (go_at_call 18; go_loud ((with_reducible refine (HFD.out _ (hgw6.trans (by repeat (with_reducible first | assumption | exact grA | apply grB | apply grC | apply grD | refine grE ?_ (by omega) _ | refine grF ?_ (by omega) _ _)))).mono ?_); rintro r w7 ⟨hg7, rfl⟩; (have hg67 : w6.grows w7 := World.grows.trans (by repeat (with_reducible first | assumption | exact grA | apply grB | apply grC | apply grD | refine grE ?_ (by omega) _ | refine grF ?_ (by omega) _ _)) hg7); (have x97 := (hg67.row_eq zx96.1).trans x96); (have zx97 := row_sz' x97))) | (go_at_call 18; go_loud ((with_reducible refine (HFO.out _ (hgw2.trans (by repeat (with_reducible first | assumption | exact grA | apply grB | apply grC | apply grD | refine grE ?_ (by omega) _ | refine grF ?_ (by omega) _ _)))).mono ?_); rintro r w6 ⟨hg6, u6, rfl, -, -⟩; (have hg26 : w2.grows w6 := World.grows.trans (by repeat (with_reducible first | assumption | exact grA | apply grB | apply grC | apply grD | refine grE ?_ (by omega) _ | refine grF ?_ (by omega) _ _)) hg6); (have x96 := (hg26.row_eq zx9.1).trans x9); (have zx96 := row_sz' x96); (have hgw6 := hgw2.trans hg26))))
                      go_roundg (r2.length - (i+1+1))
                      case measure => omega
                      case rel => exact ⟨(i+1+1), Lib.hid ⟨by omega, by omega⟩, by go_num, (hg2.trans (hg26.trans hg67)).trans (by repeat (with_reducible first | assumption | exact grA | apply grB | apply grC | apply grD | refine grE ?_ (by omega) _ | refine grF ?_ (by omega) _ _))⟩
                  | none =>
                    have hfd : findCu down nm = some ts := by rw [← HS2.out.out nm hfo]; exact HMM.out
                    rw [hfo] at HFO
                    rw [hfd] at HFD
                    clear hfo hfd
                    go_upto_region 26 with (first | (go_at_call 18; go_loud ((with_reducible refine (HFD.out _ (hgw6.trans (by repeat (with_reducible first | assumption | exact grA | apply grB | apply grC | apply grD | refine grE ?_ (by omega) _ | refine grF ?_ (by omega) _ _)))).mono ?_); rintro r w7 ⟨hg7, u7, rfl, h7, -⟩; (have hg67 : w6.grows w7 := World.grows.trans (by repeat (with_reducible first | assumption | exact grA | apply grB | apply grC | apply grD | refine grE ?_ (by omega) _ | refine grF ?_ (by omega) _ _)) hg7); (have x97 := (hg67.row_eq zx96.1).trans x96); (have zx97 := row_sz' x97); (obtain ⟨a7, c7, rfl, -, -⟩ := h7.len))) | (go_at_call 18; go_loud ((with_reducible refine (HFO.out _ (hgw2.trans (by repeat (with_reducible first | assumption | exact grA | apply grB | apply grC | apply grD | refine grE ?_ (by omega) _ | refine grF ?_ (by omega) _ _)))).mono ?_); rintro r w6 ⟨hg6, rfl⟩; (have hg26 : w2.grows w6 := World.grows.trans (by repeat (with_reducible first | assumption | exact grA | apply grB | apply grC | apply grD | refine grE ?_ (by omega) _ | refine grF ?_ (by omega) _ _)) hg6); (have x96 := (hg26.row_eq zx9.1).trans x9); (have zx96 := row_sz' x96); (have hgw6 := hgw2.trans hg26))))
                    have HSM := Lib.hid (fun (W : World) (hg : w7.grows W) => fsame_any (h7.grows hg fun _ _ _ h => h) (HTS.out.grows (hg2.trans (hg26.trans (hg67.trans hg))) fun _ _ _ h => h))
                    clear h7
                    go_wp2_with ((go_at_call 10; (with_reducible refine (HSM.out _ (by repeat (with_reducible first | assumption | exact grA | apply grB | apply grC | apply grD | refine grE ?_ (by omega) _ | refine grF ?_ (by omega) _ _))).mono ?_); rintro e w1 ⟨rfl, x1, rfl⟩))
                    go_roundg (r2.length - (i+1+1))
                    case measure => omega
                    case rel => exact ⟨(i+1+1), Lib.hid ⟨by omega, by omega⟩, by go_num, (hg2.trans (hg26.trans hg67)).trans (by repeat (with_reducible first | assumption | exact grA | apply grB | apply grC | apply grD | refine grE ?_ (by omega) _ | refine grF ?_ (by omega) _ _))⟩
              · have i2 : ¬ (i : Int) < (r2.length : Int) := by omega
                go_wp2_with ((go_at_call 11; (with_reducible refine (HW.out _ (hgwj3.trans (by repeat (with_reducible first | assumption | exact grA | apply grB | apply grC | apply grD | refine grE ?_ (by omega) _ | refine grF ?_ (by omega) _ _)))).mono ?_); rintro e w1 ⟨rfl, x1, rfl⟩))
                go_ret
                exact ⟨rfl, hgwj3.trans (by repeat (with_reducible first | assumption | exact grA | apply grB | apply grC | apply grD | refine grE ?_ (by omega) _ | refine grF ?_ (by omega) _ _))⟩
  · have m1 : ¬ (40 : Int) < (own.length : Int) := by omega
    obtain ⟨N, hN⟩ : ∃ N, own.length = N := ⟨_, rfl⟩
    have hl30 : N ≤ 40 := by omega
    rw [hN] at m1 ho ⊢
    have HOW := Lib.hid ho
    have HLO := Lib.hid hN
    clear ho hcap hcap2 hk hN hol
    go_enter Tryd.func6, Tryd.ntmps6
    go_upto_region 3 with fail
    go_wp2_with (go_at_call 21; go_loud ((with_reducible refine (HR1.out _ (by repeat (with_reducible first | assumption | exact grA | apply grB | apply grC | apply grD | refine grE ?_ (by omega) _ | refine grF ?_ (by omega) _ _))).mono ?_); rintro r w1 ⟨v1, r1, rfl, hg1, hi1, hl1, hc1⟩; (have hgw1 : w.grows w1 := World.grows.trans (by repeat (with_reducible first | assumption | exact grA | apply grB | apply grC | apply grD | refine grE ?_ (by omega) _ | refine grF ?_ (by omega) _ _)) hg1); (obtain ⟨aA, cA, rfl, -, -⟩ := hc1.len); (have HC1 := Lib.hid hc1); clear hc1))
    obtain ⟨F1, hs1, ht1⟩ := hi1
    rw [findCu_nil] at hs1
    have hF1 := hs1.none
    subst hF1
    have HT1 := Lib.hid ht1
    have hl1' := ht1.len
    clear hs1 ht1
    go_loopg [30] r1.length (fun gn v30 wj => ∃ i : Nat, Hid (gn + i = r1.length ∧ i ≤ r1.length) ∧ v30 = .int .i64 i ∧ w1.grows wj)
    case atStart => exact ⟨0, Lib.hid ⟨by simp, Nat.zero_le _⟩, by go_num, (by repeat (with_reducible first | assumption | exact grA | apply grB | apply grC | apply grD | refine grE ?_ (by omega) _ | refine grF ?_ (by omega) _ _))⟩
    case round =>
      obtain ⟨i, HQ, rfl, hgj⟩ := hrel
      obtain ⟨j1, j2⟩ := HQ.out
      have hgwj := hgw1.trans hgj
      by_cases hlt : i < r1.length
      · have i1 : (0 : Int) ≤ (i : Int) := by omega
        have i2 : (i : Int) < (r1.length : Int) := by omega
        have iw : IntKind.i64.wrap ((i : Int) + 1) = (i : Int) + 1 := by rw [IntKind.wrap_i64]; omega
        have hgt : r1[i]? = some r1[i] := List.getElem?_eq_getElem hlt
        obtain ⟨g, off, cs, rfl, -, -, k1, hv⟩ := HC1.out.elt hgt
        have hmm := (HT1.out.mem r1[i]).1 (List.getElem_mem hlt)
        generalize r1[i] = x at *
        obtain ⟨nm, ts⟩ := x
        obtain ⟨hnm, t, rfl, hts, htl⟩ := hv
        obtain ⟨aT, cT, rfl, -, -⟩ := hts.len
        have hfind : findCu down nm = some ts := hmm
        have HFD := Lib.hid (fun (W : World) (hg : w.grows W) => ffind_any (w := W) (nm := nm) (CusAt.grows HDW.out hg) hdl)
        rw [hfind] at HFD
        have k2 := k1.grows hgj
        have z3 := lt_sz k2.lt
        obtain ⟨u1, u2⟩ := k2
        replace u1 : segOk (off + i * 2) 2 (wr.row g) = true := u1
        replace u2 : segV (off + i * 2) 2 (wr.row g) = .agg #[.string nm, .slice aT ts.length cT] := u2
        have HGT := Lib.hid hgt
        have HTS := Lib.hid hts
        have HK1 := Lib.hid k1
        clear hgt hmm hts htl k1 hfind
        go_upto_region 7 with fail
        refine abs_rows (w := wr) (G := fun W => Code.wp _ _ _ _ W) (by repeat (with_reducible first | assumption | exact grA | apply grB | apply grC | apply grD | refine grE ?_ (by omega) _ | refine grF ?_ (by omega) _ _)) [(wr.heap.size, .cells #[.string nm, .slice aT ts.length cT] 35)] (by simp [go_sem, *]) ?_
        intro w2 gw2 hl
        simp only [List.forall_mem_cons, List.not_mem_nil, false_implies, implies_true, and_true] at hl
        have x9 := hl
        have zx9 := row_sz' x9
        have hg2 := hgj.trans gw2
        have hgw2 := hgw1.trans hg2
        go_upto_region 8 with (go_at_call 18; go_loud ((with_reducible refine (HFD.out _ (hgw2.trans (by repeat (with_reducible first | assumption | exact grA | apply grB | apply grC | apply grD | refine grE ?_ (by omega) _ | refine grF ?_ (by omega) _ _)))).mono ?_); rintro r w3 ⟨hg3, u3, rfl, h3, -⟩; (have hg23 : w2.grows w3 := World.grows.trans (by repeat (with_reducible first | assumption | exact grA | apply grB | apply grC | apply grD | refine grE ?_ (by omega) _ | refine grF ?_ (by omega) _ _)) hg3); (obtain ⟨a3, c3, rfl, -, -⟩ := h3.len); (have x93 := (hg23.row_eq zx9.1).trans x9); (have zx93 := row_sz' x93)))
        have HSM := Lib.hid (fun (W : World) (hg : w3.grows W) => fsame_any (h3.grows hg fun _ _ _ h => h) (HTS.out.grows (hg2.trans (hg23.trans hg)) fun _ _ _ h => h))
        have hgj3 := hg2.trans hg23
        clear h3 hg3 u1 u2 x9 zx9
        cases i with
        | zero =>
          refine wp_region_plus_lit (by kernel_rfl) (by kernel_rfl) ?_
          repeat (go_big_quiet_step ((go_at_call 10; (with_reducible exact Calls.plus_of (HSM.out _ (by repeat (with_reducible first | assumption | exact grA | apply grB | apply grC | apply grD | refine grE ?_ (by omega) _ | refine grF ?_ (by omega) _ _)))))))
          (refine wpQuiet_nil ?_; intro _ hw'; obtain ⟨xq, hw''⟩ := hw'; subst hw'')
          go_wp2_with fail
          go_roundg (r1.length - 1)
          case measure => omega
          case rel => exact ⟨1, Lib.hid ⟨by omega, by omega⟩, by go_num, hgj3.trans (by repeat (with_reducible first | assumption | exact grA | apply grB | apply grC | apply grD | refine grE ?_ (by omega) _ | refine grF ?_ (by omega) _ _))⟩
        | succ i =>
          have hgp : r1[i]? = some r1[i] := List.getElem?_eq_getElem (by omega)
          obtain ⟨gp, offp, csp, ep, -, -, kp, hvp⟩ := HC1.out.elt hgp
          injection ep with ep
          injection ep with ep1 ep2
          subst ep1
          subst ep2
          have hbl := rise_next HT1.out.up hgp HGT.out
          generalize r1[i] = y at *
          obtain ⟨nmp, tsp⟩ := y
          obtain ⟨-, tp, rfl, -, -⟩ := hvp
          have kp2 := kp.grows hgj3
          have cp := kp2.cell (j := 0) rfl
          rw [World.cell?_row, Nat.add_zero] at cp
          have zp := lt_sz kp2.lt
          have p1 : (0 : Int) ≤ (i : Int) := by omega
          have p2 : (i : Int) < (r1.length : Int) := by omega
          have p3 : IntKind.i64.wrap (i : Int) = (i : Int) := by rw [IntKind.wrap_i64]; omega
          have p4 : (0 : Int) < (i : Int) + 1 := by omega
          simp only at hbl
          clear hgp kp kp2
          refine wp_region_plus_lit (by kernel_rfl) (by kernel_rfl) ?_
          repeat (go_big_quiet_step ((go_at_call 10; (with_reducible exact Calls.plus_of (HSM.out _ (by repeat (with_reducible first | assumption | exact grA | apply grB | apply grC | apply grD | refine grE ?_ (by omega) _ | refine grF ?_ (by omega) _ _)))))))
          (refine wpQuiet_nil ?_; intro _ hw'; obtain ⟨xq, hw''⟩ := hw'; subst hw'')
          go_wp2_with fail
          go_roundg (r1.length - (i + 1 + 1))
          case measure => omega
          case rel => exact ⟨i + 1 + 1, Lib.hid ⟨by omega, by omega⟩, by go_num, hgj3.trans (by repeat (with_reducible first | assumption | exact grA | apply grB | apply grC | apply grD | refine grE ?_ (by omega) _ | refine grF ?_ (by omega) _ _))⟩
      · have i2 : ¬ (i : Int) < (r1.length : Int) := by omega
        obtain rfl : i = r1.length := by omega
        have HG1 := Lib.hid hgj
        clear HQ j1 j2 i2
        go_wp2_with fail
        go_loopg [69] down.length (fun gn v69 wj => ∃ i : Nat, Hid (gn + i = down.length ∧ i ≤ down.length) ∧ v69 = .int .i64 i ∧ w1.grows wj)
        case atStart => exact ⟨0, Lib.hid ⟨by simp, Nat.zero_le _⟩, by go_num, HG1.out.trans (by repeat (with_reducible first | assumption | exact grA | apply grB | apply grC | apply grD | refine grE ?_ (by omega) _ | refine grF ?_ (by omega) _ _))⟩
        case round =>
          obtain ⟨i, HQ, rfl, hgj2⟩ := hrel
          obtain ⟨j1, j2⟩ := HQ.out
          have hgwj2 := hgw1.trans hgj2
          by_cases hlt : i < down.length
          · have i1 : (0 : Int) ≤ (i : Int) := by omega
            have i2 : (i : Int) < (down.length : Int) := by omega
            have iw : IntKind.i64.wrap ((i : Int) + 1) = (i : Int) + 1 := by rw [IntKind.wrap_i64]; omega
            have hgt : down[i]? = some down[i] := List.getElem?_eq_getElem hlt
            obtain ⟨g, off, cs, rfl, -, -, k1, hv⟩ := HDW.out.elt hgt
            have hmem := List.getElem_mem hlt
            have hhas := fun hc => findCu_has hmem hc
            generalize down[i] = x at *
            obtain ⟨nm, ts⟩ := x
            obtain ⟨hnm, t, rfl, hts, htl⟩ := hv
            obtain ⟨aT, cT, rfl, -, -⟩ := hts.len
            have hfa := HT1.out.find nm
            have HFA := Lib.hid (fun (W : World) (hg : w1.grows W) => ffind_any (w := W) (nm := nm) (CusAt.grows HC1.out hg) (Nat.le_trans hl1' hdl))
            have HCU := Lib.hid (fun (W : World) => fcustom_any nm W)
            have k2 := k1.grows hgwj2
            have z3 := lt_sz k2.lt
            obtain ⟨u1, u2⟩ := k2
            replace u1 : segOk (off + i * 2) 2 (wr.row g) = true := u1
            replace u2 : segV (off + i * 2) 2 (wr.row g) = .agg #[.string nm, .slice aT ts.length cT] := u2
            clear hgt hts htl k1 hmem
            go_upto_region 14 with fail
            refine abs_rows (w := wr) (G := fun W => Code.wp _ _ _ _ W) (by repeat (with_reducible first | assumption | exact grA | apply grB | apply grC | apply grD | refine grE ?_ (by omega) _ | refine grF ?_ (by omega) _ _)) [(wr.heap.size, .cells #[.string nm, .slice aT ts.length cT] 35)] (by simp [go_sem, *]) ?_
            intro w2 gw2 hl
            simp only [List.forall_mem_cons, List.not_mem_nil, false_implies, implies_true, and_true] at hl
            have x9 := hl
            have zx9 := row_sz' x9
            have hg2 := hgj2.trans gw2
            clear u1 u2 z3
            cases hcb : customB nm with
            | true =>
              obtain ⟨ts2, h2⟩ : ∃ ts2, findCu down nm = some ts2 := by
                cases h : findCu down nm with
                | none => exact absurd h (hhas hcb)
                | some ts2 => exact ⟨ts2, rfl⟩
              rw [hcb, if_pos rfl, h2] at hfa
              rw [hfa] at HFA
              rw [hcb] at HCU
              clear hhas hfa h2 hcb
              go_wp2_with (first | (go_at_call 22; (with_reducible refine (HCU.out _).mono ?_); rintro e w1 ⟨rfl, x1, rfl⟩) | (go_at_call 18; go_loud ((with_reducible refine (HFA.out _ (hg2.trans (by repeat (with_reducible first | assumption | exact grA | apply grB | apply grC | apply grD | refine grE ?_ (by omega) _ | refine grF ?_ (by omega) _ _)))).mono ?_); rintro r w3 ⟨hg3, u3, rfl, -, -⟩; (have hg23 : w2.grows w3 := World.grows.trans (by repeat (with_reducible first | assumption | exact grA | apply grB | apply grC | apply grD | refine grE ?_ (by omega) _ | refine grF ?_ (by omega) _ _)) hg3); (have x93 := (hg23.row_eq zx9.1).trans x9); (have zx93 := row_sz' x93))))
              go_roundg (down.length - (i + 1))
              case measure => omega
              case rel => exact ⟨i + 1, Lib.hid ⟨by omega, by omega⟩, by go_num, (hg2.trans hg23).trans (by repeat (with_reducible first | assumption | exact grA | apply grB | apply grC | apply grD | refine grE ?_ (by omega) _ | refine grF ?_ (by omega) _ _))⟩
            | false =>
              rw [hcb, if_neg (by decide)] at hfa
              rw [hfa] at HFA
              rw [hcb] at HCU
              clear hhas hfa hcb
              go_wp2_with (first | (go_at_call 22; (with_reducible refine (HCU.out _).mono ?_); rintro e w1 ⟨rfl, x1, rfl⟩) | (go_at_call 18; go_loud ((with_reducible refine (HFA.out _ (hg2.trans (by repeat (with_reducible first | assumption | exact grA | apply grB | apply grC | apply grD | refine grE ?_ (by omega) _ | refine grF ?_ (by omega) _ _)))).mono ?_); rintro r w3 ⟨hg3, rfl⟩; (have hg23 : w2.grows w3 := World.grows.trans (by repeat (with_reducible first | assumption | exact grA | apply grB | apply grC | apply grD | refine grE ?_ (by omega) _ | refine grF ?_ (by omega) _ _)) hg3); (have x93 := (hg23.row_eq zx9.1).trans x9); (have zx93 := row_sz' x93))))
              go_roundg (down.length - (i + 1))
              case measure => omega
              case rel => exact ⟨i + 1, Lib.hid ⟨by omega, by omega⟩, by go_num, (hg2.trans hg23).trans (by repeat (with_reducible first | assumption | exact grA | apply grB | apply grC | apply grD | refine grE ?_ (by omega) _ | refine grF ?_ (by omega) _ _))⟩
          · have i2 : ¬ (i : Int) < (down.length : Int) := by omega
            have HR2 := Lib.hid (fun (W : World) (hg : w1.grows W) => resolve_any (w := W) (CusAt.grows HOW.out (hgw1.trans hg)) (by have := HLO.out; omega) (CusAt.grows HDW.out (hgw1.trans hg)) hdl (fun g h => Nat.lt_of_lt_of_le (HSS.out.1 g h) (hgw1.trans hg).below.size) (fun g h => Nat.lt_of_lt_of_le (HSS.out.2 g h) (hgw1.trans hg).below.size))
            have HG2 := Lib.hid hgj2
            clear HQ j1 j2
            go_wp2_with (go_at_call 21; go_loud ((with_reducible refine (HR2.out _ (HG2.out.trans (by repeat (with_reducible first | assumption | exact grA | apply grB | apply grC | apply grD | refine grE ?_ (by omega) _ | refine grF ?_ (by omega) _ _)))).mono ?_); rintro r w5 ⟨v5, r2, rfl, hg5, hi2, hl2, hc2⟩; (have hgw5 : w.grows w5 := (hgw1.trans HG2.out).trans (World.grows.trans (by repeat (with_reducible first | assumption | exact grA | apply grB | apply grC | apply grD | refine grE ?_ (by omega) _ | refine grF ?_ (by omega) _ _)) hg5)); (obtain ⟨aB, cB, rfl, -, -⟩ := hc2.len); (have HC2 := Lib.hid hc2); clear hc2))
            obtain ⟨F2, hs2, ht2⟩ := hi2
            have HS2 := Lib.hid hs2
            have HT2 := Lib.hid ht2
            clear hs2 ht2 i2
            go_loopg [91] r2.length (fun gn v91 wj => ∃ i : Nat, Hid (gn + i = r2.length ∧ i ≤ r2.length) ∧ v91 = .int .i64 i ∧ w5.grows wj)
            case atStart => exact ⟨0, Lib.hid ⟨by simp, Nat.zero_le _⟩, by go_num, (by repeat (with_reducible first | assumption | exact grA | apply grB | apply grC | apply grD | refine grE ?_ (by omega) _ | refine grF ?_ (by omega) _ _))⟩
            case round =>
              obtain ⟨i, HQ, rfl, hgj3⟩ := hrel
              obtain ⟨j1, j2⟩ := HQ.out
              have hgwj3 := hgw5.trans hgj3
              by_cases hlt2 : i < r2.length
              · have i1 : (0 : Int) ≤ (i : Int) := by omega
                have i2 : (i : Int) < (r2.length : Int) := by omega
                have iw : IntKind.i64.wrap ((i : Int) + 1) = (i : Int) + 1 := by rw [IntKind.wrap_i64]; omega
                have hgt : r2[i]? = some r2[i] := List.getElem?_eq_getElem hlt2
                obtain ⟨g, off, cs, rfl, -, -, k1, hv⟩ := HC2.out.elt hgt
                have hmm := (HT2.out.mem r2[i]).1 (List.getElem_mem hlt2)
                generalize r2[i] = x at *
                obtain ⟨nm, ts⟩ := x
                obtain ⟨hnm, t, rfl, hts, htl⟩ := hv
                obtain ⟨aT, cT, rfl, -, -⟩ := hts.len
                have HFD := Lib.hid (fun (W : World) (hg : w.grows W) => ffind_any (w := W) (nm := nm) (CusAt.grows HDW.out hg) hdl)
                have HFO := Lib.hid (fun (W : World) (hg : w.grows W) => ffind_any (w := W) (nm := nm) (CusAt.grows HOW.out hg) (by have := HLO.out; omega))
                have k2 := k1.grows hgj3
                have z3 := lt_sz k2.lt
                obtain ⟨u1, u2⟩ := k2
                replace u1 : segOk (off + i * 2) 2 (wr.row g) = true := u1
                replace u2 : segV (off + i * 2) 2 (wr.row g) = .agg #[.string nm, .slice aT ts.length cT] := u2
                have HGT := Lib.hid hgt
                have HTS := Lib.hid hts
                have HMM := Lib.hid hmm
                clear hgt hmm hts htl k1
                go_upto_region 22 with fail
                refine abs_rows (w := wr) (G := fun W => Code.wp _ _ _ _ W) (by repeat (with_reducible first | assumption | exact grA | apply grB | apply grC | apply grD | refine grE ?_ (by omega) _ | refine grF ?_ (by omega) _ _)) [(wr.heap.size, .cells #[.string nm, .slice aT ts.length cT] 35)] (by simp [go_sem, *]) ?_
                intro w2 gw2 hl
                simp only [List.forall_mem_cons, List.not_mem_nil, false_implies, implies_true, and_true] at hl
                have x9 := hl
                have zx9 := row_sz' x9
                have hg2 := hgj3.trans gw2
                have hgw2 := hgw5.trans hg2
                clear u1 u2 z3
                cases i with
                | zero =>
                  refine wp_region_plus_lit (by kernel_rfl) (by kernel_rfl) ?_
                  repeat (go_big_quiet_step (fail))
                  (refine wpQuiet_nil ?_; intro _ hw'; obtain ⟨xq, hw''⟩ := hw'; subst hw'')
                  cases hfo : findCu own nm with
                  | some tw =>
                    rw [hfo] at HFO
                    clear hfo
                    cases hfd : findCu down nm with
                    | some td =>
                      rw [hfd] at HFD
                      clear hfd
                      go_wp2_with (first | (go_at_call 18; go_loud ((with_reducible refine (HFD.out _ (hgw6.trans (by repeat (with_reducible first | assumption | exact grA | apply grB | apply grC | apply grD | refine grE ?_ (by omega) _ | refine grF ?_ (by omega) _ _)))).mono ?_); rintro r w7 ⟨hg7, u7, rfl, h7, -⟩; (have hg67 : w6.grows w7 := World.grows.trans (by repeat (with_reducible first | assumption | exact grA | apply grB | apply grC | apply grD | refine grE ?_ (by omega) _ | refine grF ?_ (by omega) _ _)) hg7); (have x97 := (hg67.row_eq zx96.1).trans x96); (have zx97 := row_sz' x97))) | (go_at_call 18; go_loud ((with_reducible refine (HFO.out _ (hgw2.trans (by repeat (with_reducible first | assumption | exact grA | apply grB | apply grC | apply grD | refine grE ?_ (by omega) _ | refine grF ?_ (by omega) _ _)))).mono ?_); rintro r w6 ⟨hg6, u6, rfl, -, -⟩; (have hg26 : w2.grows w6 := World.grows.trans (by repeat (with_reducible first | assumption | exact grA | apply grB | apply grC | apply grD | refine grE ?_ (by omega) _ | refine grF ?_ (by omega) _ _)) hg6); (have x96 := (hg26.row_eq zx9.1).trans x9); (have zx96 := row_sz' x96); (have hgw6 := hgw2.trans hg26))))
                      go_roundg (r2.length - 1)
                      case measure => omega
                      case rel => exact ⟨1, Lib.hid ⟨by omega, by omega⟩, by go_num, (hg2.trans (hg26.trans hg67)).trans (by repeat (with_reducible first | assumption | exact grA | apply grB | apply grC | apply grD | refine grE ?_ (by omega) _ | refine grF ?_ (by omega) _ _))⟩
                    | none =>
                      rw [hfd] at HFD
                      clear hfd
                      go_wp2_with (first | (go_at_call 18; go_loud ((with_reducible refine (HFD.out _ (hgw6.trans (by repeat (with_reducible first | assumption | exact grA | apply grB | apply grC | apply grD | refine grE ?_ (by omega) _ | refine grF ?_ (by omega) _ _)))).mono ?_); rintro r w7 ⟨hg7, rfl⟩; (have hg67 : w6.grows w7 := World.grows.trans (by repeat (with_reducible first | assumption | exact grA | apply grB | apply grC | apply grD | refine grE ?_ (by omega) _ | refine grF ?_ (by omega) _ _)) hg7); (have x97 := (hg67.row_eq zx96.1).trans x96); (have zx97 := row_sz' x97))) | (go_at_call 18; go_loud ((with_reducible refine (HFO.out _ (hgw2.trans (by repeat (with_reducible first | assumption | exact grA | apply grB | apply grC | apply grD | refine grE ?_ (by omega) _ | refine grF ?_ (by omega) _ _)))).mono ?_); rintro r w6 ⟨hg6, u6, rfl, -, -⟩; (have hg26 : w2.grows w6 := World.grows.trans (by repeat (with_reducible first | assumption | exact grA | apply grB | apply grC | apply grD | refine grE ?_ (by omega) _ | refine grF ?_ (by omega) _ _)) hg6); (have x96 := (hg26.row_eq zx9.1).trans x9); (have zx96 := row_sz' x96); (have hgw6 := hgw2.trans hg26))))
                      go_roundg (r2.length - 1)
                      case measure => omega
                      case rel => exact ⟨1, Lib.hid ⟨by omega, by omega⟩, by go_num, (hg2.trans (hg26.trans hg67)).trans (by repeat (with_reducible first | assumption | exact grA | apply grB | apply grC | apply grD | refine grE ?_ (by omega) _ | refine grF ?_ (by omega) _ _))⟩
                  | none =>
                    have hfd : findCu down nm = some ts := by rw [← HS2.out.out nm hfo]; exact HMM.out
                    rw [hfo] at HFO
                    rw [hfd] at HFD
                    clear hfo hfd
                    go_upto_region 26 with (first | (go_at_call 18; go_loud ((with_reducible refine (HFD.out _ (hgw6.trans (by repeat (with_reducible first | assumption | exact grA | apply grB | apply grC | apply grD | refine grE ?_ (by omega) _ | refine grF ?_ (by omega) _ _)))).mono ?_); rintro r w7 ⟨hg7, u7, rfl, h7, -⟩; (have hg67 : w6.grows w7 := World.grows.trans (by repeat (with_reducible first | assumption | exact grA | apply grB | apply grC | apply grD | refine grE ?_ (by omega) _ | refine grF ?_ (by omega) _ _)) hg7); (have x97 := (hg67.row_eq zx96.1).trans x96); (have zx97 := row_sz' x97); (obtain ⟨a7, c7, rfl, -, -⟩ := h7.len))) | (go_at_call 18; go_loud ((with_reducible refine (HFO.out _ (hgw2.trans (by repeat (with_reducible first | assumption | exact grA | apply grB | apply grC | apply grD | refine grE ?_ (by omega) _ | refine grF ?_ (by omega) _ _)))).mono ?_); rintro r w6 ⟨hg6, rfl⟩; (have hg26 : w2.grows w6 := World.grows.trans (by repeat (with_reducible first | assumption | exact grA | apply grB | apply grC | apply grD | refine grE ?_ (by omega) _ | refine grF ?_ (by omega) _ _)) hg6); (have x96 := (hg26.row_eq zx9.1).trans x9); (have zx96 := row_sz' x96); (have hgw6 := hgw2.trans hg26))))
                    have HSM := Lib.hid (fun (W : World) (hg : w7.grows W) => fsame_any (h7.grows hg fun _ _ _ h => h) (HTS.out.grows (hg2.trans (hg26.trans (hg67.trans hg))) fun _ _ _ h => h))
                    clear h7
                    go_wp2_with ((go_at_call 10; (with_reducible refine (HSM.out _ (by repeat (with_reducible first | assumption | exact grA | apply grB | apply grC | apply grD | refine grE ?_ (by omega) _ | refine grF ?_ (by omega) _ _))).mono ?_); rintro e w1 ⟨rfl, x1, rfl⟩))
                    go_roundg (r2.length - 1)
                    case measure => omega
                    case rel => exact ⟨1, Lib.hid ⟨by omega, by omega⟩, by go_num, (hg2.trans (hg26.trans hg67)).trans (by repeat (with_reducible first | assumption | exact grA | apply grB | apply grC | apply grD | refine grE ?_ (by omega) _ | refine grF ?_ (by omega) _ _))⟩
                | succ i =>
                  have hgp : r2[i]? = some r2[i] := List.getElem?_eq_getElem (by omega)
                  obtain ⟨gp, offp, csp, ep, -, -, kp, hvp⟩ := HC2.out.elt hgp
                  injection ep with ep
                  injection ep with ep1 ep2
                  subst ep1
                  subst ep2
                  have hbl := rise_next HT2.out.up hgp HGT.out
                  generalize r2[i] = y at *
                  obtain ⟨nmp, tsp⟩ := y
                  obtain ⟨-, tp, rfl, -, -⟩ := hvp
                  have kp2 := kp.grows hg2
                  have cp := kp2.cell (j := 0) rfl
                  rw [World.cell?_row, Nat.add_zero] at cp
                  have zp := lt_sz kp2.lt
                  have p1 : (0 : Int) ≤ (i : Int) := by omega
                  have p2 : (i : Int) < (r2.length : Int) := by omega
                  have p3 : IntKind.i64.wrap (i : Int) = (i : Int) := by rw [IntKind.wrap_i64]; omega
                  have p4 : (0 : Int) < (i : Int) + 1 := by omega
                  simp only at hbl
                  clear hgp kp kp2
                  refine wp_region_plus_lit (by kernel_rfl) (by kernel_rfl) ?_
                  repeat (go_big_quiet_step (fail))
                  (refine wpQuiet_nil ?_; intro _ hw'; obtain ⟨xq, hw''⟩ := hw'; subst hw'')
                  cases hfo : findCu own nm with
                  | some tw =>
                    rw [hfo] at HFO
                    clear hfo
                    cases hfd : findCu down nm with
                    | some td =>
                      rw [hfd] at HFD
                      clear hfd
                      go_wp2_with (first | (go_at_call 18; go_loud ((with_reducible refine (HFD.out _ (hgw6.trans (by repeat (with_reducible first | assumption | exact grA | apply grB | apply grC | apply grD | refine grE ?_ (by omega) _ | refine grF ?_ (by omega) _ _)))).mono ?_); rintro r w7 ⟨hg7, u7, rfl, h7, -⟩; (have hg67 : w6.grows w7 := World.grows.trans (by repeat (with_reducible first | assumption | exact grA | apply grB | apply grC | apply grD | refine grE ?_ (by omega) _ | refine grF ?_ (by omega) _ _)) hg7); (have x97 := (hg67.row_eq zx96.1).trans x96); (have zx97 := row_sz' x97))) | (go_at_call 18; go_loud ((with_reducible refine (HFO.out _ (hgw2.trans (by repeat (with_reducible first | assumption | exact grA | apply grB | apply grC | apply grD | refine grE ?_ (by omega) _ | refine grF ?_ (by omega) _ _)))).mono ?_); rintro r w6 ⟨hg6, u6, rfl, -, -⟩; (have hg26 : w2.grows w6 := World.grows.trans (by repeat (with_reducible first | assumption | exact grA | apply grB | apply grC | apply grD | refine grE ?_ (by omega) _ | refine grF ?_ (by omega) _ _)) hg6); (have x96 := (hg26.row_eq zx9.1).trans x9); (have zx96 := row_sz' x96); (have hgw6 := hgw2.trans hg26))))
                      go_roundg (r2.length - (i+1+1))
                      case measure => omega
                      case rel => exact ⟨(i+1+1), Lib.hid ⟨by omega, by omega⟩, by go_num, (hg2.trans (hg26.trans hg67)).trans (by repeat (with_reducible first | assumption | exact grA | apply grB | apply grC | apply grD | refine grE ?_ (by omega) _ | refine grF ?_ (by omega) _ _))⟩
                    | none =>
                      rw [hfd] at HFD
                      clear hfd
                      go_wp2_with (first | (go_at_call 18; go_loud ((with_reducible refine (HFD.out _ (hgw6.trans (by repeat (with_reducible first | assumption | exact grA | apply grB | apply grC | apply grD | refine grE ?_ (by omega) _ | refine grF ?_ (by omega) _ _)))).mono ?_); rintro r w7 ⟨hg7, rfl⟩; (have hg67 : w6.grows w7 := World.grows.trans (by repeat (with_reducible first | assumption | exact grA | apply grB | apply grC | apply grD | refine grE ?_ (by omega) _ | refine grF ?_ (by omega) _ _)) hg7); (have x97 := (hg67.row_eq zx96.1).trans x96); (have zx97 := row_sz' x97))) | (go_at_call 18; go_loud ((with_reducible refine (HFO.out _ (hgw2.trans (by repeat (with_reducible first | assumption | exact grA | apply grB | apply grC | apply grD | refine grE ?_ (by omega) _ | refine grF ?_ (by omega) _ _)))).mono ?_); rintro r w6 ⟨hg6, u6, rfl, -, -⟩; (have hg26 : w2.grows w6 := World.grows.trans (by repeat (with_reducible first | assumption | exact grA | apply grB | apply grC | apply grD | refine grE ?_ (by omega) _ | refine grF ?_ (by omega) _ _)) hg6); (have x96 := (hg26.row_eq zx9.1).trans x9); (have zx96 := row_sz' x96); (have hgw6 := hgw2.trans hg26))))
                      go_roundg (r2.length - (i+1+1))
                      case measure => omega
                      case rel => exact ⟨(i+1+1), Lib.hid ⟨by omega, by omega⟩, by go_num, (hg2.trans (hg26.trans hg67)).trans (by repeat (with_reducible first | assumption | exact grA | apply grB | apply grC | apply grD | refine grE ?_ (by omega) _ | refine grF ?_ (by omega) _ _))⟩
                  | none =>
                    have hfd : findCu down nm = some ts := by rw [← HS2.out.out nm hfo]; exact HMM.out
                    rw [hfo] at HFO
                    rw [hfd] at HFD
                    clear hfo hfd
                    go_upto_region 26 with (first | (go_at_call 18; go_loud ((with_reducible refine (HFD.out _ (hgw6.trans (by repeat (with_reducible first | assumption | exact grA | apply grB | apply grC | apply grD | refine grE ?_ (by omega) _ | refine grF ?_ (by omega) _ _)))).mono ?_); rintro r w7 ⟨hg7, u7, rfl, h7, -⟩; (have hg67 : w6.grows w7 := World.grows.trans (by repeat (with_reducible first | assumption | exact grA | apply grB | apply grC | apply grD | refine grE ?_ (by omega) _ | refine grF ?_ (by omega) _ _)) hg7); (have x97 := (hg67.row_eq zx96.1).trans x96); (have zx97 := row_sz' x97); (obtain ⟨a7, c7, rfl, -, -⟩ := h7.len))) | (go_at_call 18; go_loud ((with_reducible refine (HFO.out _ (hgw2.trans (by repeat (with_reducible first | assumption | exact grA | apply grB | apply grC | apply grD | refine grE ?_ (by omega) _ | refine grF ?_ (by omega) _ _)))).mono ?_); rintro r w6 ⟨hg6, rfl⟩; (have hg26 : w2.grows w6 := World.grows.trans (by repeat (with_reducible first | assumption | exact grA | apply grB | apply grC | apply grD | refine grE ?_ (by omega) _ | refine grF ?_ (by omega) _ _)) hg6); (have x96 := (hg26.row_eq zx9.1).trans x9); (have zx96 := row_sz' x96); (have hgw6 := hgw2.trans hg26))))
                    have HSM := Lib.hid (fun (W : World) (hg : w7.grows W) => fsame_any (h7.grows hg fun _ _ _ h => h) (HTS.out.grows (hg2.trans (hg26.trans (hg67.trans hg))) fun _ _ _ h => h))
                    clear h7
                    go_wp2_with ((go_at_call 10; (with_reducible refine (HSM.out _ (by repeat (with_reducible first | assumption | exact grA | apply grB | apply grC | apply grD | refine grE ?_ (by omega) _ | refine grF ?_ (by omega) _ _))).mono ?_); rintro e w1 ⟨rfl, x1, rfl⟩))
                    go_roundg (r2.length - (i+1+1))
                    case measure => omega
                    case rel => exact ⟨(i+1+1), Lib.hid ⟨by omega, by omega⟩, by go_num, (hg2.trans (hg26.trans hg67)).trans (by repeat (with_reducible first | assumption | exact grA | apply grB | apply grC | apply grD | refine grE ?_ (by omega) _ | refine grF ?_ (by omega) _ _))⟩
              · have i2 : ¬ (i : Int) < (r2.length : Int) := by omega
                go_wp2_with ((go_at_call 11; (with_reducible refine (HW.out _ (hgwj3.trans (by repeat (with_reducible first | assumption | exact grA | apply grB | apply grC | apply grD | refine grE ?_ (by omega) _ | refine grF ?_ (by omega) _ _)))).mono ?_); rintro e w1 ⟨rfl, x1, rfl⟩))
                go_ret
                exact ⟨rfl, hgwj3.trans (by repeat (with_reducible first | assumption | exact grA | apply grB | apply grC | apply grD | refine grE ?_ (by omega) _ | refine grF ?_ (by omega) _ _))⟩
end Go.Proofs.YthcaphoejplecaaDoor
