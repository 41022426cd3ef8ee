/- Texts of the walk, one after the other; what each proves stands ahead of it. -/
import Derived.Test.YthcaphoejplecaaGreatDoorVr2
import Derived.Test.YthcaphoejplecaaGreatDoorVs1
set_option linter.unusedSimpArgs false
set_option linter.unusedVariables false
/- WALK over jalousieref21: of each name the last one, by rising names. No condition but bounds. -/
namespace Go.Proofs.YthcaphoejplecaaGreatDoor
open Go.RowKit Go.Maps
theorem cu_len {w : World} {S : Nat → Prop} {x : Cu} {cs : List Value} (h : CuR w S x cs) : cs.length = 2 ∧ ∀ u ∈ cs, u.oneCell' = true := by
  obtain ⟨_, u, rfl, hu, _⟩ := h
  obtain ⟨a, c, rfl, _⟩ := hu.len
  refine ⟨rfl, fun v hv => ?_⟩
  simp at hv
  rcases hv with rfl | rfl <;> simp [Value.oneCell']
theorem cells_row {w : World} {g : Nat} {cs : List Value} {e : TypeId} {fr : Nat × Nat} (h : w.row g = some (.cells cs.toArray e fr)) : ∀ j u, cs[j]? = some u → w.cell? ((⟨g, 0, none⟩ : Addr).add j) = some u := by
  intro j u hj
  rw [Addr.add_lit, World.cell?_row, h, Nat.zero_add]
  show cs.toArray[j]? = some u
  simpa using hj
/-- what an own row can be -/
theorem own_cases {w : World} {B n k : Nat} {e : TypeId} {A : Option Addr} {c : Nat} {xs : List Value} (h : w.ownsRow B e n (.slice A k c) k xs) : (k = 0 ∧ A = none ∧ c = 0) ∨ ∃ g, A = some ⟨g, 0, none⟩ ∧ B ≤ g ∧ g < w.heap.size ∧ k ≤ c := by
  obtain ⟨h1, h2⟩ := h
  rcases h2 with ⟨he, h2⟩ | ⟨g, cap, cur, he, hb, hr, hkc, _, hs, ht⟩
  · injection he with e1 e2 e3
    exact .inl ⟨e2, e1, e3⟩
  · injection he with e1 e2 e3
    subst e1; subst e3
    exact .inr ⟨g, rfl, hb, (row_sz' hr).1, hkc⟩
theorem own_at {w : World} {B n k g c : Nat} {e : TypeId} {xs : List Value} (h : w.ownsRow B e n (.slice (some ⟨g, 0, none⟩) k c) k xs) : ∀ j u, xs[j]? = some u → w.cell? ⟨g, j, none⟩ = some u := by
  intro j u hj
  by_cases hk : 0 < k
  · obtain ⟨g', e1, -, -, -, -, hc⟩ := own_some h hk
    injection e1 with e1
    injection e1 with e1
    subst e1
    exact hc j u hj
  · obtain ⟨h1, h2⟩ := h
    have : xs = [] := List.length_eq_zero_iff.1 (by rw [h1, show k = 0 by omega, Nat.zero_mul])
    subst this
    simp at hj
/-- the cells from a place on, and those before it -/
theorem own_cells {w : World} {B k c g q : Nat} {e : TypeId} {css : List (List Value)} (h : w.ownsRow B e 2 (.slice (some ⟨g, 0, none⟩) k c) k css.flatten) (hl : css.length = k) (h2 : ∀ c ∈ css, c.length = 2) (hk : 0 < k) (hq : q ≤ k) :
    (∀ j u, (css.take q).flatten[j]? = some u → w.cell? ((⟨g, 0, none⟩ : Addr).add j) = some u) ∧ ∀ j u, (css.drop q).flatten[j]? = some u → w.cell? ((⟨g, q * 2, none⟩ : Addr).add j) = some u := by
  obtain ⟨g', e1, -, -, -, -, hc⟩ := own_some h hk
  injection e1 with e1
  injection e1 with e1
  subst e1
  have h1 : (css.take q).flatten.length = q * 2 := by
    rw [flat_two _ fun c hc => h2 c (List.mem_of_mem_take hc), List.length_take]
    congr 1; omega
  have e0 : css.flatten = (css.take q).flatten ++ (css.drop q).flatten := by rw [← List.flatten_append, List.take_append_drop]
  refine ⟨fun j u hj => ?_, fun j u hj => ?_⟩
  · rw [Addr.add_lit, Nat.zero_add]
    refine hc j u ?_
    obtain ⟨hj2, -⟩ := List.getElem?_eq_some_iff.1 hj
    rw [e0, List.getElem?_append_left hj2]
    exact hj
  · rw [Addr.add_lit]
    refine hc _ u ?_
    rw [e0, List.getElem?_append_right (by omega), h1, show q * 2 + j - q * 2 = j by omega]
    exact hj
/-- one is put in between -/
theorem own_ins {w w2 : World} {S : Nat → Prop} {B k q : Nat} {v : Value} {css : List (List Value)} {o : List Cu} {x : Cu} {cs : List Value} (h1 : css.length = o.length) (h2 : ∀ (i : Nat) (x : Cu) (cs : List Value), o[i]? = some x → css[i]? = some cs → cs.length = 2 ∧ CuR w S x cs) (hx : CuR w S x cs) (hq : q ≤ o.length) (hk : k = o.length + 1) (hB : w.heap.size ≤ B)
    (h : w2.ownsRow B 30 2 v k ((css.take q).flatten ++ (cs ++ (css.drop q).flatten))) : OwnAt w2 w.heap.size 30 2 (CuR w S) v (o.take q ++ x :: o.drop q) := by
  subst hk
  refine ⟨css.take q ++ cs :: css.drop q, by simp [h1], fun i y ds hi hd => ?_, ?_⟩
  · rcases Nat.lt_trichotomy i q with hlt | he | hgt
    · rw [List.getElem?_append_left (by simp; omega), List.getElem?_take_of_lt hlt] at hi hd
      exact h2 i y ds hi hd
    · subst he
      rw [List.getElem?_append_right (by rw [List.length_take]; exact Nat.min_le_left _ _)] at hi hd
      have e1 : (o.take i).length = i := by simp; omega
      have e2 : (css.take i).length = i := by simp; omega
      rw [e1] at hi
      rw [e2] at hd
      simp at hi hd
      subst hi; subst hd
      exact ⟨(cu_len hx).1, hx⟩
    · obtain ⟨j, rfl⟩ : ∃ j, i = q + 1 + j := ⟨i - (q + 1), by omega⟩
      have e1 : (o.take q).length = q := by simp; omega
      have e2 : (css.take q).length = q := by simp; omega
      rw [List.getElem?_append_right (by omega), e1, show q + 1 + j - q = j + 1 by omega, List.getElem?_cons_succ, List.getElem?_drop] at hi
      rw [List.getElem?_append_right (by omega), e2, show q + 1 + j - q = j + 1 by omega, List.getElem?_cons_succ, List.getElem?_drop] at hd
      exact h2 _ y ds hi hd
  · rw [List.flatten_append, List.flatten_cons]
    have e : (o.take q ++ x :: o.drop q).length = o.length + 1 := by simp; omega
    rw [e]
    exact own_lower hB h
set_option maxRecDepth 100000 in
set_option maxHeartbeats 8000000 in
theorem flast_any {w : World} {S : Nat → Prop} {v : Value} {l : List Cu} (h : CusAt w S v l) (hl : l.length ≤ 8388608) : Calls Tryz.prog 20 #[v] w (LastPost w S l) := by
  obtain ⟨aL, cL, rfl, -, -⟩ := SlAt.len h
  have H := Lib.hid h
  clear h
  go_enter Tryz.func20, Tryz.ntmps20
  go_wp2_with fail
  go_loopg [3, 9] l.length (fun gn v3 v9 wj => ∃ (i : Nat) (o : List Cu) (a : Option Addr) (c : Nat), Hid (gn + i = l.length ∧ i ≤ l.length ∧ o.length ≤ i) ∧ v9 = .int .i64 i ∧ v3 = .slice a o.length c ∧ w.grows wj ∧ Hid (OwnAt wj w.heap.size 30 2 (CuR w S) (.slice a o.length c) o ∧ Tells ((l.take i).foldl byStep fun _ => none) o))
  case atStart => exact ⟨0, [], none, 0, Lib.hid ⟨by simp, Nat.zero_le _, Nat.le_refl _⟩, by go_num, rfl, (by repeat (with_reducible first | assumption | exact grA | apply grB | apply grC | apply grD | refine grE ?_ (by omega) _ | refine grF ?_ (by omega) _ _)), Lib.hid ⟨⟨[], rfl, fun i x cs h => by simp at h, by simpa using World.ownsRow_nil _ _ _ _⟩, Tells.nil⟩⟩
  case round =>
    obtain ⟨i, o, a1, c1, HQ, rfl, rfl, hgj, HO⟩ := hrel
    obtain ⟨j1, j2, j3⟩ := HQ.out
    by_cases hlt : i < l.length
    · have i1 : (0 : Int) ≤ (i : Int) := by omega
      have i2 : (i : Int) < (l.length : Int) := by omega
      have iw : IntKind.i64.wrap ((i : Int) + 1) = (i : Int) + 1 := by rw [IntKind.wrap_i64]; omega
      have hgt : l[i]? = some l[i] := List.getElem?_eq_getElem hlt
      obtain ⟨g, off, cs, rfl, -, -, k1, hv⟩ := H.out.elt hgt
      have HTK := Lib.hid (show (l.take (i + 1)).foldl byStep (fun _ => none) = byStep ((l.take i).foldl byStep fun _ => none) l[i] by rw [List.take_add_one, hgt, List.foldl_append]; rfl)
      generalize l[i] = x at *
      obtain ⟨nm, ts⟩ := x
      have HCX := Lib.hid hv
      obtain ⟨hnm, t, rfl, hts, htl⟩ := hv
      obtain ⟨aT, cT, rfl, -, -⟩ := hts.len
      have HCU := Lib.hid (fun (W : World) => fcustom_any nm W)
      have k2 := k1.grows hgj
      have z3 := lt_sz k2.lt
      obtain ⟨u1, u2⟩ := k2
      replace u1 : segOk (off + i * 2) 2 (wr.row g) = true := u1
      replace u2 : segV (off + i * 2) 2 (wr.row g) = .agg #[.string nm, .slice aT ts.length cT] := u2
      clear hgt hts htl k1
      generalize (l.take i).foldl byStep (fun _ => none) = k at *
      go_upto_region 5 with fail
      refine abs_rows (w := wr) (G := fun W => Code.wp _ _ _ _ W) (by repeat (with_reducible first | assumption | exact grA | apply grB | apply grC | apply grD | refine grE ?_ (by omega) _ | refine grF ?_ (by omega) _ _)) [(wr.heap.size, .cells #[.string nm, .slice aT ts.length cT] 30)] (by simp [go_sem, *]) ?_
      intro w2 gw2 hl
      simp only [List.forall_mem_cons, List.not_mem_nil, false_implies, implies_true, and_true] at hl
      have x9 := hl
      have zx9 := row_sz' x9
      have hg2 := hgj.trans gw2
      clear u1 u2 z3
      cases hc : customB nm with
      | false =>
        rw [hc] at HCU
        have HST := Lib.hid (show byStep k ⟨nm, ts⟩ = k by rw [byStep_set]; simp [hc])
        clear hc
        go_wp2_with ((go_at_call 38; (with_reducible refine (HCU.out _).mono ?_); rintro e w1 ⟨rfl, x1, rfl⟩))
        go_roundg (l.length - (i + 1))
        case measure => omega
        case rel =>
          refine ⟨i + 1, o, a1, c1, Lib.hid ⟨by omega, by omega, by omega⟩, by go_num, rfl, hg2.trans (by repeat (with_reducible first | assumption | exact grA | apply grB | apply grC | apply grD | refine grE ?_ (by omega) _ | refine grF ?_ (by omega) _ _)), Lib.hid ⟨?_, by rw [HTK.out, HST.out]; exact HO.out.2⟩⟩
          obtain ⟨css, q1, q2, q3⟩ := HO.out.1
          exact ⟨css, q1, q2, World.ownsRow.grows q3 (gw2.trans (by repeat (with_reducible first | assumption | exact grA | apply grB | apply grC | apply grD | refine grE ?_ (by omega) _ | refine grF ?_ (by omega) _ _)))⟩
      | true =>
        rw [hc] at HCU
        have HST := Lib.hid (show byStep k ⟨nm, ts⟩ = setK k nm (some ts) by rw [byStep_set]; simp [hc])
        clear hc
        obtain ⟨css, q1, q2, q3⟩ := HO.out.1
        have HQ3 := Lib.hid (World.ownsRow.grows q3 gw2)
        have HQ1 := Lib.hid q1
        have HQ2 := Lib.hid q2
        have hq3 := World.ownsRow.grows q3 gw2
        have hSO : CusAt w2 (fun g => w.heap.size ≤ g ∧ g < w2.heap.size) (.slice a1 o.length c1) o ∨ True := .inr trivial
        have hsl : SlAt w2 (fun g => w.heap.size ≤ g ∧ g < w2.heap.size) 2 (CuR w S) (.slice a1 o.length c1) o := OwnAt.slAt ⟨css, q1, q2, hq3⟩ (by omega) fun g hg => hq3.lt g hg
        have HSL := Lib.hid hsl
        have hgetx : ∀ c ∈ css, c.length = 2 ∧ ∀ u ∈ c, u.oneCell' = true := fun c hc => by
          obtain ⟨j, hj, rfl⟩ := List.mem_iff_getElem.1 hc
          have hj2 : j < o.length := by omega
          exact cu_len (q2 j o[j] _ (List.getElem?_eq_getElem hj2) (List.getElem?_eq_getElem hj)).2
        have HCL := Lib.hid (fun c hc => (hgetx c hc).1)
        have HC1 : Hid (∀ u ∈ css.flatten, u.oneCell' = true) := Lib.hid fun u hu => by
          rw [List.mem_flatten] at hu
          obtain ⟨c, h1, h2⟩ := hu
          exact (hgetx c h1).2 u h2
        clear hgetx
        have HT := Lib.hid HO.out.2
        have hs2 := gw2.below.size
        have hx9 : wr.heap.size < w2.heap.size := zx9.1
        have hol : o.length ≤ 8388608 := by omega
        have hob : ∀ gg, (Value.slice a1 o.length c1).ownBlock = some gg → gg < wr.heap.size := fun gg hg => (q3.lt gg hg).2
        have HOB := Lib.hid hob
        clear q1 q2 q3 hq3 hSO hsl HO hob
        generalize wr.heap.size = b9 at *
        go_wp2_with ((go_at_call 38; (with_reducible refine (HCU.out _).mono ?_); rintro e w1 ⟨rfl, x1, rfl⟩))
        go_loopg [6] o.length (fun gn v6 wj => ∃ q : Nat, Hid (gn + q = o.length ∧ q ≤ o.length) ∧ v6 = .int .i64 q ∧ w2.grows wj ∧ Hid (∀ j d, j < q → o[j]? = some d → d.n.data.toList < nm.data.toList))
        case atStart => exact ⟨0, Lib.hid ⟨by simp, Nat.zero_le _⟩, by go_num, (by repeat (with_reducible first | assumption | exact grA | apply grB | apply grC | apply grD | refine grE ?_ (by omega) _ | refine grF ?_ (by omega) _ _)), Lib.hid fun j d h => by omega⟩
        case round =>
          obtain ⟨q, HP, rfl, hgq, HN⟩ := hrel
          obtain ⟨p1, p2⟩ := HP.out
          have x99 := (hgq.row_eq zx9.1).trans x9
          have zx99 := row_sz' x99
          by_cases hq : q < o.length
          · have n1 : (0 : Int) ≤ (q : Int) := by omega
            have n2 : (q : Int) < (o.length : Int) := by omega
            have nw : IntKind.i64.wrap ((q : Int) + 1) = (q : Int) + 1 := by rw [IntKind.wrap_i64]; omega
            have hgo : o[q]? = some o[q] := List.getElem?_eq_getElem hq
            obtain ⟨gO, rfl, hgB, hgl, hkc, -, -⟩ := own_some HQ3.out (by omega)
            obtain ⟨gO', offO, csO, eO, hSg, -, kO, hvO⟩ := HSL.out.elt hgo
            injection eO with eO
            injection eO with eO1 eO2
            subst eO1
            subst eO2
            generalize o[q] = d at *
            obtain ⟨nd, td⟩ := d
            obtain ⟨-, tO, rfl, -, -⟩ := hvO
            have kO2 := kO.grows hgq
            have cO := kO2.cell (j := 0) rfl
            rw [World.cell?_row, Nat.add_zero, Nat.zero_add] at cO
            have zO := lt_sz kO2.lt
            have HGO := Lib.hid hgo
            clear kO kO2 hgo
            by_cases hlt2 : nd.data.toList < nm.data.toList
            · have hbl : Op.bytesLess nd.toList nm.toList = true := by rw [bytesLess_iff]; exact decide_eq_true hlt2
              have HLT := Lib.hid hlt2
              clear hlt2
              go_upto_region 7 with fail
              refine wp_region_plus_lit (by kernel_rfl) (by kernel_rfl) ?_
              repeat (go_big_quiet_step (fail))
              (refine wpQuiet_nil ?_; intro _ hw'; obtain ⟨xq, hw''⟩ := hw'; subst hw'')
              go_wp2_with fail
              go_roundg (o.length - (q + 1))
              case measure => omega
              case rel => exact ⟨q + 1, Lib.hid ⟨by omega, by omega⟩, by go_num, hgq.trans (by repeat (with_reducible first | assumption | exact grA | apply grB | apply grC | apply grD | refine grE ?_ (by omega) _ | refine grF ?_ (by omega) _ _)), Lib.hid fun j d h1 h2 => by
                by_cases e : j = q
                · subst e; rw [HGO.out] at h2; injection h2 with h2; rw [← h2]; exact HLT.out
                · exact HN.out j d (by omega) h2⟩
            · have hbl : Op.bytesLess nd.toList nm.toList = false := by rw [bytesLess_iff]; exact decide_eq_false hlt2
              have HLT := Lib.hid hlt2
              clear hlt2
              go_upto_region 7 with fail
              refine wp_region_plus_lit (by kernel_rfl) (by kernel_rfl) ?_
              repeat (go_big_quiet_step (fail))
              (refine wpQuiet_nil ?_; intro _ hw'; obtain ⟨xq, hw''⟩ := hw'; subst hw'')
              by_cases hnn : nd = nm
              · subst hnn
                have hb : (nd.toList == nd.toList) = true := by simp
                go_upto_region 9 with fail
                refine wp_region_plus_lit (by kernel_rfl) (by kernel_rfl) ?_
                repeat (go_big_quiet_step (fail))
                (refine wpQuiet_nil ?_; intro _ hw'; obtain ⟨xq, hw''⟩ := hw'; subst hw'')
                go_upto_region 10 with fail
                refine abs_rows (w := wr) (G := fun W => Code.wp _ _ _ _ W) (by repeat (with_reducible first | assumption | exact grA | apply grB | apply grC | apply grD | refine grE ?_ (by omega) _ | refine grF ?_ (by omega) _ _)) [(b9, .cells #[.string nd, .slice aT ts.length cT] 30)] (by simp [go_sem, *]) ?_
                intro w4 gw4 hl
                simp only [List.forall_mem_cons, List.not_mem_nil, false_implies, implies_true, and_true] at hl
                have x94 := hl
                have zx94 := row_sz' x94
                have hg4 : w2.grows w4 := hgq.trans gw4
                have HQ4 := Lib.hid (World.ownsRow.grows HQ3.out hg4)
                have hst := run_store2 (P := Tryz.prog) w4 30 gO (q * 2) (.string nd) (.slice aT ts.length cT) (by kernel_rfl) (by simp [Value.oneCell']) (by simp [Value.oneCell']) (by
                  obtain ⟨g', e1, _, _, _, hth, _⟩ := own_some HQ4.out (by omega)
                  injection e1 with e1
                  injection e1 with e1
                  subst e1
                  intro j hj
                  have := hth (q * 2 + j) (by omega)
                  rwa [Nat.zero_add] at this)
                have hgS : w.grows ((w4.setCell ⟨gO, q * 2, none⟩ (.string nd)).setCell ⟨gO, q * 2 + 1, none⟩ (.slice aT ts.length cT)) := World.grows.setCell' (World.grows.setCell' (hg2.trans hg4) hgB _ _) hgB _ _
                have HOS := Lib.hid (own_set2 (v0 := .string nd) (v1 := .slice aT ts.length cT) HQ4.out HQ1.out (fun c hc => by
                  obtain ⟨j, hj, rfl⟩ := List.mem_iff_getElem.1 hc
                  have hj2 : j < o.length := by have := HQ1.out; omega
                  exact (HQ2.out j o[j] _ (List.getElem?_eq_getElem hj2) (List.getElem?_eq_getElem hj)).1) hq)
                have hgz4 := (row_sz' x94).1
                clear cO zO x99 zx99
                go_wp2_with fail
                go_roundg (l.length - (i + 1))
                case measure => omega
                case rel =>
                  refine ⟨i + 1, o.set q ⟨nd, ts⟩, _, c1, Lib.hid ⟨by omega, by omega, by simp; omega⟩, by go_num, by rw [List.length_set], hgS, Lib.hid ⟨⟨css.set q [.string nd, .slice aT ts.length cT], by simp [HQ1.out], fun j x cs h1 h2 => ?_, by rw [List.length_set]; exact HOS.out⟩, ?_⟩⟩
                  · by_cases e : q = j
                    · subst e
                      rw [List.getElem?_set_self (by omega)] at h1
                      rw [List.getElem?_set_self (by have := HQ1.out; omega)] at h2
                      cases h1; cases h2
                      exact ⟨rfl, HCX.out⟩
                    · rw [List.getElem?_set_ne e] at h1 h2
                      exact HQ2.out j x cs h1 h2
                  · rw [HTK.out, HST.out]
                    exact HT.out.at_put (c := ⟨nd, ts⟩) HGO.out rfl
              · have hb : (nd.toList == nm.toList) = false := by
                  rw [beq_eq_false_iff_ne]; exact fun e => hnn (ba_toList_inj e)
                have hb2 : ¬ nd.toList = nm.toList := fun e => hnn (ba_toList_inj e)
                have HBI := Lib.hid (u8_lt_of HLT.out fun e => hnn (ba_inj e))
                clear hnn
                go_upto_region 9 with fail
                refine wp_region_plus_lit (by kernel_rfl) (by kernel_rfl) ?_
                repeat (go_big_quiet_step (fail))
                (refine wpQuiet_nil ?_; intro _ hw'; obtain ⟨xq, hw''⟩ := hw'; subst hw'')
                go_upto_region 11 with fail
                refine abs_rows (w := wr) (G := fun W => Code.wp _ _ _ _ W) (by repeat (with_reducible first | assumption | exact grA | apply grB | apply grC | apply grD | refine grE ?_ (by omega) _ | refine grF ?_ (by omega) _ _)) [(b9, .cells #[.string nm, .slice aT ts.length cT] 30)] (by simp [go_sem, *]) ?_
                intro w4 gw4 hl
                simp only [List.forall_mem_cons, List.not_mem_nil, false_implies, implies_true, and_true] at hl
                have x94 := hl
                have zx94 := row_sz' x94
                have hg4 : w2.grows w4 := hgq.trans gw4
                have HQ4 := Lib.hid (World.ownsRow.grows HQ3.out hg4)
                have hgz4 := (row_sz' x94).1
                have hcq : ¬ (c1 : Int) = (q : Int) := by omega
                have hcq2 : ¬ c1 = q := by omega
                have hcq3 : (q : Int) ≤ (c1 : Int) := by omega
                have hcq4 : q ≤ c1 := by omega
                have hcq5 : (q : Int) ≤ (o.length : Int) := by omega
                have hcq6 : q ≤ o.length := by omega
                have hcq7 : (o.length : Int) ≤ (c1 : Int) := by omega
                clear cO zO x99 zx99
                refine wp_region_plus_seq (by kernel_rfl) (by kernel_rfl) (fun x0 => ?_)
                repeat (any_goals (first | (refine wpSeqL_free rfl ?_; first | (go_big_quiet_skip; refine wpQuiet_nil ?_) | (go_big_quiet_step (fail); refine wpQuiet_nil ?_) | (refine wpQuiet_step (fun K hK => ?_); go_simp; split <;> (refine hK _ ?_; clear hK K; refine wpQuiet_nil ?_))) | (refine wpSeqL_link rfl (fun K hK => ?_); go_simp; first | first | (refine hK _ _ (by show World.grows _ _; repeat (first | assumption | exact grA | apply grB | apply grC | apply grD)) ?_; clear hK K) | ((fail); refine ⟨_, rfl, hK _ _ (by show World.grows _ _; repeat (first | assumption | exact grA | apply grB | apply grC | apply grD)) ?_⟩; clear hK K) | (split <;> (first | (refine hK _ _ (by show World.grows _ _; repeat (first | assumption | exact grA | apply grB | apply grC | apply grD)) ?_; clear hK K) | ((fail); refine ⟨_, rfl, hK _ _ (by show World.grows _ _; repeat (first | assumption | exact grA | apply grB | apply grC | apply grD)) ?_⟩; clear hK K))))))
                have hgr0 : w4.grows ((w4.plus x0).alloc (Obj.cells #[.string nm, .slice aT ts.length cT] 30)) := (by repeat (with_reducible first | assumption | exact grA | apply grB | apply grC | apply grD | refine grE ?_ (by omega) _ | refine grF ?_ (by omega) _ _))
                have HC0 := Lib.hid (own_cells (World.ownsRow.grows HQ4.out hgr0) HQ1.out HCL.out (by omega) hcq6)
                refine wpSeqL_appFullO rfl rfl (.tmp 56) (.tmp 59) 22 rfl 30 (n := 2) (by' := 40) (z := .agg #[.string ByteArray.empty, .slice none 0 0]) Tryz.underlying22 (by kernel_rfl) rfl (by omega) (by omega) (k := 1) (m := o.length - q) [.string nm, .slice aT ts.length cT] ((css.drop q).flatten) rfl rfl rfl (.inr ⟨_, rfl, cells_row (e := 30) (fr := (0, 0)) (by simp [go_sem])⟩) (by rw [flat_two _ fun c hc => HCL.out c (List.mem_of_mem_drop hc), List.length_drop, HQ1.out]) HC0.out.2 (fun u hu => HC1.out u (by rw [List.mem_flatten] at hu ⊢; obtain ⟨c, h1, h2⟩ := hu; exact ⟨c, List.mem_of_mem_drop h1, h2⟩)) (by omega) (by omega) ?_
                intro A' c' w' hn' hI'
                obtain ⟨gA, rfl, -, -, -, -, hcA⟩ := own_some hI'.out (by omega)
                have hgr' : w4.grows w' := World.grows.grown hgr0 hn' (fun k hk => by cases hk)
                refine ⟨hgr', ?_⟩
                go_simp
                have HC2 := Lib.hid (own_cells (World.ownsRow.grows HQ4.out hgr') HQ1.out HCL.out (by omega) hcq6)
                refine wpSeqL_appFullO rfl rfl (.tmp 54) (.tmp 60) 22 rfl 30 (n := 2) (by' := 40) (z := .agg #[.string ByteArray.empty, .slice none 0 0]) Tryz.underlying22 (by kernel_rfl) rfl (by omega) (by omega) (k := q) (m := 1 + (o.length - q)) ((css.take q).flatten) ([.string nm, .slice aT ts.length cT] ++ (css.drop q).flatten) rfl rfl (by rw [flat_two _ fun c hc => HCL.out c (List.mem_of_mem_take hc), List.length_take, HQ1.out, Nat.min_eq_left hcq6]) (.inr ⟨_, rfl, HC2.out.1⟩) (by rw [List.length_append, flat_two _ fun c hc => HCL.out c (List.mem_of_mem_drop hc), List.length_drop, HQ1.out]; simp; omega) ?_ (fun u hu => ?_) (by omega) (by omega) ?_
                · intro j u hj
                  rw [Addr.add_lit, Nat.zero_add]
                  exact hcA j u hj
                · rw [List.mem_append] at hu
                  rcases hu with hu | hu
                  · simp at hu
                    rcases hu with rfl | rfl <;> simp [Value.oneCell']
                  · exact HC1.out u (by rw [List.mem_flatten] at hu ⊢; obtain ⟨c, h1, h2⟩ := hu; exact ⟨c, List.mem_of_mem_drop h1, h2⟩)
                intro A2 c2 w2' hn2 hI2
                have hgr2 : w4.grows w2' := World.grows.grown hgr' hn2 (fun k hk => by cases hk)
                have hgw2 : w.grows w2' := (hg2.trans hg4).trans hgr2
                refine ⟨hgr2, ?_⟩
                have hgw' : w.grows w' := (hg2.trans hg4).trans hgr'
                go_simp
                repeat (any_goals (first | (refine wpSeqL_free rfl ?_; first | (go_big_quiet_skip; refine wpQuiet_nil ?_) | (go_big_quiet_step (fail); refine wpQuiet_nil ?_) | (refine wpQuiet_step (fun K hK => ?_); go_simp; split <;> (refine hK _ ?_; clear hK K; refine wpQuiet_nil ?_))) | (refine wpSeqL_link rfl (fun K hK => ?_); go_simp; first | first | (refine hK _ _ (by show World.grows _ _; repeat (first | assumption | exact grA | apply grB | apply grC | apply grD)) ?_; clear hK K) | ((fail); refine ⟨_, rfl, hK _ _ (by show World.grows _ _; repeat (first | assumption | exact grA | apply grB | apply grC | apply grD)) ?_⟩; clear hK K) | (split <;> (first | (refine hK _ _ (by show World.grows _ _; repeat (first | assumption | exact grA | apply grB | apply grC | apply grD)) ?_; clear hK K) | ((fail); refine ⟨_, rfl, hK _ _ (by show World.grows _ _; repeat (first | assumption | exact grA | apply grB | apply grC | apply grD)) ?_⟩; clear hK K))))))
                refine wpSeqL_end ?_
                go_wp2_with fail
                go_roundg (l.length - (i + 1))
                case measure => omega
                case rel =>
                  have HLN := Lib.hid (show (o.take q ++ (⟨nm, ts⟩ : Cu) :: o.drop q).length = q + (1 + (o.length - q)) by simp; omega)
                  refine ⟨i + 1, o.take q ++ ⟨nm, ts⟩ :: o.drop q, A2, c2, Lib.hid ⟨by omega, by omega, by simp; omega⟩, by go_num, by rw [HLN.out], hgw2.trans (by repeat (with_reducible first | assumption | exact grA | apply grB | apply grC | apply grD | refine grE ?_ (by omega) _ | refine grF ?_ (by omega) _ _)), Lib.hid ⟨by rw [HLN.out]; exact own_ins HQ1.out HQ2.out HCX.out hcq6 (by omega) (hgw'.below.size) (World.ownsRow.grows hI2.out (by repeat (with_reducible first | assumption | exact grA | apply grB | apply grC | apply grD | refine grE ?_ (by omega) _ | refine grF ?_ (by omega) _ _))), ?_⟩⟩
                  · rw [HTK.out, HST.out]
                    exact HT.out.at_ins (c := ⟨nm, ts⟩) hcq6 HN.out (fun d hd => by rw [HGO.out] at hd; injection hd with hd; rw [← hd]; exact HBI.out)
          · have n2 : ¬ (q : Int) < (o.length : Int) := by omega
            obtain rfl : q = o.length := by omega
            go_upto_region 7 with fail
            refine wp_region_plus_lit (by kernel_rfl) (by kernel_rfl) ?_
            repeat (go_big_quiet_step (fail))
            (refine wpQuiet_nil ?_; intro _ hw'; obtain ⟨xq, hw''⟩ := hw'; subst hw'')
            go_upto_region 9 with fail
            refine wp_region_plus_lit (by kernel_rfl) (by kernel_rfl) ?_
            repeat (go_big_quiet_step (fail))
            (refine wpQuiet_nil ?_; intro _ hw'; obtain ⟨xq, hw''⟩ := hw'; subst hw'')
            go_upto_region 11 with fail
            rcases own_cases HQ3.out with ⟨hk0, rfl, rfl⟩ | ⟨gO, rfl, hgB, hgl, hkc⟩
            · obtain rfl : o = [] := List.length_eq_zero_iff.1 hk0
              skip
              refine abs_rows (w := wr) (G := fun W => Code.wp _ _ _ _ W) (by repeat (with_reducible first | assumption | exact grA | apply grB | apply grC | apply grD | refine grE ?_ (by omega) _ | refine grF ?_ (by omega) _ _)) [(b9, .cells #[.string nm, .slice aT ts.length cT] 30)] (by simp [go_sem, *]) ?_
              intro w4 gw4 hl
              simp only [List.forall_mem_cons, List.not_mem_nil, false_implies, implies_true, and_true] at hl
              have x94 := hl
              have zx94 := row_sz' x94
              have hg4 : w2.grows w4 := hgq.trans gw4
              have HQ4 := Lib.hid (World.ownsRow.grows HQ3.out hg4)
              have hgz4 := (row_sz' x94).1
              have HE := Lib.hid (show (css.drop ([] : List Cu).length).flatten = [] by rw [List.drop_eq_nil_of_le (by rw [HQ1.out]; exact Nat.le_refl _)]; rfl)
              clear x99 zx99
              refine wp_region_plus_seq (by kernel_rfl) (by kernel_rfl) (fun x0 => ?_)
              iterate 10 (any_goals (first | (refine wpSeqL_free rfl ?_; first | (go_big_quiet_skip; refine wpQuiet_nil ?_) | (go_big_quiet_step (fail); refine wpQuiet_nil ?_) | (refine wpQuiet_step (fun K hK => ?_); go_simp; split <;> (refine hK _ ?_; clear hK K; refine wpQuiet_nil ?_))) | (refine wpSeqL_link rfl (fun K hK => ?_); go_simp; first | first | (refine hK _ _ (by show World.grows _ _; repeat (first | assumption | exact grA | apply grB | apply grC | apply grD)) ?_; clear hK K) | ((fail); refine ⟨_, rfl, hK _ _ (by show World.grows _ _; repeat (first | assumption | exact grA | apply grB | apply grC | apply grD)) ?_⟩; clear hK K) | (split <;> (first | (refine hK _ _ (by show World.grows _ _; repeat (first | assumption | exact grA | apply grB | apply grC | apply grD)) ?_; clear hK K) | ((fail); refine ⟨_, rfl, hK _ _ (by show World.grows _ _; repeat (first | assumption | exact grA | apply grB | apply grC | apply grD)) ?_⟩; clear hK K))))))
              have hgr0 : w4.grows ((w4.plus x0).alloc (Obj.cells #[.string nm, .slice aT ts.length cT] 30)) := (by repeat (with_reducible first | assumption | exact grA | apply grB | apply grC | apply grD | refine grE ?_ (by omega) _ | refine grF ?_ (by omega) _ _))
              refine wpSeqL_appFullO rfl rfl (.tmp 54) (.tmp 60) 22 rfl 30 (n := 2) (by' := 40) (z := .agg #[.string ByteArray.empty, .slice none 0 0]) Tryz.underlying22 (by kernel_rfl) rfl (by omega) (by omega) (k := ([] : List Cu).length) (m := 1) ((css.take ([] : List Cu).length).flatten) ([.string nm, .slice aT ts.length cT]) rfl rfl (by rw [flat_two _ fun c hc => HCL.out c (List.mem_of_mem_take hc), List.length_take, HQ1.out, Nat.min_self]) ?_ rfl (cells_row (e := 30) (fr := (0, 0)) (by simp [go_sem])) (fun u hu => by simp at hu; rcases hu with rfl | rfl <;> simp [Value.oneCell']) (by omega) (by omega) ?_
              · exact .inl rfl
              intro A2 c2 w2' hn2 hI2
              have hgr2 : w4.grows w2' := World.grows.grown hgr0 hn2 (fun k hk => by cases hk)
              have hgw2 : w.grows w2' := (hg2.trans hg4).trans hgr2
              refine ⟨hgr2, ?_⟩
              have hgw' : w.grows ((w4.plus x0).alloc (Obj.cells #[.string nm, .slice aT ts.length cT] 30)) := (hg2.trans hg4).trans hgr0
              go_simp
              repeat (any_goals (first | (refine wpSeqL_free rfl ?_; first | (go_big_quiet_skip; refine wpQuiet_nil ?_) | (go_big_quiet_step (fail); refine wpQuiet_nil ?_) | (refine wpQuiet_step (fun K hK => ?_); go_simp; split <;> (refine hK _ ?_; clear hK K; refine wpQuiet_nil ?_))) | (refine wpSeqL_link rfl (fun K hK => ?_); go_simp; first | first | (refine hK _ _ (by show World.grows _ _; repeat (first | assumption | exact grA | apply grB | apply grC | apply grD)) ?_; clear hK K) | ((fail); refine ⟨_, rfl, hK _ _ (by show World.grows _ _; repeat (first | assumption | exact grA | apply grB | apply grC | apply grD)) ?_⟩; clear hK K) | (split <;> (first | (refine hK _ _ (by show World.grows _ _; repeat (first | assumption | exact grA | apply grB | apply grC | apply grD)) ?_; clear hK K) | ((fail); refine ⟨_, rfl, hK _ _ (by show World.grows _ _; repeat (first | assumption | exact grA | apply grB | apply grC | apply grD)) ?_⟩; clear hK K))))))
              refine wpSeqL_end ?_
              go_wp2_with fail
              go_roundg (l.length - (i + 1))
              case measure => omega
              case rel =>
                have HLN := Lib.hid (show (([] : List Cu).take ([] : List Cu).length ++ (⟨nm, ts⟩ : Cu) :: ([] : List Cu).drop ([] : List Cu).length).length = ([] : List Cu).length + 1 by simp)
                refine ⟨i + 1, ([] : List Cu).take ([] : List Cu).length ++ ⟨nm, ts⟩ :: ([] : List Cu).drop ([] : List Cu).length, A2, c2, Lib.hid ⟨by omega, by omega, by simp <;> omega⟩, by go_num, rfl, hgw2.trans (by repeat (with_reducible first | assumption | exact grA | apply grB | apply grC | apply grD | refine grE ?_ (by omega) _ | refine grF ?_ (by omega) _ _)), Lib.hid ⟨by rw [HLN.out]; exact own_ins HQ1.out HQ2.out HCX.out (Nat.le_refl _) rfl (hgw'.below.size) (by rw [HE.out, List.append_nil]; exact World.ownsRow.grows hI2.out (by repeat (with_reducible first | assumption | exact grA | apply grB | apply grC | apply grD | refine grE ?_ (by omega) _ | refine grF ?_ (by omega) _ _))), ?_⟩⟩
                rw [HTK.out, HST.out]
                exact HT.out.at_ins (c := ⟨nm, ts⟩) (Nat.le_refl _) HN.out (fun d hd => by rw [List.getElem?_eq_none (Nat.le_refl _)] at hd; cases hd)
            · by_cases hcw : c1 = o.length
              · subst hcw
                refine abs_rows (w := wr) (G := fun W => Code.wp _ _ _ _ W) (by repeat (with_reducible first | assumption | exact grA | apply grB | apply grC | apply grD | refine grE ?_ (by omega) _ | refine grF ?_ (by omega) _ _)) [(b9, .cells #[.string nm, .slice aT ts.length cT] 30)] (by simp [go_sem, *]) ?_
                intro w4 gw4 hl
                simp only [List.forall_mem_cons, List.not_mem_nil, false_implies, implies_true, and_true] at hl
                have x94 := hl
                have zx94 := row_sz' x94
                have hg4 : w2.grows w4 := hgq.trans gw4
                have HQ4 := Lib.hid (World.ownsRow.grows HQ3.out hg4)
                have hgz4 := (row_sz' x94).1
                have HE := Lib.hid (show (css.drop o.length).flatten = [] by rw [List.drop_eq_nil_of_le (by rw [HQ1.out]; exact Nat.le_refl _)]; rfl)
                clear x99 zx99
                refine wp_region_plus_seq (by kernel_rfl) (by kernel_rfl) (fun x0 => ?_)
                repeat (any_goals (first | (refine wpSeqL_free rfl ?_; first | (go_big_quiet_skip; refine wpQuiet_nil ?_) | (go_big_quiet_step (fail); refine wpQuiet_nil ?_) | (refine wpQuiet_step (fun K hK => ?_); go_simp; split <;> (refine hK _ ?_; clear hK K; refine wpQuiet_nil ?_))) | (refine wpSeqL_link rfl (fun K hK => ?_); go_simp; first | first | (refine hK _ _ (by show World.grows _ _; repeat (first | assumption | exact grA | apply grB | apply grC | apply grD)) ?_; clear hK K) | ((fail); refine ⟨_, rfl, hK _ _ (by show World.grows _ _; repeat (first | assumption | exact grA | apply grB | apply grC | apply grD)) ?_⟩; clear hK K) | (split <;> (first | (refine hK _ _ (by show World.grows _ _; repeat (first | assumption | exact grA | apply grB | apply grC | apply grD)) ?_; clear hK K) | ((fail); refine ⟨_, rfl, hK _ _ (by show World.grows _ _; repeat (first | assumption | exact grA | apply grB | apply grC | apply grD)) ?_⟩; clear hK K))))))
                have hgr0 : w4.grows ((w4.plus x0).alloc (Obj.cells #[.string nm, .slice aT ts.length cT] 30)) := (by repeat (with_reducible first | assumption | exact grA | apply grB | apply grC | apply grD | refine grE ?_ (by omega) _ | refine grF ?_ (by omega) _ _))
                refine wpSeqL_appFullO rfl rfl (.tmp 54) (.tmp 60) 22 rfl 30 (n := 2) (by' := 40) (z := .agg #[.string ByteArray.empty, .slice none 0 0]) Tryz.underlying22 (by kernel_rfl) rfl (by omega) (by omega) (k := o.length) (m := 1) ((css.take o.length).flatten) ([.string nm, .slice aT ts.length cT]) rfl rfl (by rw [flat_two _ fun c hc => HCL.out c (List.mem_of_mem_take hc), List.length_take, HQ1.out, Nat.min_self]) ?_ rfl (cells_row (e := 30) (fr := (0, 0)) (by simp [go_sem])) (fun u hu => by simp at hu; rcases hu with rfl | rfl <;> simp [Value.oneCell']) (by omega) (by omega) ?_
                · refine .inr ⟨_, rfl, ?_⟩
                  intro j u hj
                  rw [Addr.add_lit, Nat.zero_add]
                  have hj' : css.flatten[j]? = some u := by rw [← HQ1.out, List.take_length] at hj; exact hj
                  exact own_at (World.ownsRow.grows HQ4.out hgr0) j u hj'
                intro A2 c2 w2' hn2 hI2
                have hgr2 : w4.grows w2' := World.grows.grown hgr0 hn2 (fun k hk => by cases hk)
                have hgw2 : w.grows w2' := (hg2.trans hg4).trans hgr2
                refine ⟨hgr2, ?_⟩
                have hgw' : w.grows ((w4.plus x0).alloc (Obj.cells #[.string nm, .slice aT ts.length cT] 30)) := (hg2.trans hg4).trans hgr0
                go_simp
                repeat (any_goals (first | (refine wpSeqL_free rfl ?_; first | (go_big_quiet_skip; refine wpQuiet_nil ?_) | (go_big_quiet_step (fail); refine wpQuiet_nil ?_) | (refine wpQuiet_step (fun K hK => ?_); go_simp; split <;> (refine hK _ ?_; clear hK K; refine wpQuiet_nil ?_))) | (refine wpSeqL_link rfl (fun K hK => ?_); go_simp; first | first | (refine hK _ _ (by show World.grows _ _; repeat (first | assumption | exact grA | apply grB | apply grC | apply grD)) ?_; clear hK K) | ((fail); refine ⟨_, rfl, hK _ _ (by show World.grows _ _; repeat (first | assumption | exact grA | apply grB | apply grC | apply grD)) ?_⟩; clear hK K) | (split <;> (first | (refine hK _ _ (by show World.grows _ _; repeat (first | assumption | exact grA | apply grB | apply grC | apply grD)) ?_; clear hK K) | ((fail); refine ⟨_, rfl, hK _ _ (by show World.grows _ _; repeat (first | assumption | exact grA | apply grB | apply grC | apply grD)) ?_⟩; clear hK K))))))
                refine wpSeqL_end ?_
                go_wp2_with fail
                go_roundg (l.length - (i + 1))
                case measure => omega
                case rel =>
                  have HLN := Lib.hid (show (o.take o.length ++ (⟨nm, ts⟩ : Cu) :: o.drop o.length).length = o.length + 1 by simp)
                  refine ⟨i + 1, o.take o.length ++ ⟨nm, ts⟩ :: o.drop o.length, A2, c2, Lib.hid ⟨by omega, by omega, by simp; omega⟩, by go_num, by rw [HLN.out], hgw2.trans (by repeat (with_reducible first | assumption | exact grA | apply grB | apply grC | apply grD | refine grE ?_ (by omega) _ | refine grF ?_ (by omega) _ _)), Lib.hid ⟨by rw [HLN.out]; exact own_ins HQ1.out HQ2.out HCX.out (Nat.le_refl _) rfl (hgw'.below.size) (by rw [HE.out, List.append_nil]; exact World.ownsRow.grows hI2.out (by repeat (with_reducible first | assumption | exact grA | apply grB | apply grC | apply grD | refine grE ?_ (by omega) _ | refine grF ?_ (by omega) _ _))), ?_⟩⟩
                  rw [HTK.out, HST.out]
                  exact HT.out.at_ins (c := ⟨nm, ts⟩) (Nat.le_refl _) HN.out (fun d hd => by rw [List.getElem?_eq_none (Nat.le_refl _)] at hd; cases hd)
              · have hcq : ¬ (c1 : Int) = (o.length : Int) := by omega
                have hcq3 : (o.length : Int) ≤ (c1 : Int) := by omega
                have hcq4 : o.length < c1 := by omega
                have hcq5 : (o.length : Int) < (c1 : Int) := by omega
                refine abs_rows (w := wr) (G := fun W => Code.wp _ _ _ _ W) (by repeat (with_reducible first | assumption | exact grA | apply grB | apply grC | apply grD | refine grE ?_ (by omega) _ | refine grF ?_ (by omega) _ _)) [(b9, .cells #[.string nm, .slice aT ts.length cT] 30)] (by simp [go_sem, *]) ?_
                intro w4 gw4 hl
                simp only [List.forall_mem_cons, List.not_mem_nil, false_implies, implies_true, and_true] at hl
                have x94 := hl
                have zx94 := row_sz' x94
                have hg4 : w2.grows w4 := hgq.trans gw4
                have HQ4 := Lib.hid (World.ownsRow.grows HQ3.out hg4)
                have hgz4 := (row_sz' x94).1
                have HE := Lib.hid (show (css.drop o.length).flatten = [] by rw [List.drop_eq_nil_of_le (by rw [HQ1.out]; exact Nat.le_refl _)]; rfl)
                clear x99 zx99
                refine wp_region_plus_seq (by kernel_rfl) (by kernel_rfl) (fun x0 => ?_)
                repeat (any_goals (first | (refine wpSeqL_free rfl ?_; first | (go_big_quiet_skip; refine wpQuiet_nil ?_) | (go_big_quiet_step (fail); refine wpQuiet_nil ?_) | (refine wpQuiet_step (fun K hK => ?_); go_simp; split <;> (refine hK _ ?_; clear hK K; refine wpQuiet_nil ?_))) | (refine wpSeqL_link rfl (fun K hK => ?_); go_simp; first | first | (refine hK _ _ (by show World.grows _ _; repeat (first | assumption | exact grA | apply grB | apply grC | apply grD)) ?_; clear hK K) | ((fail); refine ⟨_, rfl, hK _ _ (by show World.grows _ _; repeat (first | assumption | exact grA | apply grB | apply grC | apply grD)) ?_⟩; clear hK K) | (split <;> (first | (refine hK _ _ (by show World.grows _ _; repeat (first | assumption | exact grA | apply grB | apply grC | apply grD)) ?_; clear hK K) | ((fail); refine ⟨_, rfl, hK _ _ (by show World.grows _ _; repeat (first | assumption | exact grA | apply grB | apply grC | apply grD)) ?_⟩; clear hK K))))))
                have hgr0 : w4.grows ((w4.plus x0).alloc (Obj.cells #[.string nm, .slice aT ts.length cT] 30)) := (by repeat (with_reducible first | assumption | exact grA | apply grB | apply grC | apply grD | refine grE ?_ (by omega) _ | refine grF ?_ (by omega) _ _))
                refine wpSeqL_appFullO rfl rfl (.tmp 54) (.tmp 60) 22 rfl 30 (n := 2) (by' := 40) (z := .agg #[.string ByteArray.empty, .slice none 0 0]) Tryz.underlying22 (by kernel_rfl) rfl (by omega) (by omega) (k := o.length) (m := 1) ((css.take o.length).flatten) ([.string nm, .slice aT ts.length cT]) rfl rfl (by rw [flat_two _ fun c hc => HCL.out c (List.mem_of_mem_take hc), List.length_take, HQ1.out, Nat.min_self]) ?_ rfl (cells_row (e := 30) (fr := (0, 0)) (by simp [go_sem])) (fun u hu => by simp at hu; rcases hu with rfl | rfl <;> simp [Value.oneCell']) (by omega) (by omega) ?_
                · refine .inr ⟨_, rfl, ?_⟩
                  intro j u hj
                  rw [Addr.add_lit, Nat.zero_add]
                  have hj' : css.flatten[j]? = some u := by rw [← HQ1.out, List.take_length] at hj; exact hj
                  exact own_at (World.ownsRow.grows HQ4.out hgr0) j u hj'
                intro A2 c2 w2' hn2 hI2
                have hgr2 : w4.grows w2' := World.grows.grown hgr0 hn2 (fun k hk => by cases hk)
                have hgw2 : w.grows w2' := (hg2.trans hg4).trans hgr2
                refine ⟨hgr2, ?_⟩
                have hgw' : w.grows ((w4.plus x0).alloc (Obj.cells #[.string nm, .slice aT ts.length cT] 30)) := (hg2.trans hg4).trans hgr0
                go_simp
                repeat (any_goals (first | (refine wpSeqL_free rfl ?_; first | (go_big_quiet_skip; refine wpQuiet_nil ?_) | (go_big_quiet_step (fail); refine wpQuiet_nil ?_) | (refine wpQuiet_step (fun K hK => ?_); go_simp; split <;> (refine hK _ ?_; clear hK K; refine wpQuiet_nil ?_))) | (refine wpSeqL_link rfl (fun K hK => ?_); go_simp; first | first | (refine hK _ _ (by show World.grows _ _; repeat (first | assumption | exact grA | apply grB | apply grC | apply grD)) ?_; clear hK K) | ((fail); refine ⟨_, rfl, hK _ _ (by show World.grows _ _; repeat (first | assumption | exact grA | apply grB | apply grC | apply grD)) ?_⟩; clear hK K) | (split <;> (first | (refine hK _ _ (by show World.grows _ _; repeat (first | assumption | exact grA | apply grB | apply grC | apply grD)) ?_; clear hK K) | ((fail); refine ⟨_, rfl, hK _ _ (by show World.grows _ _; repeat (first | assumption | exact grA | apply grB | apply grC | apply grD)) ?_⟩; clear hK K))))))
                refine wpSeqL_end ?_
                go_wp2_with fail
                go_roundg (l.length - (i + 1))
                case measure => omega
                case rel =>
                  have HLN := Lib.hid (show (o.take o.length ++ (⟨nm, ts⟩ : Cu) :: o.drop o.length).length = o.length + 1 by simp)
                  refine ⟨i + 1, o.take o.length ++ ⟨nm, ts⟩ :: o.drop o.length, A2, c2, Lib.hid ⟨by omega, by omega, by simp; omega⟩, by go_num, by rw [HLN.out], hgw2.trans (by repeat (with_reducible first | assumption | exact grA | apply grB | apply grC | apply grD | refine grE ?_ (by omega) _ | refine grF ?_ (by omega) _ _)), Lib.hid ⟨by rw [HLN.out]; exact own_ins HQ1.out HQ2.out HCX.out (Nat.le_refl _) rfl (hgw'.below.size) (by rw [HE.out, List.append_nil]; exact World.ownsRow.grows hI2.out (by repeat (with_reducible first | assumption | exact grA | apply grB | apply grC | apply grD | refine grE ?_ (by omega) _ | refine grF ?_ (by omega) _ _))), ?_⟩⟩
                  rw [HTK.out, HST.out]
                  exact HT.out.at_ins (c := ⟨nm, ts⟩) (Nat.le_refl _) HN.out (fun d hd => by rw [List.getElem?_eq_none (Nat.le_refl _)] at hd; cases hd)
    · have i2 : ¬ (i : Int) < (l.length : Int) := by omega
      obtain rfl : i = l.length := by omega
      have hT := HO.out.2
      rw [List.take_length, show (l.foldl byStep fun _ => none) = findCu l from funext fun n => by_find l n] at hT
      have HT := Lib.hid hT
      have HOO := Lib.hid HO.out.1
      clear hT HO
      go_wp2_with fail
      go_ret
      exact ⟨_, o, rfl, hgj, HT.out, by omega, HOO.out⟩
end Go.Proofs.YthcaphoejplecaaGreatDoor

/- WALK over jalousieref21: is there a way from one back to itself. Condition: at most 64, each at most 64. -/
namespace Go
open Go.RowKit
/-- whom the k-th leans on -/
def lnL (ls : List (List Nat)) (k : Nat) : List Nat := ls.getD k []
/-- how many are not seen -/
def unm (met : Nat → Bool) : Nat → Nat
  | 0 => 0
  | n + 1 => unm met n + (if met n then 0 else 1)
theorem unm_le (met : Nat → Bool) : ∀ n, unm met n ≤ n
  | 0 => Nat.le_refl _
  | n + 1 => by have := unm_le met n; unfold unm; split <;> omega
theorem unm_congr {met met' : Nat → Bool} : ∀ n, (∀ j, j < n → met j = met' j) → unm met n = unm met' n
  | 0, _ => rfl
  | n + 1, h => by unfold unm; rw [unm_congr n fun j hj => h j (by omega), h n (by omega)]
theorem unm_set {met : Nat → Bool} {k : Nat} (hm : met k = false) : ∀ n, k < n → unm (fun j => if j = k then true else met j) n + 1 = unm met n
  | 0, h => by omega
  | n + 1, h => by
    unfold unm
    by_cases e : n = k
    · subst e
      have := unm_congr (met := met) (met' := fun j => if j = n then true else met j) n (fun j hj => by rw [if_neg (by omega)])
      rw [← this]
      simp [hm]
    · rw [if_neg e]
      have := unm_set hm n (by omega)
      omega
/-- the cells of what is seen -/
def seenL (met : Nat → Bool) (n : Nat) : List Value := (List.range n).map fun j => .bool (met j)
theorem seen_start (n : Nat) : List.replicate n (Value.bool false) = seenL (fun _ => false) n := by
  unfold seenL
  rw [List.map_const', List.length_range]
theorem seen_get {met : Nat → Bool} {n k : Nat} (h : k < n) : (seenL met n).toArray[k]? = some (.bool (met k)) := by
  simp [seenL, List.getElem?_range, h]
theorem seen_set {met : Nat → Bool} {n k : Nat} (h : k < n) : (seenL met n).toArray.setIfInBounds k (.bool true) = (seenL (fun j => if j = k then true else met j) n).toArray := by
  apply Array.toList_inj.1
  rw [Array.toList_setIfInBounds]
  apply List.ext_getElem?
  intro i
  simp only [seenL]
  by_cases e : k = i
  · subst e
    rw [List.getElem?_set_self (by simpa using h)]
    simp [List.getElem?_range, h]
  · rw [List.getElem?_set_ne e]
    simp only [List.getElem?_map]
    by_cases hi : i < n
    · simp [List.getElem?_range, hi, Ne.symm e]
    · simp [List.getElem?_eq_none (l := List.range n) (i := i) (by simp; omega)]
/-- a natural number's cell -/
def natV (x : Nat) : Value := .int .i64 (x : Int)
def NatR (x : Nat) (cs : List Value) : Prop := cs = [natV x]
/-- a list of natural numbers, as an element of a slice of such lists -/
def LnR (w : World) (S : Nat → Prop) (l : List Nat) (cs : List Value) : Prop := ∃ t, cs = [t] ∧ SlAt w S 1 NatR t l
def LnsAt (w : World) (S : Nat → Prop) (v : Value) (ls : List (List Nat)) : Prop := SlAt w S 1 (LnR w S) v ls
theorem nat_news {w : World} {S : Nat → Prop} {a : Option Addr} {n c : Nat} {l : List Nat} (h : SlAt w S 1 NatR (.slice a n c) l) : n = l.length ∧ (l.length = 0 ∨ ∃ ad, a = some ad ∧ ∀ j u, (l.map natV)[j]? = some u → w.cell? (ad.add j) = some u) := by
  obtain ⟨a', cap, e, h1, h2, h3⟩ := h
  injection e with e1 e2 e3
  subst e1; subst e2
  refine ⟨rfl, ?_⟩
  rcases h3 with rfl | ⟨g, off, rfl, _, h4⟩
  · exact .inl rfl
  · refine .inr ⟨_, rfl, fun j u hj => ?_⟩
    rw [List.getElem?_map] at hj
    obtain ⟨x, hx, rfl⟩ := Option.map_eq_some_iff.1 hj
    obtain ⟨cs, _, el, rfl⟩ := h4 j x hx
    have := el.cell (j := 0) rfl
    rw [Nat.mul_one, Nat.add_zero] at this
    rw [Addr.add_lit]; exact this
theorem nat_one (l : List Nat) : ∀ u ∈ l.map natV, u.oneCell' = true := by
  intro u hu
  obtain ⟨x, _, rfl⟩ := List.mem_map.1 hu
  rfl
theorem own_fullE {w : World} {B : Nat} {e : TypeId} {g N : Nat} {xs : List Value} (h : w.ownsRow B e 1 (.slice (some ⟨g, 0, none⟩) N N) N xs) : w.row g = some (.cells xs.toArray e) := by
  obtain ⟨hl, ⟨h1, _⟩ | ⟨g', cap, cur, h1, hb, hh, hnc, hc, hsz, htake⟩⟩ := h
  · cases h1
  · injection h1 with e1 e2 e3
    injection e1 with e1
    injection e1 with e1
    subst e1; subst e3
    have : cur.toList = xs := by rw [← htake, List.take_of_length_le (by simp; omega)]
    rw [← this]
    simpa [World.row] using hh
theorem own_emptyE {w : World} {g B n : Nat} {e : TypeId} (h : w.row g = some (.cells #[] e)) (hB : B ≤ g) : w.ownsRow B e n (.slice (some ⟨g, 0, none⟩) 0 0) 0 [] :=
  ⟨by simp, .inr ⟨g, 0, #[], rfl, hB, h, by omega, by simp, by simp, by simp⟩⟩
/-- how returns ends -/
def RetPost (w : World) (L : Nat → List Nat) (i : Nat) (e : Ending) (w' : World) : Prop := ∃ b : Bool, e = .returned (.bool b) ∧ w.grows w' ∧ (b = true ↔ Rch L i i)
end Go
namespace Go.Proofs.YthcaphoejplecaaGreatDoor
open Go.RowKit
theorem own_setc {w : World} {B n k s j : Nat} {e : TypeId} {v u : Value} {xs : List Value} (h : w.ownsRow B e n v k xs) (hs : s < B) : (w.setCell ⟨s, j, none⟩ u).ownsRow B e n v k xs :=
  ownsRow_rowV h fun g hg => by
    have := (h.lt g hg).1
    rw [World.row_setCell, if_neg (by omega)]
set_option maxRecDepth 100000 in
set_option maxHeartbeats 8000000 in
theorem freturns_any {w : World} {S : Nat → Prop} {v : Value} {ls : List (List Nat)} {i : Nat} (h : LnsAt w S v ls) (hn : ls.length ≤ 64) (hl : ∀ l ∈ ls, l.length ≤ 64 ∧ ∀ u ∈ l, u < ls.length) (hi : i < ls.length) :
    Calls Tryz.prog 22 #[v, .int .i64 (i : Int)] w (RetPost w (lnL ls) i) := by
  obtain ⟨aL, cL, rfl, -, -⟩ := SlAt.len h
  have H := Lib.hid h
  have HL := Lib.hid (show ∀ k, k < ls.length → ls[k]? = some (lnL ls k) ∧ (lnL ls k).length ≤ 64 ∧ ∀ u ∈ lnL ls k, u < ls.length from fun k hk => by
    have e : ls[k]? = some ls[k] := List.getElem?_eq_getElem hk
    have e2 : lnL ls k = ls[k] := by unfold lnL; rw [List.getD_eq_getElem?_getD, e]; rfl
    rw [e2]
    exact ⟨e, hl _ (List.getElem_mem hk)⟩)
  clear h hl
  obtain ⟨ti, hti, hz0, hz1, hz2⟩ := info_partsV (x := Tryz.prog.info? 4) (z := .bool false) (size := 1) (bytes := 1) (by kernel_rfl)
  obtain ⟨n, hnn⟩ : ∃ n, ls.length = n := ⟨_, rfl⟩
  have HNN := Lib.hid hnn
  obtain ⟨gL, offL, csL, rfl, -, -, k1, tI, rfl, hvI⟩ := H.out.elt (HL.out i hi).1
  obtain ⟨aI, cI, rfl, -, -⟩ := hvI.len
  have HVI := Lib.hid hvI
  have i0 : (0 : Int) ≤ (i : Int) := by omega
  have i1 : (i : Int) < (ls.length : Int) := by omega
  have HK1 := Lib.hid k1
  clear hvI k1 hnn
  go_enter Tryz.func22, Tryz.ntmps22
  go_upto_region 2 with (at_make; refine wpList_make_full _ rfl _ _ 53 rfl w.heap.size 4 ti _ 1 Tryz.underlying53 hti hz0 hz1 _ _ _ _ ls.length rfl rfl rfl rfl (by rw [hz2]; omega) (by simp only [maxLen]; omega) (by simp) ?_; intro w1 hown hgrow; have hg1 : w.grows w1 := World.grows.grown (w := w) (by repeat (with_reducible first | assumption | exact grA | apply grB | apply grC | apply grD | refine grE ?_ (by omega) _ | refine grF ?_ (by omega) _ _)) hgrow (fun _ h => by cases h); have HOW := Lib.hid hown; clear hown hgrow)
  have hx0 : w1.row w.heap.size = some (.cells (seenL (fun _ => false) ls.length).toArray 4) := by
    have h := own_fullE HOW.out
    rw [show (madeCells (Value.bool false).cells (ls.length * 1)).toList = seenL (fun _ => false) ls.length from (toList_madeCells_one (.bool false) (ls.length * 1)).trans (by rw [Nat.mul_one, seen_start])] at h
    exact h
  have zx0 := row_sz' hx0
  have hlI := (HL.out i hi).2.1
  have hsz1 : w.heap.size ≤ w1.heap.size := hg1.below.size
  have k1' := HK1.out.grows hg1
  have c1 := k1'.cell (j := 0) rfl
  rw [World.cell?_row, Nat.add_zero, Nat.mul_one] at c1
  have zk1 := lt_sz k1'.lt
  clear k1'
  go_upto_region 3 with ((at_builtin; refine wpList_appS w1 (w1.heap.size) rfl (.tmp 11) (.tmp 15) _ rfl 3 (.int .i64 0) 1 8 Tryz.underlying52 (by kernel_rfl) rfl (by omega) (by omega) _ 0 _ rfl (own_emptyE (by simp [go_sem]) (Nat.le_refl _)) _ (lnL ls i).length _ ((lnL ls i).map natV) rfl (by simp) (nat_news (HVI.out.grows (show w.grows _ from (by repeat (with_reducible first | assumption | exact grA | apply grB | apply grC | apply grD | refine grE ?_ (by omega) _ | refine grF ?_ (by omega) _ _))) fun _ _ _ h => h)).2 (nat_one _) (by omega) (by repeat (with_reducible first | assumption | exact grA | apply grB | apply grC | apply grD | refine grE ?_ (by omega) _ | refine grF ?_ (by omega) _ _)) (by omega) (by first | omega | (simp <;> omega)) ?_; intro v' w' hg' HO' HR' HG' HA'); (obtain ⟨a6, c6, rfl⟩ := own_slice HO'.out))
  have HS6 := Lib.hid (show w'.ownsRow w1.heap.size 3 1 (.slice a6 (lnL ls i).length c6) (lnL ls i).length ((lnL ls i).map natV) by have := HO'.out; simpa using this)
  have hx6 := (hg'.row_eq zx0.1).trans hx0
  have hg6 := hg1.trans hg'
  have hwb : w.heap.size < w1.heap.size := zx0.1
  have HC := Lib.hid (show ∃ cur : Array Value, w'.row w.heap.size = some (.cells cur 4) ∧ Hid (cur = (seenL (fun _ => false) ls.length).toArray) from ⟨_, hx6, Lib.hid rfl⟩)
  clear HO' HR' HG' HA' hx0 zx0 HOW hx6 c1 zk1
  go_loopg [6] ((lnL ls i).length + 65 * ls.length) (fun gn v6 wj => ∃ (met : Nat → Bool) (o : List Nat) (a : Option Addr) (c : Nat) (cur : Array Value), Hid (o.length + 65 * unm met ls.length ≤ gn ∧ o.length + 64 * unm met ls.length ≤ 64 * 65) ∧ v6 = .slice a o.length c ∧ w.grows wj ∧ wj.row w.heap.size = some (.cells cur 4) ∧ Hid (cur = (seenL met ls.length).toArray) ∧ Hid (wj.ownsRow w1.heap.size 3 1 (.slice a o.length c) o.length (o.map natV) ∧ GInv (lnL ls) i met o ∧ ∀ u ∈ o, u < ls.length))
  case atStart =>
    obtain ⟨cur, e1, e2⟩ := HC.out
    have := unm_le (fun _ => false) ls.length
    exact ⟨fun _ => false, lnL ls i, a6, c6, cur, Lib.hid ⟨by omega, by omega⟩, rfl, hg6.trans (by repeat (with_reducible first | assumption | exact grA | apply grB | apply grC | apply grD | refine grE ?_ (by omega) _ | refine grF ?_ (by omega) _ _)), ((show w'.grows _ from (by repeat (with_reducible first | assumption | exact grA | apply grB | apply grC | apply grD | refine grE ?_ (by omega) _ | refine grF ?_ (by omega) _ _))).row_eq (row_sz' e1).1).trans e1, e2, Lib.hid ⟨World.ownsRow.grows HS6.out (by repeat (with_reducible first | assumption | exact grA | apply grB | apply grC | apply grD | refine grE ?_ (by omega) _ | refine grF ?_ (by omega) _ _)), GInv.start _ _, (HL.out i hi).2.2⟩⟩
  case round =>
    obtain ⟨met, o, a1, c1, cur, HQ, rfl, hgj, hx, HCU, HO⟩ := hrel
    obtain ⟨j1, j2⟩ := HQ.out
    have zx := row_sz' hx
    rcases List.eq_nil_or_concat o with rfl | ⟨o', k, rfl⟩
    · have HN := Lib.hid (GInv.none HO.out.2.1)
      clear HS6 HC
      go_wp2_with fail
      go_ret
      exact ⟨false, rfl, hgj.trans (by repeat (with_reducible first | assumption | exact grA | apply grB | apply grC | apply grD | refine grE ?_ (by omega) _ | refine grF ?_ (by omega) _ _)), ⟨fun h => (by cases h), fun h => (HN.out h).elim⟩⟩
    · rw [List.concat_eq_append] at *
      have hkl := HO.out.2.2 k (by simp)
      have hol : (o' ++ [k]).length = o'.length + 1 := by simp
      have hos := HO.out.1
      obtain ⟨gT, rfl, hgB, hgl, hkc, hth, hcl⟩ := own_some hos (by omega)
      have ck := hcl o'.length (.int .i64 (k : Int)) (by simp [natV])
      rw [World.cell?_row] at ck
      have zT := lt_sz hgl
      have HSH := Lib.hid (own_short hos (k' := o'.length) (by omega))
      have HG := Lib.hid HO.out.2.1
      have HB := Lib.hid HO.out.2.2
      rw [hol] at hkc j1 j2
      have n1 : (0 : Int) ≤ (o'.length : Int) := by omega
      have n2 : (0 : Int) < (o'.length : Int) + 1 := by omega
      have n3 : (o'.length : Int) < (o'.length : Int) + 1 := by omega
      have nw : IntKind.i64.wrap (o'.length : Int) = (o'.length : Int) := by rw [IntKind.wrap_i64]; omega
      have nc : (o'.length : Int) ≤ (c1 : Int) := by omega
      have ncn : o'.length ≤ c1 := by omega
      clear hos HO hth hcl hol
      by_cases hki : k = i
      · subst hki
        have HF := Lib.hid (GInv.found HG.out)
        go_wp2_with fail
        go_ret
        exact ⟨true, rfl, hgj.trans (by repeat (with_reducible first | assumption | exact grA | apply grB | apply grC | apply grD | refine grE ?_ (by omega) _ | refine grF ?_ (by omega) _ _)), ⟨fun _ => HF.out, fun _ => rfl⟩⟩
      · have hki' : ¬ (k : Int) = (i : Int) := by omega
        have HU0 := HCU.out
        have sk : cur[k]? = some (.bool (met k)) := by rw [HU0]; exact seen_get hkl
        have k0 : (0 : Int) ≤ (k : Int) := by omega
        have k1 : (k : Int) < (ls.length : Int) := by omega
        have hth : o'.map natV = ((o' ++ [k]).map natV).take (o'.length * 1) := by simp
        rw [← hth] at HSH
        clear HU0 hth
        cases hm : met k with
        | true =>
          rw [hm] at sk
          have HGO := Lib.hid (GInv.old HG.out hm)
          clear hm
          go_wp2_with fail
          go_roundg (o'.length + 65 * unm met ls.length)
          case measure => omega
          case rel => exact ⟨met, o', some ⟨gT, 0, none⟩, c1, cur, Lib.hid ⟨by omega, by omega⟩, rfl, hgj.trans (by repeat (with_reducible first | assumption | exact grA | apply grB | apply grC | apply grD | refine grE ?_ (by omega) _ | refine grF ?_ (by omega) _ _)), hx, HCU, Lib.hid ⟨World.ownsRow.grows HSH.out (by repeat (with_reducible first | assumption | exact grA | apply grB | apply grC | apply grD | refine grE ?_ (by omega) _ | refine grF ?_ (by omega) _ _)), HGO.out, fun u hu => HB.out u (by simp [hu])⟩⟩
        | false =>
          rw [hm] at sk
          have HGN := Lib.hid (GInv.new (met' := fun j => if j = k then true else met j) HG.out hki (fun y => by by_cases e : y = k <;> simp [e]))
          have HUN := Lib.hid (unm_set hm ls.length hkl)
          have HSS := Lib.hid (show cur.setIfInBounds k (.bool true) = (seenL (fun j => if j = k then true else met j) ls.length).toArray by rw [HCU.out]; exact seen_set hkl)
          obtain ⟨g', off', csK, eK, -, -, kK, tK, rfl, hvK⟩ := H.out.elt (HL.out k hkl).1
          injection eK with eK
          injection eK with e1 e2
          subst e1
          subst e2
          obtain ⟨aK, cK, rfl, -, -⟩ := hvK.len
          have HVK := Lib.hid hvK
          have hgl0 := kK.lt
          have hne : ¬ gL = w.heap.size := by omega
          have hne2 : ¬ w.heap.size = gL := by omega
          have hneT : ¬ gT = w.heap.size := by omega
          have cK := (kK.grows hgj).cell (j := 0) rfl
          rw [World.cell?_row, Nat.add_zero, Nat.mul_one] at cK
          have zK := lt_sz (kK.grows hgj).lt
          have hlK := (HL.out k hkl).2.1
          clear kK hvK hm
          go_upto_region 10 with fail
          go_wp2_with ((at_builtin; refine wpList_appS w (w1.heap.size) rfl (.tmp 42) (.tmp 46) _ rfl 3 (.int .i64 0) 1 8 Tryz.underlying52 (by kernel_rfl) rfl (by omega) (by omega) _ o'.length _ rfl (own_setc HSH.out hwb) _ (lnL ls k).length _ ((lnL ls k).map natV) rfl (by simp) (nat_news (HVK.out.grows (show w.grows _ from (by repeat (with_reducible first | assumption | exact grA | apply grB | apply grC | apply grD | refine grE ?_ (by omega) _ | refine grF ?_ (by omega) _ _))) fun _ _ _ h => h)).2 (nat_one _) (by omega) (by repeat (with_reducible first | assumption | exact grA | apply grB | apply grC | apply grD | refine grE ?_ (by omega) _ | refine grF ?_ (by omega) _ _)) (by omega) (by first | omega | (simp <;> omega)) ?_; intro v' w' hg' HO' HR' HG' HA'); (obtain ⟨a9, c9, rfl⟩ := own_slice HO'.out))
          have hx9 : w'.row w.heap.size = some (.cells (cur.setIfInBounds k (.bool true)) 4) := (HR'.out _ hwb).trans (by rw [World.row_setCell, if_pos rfl, hx]; rfl)
          have hle : (o' ++ lnL ls k).length = o'.length + (lnL ls k).length := List.length_append
          have hun := HUN.out
          go_roundg ((o' ++ lnL ls k).length + 65 * unm (fun j => if j = k then true else met j) ls.length)
          case measure => omega
          case rel =>
            refine ⟨fun j => if j = k then true else met j, o' ++ lnL ls k, a9, c9, _, Lib.hid ⟨by omega, by omega⟩, by rw [hle], hg'.trans (by repeat (with_reducible first | assumption | exact grA | apply grB | apply grC | apply grD | refine grE ?_ (by omega) _ | refine grF ?_ (by omega) _ _)), hx9, HSS, Lib.hid ⟨?_, HGN.out, fun u hu => ?_⟩⟩
            · have h9 := HO'.out
              rw [← List.map_append] at h9
              rw [hle]
              exact World.ownsRow.grows h9 (by repeat (with_reducible first | assumption | exact grA | apply grB | apply grC | apply grD | refine grE ?_ (by omega) _ | refine grF ?_ (by omega) _ _))
            · rcases List.mem_append.1 hu with h | h
              · exact HB.out u (by simp [h])
              · exact (HL.out k hkl).2.2 u h
end Go.Proofs.YthcaphoejplecaaGreatDoor

/- PLAIN: the rounds of the reference's Resolve. No condition; no program. -/
namespace Go
open Go.RowKit
theorem place_at {m : Known} {o : List Cu} (h : Tells m o) {i : Nat} {c : Cu} (hi : o[i]? = some c) : placeN o c.n = some i := by
  cases hp : placeN o c.n with
  | none => exact absurd rfl (placeN_none hp c (List.mem_of_getElem? hi))
  | some j =>
    obtain ⟨d, hd, he⟩ := placeN_some hp
    rw [rise_inj h.up hd hi he]
theorem place_iff {m : Known} {o : List Cu} (h : Tells m o) {n : ByteArray} : placeN o n = none ↔ m n = none := by
  constructor
  · intro hp
    apply Classical.byContradiction
    intro hn
    obtain ⟨i, c, hi, rfl⟩ := told h hn
    rw [place_at h hi] at hp
    cases hp
  · intro hn
    cases hp : placeN o n with
    | none => rfl
    | some j =>
      obtain ⟨d, hd, rfl⟩ := placeN_some hp
      have := (h.mem d).1 (List.mem_of_getElem? hd)
      rw [hn] at this
      cases this
/-- what is done, as colours -/
def colD (o : List Cu) (dn : Nat → Bool) (n : ByteArray) : Int := match placeN o n with | none => 0 | some i => if dn i = true then 2 else 0
theorem colD_none (o : List Cu) : colD o (fun _ => false) = fun _ => 0 := by
  funext n
  unfold colD
  split <;> rfl
theorem colD_at {m : Known} {o : List Cu} (h : Tells m o) {dn : Nat → Bool} {i : Nat} {c : Cu} (hi : o[i]? = some c) : colD o dn c.n = if dn i = true then 2 else 0 := by
  unfold colD; rw [place_at h hi]
theorem colD_set {m : Known} {o : List Cu} (h : Tells m o) {dn : Nat → Bool} {i : Nat} {c : Cu} (hi : o[i]? = some c) : setC (colD o dn) c.n 2 = colD o (fun j => if j = i then true else dn j) := by
  funext n
  unfold setC
  by_cases e : n = c.n
  · subst e
    rw [if_pos rfl, colD_at h hi]
    simp
  · rw [if_neg e]
    unfold colD
    cases hp : placeN o n with
    | none => rfl
    | some j =>
      have hj : j ≠ i := fun e2 => by
        subst e2
        obtain ⟨d, hd, he⟩ := placeN_some hp
        rw [hi] at hd
        injection hd with hd
        exact e (by rw [← he, hd])
      simp only [if_neg hj]
/-- what is inherited and not declared -/
theorem rinv_start {own down : List Cu} {o oD kn : List Cu} (h : Tells (findCu own) o) (hD : Tells (findCu down) oD) (hk : kn = oD.filter fun c => (placeN o c.n).isNone) : VInv (findCu own) (findCu down) (colD o fun _ => false) (findCu kn) := by
  have hf := hD.filter fun n => (placeN o n).isNone
  rw [← hk] at hf
  have e := hf.find_eq fun n hn => by
    have hn2 : findCu down n ≠ none := fun e => hn (by simp [e])
    unfold findCu at hn2
    split at hn2
    · assumption
    · exact absurd rfl hn2
  rw [e, colD_none]
  have e2 : (fun n => if (placeN o n).isNone = true then findCu down n else none) = fun n => if findCu own n = none then findCu down n else none := funext fun n => by
    by_cases hp : placeN o n = none
    · rw [if_pos (by simp [hp]), if_pos ((place_iff h).1 hp)]
    · rw [if_neg (by simp [hp]), if_neg (fun e => hp ((place_iff h).2 e))]
  rw [e2]
  exact VInv.start _ _
/-- one that is ready is done -/
theorem rinv_step {m ab k : Known} {o : List Cu} {dn : Nat → Bool} {i : Nat} {c : Cu} (h : Tells m o) (hv : VInv m ab (colD o dn) k) (hi : o[i]? = some c) (hd : dn i = false) (hr : ¬ Rch (leansI o) i i) (hl : ∀ j ∈ leansI o i, dn j = true ∨ Rch (leansI o) j j) :
    VInv m ab (colD o fun j => if j = i then true else dn j) (setK k c.n (okOf (putAll k c.ts))) := by
  rw [← colD_set h hi]
  refine hv.done ((h.mem c).1 (List.mem_of_getElem? hi)) (fun hL => hr ((ring_iff h hi).2 hL)) (by rw [colD_at h hi, hd]; rfl) fun u hu => ?_
  obtain ⟨j, d, hj, rfl⟩ := told h (show m u ≠ none by obtain ⟨_, _, _, h3⟩ := hu; exact h3)
  rcases hl j ((mem_leansI h hi hj).2 hu) with h1 | h1
  · exact .inr (by rw [colD_at h hj, h1]; rfl)
  · exact .inl ((ring_iff h hj).1 h1)
/-- what it comes to is known, or it is not -/
theorem rinv_ok {own : List Cu} {ab : Known} {col : ByteArray → Int} {kn : List Cu} {n : ByteArray} {t : List Tk} (hc : findCu own n ≠ none) : findCu (kn ++ [⟨n, t⟩]) = setK (findCu kn) n (some t) := by
  have h : customB n = true := by
    unfold findCu at hc
    split at hc
    · assumption
    · exact absurd rfl hc
  rw [findCu_snoc, byStep_set, if_pos h]
theorem rinv_not {m ab k : Known} {col : ByteArray → Int} {n : ByteArray} (hv : VInv m ab col k) (hm : m n ≠ none) (hc : col n ≠ 2) : setK k n none = k := by
  funext x
  unfold setK
  split
  · rename_i e
    rw [e, hv.kw n hm hc]
  · rfl
/-- all that can be is done -/
theorem rinv_end {m ab k : Known} {o : List Cu} {dn : Nat → Bool} (h : Tells m o) (hv : VInv m ab (colD o dn) k) (ha : ∀ i, i < o.length → dn i = true ∨ Rch (leansI o) i i) : Sol m ab k := by
  refine hv.sol fun n hn hr => ?_
  obtain ⟨i, c, hi, rfl⟩ := told h hn
  rcases ha i (List.getElem?_eq_some_iff.1 hi).1 with h1 | h1
  · rw [colD_at h hi, if_pos h1]
  · exact absurd ((ring_iff h hi).1 h1) hr
/-- one is ready: not done, in no ring, and all that it leans on is done or in a ring -/
def RdyD (o : List Cu) (dn : Nat → Bool) (i : Nat) : Prop := dn i = false ∧ ¬ Rch (leansI o) i i ∧ ∀ j ∈ leansI o i, dn j = true ∨ Rch (leansI o) j j
theorem next_idx {own : List Cu} {o : List Cu} (h : Tells (findCu own) o) {dn : Nat → Bool} {i : Nat} (hi : i < o.length) (hd : dn i = false) (hr : ¬ Rch (leansI o) i i) : ∃ j, j < o.length ∧ RdyD o dn j := by
  have hg : o[i]? = some o[i] := List.getElem?_eq_getElem hi
  have hm : ∀ {j : Nat} {d : Cu}, o[j]? = some d → findCu own d.n ≠ none := fun {j d} hj => by rw [(h.mem d).1 (List.mem_of_getElem? hj)]; exact fun e => by cases e
  obtain ⟨y, ⟨y1, y2, y3⟩, y4⟩ := next_ready (m := findCu own) (names := own.map Cu.n) (fun n hn => findCu_names hn) (fun n => colD o dn n = 2) (x := o[i].n) ⟨hm hg, fun hL => hr ((ring_iff h hg).2 hL), by rw [colD_at h hg, hd]; decide⟩
  obtain ⟨j, c, hj, rfl⟩ := told h y1
  refine ⟨j, (List.getElem?_eq_some_iff.1 hj).1, ?_, fun hR => y2 ((ring_iff h hj).1 hR), fun q hq => ?_⟩
  · cases hdj : dn j with
    | false => rfl
    | true => exact absurd (by rw [colD_at h hj, if_pos hdj]) y3
  · have hql := leansI_lt hq
    have hgq : o[q]? = some o[q] := List.getElem?_eq_getElem hql
    rcases y4 _ ((mem_leansI h hj hgq).1 hq) with h1 | h1
    · exact .inr ((ring_iff h hgq).2 h1)
    · rw [colD_at h hgq] at h1
      split at h1
      · exact .inl (by assumption)
      · cases h1
theorem unm_mono {a b : Nat → Bool} (h : ∀ j, a j = true → b j = true) : ∀ n, unm b n ≤ unm a n
  | 0 => Nat.le_refl _
  | n + 1 => by
    have := unm_mono h n
    unfold unm
    cases ha : a n with
    | true => rw [h n ha]; simpa using this
    | false => split <;> simp <;> omega
theorem unm_lt {a b : Nat → Bool} (h : ∀ j, a j = true → b j = true) {i : Nat} (ha : a i = false) (hb : b i = true) : ∀ n, i < n → unm b n + 1 ≤ unm a n
  | 0, hi => by omega
  | n + 1, hi => by
    unfold unm
    by_cases e : i = n
    · subst e
      have := unm_mono h i
      rw [ha, hb]; simp; omega
    · have := unm_lt h ha hb n (by omega)
      cases han : a n with
      | true => rw [h n han]; simp; omega
      | false => split <;> simp <;> omega
theorem unm_zero {a : Nat → Bool} : ∀ n, unm a n = 0 → ∀ j, j < n → a j = true
  | 0, _, j, hj => by omega
  | n + 1, h, j, hj => by
    unfold unm at h
    by_cases e : j = n
    · subst e
      cases ha : a j with
      | true => rfl
      | false => rw [ha] at h; simp at h
    · exact unm_zero n (by omega) j (by omega)
/-- how far the rounds have come -/
def RndI (o : List Cu) (r : Nat) (dn : Nat → Bool) : Prop := unm dn o.length + r ≤ o.length ∨ ∀ i, i < o.length → dn i = true ∨ Rch (leansI o) i i
/-- how far a round has come -/
structure PasI (o : List Cu) (dn0 dn : Nat → Bool) (i : Nat) : Prop where
  mono : ∀ j, dn0 j = true → dn j = true
  past : ∀ j, j < i → RdyD o dn0 j → dn j = true
theorem RndI.start (o : List Cu) : RndI o 0 fun _ => false := .inl (by have := unm_le (fun _ => false) o.length; omega)
theorem PasI.start (o : List Cu) (dn : Nat → Bool) : PasI o dn dn 0 := ⟨fun _ h => h, fun j h => by omega⟩
theorem PasI.skip {o : List Cu} {dn0 dn : Nat → Bool} {i : Nat} (h : PasI o dn0 dn i) (hr : ¬ RdyD o dn i) : PasI o dn0 dn (i + 1) :=
  ⟨h.mono, fun j hj hy => by
    by_cases e : j = i
    · subst e
      cases hd : dn j with
      | true => rfl
      | false => exact absurd ⟨hd, hy.2.1, fun q hq => (hy.2.2 q hq).imp_left (h.mono q)⟩ hr
    · exact h.past j (by omega) hy⟩
theorem PasI.done {o : List Cu} {dn0 dn : Nat → Bool} {i : Nat} (h : PasI o dn0 dn i) : PasI o dn0 (fun j => if j = i then true else dn j) (i + 1) :=
  ⟨fun j hj => by
    show (if j = i then true else dn j) = true
    rw [h.mono j hj]; simp, fun j hj hy => by
    show (if j = i then true else dn j) = true
    by_cases e : j = i
    · rw [if_pos e]
    · rw [if_neg e]; exact h.past j (by omega) hy⟩
theorem RndI.next {own o : List Cu} (h : Tells (findCu own) o) {r : Nat} {dn0 dn : Nat → Bool} (hr : RndI o r dn0) (hp : PasI o dn0 dn o.length) : RndI o (r + 1) dn := by
  rcases hr with hr | hr
  · by_cases hc : ∀ i, i < o.length → dn0 i = true ∨ Rch (leansI o) i i
    · exact .inr fun i hi => (hc i hi).imp_left (hp.mono i)
    · obtain ⟨i, hi⟩ := Classical.not_forall.1 hc
      obtain ⟨hi1, hi2⟩ := Classical.not_imp.1 hi
      have hd : dn0 i = false := by
        cases hd : dn0 i with
        | false => rfl
        | true => exact absurd (.inl hd) hi2
      obtain ⟨j, hj, hy⟩ := next_idx h hi1 hd fun hR => hi2 (.inr hR)
      have := unm_lt hp.mono hy.1 (hp.past j hj hy) o.length hj
      exact .inl (by omega)
  · exact .inr fun i hi => (hr i hi).imp_left (hp.mono i)
theorem RndI.all {o : List Cu} {dn : Nat → Bool} (h : RndI o o.length dn) : ∀ i, i < o.length → dn i = true ∨ Rch (leansI o) i i := by
  rcases h with h | h
  · exact fun i hi => .inl (unm_zero o.length (by omega) i hi)
  · exact h
end Go

/- MEMORY: what is known so far, in a row of one's own beside the row of what is done. No condition. -/
namespace Go.Proofs.YthcaphoejplecaaGreatDoor
open Go.RowKit Go.Maps
/-- what is known: a row of one's own that is not block q; the tokens lie in other blocks -/
structure KnS (q B : Nat) (W : World) (v : Value) (kn : List Cu) : Prop where
  own : OwnAt W B 30 2 (CuR W fun g => g < W.heap.size ∧ g ≠ q ∧ v.ownBlock ≠ some g) v kn
  ne : v.ownBlock ≠ some q
theorem KnS.keep {q B : Nat} {W W' : World} {v : Value} {kn : List Cu} (h : KnS q B W v kn) (hr : ∀ g, g < W.heap.size → g ≠ q → W'.row g = W.row g) (hs : W.heap.size ≤ W'.heap.size) : KnS q B W' v kn := by
  obtain ⟨⟨css, q1, q2, q3⟩, h2⟩ := h
  refine ⟨⟨css, q1, fun i x cs hx hc => ?_, ownsRow_rowV q3 fun g hg => hr g (q3.lt g hg).2 fun e => h2 (by rw [hg, e])⟩, h2⟩
  obtain ⟨p1, p2⟩ := q2 i x cs hx hc
  exact ⟨p1, p2.keep fun g hg hl => ⟨hr g hl hg.2.1, by omega, hg.2.1, hg.2.2⟩⟩
theorem KnS.grows {q B : Nat} {W W' : World} {v : Value} {kn : List Cu} (h : KnS q B W v kn) (hg : W.grows W') : KnS q B W' v kn :=
  h.keep (fun g hl _ => hg.row_eq hl) hg.below.size
theorem KnS.start {q B : Nat} {w W : World} {v : Value} {kn : List Cu} (h : OwnAt W B 30 2 (CuR w fun g => g < w.heap.size) v kn) (hg : w.grows W) (hB : w.heap.size ≤ B) (hq : W.heap.size ≤ q) : KnS q B W v kn := by
  obtain ⟨css, q1, q2, q3⟩ := h
  have hs := hg.below.size
  refine ⟨⟨css, q1, fun i x cs hx hc => ?_, q3⟩, fun e => ?_⟩
  · obtain ⟨p1, p2⟩ := q2 i x cs hx hc
    refine ⟨p1, p2.keep fun g h1 h2 => ⟨hg.row_eq h2, by omega, by omega, fun e => ?_⟩⟩
    have := (q3.lt g e).1
    omega
  · have := (q3.lt q e).2
    omega
/-- one more is known -/
theorem KnS.app {q B : Nat} {W W' : World} {v v' : Value} {kn : List Cu} {c : Cu} {cs : List Value} (hq : q < W.heap.size) (hne : v.ownBlock ≠ some q) {css : List (List Value)} (h1 : css.length = kn.length)
    (h2 : ∀ (i : Nat) (x : Cu) (cs : List Value), kn[i]? = some x → css[i]? = some cs → cs.length = 2 ∧ CuR W (fun g => g < W.heap.size ∧ g ≠ q ∧ v.ownBlock ≠ some g) x cs)
    (hg : W.grownBy W' v.ownBlock) (hb : v'.ownBlock = v.ownBlock ∨ ∃ g, v'.ownBlock = some g ∧ W.heap.size ≤ g)
    (ho : W'.ownsRow B 30 2 v' (kn.length + 1) (css.flatten ++ cs)) (hc : CuR W (fun g => g < W.heap.size ∧ g ≠ q ∧ v.ownBlock ≠ some g) c cs) : KnS q B W' v' (kn ++ [c]) := by
  have hs := hg.size
  refine ⟨OwnAt.append (R := CuR W fun g => g < W.heap.size ∧ g ≠ q ∧ v.ownBlock ≠ some g) (css' := [cs]) (l' := [c]) h1 h2 rfl (fun j x ds e1 e2 => ?_) (fun x ds hx => hx.keep fun g hS hl => ⟨row_growV hg hl hS.2.2.symm, by omega, hS.2.1, fun e => ?_⟩) (by simpa using ho), fun e => ?_⟩
  · cases j with
    | succ j => simp at e1
    | zero =>
      simp at e1 e2
      subst e1; subst e2
      exact ⟨(cu_len hc).1, hc⟩
  · rcases hb with hb | ⟨g', hb, hl'⟩
    · exact hS.2.2 (by rw [← hb]; exact e)
    · rw [hb] at e; injection e with e; omega
  · rcases hb with hb | ⟨g', hb, hl'⟩
    · exact hne (by rw [← hb]; exact e)
    · rw [hb] at e; injection e with e; omega
end Go.Proofs.YthcaphoejplecaaGreatDoor

/- WALK over jalousieref21: Resolve. Condition: at most 64 declared. -/
namespace Go
open Go.RowKit
theorem filterMap_nodup {α β : Type} {f : α → Option β} : ∀ {l : List α}, l.Nodup → (∀ a b c, f a = some c → f b = some c → a = b) → (l.filterMap f).Nodup
  | [], _, _ => List.nodup_nil
  | x :: l, h, hf => by
    rw [List.nodup_cons] at h
    rw [List.filterMap_cons]
    split
    · exact filterMap_nodup h.2 hf
    · rename_i c hc
      rw [List.nodup_cons]
      refine ⟨fun hm => ?_, filterMap_nodup h.2 hf⟩
      obtain ⟨b, hb, he⟩ := List.mem_filterMap.1 hm
      exact h.1 (by rw [hf x b c hc he]; exact hb)
theorem placeN_inj {o : List Cu} {a b : ByteArray} {c : Nat} (h : placeN o a = some c) (h' : placeN o b = some c) : a = b := by
  obtain ⟨x, hx, rfl⟩ := placeN_some h
  obtain ⟨y, hy, rfl⟩ := placeN_some h'
  rw [hx] at hy
  injection hy with hy
  rw [hy]
/-- the lists of leans, as far as they are built -/
structure LnS (wB W : World) (cur : Array Value) (o : List Cu) (i : Nat) : Prop where
  sz : cur.size = o.length
  fin : ∀ j, j < i → ∃ t, cur[j]? = some t ∧ SlAt W (fun g => wB.heap.size < g ∧ g < W.heap.size) 1 NatR t (leansI o j)
  nil : ∀ j, i ≤ j → j < o.length → cur[j]? = some (.slice none 0 0)
theorem LnS.keep {wB w W : World} {cur : Array Value} {o : List Cu} {i : Nat} (h : LnS wB w cur o i) (hr : ∀ g, wB.heap.size < g → g < w.heap.size → W.row g = w.row g) (hs : w.heap.size ≤ W.heap.size) : LnS wB W cur o i :=
  ⟨h.sz, fun j hj => by
    obtain ⟨t, h1, h2⟩ := h.fin j hj
    exact ⟨t, h1, h2.keep (fun g h3 h4 => ⟨hr g h3.1 h4, h3.1, by omega⟩) fun _ _ _ h => h⟩, h.nil⟩
theorem LnS.put {wB W : World} {cur cur' : Array Value} {o : List Cu} {i : Nat} {t : Value} (h : LnS wB W cur o i) (hs : cur'.size = cur.size) (ho : ∀ j, j ≠ i → cur'[j]? = cur[j]?) (hi : cur'[i]? = some t) (ht : SlAt W (fun g => wB.heap.size < g ∧ g < W.heap.size) 1 NatR t (leansI o i)) : LnS wB W cur' o (i + 1) :=
  ⟨hs.trans h.sz, fun j hj => by
    by_cases e : j = i
    · subst e; exact ⟨t, hi, ht⟩
    · rw [ho j e]; exact h.fin j (by omega), fun j h1 h2 => by rw [ho j (by omega)]; exact h.nil j (by omega) h2⟩
/-- an own row of numbers is a slice of them -/
theorem own_nats {w : World} {B : Nat} {e : TypeId} {v : Value} {p : List Nat} {S : Nat → Prop} (h : w.ownsRow B e 1 v p.length (p.map natV)) (hS : ∀ g, B ≤ g → g < w.heap.size → S g) : SlAt w S 1 NatR v p := by
  have hq : OwnAt w B e 1 NatR v p := ⟨p.map fun x => [natV x], by simp, fun i x cs h1 h2 => by
    rw [List.getElem?_map, h1] at h2
    injection h2 with h2
    subst h2
    exact ⟨rfl, rfl⟩, by
    have e2 : (p.map fun x => [natV x]).flatten = p.map natV := by
      clear h
      induction p with
      | nil => rfl
      | cons x p ih => simp [ih]
    rw [e2]; exact h⟩
  exact OwnAt.slAt hq (by omega) fun g hg => hS g (h.lt g hg).1 (h.lt g hg).2
theorem nodup_leN : ∀ {l bs : List Nat}, l.Nodup → (∀ x ∈ l, x ∈ bs) → l.length ≤ bs.length
  | [], _, _, _ => Nat.zero_le _
  | a :: l, bs, hn, hs => by
    obtain ⟨h1, h2⟩ := List.nodup_cons.1 hn
    obtain ⟨s, t, rfl⟩ := List.append_of_mem (hs a (by simp))
    have := nodup_leN (l := l) (bs := s ++ t) h2 fun x hx => by
      have h3 := hs x (by simp [hx])
      simp only [List.mem_append, List.mem_cons] at h3 ⊢
      rcases h3 with h3 | h3 | h3
      · exact .inl h3
      · rw [h3] at hx; exact absurd hx h1
      · exact .inr h3
    simp at this ⊢; omega
theorem leansI_len (o : List Cu) (i : Nat) : (leansI o i).length ≤ o.length := by
  have h : (leansI o i).Nodup := by
    unfold leansI
    split
    · exact List.nodup_nil
    · exact filterMap_nodup (nodup_usesT _) fun a b c h h' => placeN_inj h h'
  have := nodup_leN (bs := List.range o.length) h fun x hx => List.mem_range.2 (leansI_lt hx)
  simpa using this
theorem lnL_leans (o : List Cu) : lnL ((List.range o.length).map (leansI o)) = leansI o := funext fun k => by
  unfold lnL
  rw [List.getD_eq_getElem?_getD, List.getElem?_map]
  by_cases hk : k < o.length
  · rw [List.getElem?_range hk]; rfl
  · rw [List.getElem?_eq_none (by simp; omega)]
    have : leansI o k = [] := by unfold leansI; rw [List.getElem?_eq_none (by omega)]
    rw [this]; rfl
theorem LnS.at {wB W : World} {cur : Array Value} {o : List Cu} (h : LnS wB W cur o o.length) {e : TypeId} (hr : W.row wB.heap.size = some (.cells cur e)) (hn : o.length ≤ 64) : LnsAt W (fun g => g < W.heap.size) (.slice (some ⟨wB.heap.size, 0, none⟩) o.length o.length) ((List.range o.length).map (leansI o)) := by
  have hln : ((List.range o.length).map (leansI o)).length = o.length := by simp
  refine ⟨some ⟨wB.heap.size, 0, none⟩, o.length, by rw [hln], by rw [hln]; exact Nat.le_refl _, by omega, .inr ⟨wB.heap.size, 0, rfl, (row_sz' hr).1, fun i x hx => ?_⟩⟩
  rw [List.getElem?_map] at hx
  obtain ⟨j, hj, rfl⟩ := Option.map_eq_some_iff.1 hx
  obtain ⟨hi, hj⟩ := List.getElem?_eq_some_iff.1 hj
  have hio : i < o.length := by simpa using hi
  have hij : j = i := by rw [← hj]; simp
  subst hij
  obtain ⟨t, h1, h2⟩ := h.fin j hio
  refine ⟨[t], rfl, eltAt_of_range (by simp) fun q u hq => ?_, t, rfl, h2.keep (fun g h3 _ => ⟨rfl, h3.2⟩) fun _ _ _ h => h⟩
  rw [World.cell?_row, hr]
  cases q with
  | zero =>
    injection hq with hq
    subst hq
    show cur[0 + j * 1 + 0]? = _
    rw [Nat.zero_add, Nat.mul_one, Nat.add_zero]; exact h1
  | succ q => cases hq
end Go
namespace Go.Proofs.YthcaphoejplecaaGreatDoor
open Go.RowKit Go.Maps
theorem ret_any {wB W : World} {cur : Array Value} {o : List Cu} {i : Nat} (h : LnS wB W cur o o.length) (hr : W.row wB.heap.size = some (.cells cur 52)) (hn : o.length ≤ 64) (hi : i < o.length) :
    Calls Tryz.prog 22 #[.slice (some ⟨wB.heap.size, 0, none⟩) o.length o.length, .int .i64 (i : Int)] W (RetPost W (leansI o) i) := by
  have hln : ((List.range o.length).map (leansI o)).length = o.length := by simp
  have := freturns_any (i := i) (h.at hr hn) (by omega) (fun l hl => by
    obtain ⟨k, _, rfl⟩ := List.mem_map.1 hl
    exact ⟨Nat.le_trans (leansI_len o k) hn, fun u hu => by rw [hln]; exact leansI_lt hu⟩) (by omega)
  rw [lnL_leans] at this
  exact this
theorem last_cus {w w' : World} {S : Nat → Prop} {B : Nat} {r : Value} {o : List Cu} (h : OwnAt w' B 30 2 (CuR w S) r o) (hg : w.grows w') : CusAt w' (fun g => g < w'.heap.size) r o := by
  have h2 := h
  obtain ⟨css, q1, q2, q3⟩ := h2
  exact (OwnAt.slAt h (by omega) fun g hgb => (q3.lt g hgb).2).keep (fun g h1 _ => ⟨rfl, h1⟩) fun x _ cs hx => CuR.keep hx fun g _ h2 => ⟨hg.row_eq h2, Nat.lt_of_lt_of_le h2 hg.below.size⟩
/-- how the reference's Resolve ends -/
def FResPost (w : World) (m ab : Known) (e : Ending) (w' : World) : Prop := ∃ (r : Value) (cus : List Cu), e = .returned r ∧ w.grows w' ∧ IsRes m ab cus ∧ CusAt w' (fun g => g < w'.heap.size) r cus
set_option maxRecDepth 100000 in
set_option maxHeartbeats 8000000 in
theorem fResolve_any {w : World} {v u : Value} {own down : List Cu} {So Sd : Nat → Prop} (ho : CusAt w So v own) (hol : own.length ≤ 64) (hd : CusAt w Sd u down) (hdl : down.length ≤ 4194000) :
    Calls Tryz.prog 7 #[v, u] w (FResPost w (findCu own) (findCu down)) := by
  have HLO := Lib.hid (fun (W : World) (hg : w.grows W) => flast_any (w := W) (CusAt.grows ho hg) (by omega))
  have HLD := Lib.hid (fun (W : World) (hg : w.grows W) => flast_any (w := W) (CusAt.grows hd hg) (by omega))
  clear ho hd
  go_enter Tryz.func7, Tryz.ntmps7
  go_upto_region 2 with (first | (go_at_call 20; ((with_reducible refine (HLD.out _ (hgA.trans (by repeat (with_reducible first | assumption | exact grA | apply grB | apply grC | apply grD | refine grE ?_ (by omega) _ | refine grF ?_ (by omega) _ _)))).mono ?_); rintro r wB ⟨r2, oD, rfl, hgB, hTD, hlD, hOD⟩; (have hSD := last_cus hOD hgB); (have hAB : wA.grows wB := World.grows.trans (by repeat (with_reducible first | assumption | exact grA | apply grB | apply grC | apply grD | refine grE ?_ (by omega) _ | refine grF ?_ (by omega) _ _)) hgB); (obtain ⟨aD, cD, rfl, -, -⟩ := SlAt.len hSD); clear hOD)) | (go_at_call 20; go_loud ((with_reducible refine (HLO.out _ (show w.grows _ from (by repeat (with_reducible first | assumption | exact grA | apply grB | apply grC | apply grD | refine grE ?_ (by omega) _ | refine grF ?_ (by omega) _ _)))).mono ?_); rintro r wA ⟨r1, o, rfl, hgA0, hTO, hlO, hOO⟩; (have hSO := last_cus hOO hgA0); (have hgA : w.grows wA := World.grows.trans (by repeat (with_reducible first | assumption | exact grA | apply grB | apply grC | apply grD | refine grE ?_ (by omega) _ | refine grF ?_ (by omega) _ _)) hgA0); (obtain ⟨aO, cO, rfl, -, -⟩ := SlAt.len hSO); clear hOO hgA0)))
  have hSO' : CusAt wB (fun g => g < wA.heap.size) (.slice aO o.length cO) o := CusAt.grows hSO hAB
  have HSO := Lib.hid hSO'
  have HSD := Lib.hid hSD
  have HTO := Lib.hid hTO
  have HTD := Lib.hid hTD
  have hgwB : w.grows wB := hgA.trans hAB
  have hon : o.length ≤ 64 := by omega
  have hdn : oD.length ≤ 4194000 := by omega
  clear hSO hSO' hSD hTO hTD hgB
  obtain ⟨ti, hti, hz0, hz1, hz2⟩ := info_partsV (x := Tryz.prog.info? 52) (z := .slice none 0 0) (size := 1) (bytes := 24) (by kernel_rfl)
  go_upto_region 5 with (at_make; refine wpList_make_full _ rfl _ _ 50 rfl wB.heap.size 52 ti _ 1 Tryz.underlying50 hti hz0 hz1 _ _ _ _ o.length rfl rfl rfl rfl (by rw [hz2]; omega) (by simp only [maxLen]; omega) (by simp) ?_; intro w1 hown hgrow; have hg1 : wB.grows w1 := World.grows.grown (w := wB) (by repeat (with_reducible first | assumption | exact grA | apply grB | apply grC | apply grD | refine grE ?_ (by omega) _ | refine grF ?_ (by omega) _ _)) hgrow (fun _ h => by cases h); have HOW := Lib.hid hown; clear hown hgrow)
  have HC := Lib.hid (show ∃ cur : Array Value, w1.row wB.heap.size = some (.cells cur 52) ∧ LnS wB w1 cur o 0 from by
    have h := own_fullE HOW.out
    rw [show (madeCells (Value.slice none 0 0).cells (o.length * 1)).toList = List.replicate o.length (.slice none 0 0) from (toList_madeCells_one (.slice none 0 0) (o.length * 1)).trans (by rw [Nat.mul_one])] at h
    exact ⟨_, h, by simp, fun j hj => by omega, fun j _ hj => by simp [hj]⟩)
  clear HOW hz0 hz1 hz2
  go_loopg [35] o.length (fun gn v35 wj => ∃ (i : Nat) (cur : Array Value), Hid (gn + i = o.length ∧ i ≤ o.length) ∧ v35 = .int .i64 i ∧ wB.grows wj ∧ wj.row wB.heap.size = some (.cells cur 52) ∧ Hid (LnS wB wj cur o i))
  case atStart =>
    obtain ⟨cur, e1, e2⟩ := HC.out
    exact ⟨0, cur, Lib.hid ⟨by simp, Nat.zero_le _⟩, by go_num, hg1.trans (by repeat (with_reducible first | assumption | exact grA | apply grB | apply grC | apply grD | refine grE ?_ (by omega) _ | refine grF ?_ (by omega) _ _)), ((show w1.grows _ from (by repeat (with_reducible first | assumption | exact grA | apply grB | apply grC | apply grD | refine grE ?_ (by omega) _ | refine grF ?_ (by omega) _ _))).row_eq (row_sz' e1).1).trans e1, Lib.hid (e2.keep (fun g _ hl => (show w1.grows _ from (by repeat (with_reducible first | assumption | exact grA | apply grB | apply grC | apply grD | refine grE ?_ (by omega) _ | refine grF ?_ (by omega) _ _))).row_eq hl) (show w1.grows _ from (by repeat (with_reducible first | assumption | exact grA | apply grB | apply grC | apply grD | refine grE ?_ (by omega) _ | refine grF ?_ (by omega) _ _))).below.size)⟩
  case round =>
    obtain ⟨i, cur, HQ, rfl, hgj, hx, HLN⟩ := hrel
    obtain ⟨j1, j2⟩ := HQ.out
    have zx := row_sz' hx
    by_cases hlt : i < o.length
    · have i1 : (0 : Int) ≤ (i : Int) := by omega
      have i2 : (i : Int) < (o.length : Int) := by omega
      have iw : IntKind.i64.wrap ((i : Int) + 1) = (i : Int) + 1 := by rw [IntKind.wrap_i64]; omega
      have hgt : o[i]? = some o[i] := List.getElem?_eq_getElem hlt
      obtain ⟨g, off, cs, rfl, hSg, -, k1, hv⟩ := HSO.out.elt hgt
      have HLI := Lib.hid (show leansI o i = (usesT o[i].ts).filterMap (placeN o) by unfold leansI; rw [hgt])
      generalize o[i] = x at *
      obtain ⟨nm, ts⟩ := x
      obtain ⟨hnm, t, rfl, hts, htl⟩ := hv
      obtain ⟨aT, cT, rfl, -, -⟩ := hts.len
      have k2 := k1.grows hgj
      have z3 := lt_sz k2.lt
      obtain ⟨u1, u2⟩ := k2
      replace u1 : segOk (off + i * 2) 2 (wr.row g) = true := u1
      replace u2 : segV (off + i * 2) 2 (wr.row g) = .agg #[.string nm, .slice aT ts.length cT] := u2
      have HUS := Lib.hid (fun (W : World) (hg : wB.grows W) => fUses_any (w := W) (hts.keep (fun g _ hl => ⟨hg.row_eq hl, trivial⟩) fun _ _ _ h => h) htl)
      have HSM := Lib.hid (usesT_small (l := ts) fun t ht => (tks_cells (hts.keep (S' := fun _ => True) (fun g _ _ => ⟨rfl, trivial⟩) fun _ _ _ h => h)).2.1 t ht)
      have HUL := Lib.hid (Nat.le_trans (usesT_len (l := ts)) htl)
      clear hgt hts htl k1
      simp only at HLI
      generalize hus : usesT ts = us at *
      clear hus
      have hul := HUL.out
      go_upto_region 8 with (go_at_call 11; go_loud ((with_reducible refine (HUS.out _ (hgj.trans (by repeat (with_reducible first | assumption | exact grA | apply grB | apply grC | apply grD | refine grE ?_ (by omega) _ | refine grF ?_ (by omega) _ _)))).mono ?_); rintro r w4 ⟨v4, rfl, hg4, hn4⟩; replace hn4 := own_lower (World.grows.below (show wr.grows _ from (by repeat (with_reducible first | assumption | exact grA | apply grB | apply grC | apply grD | refine grE ?_ (by omega) _ | refine grF ?_ (by omega) _ _)))).size hn4; (obtain ⟨a4, c4, rfl⟩ := own_slice hn4); (have hg4' : wr.grows w4 := World.grows.trans (by repeat (with_reducible first | assumption | exact grA | apply grB | apply grC | apply grD | refine grE ?_ (by omega) _ | refine grF ?_ (by omega) _ _)) hg4)))
      have hgB4 : wB.grows w4 := hgj.trans hg4'
      have hx4 := (hg4'.row_eq zx.1).trans hx
      have HXC := Lib.hid (NmO.cell hn4)
      have hzB : wB.heap.size < wr.heap.size := zx.1
      have HNL := Lib.hid (fun g hg => show wB.heap.size < g ∧ g < w4.heap.size by have := hn4.lt g hg; omega)
      have HLN4 := Lib.hid (HLN.out.keep (fun g _ hl => hg4'.row_eq hl) hg4'.below.size)
      have hlow : wB.heap.size < w4.heap.size := (row_sz' hx4).1
      have HS0 := Lib.hid (show ∃ cq : Array Value, w4.row wB.heap.size = some (.cells cq 52) ∧ Hid (cq.size = cur.size ∧ (∀ j, j ≠ i → cq[j]? = cur[j]?) ∧ cq[i]? = some (.slice none ([] : List Nat).length 0)) from ⟨cur, hx4, Lib.hid ⟨rfl, fun _ _ => rfl, HLN.out.nil i (Nat.le_refl _) hlt⟩⟩)
      clear hn4 hx zx u1 u2 z3 HLN hx4 hg4
      go_loopg [44] us.length (fun gn v44 wj => ∃ (q : Nat) (p : List Nat) (ap : Option Addr) (cp : Nat) (cq : Array Value), Hid (gn + q = us.length ∧ q ≤ us.length ∧ p.length ≤ q) ∧ v44 = .int .i64 q ∧ wB.grows wj ∧ wj.row wB.heap.size = some (.cells cq 52) ∧ Hid (cq.size = cur.size ∧ (∀ j, j ≠ i → cq[j]? = cur[j]?) ∧ cq[i]? = some (.slice ap p.length cp)) ∧ Hid (wj.ownsRow w4.heap.size 3 1 (.slice ap p.length cp) p.length (p.map natV) ∧ p = (us.take q).filterMap (placeN o) ∧ w4.heap.size ≤ wj.heap.size ∧ ∀ g, g < w4.heap.size → g ≠ wB.heap.size → wj.row g = w4.row g))
      case atStart =>
        obtain ⟨cq, e1, e2⟩ := HS0.out
        exact ⟨0, [], none, 0, cq, Lib.hid ⟨by simp, Nat.zero_le _, Nat.le_refl _⟩, by go_num, hgB4.trans (by repeat (with_reducible first | assumption | exact grA | apply grB | apply grC | apply grD | refine grE ?_ (by omega) _ | refine grF ?_ (by omega) _ _)), ((show w4.grows _ from (by repeat (with_reducible first | assumption | exact grA | apply grB | apply grC | apply grD | refine grE ?_ (by omega) _ | refine grF ?_ (by omega) _ _))).row_eq hlow).trans e1, e2, Lib.hid ⟨World.ownsRow_nil _ _ _ _, rfl, (show w4.grows _ from (by repeat (with_reducible first | assumption | exact grA | apply grB | apply grC | apply grD | refine grE ?_ (by omega) _ | refine grF ?_ (by omega) _ _))).below.size, fun g hl _ => (show w4.grows _ from (by repeat (with_reducible first | assumption | exact grA | apply grB | apply grC | apply grD | refine grE ?_ (by omega) _ | refine grF ?_ (by omega) _ _))).row_eq hl⟩⟩
      case round =>
        obtain ⟨q, p, ap, cp, cq, HP, rfl, hgq, hxq, HCQ, HV⟩ := hrel
        obtain ⟨p1, p2, p3⟩ := HP.out
        have zxq := row_sz' hxq
        by_cases hq : q < us.length
        · have n1 : (0 : Int) ≤ (q : Int) := by omega
          have n2 : (q : Int) < (us.length : Int) := by omega
          have nw : IntKind.i64.wrap ((q : Int) + 1) = (q : Int) + 1 := by rw [IntKind.wrap_i64]; omega
          obtain ⟨u, hu⟩ : ∃ u, us[q]? = some u := ⟨_, List.getElem?_eq_getElem hq⟩
          have husz := HSM.out u (List.mem_of_getElem? hu)
          rcases HXC.out with h0 | ⟨gX, cX, e, hgl, hcell⟩
          · rw [h0] at hq; simp at hq
          injection e with e1 e2 e3
          subst e1
          subst e3
          have hgX := (HNL.out gX rfl).1
          obtain ⟨hown, hpe, hsz4, hrw⟩ := HV.out
          have cc := hcell q u hu
          rw [← hrw gX hgl (by omega)] at cc
          have zX := lt_sz (Nat.lt_of_lt_of_le hgl hsz4)
          have HPL := Lib.hid (fun (W : World) (hg : wB.grows W) => fplace_any (w := W) (nm := u) (CusAt.grows HSO.out hg) (by omega))
          have HTQ := Lib.hid (show (us.take (q + 1)).filterMap (placeN o) = p ++ (match placeN o u with | none => [] | some k => [k]) by
            rw [List.take_add_one, hu, List.filterMap_append, ← hpe]
            cases hp : placeN o u <;> simp [hp])
          have HOWN := Lib.hid hown
          have HRW := Lib.hid (And.intro hsz4 hrw)
          clear hcell hu e2 HV hown hpe hrw
          cases hp : placeN o u with
          | none =>
            rw [show placeI o u = -1 by unfold placeI; rw [hp]] at HPL
            rw [hp] at HTQ
            clear hp
            go_wp2_with (go_at_call 21; ((with_reducible refine (HPL.out _ (hgq.trans (by repeat (with_reducible first | assumption | exact grA | apply grB | apply grC | apply grD | refine grE ?_ (by omega) _ | refine grF ?_ (by omega) _ _)))).mono ?_); rintro r w5 ⟨rfl, hg5⟩; (have hg45 : wr.grows w5 := World.grows.trans (by repeat (with_reducible first | assumption | exact grA | apply grB | apply grC | apply grD | refine grE ?_ (by omega) _ | refine grF ?_ (by omega) _ _)) hg5)))
            go_roundg (us.length - (q + 1))
            case measure => omega
            case rel => exact ⟨q + 1, p, ap, cp, cq, Lib.hid ⟨by omega, by omega, by omega⟩, by go_num, (hgq.trans hg45).trans (by repeat (with_reducible first | assumption | exact grA | apply grB | apply grC | apply grD | refine grE ?_ (by omega) _ | refine grF ?_ (by omega) _ _)), ((show wr.grows _ from hg45.trans (by repeat (with_reducible first | assumption | exact grA | apply grB | apply grC | apply grD | refine grE ?_ (by omega) _ | refine grF ?_ (by omega) _ _))).row_eq zxq.1).trans hxq, HCQ, Lib.hid ⟨World.ownsRow.grows HOWN.out (hg45.trans (by repeat (with_reducible first | assumption | exact grA | apply grB | apply grC | apply grD | refine grE ?_ (by omega) _ | refine grF ?_ (by omega) _ _))), by rw [HTQ.out, List.append_nil], Nat.le_trans HRW.out.1 (hg45.trans (by repeat (with_reducible first | assumption | exact grA | apply grB | apply grC | apply grD | refine grE ?_ (by omega) _ | refine grF ?_ (by omega) _ _))).below.size, fun g h1 h2 => ((show wr.grows _ from hg45.trans (by repeat (with_reducible first | assumption | exact grA | apply grB | apply grC | apply grD | refine grE ?_ (by omega) _ | refine grF ?_ (by omega) _ _))).row_eq (Nat.lt_of_lt_of_le h1 HRW.out.1)).trans (HRW.out.2 g h1 h2)⟩⟩
          | some k =>
            rw [show placeI o u = (k : Int) by unfold placeI; rw [hp]] at HPL
            rw [hp] at HTQ
            clear hp
            have k0 : (0 : Int) ≤ (k : Int) := by omega
            have hci := HCQ.out.2.2
            go_upto_region 12 with (go_at_call 21; ((with_reducible refine (HPL.out _ (hgq.trans (by repeat (with_reducible first | assumption | exact grA | apply grB | apply grC | apply grD | refine grE ?_ (by omega) _ | refine grF ?_ (by omega) _ _)))).mono ?_); rintro r w5 ⟨rfl, hg5⟩; (have hg45 : wr.grows w5 := World.grows.trans (by repeat (with_reducible first | assumption | exact grA | apply grB | apply grC | apply grD | refine grE ?_ (by omega) _ | refine grF ?_ (by omega) _ _)) hg5)))
            have hx5 := (hg45.row_eq zxq.1).trans hxq
            have zx5 := row_sz' hx5
            have hgB5 := hgq.trans hg45
            have HO5 := Lib.hid (World.ownsRow.grows HOWN.out hg45)
            have hs5 := hg45.below.size
            have hs4 := HRW.out.1
            clear hg5
            go_wp2_with ((at_builtin; refine wpList_app wB (w4.heap.size) rfl (.tmp 58) (.tmp 60) _ rfl 3 (.int .i64 0) 1 8 Tryz.underlying52 (by kernel_rfl) rfl (by omega) (by omega) _ p.length _ rfl (World.ownsRow.grows HO5.out (by repeat (with_reducible first | assumption | exact grA | apply grB | apply grC | apply grD | refine grE ?_ (by omega) _ | refine grF ?_ (by omega) _ _))) _ 1 _ [.int .i64 (k : Int)] rfl rfl (cells_of_row (e := 3) (fr := (0, 0)) (by simp [go_sem])) (by simp [Value.oneCell']) (by omega) (by repeat (with_reducible first | assumption | exact grA | apply grB | apply grC | apply grD | refine grE ?_ (by omega) _ | refine grF ?_ (by omega) _ _)) (by omega) (by first | omega | (simp <;> omega)) ?_; intro v' w' hg' HO' HR' HG' HA'); (obtain ⟨a9, c9, rfl⟩ := own_slice HO'.out); (have hxE := (HR'.out _ hlow).trans (((show w5.grows _ from (by repeat (with_reducible first | assumption | exact grA | apply grB | apply grC | apply grD | refine grE ?_ (by omega) _ | refine grF ?_ (by omega) _ _))).row_eq zx5.1).trans hx5)); (have zxE := row_sz' hxE))
            have hxS : (w'.setCell ⟨wB.heap.size, i, none⟩ (.slice a9 (p.length + 1) c9)).row wB.heap.size = some (.cells (cq.setIfInBounds i (.slice a9 (p.length + 1) c9)) 52) := by rw [World.row_setCell, if_pos rfl, hxE]; rfl
            have hrS : ∀ g, g < w4.heap.size → g ≠ wB.heap.size → (w'.setCell ⟨wB.heap.size, i, none⟩ (.slice a9 (p.length + 1) c9)).row g = w4.row g := fun g h1 h2 => by
              rw [World.row_setCell, if_neg h2]
              exact (HR'.out g h1).trans (((show w5.grows _ from (by repeat (with_reducible first | assumption | exact grA | apply grB | apply grC | apply grD | refine grE ?_ (by omega) _ | refine grF ?_ (by omega) _ _))).row_eq (by omega)).trans ((hg45.row_eq (Nat.lt_of_lt_of_le h1 hs4)).trans (HRW.out.2 g h1 h2)))
            have hle : (p ++ [k]).length = p.length + 1 := by simp
            have hsE : w4.heap.size ≤ w'.heap.size := by
              have := hg'.below.size
              have h2 := HG'.out.size
              have h3 := (show w5.grows (w5.alloc (Obj.cells #[.int .i64 (k : Int)] 3)) from (by repeat (with_reducible first | assumption | exact grA | apply grB | apply grC | apply grD | refine grE ?_ (by omega) _ | refine grF ?_ (by omega) _ _))).below.size
              exact Nat.le_trans hs4 (Nat.le_trans hs5 (Nat.le_trans h3 h2))
            go_roundg (us.length - (q + 1))
            case measure => omega
            case rel =>
              refine ⟨q + 1, p ++ [k], a9, c9, _, Lib.hid ⟨by omega, by omega, by omega⟩, by go_num, (by repeat (with_reducible first | assumption | exact grA | apply grB | apply grC | apply grD | refine grE ?_ (by omega) _ | refine grF ?_ (by omega) _ _)), hxS, Lib.hid ⟨by rw [Array.size_setIfInBounds]; exact HCQ.out.1, fun j hj => by rw [Array.getElem?_setIfInBounds_ne (Ne.symm hj)]; exact HCQ.out.2.1 j hj, by rw [hle]; exact Array.getElem?_setIfInBounds_self_of_lt (by have := HCQ.out.1; have := HLN4.out.sz; omega)⟩, Lib.hid ⟨?_, HTQ.out.symm, ?_, hrS⟩⟩
              · have h9 := HO'.out
                rw [show p.map natV ++ [Value.int .i64 (k : Int)] = (p ++ [k]).map natV by simp [natV]] at h9
                rw [hle]
                exact own_setc h9 hlow
              · simpa using hsE
        · have n2 : ¬ (q : Int) < (us.length : Int) := by omega
          obtain rfl : q = us.length := by omega
          obtain ⟨hown, hpe, hsz4, hrw⟩ := HV.out
          have hpl : p = leansI o i := by rw [hpe, HLI.out, List.take_length]
          have HLP := Lib.hid (LnS.put (HLN4.out.keep (W := wr) (fun g h1 h2 => hrw g h2 (by omega)) hsz4) HCQ.out.1 HCQ.out.2.1 HCQ.out.2.2 (by rw [← hpl]; exact own_nats hown fun g h1 h2 => ⟨by omega, h2⟩))
          clear HV hown hpe hrw hpl
          go_wp2_with fail
          go_roundg (o.length - (i + 1))
          case measure => omega
          case rel => exact ⟨i + 1, cq, Lib.hid ⟨by omega, by omega⟩, by go_num, hgq.trans (by repeat (with_reducible first | assumption | exact grA | apply grB | apply grC | apply grD | refine grE ?_ (by omega) _ | refine grF ?_ (by omega) _ _)), ((show wr.grows _ from (by repeat (with_reducible first | assumption | exact grA | apply grB | apply grC | apply grD | refine grE ?_ (by omega) _ | refine grF ?_ (by omega) _ _))).row_eq zxq.1).trans hxq, Lib.hid (HLP.out.keep (fun g _ hl => (show wr.grows _ from (by repeat (with_reducible first | assumption | exact grA | apply grB | apply grC | apply grD | refine grE ?_ (by omega) _ | refine grF ?_ (by omega) _ _))).row_eq hl) (show wr.grows _ from (by repeat (with_reducible first | assumption | exact grA | apply grB | apply grC | apply grD | refine grE ?_ (by omega) _ | refine grF ?_ (by omega) _ _))).below.size)⟩
    · have i2 : ¬ (i : Int) < (o.length : Int) := by omega
      obtain rfl : i = o.length := by omega
      obtain ⟨wE, hwE⟩ : ∃ wE, wE = wr := ⟨_, rfl⟩
      subst hwE
      have HLE := HLN
      have hxE := hx
      have zxE := row_sz' hxE
      have hgBE := hgj
      clear HC HQ j1 j2 i2 HLN hx zx hgj
      obtain ⟨tb, htb, hb0, hb1, hb2⟩ := info_partsV (x := Tryz.prog.info? 4) (z := .bool false) (size := 1) (bytes := 1) (by kernel_rfl)
      go_upto_region 17 with (at_make; refine wpList_make_full _ rfl _ _ 53 rfl wE.heap.size 4 tb _ 1 Tryz.underlying53 htb hb0 hb1 _ _ _ _ o.length rfl rfl rfl rfl (by rw [hb2]; omega) (by simp only [maxLen]; omega) (by simp) ?_; intro w6 hown hgrow; have hg6 : wE.grows w6 := World.grows.grown (w := wE) (by repeat (with_reducible first | assumption | exact grA | apply grB | apply grC | apply grD | refine grE ?_ (by omega) _ | refine grF ?_ (by omega) _ _)) hgrow (fun _ h => by cases h); have HOW := Lib.hid hown; clear hown hgrow)
      have HC6 := Lib.hid (show ∃ rc : Array Value, w6.row wE.heap.size = some (.cells rc 4) ∧ rc.size = o.length from by
        have h := own_fullE HOW.out
        rw [show (madeCells (Value.bool false).cells (o.length * 1)).toList = List.replicate o.length (.bool false) from (toList_madeCells_one (.bool false) (o.length * 1)).trans (by rw [Nat.mul_one])] at h
        exact ⟨_, h, by simp⟩)
      clear HOW hb0 hb1 hb2
      go_loopg [69] o.length (fun gn v69 wj => ∃ (i : Nat) (rc : Array Value), Hid (gn + i = o.length ∧ i ≤ o.length) ∧ v69 = .int .i64 i ∧ wE.grows wj ∧ wj.row wE.heap.size = some (.cells rc 4) ∧ Hid (rc.size = o.length ∧ ∀ j, j < i → ∃ b : Bool, rc[j]? = some (.bool b) ∧ (b = true ↔ Rch (leansI o) j j)))
      case atStart =>
        obtain ⟨rc, e1, e2⟩ := HC6.out
        exact ⟨0, rc, Lib.hid ⟨by simp, Nat.zero_le _⟩, by go_num, hg6.trans (by repeat (with_reducible first | assumption | exact grA | apply grB | apply grC | apply grD | refine grE ?_ (by omega) _ | refine grF ?_ (by omega) _ _)), ((show w6.grows _ from (by repeat (with_reducible first | assumption | exact grA | apply grB | apply grC | apply grD | refine grE ?_ (by omega) _ | refine grF ?_ (by omega) _ _))).row_eq (row_sz' e1).1).trans e1, Lib.hid ⟨e2, fun j h => by omega⟩⟩
      case round =>
        obtain ⟨i, rc, HQ, rfl, hgj, hx, HRC⟩ := hrel
        obtain ⟨j1, j2⟩ := HQ.out
        have zx := row_sz' hx
        by_cases hlt : i < o.length
        · have i1 : (0 : Int) ≤ (i : Int) := by omega
          have i2 : (i : Int) < (o.length : Int) := by omega
          have iw : IntKind.i64.wrap ((i : Int) + 1) = (i : Int) + 1 := by rw [IntKind.wrap_i64]; omega
          have HRT := Lib.hid (fun (W : World) (hg : wE.grows W) => ret_any (HLE.out.keep (fun g _ hl => hg.row_eq hl) hg.below.size) ((hg.row_eq zxE.1).trans hxE) hon hlt)
          obtain ⟨vi, hvi⟩ : ∃ vi, rc[i]? = some vi := ⟨rc[i]'(by have := HRC.out.1; omega), Array.getElem?_eq_getElem _⟩
          go_wp2_with (go_at_call 22; ((with_reducible refine (HRT.out _ (hgj.trans (by repeat (with_reducible first | assumption | exact grA | apply grB | apply grC | apply grD | refine grE ?_ (by omega) _ | refine grF ?_ (by omega) _ _)))).mono ?_); rintro r w7 ⟨b, rfl, hg7, hb7⟩; (have HB7 := Lib.hid hb7); clear hb7; (have hg67 : wr.grows w7 := World.grows.trans (by repeat (with_reducible first | assumption | exact grA | apply grB | apply grC | apply grD | refine grE ?_ (by omega) _ | refine grF ?_ (by omega) _ _)) hg7); (have hx7 := (hg67.row_eq zx.1).trans hx); (have zx7 := row_sz' hx7)))
          go_roundg (o.length - (i + 1))
          case measure => omega
          case rel =>
            have hgE7 := hgj.trans hg67
            refine ⟨i + 1, rc.setIfInBounds i (.bool b), Lib.hid ⟨by omega, by omega⟩, by go_num, (by repeat (with_reducible first | assumption | exact grA | apply grB | apply grC | apply grD | refine grE ?_ (by omega) _ | refine grF ?_ (by omega) _ _)), by rw [World.row_setCell, if_pos rfl, hx7]; rfl, Lib.hid ⟨by rw [Array.size_setIfInBounds]; exact HRC.out.1, fun j hj => ?_⟩⟩
            by_cases e : j = i
            · subst e
              exact ⟨b, Array.getElem?_setIfInBounds_self_of_lt (by have := HRC.out.1; omega), HB7.out⟩
            · rw [Array.getElem?_setIfInBounds_ne (Ne.symm e)]
              exact HRC.out.2 j (by omega)
        · have i2 : ¬ (i : Int) < (o.length : Int) := by omega
          obtain rfl : i = o.length := by omega
          obtain ⟨wF, hwF⟩ : ∃ wF, wF = wr := ⟨_, rfl⟩
          subst hwF
          have HRG := HRC
          have hxF := hx
          have zxF := row_sz' hxF
          have hgEF := hgj
          have hgBF := hgBE.trans hgj
          clear HC6 HQ j1 j2 i2 HRC hx zx hgj
          go_upto_region 23 with fail
          go_loopg [14, 81] oD.length (fun gn v14 v81 wj => ∃ (i : Nat) (kn : List Cu) (a : Option Addr) (c : Nat), Hid (gn + i = oD.length ∧ i ≤ oD.length ∧ kn.length ≤ i) ∧ v81 = .int .i64 i ∧ v14 = .slice a kn.length c ∧ wF.grows wj ∧ Hid (kn = (oD.take i).filter (fun c => (placeN o c.n).isNone) ∧ OwnAt wj wF.heap.size 30 2 (CuR wB fun g => g < wB.heap.size) (.slice a kn.length c) kn))
          case atStart => exact ⟨0, [], none, 0, Lib.hid ⟨by simp, Nat.zero_le _, Nat.le_refl _⟩, by go_num, rfl, (by repeat (with_reducible first | assumption | exact grA | apply grB | apply grC | apply grD | refine grE ?_ (by omega) _ | refine grF ?_ (by omega) _ _)), Lib.hid ⟨rfl, OwnAt_nil _ _ _ _ _⟩⟩
          case round =>
            obtain ⟨i, kn, aK, cK, HQ, rfl, rfl, hgj, HO⟩ := hrel
            obtain ⟨j1, j2, j3⟩ := HQ.out
            by_cases hlt : i < oD.length
            · have i1 : (0 : Int) ≤ (i : Int) := by omega
              have i2 : (i : Int) < (oD.length : Int) := by omega
              have iw : IntKind.i64.wrap ((i : Int) + 1) = (i : Int) + 1 := by rw [IntKind.wrap_i64]; omega
              have hgt : oD[i]? = some oD[i] := List.getElem?_eq_getElem hlt
              obtain ⟨gD, offD, cs, rfl, hSg, -, k1, hv⟩ := HSD.out.elt hgt
              have HTK := Lib.hid (show (oD.take (i + 1)).filter (fun c => (placeN o c.n).isNone) = kn ++ (if (placeN o oD[i].n).isNone then [oD[i]] else []) by
                rw [List.take_add_one, hgt, List.filter_append, ← HO.out.1]
                simp [List.filter_cons])
              generalize oD[i] = x at *
              obtain ⟨nm, ts⟩ := x
              have HCX := Lib.hid hv
              obtain ⟨hnm, t, rfl, hts, htl⟩ := hv
              obtain ⟨aT, cT, rfl, -, -⟩ := hts.len
              have k2 := k1.grows (hgBF.trans hgj)
              have z3 := lt_sz k2.lt
              obtain ⟨u1, u2⟩ := k2
              replace u1 : segOk (offD + i * 2) 2 (wr.row gD) = true := u1
              replace u2 : segV (offD + i * 2) 2 (wr.row gD) = .agg #[.string nm, .slice aT ts.length cT] := u2
              have HPL := Lib.hid (fun (W : World) (hg : wB.grows W) => fplace_any (w := W) (nm := nm) (CusAt.grows HSO.out hg) (by omega))
              have hgBj := hgBF.trans hgj
              clear hgt hts htl k1
              simp only at HTK
              cases hp : placeN o nm with
              | some k =>
                rw [show placeI o nm = (k : Int) by unfold placeI; rw [hp]] at HPL
                rw [hp] at HTK
                clear hp
                have k0 : ¬ (k : Int) < 0 := by omega
                go_wp2_with (go_at_call 21; ((with_reducible refine (HPL.out _ (hgBj.trans (by repeat (with_reducible first | assumption | exact grA | apply grB | apply grC | apply grD | refine grE ?_ (by omega) _ | refine grF ?_ (by omega) _ _)))).mono ?_); rintro r w5 ⟨rfl, hg5⟩; (have hg45 : wr.grows w5 := World.grows.trans (by repeat (with_reducible first | assumption | exact grA | apply grB | apply grC | apply grD | refine grE ?_ (by omega) _ | refine grF ?_ (by omega) _ _)) hg5)))
                go_roundg (oD.length - (i + 1))
                case measure => omega
                case rel => exact ⟨i + 1, kn, aK, cK, Lib.hid ⟨by omega, by omega, by omega⟩, by go_num, rfl, (hgj.trans hg45).trans (by repeat (with_reducible first | assumption | exact grA | apply grB | apply grC | apply grD | refine grE ?_ (by omega) _ | refine grF ?_ (by omega) _ _)), Lib.hid ⟨by rw [HTK.out]; simp, HO.out.2.mono (hg45.trans (by repeat (with_reducible first | assumption | exact grA | apply grB | apply grC | apply grD | refine grE ?_ (by omega) _ | refine grF ?_ (by omega) _ _))) fun _ _ _ h => h⟩⟩
              | none =>
                rw [show placeI o nm = -1 by unfold placeI; rw [hp]] at HPL
                rw [hp] at HTK
                clear hp
                obtain ⟨css, q1, q2, q3⟩ := HO.out.2
                go_upto_region 25 with fail
                refine abs_rows (w := wr) (G := fun W => Code.wp _ _ _ _ W) (by repeat (with_reducible first | assumption | exact grA | apply grB | apply grC | apply grD | refine grE ?_ (by omega) _ | refine grF ?_ (by omega) _ _)) [(wr.heap.size, .cells #[.string nm, .slice aT ts.length cT] 30)] (by simp [go_sem, *]) ?_
                intro w4 gw4 hl
                simp only [List.forall_mem_cons, List.not_mem_nil, false_implies, implies_true, and_true] at hl
                have x9 := hl
                have zx9 := row_sz' x9
                have hgB4 := hgBj.trans gw4
                have HQ3 := Lib.hid (World.ownsRow.grows q3 gw4)
                have hgF4 := hgj.trans gw4
                clear q3 u1 u2 z3
                generalize wr.heap.size = b9 at *
                go_upto_region 26 with (go_at_call 21; ((with_reducible refine (HPL.out _ (hgB4.trans (by repeat (with_reducible first | assumption | exact grA | apply grB | apply grC | apply grD | refine grE ?_ (by omega) _ | refine grF ?_ (by omega) _ _)))).mono ?_); rintro r w5 ⟨rfl, hg5⟩; (have hg45 : w4.grows w5 := World.grows.trans (by repeat (with_reducible first | assumption | exact grA | apply grB | apply grC | apply grD | refine grE ?_ (by omega) _ | refine grF ?_ (by omega) _ _)) hg5); (have x95 := (hg45.row_eq zx9.1).trans x9); (have zx95 := row_sz' x95)))
                have hgF5 := hgF4.trans hg45
                have HQ5 := Lib.hid (World.ownsRow.grows HQ3.out hg45)
                have hs5 := hgF5.below.size
                have hkl : kn.length ≤ 8000000 := by omega
                go_wp2_with ((at_builtin; refine wpList_app wF (wF.heap.size) rfl (.tmp 90) (.tmp 92) _ rfl 30 (.agg #[.string ByteArray.empty, .slice none 0 0]) 2 40 Tryz.underlying22 (by kernel_rfl) rfl (by omega) (by omega) _ kn.length _ rfl (World.ownsRow.grows HQ5.out (by repeat (with_reducible first | assumption | exact grA | apply grB | apply grC | apply grD | refine grE ?_ (by omega) _ | refine grF ?_ (by omega) _ _))) _ 1 _ [.string nm, .slice aT ts.length cT] rfl rfl (cells_of_row (e := 30) (fr := (0, 0)) (by simp [go_sem])) (by simp [Value.oneCell']) (by omega) (by repeat (with_reducible first | assumption | exact grA | apply grB | apply grC | apply grD | refine grE ?_ (by omega) _ | refine grF ?_ (by omega) _ _)) (by omega) (by first | omega | (simp <;> omega)) ?_; intro v' w' hg' HO' HR' HG' HA'); (obtain ⟨a9, c9, rfl⟩ := own_slice HO'.out))
                have hle : (kn ++ [(⟨nm, ts⟩ : Cu)]).length = kn.length + 1 := by simp
                go_roundg (oD.length - (i + 1))
                case measure => omega
                case rel =>
                  refine ⟨i + 1, kn ++ [⟨nm, ts⟩], a9, c9, Lib.hid ⟨by omega, by omega, by omega⟩, by go_num, by rw [hle], hg'.trans (by repeat (with_reducible first | assumption | exact grA | apply grB | apply grC | apply grD | refine grE ?_ (by omega) _ | refine grF ?_ (by omega) _ _)), Lib.hid ⟨by rw [HTK.out]; simp, ?_⟩⟩
                  rw [hle]
                  refine OwnAt.mono (OwnAt.append (css' := [[.string nm, .slice aT ts.length cT]]) (l' := [(⟨nm, ts⟩ : Cu)]) q1 q2 rfl (fun j x cs h1 h2 => ?_) (fun _ _ h => h) (by simpa using HO'.out)) (by repeat (with_reducible first | assumption | exact grA | apply grB | apply grC | apply grD | refine grE ?_ (by omega) _ | refine grF ?_ (by omega) _ _)) fun _ _ _ h => h
                  cases j with
                  | succ j => simp at h1
                  | zero =>
                    simp at h1 h2
                    subst h1; subst h2
                    exact ⟨rfl, HCX.out⟩
            · have i2 : ¬ (i : Int) < (oD.length : Int) := by omega
              obtain rfl : i = oD.length := by omega
              obtain ⟨wG, hwG⟩ : ∃ wG, wG = wr := ⟨_, rfl⟩
              subst hwG
              have hke : kn = oD.filter fun c => (placeN o c.n).isNone := by have := HO.out.1; rwa [List.take_length] at this
              have HRI := Lib.hid (rinv_start HTO.out HTD.out hke)
              have HKO := Lib.hid HO.out.2
              have hkl : kn.length ≤ oD.length := j3
              have hgFG := hgj
              have hgBG := hgBF.trans hgj
              have hsFG := hgFG.below.size
              have hsBF := hgBF.below.size
              clear HQ j1 j2 i2 HO hke hgj
              obtain ⟨te, hte, he0, he1, he2⟩ := info_partsV (x := Tryz.prog.info? 4) (z := .bool false) (size := 1) (bytes := 1) (by kernel_rfl)
              go_upto_region 30 with (at_make; refine wpList_make_full _ rfl _ _ 53 rfl wG.heap.size 4 te _ 1 Tryz.underlying53 hte he0 he1 _ _ _ _ o.length rfl rfl rfl rfl (by rw [he2]; omega) (by simp only [maxLen]; omega) (by simp) ?_; intro w7 hown hgrow; have hg7 : wG.grows w7 := World.grows.grown (w := wG) (by repeat (with_reducible first | assumption | exact grA | apply grB | apply grC | apply grD | refine grE ?_ (by omega) _ | refine grF ?_ (by omega) _ _)) hgrow (fun _ h => by cases h); have HOW := Lib.hid hown; clear hown hgrow)
              have HC7 := Lib.hid (show ∃ dc : Array Value, w7.row wG.heap.size = some (.cells dc 4) ∧ Hid (dc.size = o.length ∧ ∀ j, j < o.length → dc[j]? = some (.bool ((fun _ => false) j))) from by
                have h := own_fullE HOW.out
                rw [show (madeCells (Value.bool false).cells (o.length * 1)).toList = List.replicate o.length (.bool false) from (toList_madeCells_one (.bool false) (o.length * 1)).trans (by rw [Nat.mul_one])] at h
                exact ⟨_, h, Lib.hid ⟨by simp, fun j hj => by simp [hj]⟩⟩)
              have HK7 := Lib.hid ((KnS.start (q := wG.heap.size) HKO.out hgBG hsBF (Nat.le_refl _)).grows hg7)
              have hgF7 := hgFG.trans hg7
              clear HOW he0 he1 he2 HKO
              go_loopg [14, 98] o.length (fun gn v14 v98 wj => ∃ (r : Nat) (dn : Nat → Bool) (kn : List Cu) (a : Option Addr) (c : Nat) (dc : Array Value), Hid (gn + r = o.length ∧ r ≤ o.length ∧ kn.length + unm dn o.length ≤ oD.length + o.length) ∧ v98 = .int .i64 r ∧ v14 = .slice a kn.length c ∧ wF.grows wj ∧ wj.row wG.heap.size = some (.cells dc 4) ∧ Hid (dc.size = o.length ∧ ∀ j, j < o.length → dc[j]? = some (.bool (dn j))) ∧ Hid (KnS wG.heap.size wF.heap.size wj (.slice a kn.length c) kn ∧ VInv (findCu own) (findCu down) (colD o dn) (findCu kn) ∧ RndI o r dn))
              case atStart =>
                obtain ⟨dc, e1, e2⟩ := HC7.out
                have := unm_le (fun _ => false) o.length
                exact ⟨0, fun _ => false, kn, aK, cK, dc, Lib.hid ⟨by simp, Nat.zero_le _, by omega⟩, by go_num, rfl, hgF7.trans (by repeat (with_reducible first | assumption | exact grA | apply grB | apply grC | apply grD | refine grE ?_ (by omega) _ | refine grF ?_ (by omega) _ _)), ((show w7.grows _ from (by repeat (with_reducible first | assumption | exact grA | apply grB | apply grC | apply grD | refine grE ?_ (by omega) _ | refine grF ?_ (by omega) _ _))).row_eq (row_sz' e1).1).trans e1, e2, Lib.hid ⟨HK7.out.grows (by repeat (with_reducible first | assumption | exact grA | apply grB | apply grC | apply grD | refine grE ?_ (by omega) _ | refine grF ?_ (by omega) _ _)), HRI.out, RndI.start o⟩⟩
              case round =>
                obtain ⟨r, dn0, kn, aK, cK, dc, HQ, rfl, rfl, hgj, hx, HDC, HV⟩ := hrel
                obtain ⟨j1, j2, j3⟩ := HQ.out
                have zx := row_sz' hx
                by_cases hlt : r < o.length
                · have i1 : (0 : Int) ≤ (r : Int) := by omega
                  have i2 : (r : Int) < (o.length : Int) := by omega
                  have iw : IntKind.i64.wrap ((r : Int) + 1) = (r : Int) + 1 := by rw [IntKind.wrap_i64]; omega
                  have HK0 := HV.out.1
                  have HVR := Lib.hid HV.out.2
                  have HC0 := Lib.hid (show ∃ dc : Array Value, wr.row wG.heap.size = some (.cells dc 4) ∧ Hid (dc.size = o.length ∧ ∀ j, j < o.length → dc[j]? = some (.bool (dn0 j))) from ⟨dc, hx, HDC⟩)
                  have hzG : wG.heap.size < wr.heap.size := zx.1
                  go_upto_region 32 with fail
                  go_loopg [14, 102] o.length (fun gn v14 v102 wj => ∃ (i : Nat) (dn : Nat → Bool) (kn : List Cu) (a : Option Addr) (c : Nat) (dc : Array Value), Hid (gn + i = o.length ∧ i ≤ o.length ∧ kn.length + unm dn o.length ≤ oD.length + o.length) ∧ v102 = .int .i64 i ∧ v14 = .slice a kn.length c ∧ wF.grows wj ∧ wj.row wG.heap.size = some (.cells dc 4) ∧ Hid (dc.size = o.length ∧ ∀ j, j < o.length → dc[j]? = some (.bool (dn j))) ∧ Hid (KnS wG.heap.size wF.heap.size wj (.slice a kn.length c) kn ∧ VInv (findCu own) (findCu down) (colD o dn) (findCu kn) ∧ PasI o dn0 dn i))
                  case atStart => exact ⟨0, dn0, kn, aK, cK, dc, Lib.hid ⟨by simp, Nat.zero_le _, j3⟩, by go_num, rfl, hgj.trans (by repeat (with_reducible first | assumption | exact grA | apply grB | apply grC | apply grD | refine grE ?_ (by omega) _ | refine grF ?_ (by omega) _ _)), ((show wr.grows _ from (by repeat (with_reducible first | assumption | exact grA | apply grB | apply grC | apply grD | refine grE ?_ (by omega) _ | refine grF ?_ (by omega) _ _))).row_eq zx.1).trans hx, HDC, Lib.hid ⟨HK0.grows (by repeat (with_reducible first | assumption | exact grA | apply grB | apply grC | apply grD | refine grE ?_ (by omega) _ | refine grF ?_ (by omega) _ _)), HVR.out.1, PasI.start o dn0⟩⟩
                  case round =>
                    have hgj0 := hgj
                    clear hgj hx zx HDC HV HK0 HQ
                    obtain ⟨i, dn, kn, aK, cK, dc, HQ, rfl, rfl, hgj, hx, HDC, HV⟩ := hrel
                    obtain ⟨q1, q2, q3⟩ := HQ.out
                    have zx := row_sz' hx
                    by_cases hli : i < o.length
                    · have n1 : (0 : Int) ≤ (i : Int) := by omega
                      have n2 : (i : Int) < (o.length : Int) := by omega
                      have nw : IntKind.i64.wrap ((i : Int) + 1) = (i : Int) + 1 := by rw [IntKind.wrap_i64]; omega
                      have hgt : o[i]? = some o[i] := List.getElem?_eq_getElem hli
                      have HGT := Lib.hid hgt
                      obtain ⟨g, off, cs, rfl, hSg, -, k1, hv⟩ := HSO.out.elt hgt
                      generalize o[i] = x at *
                      obtain ⟨nm, ts⟩ := x
                      have HCX := Lib.hid hv
                      obtain ⟨hnm, t, rfl, hts, htl⟩ := hv
                      obtain ⟨aT, cT, rfl, -, -⟩ := hts.len
                      have k2 := k1.grows (hgBF.trans hgj)
                      have z3 := lt_sz k2.lt
                      obtain ⟨u1, u2⟩ := k2
                      replace u1 : segOk (off + i * 2) 2 (wr.row g) = true := u1
                      replace u2 : segV (off + i * 2) 2 (wr.row g) = .agg #[.string nm, .slice aT ts.length cT] := u2
                      clear hgt hts htl k1
                      go_upto_region 34 with fail
                      refine abs_rows (w := wr) (G := fun W => Code.wp _ _ _ _ W) (by repeat (with_reducible first | assumption | exact grA | apply grB | apply grC | apply grD | refine grE ?_ (by omega) _ | refine grF ?_ (by omega) _ _)) [(wr.heap.size, .cells #[.string nm, .slice aT ts.length cT] 30)] (by simp [go_sem, *]) ?_
                      intro w4 gw4 hl
                      simp only [List.forall_mem_cons, List.not_mem_nil, false_implies, implies_true, and_true] at hl
                      have x9 := hl
                      have zx9 := row_sz' x9
                      have hgF4 := hgj.trans gw4
                      have hx4 := (gw4.row_eq zx.1).trans hx
                      have zx4 := row_sz' hx4
                      have hxR := (hgF4.row_eq zxF.1).trans hxF
                      have zxR := row_sz' hxR
                      have dk := HDC.out.2 i hli
                      obtain ⟨rb, rk, rI⟩ := HRG.out.2 i hli
                      have HRB := Lib.hid rI
                      have HV4 := Lib.hid (And.intro (HV.out.1.grows gw4) HV.out.2)
                      obtain ⟨tL, lk, hLS⟩ := HLE.out.fin i hli
                      obtain ⟨aL, cL, rfl, -, -⟩ := hLS.len
                      have HLS := Lib.hid hLS
                      have hxL := ((hgEF.trans hgF4).row_eq zxE.1).trans hxE
                      have zxL := row_sz' hxL
                      clear hLS
                      have hb9 : wG.heap.size < wr.heap.size := zx.1
                      clear u1 u2 z3 hx zx rI HV
                      generalize wr.heap.size = b9 at *
                      cases hd : dn i with
                      | true =>
                        rw [hd] at dk
                        have hnr : ¬ RdyD o dn i := fun h => by rw [h.1] at hd; cases hd
                        go_upto_region 36 with fail
                        go_loopg [20, 124] (leansI o i).length (fun gn v20 v124 wj => ∃ q : Nat, Hid (gn + q = (leansI o i).length ∧ q ≤ (leansI o i).length) ∧ v124 = .int .i64 q ∧ v20 = .bool false ∧ w4.grows wj)
                        case atStart => exact ⟨0, Lib.hid ⟨by simp, Nat.zero_le _⟩, by go_num, rfl, (by repeat (with_reducible first | assumption | exact grA | apply grB | apply grC | apply grD | refine grE ?_ (by omega) _ | refine grF ?_ (by omega) _ _))⟩
                        case round =>
                          obtain ⟨q, HP, rfl, rfl, hgq⟩ := hrel
                          obtain ⟨p1, p2⟩ := HP.out
                          by_cases hq : q < (leansI o i).length
                          · have m1 : (0 : Int) ≤ (q : Int) := by omega
                            have m2 : (q : Int) < ((leansI o i).length : Int) := by omega
                            have mw : IntKind.i64.wrap ((q : Int) + 1) = (q : Int) + 1 := by have := leansI_len o i; rw [IntKind.wrap_i64]; omega
                            obtain ⟨k, hk⟩ : ∃ k, (leansI o i)[q]? = some k := ⟨_, List.getElem?_eq_getElem hq⟩
                            obtain ⟨gL, offL, csL, rfl, -, -, kL, rfl⟩ := HLS.out.elt hk
                            have kL2 := kL.grows (hgEF.trans (hgF4.trans hgq))
                            have cL2 := kL2.cell (j := 0) rfl
                            rw [World.cell?_row, Nat.add_zero, Nat.mul_one] at cL2
                            unfold natV at cL2
                            have zL := lt_sz kL2.lt
                            clear kL kL2 hk
                            go_wp2_with fail
                            go_roundg ((leansI o i).length - (q + 1))
                            case measure => omega
                            case rel => exact ⟨q + 1, Lib.hid ⟨by omega, by omega⟩, by go_num, rfl, hgq.trans (by repeat (with_reducible first | assumption | exact grA | apply grB | apply grC | apply grD | refine grE ?_ (by omega) _ | refine grF ?_ (by omega) _ _))⟩
                          · have m2 : ¬ (q : Int) < ((leansI o i).length : Int) := by omega
                            have hd4 := (hgq.row_eq zx4.1).trans hx4
                            have zd4 := row_sz' hd4
                            go_wp2_with fail
                            go_roundg (o.length - (i + 1))
                            case measure => omega
                            case rel => exact ⟨i + 1, dn, kn, aK, cK, dc, Lib.hid ⟨by omega, by omega, q3⟩, by go_num, rfl, (hgF4.trans hgq).trans (by repeat (with_reducible first | assumption | exact grA | apply grB | apply grC | apply grD | refine grE ?_ (by omega) _ | refine grF ?_ (by omega) _ _)), ((show wr.grows _ from (by repeat (with_reducible first | assumption | exact grA | apply grB | apply grC | apply grD | refine grE ?_ (by omega) _ | refine grF ?_ (by omega) _ _))).row_eq zd4.1).trans hd4, HDC, Lib.hid ⟨(HV4.out.1.grows hgq).grows (by repeat (with_reducible first | assumption | exact grA | apply grB | apply grC | apply grD | refine grE ?_ (by omega) _ | refine grF ?_ (by omega) _ _)), HV4.out.2.1, HV4.out.2.2.skip hnr⟩⟩
                      | false =>
                        rw [hd] at dk
                        cases rb with
                        | true =>
                          have hnr : ¬ RdyD o dn i := fun h => h.2.1 (HRB.out.1 rfl)
                          go_upto_region 36 with fail
                          go_loopg [20, 124] (leansI o i).length (fun gn v20 v124 wj => ∃ q : Nat, Hid (gn + q = (leansI o i).length ∧ q ≤ (leansI o i).length) ∧ v124 = .int .i64 q ∧ v20 = .bool false ∧ w4.grows wj)
                          case atStart => exact ⟨0, Lib.hid ⟨by simp, Nat.zero_le _⟩, by go_num, rfl, (by repeat (with_reducible first | assumption | exact grA | apply grB | apply grC | apply grD | refine grE ?_ (by omega) _ | refine grF ?_ (by omega) _ _))⟩
                          case round =>
                            obtain ⟨q, HP, rfl, rfl, hgq⟩ := hrel
                            obtain ⟨p1, p2⟩ := HP.out
                            by_cases hq : q < (leansI o i).length
                            · have m1 : (0 : Int) ≤ (q : Int) := by omega
                              have m2 : (q : Int) < ((leansI o i).length : Int) := by omega
                              have mw : IntKind.i64.wrap ((q : Int) + 1) = (q : Int) + 1 := by have := leansI_len o i; rw [IntKind.wrap_i64]; omega
                              obtain ⟨k, hk⟩ : ∃ k, (leansI o i)[q]? = some k := ⟨_, List.getElem?_eq_getElem hq⟩
                              obtain ⟨gL, offL, csL, rfl, -, -, kL, rfl⟩ := HLS.out.elt hk
                              have kL2 := kL.grows (hgEF.trans (hgF4.trans hgq))
                              have cL2 := kL2.cell (j := 0) rfl
                              rw [World.cell?_row, Nat.add_zero, Nat.mul_one] at cL2
                              unfold natV at cL2
                              have zL := lt_sz kL2.lt
                              clear kL kL2 hk
                              go_wp2_with fail
                              go_roundg ((leansI o i).length - (q + 1))
                              case measure => omega
                              case rel => exact ⟨q + 1, Lib.hid ⟨by omega, by omega⟩, by go_num, rfl, hgq.trans (by repeat (with_reducible first | assumption | exact grA | apply grB | apply grC | apply grD | refine grE ?_ (by omega) _ | refine grF ?_ (by omega) _ _))⟩
                            · have m2 : ¬ (q : Int) < ((leansI o i).length : Int) := by omega
                              have hd4 := (hgq.row_eq zx4.1).trans hx4
                              have zd4 := row_sz' hd4
                              go_wp2_with fail
                              go_roundg (o.length - (i + 1))
                              case measure => omega
                              case rel => exact ⟨i + 1, dn, kn, aK, cK, dc, Lib.hid ⟨by omega, by omega, q3⟩, by go_num, rfl, (hgF4.trans hgq).trans (by repeat (with_reducible first | assumption | exact grA | apply grB | apply grC | apply grD | refine grE ?_ (by omega) _ | refine grF ?_ (by omega) _ _)), ((show wr.grows _ from (by repeat (with_reducible first | assumption | exact grA | apply grB | apply grC | apply grD | refine grE ?_ (by omega) _ | refine grF ?_ (by omega) _ _))).row_eq zd4.1).trans hd4, HDC, Lib.hid ⟨(HV4.out.1.grows hgq).grows (by repeat (with_reducible first | assumption | exact grA | apply grB | apply grC | apply grD | refine grE ?_ (by omega) _ | refine grF ?_ (by omega) _ _)), HV4.out.2.1, HV4.out.2.2.skip hnr⟩⟩
                        | false =>
                          go_upto_region 36 with fail
                          go_loopg [20, 124] (leansI o i).length (fun gn v20 v124 wj => ∃ (q : Nat) (b : Bool), Hid (gn + q = (leansI o i).length ∧ q ≤ (leansI o i).length) ∧ v124 = .int .i64 q ∧ v20 = .bool b ∧ w4.grows wj ∧ Hid (b = true ↔ ∀ j k, j < q → (leansI o i)[j]? = some k → dn k = true ∨ Rch (leansI o) k k))
                          case atStart => exact ⟨0, true, Lib.hid ⟨by simp, Nat.zero_le _⟩, by go_num, rfl, (by repeat (with_reducible first | assumption | exact grA | apply grB | apply grC | apply grD | refine grE ?_ (by omega) _ | refine grF ?_ (by omega) _ _)), Lib.hid ⟨fun _ j k h => by omega, fun _ => rfl⟩⟩
                          case round =>
                            obtain ⟨q, b, HP, rfl, rfl, hgq, HBQ⟩ := hrel
                            obtain ⟨p1, p2⟩ := HP.out
                            by_cases hq : q < (leansI o i).length
                            · have m1 : (0 : Int) ≤ (q : Int) := by omega
                              have m2 : (q : Int) < ((leansI o i).length : Int) := by omega
                              have mw : IntKind.i64.wrap ((q : Int) + 1) = (q : Int) + 1 := by have := leansI_len o i; rw [IntKind.wrap_i64]; omega
                              obtain ⟨k, hk⟩ : ∃ k, (leansI o i)[q]? = some k := ⟨_, List.getElem?_eq_getElem hq⟩
                              have hkl := leansI_lt (List.mem_of_getElem? hk)
                              obtain ⟨gL, offL, csL, rfl, -, -, kL, rfl⟩ := HLS.out.elt hk
                              have kL2 := kL.grows (hgEF.trans (hgF4.trans hgq))
                              have cL2 := kL2.cell (j := 0) rfl
                              rw [World.cell?_row, Nat.add_zero, Nat.mul_one] at cL2
                              unfold natV at cL2
                              have zL := lt_sz kL2.lt
                              have hd4 := (hgq.row_eq zx4.1).trans hx4
                              have zd4 := row_sz' hd4
                              have hr4 := (hgq.row_eq zxR.1).trans hxR
                              have zr4 := row_sz' hr4
                              have dkk := HDC.out.2 k hkl
                              obtain ⟨rbk, rkk, rIk⟩ := HRG.out.2 k hkl
                              have k0 : (0 : Int) ≤ (k : Int) := by omega
                              have k3 : (k : Int) < (o.length : Int) := by omega
                              have HNX := Lib.hid (show (b && (dn k || rbk)) = true ↔ ∀ j k', j < q + 1 → (leansI o i)[j]? = some k' → dn k' = true ∨ Rch (leansI o) k' k' from by
                                rw [Bool.and_eq_true, Bool.or_eq_true, HBQ.out, rIk]
                                constructor
                                · rintro ⟨h1, h2⟩ j k' hj hjk
                                  by_cases e : j = q
                                  · subst e; rw [hk] at hjk; injection hjk with hjk; subst hjk; exact h2
                                  · exact h1 j k' (by omega) hjk
                                · exact fun h => ⟨fun j k' hj hjk => h j k' (by omega) hjk, h q k (by omega) hk⟩)
                              clear kL kL2 hk rIk
                              cases b <;> cases hdk : dn k <;> cases rbk
                              all_goals
                                rw [hdk] at dkk HNX
                                go_wp2_with fail
                                go_roundg ((leansI o i).length - (q + 1))
                                case measure => omega
                                case rel => exact ⟨q + 1, _, Lib.hid ⟨by omega, by omega⟩, by go_num, rfl, hgq.trans (by repeat (with_reducible first | assumption | exact grA | apply grB | apply grC | apply grD | refine grE ?_ (by omega) _ | refine grF ?_ (by omega) _ _)), Lib.hid HNX.out⟩
                            · have m2 : ¬ (q : Int) < ((leansI o i).length : Int) := by omega
                              obtain rfl : q = (leansI o i).length := by omega
                              have hd4 := (hgq.row_eq zx4.1).trans hx4
                              have zd4 := row_sz' hd4
                              cases b with
                              | false =>
                                have NRD : ¬ RdyD o dn i := fun h => by
                                  have := HBQ.out.2 fun j k _ hjk => h.2.2 k (List.mem_of_getElem? hjk)
                                  cases this
                                go_wp2_with fail
                                go_roundg (o.length - (i + 1))
                                case measure => omega
                                case rel => exact ⟨i + 1, dn, kn, aK, cK, dc, Lib.hid ⟨by omega, by omega, q3⟩, by go_num, rfl, (hgF4.trans hgq).trans (by repeat (with_reducible first | assumption | exact grA | apply grB | apply grC | apply grD | refine grE ?_ (by omega) _ | refine grF ?_ (by omega) _ _)), ((show wr.grows _ from (by repeat (with_reducible first | assumption | exact grA | apply grB | apply grC | apply grD | refine grE ?_ (by omega) _ | refine grF ?_ (by omega) _ _))).row_eq zd4.1).trans hd4, HDC, Lib.hid ⟨(HV4.out.1.grows hgq).grows (by repeat (with_reducible first | assumption | exact grA | apply grB | apply grC | apply grD | refine grE ?_ (by omega) _ | refine grF ?_ (by omega) _ _)), HV4.out.2.1, HV4.out.2.2.skip NRD⟩⟩
                              | true =>
                                have HRD := Lib.hid (show RdyD o dn i from ⟨hd, (fun h => by have h2 := HRB.out.2 h; cases h2), fun j hj => by
                                  obtain ⟨p, hp⟩ := List.getElem?_of_mem hj
                                  exact HBQ.out.1 rfl p j (List.getElem?_eq_some_iff.1 hp).1 hp⟩)
                                go_upto_region 42 with fail
                                have hxS : (wr.setCell ⟨wG.heap.size, i, none⟩ (.bool true)).row wG.heap.size = some (.cells (dc.setIfInBounds i (.bool true)) 4) := by rw [World.row_setCell, if_pos rfl, hd4]; rfl
                                have hrS : ∀ g, g ≠ wG.heap.size → (wr.setCell ⟨wG.heap.size, i, none⟩ (.bool true)).row g = wr.row g := fun g h => by rw [World.row_setCell, if_neg h]
                                have hgFq := hgF4.trans hgq
                                have hgS : wF.grows (wr.setCell ⟨wG.heap.size, i, none⟩ (.bool true)) := (by repeat (with_reducible first | assumption | exact grA | apply grB | apply grC | apply grD | refine grE ?_ (by omega) _ | refine grF ?_ (by omega) _ _))
                                have hsS : (wr.setCell ⟨wG.heap.size, i, none⟩ (.bool true)).heap.size = wr.heap.size := World.setCell_size' _ _ _
                                generalize wr.setCell ⟨wG.heap.size, i, none⟩ (.bool true) = w5 at *
                                have x95 := (hrS b9 (by omega)).trans ((hgq.row_eq zx9.1).trans x9)
                                have zx95 := row_sz' x95
                                have hKN5 := (HV4.out.1.grows hgq).keep (fun g hl hne => hrS g hne) (by omega)
                                have HKN5 := Lib.hid hKN5
                                have hck : CusAt w5 (fun g => g < w5.heap.size) (.slice aK kn.length cK) kn := OwnAt.slAt (OwnAt.mono hKN5.own World.grows.refl fun x _ cs hx => CuR.keep hx fun g hg hl => ⟨rfl, hl⟩) (by omega) fun g hg => by
                                  obtain ⟨css, q1, q2, q3⟩ := hKN5.own
                                  exact (q3.lt g hg).2
                                obtain ⟨hnm, t2, e2, hts, htl⟩ := HCX.out
                                obtain rfl : t2 = .slice aT ts.length cT := by simpa using e2.symm
                                have hgBS := hgBF.trans hgS
                                have hkl : kn.length ≤ 4200000 := by omega
                                have HPUT := Lib.hid (fun (W : World) (hg : w5.grows W) => fPut_any (w := W) (l := ts) (mp := .slice aK kn.length cK) (cus := kn) (Sk := fun g => g < w5.heap.size) (v := .slice aT ts.length cT) (hts.keep (fun g _ hl => ⟨(hgBS.trans hg).row_eq hl, trivial⟩) fun _ _ _ h => h) htl (CusAt.grows hck hg) (by omega) (fun g h => Nat.lt_of_lt_of_le h hg.below.size))
                                have hpl := putAll_len (findCu kn) ts
                                have HST := rinv_step HTO.out HV4.out.2.1 HGT.out hd HRD.out.2.1 HRD.out.2.2
                                have hmo : findCu own nm ≠ none := by
                                  rw [(HTO.out.mem ⟨nm, ts⟩).1 (List.mem_of_getElem? HGT.out)]; simp
                                have hcl : colD o dn nm ≠ 2 := by
                                  have := colD_at HTO.out HGT.out (dn := dn)
                                  simp only [hd] at this
                                  rw [this]; decide
                                have hnot := rinv_not HV4.out.2.1 hmo hcl
                                simp only at HST
                                generalize putAll (findCu kn) ts = p at *
                                obtain ⟨po, pe⟩ := p
                                simp only at hpl
                                have HNM := Lib.hid hnm
                                have hqS := (row_sz' hxS).1
                                have HMO := Lib.hid hmo
                                have HNOT := Lib.hid hnot
                                have HST2 := Lib.hid HST
                                have HXS := Lib.hid hxS
                                have hgSS := hgS
                                have hun : unm (fun j => if j = i then true else dn j) o.length + 1 ≤ unm dn o.length := unm_lt (fun j hj => by rw [hj]; simp) hd (by simp) o.length hli
                                have HDN : Hid ((dc.setIfInBounds i (.bool true)).size = o.length ∧ ∀ j, j < o.length → (dc.setIfInBounds i (.bool true))[j]? = some (.bool ((fun j => if j = i then true else dn j) j))) := Lib.hid ⟨by rw [Array.size_setIfInBounds]; exact HDC.out.1, fun j hj => by
                                  by_cases e : j = i
                                  · subst e
                                    rw [Array.getElem?_setIfInBounds_self_of_lt (by have := HDC.out.1; omega)]; simp
                                  · rw [Array.getElem?_setIfInBounds_ne (Ne.symm e), HDC.out.2 j hj]; simp [e]⟩
                                clear hck hts htl e2 hnm hmo hcl hnot HST hrS hxS hd4 zd4 hKN5
                                go_upto_region 43 with (go_at_call 23; go_loud ((with_reducible refine (HPUT.out _ (by repeat (with_reducible first | assumption | exact grA | apply grB | apply grC | apply grD | refine grE ?_ (by omega) _ | refine grF ?_ (by omega) _ _))).mono ?_); rintro r w6 ⟨vR, rfl, hg6, hv6⟩; (obtain ⟨aR, cR, rfl, -, -⟩ := hv6.len); (have HV6 := Lib.hid hv6); clear hv6))
                                have hgF6 := hgS.trans hg6
                                have x96 := (hg6.row_eq zx95.1).trans x95
                                have zx96 := row_sz' x96
                                have HK6 := Lib.hid (HKN5.out.grows hg6)
                                have hs6 := hg6.below.size
                                have HX6 := Lib.hid ((hg6.row_eq hqS).trans HXS.out)
                                by_cases hpe : pe = 0
                                · subst hpe
                                  obtain ⟨css, r1, r2, r3⟩ := HK6.out.own
                                  have HR3 := Lib.hid r3
                                  have HR12 := Lib.hid (And.intro r1 r2)
                                  clear r1 r2 r3 x95 zx95
                                  go_upto_region 45 with ((at_builtin; refine wpList_app wF (wF.heap.size) rfl (.tmp 156) (.tmp 161) _ rfl 30 (.agg #[.string ByteArray.empty, .slice none 0 0]) 2 40 Tryz.underlying22 (by kernel_rfl) rfl (by omega) (by omega) _ kn.length _ rfl (World.ownsRow.grows HR3.out (by repeat (with_reducible first | assumption | exact grA | apply grB | apply grC | apply grD | refine grE ?_ (by omega) _ | refine grF ?_ (by omega) _ _))) _ 1 _ [.string nm, .slice aR po.length cR] rfl rfl (cells_of_row (e := 30) (fr := (0, 0)) (by simp [go_sem])) (by simp [Value.oneCell']) (by omega) (by repeat (with_reducible first | assumption | exact grA | apply grB | apply grC | apply grD | refine grE ?_ (by omega) _ | refine grF ?_ (by omega) _ _)) (by omega) (by first | omega | (simp <;> omega)) ?_; intro v' w' hg' HO' HR' HG' HA'); (obtain ⟨a9, c9, rfl⟩ := own_slice HO'.out))
                                  have hle : (kn ++ [(⟨nm, po⟩ : Cu)]).length = kn.length + 1 := by simp
                                  have HGG := Lib.hid (grownBy_trans (grownBy_of_grows (show w6.grows _ from (by repeat (with_reducible first | assumption | exact grA | apply grB | apply grC | apply grD | refine grE ?_ (by omega) _ | refine grF ?_ (by omega) _ _))) _) HG'.out (fun q hq => .inl hq))
                                  have HKN := Lib.hid (show KnS wG.heap.size wF.heap.size w' (.slice a9 (kn.length + 1) c9) (kn ++ [⟨nm, po⟩]) from KnS.app (W := w6) (by omega) HK6.out.ne HR12.out.1 HR12.out.2 HGG.out (by
                                    rcases HA'.out with h | h
                                    · exact .inl h
                                    · exact .inr ⟨_, h, (World.grows.below (show w6.grows _ from (by repeat (with_reducible first | assumption | exact grA | apply grB | apply grC | apply grD | refine grE ?_ (by omega) _ | refine grF ?_ (by omega) _ _)))).size⟩) HO'.out ⟨HNM.out, _, rfl, HV6.out.keep (fun g hg hl => ⟨rfl, hl, by omega, fun e => by
                                      obtain ⟨css5, _, _, q35⟩ := HKN5.out.own
                                      have := (q35.lt g e).2
                                      omega⟩) fun _ _ _ h => h, Nat.le_trans hpl (by decide)⟩)
                                  have HX7 := Lib.hid ((row_growV HGG.out (by omega) (fun e => HK6.out.ne e.symm)).trans HX6.out)
                                  have hs7 := HGG.out.size
                                  have HVI : Hid (VInv (findCu own) (findCu down) (colD o fun j => if j = i then true else dn j) (findCu (kn ++ [⟨nm, po⟩]))) := Lib.hid (by
                                    rw [rinv_ok (ab := fun _ => none) (col := fun _ => 0) HMO.out]
                                    exact HST2.out)
                                  clear HO' HG' HA' HR'
                                  go_wp2_with fail
                                  go_roundg (o.length - (i + 1))
                                  case measure => omega
                                  case rel => exact ⟨i + 1, _, kn ++ [⟨nm, po⟩], a9, c9, _, Lib.hid ⟨by omega, by omega, by omega⟩, by go_num, by rw [hle], hg'.trans (by repeat (with_reducible first | assumption | exact grA | apply grB | apply grC | apply grD | refine grE ?_ (by omega) _ | refine grF ?_ (by omega) _ _)), ((show w'.grows _ from (by repeat (with_reducible first | assumption | exact grA | apply grB | apply grC | apply grD | refine grE ?_ (by omega) _ | refine grF ?_ (by omega) _ _))).row_eq (by omega)).trans HX7.out, HDN, Lib.hid ⟨by rw [hle]; exact HKN.out.grows (by repeat (with_reducible first | assumption | exact grA | apply grB | apply grC | apply grD | refine grE ?_ (by omega) _ | refine grF ?_ (by omega) _ _)), HVI.out, HV4.out.2.2.done⟩⟩
                                · have hpb : (pe == 0) = false := by simpa using hpe
                                  have HVI : Hid (VInv (findCu own) (findCu down) (colD o fun j => if j = i then true else dn j) (findCu kn)) := Lib.hid (by
                                    have h2 := HST2.out
                                    rw [show okOf (po, pe) = none by unfold okOf; rw [if_neg hpe], HNOT.out] at h2
                                    exact h2)
                                  clear hpe
                                  go_wp2_with fail
                                  go_roundg (o.length - (i + 1))
                                  case measure => omega
                                  case rel => exact ⟨i + 1, _, kn, aK, cK, _, Lib.hid ⟨by omega, by omega, by omega⟩, by go_num, rfl, hgF6.trans (by repeat (with_reducible first | assumption | exact grA | apply grB | apply grC | apply grD | refine grE ?_ (by omega) _ | refine grF ?_ (by omega) _ _)), ((show w6.grows _ from (by repeat (with_reducible first | assumption | exact grA | apply grB | apply grC | apply grD | refine grE ?_ (by omega) _ | refine grF ?_ (by omega) _ _))).row_eq (by omega)).trans HX6.out, HDN, Lib.hid ⟨HK6.out.grows (by repeat (with_reducible first | assumption | exact grA | apply grB | apply grC | apply grD | refine grE ?_ (by omega) _ | refine grF ?_ (by omega) _ _)), HVI.out, HV4.out.2.2.done⟩⟩
                    · have n2 : ¬ (i : Int) < (o.length : Int) := by omega
                      obtain rfl : i = o.length := by omega
                      have HRN := Lib.hid (RndI.next HTO.out HVR.out.2 HV.out.2.2)
                      go_wp2_with fail
                      go_roundg (o.length - (r + 1))
                      case measure => omega
                      case rel => exact ⟨r + 1, dn, kn, aK, cK, dc, Lib.hid ⟨by omega, by omega, q3⟩, by go_num, rfl, hgj.trans (by repeat (with_reducible first | assumption | exact grA | apply grB | apply grC | apply grD | refine grE ?_ (by omega) _ | refine grF ?_ (by omega) _ _)), ((show wr.grows _ from (by repeat (with_reducible first | assumption | exact grA | apply grB | apply grC | apply grD | refine grE ?_ (by omega) _ | refine grF ?_ (by omega) _ _))).row_eq zx.1).trans hx, HDC, Lib.hid ⟨HV.out.1.grows (by repeat (with_reducible first | assumption | exact grA | apply grB | apply grC | apply grD | refine grE ?_ (by omega) _ | refine grF ?_ (by omega) _ _)), HV.out.2.1, HRN.out⟩⟩
                · have i2 : ¬ (r : Int) < (o.length : Int) := by omega
                  obtain rfl : r = o.length := by omega
                  have HSOL := Lib.hid (rinv_end HTO.out HV.out.2.1 HV.out.2.2.all)
                  have hkl : kn.length ≤ 4200000 := by omega
                  have hck : CusAt wr (fun g => g < wr.heap.size) (.slice aK kn.length cK) kn := OwnAt.slAt (OwnAt.mono HV.out.1.own World.grows.refl fun x _ cs hx => CuR.keep hx fun g hg hl => ⟨rfl, hl⟩) (by omega) fun g hg => by
                    obtain ⟨css, q1, q2, q3⟩ := HV.out.1.own
                    exact (q3.lt g hg).2
                  have HLK := Lib.hid (fun (W : World) (hg : wr.grows W) => flast_any (w := W) (CusAt.grows hck hg) (by omega))
                  have hgww := (hgwB.trans hgBF).trans hgj
                  clear hck HV
                  go_wp2_with (go_at_call 20; ((with_reducible refine (HLK.out _ (show wr.grows _ from (by repeat (with_reducible first | assumption | exact grA | apply grB | apply grC | apply grD | refine grE ?_ (by omega) _ | refine grF ?_ (by omega) _ _)))).mono ?_); rintro r w8 ⟨r2, oR, rfl, hg8, hTR, hlR, hOR⟩; (have hSR := last_cus hOR hg8); (have hg8' : wr.grows w8 := World.grows.trans (by repeat (with_reducible first | assumption | exact grA | apply grB | apply grC | apply grD | refine grE ?_ (by omega) _ | refine grF ?_ (by omega) _ _)) hg8); (have HR8 := Lib.hid (And.intro hTR hSR)); clear hTR hSR hOR))
                  go_ret
                  exact ⟨_, oR, rfl, hgww.trans hg8', ⟨_, HSOL.out, HR8.out.1⟩, HR8.out.2⟩
end Go.Proofs.YthcaphoejplecaaGreatDoor

/- WALK over the law VarsResolves. No condition but bounds and the table of kinds. -/
namespace Go.Proofs.YthcaphoejplecaaGreatDoor
open Go.RowKit Go.Maps
set_option maxRecDepth 100000 in
set_option maxHeartbeats 8000000 in
theorem resolves_any {w : World} {v u : Value} {own down : List Cu} {So Sd : Nat → Prop} (ho : CusAt w So v own) (hol : own.length ≤ 4194304) (hd : CusAt w Sd u down) (hdl : down.length ≤ 4194000) (hSo : ∀ g, So g → g < w.heap.size) (hSd : ∀ g, Sd g → g < w.heap.size) (hK : KindsAt w) :
    Calls Tryz.prog 3 #[v, u] w (Gives w (.bool true)) := by
  obtain ⟨a0, c0', rfl, hcap, hcap2⟩ := SlAt.len ho
  have HW := Lib.hid (fun (W : World) (hg : w.grows W) => awake_any (hK.grows hg))
  have HDW := Lib.hid hd
  have HSS := Lib.hid (And.intro hSo hSd)
  clear hd hSo hSd hK
  by_cases hk : 40 < own.length
  · have m1 : (40 : Int) < (own.length : Int) := by omega
    have m2 : (40 : Int) ≤ (c0' : Int) := by omega
    have m3 : 40 ≤ c0' := by omega
    obtain ⟨o, ho2⟩ : ∃ o, own.take 40 = o := ⟨_, rfl⟩
    have hlo : o.length = 40 := by rw [← ho2]; simp; omega
    have HOW0 := Lib.hid (show CusAt w So (.slice a0 40 c0') o by rw [← ho2]; exact SlAt.take ho (by omega))
    have HLO := Lib.hid hlo
    clear ho2 ho hcap hcap2 hk hlo
    go_enter Tryz.func3, Tryz.ntmps3
    go_upto_region 3 with fail
    generalize hsv : Value.slice a0 40 c0' = sv
    obtain ⟨N, rfl, hN⟩ : ∃ N, sv = Value.slice a0 N c0' ∧ N = 40 := ⟨40, hsv.symm, rfl⟩
    have HOW : Hid (CusAt w So (.slice a0 N c0') o) := by rw [hN]; exact HOW0
    have hl40 : N ≤ 40 := by omega
    rw [← hN] at HLO
    clear HOW0 hsv hN m1 m2 m3
    have HR1 := Lib.hid (fun (W : World) (hg : w.grows W) => resolve_any (w := W) (CusAt.grows HOW.out hg) (by have := HLO.out; omega) (CusAt.grows HDW.out hg) (by omega) (fun g h => Nat.lt_of_lt_of_le (HSS.out.1 g h) hg.below.size) (fun g h => Nat.lt_of_lt_of_le (HSS.out.2 g h) hg.below.size))
    have HR2 := Lib.hid (fun (W : World) (hg : w.grows W) => fResolve_any (w := W) (CusAt.grows HOW.out hg) (by have := HLO.out; omega) (CusAt.grows HDW.out hg) hdl)
    go_wp2_with (first | (go_at_call 5; (with_reducible refine (HSM.out _ (by repeat (with_reducible first | assumption | exact grA | apply grB | apply grC | apply grD | refine grE ?_ (by omega) _ | refine grF ?_ (by omega) _ _))).mono ?_); rintro e w1 ⟨rfl, x1, rfl⟩) | (go_at_call 8; (with_reducible refine (HW.out _ (hgw2.trans (by repeat (with_reducible first | assumption | exact grA | apply grB | apply grC | apply grD | refine grE ?_ (by omega) _ | refine grF ?_ (by omega) _ _)))).mono ?_); rintro e w1 ⟨rfl, x1, rfl⟩) | (go_at_call 7; go_loud ((with_reducible refine (HR2.out _ (hgr1.trans (by repeat (with_reducible first | assumption | exact grA | apply grB | apply grC | apply grD | refine grE ?_ (by omega) _ | refine grF ?_ (by omega) _ _)))).mono ?_); rintro r w2 ⟨v2, r2, rfl, hg2, hi2, hc2⟩; (have hg12 : w1.grows w2 := World.grows.trans (by repeat (with_reducible first | assumption | exact grA | apply grB | apply grC | apply grD | refine grE ?_ (by omega) _ | refine grF ?_ (by omega) _ _)) hg2); (obtain rfl := hi1.uniq hi2); (obtain ⟨a2, c2, rfl, -, -⟩ := hc2.len); (have HSM := Lib.hid (fun (W : World) (hg : w2.grows W) => fcusame_any (CusAt.grows hc1 (hg12.trans hg)) (CusAt.grows hc2 hg))); (have hgw2 : w.grows w2 := hgr1.trans hg12))) | (go_at_call 6; go_loud ((with_reducible refine (HR1.out _ (by repeat (with_reducible first | assumption | exact grA | apply grB | apply grC | apply grD | refine grE ?_ (by omega) _ | refine grF ?_ (by omega) _ _))).mono ?_); rintro r w1 ⟨v1, r1, rfl, hg1, hi1, -, hc1⟩; (have hgr1 : w.grows w1 := World.grows.trans (by repeat (with_reducible first | assumption | exact grA | apply grB | apply grC | apply grD | refine grE ?_ (by omega) _ | refine grF ?_ (by omega) _ _)) hg1); (obtain ⟨a3, c3, rfl, -, -⟩ := hc1.len))))
    go_ret
    exact ⟨rfl, hgw2.trans (by repeat (with_reducible first | assumption | exact grA | apply grB | apply grC | apply grD | refine grE ?_ (by omega) _ | refine grF ?_ (by omega) _ _))⟩
  · have m1 : ¬ (40 : Int) < (own.length : Int) := by omega
    obtain ⟨N, hN⟩ : ∃ N, own.length = N := ⟨_, rfl⟩
    have hl40 : N ≤ 40 := by omega
    rw [hN] at m1 ho ⊢
    have HOW := Lib.hid ho
    have HLO := Lib.hid hN
    clear ho hcap hcap2 hk hN hol
    go_enter Tryz.func3, Tryz.ntmps3
    go_upto_region 3 with fail
    have HR1 := Lib.hid (fun (W : World) (hg : w.grows W) => resolve_any (w := W) (CusAt.grows HOW.out hg) (by have := HLO.out; omega) (CusAt.grows HDW.out hg) (by omega) (fun g h => Nat.lt_of_lt_of_le (HSS.out.1 g h) hg.below.size) (fun g h => Nat.lt_of_lt_of_le (HSS.out.2 g h) hg.below.size))
    have HR2 := Lib.hid (fun (W : World) (hg : w.grows W) => fResolve_any (w := W) (CusAt.grows HOW.out hg) (by have := HLO.out; omega) (CusAt.grows HDW.out hg) hdl)
    go_wp2_with (first | (go_at_call 5; (with_reducible refine (HSM.out _ (by repeat (with_reducible first | assumption | exact grA | apply grB | apply grC | apply grD | refine grE ?_ (by omega) _ | refine grF ?_ (by omega) _ _))).mono ?_); rintro e w1 ⟨rfl, x1, rfl⟩) | (go_at_call 8; (with_reducible refine (HW.out _ (hgw2.trans (by repeat (with_reducible first | assumption | exact grA | apply grB | apply grC | apply grD | refine grE ?_ (by omega) _ | refine grF ?_ (by omega) _ _)))).mono ?_); rintro e w1 ⟨rfl, x1, rfl⟩) | (go_at_call 7; go_loud ((with_reducible refine (HR2.out _ (hgr1.trans (by repeat (with_reducible first | assumption | exact grA | apply grB | apply grC | apply grD | refine grE ?_ (by omega) _ | refine grF ?_ (by omega) _ _)))).mono ?_); rintro r w2 ⟨v2, r2, rfl, hg2, hi2, hc2⟩; (have hg12 : w1.grows w2 := World.grows.trans (by repeat (with_reducible first | assumption | exact grA | apply grB | apply grC | apply grD | refine grE ?_ (by omega) _ | refine grF ?_ (by omega) _ _)) hg2); (obtain rfl := hi1.uniq hi2); (obtain ⟨a2, c2, rfl, -, -⟩ := hc2.len); (have HSM := Lib.hid (fun (W : World) (hg : w2.grows W) => fcusame_any (CusAt.grows hc1 (hg12.trans hg)) (CusAt.grows hc2 hg))); (have hgw2 : w.grows w2 := hgr1.trans hg12))) | (go_at_call 6; go_loud ((with_reducible refine (HR1.out _ (by repeat (with_reducible first | assumption | exact grA | apply grB | apply grC | apply grD | refine grE ?_ (by omega) _ | refine grF ?_ (by omega) _ _))).mono ?_); rintro r w1 ⟨v1, r1, rfl, hg1, hi1, -, hc1⟩; (have hgr1 : w.grows w1 := World.grows.trans (by repeat (with_reducible first | assumption | exact grA | apply grB | apply grC | apply grD | refine grE ?_ (by omega) _ | refine grF ?_ (by omega) _ _)) hg1); (obtain ⟨a3, c3, rfl, -, -⟩ := hc1.len))))
    go_ret
    exact ⟨rfl, hgw2.trans (by repeat (with_reducible first | assumption | exact grA | apply grB | apply grC | apply grD | refine grE ?_ (by omega) _ | refine grF ?_ (by omega) _ _))⟩
end Go.Proofs.YthcaphoejplecaaGreatDoor
