/- Texts of the walk, one after the other; what each proves stands ahead of it. -/
import Derived.Test.YtdbddnkjiehaiaaGreatDomQb
import Derived.Test.YtdbddnkjiehaiaaGreatDomQg
import Derived.Test.YtdbddnkjiehaiaaGreatMr
set_option linter.unusedSimpArgs false
set_option linter.unusedVariables false
/- WALK over jalousieref8: whole of any elements. -/
namespace Go.Proofs.YtdbddnkjiehaiaaGreat
open Go.Maps Go.RowKit Go.Sort
@[go_sem] theorem nat_lt0 (n : Nat) : ((n : Int) < 0) = False := by apply eq_false; omega
/-- what whole comes to -/
def WhP (w : World) (M : Dm) (r : Ending) (w' : World) : Prop := ∃ b : Bool, r = .returned (.bool b) ∧ w.grows w' ∧ (b = true ↔ Jnd M)

set_option maxRecDepth 100000 in
set_option maxHeartbeats 40000000 in
theorem refWhole_any (w : World) (t : Nat) (v : Value) (M : Dm) (h : RefR w t v M) (hu : M.els.Pairwise fun a b => a.id < b.id) (hl : ∀ e ∈ M.els, 0 ≤ e.id) (hfew : M.els.length ≤ 256) (hw : ∀ e ∈ M.els, e.Wf0) : Calls Tryz.prog 18 #[.pointer (some ⟨t, 0, none⟩)] w (WhP w M) := by
  obtain ⟨a0, c0, rfl, _⟩ := h.els.len
  have hx := h.head
  have zx := row_sz' hx
  have HE := Lib.hid (els_get h.els).2
  have HR := Lib.hid h
  have HAT := Lib.hid (fun (W : World) (hW : w.grows W) (id : Int) => refAt_any W t _ M (h.grows hW) hfew id)
  have HU := Lib.hid hu; have HLO := Lib.hid hl; have HW := Lib.hid hw
  clear h hu hl hw
  go_enter Tryz.func18, Tryz.ntmps18
  go_upto_region 3 with fail
  go_loopg [3, 4, 17] M.els.length (fun gn v3 v4 v17 wj => ∃ (i : Nat) (rt kn : Int), Hid (gn + i = M.els.length ∧ i ≤ M.els.length) ∧ v17 = .int .i64 i ∧ v3 = .int .i64 rt ∧ v4 = .int .i64 kn ∧ w.grows wj ∧ Hid (rt = ((((M.els.take i).map El.id).filter (isR M)).length : Nat)) ∧ Hid (kn = (kidsN M ((M.els.take i).map El.id) : Nat)) ∧ Hid (∀ e ∈ M.els.take i, okE M e))
  case atStart => exact ⟨0, 0, 0, Lib.hid ⟨by simp, Nat.zero_le _⟩, by go_num, by go_num, by go_num, (by repeat (with_reducible first | assumption | exact grA | apply grB | apply grC | apply grD | refine grE ?_ (by omega) _ | refine grF ?_ (by omega) _ _)), Lib.hid (by simp), Lib.hid (by simp [kidsN]), Lib.hid fun e he => by simp at he⟩
  case round =>
    obtain ⟨i, rt, kn, HQ, rfl, rfl, rfl, hgj, HRT, HKN, HOK⟩ := hrel
    obtain ⟨j1, j2⟩ := HQ.out
    by_cases hlt : i < M.els.length
    · have iI : (i : Int) < (M.els.length : Int) := by omega
      rcases HE.out with h0 | ⟨g, off, rfl, e2⟩
      · rw [h0] at hlt; simp at hlt
      have hgt := List.getElem?_eq_getElem hlt
      have hmem := List.getElem_mem hlt
      obtain ⟨cs, l1, k1, ka, aa, kc, ac, rfl, hks, _⟩ := e2 i _ hgt
      have HTK := Lib.hid (show M.els.take (i + 1) = M.els.take i ++ [M.els[i]] by rw [List.take_add_one, hgt]; rfl)
      generalize M.els[i] = e at *
      have k2 := k1.grows hgj
      have z3 := lt_sz k2.lt
      obtain ⟨u1, u2⟩ := k2
      rw [l1] at u1 u2
      have HKS := Lib.hid (ints_get (SlAt.keep hks (S' := fun _ => True) (fun g _ _ => ⟨rfl, trivial⟩) fun _ _ _ h => h)).2
      have hkc : e.ks.length ≤ kc := by
        obtain ⟨_, _, q1, q2, _⟩ := hks.len
        injection q1 with _ _ q1
        omega
      have HM := Lib.hid hmem
      have HE2 := Lib.hid e2
      clear e2 hks k1 hgt hmem
      have HNK := Lib.hid (show ¬ okE M e → ¬ Jnd M from fun h1 hj => h1 (hj.1 e HM.out))
      have HISR := Lib.hid (isR_at HU.out HM.out)
      have HKOF := Lib.hid (kidsOf_atU HU.out HM.out)
      have hrt2 : (0 : Int) ≤ rt ∧ rt ≤ 256 := by
        have h1 := HRT.out
        have h2 := List.length_filter_le (isR M) ((M.els.take i).map El.id)
        have h3 : ((M.els.take i).map El.id).length ≤ 256 := by rw [List.length_map, List.length_take]; omega
        omega
      have hkn2 : (0 : Int) ≤ kn ∧ kn ≤ 65536 := by
        have h1 := HKN.out
        have h2 : kidsN M ((M.els.take i).map El.id) ≤ 256 * ((M.els.take i).map El.id).length := kidsN_le fun x hx => by
          obtain ⟨y, hy, rfl⟩ := List.mem_map.1 hx
          have := okE_few (HOK.out y hy)
          rw [kidsOf_atU HU.out (List.mem_of_mem_take hy)]; omega
        have h3 : ((M.els.take i).map El.id).length ≤ 256 := by rw [List.length_map, List.length_take]; omega
        omega
      have hkw := (HW.out e HM.out).2.2.2.2.2.2.2
      by_cases hp : e.p = -1
      case' pos =>
        have HPO := Lib.hid (show e.p = -1 ∨ ∃ f ∈ M.els, f.id = e.p from .inl hp)
        have HRT8 := Lib.hid (show rt + 1 = ((((M.els.take (i + 1)).map El.id).filter (isR M)).length : Nat) by
          rw [HTK.out, List.map_append, List.filter_append, List.length_append, HRT.out]; simp [HISR.out, hp])
        go_upto_region 9 with fail
        have hgA : wr.grows (wr.alloc (.cells #[.int .i64 e.id, .int .i64 (-1), .string e.tag, .slice ka e.ks.length kc, .slice aa e.at'.length ac, .int .i64 e.bx.ty, .string e.bx.nm, .int .i64 e.bx.a, .int .i64 e.bx.b, .int .i64 e.bx.c, .int .i64 e.bx.d] 49)) := (by repeat (with_reducible first | assumption | exact grA | apply grB | apply grC | apply grD | refine grE ?_ (by omega) _ | refine grF ?_ (by omega) _ _))
        have hq8 : (wr.alloc (.cells #[.int .i64 e.id, .int .i64 (-1), .string e.tag, .slice ka e.ks.length kc, .slice aa e.at'.length ac, .int .i64 e.bx.ty, .string e.bx.nm, .int .i64 e.bx.a, .int .i64 e.bx.b, .int .i64 e.bx.c, .int .i64 e.bx.d] 49)).row wr.heap.size = some (.cells #[.int .i64 e.id, .int .i64 (-1), .string e.tag, .slice ka e.ks.length kc, .slice aa e.at'.length ac, .int .i64 e.bx.ty, .string e.bx.nm, .int .i64 e.bx.a, .int .i64 e.bx.b, .int .i64 e.bx.c, .int .i64 e.bx.d] 49) := by simp [go_sem]
        generalize wr.alloc (.cells #[.int .i64 e.id, .int .i64 (-1), .string e.tag, .slice ka e.ks.length kc, .slice aa e.at'.length ac, .int .i64 e.bx.ty, .string e.bx.nm, .int .i64 e.bx.a, .int .i64 e.bx.b, .int .i64 e.bx.c, .int .i64 e.bx.d] 49) = w8 at *
        clear hp
      case' neg =>
        have hpb : (e.p == -1) = false := by simp [hp]
        rcases hpat : M.at e.p with _ | f
        case none =>
          have HNJ := Lib.hid (HNK.out fun hok => by
            rcases hok.1 with h1 | ⟨f, hf, h1⟩
            · exact hp h1
            · exact findE_none hpat f hf h1)
          have hpe : posE M.els e.p = -1 := posE_none (findE_none hpat)
          have HPE := Lib.hid hpe
          clear hpat hp hpe
          go_wp2_with (go_at_call 43; go_loud ((with_reducible refine (HAT.out _ (by repeat (with_reducible first | assumption | exact grA | apply grB | apply grC | apply grD | refine grE ?_ (by omega) _ | refine grF ?_ (by omega) _ _)) _).mono ?_); rw [HPE.out]; rintro r w9 ⟨rfl, hg9⟩))
          go_ret
          exact ⟨false, rfl, World.grows.trans (by repeat (with_reducible first | assumption | exact grA | apply grB | apply grC | apply grD | refine grE ?_ (by omega) _ | refine grF ?_ (by omega) _ _)) hg9, ⟨fun hh => (nomatch hh), fun hj => absurd hj HNJ.out⟩⟩
        obtain ⟨hf, hfp⟩ := findE_some hpat
        obtain ⟨kf, hk1, _, _⟩ := posE_at HU.out hf
        rw [hfp] at hk1
        have HPE := Lib.hid hk1
        have hkf : ¬ (kf : Int) < 0 := by omega
        have HPO := Lib.hid (show e.p = -1 ∨ ∃ f ∈ M.els, f.id = e.p from .inr ⟨f, hf, hfp⟩)
        have HRT8 := Lib.hid (show rt = ((((M.els.take (i + 1)).map El.id).filter (isR M)).length : Nat) by
          rw [HTK.out, List.map_append, List.filter_append, List.length_append, HRT.out]; simp [HISR.out, hp])
        clear hpat hp hk1 hf hfp
        go_upto_region 9 with (go_at_call 43; go_loud ((with_reducible refine (HAT.out _ (by repeat (with_reducible first | assumption | exact grA | apply grB | apply grC | apply grD | refine grE ?_ (by omega) _ | refine grF ?_ (by omega) _ _)) _).mono ?_); rw [HPE.out]; rintro r w8 ⟨rfl, hg9⟩))
        have hq8 : w8.row wr.heap.size = some (.cells #[.int .i64 e.id, .int .i64 e.p, .string e.tag, .slice ka e.ks.length kc, .slice aa e.at'.length ac, .int .i64 e.bx.ty, .string e.bx.nm, .int .i64 e.bx.a, .int .i64 e.bx.b, .int .i64 e.bx.c, .int .i64 e.bx.d] 49) := by
          have q2 := hg9.row_eq (g := wr.heap.size) (by simp)
          simp [go_sem] at q2; exact q2
        have hgA : wr.grows w8 := World.grows.trans (by repeat (with_reducible first | assumption | exact grA | apply grB | apply grC | apply grD | refine grE ?_ (by omega) _ | refine grF ?_ (by omega) _ _)) hg9
        clear hg9 hkf hpb
      all_goals
        have z8 := row_sz' hq8
        have hg8 : w.grows w8 := hgj.trans hgA
        clear hgA u1 u2 z3
        go_upto_region 10 with fail
        generalize wr.heap.size = bx at *
        go_loopg [4, 34] e.ks.length (fun gn v4 v34 wk => ∃ (i' : Nat) (kn' : Int), Hid (gn + i' = e.ks.length ∧ i' ≤ e.ks.length) ∧ v34 = .int .i64 i' ∧ v4 = .int .i64 kn' ∧ Hid (kn' = kn + (i' : Int)) ∧ w8.grows wk ∧ Hid ((e.ks.take i').Nodup ∧ ∀ k ∈ e.ks.take i', ∃ f' ∈ M.els, f'.id = k ∧ f'.p = e.id))
        case atStart => exact ⟨0, kn, Lib.hid ⟨by simp, Nat.zero_le _⟩, by go_num, rfl, Lib.hid (by simp), World.grows.refl, Lib.hid ⟨by simp, fun k hk => by simp at hk⟩⟩
        case round =>
          obtain ⟨i', kn', HQ2, rfl, rfl, HK2, hgk, HF⟩ := hrel
          obtain ⟨m1, m2⟩ := HQ2.out
          have hgwk := hg8.trans hgk
          have hqk : wr.row bx = _ := (hgk.row_eq z8.1).trans hq8
          have zqk := row_sz' hqk
          by_cases hlt2 : i' < e.ks.length
          · have iI2 : (i' : Int) < (e.ks.length : Int) := by omega
            rcases HKS.out with h0 | ⟨g2, off2, rfl, e3⟩
            · rw [h0] at hlt2; simp at hlt2
            have hgt := List.getElem?_eq_getElem hlt2
            have hkm := List.getElem_mem hlt2
            have HTKE := Lib.hid (show e.ks.take (i' + 1) = e.ks.take i' ++ [e.ks[i']] by rw [List.take_add_one, hgt]; rfl)
            have el := (e3 i' _ hgt).grows hgwk
            have HGT := Lib.hid hgt
            generalize e.ks[i'] = k at *
            have c0 := el.cell (j := 0) rfl
            rw [World.cell?_row, Nat.add_zero, Nat.mul_one] at c0
            have zg := lt_sz el.lt
            have HE3 := Lib.hid e3
            clear e3 el hgt
            rcases hkat : M.at k with _ | f'
            · have HNJ := Lib.hid (HNK.out fun hok => by
                obtain ⟨y, hy, h1, _⟩ := hok.2.2 k hkm
                exact findE_none hkat y hy h1)
              have HPE := Lib.hid (show posE M.els k = -1 from posE_none (findE_none hkat))
              clear hkat
              go_upto_region 13 with (go_at_call 43; go_loud ((with_reducible refine (HAT.out _ hgwk _).mono ?_); rw [HPE.out]; rintro r w9 ⟨rfl, hg9⟩))
              refine wp_region_plus_lit (by kernel_rfl) (by kernel_rfl) ?_
              repeat (go_big_quiet_step (fail))
              (refine wpQuiet_nil ?_; intro _ hw'; obtain ⟨xq, hw''⟩ := hw'; subst hw'')
              go_wp2_with fail
              go_ret
              exact ⟨false, rfl, World.grows.trans hgwk (World.grows.trans hg9 (by repeat (with_reducible first | assumption | exact grA | apply grB | apply grC | apply grD | refine grE ?_ (by omega) _ | refine grF ?_ (by omega) _ _))), ⟨fun hh => (nomatch hh), fun hj => absurd hj HNJ.out⟩⟩
            obtain ⟨hf', hfk⟩ := findE_some hkat
            obtain ⟨kf', hk1, hk2, hk3⟩ := posE_at HU.out hf'
            rw [hfk] at hk1
            have HPE := Lib.hid hk1
            clear hkat hk1
            have hic : i' ≤ kc := by omega
            have hicI : (i' : Int) ≤ (kc : Int) := by omega
            have hkc0 : ¬ kc = 0 := by omega
            have hkI : ¬ (kf' : Int) < 0 := by omega
            have hkI2 : (kf' : Int) < (M.els.length : Int) := by omega
            obtain ⟨cs4, l4, k4, ka4, aa4, kc4, ac4, rfl, _, _⟩ := HE2.out kf' _ hk3
            go_upto_region 13 with (go_at_call 43; go_loud ((with_reducible refine (HAT.out _ hgwk _).mono ?_); rw [HPE.out]; rintro r w9 ⟨rfl, hg9⟩))
            have hgw9 := hgwk.trans hg9
            have k5 := k4.grows hgw9
            have z5 := lt_sz k5.lt
            have c5 := k5.cell (j := 1) rfl
            rw [World.cell?_row] at c5
            have hx9 := (HR.out.grows hgw9).head
            have zx9 := row_sz' hx9
            have hq9 : w9.row bx = _ := (hg9.row_eq zqk.1).trans hqk
            have zq9 := row_sz' hq9
            clear k4 k5 c0 zg hqk zqk
            by_cases hfp : f'.p = e.id
            · rw [hfp] at c5
              refine wp_region_plus_lit (by kernel_rfl) (by kernel_rfl) ?_
              repeat (go_big_quiet_step (fail))
              (refine wpQuiet_nil ?_; intro _ hw'; obtain ⟨xq, hw''⟩ := hw'; subst hw'')
              go_upto_region 16 with fail
              have hgW : w.grows (w9.plus xq) := World.grows.trans hgw9 (by repeat (with_reducible first | assumption | exact grA | apply grB | apply grC | apply grD | refine grE ?_ (by omega) _ | refine grF ?_ (by omega) _ _))
              have hgW8 : w8.grows (w9.plus xq) := World.grows.trans (hgk.trans hg9) (by repeat (with_reducible first | assumption | exact grA | apply grB | apply grC | apply grD | refine grE ?_ (by omega) _ | refine grF ?_ (by omega) _ _))
              clear hx9 zx9 c5 z5
              generalize w9.plus xq = w11 at *
              go_loopg [62] i' (fun gn v62 wl => ∃ j : Nat, Hid (gn + j = i' ∧ j ≤ i') ∧ v62 = .int .i64 j ∧ w11.grows wl ∧ Hid (∀ j', j' < j → e.ks[j']? ≠ some k))
              case atStart => exact ⟨0, Lib.hid ⟨by simp, Nat.zero_le _⟩, by go_num, World.grows.refl, Lib.hid fun j' hj => by omega⟩
              case round =>
                obtain ⟨j, HQ3, rfl, hgl, HNE⟩ := hrel
                obtain ⟨n1, n2⟩ := HQ3.out
                have hgwl := hgW.trans hgl
                have hgwl8 := hgW8.trans hgl
                by_cases hlt3 : j < i'
                · have iI3 : (j : Int) < (i' : Int) := by omega
                  have hgt3 : e.ks[j]? = some (e.ks[j]'(by omega)) := List.getElem?_eq_getElem _
                  have el3 := (HE3.out j _ hgt3).grows hgwl
                  have HDUP := Lib.hid (show e.ks[j]'(by omega) = k → ¬ okE M e from fun hm hok => by
                    have := (List.getElem?_inj (by omega) hok.2.1).1 (show e.ks[j]? = e.ks[i']? by rw [HGT.out, hgt3, hm])
                    omega)
                  generalize e.ks[j]'(by omega) = m at *
                  have c3 := el3.cell (j := 0) rfl
                  rw [World.cell?_row, Nat.add_zero, Nat.mul_one] at c3
                  have zg3 := lt_sz el3.lt
                  have HGT3 := Lib.hid hgt3
                  clear el3 hgt3
                  by_cases hmk : m = k
                  · have HNJ := Lib.hid (HNK.out (HDUP.out hmk))
                    have hmb : (m == k) = true := by simp [hmk]
                    have HMK := Lib.hid hmk
                    clear hmk
                    go_wp2_with fail
                    go_ret
                    exact ⟨false, rfl, hgwl, ⟨fun hh => (nomatch hh), fun hj => absurd hj HNJ.out⟩⟩
                  · have hmb : (m == k) = false := by simpa using hmk
                    have HNE5 := Lib.hid (show ∀ j', j' < j + 1 → e.ks[j']? ≠ some k from fun j' hj' => by
                      by_cases hjj : j' = j
                      · subst hjj; rw [HGT3.out]; exact fun hh => hmk (by injection hh)
                      · exact HNE.out j' (by omega))
                    go_wp2_with fail
                    go_roundg (i' - (j + 1))
                    case measure => omega
                    case rel => exact ⟨j + 1, Lib.hid ⟨by omega, by omega⟩, by go_num, hgl, HNE5⟩
                · have iI3 : ¬ (j : Int) < (i' : Int) := by omega
                  have HF5 := Lib.hid (show (e.ks.take (i' + 1)).Nodup ∧ ∀ k ∈ e.ks.take (i' + 1), ∃ f' ∈ M.els, f'.id = k ∧ f'.p = e.id from by
                    rw [HTKE.out]
                    refine ⟨?_, fun y hy => ?_⟩
                    · rw [List.nodup_append]
                      refine ⟨HF.out.1, by simp, fun a ha b hb hab => ?_⟩
                      simp at hb; subst hb; subst hab
                      obtain ⟨j', hj, hj2⟩ := List.mem_iff_getElem.1 ha
                      have hji : j' < i' := by simp at hj; omega
                      rw [List.getElem_take] at hj2
                      exact HNE.out j' (by omega) (by rw [List.getElem?_eq_getElem (by omega), hj2])
                    · rcases List.mem_append.1 hy with hy | hy
                      · exact HF.out.2 y hy
                      · simp at hy; subst hy; exact ⟨f', hf', hfk, hfp⟩)
                  have HK3 := Lib.hid (show kn' + 1 = kn + ((i' + 1 : Nat) : Int) by rw [HK2.out]; omega)
                  have hkn3 : (0 : Int) ≤ kn' ∧ kn' ≤ 2000000 := by have := HK2.out; omega
                  go_wp2_with fail
                  go_roundg (e.ks.length - (i' + 1))
                  case measure => omega
                  case rel => exact ⟨i' + 1, _, Lib.hid ⟨by omega, by omega⟩, by go_num, by go_num, HK3, hgwl8, HF5⟩
            · have HNJ := Lib.hid (HNK.out fun hok => by
                obtain ⟨y, hy, h1, h2⟩ := hok.2.2 k hkm
                obtain rfl := ids_inj HU.out hy hf' (h1.trans hfk.symm)
                exact hfp h2)
              have hfp2 : (f'.p == e.id) = false := by simpa using hfp
              refine wp_region_plus_lit (by kernel_rfl) (by kernel_rfl) ?_
              repeat (go_big_quiet_step (fail))
              (refine wpQuiet_nil ?_; intro _ hw'; obtain ⟨xq, hw''⟩ := hw'; subst hw'')
              go_wp2_with fail
              go_ret
              exact ⟨false, rfl, World.grows.trans hgw9 (by repeat (with_reducible first | assumption | exact grA | apply grB | apply grC | apply grD | refine grE ?_ (by omega) _ | refine grF ?_ (by omega) _ _)), ⟨fun hh => (nomatch hh), fun hj => absurd hj HNJ.out⟩⟩
          · have iI2 : ¬ (i' : Int) < (e.ks.length : Int) := by omega
            have hok : okE M e := ⟨HPO.out, by have := HF.out.1; rwa [List.take_of_length_le (by omega)] at this, fun k hk => HF.out.2 k (by rw [List.take_of_length_le (by omega)]; exact hk)⟩
            have HOK5 := Lib.hid (show ∀ y ∈ M.els.take (i + 1), okE M y from fun y hy => by
              rw [HTK.out] at hy
              rcases List.mem_append.1 hy with hy | hy
              · exact HOK.out y hy
              · simp at hy; subst hy; exact hok)
            have HK5 := Lib.hid (show kn' = (kidsN M ((M.els.take (i + 1)).map El.id) : Nat) by
              rw [HTK.out, List.map_append, kidsN_app, HK2.out, HKN.out]
              have : i' = e.ks.length := by omega
              simp [kidsN, HKOF.out, this])
            clear hok
            go_wp2_with fail
            go_roundg (M.els.length - (i + 1))
            case measure => omega
            case rel => exact ⟨i + 1, _, _, Lib.hid ⟨by omega, by omega⟩, by go_num, by go_num, by go_num, hgwk, HRT8, HK5, HOK5⟩
    · have iI : ¬ (i : Int) < (M.els.length : Int) := by omega
      obtain rfl : i = M.els.length := by omega
      have hokA : ∀ e ∈ M.els, okE M e := fun e he => HOK.out e (by rw [List.take_length]; exact he)
      have hrtv : rt = (((M.els.map El.id).filter (isR M)).length : Nat) := by have := HRT.out; rwa [List.take_length] at this
      have hkn : kn = (kidsN M (M.els.map El.id) : Nat) := by have := HKN.out; rwa [List.take_length] at this
      have hnd := ids_nodup HU.out
      have hr1 : rt = 1 → ∃ r, (∃ e ∈ M.els, e.id = r ∧ e.p = -1) ∧ ∀ e ∈ M.els, e.p = -1 → e.id = r := fun hh => by
        obtain ⟨r, q1, q2, q3⟩ := (filt1 (f := isR M) hnd).1 (by omega)
        exact ⟨r, isR_el q2, fun e he hp => q3 e.id (List.mem_map.2 ⟨e, he, rfl⟩) (by rw [isR_at HU.out he]; exact decide_eq_true hp)⟩
      have hr2 : (∃ r, (∃ e ∈ M.els, e.id = r ∧ e.p = -1) ∧ ∀ e ∈ M.els, e.p = -1 → e.id = r) → rt = 1 := fun ⟨r, ⟨er, her, e1, e2⟩, h3⟩ => by
        have := (filt1 (f := isR M) hnd).2 ⟨r, List.mem_map.2 ⟨er, her, e1⟩, by rw [← e1, isR_at HU.out her]; exact decide_eq_true e2, fun x hx hfx => by
          obtain ⟨e, he, rfl⟩ := List.mem_map.1 hx
          rw [isR_at HU.out he] at hfx
          exact h3 e he (of_decide_eq_true hfx)⟩
        rw [hrtv, this]; rfl
      have hxr := (HR.out.grows hgj).head
      have zxr := row_sz' hxr
      have hkb : 0 ≤ kn := by omega
      have HR2 := Lib.hid hr2
      have HKN2 := Lib.hid hkn
      by_cases hrt : rt = 1
      · obtain ⟨r, q2, q3⟩ := hr1 hrt
        by_cases hkk : kn = (M.els.length : Int) - 1
        · have hs : Shp0 M r := shp_of HU.out HLO.out hfew hokA q2
          have KO := Lib.hid (fun (W : World) (hW : w.grows W) => refOrderG_any W t _ M (HR.out.grows hW) hs q3)
          have HJ := Lib.hid (show Jnd M ↔ (M.below 256 r).length = M.els.length from ⟨fun hj => by
            obtain ⟨_, r', ⟨er, her, e1, e2⟩, h3, _, h4⟩ := hj
            have := q3 er her e2
            rw [← this, e1]; exact h4, fun hl => ⟨hokA, r, q2, q3, by omega, hl⟩⟩)
          clear hr1 HRT HKN hs hokA q2 q3 hkn hrtv HOK hr2
          subst hrt
          go_upto_region 24 with fail
          refine wp_region_plus_seq (by kernel_rfl) (by kernel_rfl) (fun x0 => ?_)
          repeat (any_goals (first | (refine wpSeqL_free rfl ?_; first | (go_big_quiet_skip; refine wpQuiet_nil ?_) | (go_big_quiet_step (fail); refine wpQuiet_nil ?_) | (refine wpQuiet_step (fun K hK => ?_); go_simp; split <;> (refine hK _ ?_; clear hK K; refine wpQuiet_nil ?_))) | (refine wpSeqL_link rfl (fun K hK => ?_); go_simp; first | first | (refine hK _ _ (by show World.grows _ _; repeat (first | assumption | exact grA | apply grB | apply grC | apply grD)) ?_; clear hK K) | (((go_at_call 30; go_loud ((with_reducible refine (KO.out _ (World.grows.trans hgj (by repeat (with_reducible first | assumption | exact grA | apply grB | apply grC | apply grD | refine grE ?_ (by omega) _ | refine grF ?_ (by omega) _ _)))).mono ?_); rintro r w5 ⟨v5, rfl, hg5, hv5⟩; (obtain ⟨a5, c5, rfl⟩ := own_slice hv5); (have hgw5 : wr.grows w5 := World.grows.trans (by repeat (with_reducible first | assumption | exact grA | apply grB | apply grC | apply grD | refine grE ?_ (by omega) _ | refine grF ?_ (by omega) _ _)) hg5); (have hx5 := (HR.out.grows (hgj.trans hgw5)).head); (have zx5 := row_sz' hx5); clear hv5))); refine ⟨_, rfl, hK _ _ (by show World.grows _ _; repeat (first | assumption | exact grA | apply grB | apply grC | apply grD)) ?_⟩; clear hK K) | (split <;> (first | (refine hK _ _ (by show World.grows _ _; repeat (first | assumption | exact grA | apply grB | apply grC | apply grD)) ?_; clear hK K) | (((go_at_call 30; go_loud ((with_reducible refine (KO.out _ (World.grows.trans hgj (by repeat (with_reducible first | assumption | exact grA | apply grB | apply grC | apply grD | refine grE ?_ (by omega) _ | refine grF ?_ (by omega) _ _)))).mono ?_); rintro r w5 ⟨v5, rfl, hg5, hv5⟩; (obtain ⟨a5, c5, rfl⟩ := own_slice hv5); (have hgw5 : wr.grows w5 := World.grows.trans (by repeat (with_reducible first | assumption | exact grA | apply grB | apply grC | apply grD | refine grE ?_ (by omega) _ | refine grF ?_ (by omega) _ _)) hg5); (have hx5 := (HR.out.grows (hgj.trans hgw5)).head); (have zx5 := row_sz' hx5); clear hv5))); refine ⟨_, rfl, hK _ _ (by show World.grows _ _; repeat (first | assumption | exact grA | apply grB | apply grC | apply grD)) ?_⟩; clear hK K))))))
          all_goals (refine wpSeqL_end ?_)
          go_wp2_with fail
          go_ret
          refine ⟨_, rfl, hgj.trans (by repeat (with_reducible first | assumption | exact grA | apply grB | apply grC | apply grD | refine grE ?_ (by omega) _ | refine grF ?_ (by omega) _ _)), ?_⟩
          rw [HJ.out]
          simp only [beq_iff_eq]
          constructor <;> intro hh <;> omega
        · have HNJ := Lib.hid (show ¬ Jnd M from fun ⟨_, _, _, _, h4, _⟩ => hkk (by omega))
          clear hr1 HRT HKN hokA q2 q3 hkn hrtv HOK hr2
          subst hrt
          have hkk2 : (kn == (M.els.length : Int) - 1) = false := by simpa using hkk
          go_upto_region 24 with fail
          refine wp_region_plus_seq (by kernel_rfl) (by kernel_rfl) (fun x0 => ?_)
          repeat (any_goals (first | (refine wpSeqL_free rfl ?_; first | (go_big_quiet_skip; refine wpQuiet_nil ?_) | (go_big_quiet_step (fail); refine wpQuiet_nil ?_) | (refine wpQuiet_step (fun K hK => ?_); go_simp; split <;> (refine hK _ ?_; clear hK K; refine wpQuiet_nil ?_))) | (refine wpSeqL_link rfl (fun K hK => ?_); go_simp; first | first | (refine hK _ _ (by show World.grows _ _; repeat (first | assumption | exact grA | apply grB | apply grC | apply grD)) ?_; clear hK K) | ((fail); refine ⟨_, rfl, hK _ _ (by show World.grows _ _; repeat (first | assumption | exact grA | apply grB | apply grC | apply grD)) ?_⟩; clear hK K) | (split <;> (first | (refine hK _ _ (by show World.grows _ _; repeat (first | assumption | exact grA | apply grB | apply grC | apply grD)) ?_; clear hK K) | ((fail); refine ⟨_, rfl, hK _ _ (by show World.grows _ _; repeat (first | assumption | exact grA | apply grB | apply grC | apply grD)) ?_⟩; clear hK K))))))
          all_goals (refine wpSeqL_end ?_)
          go_wp2_with fail
          go_ret
          exact ⟨false, rfl, hgj.trans (by repeat (with_reducible first | assumption | exact grA | apply grB | apply grC | apply grD | refine grE ?_ (by omega) _ | refine grF ?_ (by omega) _ _)), ⟨fun hh => (nomatch hh), fun hj => absurd hj HNJ.out⟩⟩
      · have HNJ := Lib.hid (show ¬ Jnd M from fun ⟨_, r, h2, h3, _, _⟩ => hrt (HR2.out ⟨r, h2, h3⟩))
        have hrt2 : (rt == 1) = false := by simpa using hrt
        clear hr1 HRT HKN hokA hkn hrtv HOK hr2
        go_upto_region 24 with fail
        refine wp_region_plus_seq (by kernel_rfl) (by kernel_rfl) (fun x0 => ?_)
        repeat (any_goals (first | (refine wpSeqL_free rfl ?_; first | (go_big_quiet_skip; refine wpQuiet_nil ?_) | (go_big_quiet_step (fail); refine wpQuiet_nil ?_) | (refine wpQuiet_step (fun K hK => ?_); go_simp; split <;> (refine hK _ ?_; clear hK K; refine wpQuiet_nil ?_))) | (refine wpSeqL_link rfl (fun K hK => ?_); go_simp; first | first | (refine hK _ _ (by show World.grows _ _; repeat (first | assumption | exact grA | apply grB | apply grC | apply grD)) ?_; clear hK K) | ((fail); refine ⟨_, rfl, hK _ _ (by show World.grows _ _; repeat (first | assumption | exact grA | apply grB | apply grC | apply grD)) ?_⟩; clear hK K) | (split <;> (first | (refine hK _ _ (by show World.grows _ _; repeat (first | assumption | exact grA | apply grB | apply grC | apply grD)) ?_; clear hK K) | ((fail); refine ⟨_, rfl, hK _ _ (by show World.grows _ _; repeat (first | assumption | exact grA | apply grB | apply grC | apply grD)) ?_⟩; clear hK K))))))
        all_goals (refine wpSeqL_end ?_)
        go_wp2_with fail
        go_ret
        exact ⟨false, rfl, hgj.trans (by repeat (with_reducible first | assumption | exact grA | apply grB | apply grC | apply grD | refine grE ?_ (by omega) _ | refine grF ?_ (by omega) _ _)), ⟨fun hh => (nomatch hh), fun hj => absurd hj HNJ.out⟩⟩
end Go.Proofs.YtdbddnkjiehaiaaGreat

/- WALKS over jalousieref8: attrs of any attributes. -/
namespace Go.Proofs.YtdbddnkjiehaiaaGreat
open Go.Maps Go.RowKit Go.Sort
set_option maxRecDepth 100000 in
set_option maxHeartbeats 8000000 in
theorem refAttrs_any (w : World) (at' : List (ByteArray × ByteArray)) (aa : Option Addr) (ac : Nat) (ha : SlAt w (fun _ => True) 2 AtR (.slice aa at'.length ac) at') (hw : ∀ x ∈ at', x.1.size ≤ maxLen ∧ x.2.size ≤ maxLen) (h16 : at'.length ≤ 1048576) :
    Calls Tryz.prog 15 #[.slice aa at'.length ac] w (Gives w (.int .i64 (atErr none at'))) := by
  have A1 := Lib.hid (ats_get ha).2
  have HMN := Lib.hid (fun (x : ByteArray × ByteArray) (hx : x ∈ at') (W : World) => refName_any x.1 W (hw x hx).1)
  clear ha hw
  go_enter Tryz.func15, Tryz.ntmps15
  go_upto_region 2 with fail
  go_loopg [7] at'.length (fun gn v7 wj => ∃ i : Nat, Hid (gn + i = at'.length ∧ i ≤ at'.length) ∧ v7 = .int .i64 i ∧ w.grows wj ∧ Hid (atErr none at' = atErr (prevA at' i) (at'.drop i)))
  case atStart => exact ⟨0, Lib.hid ⟨by simp, Nat.zero_le _⟩, by go_num, (by repeat (with_reducible first | assumption | exact grA | apply grB | apply grC | apply grD | refine grE ?_ (by omega) _ | refine grF ?_ (by omega) _ _)), Lib.hid rfl⟩
  case round =>
    obtain ⟨i, HQ, rfl, hgj, HA⟩ := hrel
    obtain ⟨j1, j2⟩ := HQ.out
    by_cases hlt : i < at'.length
    · have k1 : (i : Int) < (at'.length : Int) := by omega
      rcases A1.out with h0 | ⟨p1, o1, rfl, e1⟩
      · rw [h0] at hlt; simp at hlt
      have hgt := List.getElem?_eq_getElem hlt
      have k2 := (e1 i _ hgt).grows hgj
      have hmem := List.getElem_mem hlt
      have hN := HMN.out _ hmem
      have hst := atErr_at (p := prevA at' i) hgt
      have z3 := lt_sz k2.lt
      have hnx : prevA at' (i + 1) = some at'[i].1 := by show at'[i]?.map (·.1) = _; rw [hgt]; rfl
      have HE1 := Lib.hid (fun (j : Nat) (y : ByteArray × ByteArray) (hy : at'[j]? = some y) => (e1 j y hy).grows hgj)
      clear e1
      generalize at'[i] = x at *
      obtain ⟨u1, u2⟩ := k2
      rw [show [Value.string x.1, Value.string x.2].length = 2 from rfl] at u1 u2
      cases hxn : nameB x.1.data.toList with
      | false =>
        rw [hxn, Bool.false_and, if_pos rfl] at hst
        rw [hxn] at hN
        have HN := Lib.hid hN
        have HANS := Lib.hid (show atErr none at' = 10 by rw [HA.out, hst])
        clear hst hN hgt hxn
        go_upto_region 4 with fail
        refine wp_region_plus_lit (by kernel_rfl) (by kernel_rfl) ?_
        repeat (go_big_quiet_step ((go_at_call 14; (with_reducible exact Calls.plus_of (HN.out _)))))
        (refine wpQuiet_nil ?_; intro _ hw'; obtain ⟨xq, hw''⟩ := hw'; subst hw'')
        go_wp2_with fail
        go_ret
        exact ⟨by rw [HANS.out]; rfl, (by repeat (with_reducible first | assumption | exact grA | apply grB | apply grC | apply grD | refine grE ?_ (by omega) _ | refine grF ?_ (by omega) _ _))⟩
      | true =>
        rw [hxn, Bool.true_and] at hst
        rw [hxn] at hN
        have HN := Lib.hid hN
        clear hN hxn
        have hsz : (x.2.size : Int) = (x.2.size : Int) := rfl
        rcases Nat.eq_zero_or_pos i with hi0 | hi0
        · subst hi0
          rw [show prevA at' 0 = none from rfl, show lateA none x.1 = false from rfl, if_neg (by simp)] at hst
          rw [Nat.zero_mul, Nat.add_zero] at u1 u2
          clear hgt
          by_cases h6 : 256 < x.2.size
          · have i6 : (256 : Int) < (x.2.size : Int) := by omega
            rw [if_pos h6] at hst
            have HANS := Lib.hid (show atErr none at' = 2 by rw [HA.out, show prevA at' 0 = none from rfl, hst])
            clear hst
            go_upto_region 4 with fail
            refine wp_region_plus_lit (by kernel_rfl) (by kernel_rfl) ?_
            repeat (go_big_quiet_step ((go_at_call 14; (with_reducible exact Calls.plus_of (HN.out _)))))
            (refine wpQuiet_nil ?_; intro _ hw'; obtain ⟨xq, hw''⟩ := hw'; subst hw'')
            go_wp2_with fail
            go_ret
            exact ⟨by rw [HANS.out]; rfl, (by repeat (with_reducible first | assumption | exact grA | apply grB | apply grC | apply grD | refine grE ?_ (by omega) _ | refine grF ?_ (by omega) _ _))⟩
          · have i6 : ¬ (256 : Int) < (x.2.size : Int) := by omega
            rw [if_neg h6] at hst
            have HA2 := Lib.hid (show atErr none at' = atErr (prevA at' (0 + 1)) (at'.drop (0 + 1)) by rw [HA.out, hnx]; exact hst)
            clear hst
            go_upto_region 4 with fail
            refine wp_region_plus_lit (by kernel_rfl) (by kernel_rfl) ?_
            repeat (go_big_quiet_step ((go_at_call 14; (with_reducible exact Calls.plus_of (HN.out _)))))
            (refine wpQuiet_nil ?_; intro _ hw'; obtain ⟨xq, hw''⟩ := hw'; subst hw'')
            go_wp2_with fail
            go_roundg (at'.length - 1)
            case measure => omega
            case rel => exact ⟨1, Lib.hid ⟨by omega, by omega⟩, by go_num, (by repeat (with_reducible first | assumption | exact grA | apply grB | apply grC | apply grD | refine grE ?_ (by omega) _ | refine grF ?_ (by omega) _ _)), HA2⟩
        · have k4 : (0 : Int) < (i : Int) := by omega
          obtain ⟨j, rfl⟩ : ∃ j, i = j + 1 := ⟨i - 1, by omega⟩
          have hgt2 : at'[j]? = some (at'[j]'(by omega)) := List.getElem?_eq_getElem _
          have k3 := HE1.out j _ hgt2
          have hpv : prevA at' (j + 1) = some (at'[j]'(by omega)).1 := by show at'[j]?.map (·.1) = _; rw [hgt2]; rfl
          generalize at'[j]'(by omega) = y at *
          have z4 := lt_sz k3.lt
          have c3 := k3.cell (j := 0) rfl
          rw [World.cell?_row, Nat.add_zero] at c3
          rw [hpv] at hst
          clear k3 hgt hgt2
          cases hla : lateA (some y.1) x.1 with
          | true =>
            rw [hla, if_pos (show (!true) = false from rfl)] at hst
            have HANS := Lib.hid (show atErr none at' = 10 by rw [HA.out, hpv, hst])
            clear hst
            rcases late_cases hla with hb1 | ⟨hb1, hb2⟩
            · clear hla
              go_upto_region 4 with fail
              refine wp_region_plus_lit (by kernel_rfl) (by kernel_rfl) ?_
              repeat (go_big_quiet_step ((go_at_call 14; (with_reducible exact Calls.plus_of (HN.out _)))))
              (refine wpQuiet_nil ?_; intro _ hw'; obtain ⟨xq, hw''⟩ := hw'; subst hw'')
              go_wp2_with fail
              go_ret
              exact ⟨by rw [HANS.out]; rfl, (by repeat (with_reducible first | assumption | exact grA | apply grB | apply grC | apply grD | refine grE ?_ (by omega) _ | refine grF ?_ (by omega) _ _))⟩
            · have hb3 : x.1.toList = y.1.toList := by simpa using hb2
              rw [hb3] at hb1
              clear hla hb2
              go_upto_region 4 with fail
              refine wp_region_plus_lit (by kernel_rfl) (by kernel_rfl) ?_
              repeat (go_big_quiet_step ((go_at_call 14; (with_reducible exact Calls.plus_of (HN.out _)))))
              (refine wpQuiet_nil ?_; intro _ hw'; obtain ⟨xq, hw''⟩ := hw'; subst hw'')
              go_wp2_with fail
              go_ret
              exact ⟨by rw [HANS.out]; rfl, (by repeat (with_reducible first | assumption | exact grA | apply grB | apply grC | apply grD | refine grE ?_ (by omega) _ | refine grF ?_ (by omega) _ _))⟩
          | false =>
            rw [hla, if_neg (by simp)] at hst
            obtain ⟨hb1, hb2⟩ := late_not hla
            have hb3 : ¬ x.1.toList = y.1.toList := by simpa using hb2
            clear hla
            by_cases h6 : 256 < x.2.size
            · have i6 : (256 : Int) < (x.2.size : Int) := by omega
              rw [if_pos h6] at hst
              have HANS := Lib.hid (show atErr none at' = 2 by rw [HA.out, hpv, hst])
              clear hst
              go_upto_region 4 with fail
              refine wp_region_plus_lit (by kernel_rfl) (by kernel_rfl) ?_
              repeat (go_big_quiet_step ((go_at_call 14; (with_reducible exact Calls.plus_of (HN.out _)))))
              (refine wpQuiet_nil ?_; intro _ hw'; obtain ⟨xq, hw''⟩ := hw'; subst hw'')
              go_wp2_with fail
              go_ret
              exact ⟨by rw [HANS.out]; rfl, (by repeat (with_reducible first | assumption | exact grA | apply grB | apply grC | apply grD | refine grE ?_ (by omega) _ | refine grF ?_ (by omega) _ _))⟩
            · have i6 : ¬ (256 : Int) < (x.2.size : Int) := by omega
              rw [if_neg h6] at hst
              have HA2 := Lib.hid (show atErr none at' = atErr (prevA at' (j + 1 + 1)) (at'.drop (j + 1 + 1)) by rw [HA.out, hpv, hnx]; exact hst)
              clear hst
              go_upto_region 4 with fail
              refine wp_region_plus_lit (by kernel_rfl) (by kernel_rfl) ?_
              repeat (go_big_quiet_step ((go_at_call 14; (with_reducible exact Calls.plus_of (HN.out _)))))
              (refine wpQuiet_nil ?_; intro _ hw'; obtain ⟨xq, hw''⟩ := hw'; subst hw'')
              go_wp2_with fail
              go_roundg (at'.length - (j + 1 + 1))
              case measure => omega
              case rel => exact ⟨j + 1 + 1, Lib.hid ⟨by omega, by omega⟩, by go_num, (by repeat (with_reducible first | assumption | exact grA | apply grB | apply grC | apply grD | refine grE ?_ (by omega) _ | refine grF ?_ (by omega) _ _)), HA2⟩
    · have k1 : ¬ (i : Int) < (at'.length : Int) := by omega
      have hat0 : atErr none at' = 0 := by rw [HA.out, List.drop_eq_nil_of_le (by omega)]; cases prevA at' i <;> rfl
      have HANS := Lib.hid hat0
      clear hat0
      go_wp2_with fail
      go_ret
      exact ⟨by rw [HANS.out]; rfl, (by repeat (with_reducible first | assumption | exact grA | apply grB | apply grC | apply grD | refine grE ?_ (by omega) _ | refine grF ?_ (by omega) _ _))⟩
end Go.Proofs.YtdbddnkjiehaiaaGreat

/- MEMORY: the reference's row of elements while Load builds it. No condition. -/
namespace Go.Proofs.YtdbddnkjiehaiaaGreat
open Go.Maps Go.RowKit Go.Sort
/-- the row so far: the elements l -/
structure R2 (w wj : World) (tb : Nat) (v : Value) (N : Int) (l : List El) : Prop where
  gr : w.grows wj
  head : wj.row tb = some (.cells #[v, .int .i64 N] 58)
  els : OwnAt wj (tb + 1) 49 11 (ElQ wj (fun g => tb < g ∧ g < wj.heap.size ∧ v.ownBlock ≠ some g)) v l
  lo : w.heap.size ≤ tb
theorem R2.step {w wr wE wC wL W : World} {tb : Nat} {v v' : Value} {N : Int} {l : List El} (h : R2 w wr tb v N l) {e : El} {ka aa : Option Addr} {kc ac : Nat} {css : List (List Value)}
    (l1 : css.length = l.length) (l2 : ∀ (i : Nat) (x : El) (cs : List Value), l[i]? = some x → css[i]? = some cs → cs.length = 11 ∧ ElQ wr (fun g => tb < g ∧ g < wr.heap.size ∧ v.ownBlock ≠ some g) x cs)
    (hg : w.grows W) (hrE : wr.heap.size ≤ wE.heap.size) (hEC : wE.heap.size ≤ wC.heap.size) (hCL : wC.heap.size ≤ wL.heap.size) (hLW : wL.heap.size ≤ W.heap.size)
    (hk : wC.ownsRow wE.heap.size 3 1 (.slice ka e.ks.length kc) e.ks.length (e.ks.map (Value.int .i64))) (ha : wC.ownsRow wE.heap.size 71 2 (.slice aa e.at'.length ac) e.at'.length (atC e.at'))
    (hrow : ∀ g, g < wr.heap.size → wC.row g = wr.row g) (h1 : ∀ g, g < wC.heap.size → g ≠ tb → v.ownBlock ≠ some g → W.row g = wC.row g)
    (hh : W.row tb = some (.cells #[v', .int .i64 N] 58)) (hvb : ∀ g, v.ownBlock = some g → g < wr.heap.size)
    (p1 : W.ownsRow (tb + 1) 49 11 v' (l.length + 1) (css.flatten ++ elO e ka aa kc ac)) (p3 : v'.ownBlock = v.ownBlock ∨ v'.ownBlock = some wL.heap.size) : R2 w W tb v' N (l ++ [e]) := by
  have htl := (row_sz' h.head).1
  refine ⟨hg, hh, ⟨css ++ [elO e ka aa kc ac], by simp [l1], fun i x cs q1 q2 => ?_, by rw [List.length_append, List.flatten_append]; simpa using p1⟩, h.lo⟩
  by_cases hi : i < l.length
  · rw [List.getElem?_append_left hi] at q1
    rw [List.getElem?_append_left (by omega)] at q2
    obtain ⟨q3, q4⟩ := l2 i x cs q1 q2
    refine ⟨q3, q4.keep fun g hg => ⟨?_, hg.1, by omega, fun hb => ?_⟩⟩
    · exact (h1 g (by omega) (by omega) hg.2.2).trans (hrow g hg.2.1)
    · rcases p3 with p3 | p3
      · rw [p3] at hb; exact hg.2.2 hb
      · rw [p3] at hb; injection hb with hb; omega
  · have hi2 : i = l.length := by
      have := (List.getElem?_eq_some_iff.1 q1).1
      simp at this; omega
    subst hi2
    rw [List.getElem?_append_right (by omega)] at q1 q2
    simp [l1] at q1 q2
    subst q1; subst q2
    have kS : ∀ g, wE.heap.size ≤ g → g < wC.heap.size → W.row g = wC.row g ∧ tb < g ∧ g < W.heap.size ∧ v'.ownBlock ≠ some g := fun g g1 g2 => by
      refine ⟨h1 g g2 (by omega) (fun hb => by have := hvb g hb; omega), by omega, by omega, fun hb => ?_⟩
      rcases p3 with p3 | p3
      · rw [p3] at hb; have := hvb g hb; omega
      · rw [p3] at hb; injection hb with hb; omega
    refine ⟨rfl, ka, aa, kc, ac, rfl, World.ownsRow.mono_base (Nat.zero_le _) (ownsRow_row hk fun g hg => (kS g (hk.lt g hg).1 (hk.lt g hg).2).1), World.ownsRow.mono_base (Nat.zero_le _) (ownsRow_row ha fun g hg => (kS g (ha.lt g hg).1 (ha.lt g hg).2).1), fun g hg => (kS g (hk.lt g hg).1 (hk.lt g hg).2).2, fun g hg => (kS g (ha.lt g hg).1 (ha.lt g hg).2).2⟩
/-- all are there: the reference's tree -/
theorem R2.ref {w wj : World} {tb : Nat} {v : Value} {N : Int} {l : List El} (h : R2 w wj tb v N l) (root : Int) (hw : ∀ e ∈ l, e.Wf) : RefAt wj tb (fun g => w.heap.size ≤ g ∧ g < wj.heap.size) v ⟨root, N, l⟩ := by
  have htl := (row_sz' h.head).1
  have hlo := h.lo
  obtain ⟨css, l1, l2, l3⟩ := h.els
  exact ⟨h.head, ⟨css, l1, fun i x cs q1 q2 => ⟨(l2 i x cs q1 q2).1, (l2 i x cs q1 q2).2.keep fun g hg => ⟨rfl, ⟨by omega, hg.2.1⟩, by omega, hg.2.2⟩⟩, World.ownsRow.mono_base (Nat.zero_le _) l3⟩, ⟨h.lo, htl⟩, fun g hg => by have := l3.lt g hg; exact ⟨⟨by omega, this.2⟩, by omega⟩, fun k hk => hk.2, hw⟩
theorem R2.refR {w wj : World} {tb : Nat} {v : Value} {N : Int} {l : List El} (h : R2 w wj tb v N l) (root : Int) : RefR wj tb v ⟨root, N, l⟩ :=
  ⟨h.head, SlAt.keep (W := wj) (h.els.slAt (by omega) fun _ _ => trivial) (fun _ _ _ => ⟨rfl, trivial⟩) fun _ _ _ hx => hx.elR⟩
end Go.Proofs.YtdbddnkjiehaiaaGreat
