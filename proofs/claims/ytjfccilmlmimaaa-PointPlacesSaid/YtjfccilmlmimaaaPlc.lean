/- WALKS over point: Places. No condition but that an index stands in memory. -/
import Derived.Test.YtjfccilmlmimaaaPlcP
import Derived.Test.YtjfccilmlmimaaaMk
set_option linter.unusedSimpArgs false
set_option linter.unusedVariables false
namespace Go.Proofs.Ytjfccilmlmimaaa
open Go.RowKit Go.Maps

theorem nat_succ_ne (k : Nat) : ((k : Int) + 1 == 0) = false := by rw [beq_eq_false_iff_ne]; omega
theorem wrap_small {k : Nat} (h : k ≤ 1048576) : wrap64 (k : Int) = k := IntWalk.wrap64_in _ ⟨by omega, by omega⟩
theorem rats_slat {W : World} {B : Nat} {v : Value} {o : List (Int × Int)} (h : W.ownsRow B 24 2 v o.length (o.flatMap rtC)) : SlAt W (fun _ => True) 2 RtR v o := by
  have ho : OwnAt W B 24 2 RtR v o := by
    refine ⟨o.map rtC, by simp, fun i x cs h1 h2 => ?_, by rw [← List.flatMap_def]; exact h⟩
    rw [List.getElem?_map, h1] at h2
    cases h2
    exact ⟨rfl, rfl⟩
  exact ho.slAt (by omega) fun _ _ => trivial

set_option maxRecDepth 100000 in
set_option maxHeartbeats 8000000 in
theorem ptPlaces_any (ix B : Nat) (n : Int) (l : List Ln) (nm : ByteArray) (w : World) (hI : Idx w ix n B l) (hw : AllWf l) (hs : nm.size ≤ maxLen) (hN : l.length ≤ 1048576) :
    Calls Try.prog 19 #[.pointer (some ⟨ix, 0, none⟩), .string nm] w fun e w' => ∃ v' p, e = .returned v' ∧ w.grows w' ∧ SlAt w' (fun _ => True) 2 RtR v' (plcs p) ∧ Srt (ofN l l.length nm.data.toList) p := by
  obtain ⟨mb, v, p, hx, hS, hpw, hp, hl⟩ := hI.look hw nm hs
  have hpN : p.length ≤ 1048576 := by rw [hS.len]; unfold ofN; exact Nat.le_trans (List.length_filter_le _ _) (by simp; omega)
  have LK : ∀ W, w.grows W → Calls Try.prog 37 #[.pointer (some ⟨ix, 0, none⟩), .string nm] W fun e w' => e = .returned v ∧ W = w' := fun W hW =>
    (ptLines_any ix mb n v nm W ((hW.row_eq (row_sz' hx).1).trans hx) (hl W (On.grow (On.refl ix w) hW))).mono fun e w' ⟨h1, h2⟩ => ⟨h1, h2.symm⟩
  have LK := Lib.hid LK
  obtain ⟨va, vc, rfl, c1, c2, c3⟩ := hp
  have C3 := Lib.hid c3; have HS := Lib.hid hS
  clear hI hw c3 hS hpw hl hx
  have key : ∀ N, N = p.length → N ≤ vc → N ≤ 1048576 → (∀ W, w.grows W → Calls Try.prog 37 #[.pointer (some ⟨ix, 0, none⟩), .string nm] W fun e w' => e = .returned (.slice va N vc) ∧ W = w') → Calls Try.prog 19 #[.pointer (some ⟨ix, 0, none⟩), .string nm] w fun e w' => ∃ v' p, e = .returned v' ∧ w.grows w' ∧ SlAt w' (fun _ => True) 2 RtR v' (plcs p) ∧ Srt (ofN l l.length nm.data.toList) p := fun N eN h1 h2 hlk => by
    have EN := Lib.hid eN; have LK := Lib.hid hlk
    clear eN hlk
    go_enter Try.func19, Try.ntmps19
    go_wp2_with (first | (go_at_call 37; (with_reducible refine (LK.out _ (by repeat (with_reducible first | assumption | exact grA | apply grB | apply grC | apply grD | refine grE ?_ (by omega) _ | refine grF ?_ (by omega) _ _))).mono ?_); rintro e w1 ⟨rfl, rfl⟩))
    go_loopg [5, 13] N (fun gn v5 v13 wj => ∃ i : Nat, Hid (gn + i = N ∧ i ≤ N) ∧ v13 = .int .i64 i ∧ w.grows wj ∧ Hid (wj.ownsRow w.heap.size 24 2 v5 (plcs (p.take i)).length ((plcs (p.take i)).flatMap rtC)))
    case atStart => exact ⟨0, Lib.hid ⟨rfl, Nat.zero_le _⟩, by go_num, (by repeat (with_reducible first | assumption | exact grA | apply grB | apply grC | apply grD | refine grE ?_ (by omega) _ | refine grF ?_ (by omega) _ _)), Lib.hid (World.ownsRow_nil _ _ _ _)⟩
    case round =>
      obtain ⟨i, HK, rfl, hg, HO⟩ := hrel
      obtain ⟨j1, j2⟩ := HK.out
      by_cases hlt : i < N
      · have hNl := EN.out
        rcases C3.out with h0 | ⟨g, off, rfl, _, h4⟩
        · rw [h0] at hNl; simp at hNl; omega
        have hgt := List.getElem?_eq_getElem (by omega : i < p.length)
        obtain ⟨cs, _, el, ec, wx⟩ := h4 i _ hgt
        generalize p[i] = x at *
        subst ec
        replace el := el.grows hg
        have e1 : segOk (off + i * 5) 5 (wr.row g) = true := el.1
        have e2 : segV (off + i * 5) 5 (wr.row g) = x.v := el.2
        have zg := lt_sz el.lt
        have n1 : (i : Int) < (N : Int) := by omega
        have hsc := plcs_succ hgt
        have hln := plcs_len p i
        have HSC := Lib.hid hsc
        have hz := hg.below.size
        clear hsc hgt h4 el wx hNl
        generalize plcs (p.take i) = O at *
        obtain ⟨sa, sc, rfl⟩ := own_slice HO.out
        obtain ⟨nx, o, q, r, id⟩ := x
        rcases List.eq_nil_or_concat O with hO | ⟨O', y, hO⟩
        · subst hO
          have hadd : plcAdd [] (q, r) = [(q, r)] := by simp [plcAdd]
          go_upto_region 6 with fail
          refine wp_region_plus_lit (by kernel_rfl) (by kernel_rfl) ?_
          repeat (go_big_quiet_step (fail))
          (refine wpQuiet_nil ?_; intro _ hw'; obtain ⟨xq, hw''⟩ := hw'; subst hw'')
          go_wp2_with ((at_builtin; refine wpList_app w (w.heap.size) rfl (.tmp 31) (.tmp 34) _ rfl 24 (.agg #[.int .i64 0, .int .i64 0]) 2 16 Try.underlying35 (by kernel_rfl) rfl (by omega) (by omega) _ 0 _ rfl (HO.out.grows (by repeat (with_reducible first | assumption | exact grA | apply grB | apply grC | apply grD | refine grE ?_ (by omega) _ | refine grF ?_ (by omega) _ _))) _ 1 _ [.int .i64 q, .int .i64 r] rfl rfl (cells_of_row (e := 24) (fr := (0, 0)) (by simp [go_sem])) (by simp [Value.oneCell']) (by omega) (by repeat (with_reducible first | assumption | exact grA | apply grB | apply grC | apply grD | refine grE ?_ (by omega) _ | refine grF ?_ (by omega) _ _)) (by omega) (by simp; omega) ?_; intro v' w' hg' HO' HR' HG' HA'))
          go_roundg (N - (i + 1))
          case rel => exact ⟨i + 1, Lib.hid ⟨by omega, by omega⟩, by go_num, hg', Lib.hid (by rw [HSC.out]; show World.ownsRow _ _ _ _ _ (plcAdd [] (q, r)).length ((plcAdd [] (q, r)).flatMap rtC); rw [hadd]; exact HO'.out)⟩
          case measure => omega
        · have hsl := rats_slat HO.out
          rw [List.concat_eq_append] at hO
          have hlast : O[O'.length]? = some y := by rw [hO]; simp
          have hlen : O.length = O'.length + 1 := by rw [hO]; simp
          obtain ⟨sa', sc', es, _, _, h5⟩ := hsl
          injection es with es1 es2 es3
          subst es1
          rcases h5 with h0 | ⟨g5, off5, rfl, _, h5⟩
          · rw [h0] at hO; cases O' <;> simp at hO
          obtain ⟨cs5, _, el5, rfl⟩ := h5 _ _ hlast
          have e3 : segOk (off5 + O'.length * 2) 2 (wr.row g5) = true := el5.1
          have e4 : segV (off5 + O'.length * 2) 2 (wr.row g5) = .agg #[.int .i64 y.1, .int .i64 y.2] := el5.2
          have zg5 := lt_sz el5.lt
          have hgl : O.getLast? = some y := by rw [hO]; simp
          have HGL := Lib.hid hgl
          have HLEN := Lib.hid hlen
          have hk : ((O'.length + 1 : Nat) : Int) - 1 = (O'.length : Int) := by omega
          clear h5 el5 hlast es2 es3 hO hgl
          obtain ⟨y1, y2⟩ := y
          rw [hlen] at HO hln ⊢
          generalize O'.length = k at *
          clear hlen
          have k1 : ((k : Int) + 1 == 0) = false := nat_succ_ne k
          have k2 : wrap64 (k : Int) = k := wrap_small (by omega)
          have HLN := Lib.hid hln
          clear hln hk
          by_cases hy : (y1, y2) = (q, r)
          · have hadd : plcAdd O (q, r) = O := by unfold plcAdd; rw [if_pos (by rw [HGL.out, hy])]
            have HADD := Lib.hid hadd
            have hny : (!y1 == q || !y2 == r) = false := by cases hy; simp
            have HEQ := Lib.hid hy
            clear hadd hy
            go_upto_region 6 with fail
            refine wp_region_plus_lit (by kernel_rfl) (by kernel_rfl) ?_
            repeat (go_big_quiet_step (fail))
            (refine wpQuiet_nil ?_; intro _ hw'; obtain ⟨xq, hw''⟩ := hw'; subst hw'')
            go_wp2_with fail
            go_roundg (N - (i + 1))
            case rel => exact ⟨i + 1, Lib.hid ⟨by omega, by omega⟩, by go_num, (by repeat (with_reducible first | assumption | exact grA | apply grB | apply grC | apply grD | refine grE ?_ (by omega) _ | refine grF ?_ (by omega) _ _)), Lib.hid (by rw [HSC.out]; show World.ownsRow _ _ _ _ _ (plcAdd O (q, r)).length ((plcAdd O (q, r)).flatMap rtC); rw [HADD.out, HLEN.out]; exact HO.out.grows (by repeat (with_reducible first | assumption | exact grA | apply grB | apply grC | apply grD | refine grE ?_ (by omega) _ | refine grF ?_ (by omega) _ _)))⟩
            case measure => omega
          · have hadd : plcAdd O (q, r) = O ++ [(q, r)] := by unfold plcAdd; rw [if_neg (by rw [HGL.out]; intro e; cases e; exact hy rfl)]
            have HADD := Lib.hid hadd
            have hny : (!y1 == q || !y2 == r) = true := by
              by_cases e1 : y1 = q
              · have e2 : ¬ y2 = r := fun e2 => hy (by rw [e1, e2])
                simp [e2]
              · simp [e1]
            clear hadd hy
            go_upto_region 6 with fail
            refine wp_region_plus_lit (by kernel_rfl) (by kernel_rfl) ?_
            repeat (go_big_quiet_step (fail))
            (refine wpQuiet_nil ?_; intro _ hw'; obtain ⟨xq, hw''⟩ := hw'; subst hw'')
            have hln := HLN.out
            go_wp2_with ((at_builtin; refine wpList_app w (w.heap.size) rfl (.tmp 31) (.tmp 34) _ rfl 24 (.agg #[.int .i64 0, .int .i64 0]) 2 16 Try.underlying35 (by kernel_rfl) rfl (by omega) (by omega) _ (k + 1) _ rfl (HO.out.grows (by repeat (with_reducible first | assumption | exact grA | apply grB | apply grC | apply grD | refine grE ?_ (by omega) _ | refine grF ?_ (by omega) _ _))) _ 1 _ [.int .i64 q, .int .i64 r] rfl rfl (cells_of_row (e := 24) (fr := (0, 0)) (by simp [go_sem])) (by simp [Value.oneCell']) (by omega) (by repeat (with_reducible first | assumption | exact grA | apply grB | apply grC | apply grD | refine grE ?_ (by omega) _ | refine grF ?_ (by omega) _ _)) (by omega) (by simp; omega) ?_; intro v' w' hg' HO' HR' HG' HA'))
            go_roundg (N - (i + 1))
            case rel => exact ⟨i + 1, Lib.hid ⟨by omega, by omega⟩, by go_num, hg', Lib.hid (by rw [HSC.out]; show World.ownsRow _ _ _ _ _ (plcAdd O (q, r)).length ((plcAdd O (q, r)).flatMap rtC); rw [HADD.out, List.length_append, HLEN.out, List.flatMap_append]; exact HO'.out)⟩
            case measure => omega
      · have n1 : ¬ (i : Int) < (N : Int) := by omega
        obtain rfl : i = N := by omega
        have hall : p.take i = p := List.take_of_length_le (by rw [← EN.out]; exact Nat.le_refl _)
        rw [hall] at HO
        go_wp2_with fail
        go_ret
        exact ⟨_, rfl, hg, p, rats_slat HO.out, HS.out⟩
  exact key _ rfl c1 hpN LK.out
end Go.Proofs.Ytjfccilmlmimaaa
