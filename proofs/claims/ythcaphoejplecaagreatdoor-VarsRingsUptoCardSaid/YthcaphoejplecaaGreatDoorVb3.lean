/- Texts of the walk, one after the other; what each proves stands ahead of it. -/
import Derived.Test.YthcaphoejplecaaGreatDoorVb1
set_option linter.unusedSimpArgs false
set_option linter.unusedVariables false
/- WALK over jalousieref21: the names of uses. No condition but bounds. -/
namespace Go.Proofs.YthcaphoejplecaaGreatDoor
open Go.RowKit
/-- how uses ends -/
def UsesPost (w0 w : World) (B : Nat) (vO : Value) (o : List ByteArray) (e : Ending) (w' : World) : Prop :=
  ∃ r, e = .returned r ∧ w0.grows w' ∧ w.grownBy w' vO.ownBlock ∧ NmO w' B r o ∧ GrO w.heap.size vO r
/-- what uses is given -/
structure UsesPre (N : Nat) (w0 w : World) (B : Nat) (vO : Value) (out : List ByteArray) (S : Nat → Prop) (vl : Value) (l : List Vt) : Prop where
  g0 : w0.grows w
  b0 : w0.heap.size ≤ B
  bB : B ≤ w.heap.size
  own : NmO w B vO out
  vl : VsAt w S vl l
  dl : ∀ g, S g → vO.ownBlock ≠ some g
  nod : nodesL l ≤ N
  len : out.length + nodesL l ≤ 8388608
  lim : nodesL l ≤ 4194304
abbrev UsesC (N : Nat) : Prop := ∀ (w0 w : World) (B : Nat) (vO : Value) (out : List ByteArray) (S : Nat → Prop) (vl : Value) (l : List Vt), UsesPre N w0 w B vO out S vl l → Calls Tryz.prog 28 #[vl, vO] w (UsesPost w0 w B vO (usesL out l))
set_option maxRecDepth 100000 in
set_option maxHeartbeats 8000000 in
theorem fuses_step (N : Nat) (IH : ∀ M, M < N → UsesC M) : UsesC N := by
  intro w0 w B vO out S vl l h
  obtain ⟨aL, cL, rfl, hcap, hcap2⟩ := SlAt.len h.vl
  obtain ⟨aO, cO, rfl⟩ := own_slice h.own
  have HP := Lib.hid h
  have HIH := Lib.hid IH
  clear IH h
  obtain ⟨res, hres⟩ : ∃ res, usesL out l = res := ⟨_, rfl⟩
  have HRES := Lib.hid hres
  rw [hres]
  clear hres
  go_enter Tryz.func28, Tryz.ntmps28
  go_wp2_with fail
  go_loopg [1, 16] l.length (fun gn v1 v16 wj => ∃ (i : Nat) (o : List ByteArray) (a1 : Option Addr) (c1 : Nat), Hid (gn + i = l.length ∧ i ≤ l.length) ∧ v16 = .int .i64 i ∧ v1 = .slice a1 o.length c1 ∧ Hid (USt w0 w B (.slice aO out.length cO) wj (.slice a1 o.length c1) o ∧ o.length + nodesL (l.drop i) ≤ 8388608 ∧ usesL o (l.drop i) = res))
  case atStart => exact ⟨0, out, aO, cO, Lib.hid ⟨by simp, Nat.zero_le _⟩, by go_num, rfl, Lib.hid ⟨⟨HP.out.g0, grownBy_of_grows World.grows.refl _, HP.out.own, .inl rfl⟩, HP.out.len, HRES.out⟩⟩
  case round =>
    obtain ⟨i, o, a1, c1, HQ, rfl, rfl, HS⟩ := hrel
    obtain ⟨j1, j2⟩ := HQ.out
    by_cases hlt : i < l.length
    · have iI : (i : Int) < (l.length : Int) := by omega
      have hgt : l[i]? = some l[i] := List.getElem?_eq_getElem hlt
      have hmem := List.getElem_mem hlt
      have hdrop : l.drop i = l[i] :: l.drop (i + 1) := List.drop_eq_getElem_cons hlt
      have hvl : VsAt wr (fun g => S g ∧ g < w.heap.size) (.slice aL l.length cL) l := HP.out.vl.keep fun g hS hl => ⟨rowB HS.out.1.gb hl (HP.out.dl g hS), hS, hl⟩
      obtain ⟨g, off, cs, rfl, -, -, k1, hv⟩ := hvl.elt hgt
      have hnod := nodesL_mem hmem
      have hlen2 := HS.out.2.1
      have hres2 := HS.out.2.2
      rw [hdrop] at hlen2 hres2
      generalize l[i] = x at *
      obtain ⟨t, ks⟩ := x
      rw [usesL_cons] at hres2
      simp only [nodesL, Vt.nodes] at hlen2 hnod
      obtain ⟨twf, vk, rfl, hks⟩ := VOk_open hv
      obtain ⟨aK, cK, rfl, -, -⟩ := hks.len
      have HRE := Lib.hid hres2
      have HKS := Lib.hid hks
      have HU := Lib.hid (fun (W : World) => fuse_any t twf aK ks.length cK ks W)
      have HUSE := Lib.hid (fun (W : World) (hg : wr.grows W) => fUse_any (t := t) (w := W) (VsAt.grows hks hg))
      have HST := Lib.hid HS.out.1
      have HN1 := HP.out.nod
      have HN2 := HP.out.lim
      have hw1 := HS.out.1.gb.size
      -- the kids' uses
      have HKID : Hid (∀ (W : World) (v2 : Value) (o2 : List ByteArray), USt w0 w B (.slice aO out.length cO) W v2 o2 → o2.length ≤ o.length + 1 → Calls Tryz.prog 28 #[.slice aK ks.length cK, v2] W (UsesPost w0 W B v2 (usesL o2 ks))) := Lib.hid fun W v2 o2 hst hl2 => by
        have hrw : ∀ b, S b ∧ b < w.heap.size → W.row b = wr.row b := fun b hb => (rowB hst.gb hb.2 (HP.out.dl b hb.1)).trans (rowB HST.out.gb hb.2 (HP.out.dl b hb.1)).symm
        refine HIH.out (nodesL ks) (by omega) w0 W B v2 o2 (fun g => S g ∧ g < w.heap.size) _ ks ⟨hst.g0, HP.out.b0, Nat.le_trans HP.out.bB hst.gb.size, hst.own, HKS.out.keep (fun b hb hl => ⟨hrw b hb, hb⟩) (fun _ _ _ h => VOk.keep (fun b hb hl => ⟨hrw b hb, hb⟩) h), fun b hb e => ?_, Nat.le_refl _, by omega, by omega⟩
        rcases hst.gr with e1 | ⟨q, e1, e2⟩
        · exact HP.out.dl b hb.1 (e1.symm.trans e)
        · rw [e1] at e; injection e with e; omega
      obtain ⟨kt, s, n1, d, q1, q2⟩ := t
      have z3 := lt_sz k1.lt
      obtain ⟨u1, u2⟩ := k1
      replace u1 : segOk (off + i * 7) 7 (wr.row g) = true := u1
      replace u2 : segV (off + i * 7) 7 (wr.row g) = .agg #[.int .i64 kt, .string s, .int .i64 n1, .int .i64 d, .bool q1, .bool q2, .slice aK ks.length cK] := u2
      have ii0 : (0 : Int) ≤ (i : Int) := by omega
      have iw : IntKind.i64.wrap ((i : Int) + 1) = (i : Int) + 1 := by rw [IntKind.wrap_i64]; omega
      clear hgt hmem hdrop hv hks twf hnod hvl hres2 HS
      go_upto_region 4 with fail
      refine abs_rows (w := wr) (G := fun W => Code.wp _ _ _ _ W) (by repeat (with_reducible first | assumption | exact grA | apply grB | apply grC | apply grD | refine grE ?_ (by omega) _ | refine grF ?_ (by omega) _ _)) [(wr.heap.size, .cells #[.int .i64 kt, .string s, .int .i64 n1, .int .i64 d, .bool q1, .bool q2, .slice aK ks.length cK] 70)] (by simp [go_sem, *]) ?_
      intro w2 gw2 hl
      simp only [List.forall_mem_cons, List.not_mem_nil, false_implies, implies_true, and_true] at hl
      have x9 := hl
      have zx9 := row_sz' x9
      have hlt9 := zx9.1
      have hs2 := gw2.below.size
      have HB9 : Hid (wr.heap.size ≤ wr.heap.size) := Lib.hid (Nat.le_refl _)
      by_cases hu : useT (.mk ⟨kt, s, n1, d, q1, q2⟩ ks) = true
      · rw [hu] at HU
        have HAD : Hid (addU o (.mk ⟨kt, s, n1, d, q1, q2⟩ ks) = match namedT (.mk ⟨kt, s, n1, d, q1, q2⟩ ks) with | none => o | some (nm, _) => addN o nm) := Lib.hid (by unfold addU; rw [if_pos hu]; cases namedT (.mk ⟨kt, s, n1, d, q1, q2⟩ ks) <;> rfl)
        clear hu
        cases hN : namedT (.mk ⟨kt, s, n1, d, q1, q2⟩ ks) with
        | none =>
          rw [hN] at HUSE HAD
          simp only [HAD.out] at HRE
          clear hN
          go_upto_region 15 with (first | (go_at_call 45; (with_reducible refine (HU.out _).mono ?_); rintro e w1 ⟨rfl, x1, rfl⟩) | (go_at_call 46; go_loud ((with_reducible refine (HUSE.out _ (gw2.trans (by repeat (with_reducible first | assumption | exact grA | apply grB | apply grC | apply grD | refine grE ?_ (by omega) _ | refine grF ?_ (by omega) _ _)))).mono ?_); rintro r w5 ⟨hg5, rfl⟩; replace hg5 : w2.grows w5 := World.grows.trans (by repeat (with_reducible first | assumption | exact grA | apply grB | apply grC | apply grD | refine grE ?_ (by omega) _ | refine grF ?_ (by omega) _ _)) hg5)))
          have y9 := (hg5.row_eq zx9.1).trans x9
          have zy9 := row_sz' y9
          have h25 := hg5.below.size
          have hgr5 : wr.grows w5 := gw2.trans hg5
          clear x9 zx9
          go_wp2_with (go_at_call 28; go_loud ((with_reducible refine (HKID.out _ _ o (HST.out.grows (hgr5.trans (by repeat (with_reducible first | assumption | exact grA | apply grB | apply grC | apply grD | refine grE ?_ (by omega) _ | refine grF ?_ (by omega) _ _)))) (Nat.le_succ _)).mono ?_); rintro r w7 ⟨v7, rfl, p1, p2, p3, p4⟩; (obtain ⟨a7, c7, rfl⟩ := own_slice p3); (have HST7 := Lib.hid ((HST.out.grows (hgr5.trans (by repeat (with_reducible first | assumption | exact grA | apply grB | apply grC | apply grD | refine grE ?_ (by omega) _ | refine grF ?_ (by omega) _ _)))).next p1 p2 p3 p4))))
          go_roundg (l.length - (i + 1))
          case measure => omega
          case rel => exact ⟨i + 1, usesL o ks, a7, c7, Lib.hid ⟨by omega, by omega⟩, by go_num, rfl, Lib.hid ⟨HST7.out.grows (by repeat (with_reducible first | assumption | exact grA | apply grB | apply grC | apply grD | refine grE ?_ (by omega) _ | refine grF ?_ (by omega) _ _)), by have := uses_len _ ks o (Nat.le_refl _); omega, HRE.out⟩⟩
        | some y =>
          obtain ⟨nm, rest⟩ := y
          rw [hN] at HUSE HAD
          simp only [HAD.out] at HRE
          clear hN
          cases rest with
          | nil =>
            go_upto_region 7 with (first | (go_at_call 45; (with_reducible refine (HU.out _).mono ?_); rintro e w1 ⟨rfl, x1, rfl⟩) | (go_at_call 46; go_loud ((with_reducible refine (HUSE.out _ (gw2.trans (by repeat (with_reducible first | assumption | exact grA | apply grB | apply grC | apply grD | refine grE ?_ (by omega) _ | refine grF ?_ (by omega) _ _)))).mono ?_); rintro r w5 ⟨hg5, rfl⟩; replace hg5 : w2.grows w5 := World.grows.trans (by repeat (with_reducible first | assumption | exact grA | apply grB | apply grC | apply grD | refine grE ?_ (by omega) _ | refine grF ?_ (by omega) _ _)) hg5)))
            have hgr5 : wr.grows w5 := gw2.trans hg5
            have y9 := (hg5.row_eq zx9.1).trans x9
            have zy9 := row_sz' y9
            have h25 := hg5.below.size
            have HNC := Lib.hid ((HST.out.grows hgr5).own.cell)
            clear x9 zx9 HUSE
            go_wp2_with fail
            go_loopg [11, 32] o.length (fun gn v11 v32 wj => ∃ j : Nat, Hid (gn + j = o.length ∧ j ≤ o.length) ∧ v32 = .int .i64 j ∧ v11 = .bool ((o.take j).any (fun s => decide (s = nm))) ∧ w5.grows wj)
            case atStart => exact ⟨0, Lib.hid ⟨by simp, Nat.zero_le _⟩, by go_num, rfl, (by repeat (with_reducible first | assumption | exact grA | apply grB | apply grC | apply grD | refine grE ?_ (by omega) _ | refine grF ?_ (by omega) _ _))⟩
            case round =>
              obtain ⟨j, HQ2, rfl, rfl, hgj2⟩ := hrel
              obtain ⟨p1, p2⟩ := HQ2.out
              have hgr6 := hgr5.trans hgj2
              have y10 := (hgj2.row_eq zy9.1).trans y9
              by_cases hj : j < o.length
              · obtain ⟨sx, hsx⟩ : ∃ sx, o[j]? = some sx := ⟨_, List.getElem?_eq_getElem hj⟩
                rcases HNC.out with h0 | ⟨gN, cN, e, hgl, hcell⟩
                · rw [h0] at hj; simp at hj
                injection e with e1 _ e3
                subst e1
                subst e3
                have cc := hcell j sx hsx
                rw [← hgj2.row_eq hgl] at cc
                have zN := lt_sz (Nat.lt_of_lt_of_le hgl hgj2.below.size)
                have j0 : (0 : Int) ≤ (j : Int) := by omega
                have jI : (j : Int) < (o.length : Int) := by omega
                have jw : IntKind.i64.wrap ((j : Int) + 1) = (j : Int) + 1 := by rw [IntKind.wrap_i64]; omega
                have HX := Lib.hid (show (o.take (j + 1)).any (fun s => decide (s = nm)) = ((o.take j).any (fun s => decide (s = nm)) || decide (sx = nm)) by
                  rw [List.take_add_one, hsx, List.any_append]; simp)
                have hbq : (sx.toList == nm.toList) = decide (sx = nm) := by
                  by_cases h : sx = nm
                  · subst h; simp
                  · rw [decide_eq_false h, beq_eq_false_iff_ne]; exact fun e => h (ba_toList_inj e)
                generalize (o.take j).any (fun s => decide (s = nm)) = bb at *
                generalize decide (sx = nm) = bc at *
                clear hsx hcell y9 zy9
                cases bb with
                | true =>
                  go_wp2_with fail
                  go_roundg (o.length - (j + 1))
                  case measure => omega
                  case rel => exact ⟨j + 1, Lib.hid ⟨by omega, by omega⟩, by go_num, by rw [HX.out]; rfl, hgj2.trans (by repeat (with_reducible first | assumption | exact grA | apply grB | apply grC | apply grD | refine grE ?_ (by omega) _ | refine grF ?_ (by omega) _ _))⟩
                | false =>
                  go_wp2_with fail
                  go_roundg (o.length - (j + 1))
                  case measure => omega
                  case rel => exact ⟨j + 1, Lib.hid ⟨by omega, by omega⟩, by go_num, by rw [HX.out]; simp, hgj2.trans (by repeat (with_reducible first | assumption | exact grA | apply grB | apply grC | apply grD | refine grE ?_ (by omega) _ | refine grF ?_ (by omega) _ _))⟩
              · have jI : ¬ (j : Int) < (o.length : Int) := by omega
                obtain rfl : j = o.length := by omega
                rw [List.take_length]
                have hadd : addN o nm = if o.any (fun s => decide (s = nm)) = true then o else o ++ [nm] := rfl
                rw [hadd] at HRE
                clear hadd
                generalize o.any (fun s => decide (s = nm)) = bb at *
                have hgr5 := hgr6
                have y9 := y10
                have zy9 := row_sz' y9
                clear y10 hgr6
                cases bb with
                | true =>
                  rw [if_pos rfl] at HRE
                  go_upto_region 15 with fail
                  go_wp2_with (go_at_call 28; go_loud ((with_reducible refine (HKID.out _ _ o (HST.out.grows (hgr5.trans (by repeat (with_reducible first | assumption | exact grA | apply grB | apply grC | apply grD | refine grE ?_ (by omega) _ | refine grF ?_ (by omega) _ _)))) (Nat.le_succ _)).mono ?_); rintro r w7 ⟨v7, rfl, p1, p2, p3, p4⟩; (obtain ⟨a7, c7, rfl⟩ := own_slice p3); (have HST7 := Lib.hid ((HST.out.grows (hgr5.trans (by repeat (with_reducible first | assumption | exact grA | apply grB | apply grC | apply grD | refine grE ?_ (by omega) _ | refine grF ?_ (by omega) _ _)))).next p1 p2 p3 p4))))
                  go_roundg (l.length - (i + 1))
                  case measure => omega
                  case rel => exact ⟨i + 1, usesL o ks, a7, c7, Lib.hid ⟨by omega, by omega⟩, by go_num, rfl, Lib.hid ⟨HST7.out.grows (by repeat (with_reducible first | assumption | exact grA | apply grB | apply grC | apply grD | refine grE ?_ (by omega) _ | refine grF ?_ (by omega) _ _)), by have := uses_len _ ks o (Nat.le_refl _); omega, HRE.out⟩⟩
                | false =>
                  rw [if_neg (by decide)] at HRE
                  have hg0w := HST.out.g0.trans hgr5
                  have hB0 := HP.out.b0
                  have hB1 := HP.out.bB
                  have hB2 := hgr5.below.size
                  go_upto_region 15 with ((at_builtin; refine wpList_app w0 (B) rfl (.tmp 45) (.tmp 47) _ rfl 9 (.string ByteArray.empty) 1 16 Tryz.underlying31 (by kernel_rfl) rfl (by omega) (by omega) _ o.length _ rfl ((HST.out.grows (hgr5.trans (by repeat (with_reducible first | assumption | exact grA | apply grB | apply grC | apply grD | refine grE ?_ (by omega) _ | refine grF ?_ (by omega) _ _)))).own) _ 1 _ [.string nm] rfl rfl (cells_of_row (e := 9) (fr := (0, 0)) (by simp [go_sem])) (by simp [Value.oneCell']) (by omega) (by repeat (with_reducible first | assumption | exact grA | apply grB | apply grC | apply grD | refine grE ?_ (by omega) _ | refine grF ?_ (by omega) _ _)) (by omega) (by first | omega | (simp <;> omega)) ?_; intro v' w' hg' HO' HR' HG' HA'); (obtain ⟨a9, c9, rfl⟩ := own_slice HO'.out))
                  have hle : (o ++ [nm]).length = o.length + 1 := by simp
                  have HST2 : Hid (USt w0 w B (.slice aO out.length cO) w' (.slice a9 (o.length + 1) c9) (o ++ [nm])) := Lib.hid ((HST.out.grows (hgr5.trans (by repeat (with_reducible first | assumption | exact grA | apply grB | apply grC | apply grD | refine grE ?_ (by omega) _ | refine grF ?_ (by omega) _ _)))).next hg' HG'.out (by
                    have := HO'.out
                    simpa [NmO] using this) (by
                    rcases HA'.out with e | e
                    · exact .inl e
                    · exact .inr ⟨_, e, Nat.le_refl _⟩))
                  have z9 := rowG y9 HG'.out (by repeat (with_reducible first | assumption | exact grA | apply grB | apply grC | apply grD | refine grE ?_ (by omega) _ | refine grF ?_ (by omega) _ _)) (fun e => by have h1 := HST.out.own.lt _ e.symm; have h2 := HB9.out; omega)
                  have zz9 := row_sz' z9
                  clear y9 zy9 HO' HR' HG' HA' HNC
                  go_wp2_with (go_at_call 28; go_loud ((with_reducible refine (HKID.out _ _ (o ++ [nm]) (HST2.out.grows (by repeat (with_reducible first | assumption | exact grA | apply grB | apply grC | apply grD | refine grE ?_ (by omega) _ | refine grF ?_ (by omega) _ _))) (Nat.le_of_eq hle)).mono ?_); rintro r w7 ⟨v7, rfl, p1, p2, p3, p4⟩; (obtain ⟨a7, c7, rfl⟩ := own_slice p3); (have HST7 := Lib.hid ((HST2.out.grows (by repeat (with_reducible first | assumption | exact grA | apply grB | apply grC | apply grD | refine grE ?_ (by omega) _ | refine grF ?_ (by omega) _ _))).next p1 p2 p3 p4))))
                  go_roundg (l.length - (i + 1))
                  case measure => omega
                  case rel => exact ⟨i + 1, usesL (o ++ [nm]) ks, a7, c7, Lib.hid ⟨by omega, by omega⟩, by go_num, rfl, Lib.hid ⟨HST7.out.grows (by repeat (with_reducible first | assumption | exact grA | apply grB | apply grC | apply grD | refine grE ?_ (by omega) _ | refine grF ?_ (by omega) _ _)), by have := uses_len _ ks (o ++ [nm]) (Nat.le_refl _); omega, HRE.out⟩⟩
          | cons z rest =>
            go_upto_region 7 with (first | (go_at_call 45; (with_reducible refine (HU.out _).mono ?_); rintro e w1 ⟨rfl, x1, rfl⟩) | (go_at_call 46; go_loud ((with_reducible refine (HUSE.out _ (gw2.trans (by repeat (with_reducible first | assumption | exact grA | apply grB | apply grC | apply grD | refine grE ?_ (by omega) _ | refine grF ?_ (by omega) _ _)))).mono ?_); rintro r w5 ⟨hg5, vu, rfl, -⟩; replace hg5 : w2.grows w5 := World.grows.trans (by repeat (with_reducible first | assumption | exact grA | apply grB | apply grC | apply grD | refine grE ?_ (by omega) _ | refine grF ?_ (by omega) _ _)) hg5)))
            have hgr5 : wr.grows w5 := gw2.trans hg5
            have y9 := (hg5.row_eq zx9.1).trans x9
            have zy9 := row_sz' y9
            have h25 := hg5.below.size
            have HNC := Lib.hid ((HST.out.grows hgr5).own.cell)
            clear x9 zx9 HUSE
            go_wp2_with fail
            go_loopg [11, 32] o.length (fun gn v11 v32 wj => ∃ j : Nat, Hid (gn + j = o.length ∧ j ≤ o.length) ∧ v32 = .int .i64 j ∧ v11 = .bool ((o.take j).any (fun s => decide (s = nm))) ∧ w5.grows wj)
            case atStart => exact ⟨0, Lib.hid ⟨by simp, Nat.zero_le _⟩, by go_num, rfl, (by repeat (with_reducible first | assumption | exact grA | apply grB | apply grC | apply grD | refine grE ?_ (by omega) _ | refine grF ?_ (by omega) _ _))⟩
            case round =>
              obtain ⟨j, HQ2, rfl, rfl, hgj2⟩ := hrel
              obtain ⟨p1, p2⟩ := HQ2.out
              have hgr6 := hgr5.trans hgj2
              have y10 := (hgj2.row_eq zy9.1).trans y9
              by_cases hj : j < o.length
              · obtain ⟨sx, hsx⟩ : ∃ sx, o[j]? = some sx := ⟨_, List.getElem?_eq_getElem hj⟩
                rcases HNC.out with h0 | ⟨gN, cN, e, hgl, hcell⟩
                · rw [h0] at hj; simp at hj
                injection e with e1 _ e3
                subst e1
                subst e3
                have cc := hcell j sx hsx
                rw [← hgj2.row_eq hgl] at cc
                have zN := lt_sz (Nat.lt_of_lt_of_le hgl hgj2.below.size)
                have j0 : (0 : Int) ≤ (j : Int) := by omega
                have jI : (j : Int) < (o.length : Int) := by omega
                have jw : IntKind.i64.wrap ((j : Int) + 1) = (j : Int) + 1 := by rw [IntKind.wrap_i64]; omega
                have HX := Lib.hid (show (o.take (j + 1)).any (fun s => decide (s = nm)) = ((o.take j).any (fun s => decide (s = nm)) || decide (sx = nm)) by
                  rw [List.take_add_one, hsx, List.any_append]; simp)
                have hbq : (sx.toList == nm.toList) = decide (sx = nm) := by
                  by_cases h : sx = nm
                  · subst h; simp
                  · rw [decide_eq_false h, beq_eq_false_iff_ne]; exact fun e => h (ba_toList_inj e)
                generalize (o.take j).any (fun s => decide (s = nm)) = bb at *
                generalize decide (sx = nm) = bc at *
                clear hsx hcell y9 zy9
                cases bb with
                | true =>
                  go_wp2_with fail
                  go_roundg (o.length - (j + 1))
                  case measure => omega
                  case rel => exact ⟨j + 1, Lib.hid ⟨by omega, by omega⟩, by go_num, by rw [HX.out]; rfl, hgj2.trans (by repeat (with_reducible first | assumption | exact grA | apply grB | apply grC | apply grD | refine grE ?_ (by omega) _ | refine grF ?_ (by omega) _ _))⟩
                | false =>
                  go_wp2_with fail
                  go_roundg (o.length - (j + 1))
                  case measure => omega
                  case rel => exact ⟨j + 1, Lib.hid ⟨by omega, by omega⟩, by go_num, by rw [HX.out]; simp, hgj2.trans (by repeat (with_reducible first | assumption | exact grA | apply grB | apply grC | apply grD | refine grE ?_ (by omega) _ | refine grF ?_ (by omega) _ _))⟩
              · have jI : ¬ (j : Int) < (o.length : Int) := by omega
                obtain rfl : j = o.length := by omega
                rw [List.take_length]
                have hadd : addN o nm = if o.any (fun s => decide (s = nm)) = true then o else o ++ [nm] := rfl
                rw [hadd] at HRE
                clear hadd
                generalize o.any (fun s => decide (s = nm)) = bb at *
                have hgr5 := hgr6
                have y9 := y10
                have zy9 := row_sz' y9
                clear y10 hgr6
                cases bb with
                | true =>
                  rw [if_pos rfl] at HRE
                  go_upto_region 15 with fail
                  go_wp2_with (go_at_call 28; go_loud ((with_reducible refine (HKID.out _ _ o (HST.out.grows (hgr5.trans (by repeat (with_reducible first | assumption | exact grA | apply grB | apply grC | apply grD | refine grE ?_ (by omega) _ | refine grF ?_ (by omega) _ _)))) (Nat.le_succ _)).mono ?_); rintro r w7 ⟨v7, rfl, p1, p2, p3, p4⟩; (obtain ⟨a7, c7, rfl⟩ := own_slice p3); (have HST7 := Lib.hid ((HST.out.grows (hgr5.trans (by repeat (with_reducible first | assumption | exact grA | apply grB | apply grC | apply grD | refine grE ?_ (by omega) _ | refine grF ?_ (by omega) _ _)))).next p1 p2 p3 p4))))
                  go_roundg (l.length - (i + 1))
                  case measure => omega
                  case rel => exact ⟨i + 1, usesL o ks, a7, c7, Lib.hid ⟨by omega, by omega⟩, by go_num, rfl, Lib.hid ⟨HST7.out.grows (by repeat (with_reducible first | assumption | exact grA | apply grB | apply grC | apply grD | refine grE ?_ (by omega) _ | refine grF ?_ (by omega) _ _)), by have := uses_len _ ks o (Nat.le_refl _); omega, HRE.out⟩⟩
                | false =>
                  rw [if_neg (by decide)] at HRE
                  have hg0w := HST.out.g0.trans hgr5
                  have hB0 := HP.out.b0
                  have hB1 := HP.out.bB
                  have hB2 := hgr5.below.size
                  go_upto_region 15 with ((at_builtin; refine wpList_app w0 (B) rfl (.tmp 45) (.tmp 47) _ rfl 9 (.string ByteArray.empty) 1 16 Tryz.underlying31 (by kernel_rfl) rfl (by omega) (by omega) _ o.length _ rfl ((HST.out.grows (hgr5.trans (by repeat (with_reducible first | assumption | exact grA | apply grB | apply grC | apply grD | refine grE ?_ (by omega) _ | refine grF ?_ (by omega) _ _)))).own) _ 1 _ [.string nm] rfl rfl (cells_of_row (e := 9) (fr := (0, 0)) (by simp [go_sem])) (by simp [Value.oneCell']) (by omega) (by repeat (with_reducible first | assumption | exact grA | apply grB | apply grC | apply grD | refine grE ?_ (by omega) _ | refine grF ?_ (by omega) _ _)) (by omega) (by first | omega | (simp <;> omega)) ?_; intro v' w' hg' HO' HR' HG' HA'); (obtain ⟨a9, c9, rfl⟩ := own_slice HO'.out))
                  have hle : (o ++ [nm]).length = o.length + 1 := by simp
                  have HST2 : Hid (USt w0 w B (.slice aO out.length cO) w' (.slice a9 (o.length + 1) c9) (o ++ [nm])) := Lib.hid ((HST.out.grows (hgr5.trans (by repeat (with_reducible first | assumption | exact grA | apply grB | apply grC | apply grD | refine grE ?_ (by omega) _ | refine grF ?_ (by omega) _ _)))).next hg' HG'.out (by
                    have := HO'.out
                    simpa [NmO] using this) (by
                    rcases HA'.out with e | e
                    · exact .inl e
                    · exact .inr ⟨_, e, Nat.le_refl _⟩))
                  have z9 := rowG y9 HG'.out (by repeat (with_reducible first | assumption | exact grA | apply grB | apply grC | apply grD | refine grE ?_ (by omega) _ | refine grF ?_ (by omega) _ _)) (fun e => by have h1 := HST.out.own.lt _ e.symm; have h2 := HB9.out; omega)
                  have zz9 := row_sz' z9
                  clear y9 zy9 HO' HR' HG' HA' HNC
                  go_wp2_with (go_at_call 28; go_loud ((with_reducible refine (HKID.out _ _ (o ++ [nm]) (HST2.out.grows (by repeat (with_reducible first | assumption | exact grA | apply grB | apply grC | apply grD | refine grE ?_ (by omega) _ | refine grF ?_ (by omega) _ _))) (Nat.le_of_eq hle)).mono ?_); rintro r w7 ⟨v7, rfl, p1, p2, p3, p4⟩; (obtain ⟨a7, c7, rfl⟩ := own_slice p3); (have HST7 := Lib.hid ((HST2.out.grows (by repeat (with_reducible first | assumption | exact grA | apply grB | apply grC | apply grD | refine grE ?_ (by omega) _ | refine grF ?_ (by omega) _ _))).next p1 p2 p3 p4))))
                  go_roundg (l.length - (i + 1))
                  case measure => omega
                  case rel => exact ⟨i + 1, usesL (o ++ [nm]) ks, a7, c7, Lib.hid ⟨by omega, by omega⟩, by go_num, rfl, Lib.hid ⟨HST7.out.grows (by repeat (with_reducible first | assumption | exact grA | apply grB | apply grC | apply grD | refine grE ?_ (by omega) _ | refine grF ?_ (by omega) _ _)), by have := uses_len _ ks (o ++ [nm]) (Nat.le_refl _); omega, HRE.out⟩⟩
      · have hu' : useT (.mk ⟨kt, s, n1, d, q1, q2⟩ ks) = false := by simpa using hu
        have HAD := Lib.hid (show addU o (.mk ⟨kt, s, n1, d, q1, q2⟩ ks) = o by unfold addU; rw [if_neg hu])
        rw [HAD.out] at HRE
        rw [hu'] at HU
        clear hu hu'
        go_wp2_with (first | (go_at_call 45; (with_reducible refine (HU.out _).mono ?_); rintro e w1 ⟨rfl, x1, rfl⟩) | (go_at_call 28; go_loud ((with_reducible refine (HKID.out _ _ o (HST.out.grows (gw2.trans (by repeat (with_reducible first | assumption | exact grA | apply grB | apply grC | apply grD | refine grE ?_ (by omega) _ | refine grF ?_ (by omega) _ _)))) (Nat.le_succ _)).mono ?_); rintro r w7 ⟨v7, rfl, p1, p2, p3, p4⟩; (obtain ⟨a7, c7, rfl⟩ := own_slice p3); (have HST7 := Lib.hid ((HST.out.grows (gw2.trans (by repeat (with_reducible first | assumption | exact grA | apply grB | apply grC | apply grD | refine grE ?_ (by omega) _ | refine grF ?_ (by omega) _ _)))).next p1 p2 p3 p4)))))
        go_roundg (l.length - (i + 1))
        case measure => omega
        case rel => exact ⟨i + 1, usesL o ks, a7, c7, Lib.hid ⟨by omega, by omega⟩, by go_num, rfl, Lib.hid ⟨HST7.out.grows (by repeat (with_reducible first | assumption | exact grA | apply grB | apply grC | apply grD | refine grE ?_ (by omega) _ | refine grF ?_ (by omega) _ _)), by have := uses_len _ ks o (Nat.le_refl _); omega, HRE.out⟩⟩
    · have iI : ¬ (i : Int) < (l.length : Int) := by omega
      obtain rfl : i = l.length := by omega
      have hr := HS.out.2.2
      rw [List.drop_length] at hr
      simp only [usesL] at hr
      go_wp2_with fail
      go_ret
      subst hr
      have h9 := HS.out.1.grows (show wr.grows _ from (by repeat (with_reducible first | assumption | exact grA | apply grB | apply grC | apply grD | refine grE ?_ (by omega) _ | refine grF ?_ (by omega) _ _)))
      exact ⟨_, rfl, h9.g0, h9.gb, h9.own, h9.gr⟩
end Go.Proofs.YthcaphoejplecaaGreatDoor

/- WALK over jalousieref21: Uses. No condition but bounds. -/
namespace Go.Proofs.YthcaphoejplecaaGreatDoor
open Go.RowKit
theorem fuses_any (N : Nat) : UsesC N := by
  induction N using Nat.strongRecOn with
  | _ N ih => exact fuses_step N ih
theorem own_lower {w : World} {B B' : Nat} {e : TypeId} {n k : Nat} {v : Value} {xs : List Value} (h : B' ≤ B) (ho : w.ownsRow B e n v k xs) : w.ownsRow B' e n v k xs := by
  obtain ⟨h1, h2⟩ := ho
  refine ⟨h1, ?_⟩
  rcases h2 with h2 | ⟨g, c, cur, p1, p2, p3⟩
  · exact .inl h2
  · exact .inr ⟨g, c, cur, p1, Nat.le_trans h p2, p3⟩
/-- how Uses ends -/
def NamesPost (w : World) (o : List ByteArray) (e : Ending) (w' : World) : Prop := ∃ r, e = .returned r ∧ w.grows w' ∧ NmO w' w.heap.size r o
set_option maxRecDepth 100000 in
set_option maxHeartbeats 4000000 in
theorem fUses_any {w : World} {v : Value} {l : List Tk} (h : TksAt w v l) (hl : l.length ≤ 4194304) : Calls Tryz.prog 11 #[v] w (NamesPost w (usesT l)) := by
  have HV := Lib.hid (fValues_any h hl)
  have HN := Lib.hid (Nat.le_trans (parse_nodes l) hl)
  clear h
  go_enter Tryz.func11, Tryz.ntmps11
  go_upto_region 2 with (go_at_call 26; go_loud ((with_reducible refine HV.out.mono ?_); rintro r w1 ⟨v1, rfl, hg1, hv1⟩))
  have HM1 := Lib.hid (fun (W : World) (hg : w1.grows W) => fMay_any (VsAt.grows hv1 hg))
  have HUS := Lib.hid (fun (W : World) (hg : w1.grows W) => fuses_any (nodesL (parse l)) w W W.heap.size (.slice none 0 0) [] _ v1 (parse l) ⟨hg1.trans hg, (hg1.trans hg).below.size, Nat.le_refl _, by simpa [NmO] using World.ownsRow_nil _ _ _ _, VsAt.grows hv1 hg, (fun _ _ e => by cases e), Nat.le_refl _, (by have := HN.out; simp only [List.length_nil]; omega), HN.out⟩)
  cases hm : mayV 64 (parse l) with
  | false =>
    have HR := Lib.hid (show usesT l = [] by unfold usesT; rw [if_neg (by rw [hm]; decide)])
    rw [hm] at HM1
    clear hm hv1
    go_wp2_with ((go_at_call 27; (with_reducible refine (HM1.out _ (by repeat (with_reducible first | assumption | exact grA | apply grB | apply grC | apply grD | refine grE ?_ (by omega) _ | refine grF ?_ (by omega) _ _))).mono ?_); rintro e w1 ⟨rfl, x1, rfl⟩))
    go_ret
    rw [HR.out]
    exact ⟨_, rfl, hg1.trans (by repeat (with_reducible first | assumption | exact grA | apply grB | apply grC | apply grD | refine grE ?_ (by omega) _ | refine grF ?_ (by omega) _ _)), by simpa [NmO] using World.ownsRow_nil _ _ _ _⟩
  | true =>
    have HR := Lib.hid (show usesT l = usesL [] (parse l) by unfold usesT; rw [if_pos hm])
    rw [hm] at HM1
    clear hm hv1
    go_wp2_with (first | (go_at_call 27; (with_reducible refine (HM1.out _ (by repeat (with_reducible first | assumption | exact grA | apply grB | apply grC | apply grD | refine grE ?_ (by omega) _ | refine grF ?_ (by omega) _ _))).mono ?_); rintro e w1 ⟨rfl, x1, rfl⟩) | (go_at_call 28; go_loud ((with_reducible refine (HUS.out _ (by repeat (with_reducible first | assumption | exact grA | apply grB | apply grC | apply grD | refine grE ?_ (by omega) _ | refine grF ?_ (by omega) _ _))).mono ?_); rintro r w7 ⟨v7, rfl, p1, p2, p3, p4⟩; replace p3 := own_lower (World.grows.below (hg1.trans (by repeat (with_reducible first | assumption | exact grA | apply grB | apply grC | apply grD | refine grE ?_ (by omega) _ | refine grF ?_ (by omega) _ _)))).size p3)))
    go_ret
    rw [HR.out]
    exact ⟨_, rfl, p1.trans (by repeat (with_reducible first | assumption | exact grA | apply grB | apply grC | apply grD | refine grE ?_ (by omega) _ | refine grF ?_ (by omega) _ _)), World.ownsRow.grows p3 (by repeat (with_reducible first | assumption | exact grA | apply grB | apply grC | apply grD | refine grE ?_ (by omega) _ | refine grF ?_ (by omega) _ _))⟩
end Go.Proofs.YthcaphoejplecaaGreatDoor
