/- WALK over jalousieref8: Set; LAW: the reference's way to put an attribute is the list's. No condition. -/
import Derived.Test.YtdbddnkjiehaiaaGreatDomQd
set_option linter.unusedSimpArgs false
set_option linter.unusedVariables false
namespace Go
open Go.RowKit
/-- the reference's way to put an attribute, one round -/
def rstep (n v : ByteArray) (s : Bool × List (ByteArray × ByteArray)) (x : ByteArray × ByteArray) : Bool × List (ByteArray × ByteArray) :=
  ((s.1 || !lessS x.1 n), (if (!s.1 && !lessS x.1 n) = true then s.2 ++ [(n, v)] else s.2) ++ (if x.1 = n then [] else [x]))
def rend (n v : ByteArray) (s : Bool × List (ByteArray × ByteArray)) : List (ByteArray × ByteArray) := if s.1 = true then s.2 else s.2 ++ [(n, v)]
theorem rstep_true (n v : ByteArray) : ∀ (l acc : List (ByteArray × ByteArray)), l.foldl (rstep n v) (true, acc) = (true, acc ++ l.filter fun x => decide (x.1 ≠ n))
  | [], acc => by simp
  | x :: t, acc => by
    rw [List.foldl_cons]
    show t.foldl (rstep n v) (rstep n v (true, acc) x) = _
    have e : rstep n v (true, acc) x = (true, acc ++ (if x.1 = n then [] else [x])) := by unfold rstep; simp
    rw [e, rstep_true n v t]
    by_cases hx : x.1 = n
    · simp [hx]
    · simp [hx]
theorem lessS_irr (n : ByteArray) : lessS n n = false := by unfold lessS; simp [List.lt_irrefl]
theorem rput (n v : ByteArray) : ∀ (l acc : List (ByteArray × ByteArray)), UpA l → rend n v (l.foldl (rstep n v) (false, acc)) = acc ++ putA l n v
  | [], acc, _ => by simp [rend, putA]
  | x :: t, acc, h => by
    unfold UpA at h
    rw [List.pairwise_cons] at h
    rw [List.foldl_cons]
    unfold putA
    by_cases hl : lessS x.1 n = true
    · rw [if_pos hl]
      have hx : ¬ x.1 = n := fun e => by rw [e, lessS_irr] at hl; cases hl
      have e : rstep n v (false, acc) x = (false, acc ++ [x]) := by unfold rstep; simp [hl, hx]
      rw [e, rput n v t _ h.2]; simp
    · have hl' : lessS x.1 n = false := by simpa using hl
      have hf : (t.filter fun x => decide (x.1 ≠ n)) = t := List.filter_eq_self.2 fun y hy => decide_eq_true fun e => hl (by
        have := h.1 y hy
        rw [e] at this
        unfold lessS; exact decide_eq_true this)
      rw [if_neg hl]
      have e : rstep n v (false, acc) x = (true, acc ++ (n, v) :: (if x.1 = n then [] else [x])) := by unfold rstep; simp [hl']
      rw [e, rstep_true]
      show acc ++ _ ++ _ = _
      rw [hf]
      by_cases hx : x.1 = n
      · simp [hx]
      · simp [hx]
theorem rfold_len (n v : ByteArray) : ∀ (l acc : List (ByteArray × ByteArray)) (b : Bool), (l.foldl (rstep n v) (b, acc)).2.length ≤ acc.length + 2 * l.length
  | [], acc, b => by simp
  | x :: t, acc, b => by
    rw [List.foldl_cons]
    have : (t.foldl (rstep n v) (rstep n v (b, acc) x)).2.length ≤ (rstep n v (b, acc) x).2.length + 2 * t.length := rfold_len n v t (rstep n v (b, acc) x).2 (rstep n v (b, acc) x).1
    have h2 : (rstep n v (b, acc) x).2.length ≤ acc.length + 2 := by
      unfold rstep
      simp only [List.length_append]
      split <;> split <;> simp
    simp only [List.length_cons] at *
    omega
end Go
namespace Go.Proofs.YtdbddnkjiehaiaaGreat
open Go.Maps Go.RowKit Go.Sort
set_option maxRecDepth 100000 in
set_option maxHeartbeats 8000000 in
theorem refSet_any (w : World) (t : Nat) (Q : Nat → Prop) (v : Value) (M : Dm) (h : RefAt w t Q v M) (hG : M.Good) (id : Int) (n vv : ByteArray) (hn : n.size ≤ maxLen) (hvv : vv.size ≤ maxLen) : Calls Tryz.prog 37 #[.pointer (some ⟨t, 0, none⟩), .int .i64 id, .string n, .string vv] w fun r w' => r = .returned (.int .i64 (M.set id n vv).1) ∧ REdt w t Q (M.set id n vv).2 w' := by
  have HAT := Lib.hid (fun (W : World) (hW : w.grows W) (id : Int) => refAt_any W t v M (h.r.grows hW) hG.wf.few id)
  have HR := Lib.hid h; have HGD := Lib.hid hG
  have hm := fun W => refName_any n W hn
  cases hat : M.at id with
  | none =>
    have hp : posE M.els id = -1 := posE_none (findE_none hat)
    have hbx : M.set id n vv = (5, M) := by unfold Dm.set; rw [hat]
    rw [hbx]
    clear h hbx hG hat
    go_enter Tryz.func37, Tryz.ntmps37
    go_wp2_with (go_at_call 43; go_loud ((with_reducible refine (HAT.out _ (by repeat (with_reducible first | assumption | exact grA | apply grB | apply grC | apply grD | refine grE ?_ (by omega) _ | refine grF ?_ (by omega) _ _)) _).mono ?_); rw [hp]; rintro r w1 ⟨rfl, hg1⟩))
    go_ret
    exact ⟨rfl, REdt.no HR.out hg1⟩
  | some e =>
    obtain ⟨he, rfl⟩ := findE_some hat
    obtain ⟨k, hp, hkl, hke⟩ := posE_at hG.wf.up he
    obtain ⟨g, cap, rfl, hshp, hcap⟩ := ref_slice h hG
    have hfew := hG.wf.few
    have hkI : (k : Int) < (M.els.length : Int) := by omega
    have hgq := h.qv g rfl
    have HS := Lib.hid hshp
    have hew := h.elWf e he
    have h16 := hew.2.2.2.2.2.2.1
    have hup := hG.ups e he
    cases hnm : nameB n.data.toList with
    | false =>
      rw [hnm] at hm
      have q : M.set e.id n vv = (10, M) := by unfold Dm.set; rw [hat]; simp only; rw [if_pos hnm]
      rw [q]
      have HM := Lib.hid hm
      clear h he q hat hup hew hshp hnm hm hG
      go_enter Tryz.func37, Tryz.ntmps37
      go_wp2_with (first | (go_at_call 43; go_loud ((with_reducible refine (HAT.out _ (by repeat (with_reducible first | assumption | exact grA | apply grB | apply grC | apply grD | refine grE ?_ (by omega) _ | refine grF ?_ (by omega) _ _)) _).mono ?_); rw [hp]; rintro r w1 ⟨rfl, hg1⟩)) | (go_at_call 14; (with_reducible refine (HM.out _).mono ?_); rintro e w1 ⟨rfl, x1, rfl⟩))
      go_ret
      exact ⟨rfl, REdt.no HR.out (by repeat (with_reducible first | assumption | exact grA | apply grB | apply grC | apply grD | refine grE ?_ (by omega) _ | refine grF ?_ (by omega) _ _))⟩
    | true =>
      rw [hnm] at hm
      have HM := Lib.hid hm
      have hnt : ¬ nameB n.data.toList = false := by rw [hnm]; decide
      by_cases hvl : 256 < vv.size
      · have q : M.set e.id n vv = (2, M) := by unfold Dm.set; rw [hat]; simp only; rw [if_neg hnt, if_pos hvl]
        rw [q]
        have hvI : (256 : Int) < (vv.size : Int) := by omega
        clear h he q hat hup hew hshp hnm hm hnt hG
        go_enter Tryz.func37, Tryz.ntmps37
        go_wp2_with (first | (go_at_call 43; go_loud ((with_reducible refine (HAT.out _ (by repeat (with_reducible first | assumption | exact grA | apply grB | apply grC | apply grD | refine grE ?_ (by omega) _ | refine grF ?_ (by omega) _ _)) _).mono ?_); rw [hp]; rintro r w1 ⟨rfl, hg1⟩)) | (go_at_call 14; (with_reducible refine (HM.out _).mono ?_); rintro e w1 ⟨rfl, x1, rfl⟩))
        go_ret
        exact ⟨rfl, REdt.no HR.out (by repeat (with_reducible first | assumption | exact grA | apply grB | apply grC | apply grD | refine grE ?_ (by omega) _ | refine grF ?_ (by omega) _ _))⟩
      · have hvI : ¬ (256 : Int) < (vv.size : Int) := by omega
        rcases (els_get h.r.els).2 with h0 | ⟨g1, o1, hgo, e1⟩
        · rw [h0] at hkl; simp at hkl
        injection hgo with hgo
        injection hgo with hgo1 hgo2
        subst hgo1; subst hgo2
        obtain ⟨cs, l1, k1, ka, aa, kc, ac, rfl, _, hats⟩ := e1 k _ hke
        have HA := Lib.hid (ats_get hats).2
        have HPU := Lib.hid (show rend n vv (e.at'.foldl (rstep n vv) (false, [])) = putA e.at' n vv from rput n vv _ _ hup)
        have HANS := Lib.hid (show M.set e.id n vv = if 16 < (putA e.at' n vv).length then (6, M) else (0, ⟨M.root, M.next, updE M.els e.id fun e => { e with at' := putA e.at' n vv }⟩) by
          unfold Dm.set; rw [hat]; simp only
          rw [if_neg hnt, if_neg hvl])
        rw [Nat.zero_add] at k1
        have K1 := Lib.hid k1
        clear h hG hat hshp hats e1 k1 hnm hm hnt hup he
        go_enter Tryz.func37, Tryz.ntmps37
        go_upto_region 10 with (first | (go_at_call 43; go_loud ((with_reducible refine (HAT.out _ (by repeat (with_reducible first | assumption | exact grA | apply grB | apply grC | apply grD | refine grE ?_ (by omega) _ | refine grF ?_ (by omega) _ _)) _).mono ?_); rw [hp]; rintro r w1 ⟨rfl, hg1⟩)) | (go_at_call 14; (with_reducible refine (HM.out _).mono ?_); rintro e w1 ⟨rfl, x1, rfl⟩))
        have hgx : w.grows (w1.plus x1) := (by repeat (with_reducible first | assumption | exact grA | apply grB | apply grC | apply grD | refine grE ?_ (by omega) _ | refine grF ?_ (by omega) _ _))
        generalize w1.plus x1 = w2 at *
        have hx1 := (HR.out.grows hgx).head
        have zx1 := row_sz' hx1
        have k2 := K1.out.grows hgx
        have z2 := lt_sz k2.lt
        have c2 := k2.cell (j := 4) rfl
        rw [World.cell?_row] at c2
        go_upto_region 11 with fail
        go_loopg [10, 11, 37] e.at'.length (fun gn v10 v11 v37 wj => ∃ (i : Nat) (ll : List (ByteArray × ByteArray)) (pt : Bool), Hid (gn + i = e.at'.length ∧ i ≤ e.at'.length) ∧ Hid ((pt, ll) = (e.at'.take i).foldl (rstep n vv) (false, [])) ∧ v11 = .bool pt ∧ v37 = .int .i64 i ∧ w.grows wj ∧ Hid (wj.ownsRow w.heap.size 71 2 v10 ll.length (atC ll)))
        case atStart => exact ⟨0, [], false, Lib.hid ⟨by simp, Nat.zero_le _⟩, Lib.hid rfl, rfl, by go_num, hgx, Lib.hid (World.ownsRow_nil _ _ _ _)⟩
        case round =>
          obtain ⟨i, ll, pt, HQ, HLL, rfl, rfl, hgj, HV⟩ := hrel
          obtain ⟨j1, j2⟩ := HQ.out
          by_cases hlt : i < e.at'.length
          · have i1 : (i : Int) < (e.at'.length : Int) := by omega
            rcases HA.out with h0 | ⟨p3, o3, rfl, e3⟩
            · rw [h0] at hlt; simp at hlt
            have hgt := List.getElem?_eq_getElem hlt
            have k3 := (e3 i _ hgt).grows hgj
            have hlen : ll.length ≤ 32 := by
              have h1 := rfold_len n vv (e.at'.take i) [] false
              rw [← HLL.out, List.length_take] at h1
              simp only [List.length_nil] at h1
              omega
            have HTK := Lib.hid (show rstep n vv (pt, ll) e.at'[i] = (e.at'.take (i + 1)).foldl (rstep n vv) (false, []) by
              rw [List.take_add_one, hgt, List.foldl_append, ← HLL.out]; rfl)
            generalize e.at'[i] = x at *
            have z3 := lt_sz k3.lt
            obtain ⟨u1, u2⟩ := k3
            rw [show [Value.string x.1, Value.string x.2].length = 2 from rfl] at u1 u2
            obtain ⟨a6, c6, rfl⟩ := own_slice HV.out
            have hvo := HV.out
            have s03 := hgj.below.size
            clear e3 hgt HV hx1 zx1 c2 k2 z2 HLL
            have hbl : Op.bytesLess x.1.toList n.toList = lessS x.1 n := by
              rw [bytesLess_eq]; unfold lessS; simp [ByteArray.toList_eq]
            cases pt with
            | true =>
              by_cases hx : x.1 = n
              · have HT2 := Lib.hid (show (true, ll) = (e.at'.take (i + 1)).foldl (rstep n vv) (false, []) by rw [← HTK.out]; unfold rstep; simp [hx])
                have hxb : (x.1.toList == n.toList) = true := by rw [hx]; simp
                have HVO := Lib.hid hvo
                clear hvo hx HTK
                go_wp2_with fail
                go_roundg (e.at'.length - (i + 1))
                case measure => omega
                case rel => exact ⟨i + 1, ll, true, Lib.hid ⟨by omega, by omega⟩, HT2, rfl, by go_num, (by repeat (with_reducible first | assumption | exact grA | apply grB | apply grC | apply grD | refine grE ?_ (by omega) _ | refine grF ?_ (by omega) _ _)), Lib.hid (HVO.out.grows (by repeat (with_reducible first | assumption | exact grA | apply grB | apply grC | apply grD | refine grE ?_ (by omega) _ | refine grF ?_ (by omega) _ _)))⟩
              · have HT2 := Lib.hid (show (true, ll ++ [x]) = (e.at'.take (i + 1)).foldl (rstep n vv) (false, []) by rw [← HTK.out]; unfold rstep; simp [hx])
                have hxb : (x.1.toList == n.toList) = false := by
                  have hxn : ¬ (x.1.toList = n.toList) := fun h => hx (by
                    obtain ⟨⟨a⟩, v⟩ := x
                    obtain ⟨b⟩ := n
                    have h' : a.toList = b.toList := by simpa [ByteArray.toList_eq] using h
                    rw [Array.toList_inj.1 h'])
                  simpa using hxn
                clear hx HTK
                go_wp2_with (at_builtin; refine wpList_app w (w.heap.size) rfl (.tmp 59) (.tmp 61) _ rfl 71 (.agg #[.string ByteArray.empty, .string ByteArray.empty]) 2 32 Tryz.underlying47 (by kernel_rfl) rfl (by omega) (by omega) _ ll.length _ rfl (hvo.grows (by repeat (with_reducible first | assumption | exact grA | apply grB | apply grC | apply grD | refine grE ?_ (by omega) _ | refine grF ?_ (by omega) _ _))) _ 1 _ [.string x.1, .string x.2] rfl rfl (cells_of_row (e := 71) (fr := (0, 0)) (by simp [go_sem])) (by simp [Value.oneCell']) (by omega) (by repeat (with_reducible first | assumption | exact grA | apply grB | apply grC | apply grD | refine grE ?_ (by omega) _ | refine grF ?_ (by omega) _ _)) (by omega) (by simp <;> omega) ?_; intro v' w' hg' HO' HR' HG' HA')
                have HN := Lib.hid HO'.out
                rw [show atC ll ++ [.string x.1, .string x.2] = atC (ll ++ [x]) by rw [atC_app]; rfl, show ll.length + 1 = (ll ++ [x]).length by simp] at HN
                clear HO' HR' HG' HA'
                go_roundg (e.at'.length - (i + 1))
                case measure => omega
                case rel => exact ⟨i + 1, ll ++ [x], true, Lib.hid ⟨by omega, by omega⟩, HT2, rfl, by go_num, hg', HN⟩
            | false =>
              cases hls : lessS x.1 n with
              | true =>
                rw [hls] at hbl
                have hx : ¬ x.1 = n := fun h => by rw [h, lessS_irr] at hls; cases hls
                have HT2 := Lib.hid (show (false, ll ++ [x]) = (e.at'.take (i + 1)).foldl (rstep n vv) (false, []) by rw [← HTK.out]; unfold rstep; simp [hx, hls])
                have hxb : (x.1.toList == n.toList) = false := by
                  have hxn : ¬ (x.1.toList = n.toList) := fun h => hx (by
                    obtain ⟨⟨a⟩, v⟩ := x
                    obtain ⟨b⟩ := n
                    have h' : a.toList = b.toList := by simpa [ByteArray.toList_eq] using h
                    rw [Array.toList_inj.1 h'])
                  simpa using hxn
                clear hx HTK hls
                go_wp2_with (at_builtin; refine wpList_app w (w.heap.size) rfl (.tmp 59) (.tmp 61) _ rfl 71 (.agg #[.string ByteArray.empty, .string ByteArray.empty]) 2 32 Tryz.underlying47 (by kernel_rfl) rfl (by omega) (by omega) _ ll.length _ rfl (hvo.grows (by repeat (with_reducible first | assumption | exact grA | apply grB | apply grC | apply grD | refine grE ?_ (by omega) _ | refine grF ?_ (by omega) _ _))) _ 1 _ [.string x.1, .string x.2] rfl rfl (cells_of_row (e := 71) (fr := (0, 0)) (by simp [go_sem])) (by simp [Value.oneCell']) (by omega) (by repeat (with_reducible first | assumption | exact grA | apply grB | apply grC | apply grD | refine grE ?_ (by omega) _ | refine grF ?_ (by omega) _ _)) (by omega) (by simp <;> omega) ?_; intro v' w' hg' HO' HR' HG' HA')
                have HN := Lib.hid HO'.out
                rw [show atC ll ++ [.string x.1, .string x.2] = atC (ll ++ [x]) by rw [atC_app]; rfl, show ll.length + 1 = (ll ++ [x]).length by simp] at HN
                clear HO' HR' HG' HA'
                go_roundg (e.at'.length - (i + 1))
                case measure => omega
                case rel => exact ⟨i + 1, ll ++ [x], false, Lib.hid ⟨by omega, by omega⟩, HT2, rfl, by go_num, hg', HN⟩
              | false =>
                rw [hls] at hbl
                go_upto_region 16 with (at_builtin; refine wpList_app w (w.heap.size) rfl (.tmp 49) (.tmp 53) _ rfl 71 (.agg #[.string ByteArray.empty, .string ByteArray.empty]) 2 32 Tryz.underlying47 (by kernel_rfl) rfl (by omega) (by omega) _ ll.length _ rfl (hvo.grows (by repeat (with_reducible first | assumption | exact grA | apply grB | apply grC | apply grD | refine grE ?_ (by omega) _ | refine grF ?_ (by omega) _ _))) _ 1 _ [.string n, .string vv] rfl rfl (cells_of_row (e := 71) (fr := (0, 0)) (by simp [go_sem])) (by simp [Value.oneCell']) (by omega) (by repeat (with_reducible first | assumption | exact grA | apply grB | apply grC | apply grD | refine grE ?_ (by omega) _ | refine grF ?_ (by omega) _ _)) (by omega) (by simp <;> omega) ?_; intro v' w' hg' HO' HR' HG' HA')
                have ho1 := HO'.out
                rw [show atC ll ++ [.string n, .string vv] = atC (ll ++ [(n, vv)]) by rw [atC_app]; rfl, show ll.length + 1 = (ll ++ [(n, vv)]).length by simp] at ho1
                obtain ⟨a7, c7, rfl⟩ := own_slice ho1
                have q1 : w'.row wr.heap.size = some (.cells #[.string x.1, .string x.2] 71) := (World.row_grow HG'.out (by simp; omega) (fun h => by have := (hvo.lt _ h.symm).2; omega)).trans (by simp [go_sem])
                have zq := row_sz' q1
                have hgb := hg'
                have sgb := hgb.below.size
                clear HO' HR' HG' HA' hg'
                generalize w' = wb at *
                by_cases hx : x.1 = n
                · have HT2 := Lib.hid (show (true, ll ++ [(n, vv)]) = (e.at'.take (i + 1)).foldl (rstep n vv) (false, []) by rw [← HTK.out]; unfold rstep; simp [hx, hls, lessS_irr])
                  have hxb : (x.1.toList == n.toList) = true := by rw [hx]; simp
                  have HVO := Lib.hid ho1
                  clear hvo hx HTK hls ho1
                  go_wp2_with fail
                  go_roundg (e.at'.length - (i + 1))
                  case measure => omega
                  case rel => exact ⟨i + 1, ll ++ [(n, vv)], true, Lib.hid ⟨by omega, by omega⟩, HT2, rfl, by go_num, (by repeat (with_reducible first | assumption | exact grA | apply grB | apply grC | apply grD | refine grE ?_ (by omega) _ | refine grF ?_ (by omega) _ _)), Lib.hid (HVO.out.grows (by repeat (with_reducible first | assumption | exact grA | apply grB | apply grC | apply grD | refine grE ?_ (by omega) _ | refine grF ?_ (by omega) _ _)))⟩
                · have HT2 := Lib.hid (show (true, ll ++ [(n, vv)] ++ [x]) = (e.at'.take (i + 1)).foldl (rstep n vv) (false, []) by rw [← HTK.out]; unfold rstep; simp [hx, hls])
                  have hxb : (x.1.toList == n.toList) = false := by
                    have hxn : ¬ (x.1.toList = n.toList) := fun h => hx (by
                      obtain ⟨⟨a⟩, v⟩ := x
                      obtain ⟨b⟩ := n
                      have h' : a.toList = b.toList := by simpa [ByteArray.toList_eq] using h
                      rw [Array.toList_inj.1 h'])
                    simpa using hxn
                  clear hx HTK hls
                  have hl2 : (ll ++ [(n, vv)]).length ≤ 33 := by simp; omega
                  generalize ll ++ [(n, vv)] = lm at *
                  go_wp2_with (at_builtin; refine wpList_app w (w.heap.size) rfl (.tmp 59) (.tmp 61) _ rfl 71 (.agg #[.string ByteArray.empty, .string ByteArray.empty]) 2 32 Tryz.underlying47 (by kernel_rfl) rfl (by omega) (by omega) _ lm.length _ rfl (ho1.grows (by repeat (with_reducible first | assumption | exact grA | apply grB | apply grC | apply grD | refine grE ?_ (by omega) _ | refine grF ?_ (by omega) _ _))) _ 1 _ [.string x.1, .string x.2] rfl rfl (cells_of_row (e := 71) (fr := (0, 0)) (by simp [go_sem])) (by simp [Value.oneCell']) (by omega) (by repeat (with_reducible first | assumption | exact grA | apply grB | apply grC | apply grD | refine grE ?_ (by omega) _ | refine grF ?_ (by omega) _ _)) (by omega) (by simp <;> omega) ?_; intro v' w' hg' HO' HR' HG' HA')
                  have HN := Lib.hid HO'.out
                  rw [show atC lm ++ [.string x.1, .string x.2] = atC (lm ++ [x]) by rw [atC_app]; rfl, show lm.length + 1 = (lm ++ [x]).length by simp] at HN
                  clear HO' HR' HG' HA'
                  go_roundg (e.at'.length - (i + 1))
                  case measure => omega
                  case rel => exact ⟨i + 1, lm ++ [x], true, Lib.hid ⟨by omega, by omega⟩, HT2, rfl, by go_num, hg', HN⟩
          · have i1 : ¬ (i : Int) < (e.at'.length : Int) := by omega
            obtain rfl : i = e.at'.length := by omega
            have HLE := Lib.hid (show (pt, ll) = e.at'.foldl (rstep n vv) (false, []) by rw [HLL.out, List.take_length])
            have hlen : ll.length ≤ 32 := by
              have h1 := rfold_len n vv e.at' [] false
              rw [← HLE.out] at h1
              simp only [List.length_nil] at h1
              omega
            have hvo := HV.out
            obtain ⟨a6, c6, rfl⟩ := own_slice hvo
            clear HLL hx1 zx1 c2 k2 z2
            have htg := HR.out.qlt t HR.out.qt
            have hgg := HR.out.qlt g hgq.1
            have s03 := hgj.below.size
            cases pt with
            | true =>
              go_upto_region 21 with fail
              have hgw := hgj
              have hx3 := (HR.out.grows hgw).head
              have zx3 := row_sz' hx3
              have k3 := K1.out.grows hgw
              have z3 := lt_sz k3.lt
              have c3 := k3.cell (j := 4) rfl
              rw [World.cell?_row] at c3
              have hf4 : frozenR (k * 11 + 4) (wr.row g) = false := by
                obtain ⟨cur, e', q1, q2⟩ := HS.out
                rw [(hgw.row_eq hgg).trans q1]; simp [frozenR]
              have HP2 := Lib.hid (show ll = putA e.at' n vv by
                have h1 := HPU.out
                rw [← HLE.out] at h1
                rw [← h1]; rfl)
              have HOW := Lib.hid hvo
              by_cases hc : 16 < ll.length
              · have hci : (16 : Int) < ((ll.length : Nat) : Int) := by omega
                have HC := Lib.hid hc
                clear hc hvo
                go_wp2_with fail
                go_ret
                have ha := HANS.out
                rw [← HP2.out, if_pos HC.out] at ha
                rw [ha]
                exact ⟨rfl, REdt.no HR.out hgw⟩
              · have hci : ¬ (16 : Int) < ((ll.length : Nat) : Int) := by omega
                have HC := Lib.hid hc
                clear hc hvo
                go_wp2_with fail
                go_ret
                have ha := HANS.out
                rw [← HP2.out, if_neg HC.out] at ha
                rw [ha]
                refine ⟨rfl, REdt.one (w2 := wr) HR.out hgw HGD.out.wf.up hke (fun e => { e with at' := putA e.at' n vv }) (j := 4) (vs := [.slice a6 ll.length c6]) (by simp) (fun cs hx => ?_) ?_⟩
                · have h2 := HOW.out
                  rw [HP2.out] at h2 ⊢
                  exact ElQ.attrs hx (HR.out.qlt t HR.out.qt) (HR.out.qlt g hgq.1) h2
                · have h5 : (putA e.at' n vv).length ≤ 16 := by rw [← HP2.out]; exact Nat.le_of_not_lt HC.out
                  refine ⟨hew.1, hew.2.1, hew.2.2.1, hew.2.2.2.1, fun x hx => ?_, hew.2.2.2.2.2.1, h5, hew.2.2.2.2.2.2.2⟩
                  rcases putA_mem hx with rfl | hx
                  · exact ⟨hn, hvv⟩
                  · exact hew.2.2.2.2.1 x hx
            | false =>
              go_upto_region 21 with (at_builtin; refine wpList_app w (w.heap.size) rfl (.tmp 66) (.tmp 70) _ rfl 71 (.agg #[.string ByteArray.empty, .string ByteArray.empty]) 2 32 Tryz.underlying47 (by kernel_rfl) rfl (by omega) (by omega) _ ll.length _ rfl (hvo.grows (by repeat (with_reducible first | assumption | exact grA | apply grB | apply grC | apply grD | refine grE ?_ (by omega) _ | refine grF ?_ (by omega) _ _))) _ 1 _ [.string n, .string vv] rfl rfl (cells_of_row (e := 71) (fr := (0, 0)) (by simp [go_sem])) (by simp [Value.oneCell']) (by omega) (by repeat (with_reducible first | assumption | exact grA | apply grB | apply grC | apply grD | refine grE ?_ (by omega) _ | refine grF ?_ (by omega) _ _)) (by omega) (by simp <;> omega) ?_; intro v' w' hg' HO' HR' HG' HA')
              have ho1 := HO'.out
              rw [show atC ll ++ [.string n, .string vv] = atC (ll ++ [(n, vv)]) by rw [atC_app]; rfl, show ll.length + 1 = (ll ++ [(n, vv)]).length by simp] at ho1
              obtain ⟨a7, c7, rfl⟩ := own_slice ho1
              have hgw := hg'
              have HL2 := Lib.hid (show ll ++ [(n, vv)] = rend n vv (false, ll) by rfl)
              clear HO' HR' HG' HA' hg' hvo HV
              generalize w' = wb at *
              generalize ll ++ [(n, vv)] = lm at *
              have hx3 := (HR.out.grows hgw).head
              have zx3 := row_sz' hx3
              have k3 := K1.out.grows hgw
              have z3 := lt_sz k3.lt
              have c3 := k3.cell (j := 4) rfl
              rw [World.cell?_row] at c3
              have hf4 : frozenR (k * 11 + 4) (wb.row g) = false := by
                obtain ⟨cur, e', q1, q2⟩ := HS.out
                rw [(hgw.row_eq hgg).trans q1]; simp [frozenR]
              have HP2 := Lib.hid (show lm = putA e.at' n vv by
                have h1 := HPU.out
                rw [← HLE.out] at h1
                rw [← h1]; exact HL2.out)
              have HOW := Lib.hid ho1
              by_cases hc : 16 < lm.length
              · have hci : (16 : Int) < ((lm.length : Nat) : Int) := by omega
                have HC := Lib.hid hc
                clear hc ho1
                go_wp2_with fail
                go_ret
                have ha := HANS.out
                rw [← HP2.out, if_pos HC.out] at ha
                rw [ha]
                exact ⟨rfl, REdt.no HR.out hgw⟩
              · have hci : ¬ (16 : Int) < ((lm.length : Nat) : Int) := by omega
                have HC := Lib.hid hc
                clear hc ho1
                go_wp2_with fail
                go_ret
                have ha := HANS.out
                rw [← HP2.out, if_neg HC.out] at ha
                rw [ha]
                refine ⟨rfl, REdt.one (w2 := wb) HR.out hgw HGD.out.wf.up hke (fun e => { e with at' := putA e.at' n vv }) (j := 4) (vs := [.slice a7 lm.length c7]) (by simp) (fun cs hx => ?_) ?_⟩
                · have h2 := HOW.out
                  rw [HP2.out] at h2 ⊢
                  exact ElQ.attrs hx (HR.out.qlt t HR.out.qt) (HR.out.qlt g hgq.1) h2
                · have h5 : (putA e.at' n vv).length ≤ 16 := by rw [← HP2.out]; exact Nat.le_of_not_lt HC.out
                  refine ⟨hew.1, hew.2.1, hew.2.2.1, hew.2.2.2.1, fun x hx => ?_, hew.2.2.2.2.2.1, h5, hew.2.2.2.2.2.2.2⟩
                  rcases putA_mem hx with rfl | hx
                  · exact ⟨hn, hvv⟩
                  · exact hew.2.2.2.2.1 x hx
end Go.Proofs.YtdbddnkjiehaiaaGreat
