/- Texts of the walk, one after the other; what each proves stands ahead of it. -/
import Derived.Laws.EntriesVeiled
import Derived.Test.YthcaphoejplecaaGreatDoorTk4
import Derived.Test.YthcaphoejplecaaGreatDoorVb3
set_option linter.unusedSimpArgs false
set_option linter.unusedVariables false
/- MEMORY: a map from texts to numbers; the state of vars.Uses. No condition. -/
namespace Go.Proofs.YthcaphoejplecaaGreatDoor
open Go.Maps Go.RowKit Go.Sort
def nilI : DataW Value := .held (.int .i64 0)
/-- at block b stands a map from texts to numbers: f -/
structure MpI (w : World) (b n : Nat) (f : List UInt8 → Option Value) (D : DataW Value) : Prop where
  own : w.ownsMap Tryz.prog 9 heldV b n D
  at' : ∀ s, D.atKey (.string s) nilI = .held ((f s).getD (.int .i64 0))
  has : ∀ s, Maps.has D (.string s) = (f s).isSome
theorem zero_int (w : World) : (zeroValue 3).run Tryz.prog w = .ok (.int .i64 0) w := Tryz.zeroValue3 w
theorem MpI.look {w : World} {b n : Nat} {f : List UInt8 → Option Value} {D : DataW Value} (h : MpI w b n f D) (s : ByteArray) (hs : s.size ≤ maxLen) : (Instr.lookup 38 (.map (some b)) (.string s) false).run Tryz.prog w = .ok ((f s.data.toList).getD (.int .i64 0)) w := by
  obtain ⟨v, ps, hrun, hv⟩ := h.own.lookup (string_keyed Tryz.underlying9) Tryz.underlying38 (zero_int w) (zd := nilI) (zp := []) rfl (WideMaps.keyOf_string_mk Tryz.underlying9 hs)
  rw [h.at'] at hv
  unfold heldV at hv
  simp only [Option.some.injEq, Prod.mk.injEq, DataW.held.injEq] at hv
  rw [hrun, hv.1]
theorem MpI.row {w W : World} {b n : Nat} {f : List UInt8 → Option Value} {D : DataW Value} (h : MpI w b n f D) (hr : W.row b = w.row b) : MpI W b n f D := ⟨ownsMap_rowV h.own hr, h.at', h.has⟩
theorem MpI.grows {w W : World} {b n : Nat} {f : List UInt8 → Option Value} {D : DataW Value} (h : MpI w b n f D) (hg : w.grows W) : MpI W b n f D := h.row (hg.row_eq h.own.lt)
theorem MpI.made (w : World) : MpI (w.alloc (Obj.map #[] 0)) w.heap.size 0 (fun _ => none) (.map []) := ⟨World.ownsMap_made w _ _ _, fun _ => rfl, fun _ => rfl⟩
theorem MpI.put {w W : World} {b n : Nat} {f : List UInt8 → Option Value} {D : DataW Value} (h : MpI w b n f D) {s : List UInt8} {v : Value} (ho : W.ownsMap Tryz.prog 9 heldV b (n + 1) (D.put (.string s) (.held v))) : MpI W b (n + 1) (fun x => if x = s then some v else f x) (D.put (.string s) (.held v)) := by
  refine ⟨ho, fun x => ?_, fun x => ?_⟩
  · by_cases hx : x = s
    · subst hx
      rw [atKey_put_same (h.own.tidy (string_keyed Tryz.underlying9)).isMap (isKey_sV _), if_pos rfl]; rfl
    · rw [atKey_put_other (fun y => hx (by injection y)), h.at', if_neg hx]
  · by_cases hx : x = s
    · subst hx
      rw [has_put_same (h.own.tidy (string_keyed Tryz.underlying9)).isMap (isKey_sV _), if_pos rfl]; rfl
    · rw [has_put_other (fun y => hx (by injection y)), h.has, if_neg hx]
/-- names that were met, and their row: boxes at bm, bo, bw; the map at b -/
structure UsS (W : World) (B bm bo bw b : Nat) (out : List ByteArray) : Prop where
  sz : B ≤ W.heap.size
  rm : W.row bm = some (.cells #[.map (some b)] 38)
  rw' : ∃ ty, W.row bw = some (.cells #[.func (.func 32) #[] #[.pointer (some ⟨bm, 0, none⟩), .pointer (some ⟨bo, 0, none⟩), .pointer (some ⟨bw, 0, none⟩)]] ty)
  ro : ∃ v, W.row bo = some (.cells #[v] 31) ∧ NmO W B v out
  mp : ∃ (n : Nat) (f : List UInt8 → Option Value) (D : DataW Value), MpI W b n f D ∧ n ≤ out.length ∧ ∀ nm : ByteArray, f nm.data.toList = if out.any (fun s => decide (s = nm)) = true then some (.int .i64 1) else none
end Go.Proofs.YthcaphoejplecaaGreatDoor

/- WALK over vars: the closure of Uses. No condition but bounds. -/
namespace Go
open Go.RowKit
theorem addU_eq (out : List ByteArray) (v : Vt) : addU out v = match (if useT v = true then namedT v else none) with | none => out | some (nm, _) => addN out nm := by
  unfold addU
  by_cases h : useT v = true
  · rw [if_pos h, if_pos h]; cases namedT v <;> rfl
  · rw [if_neg h, if_neg h]
end Go
namespace Go.Proofs.YthcaphoejplecaaGreatDoor
open Go.Maps Go.RowKit Go.Sort
theorem UsS.grows {W W' : World} {B bm bo bw b : Nat} {out : List ByteArray} (h : UsS W B bm bo bw b out) (hg : W.grows W') : UsS W' B bm bo bw b out := by
  obtain ⟨ty, hw⟩ := h.rw'
  obtain ⟨v, ho, hn⟩ := h.ro
  obtain ⟨n, f, D, h1, h2, h3⟩ := h.mp
  exact ⟨Nat.le_trans h.sz hg.below.size, (hg.row_eq (row_sz' h.rm).1).trans h.rm, ⟨ty, (hg.row_eq (row_sz' hw).1).trans hw⟩, ⟨v, (hg.row_eq (row_sz' ho).1).trans ho, hn.grows hg⟩, ⟨n, f, D, h1.grows hg, h2, h3⟩⟩
/-- where the boxes stand -/
structure UsB (w1 : World) (B bm bo bw b : Nat) : Prop where
  qm : w1.heap.size ≤ bm ∧ bm < B
  qo : w1.heap.size ≤ bo ∧ bo < B
  qw : w1.heap.size ≤ bw ∧ bw < B
  qb : w1.heap.size ≤ b ∧ b < B
  mo : bm ≠ bo
  mw : bm ≠ bw
  mb : bm ≠ b
  ow : bo ≠ bw
  ob : bo ≠ b
  wb : bw ≠ b
abbrev ClC (w1 : World) (B bm bo bw b : Nat) (N : Nat) : Prop := ∀ (l : List Vt) (S : Nat → Prop) (v : Value), VsAt w1 S v l → nodesL l ≤ N → nodesL l ≤ 4194304 → ∀ (W : World) (out : List ByteArray), w1.grows W → UsS W B bm bo bw b out → out.length + nodesL l ≤ 8388608 →
  Calls Tryz.prog 32 #[v, .pointer (some ⟨bm, 0, none⟩), .pointer (some ⟨bo, 0, none⟩), .pointer (some ⟨bw, 0, none⟩)] W (fun e w' => e = .returned (.tuple #[]) ∧ w1.grows w' ∧ UsS w' B bm bo bw b (usesL out l))
set_option maxRecDepth 100000 in
set_option maxHeartbeats 8000000 in
theorem cl_step {w1 : World} {B bm bo bw b : Nat} (hB : UsB w1 B bm bo bw b) (N : Nat) (IH : ∀ M, M < N → ClC w1 B bm bo bw b M) : ClC w1 B bm bo bw b N := by
  intro l S v hv hN hlim W out hgW hU hlen
  obtain ⟨aL, cL, rfl, hcap, hcap2⟩ := SlAt.len hv
  have HV := Lib.hid hv
  have HIH := Lib.hid IH
  have HBX := Lib.hid hB
  have HU0 := Lib.hid hU
  clear IH hv hU hB
  obtain ⟨res, hres⟩ : ∃ res, usesL out l = res := ⟨_, rfl⟩
  have HRES := Lib.hid hres
  rw [hres]
  clear hres
  go_enter Tryz.func32, Tryz.ntmps32
  go_wp2_with fail
  go_loopg [12] l.length (fun gn v12 wj => ∃ (i : Nat) (o : List ByteArray), Hid (gn + i = l.length ∧ i ≤ l.length) ∧ v12 = .int .i64 i ∧ Hid (w1.grows wj ∧ UsS wj B bm bo bw b o ∧ o.length + nodesL (l.drop i) ≤ 8388608 ∧ usesL o (l.drop i) = res))
  case atStart => exact ⟨0, out, Lib.hid ⟨by simp, Nat.zero_le _⟩, by go_num, Lib.hid ⟨hgW.trans (by repeat (with_reducible first | assumption | exact grA | apply grB | apply grC | apply grD | refine grE ?_ (by omega) _ | refine grF ?_ (by omega) _ _)), HU0.out.grows (by repeat (with_reducible first | assumption | exact grA | apply grB | apply grC | apply grD | refine grE ?_ (by omega) _ | refine grF ?_ (by omega) _ _)), hlen, HRES.out⟩⟩
  case round =>
    obtain ⟨i, o, HQ, rfl, HS⟩ := hrel
    obtain ⟨j1, j2⟩ := HQ.out
    obtain ⟨hg1, hus, hlen2, hres2⟩ := HS.out
    clear HS
    by_cases hlt : i < l.length
    · have iI : (i : Int) < (l.length : Int) := by omega
      have hgt : l[i]? = some l[i] := List.getElem?_eq_getElem hlt
      have hmem := List.getElem_mem hlt
      have hdrop : l.drop i = l[i] :: l.drop (i + 1) := List.drop_eq_getElem_cons hlt
      obtain ⟨g, off, cs, rfl, -, -, k0, hv⟩ := HV.out.elt hgt
      have hnod := nodesL_mem hmem
      rw [hdrop] at hlen2 hres2
      generalize l[i] = x at *
      obtain ⟨t, ks⟩ := x
      rw [usesL_cons, addU_eq] at hres2
      simp only [nodesL, Vt.nodes] at hlen2 hnod
      obtain ⟨twf, vk, rfl, hks⟩ := VOk_open hv
      obtain ⟨aK, cK, rfl, -, -⟩ := hks.len
      have k1 := k0.grows hg1
      have HRE := Lib.hid hres2
      have HUS := Lib.hid hus
      have HNM := Lib.hid (fun (W : World) (hg : w1.grows W) => named_any (w := W) twf (VsAt.grows hks hg) (by omega))
      have HKID : Hid (∀ (W : World) (o2 : List ByteArray), w1.grows W → UsS W B bm bo bw b o2 → o2.length ≤ o.length + 1 → Calls Tryz.prog 32 #[.slice aK ks.length cK, .pointer (some ⟨bm, 0, none⟩), .pointer (some ⟨bo, 0, none⟩), .pointer (some ⟨bw, 0, none⟩)] W (fun e w' => e = .returned (.tuple #[]) ∧ w1.grows w' ∧ UsS w' B bm bo bw b (usesL o2 ks))) := Lib.hid fun W o2 hg hu hl2 => HIH.out (nodesL ks) (by omega) ks _ _ hks (Nat.le_refl _) (by omega) W o2 hg hu (by omega)
      obtain ⟨kt, s, n1, d, q1, q2⟩ := t
      have z3 := lt_sz k1.lt
      obtain ⟨u1, u2⟩ := k1
      replace u1 : segOk (off + i * 7) 7 (wr.row g) = true := u1
      replace u2 : segV (off + i * 7) 7 (wr.row g) = .agg #[.int .i64 kt, .string s, .int .i64 n1, .int .i64 d, .bool q1, .bool q2, .slice aK ks.length cK] := u2
      have ii0 : (0 : Int) ≤ (i : Int) := by omega
      have iw : IntKind.i64.wrap ((i : Int) + 1) = (i : Int) + 1 := by rw [IntKind.wrap_i64]; omega
      clear hgt hmem hdrop hv hks twf hnod hres2 k0
      go_upto_region 3 with fail
      refine abs_rows (w := wr) (G := fun W => Code.wp _ _ _ _ W) (by repeat (with_reducible first | assumption | exact grA | apply grB | apply grC | apply grD | refine grE ?_ (by omega) _ | refine grF ?_ (by omega) _ _)) [(wr.heap.size, .cells #[.int .i64 kt, .string s, .int .i64 n1, .int .i64 d, .bool q1, .bool q2, .slice aK ks.length cK] 70)] (by simp [go_sem, *]) ?_
      intro w2 gw2 hl
      simp only [List.forall_mem_cons, List.not_mem_nil, false_implies, implies_true, and_true] at hl
      have x9 := hl
      have zx9 := row_sz' x9
      have hus2 := HUS.out.grows gw2
      obtain ⟨tyw, rwr⟩ := hus2.rw'
      have rmr := hus2.rm
      obtain ⟨vo, ror0, hno0⟩ := HUS.out.ro
      obtain ⟨ao, co, rfl⟩ := own_slice hno0
      have ror := (gw2.row_eq (row_sz' ror0).1).trans ror0
      have hno : NmO w2 B (.slice ao o.length co) o := World.ownsRow.grows hno0 gw2
      obtain ⟨nn, f, D, hmp, hnn, hf⟩ := hus2.mp
      have zrw := row_sz' rwr
      have zrm := row_sz' rmr
      have zro := row_sz' ror
      generalize (if useT (.mk ⟨kt, s, n1, d, q1, q2⟩ ks) = true then namedT (.mk ⟨kt, s, n1, d, q1, q2⟩ ks) else none) = nmd at *
      cases nmd with
      | none =>
        go_wp2_with (first | (go_at_call 33; go_loud ((with_reducible refine (HNM.out _ (hg1.trans (gw2.trans (by repeat (with_reducible first | assumption | exact grA | apply grB | apply grC | apply grD | refine grE ?_ (by omega) _ | refine grF ?_ (by omega) _ _))))).mono ?_); rintro r w5 ⟨hg5, rfl⟩; replace hg5 : w2.grows w5 := World.grows.trans (by repeat (with_reducible first | assumption | exact grA | apply grB | apply grC | apply grD | refine grE ?_ (by omega) _ | refine grF ?_ (by omega) _ _)) hg5; have y9 := (hg5.row_eq zx9.1).trans x9; have zy9 := row_sz' y9; have yw := (hg5.row_eq zrw.1).trans rwr; have zyw := row_sz' yw)) | (go_at_call 32; go_loud ((with_reducible refine (HKID.out _ o (hg1.trans (gw2.trans (hg5.trans (by repeat (with_reducible first | assumption | exact grA | apply grB | apply grC | apply grD | refine grE ?_ (by omega) _ | refine grF ?_ (by omega) _ _))))) (HUS.out.grows (gw2.trans (hg5.trans (by repeat (with_reducible first | assumption | exact grA | apply grB | apply grC | apply grD | refine grE ?_ (by omega) _ | refine grF ?_ (by omega) _ _))))) (Nat.le_succ _)).mono ?_); rintro r w7 ⟨rfl, p1, p2⟩)))
        try simp only at HRE
        go_roundg (l.length - (i + 1))
        case measure => omega
        case rel => exact ⟨i + 1, usesL o ks, Lib.hid ⟨by omega, by omega⟩, by go_num, Lib.hid ⟨p1.trans (by repeat (with_reducible first | assumption | exact grA | apply grB | apply grC | apply grD | refine grE ?_ (by omega) _ | refine grF ?_ (by omega) _ _)), p2.grows (by repeat (with_reducible first | assumption | exact grA | apply grB | apply grC | apply grD | refine grE ?_ (by omega) _ | refine grF ?_ (by omega) _ _)), by have := uses_len _ ks o (Nat.le_refl _); omega, HRE.out⟩⟩
      | some y =>
        obtain ⟨nm, rest⟩ := y
        try simp only at HRE
        go_upto_region 4 with (go_at_call 33; go_loud ((with_reducible refine (HNM.out _ (hg1.trans (gw2.trans (by repeat (with_reducible first | assumption | exact grA | apply grB | apply grC | apply grD | refine grE ?_ (by omega) _ | refine grF ?_ (by omega) _ _))))).mono ?_); rintro r w5 ⟨hg5, vr, rfl, -, hnm⟩; replace hg5 : w2.grows w5 := World.grows.trans (by repeat (with_reducible first | assumption | exact grA | apply grB | apply grC | apply grD | refine grE ?_ (by omega) _ | refine grF ?_ (by omega) _ _)) hg5; have y9 := (hg5.row_eq zx9.1).trans x9; have zy9 := row_sz' y9; have yw := (hg5.row_eq zrw.1).trans rwr; have zyw := row_sz' yw; have ym := (hg5.row_eq zrm.1).trans rmr; have zym := row_sz' ym; have yo := (hg5.row_eq zro.1).trans ror; have zyo := row_sz' yo))
        have hmp5 := hmp.grows hg5
        have hlk := hmp5.look nm hnm
        rw [hf nm] at hlk
        have hadd : addN o nm = if o.any (fun s => decide (s = nm)) = true then o else o ++ [nm] := rfl
        rw [hadd] at HRE
        cases hany : o.any (fun s => decide (s = nm)) with
        | true =>
          rw [hany] at hlk HRE
          simp only [if_true, Option.getD_some] at hlk HRE
          go_wp2_with (go_at_call 32; go_loud ((with_reducible refine (HKID.out _ o (hg1.trans (gw2.trans (hg5.trans (by repeat (with_reducible first | assumption | exact grA | apply grB | apply grC | apply grD | refine grE ?_ (by omega) _ | refine grF ?_ (by omega) _ _))))) (HUS.out.grows (gw2.trans (hg5.trans (by repeat (with_reducible first | assumption | exact grA | apply grB | apply grC | apply grD | refine grE ?_ (by omega) _ | refine grF ?_ (by omega) _ _))))) (Nat.le_succ _)).mono ?_); rintro r w7 ⟨rfl, p1, p2⟩))
          go_roundg (l.length - (i + 1))
          case measure => omega
          case rel => exact ⟨i + 1, usesL o ks, Lib.hid ⟨by omega, by omega⟩, by go_num, Lib.hid ⟨p1.trans (by repeat (with_reducible first | assumption | exact grA | apply grB | apply grC | apply grD | refine grE ?_ (by omega) _ | refine grF ?_ (by omega) _ _)), p2.grows (by repeat (with_reducible first | assumption | exact grA | apply grB | apply grC | apply grD | refine grE ?_ (by omega) _ | refine grF ?_ (by omega) _ _)), by have := uses_len _ ks o (Nat.le_refl _); omega, HRE.out⟩⟩
        | false =>
          rw [hany] at hlk HRE
          simp only [Bool.false_eq_true, if_false, Option.getD_none] at hlk HRE
          obtain ⟨⟨bm1, bm2⟩, ⟨bo1, bo2⟩, ⟨bw1, bw2⟩, ⟨bb1, bb2⟩, nmo, nmw, nmb, now, nob, nwb⟩ := HBX.out
          have hsz2 := hus2.sz
          have hs5 := hg5.below.size
          have hno5 : NmO w5 B (.slice ao o.length co) o := World.ownsRow.grows hno hg5
          go_upto_region 6 with (at_mapUpdate; go_loud (refine wpList_mapUpdate_own _ rfl (.tmp 29) (.tmp 30) (.tmp 32) 38 rfl 9 3 (string_keyed Tryz.underlying9) Tryz.underlying38 heldV b nn D rfl (hmp5.grows (by repeat (with_reducible first | assumption | exact grA | apply grB | apply grC | apply grD | refine grE ?_ (by omega) _ | refine grF ?_ (by omega) _ _))).own (by simp only [maxLen]; omega) (.string nm) (.int .i64 1) (.string nm.data.toList) rfl rfl (WideMaps.keyOf_string_mk Tryz.underlying9 hnm) (.held (.int .i64 1)) [] rfl ?_); intro w6 hown6 hgr6)
          have hgn : w1.grows w5 := hg1.trans (gw2.trans hg5)
          have hg6 : w1.grows w6 := hgn.grown hgr6 (fun k hk => by injection hk with hk; omega)
          have r6 : ∀ g, g < w5.heap.size → g ≠ b → w6.row g = w5.row g := fun g h1 h2 => row_growV hgr6 h1 (fun e => h2 (by injection e))
          have hs6 := hgr6.size
          have hno6 : NmO w6 B (.slice ao o.length co) o := ownsRow_rowV hno5 (fun g hg => r6 g (hno5.lt g hg).2 (fun e => by have := (hno5.lt g hg).1; omega))
          have hszr := HUS.out.sz
          have s9 := (r6 _ zy9.1 (by omega)).trans y9
          have so := (r6 _ zyo.1 nob).trans yo
          have sw := (r6 _ zyw.1 (fun e => nwb e)).trans yw
          have sm := (r6 _ zym.1 nmb).trans ym
          have zs9 := row_sz' s9
          have zso := row_sz' so
          have zsw := row_sz' sw
          have zsm := row_sz' sm
          have hmp6 := hmp5.put hown6
          have hblt := hmp6.own.lt
          have hB6 : B ≤ w6.heap.size := by omega
          have hol : o.length ≤ 8388608 := by omega
          have mk : ∀ q, q < B → some q ≠ (Value.slice ao o.length co).ownBlock := fun q hq e => by have := (hno6.lt q e.symm).1; omega
          have m9 : some wr.heap.size ≠ (Value.slice ao o.length co).ownBlock := fun e => by have h1 := (hno0.lt _ e.symm).2; omega
          go_upto_region 7 with ((at_builtin; refine wpList_app w1 (B) rfl (.tmp 33) (.tmp 35) _ rfl 9 (.string ByteArray.empty) 1 16 Tryz.underlying31 (by kernel_rfl) rfl (by omega) (by omega) _ o.length _ rfl ((World.ownsRow.grows hno6 (by repeat (with_reducible first | assumption | exact grA | apply grB | apply grC | apply grD | refine grE ?_ (by omega) _ | refine grF ?_ (by omega) _ _)))) _ 1 _ [.string nm] rfl rfl (cells_of_row (e := 9) (fr := (0, 0)) (by simp [go_sem])) (by simp [Value.oneCell']) (by omega) (by repeat (with_reducible first | assumption | exact grA | apply grB | apply grC | apply grD | refine grE ?_ (by omega) _ | refine grF ?_ (by omega) _ _)) (by omega) (by first | omega | (simp <;> omega)) ?_; intro v' w' hg' HO' HR' HG' HA'); (obtain ⟨a9, c9, rfl⟩ := own_slice HO'.out); have t9 := rowG s9 HG'.out (by repeat (with_reducible first | assumption | exact grA | apply grB | apply grC | apply grD | refine grE ?_ (by omega) _ | refine grF ?_ (by omega) _ _)) m9; have tw := rowG sw HG'.out (by repeat (with_reducible first | assumption | exact grA | apply grB | apply grC | apply grD | refine grE ?_ (by omega) _ | refine grF ?_ (by omega) _ _)) (mk _ bw2); have tm := rowG sm HG'.out (by repeat (with_reducible first | assumption | exact grA | apply grB | apply grC | apply grD | refine grE ?_ (by omega) _ | refine grF ?_ (by omega) _ _)) (mk _ bm2); have tb := (row_growV HG'.out (Nat.lt_of_lt_of_le hblt (World.grows.below (show w6.grows _ from (by repeat (with_reducible first | assumption | exact grA | apply grB | apply grC | apply grD | refine grE ?_ (by omega) _ | refine grF ?_ (by omega) _ _)))).size) (mk _ bb2)).trans ((show w6.grows _ from (by repeat (with_reducible first | assumption | exact grA | apply grB | apply grC | apply grD | refine grE ?_ (by omega) _ | refine grF ?_ (by omega) _ _))).row_eq hblt); have tq := rowG so HG'.out (by repeat (with_reducible first | assumption | exact grA | apply grB | apply grC | apply grD | refine grE ?_ (by omega) _ | refine grF ?_ (by omega) _ _)) (mk _ bo2); have ztq := row_sz' tq; have hs9 := HG'.out.size)
          have hszw := World.setCell_size' w' ⟨bo, 0, none⟩ (Value.slice a9 (o.length + 1) c9)
          have hB9 : B ≤ w'.heap.size := by
            have h1 := (World.grows.below (show w6.grows (w6.alloc _) from World.grows.alloc World.grows.refl (.cells #[.string nm] 9))).size
            omega
          have HU9 : Hid (UsS (w'.setCell ⟨bo, 0, none⟩ (.slice a9 (o.length + 1) c9)) B bm bo bw b (o ++ [nm])) := by
            refine Lib.hid ⟨by omega, ?_, ⟨tyw, ?_⟩, ⟨.slice a9 (o.length + 1) c9, ?_, ?_⟩, ⟨nn + 1, _, _, hmp6.row ?_, by simp; omega, fun name => ?_⟩⟩
            · rw [World.row_setCell, if_neg nmo]; exact tm
            · rw [World.row_setCell, if_neg (fun e => now e.symm)]; exact tw
            · rw [World.row_setCell, if_pos rfl, tq]; rfl
            · have h9 : w'.ownsRow B 9 1 (.slice a9 (o.length + 1) c9) (o.length + 1) (o.map Value.string ++ [.string nm]) := HO'.out
              have h10 := ownsRow_rowV (W := w'.setCell ⟨bo, 0, none⟩ (.slice a9 (o.length + 1) c9)) h9 (fun q hq => by
                rw [World.row_setCell, if_neg (fun e => by have := (h9.lt q hq).1; omega)])
              simpa [NmO] using h10
            · rw [World.row_setCell, if_neg (fun e => nob e.symm)]; exact tb
            · show (if name.data.toList = nm.data.toList then some (Value.int .i64 1) else f name.data.toList) = _
              by_cases hnn2 : name = nm
              · subst hnn2; simp
              · have hne : name.data.toList ≠ nm.data.toList := fun e => hnn2 (by
                  obtain ⟨x⟩ := name; obtain ⟨y⟩ := nm
                  have : x = y := Array.toList_inj.1 e
                  rw [this])
                rw [if_neg hne, hf name, List.any_append]
                have hq : ([nm].any fun s => decide (s = name)) = false := by
                  simp; exact fun e => hnn2 e.symm
                rw [hq, Bool.or_false]
          have hg9 : w1.grows (w'.setCell ⟨bo, 0, none⟩ (.slice a9 (o.length + 1) c9)) := World.grows.setCell' hg' bo1 _ _
          have v9 := (show (w'.setCell ⟨bo, 0, none⟩ (.slice a9 (o.length + 1) c9)).row wr.heap.size = w'.row wr.heap.size by rw [World.row_setCell, if_neg (by omega)]).trans t9
          have vw := (show (w'.setCell ⟨bo, 0, none⟩ (.slice a9 (o.length + 1) c9)).row bw = w'.row bw by rw [World.row_setCell, if_neg (fun e => now e.symm)]).trans tw
          generalize w'.setCell ⟨bo, 0, none⟩ (.slice a9 (o.length + 1) c9) = w9 at *
          have zv9 := row_sz' v9
          have zvw := row_sz' vw
          have hle : (o ++ [nm]).length = o.length + 1 := by simp
          go_wp2_with (go_at_call 32; go_loud ((with_reducible refine (HKID.out _ (o ++ [nm]) (hg9.trans (by repeat (with_reducible first | assumption | exact grA | apply grB | apply grC | apply grD | refine grE ?_ (by omega) _ | refine grF ?_ (by omega) _ _))) (HU9.out.grows (by repeat (with_reducible first | assumption | exact grA | apply grB | apply grC | apply grD | refine grE ?_ (by omega) _ | refine grF ?_ (by omega) _ _))) (Nat.le_of_eq hle)).mono ?_); rintro r w7 ⟨rfl, p1, p2⟩))
          go_roundg (l.length - (i + 1))
          case measure => omega
          case rel => exact ⟨i + 1, usesL (o ++ [nm]) ks, Lib.hid ⟨by omega, by omega⟩, by go_num, Lib.hid ⟨p1.trans (by repeat (with_reducible first | assumption | exact grA | apply grB | apply grC | apply grD | refine grE ?_ (by omega) _ | refine grF ?_ (by omega) _ _)), p2.grows (by repeat (with_reducible first | assumption | exact grA | apply grB | apply grC | apply grD | refine grE ?_ (by omega) _ | refine grF ?_ (by omega) _ _)), by have := uses_len _ ks (o ++ [nm]) (Nat.le_refl _); omega, HRE.out⟩⟩
    · have iI : ¬ (i : Int) < (l.length : Int) := by omega
      obtain rfl : i = l.length := by omega
      rw [List.drop_length] at hres2
      simp only [usesL] at hres2
      subst hres2
      go_wp2_with fail
      refine bodyPost_end (results_none rfl _ _ _) rfl ⟨rfl, hg1.trans (by repeat (with_reducible first | assumption | exact grA | apply grB | apply grC | apply grD | refine grE ?_ (by omega) _ | refine grF ?_ (by omega) _ _)), hus.grows (by repeat (with_reducible first | assumption | exact grA | apply grB | apply grC | apply grD | refine grE ?_ (by omega) _ | refine grF ?_ (by omega) _ _))⟩
end Go.Proofs.YthcaphoejplecaaGreatDoor

/- WALK over vars: Uses. No condition but bounds. -/
namespace Go.Proofs.YthcaphoejplecaaGreatDoor
open Go.Maps Go.RowKit Go.Sort
theorem cl_any {w1 : World} {B bm bo bw b : Nat} (hB : UsB w1 B bm bo bw b) (N : Nat) : ClC w1 B bm bo bw b N := by
  induction N using Nat.strongRecOn with
  | _ N ih => exact cl_step hB N ih
set_option maxRecDepth 100000 in
theorem uses_start (W0 : World) (q : Nat) (hq : W0.heap.size = q) (ty : TypeId) : UsS (((((W0.alloc (.cells #[.slice none 0 0] 31)).alloc (.map #[] 0)).alloc (.cells #[.map (some (q + 1))] 38)).alloc (.cells #[.func (.func 32) #[] #[.pointer (some ⟨q + 1 + 1, 0, none⟩), .pointer (some ⟨q, 0, none⟩), .pointer (some ⟨q + 1 + 1 + 1, 0, none⟩)]] ty))) (q + 1 + 1 + 1 + 1) (q + 1 + 1) q (q + 1 + 1 + 1) (q + 1) [] := by
  subst hq
  refine ⟨?_, ?_, ⟨ty, ?_⟩, ⟨.slice none 0 0, ?_, by simpa [NmO] using World.ownsRow_nil _ _ _ _⟩, ⟨0, fun _ => none, .map [], ?_, Nat.le_refl _, fun _ => rfl⟩⟩
  · simp [go_sem]
  · simp [go_sem]
  · simp [go_sem]
  · simp [go_sem]
  · have h := MpI.made (W0.alloc (.cells #[.slice none 0 0] 31))
    have e : (W0.alloc (.cells #[.slice none 0 0] 31)).heap.size = W0.heap.size + 1 := by simp [go_sem]
    rw [e] at h
    exact (h.grows (World.grows.alloc World.grows.refl _)).grows (World.grows.alloc World.grows.refl _)
set_option maxRecDepth 100000 in
set_option maxHeartbeats 4000000 in
theorem vUses_any {w : World} {v : Value} {l : List Tk} (h : TksAt w v l) (hl : l.length ≤ 4194304) : Calls Tryz.prog 16 #[v] w (NamesPost w (usesT l)) := by
  have HV := Lib.hid (rValues_any h hl)
  have HN := Lib.hid (Nat.le_trans (parse_nodes l) hl)
  clear h
  have hmk := fun (W : World) => run_makeMap (P := Tryz.prog) 38 W
  go_enter Tryz.func16, Tryz.ntmps16
  go_upto_region 2 with (go_at_call 30; go_loud ((with_reducible refine HV.out.mono ?_); rintro r w1 ⟨v1, rfl, hg1, hv1⟩))
  have HM1 := Lib.hid (fun (W : World) (hg : w1.grows W) => rMay_any (VsAt.grows hv1 hg))
  cases hm : mayV 64 (parse l) with
  | false =>
    have HR := Lib.hid (show usesT l = [] by unfold usesT; rw [if_neg (by rw [hm]; decide)])
    rw [hm] at HM1
    clear hm hv1 hmk
    go_wp2_with ((go_at_call 31; (with_reducible refine (HM1.out _ (by repeat (with_reducible first | assumption | exact grA | apply grB | apply grC | apply grD | refine grE ?_ (by omega) _ | refine grF ?_ (by omega) _ _))).mono ?_); rintro e w1 ⟨rfl, x1, rfl⟩))
    go_ret
    rw [HR.out]
    exact ⟨_, rfl, hg1.trans (by repeat (with_reducible first | assumption | exact grA | apply grB | apply grC | apply grD | refine grE ?_ (by omega) _ | refine grF ?_ (by omega) _ _)), by simpa [NmO] using World.ownsRow_nil _ _ _ _⟩
  | true =>
    have HR := Lib.hid (show usesT l = usesL [] (parse l) by unfold usesT; rw [if_pos hm])
    rw [hm] at HM1
    clear hm
    go_upto_region 8 with ((go_at_call 31; (with_reducible refine (HM1.out _ (by repeat (with_reducible first | assumption | exact grA | apply grB | apply grC | apply grD | refine grE ?_ (by omega) _ | refine grF ?_ (by omega) _ _))).mono ?_); rintro e w1 ⟨rfl, x1, rfl⟩))
    have hgq : w1.grows (w1.plus x1) := (by repeat (with_reducible first | assumption | exact grA | apply grB | apply grC | apply grD | refine grE ?_ (by omega) _ | refine grF ?_ (by omega) _ _))
    have hsq : (w1.plus x1).heap.size = w1.heap.size + x1.bs.size := by simp [go_sem]
    generalize hq : w1.heap.size + x1.bs.size = q at *
    have hS := uses_start (w1.plus x1) q hsq 68
    have hle1 : w1.heap.size ≤ q := by omega
    have hgW : w1.grows ((((((w1.plus x1).alloc (.cells #[.slice none 0 0] 31)).alloc (.map #[] 0)).alloc (.cells #[.map (some (q + 1))] 38)).alloc (.cells #[.func (.func 32) #[] #[.pointer (some ⟨q + 1 + 1, 0, none⟩), .pointer (some ⟨q, 0, none⟩), .pointer (some ⟨q + 1 + 1 + 1, 0, none⟩)]] 68))) := (by repeat (with_reducible first | assumption | exact grA | apply grB | apply grC | apply grD | refine grE ?_ (by omega) _ | refine grF ?_ (by omega) _ _))
    generalize (((((w1.plus x1).alloc (.cells #[.slice none 0 0] 31)).alloc (.map #[] 0)).alloc (.cells #[.map (some (q + 1))] 38)).alloc (.cells #[.func (.func 32) #[] #[.pointer (some ⟨q + 1 + 1, 0, none⟩), .pointer (some ⟨q, 0, none⟩), .pointer (some ⟨q + 1 + 1 + 1, 0, none⟩)]] 68)) = w4 at *
    have HCL := Lib.hid (fun (W : World) (hg : w4.grows W) => cl_any (w1 := w1) (B := q + 1 + 1 + 1 + 1) (bm := q + 1 + 1) (bo := q) (bw := q + 1 + 1 + 1) (b := q + 1) ⟨by omega, by omega, by omega, by omega, by omega, by omega, by omega, by omega, by omega, by omega⟩ (nodesL (parse l)) (parse l) _ v1 hv1 (Nat.le_refl _) HN.out W [] (hgW.trans hg) (hS.grows hg) (by have := HN.out; simp only [List.length_nil]; omega))
    obtain ⟨tyw, rwr⟩ := hS.rw'
    have zrw := row_sz' rwr
    clear hmk
    go_upto_region 9 with (go_at_call 32; go_loud ((with_reducible refine (HCL.out _ (by repeat (with_reducible first | assumption | exact grA | apply grB | apply grC | apply grD | refine grE ?_ (by omega) _ | refine grF ?_ (by omega) _ _))).mono ?_); rintro r w7 ⟨rfl, p1, p2⟩))
    obtain ⟨vo, ro, hno⟩ := p2.ro
    have zro := row_sz' ro
    obtain ⟨ao, co, rfl⟩ := own_slice hno
    go_wp2_with fail
    go_ret
    rw [HR.out]
    have hsz7 := hg1.below.size
    exact ⟨_, rfl, hg1.trans (p1.trans (by repeat (with_reducible first | assumption | exact grA | apply grB | apply grC | apply grD | refine grE ?_ (by omega) _ | refine grF ?_ (by omega) _ _))), World.ownsRow.grows (own_lower (by omega) hno) (by repeat (with_reducible first | assumption | exact grA | apply grB | apply grC | apply grD | refine grE ?_ (by omega) _ | refine grF ?_ (by omega) _ _))⟩
end Go.Proofs.YthcaphoejplecaaGreatDoor

/- WALK over the law VarsFinds. No condition but bounds and the table of kinds. -/
namespace Go.Proofs.YthcaphoejplecaaGreatDoor
open Go.RowKit
end Go.Proofs.YthcaphoejplecaaGreatDoor
