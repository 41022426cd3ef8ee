/- MEMORY and WALK over vars: what is known of each name, in a map. No condition but the bound on how many there are. -/
import Derived.Test.YthcaphoejplecaaGreatDoorVaH
import Derived.Maps.Own
import Derived.Maps.OwnOps
import Derived.Maps.OwnSet
import Derived.StringKeys
import Derived.Sort.KeysCollected
import Derived.Carry
set_option linter.unusedSimpArgs false
set_option linter.unusedVariables false
namespace Go.Proofs.YthcaphoejplecaaGreatDoor
open Go.Maps Go.RowKit Go.Sort
/-- how a map's element is taken: as it is -/
def heldV (v : Value) : Option (DataW Value × List MemPlace) := some (.held v, [])
def nilV : DataW Value := .held (.slice none 0 0)
/-- at block b stands a map from texts to slices: f -/
structure MpS (w : World) (b n : Nat) (f : List UInt8 → Option Value) (D : DataW Value) : Prop where
  own : w.ownsMap Tryz.prog 9 heldV b n D
  at' : ∀ s, D.atKey (.string s) nilV = .held ((f s).getD (.slice none 0 0))
  has : ∀ s, Maps.has D (.string s) = (f s).isSome
theorem zero_toks (w : World) : (zeroValue 27).run Tryz.prog w = .ok (.slice none 0 0) w := Tryz.zeroValue27 w
theorem MpS.look {w : World} {b n : Nat} {f : List UInt8 → Option Value} {D : DataW Value} (h : MpS w b n f D) (s : ByteArray) (hs : s.size ≤ maxLen) : (Instr.lookup 36 (.map (some b)) (.string s) false).run Tryz.prog w = .ok ((f s.data.toList).getD (.slice none 0 0)) w := by
  obtain ⟨v, ps, hrun, hv⟩ := h.own.lookup (string_keyed Tryz.underlying9) Tryz.underlying36 (zero_toks w) (zd := nilV) (zp := []) rfl (WideMaps.keyOf_string_mk Tryz.underlying9 hs)
  rw [h.at'] at hv
  unfold heldV at hv
  simp only [Option.some.injEq, Prod.mk.injEq, DataW.held.injEq] at hv
  rw [hrun, hv.1]
theorem MpS.look_ok {w : World} {b n : Nat} {f : List UInt8 → Option Value} {D : DataW Value} (h : MpS w b n f D) (s : ByteArray) (hs : s.size ≤ maxLen) : (Instr.lookup 36 (.map (some b)) (.string s) true).run Tryz.prog w = .ok (.tuple #[(f s.data.toList).getD (.slice none 0 0), .bool (f s.data.toList).isSome]) w := by
  obtain ⟨v, ps, hrun, hv⟩ := h.own.look_ok (string_keyed Tryz.underlying9) Tryz.underlying36 (zero_toks w) (zd := nilV) (zp := []) rfl (WideMaps.keyOf_string_mk Tryz.underlying9 hs)
  rw [h.at'] at hv
  unfold heldV at hv
  simp only [Option.some.injEq, Prod.mk.injEq, DataW.held.injEq] at hv
  rw [hrun, hv.1, h.has]
theorem ownsMap_rowV {w W : World} {H : Type} {P : Program} {k : TypeId} {R : Value → Option (DataW H × List MemPlace)} {b n : Nat} {D : DataW H} (h : w.ownsMap P k R b n D) (hr : W.row b = w.row b) : W.ownsMap P k R b n D := by
  obtain ⟨es, clock, hb, F, hs, hD⟩ := h
  exact ⟨es, clock, hr.trans hb, F, hs, hD⟩
theorem MpS.row {w W : World} {b n : Nat} {f : List UInt8 → Option Value} {D : DataW Value} (h : MpS w b n f D) (hr : W.row b = w.row b) : MpS W b n f D := ⟨ownsMap_rowV h.own hr, h.at', h.has⟩
theorem MpS.grows {w W : World} {b n : Nat} {f : List UInt8 → Option Value} {D : DataW Value} (h : MpS w b n f D) (hg : w.grows W) : MpS W b n f D := h.row (hg.row_eq h.own.lt)
theorem MpS.made (w : World) : MpS (w.alloc (Obj.map #[] 0)) w.heap.size 0 (fun _ => none) (.map []) := ⟨World.ownsMap_made w _ _ _, fun _ => rfl, fun _ => rfl⟩
theorem isKey_sV (s : List UInt8) : WideAt.IsKeyLit (.string s) := by first | exact trivial | exact .inl ⟨_, rfl⟩ | simp [WideAt.IsKeyLit]
theorem MpS.put {w W : World} {b n : Nat} {f : List UInt8 → Option Value} {D : DataW Value} (h : MpS w b n f D) {s : List UInt8} {v : Value} (ho : W.ownsMap Tryz.prog 9 heldV b (n + 1) (D.put (.string s) (.held v))) : MpS W b (n + 1) (fun x => if x = s then some v else f x) (D.put (.string s) (.held v)) := by
  refine ⟨ho, fun x => ?_, fun x => ?_⟩
  · by_cases hx : x = s
    · subst hx
      rw [atKey_put_same (h.own.tidy (string_keyed Tryz.underlying9)).isMap (isKey_sV _), if_pos rfl]; rfl
    · rw [atKey_put_other (fun y => hx (by injection y)), h.at', if_neg hx]
  · by_cases hx : x = s
    · subst hx
      rw [has_put_same (h.own.tidy (string_keyed Tryz.underlying9)).isMap (isKey_sV _), if_pos rfl]; rfl
    · rw [has_put_other (fun y => hx (by injection y)), h.has, if_neg hx]
/-- what is known, in memory: the tokens of each name in blocks of S -/
def KAt (w : World) (S : Nat → Prop) (v : Value) (k : Known) : Prop :=
  ∃ (b n : Nat) (f : List UInt8 → Option Value) (D : DataW Value), v = .map (some b) ∧ S b ∧ MpS w b n f D ∧ ∀ name : ByteArray, match k name with | none => f name.data.toList = none | some ts => ∃ u, f name.data.toList = some u ∧ SlAt w S 6 TkR u ts ∧ ts.length ≤ 4194304
theorem KAt.keep {w W : World} {S S' : Nat → Prop} {v : Value} {k : Known} (h : KAt w S v k) (hw : ∀ g, S g → g < w.heap.size → W.row g = w.row g ∧ S' g) : KAt W S' v k := by
  obtain ⟨b, n, f, D, h1, h2, h3, h4⟩ := h
  refine ⟨b, n, f, D, h1, (hw b h2 h3.own.lt).2, h3.row (hw b h2 h3.own.lt).1, fun name => ?_⟩
  have := h4 name
  cases hk : k name with
  | none => rw [hk] at this; exact this
  | some ts =>
    rw [hk] at this
    obtain ⟨u, e1, e2, e3⟩ := this
    exact ⟨u, e1, e2.keep hw fun _ _ _ h => h, e3⟩
theorem KAt.grows {w W : World} {S : Nat → Prop} {v : Value} {k : Known} (h : KAt w S v k) (hg : w.grows W) : KAt W S v k := h.keep fun _ hS hl => ⟨hg.row_eq hl, hS⟩
/-- custom properties in memory -/
def CuR (w : World) (S : Nat → Prop) (x : Cu) (cs : List Value) : Prop := x.n.size ≤ maxLen ∧ ∃ u, cs = [.string x.n, u] ∧ SlAt w S 6 TkR u x.ts ∧ x.ts.length ≤ 4194304
abbrev CusAt (w : World) (S : Nat → Prop) (v : Value) (l : List Cu) : Prop := SlAt w S 2 (CuR w S) v l
theorem CuR.keep {w W : World} {S S' : Nat → Prop} {x : Cu} {cs : List Value} (h : CuR w S x cs) (hw : ∀ g, S g → g < w.heap.size → W.row g = w.row g ∧ S' g) : CuR W S' x cs := by
  obtain ⟨h1, u, h2, h3, h4⟩ := h
  exact ⟨h1, u, h2, h3.keep hw fun _ _ _ h => h, h4⟩
theorem CusAt.keep {w W : World} {S S' : Nat → Prop} {v : Value} {l : List Cu} (h : CusAt w S v l) (hw : ∀ g, S g → g < w.heap.size → W.row g = w.row g ∧ S' g) : CusAt W S' v l := SlAt.keep h hw fun _ _ _ hx => hx.keep hw
theorem CusAt.grows {w W : World} {S : Nat → Prop} {v : Value} {l : List Cu} (h : CusAt w S v l) (hg : w.grows W) : CusAt W S v l := CusAt.keep h fun _ hS hl => ⟨hg.row_eq hl, hS⟩
/-- what has been read so far -/
def ByAt (w : World) (S : Nat → Prop) (b : Nat) (k : Known) (n : Nat) : Prop :=
  ∃ (f : List UInt8 → Option Value) (D : DataW Value), MpS w b n f D ∧ ∀ name : ByteArray, match k name with | none => f name.data.toList = none | some ts => ∃ u, f name.data.toList = some u ∧ SlAt w S 6 TkR u ts ∧ ts.length ≤ 4194304
/-- how by ends -/
def ByPost (w : World) (S : Nat → Prop) (l : List Cu) (e : Ending) (w' : World) : Prop := ∃ b n, e = .returned (.map (some b)) ∧ w.grows w' ∧ w.heap.size ≤ b ∧ n ≤ l.length ∧ ByAt w' S b (findCu l) n
set_option maxRecDepth 100000 in
set_option maxHeartbeats 4000000 in
theorem byN_any {w : World} {S : Nat → Prop} {v : Value} {l : List Cu} (h : CusAt w S v l) (hl : l.length ≤ 4194304) (hS : ∀ g, S g → g < w.heap.size) :
    Calls Tryz.prog 13 #[v] w (ByPost w S l) := by
  obtain ⟨a, cap, rfl, -, -⟩ := SlAt.len h
  have H0 := Lib.hid h
  have HS := Lib.hid hS
  clear h hS
  have hmk := fun (W : World) => run_makeMap (P := Tryz.prog) 36 W
  go_enter Tryz.func13, Tryz.ntmps13
  go_upto_region 2 with fail
  clear hmk
  have hgA : w.grows (w.alloc (.map #[] 0)) := (by repeat (with_reducible first | assumption | exact grA | apply grB | apply grC | apply grD | refine grE ?_ (by omega) _ | refine grF ?_ (by omega) _ _))
  have HB0 : Hid (ByAt (w.alloc (.map #[] 0)) S w.heap.size ((l.take 0).foldl byStep fun _ => none) 0) := Lib.hid ⟨_, _, MpS.made w, fun name => by simp⟩
  generalize w.alloc (.map #[] 0) = w1 at *
  obtain ⟨b0, hb0⟩ : ∃ b0, w.heap.size = b0 := ⟨_, rfl⟩
  have HB := Lib.hid hb0
  rw [hb0] at HB0
  rw [hb0]
  clear hb0
  go_wp2_with fail
  go_loopg [9] l.length (fun gn v9 wj => ∃ i n : Nat, Hid (gn + i = l.length ∧ i ≤ l.length ∧ n ≤ i) ∧ v9 = .int .i64 i ∧ w.grows wj ∧ Hid (ByAt wj S b0 ((l.take i).foldl byStep fun _ => none) n))
  case atStart => exact ⟨0, 0, Lib.hid ⟨by simp, Nat.zero_le _, Nat.le_refl _⟩, by go_num, hgA, HB0⟩
  case round =>
    obtain ⟨i, n, HQ, rfl, hgj, HY⟩ := hrel
    obtain ⟨j1, j2, j3⟩ := HQ.out
    by_cases hlt : i < l.length
    · have iI : (i : Int) < (l.length : Int) := by omega
      have ii0 : (0 : Int) ≤ (i : Int) := by omega
      have hgt : l[i]? = some l[i] := List.getElem?_eq_getElem hlt
      obtain ⟨g, off, cs, rfl, -, -, k1, hv⟩ := H0.out.elt hgt
      have HTK := Lib.hid (show (l.take (i + 1)).foldl byStep (fun _ => none) = byStep ((l.take i).foldl byStep fun _ => none) l[i] by rw [List.take_add_one, hgt, List.foldl_append]; rfl)
      generalize l[i] = x at *
      obtain ⟨nm, ts⟩ := x
      obtain ⟨hnm, u, rfl, hts, htl⟩ := hv
      obtain ⟨aT, cT, rfl, -, -⟩ := hts.len
      have k2 := k1.grows hgj
      have z3 := lt_sz k2.lt
      obtain ⟨u1, u2⟩ := k2
      replace u1 : segOk (off + i * 2) 2 (wr.row g) = true := u1
      replace u2 : segV (off + i * 2) 2 (wr.row g) = .agg #[.string nm, .slice aT ts.length cT] := u2
      have HCU := Lib.hid (fun (W : World) => pcustom_any nm hnm W)
      have HTS := Lib.hid (And.intro hts htl)
      have HNM := Lib.hid hnm
      clear hgt k1 hts hnm
      generalize (l.take i).foldl byStep (fun _ => none) = k at *
      cases hc : customB nm with
      | false =>
        rw [hc] at HCU
        have HST := Lib.hid (show byStep k ⟨nm, ts⟩ = k by unfold byStep; simp [hc])
        clear hc
        go_wp2_with ((go_at_call 29; (with_reducible refine (HCU.out _).mono ?_); rintro e w1 ⟨rfl, x1, rfl⟩))
        go_roundg (l.length - (i + 1))
        case measure => omega
        case rel =>
          refine ⟨i + 1, n, Lib.hid ⟨by omega, by omega, by omega⟩, by go_num, hgj.trans (by repeat (with_reducible first | assumption | exact grA | apply grB | apply grC | apply grD | refine grE ?_ (by omega) _ | refine grF ?_ (by omega) _ _)), ?_⟩
          rw [HTK.out, HST.out]
          obtain ⟨f, D, m1, m2⟩ := HY.out
          refine Lib.hid ⟨f, D, m1.grows (by repeat (with_reducible first | assumption | exact grA | apply grB | apply grC | apply grD | refine grE ?_ (by omega) _ | refine grF ?_ (by omega) _ _)), fun name => ?_⟩
          have := m2 name
          cases hk : k name with
          | none => rw [hk] at this; exact this
          | some t2 =>
            rw [hk] at this
            obtain ⟨u, e1, e2, e3⟩ := this
            exact ⟨u, e1, e2.grows (show World.grows wr _ from (by repeat (with_reducible first | assumption | exact grA | apply grB | apply grC | apply grD | refine grE ?_ (by omega) _ | refine grF ?_ (by omega) _ _))) fun _ _ _ h => h, e3⟩
      | true =>
        rw [hc] at HCU
        have HST := Lib.hid (show byStep k ⟨nm, ts⟩ = fun x => if x = nm then some ts else k x by unfold byStep; simp [hc])
        clear hc
        obtain ⟨f, D, m1, m2⟩ := HY.out
        have HM := Lib.hid m1
        have HM2 := Lib.hid m2
        clear m1 m2
        go_wp2_with (first | (go_at_call 29; (with_reducible refine (HCU.out _).mono ?_); rintro e w1 ⟨rfl, x1, rfl⟩) | (at_mapUpdate; go_loud (refine wpList_mapUpdate_own _ rfl (.tmp 16) (.tmp 18) (.tmp 20) 36 rfl 9 27 (string_keyed Tryz.underlying9) Tryz.underlying36 heldV b0 n D rfl (HM.out.grows (by repeat (with_reducible first | assumption | exact grA | apply grB | apply grC | apply grD | refine grE ?_ (by omega) _ | refine grF ?_ (by omega) _ _))).own (by simp only [maxLen]; omega) (.string nm) (.slice aT ts.length cT) (.string nm.data.toList) rfl rfl (WideMaps.keyOf_string_mk Tryz.underlying9 HNM.out) (.held (.slice aT ts.length cT)) [] rfl ?_); intro w5 hown5 hgr5))
        go_roundg (l.length - (i + 1))
        case measure => omega
        case rel =>
          have hb := HB.out
          have hgx : wr.grows _ := World.grows.trans (show World.grows wr (wr.alloc (.cells #[.string nm, .slice aT ts.length cT] 30)) from (by repeat (with_reducible first | assumption | exact grA | apply grB | apply grC | apply grD | refine grE ?_ (by omega) _ | refine grF ?_ (by omega) _ _))) (show World.grows _ ((wr.alloc (.cells #[.string nm, .slice aT ts.length cT] 30)).plus x1) from (by repeat (with_reducible first | assumption | exact grA | apply grB | apply grC | apply grD | refine grE ?_ (by omega) _ | refine grF ?_ (by omega) _ _)))
          have hg5 : w.grows w5 := World.grows.grown (hgj.trans hgx) hgr5 (fun k hk => by injection hk with hk; omega)
          have hrow : ∀ g, g < wr.heap.size → g ≠ b0 → w5.row g = wr.row g := fun g h1 h2 => by
            have := hgx.below.size
            rw [row_growV hgr5 (by omega) (fun e => h2 (by injection e))]; exact hgx.row_eq h1
          refine ⟨i + 1, n + 1, Lib.hid ⟨by omega, by omega, by omega⟩, by go_num, hg5, ?_⟩
          rw [HTK.out, HST.out]
          have hk5 : ∀ {u : Value} {t2 : List Tk}, SlAt wr S 6 TkR u t2 → SlAt w5 S 6 TkR u t2 := fun h => h.keep (fun g hg hl => ⟨hrow g hl (fun e => by have := HS.out g hg; omega), hg⟩) fun _ _ _ h => h
          refine Lib.hid ⟨_, _, (HM.out.grows hgx).put hown5, fun name => ?_⟩
          by_cases hnn : name = nm
          · subst hnn
            simp only [if_true]
            exact ⟨_, rfl, hk5 (HTS.out.1.grows hgj fun _ _ _ h => h), HTS.out.2⟩
          · have hne : name.data.toList ≠ nm.data.toList := fun e => hnn (by
              obtain ⟨x⟩ := name; obtain ⟨y⟩ := nm
              have : x = y := Array.toList_inj.1 e
              rw [this])
            simp only [if_neg hnn, if_neg hne]
            have := HM2.out name
            cases hk : k name with
            | none => rw [hk] at this; exact this
            | some t2 =>
              rw [hk] at this
              obtain ⟨u, e1, e2, e3⟩ := this
              exact ⟨u, e1, hk5 e2, e3⟩
    · have iI : ¬ (i : Int) < (l.length : Int) := by omega
      obtain rfl : i = l.length := by omega
      go_wp2_with fail
      go_ret
      rw [List.take_length] at HY
      obtain ⟨f, D, m1, m2⟩ := HY.out
      refine ⟨b0, n, rfl, hgj, Nat.le_of_eq HB.out, by omega, f, D, m1, fun name => ?_⟩
      have := m2 name
      rw [by_find] at this
      exact this
theorem by_any {w : World} {S : Nat → Prop} {v : Value} {l : List Cu} (h : CusAt w S v l) (hl : l.length ≤ 4194304) (hS : ∀ g, S g → g < w.heap.size) :
    Calls Tryz.prog 13 #[v] w fun e w' => ∃ r, e = .returned r ∧ w.grows w' ∧ KAt w' (fun g => g < w'.heap.size) r (findCu l) := by
  refine (byN_any h hl hS).mono ?_
  rintro e w' ⟨b, n, rfl, hg, _, _, f, D, m1, m2⟩
  refine ⟨_, rfl, hg, b, n, f, D, rfl, m1.own.lt, m1, fun name => ?_⟩
  have := m2 name
  cases hk : findCu l name with
  | none => rw [hk] at this; exact this
  | some ts =>
    rw [hk] at this
    obtain ⟨u, e1, e2, e3⟩ := this
    exact ⟨u, e1, e2.keep (fun g hg2 hl => ⟨rfl, hl⟩) fun _ _ _ h => h, e3⟩
end Go.Proofs.YthcaphoejplecaaGreatDoor
