/- Texts of the walk, one after the other; what each proves stands ahead of it. -/
import Derived.Test.YthcaphoejplecaaDoorVaX
set_option linter.unusedSimpArgs false
set_option linter.unusedVariables false
/- WALK over vars: what is found of a name. No condition but bounds. -/
namespace Go.Proofs.YthcaphoejplecaaDoor
open Go.RowKit
set_option maxRecDepth 100000 in
set_option maxHeartbeats 4000000 in
theorem vfind_any {w : World} {S : Nat → Prop} {v : Value} {l : List Cu} {nm : ByteArray} (h : CusAt w S v l) (hl : l.length ≤ 4194304) (hnm : nm.size ≤ maxLen) :
    Calls Tryd.prog 17 #[v, .string nm] w (FindPost w (fun _ => True) (findCu l nm)) := by
  obtain ⟨a, cap, rfl, -, -⟩ := SlAt.len h
  have H0 := Lib.hid h
  have HCU := Lib.hid (fun (W : World) => pcustom_any nm hnm W)
  clear h
  obtain ⟨res, hres⟩ : ∃ res, findCu l nm = res := ⟨_, rfl⟩
  have HRES := Lib.hid hres
  rw [hres]
  clear hres
  have hw1 : IntKind.i64.wrap ((l.length : Int) - 1) = (l.length : Int) - 1 := by rw [IntKind.wrap_i64]; omega
  cases hc : customB nm with
  | false =>
    have HR := Lib.hid (show res = none by rw [← HRES.out]; exact findCu_none (.inl hc))
    rw [hc] at HCU
    clear hc
    go_enter Tryd.func17, Tryd.ntmps17
    go_wp2_with ((go_at_call 32; (with_reducible refine (HCU.out _).mono ?_); rintro e w1 ⟨rfl, x1, rfl⟩))
    go_ret2
    rw [HR.out]
    exact ⟨(by repeat (with_reducible first | assumption | exact grA | apply grB | apply grC | apply grD | refine grE ?_ (by omega) _ | refine grF ?_ (by omega) _ _)), rfl⟩
  | true =>
  have HC0 := Lib.hid hc
  rw [hc] at HCU
  clear hc
  go_enter Tryd.func17, Tryd.ntmps17
  go_wp2_with ((go_at_call 32; (with_reducible refine (HCU.out _).mono ?_); rintro e w1 ⟨rfl, x1, rfl⟩))
  go_loopg [6] l.length (fun gn v6 wj => ∃ q : Nat, Hid (gn = q ∧ q ≤ l.length) ∧ v6 = .int .i64 ((q : Int) - 1) ∧ w.grows wj ∧ Hid (∀ c ∈ l.drop q, c.n ≠ nm))
  case atStart => exact ⟨l.length, Lib.hid ⟨rfl, Nat.le_refl _⟩, rfl, (by repeat (with_reducible first | assumption | exact grA | apply grB | apply grC | apply grD | refine grE ?_ (by omega) _ | refine grF ?_ (by omega) _ _)), Lib.hid (fun c hc => by simp at hc)⟩
  case round =>
    obtain ⟨q, HQ, rfl, hgj, HN⟩ := hrel
    obtain ⟨jq, j2⟩ := HQ.out
    cases q with
    | zero =>
      have HR := Lib.hid (show res = none by
        rw [← HRES.out]
        exact findCu_none (.inr (by simpa using HN.out)))
      have i0 : ¬ (0 : Int) ≤ (((0 : Nat) : Int) - 1) := by omega
      go_wp2_with fail
      go_ret2
      rw [HR.out]
      exact ⟨hgj.trans (by repeat (with_reducible first | assumption | exact grA | apply grB | apply grC | apply grD | refine grE ?_ (by omega) _ | refine grF ?_ (by omega) _ _)), rfl⟩
    | succ q =>
      have hgt : l[q]? = some l[q] := List.getElem?_eq_getElem (by omega)
      obtain ⟨g, off, cs, rfl, -, -, k1, hv⟩ := H0.out.elt hgt
      have hdrop : l.drop q = l[q] :: l.drop (q + 1) := List.drop_eq_getElem_cons (by omega)
      generalize l[q] = x at *
      obtain ⟨n, ts⟩ := x
      obtain ⟨hnm, u, rfl, hts, htl⟩ := hv
      obtain ⟨aT, cT, rfl, -, -⟩ := hts.len
      have k2 := k1.grows hgj
      have z3 := lt_sz k2.lt
      have c0 := k2.cell (j := 0) rfl
      have c1 := k2.cell (j := 1) rfl
      rw [World.cell?_row, Nat.add_zero] at c0
      rw [World.cell?_row] at c1
      have e0 : (((q + 1 : Nat) : Int) - 1) = (q : Int) := by omega
      have i0 : (0 : Int) ≤ (q : Int) := by omega
      have i1 : (q : Int) < (l.length : Int) := by omega
      have iw : IntKind.i64.wrap ((q : Int) - 1) = (q : Int) - 1 := by rw [IntKind.wrap_i64]; omega
      have HTS := Lib.hid (And.intro hts htl)
      have HGT := Lib.hid hgt
      have HD := Lib.hid hdrop
      clear k1 k2 hts htl hgt hdrop
      rw [e0]
      clear e0
      by_cases hnn : n = nm
      · subst hnn
        have hb : (n.toList == n.toList) = true := by simp
        have HR := Lib.hid (show res = some ts by
          rw [← HRES.out]
          exact findCu_at HGT.out HC0.out HN.out)
        obtain ⟨tl1, tl2, tl3⟩ := tks_cells (HTS.out.1.grows hgj fun _ _ _ h => h)
        have HT1 := Lib.hid tl1
        have HT2 := Lib.hid tl2
        have HT3 := Lib.hid tl3
        have htl2 : ts.length ≤ 4194304 := HTS.out.2
        have hs := hgj.below.size
        clear tl1 tl2 tl3
        go_wp2_with ((at_builtin; refine wpList_appS w (w.heap.size) rfl (.const (.slice none 0 0)) (.tmp 28) _ rfl 53 (.agg #[.int .i64 0, .string ByteArray.empty, .int .i64 0, .int .i64 0, .bool false, .bool false]) 6 48 Tryd.underlying22 (by kernel_rfl) rfl (by omega) (by omega) _ 0 _ rfl ((World.ownsRow_nil _ _ _ _)) _ ts.length _ (ts.flatMap Tk.cs) rfl HT1.out HT3.out (one_tks ts) (by omega) (by repeat (with_reducible first | assumption | exact grA | apply grB | apply grC | apply grD | refine grE ?_ (by omega) _ | refine grF ?_ (by omega) _ _)) (by omega) (by first | omega | (simp <;> omega)) ?_; intro v' w' hg' HO' HR' HG' HA'))
        go_ret2
        rw [HR.out]
        refine ⟨hg', _, rfl, TkO.slAt (B := w.heap.size) ⟨by simpa using HO'.out, HT2.out⟩ (fun _ _ _ => trivial), HTS.out.2⟩
      · have hb : (n.toList == nm.toList) = false := by
          rw [beq_eq_false_iff_ne]; exact fun e => hnn (ba_toList_inj e)
        have hb2 : ¬ n.toList = nm.toList := fun e => hnn (ba_toList_inj e)
        have HNN := Lib.hid hnn
        clear hnn
        go_wp2_with fail
        go_roundg q
        case measure => omega
        case rel =>
          refine ⟨q, Lib.hid ⟨rfl, by omega⟩, by go_num, hgj.trans (by repeat (with_reducible first | assumption | exact grA | apply grB | apply grC | apply grD | refine grE ?_ (by omega) _ | refine grF ?_ (by omega) _ _)), Lib.hid fun c hc => ?_⟩
          rw [HD.out] at hc
          rcases List.mem_cons.1 hc with rfl | hc
          · exact HNN.out
          · exact HN.out c hc
end Go.Proofs.YthcaphoejplecaaDoor

/- PLAIN: the names of all uses, each once; their row in memory. No condition. -/
namespace Go
open Go.RowKit
/-- a name put behind names, if it is not there -/
def addN (out : List ByteArray) (nm : ByteArray) : List ByteArray := if out.any (fun s => decide (s = nm)) = true then out else out ++ [nm]
def addU (out : List ByteArray) (v : Vt) : List ByteArray := if useT v = true then (match namedT v with | none => out | some (nm, _) => addN out nm) else out
mutual
/-- the names of a tree's uses behind names -/
def usesV (out : List ByteArray) : Vt → List ByteArray
  | .mk t ks => usesL (addU out (.mk t ks)) ks
def usesL (out : List ByteArray) : List Vt → List ByteArray
  | [] => out
  | v :: l => usesL (usesV out v) l
end
theorem usesL_cons (out : List ByteArray) (t : Tk) (ks l : List Vt) : usesL out (.mk t ks :: l) = usesL (usesL (addU out (.mk t ks)) ks) l := by
  simp [usesL, usesV]
theorem addU_len (out : List ByteArray) (v : Vt) : (addU out v).length ≤ out.length + 1 := by
  unfold addU addN
  split
  · split
    · omega
    · split <;> simp
  · omega
theorem uses_len : ∀ (N : Nat) (l : List Vt) (out : List ByteArray), nodesL l ≤ N → (usesL out l).length ≤ out.length + nodesL l
  | N, [], out, _ => by simp [usesL, nodesL]
  | 0, .mk t ks :: l, out, h => by simp [nodesL, Vt.nodes] at h
  | N + 1, .mk t ks :: l, out, h => by
    simp only [nodesL, Vt.nodes] at h
    rw [usesL_cons]
    have h1 := uses_len N ks (addU out (.mk t ks)) (by omega)
    have h2 := uses_len N l (usesL (addU out (.mk t ks)) ks) (by omega)
    have h3 := addU_len out (.mk t ks)
    simp only [nodesL, Vt.nodes]
    omega
/-- the names of the uses of tokens -/
def usesT (l : List Tk) : List ByteArray := if mayV 64 (parse l) = true then usesL [] (parse l) else []
end Go
namespace Go.Proofs.YthcaphoejplecaaDoor
open Go.RowKit
/-- names in a row of the call's own -/
def NmO (w : World) (B : Nat) (v : Value) (l : List ByteArray) : Prop := w.ownsRow B 9 1 v l.length (l.map Value.string)
/-- names so far, in the world as it stands -/
structure USt (w0 w : World) (B : Nat) (vO : Value) (W : World) (v1 : Value) (o : List ByteArray) : Prop where
  g0 : w0.grows W
  gb : w.grownBy W vO.ownBlock
  own : NmO W B v1 o
  gr : GrO w.heap.size vO v1
theorem USt.grows {w0 w W W' : World} {B : Nat} {vO v1 : Value} {o : List ByteArray} (h : USt w0 w B vO W v1 o) (hg : W.grows W') : USt w0 w B vO W' v1 o :=
  ⟨h.g0.trans hg, grownBy_trans h.gb (grownBy_of_grows hg none) (fun k hk => by cases hk), h.own.grows hg, h.gr⟩
theorem USt.next {w0 w W W' : World} {B : Nat} {vO v1 v2 : Value} {o o2 : List ByteArray} (h : USt w0 w B vO W v1 o) (p1 : w0.grows W') (p2 : W.grownBy W' v1.ownBlock) (p3 : NmO W' B v2 o2) (p4 : GrO W.heap.size v1 v2) : USt w0 w B vO W' v2 o2 :=
  ⟨p1, grownBy_trans h.gb p2 h.gr.own, p3, h.gr.trans p4 h.gb.size⟩
/-- a name of the row -/
theorem NmO.cell {w : World} {B : Nat} {v : Value} {l : List ByteArray} (h : NmO w B v l) : l = [] ∨ ∃ g c, v = .slice (some ⟨g, 0, none⟩) l.length c ∧ g < w.heap.size ∧ ∀ (i : Nat) (x : ByteArray), l[i]? = some x → cellR i (w.row g) = some (.string x) := by
  obtain ⟨h1, h2⟩ := h
  rcases h2 with ⟨_, h2⟩ | ⟨g, c, cur, e, _, hr, _, _, hs, ht⟩
  · exact .inl (List.length_eq_zero_iff.1 h2)
  · refine .inr ⟨g, c, e, (row_sz' hr).1, fun i x hx => ?_⟩
    rw [show w.row g = _ from hr]
    show cur[i]? = _
    have hi := (List.getElem?_eq_some_iff.1 hx).1
    have h3 : (cur.toList.take (l.length * 1))[i]? = (l.map Value.string)[i]? := by rw [ht]
    rw [List.getElem?_take, if_pos (by omega), List.getElem?_map, hx] at h3
    simpa using h3
end Go.Proofs.YthcaphoejplecaaDoor
