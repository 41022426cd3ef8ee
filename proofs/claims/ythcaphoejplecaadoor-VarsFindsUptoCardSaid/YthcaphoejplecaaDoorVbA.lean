/- WALK over vars: what is found of a name. No condition but bounds. -/
import Derived.Test.YthcaphoejplecaaDoorVaX
set_option linter.unusedSimpArgs false
set_option linter.unusedVariables false
namespace Go.Proofs.YthcaphoejplecaaDoor
open Go.RowKit
set_option maxRecDepth 100000 in
set_option maxHeartbeats 4000000 in
theorem vfind_any {w : World} {S : Nat → Prop} {v : Value} {l : List Cu} {nm : ByteArray} (h : CusAt w S v l) (hl : l.length ≤ 4194304) (hnm : nm.size ≤ maxLen) :
    Calls Tryd.prog 17 #[v, .string nm] w (FindPost w (fun _ => True) (findCu l nm)) := by
  obtain ⟨a, cap, rfl, -, -⟩ := SlAt.len h
  have H0 := Lib.hid h
  have HCU := Lib.hid (fun (W : World) => pcustom_any nm hnm W)
  clear h
  obtain ⟨res, hres⟩ : ∃ res, findCu l nm = res := ⟨_, rfl⟩
  have HRES := Lib.hid hres
  rw [hres]
  clear hres
  have hw1 : IntKind.i64.wrap ((l.length : Int) - 1) = (l.length : Int) - 1 := by rw [IntKind.wrap_i64]; omega
  cases hc : customB nm with
  | false =>
    have HR := Lib.hid (show res = none by rw [← HRES.out]; exact findCu_none (.inl hc))
    rw [hc] at HCU
    clear hc
    go_enter Tryd.func17, Tryd.ntmps17
    go_wp2_with ((go_at_call 32; (with_reducible refine (HCU.out _).mono ?_); rintro e w1 ⟨rfl, x1, rfl⟩))
    go_ret2
    rw [HR.out]
    exact ⟨(by repeat (with_reducible first | assumption | exact grA | apply grB | apply grC | apply grD | refine grE ?_ (by omega) _ | refine grF ?_ (by omega) _ _)), rfl⟩
  | true =>
  have HC0 := Lib.hid hc
  rw [hc] at HCU
  clear hc
  go_enter Tryd.func17, Tryd.ntmps17
  go_wp2_with ((go_at_call 32; (with_reducible refine (HCU.out _).mono ?_); rintro e w1 ⟨rfl, x1, rfl⟩))
  go_loopg [6] l.length (fun gn v6 wj => ∃ q : Nat, Hid (gn = q ∧ q ≤ l.length) ∧ v6 = .int .i64 ((q : Int) - 1) ∧ w.grows wj ∧ Hid (∀ c ∈ l.drop q, c.n ≠ nm))
  case atStart => exact ⟨l.length, Lib.hid ⟨rfl, Nat.le_refl _⟩, rfl, (by repeat (with_reducible first | assumption | exact grA | apply grB | apply grC | apply grD | refine grE ?_ (by omega) _ | refine grF ?_ (by omega) _ _)), Lib.hid (fun c hc => by simp at hc)⟩
  case round =>
    obtain ⟨q, HQ, rfl, hgj, HN⟩ := hrel
    obtain ⟨jq, j2⟩ := HQ.out
    cases q with
    | zero =>
      have HR := Lib.hid (show res = none by
        rw [← HRES.out]
        exact findCu_none (.inr (by simpa using HN.out)))
      have i0 : ¬ (0 : Int) ≤ (((0 : Nat) : Int) - 1) := by omega
      go_wp2_with fail
      go_ret2
      rw [HR.out]
      exact ⟨hgj.trans (by repeat (with_reducible first | assumption | exact grA | apply grB | apply grC | apply grD | refine grE ?_ (by omega) _ | refine grF ?_ (by omega) _ _)), rfl⟩
    | succ q =>
      have hgt : l[q]? = some l[q] := List.getElem?_eq_getElem (by omega)
      obtain ⟨g, off, cs, rfl, -, -, k1, hv⟩ := H0.out.elt hgt
      have hdrop : l.drop q = l[q] :: l.drop (q + 1) := List.drop_eq_getElem_cons (by omega)
      generalize l[q] = x at *
      obtain ⟨n, ts⟩ := x
      obtain ⟨hnm, u, rfl, hts, htl⟩ := hv
      obtain ⟨aT, cT, rfl, -, -⟩ := hts.len
      have k2 := k1.grows hgj
      have z3 := lt_sz k2.lt
      have c0 := k2.cell (j := 0) rfl
      have c1 := k2.cell (j := 1) rfl
      rw [World.cell?_row, Nat.add_zero] at c0
      rw [World.cell?_row] at c1
      have e0 : (((q + 1 : Nat) : Int) - 1) = (q : Int) := by omega
      have i0 : (0 : Int) ≤ (q : Int) := by omega
      have i1 : (q : Int) < (l.length : Int) := by omega
      have iw : IntKind.i64.wrap ((q : Int) - 1) = (q : Int) - 1 := by rw [IntKind.wrap_i64]; omega
      have HTS := Lib.hid (And.intro hts htl)
      have HGT := Lib.hid hgt
      have HD := Lib.hid hdrop
      clear k1 k2 hts htl hgt hdrop
      rw [e0]
      clear e0
      by_cases hnn : n = nm
      · subst hnn
        have hb : (n.toList == n.toList) = true := by simp
        have HR := Lib.hid (show res = some ts by
          rw [← HRES.out]
          exact findCu_at HGT.out HC0.out HN.out)
        obtain ⟨tl1, tl2, tl3⟩ := tks_cells (HTS.out.1.grows hgj fun _ _ _ h => h)
        have HT1 := Lib.hid tl1
        have HT2 := Lib.hid tl2
        have HT3 := Lib.hid tl3
        have htl2 : ts.length ≤ 4194304 := HTS.out.2
        have hs := hgj.below.size
        clear tl1 tl2 tl3
        go_wp2_with ((at_builtin; refine wpList_appS w (w.heap.size) rfl (.const (.slice none 0 0)) (.tmp 28) _ rfl 53 (.agg #[.int .i64 0, .string ByteArray.empty, .int .i64 0, .int .i64 0, .bool false, .bool false]) 6 48 Tryd.underlying22 (by kernel_rfl) rfl (by omega) (by omega) _ 0 _ rfl ((World.ownsRow_nil _ _ _ _)) _ ts.length _ (ts.flatMap Tk.cs) rfl HT1.out HT3.out (one_tks ts) (by omega) (by repeat (with_reducible first | assumption | exact grA | apply grB | apply grC | apply grD | refine grE ?_ (by omega) _ | refine grF ?_ (by omega) _ _)) (by omega) (by first | omega | (simp <;> omega)) ?_; intro v' w' hg' HO' HR' HG' HA'))
        go_ret2
        rw [HR.out]
        refine ⟨hg', _, rfl, TkO.slAt (B := w.heap.size) ⟨by simpa using HO'.out, HT2.out⟩ (fun _ _ _ => trivial), HTS.out.2⟩
      · have hb : (n.toList == nm.toList) = false := by
          rw [beq_eq_false_iff_ne]; exact fun e => hnn (ba_toList_inj e)
        have hb2 : ¬ n.toList = nm.toList := fun e => hnn (ba_toList_inj e)
        have HNN := Lib.hid hnn
        clear hnn
        go_wp2_with fail
        go_roundg q
        case measure => omega
        case rel =>
          refine ⟨q, Lib.hid ⟨rfl, by omega⟩, by go_num, hgj.trans (by repeat (with_reducible first | assumption | exact grA | apply grB | apply grC | apply grD | refine grE ?_ (by omega) _ | refine grF ?_ (by omega) _ _)), Lib.hid fun c hc => ?_⟩
          rw [HD.out] at hc
          rcases List.mem_cons.1 hc with rfl | hc
          · exact HNN.out
          · exact HN.out c hc
end Go.Proofs.YthcaphoejplecaaDoor
