/- WALKS over jalousieref21: what is found of a name; tokens behind tokens. No condition but bounds. -/
import Derived.Test.YthcaphoejplecaaDoorVaI
set_option linter.unusedSimpArgs false
set_option linter.unusedVariables false
namespace Go
open Go.RowKit
theorem find_rev_none {l : List Cu} {nm : ByteArray} (h : ∀ c ∈ l, c.n ≠ nm) : l.reverse.find? (fun c => decide (c.n = nm)) = none := by
  rw [List.find?_eq_none]
  intro c hc
  simpa using h c (List.mem_reverse.1 hc)
theorem findCu_at {l : List Cu} {j : Nat} {c : Cu} (hj : l[j]? = some c) (hcu : customB c.n = true) (h : ∀ c' ∈ l.drop (j + 1), c'.n ≠ c.n) : findCu l c.n = some c.ts := by
  unfold findCu
  rw [if_pos hcu]
  have hl := (List.getElem?_eq_some_iff.1 hj).1
  have hd : l = l.take j ++ c :: l.drop (j + 1) := by
    have := (List.getElem?_eq_some_iff.1 hj).2
    rw [← this, ← List.drop_eq_getElem_cons hl, List.take_append_drop]
  conv => lhs; rw [hd]
  rw [List.reverse_append, List.reverse_cons, List.find?_append, List.find?_append, find_rev_none h]
  simp
theorem findCu_none {l : List Cu} {nm : ByteArray} (h : customB nm = false ∨ ∀ c ∈ l, c.n ≠ nm) : findCu l nm = none := by
  unfold findCu
  split
  · rcases h with h | h
    · rename_i hc; rw [h] at hc; cases hc
    · rw [find_rev_none h]; rfl
  · rfl
theorem ba_toList_inj {a b : ByteArray} (h : a.toList = b.toList) : a = b := by
  rw [ByteArray.toList_eq, ByteArray.toList_eq] at h
  obtain ⟨x⟩ := a; obtain ⟨y⟩ := b
  have : x = y := Array.toList_inj.1 h
  rw [this]
end Go
namespace Go.Proofs.YthcaphoejplecaaDoor
open Go.RowKit
/-- how Find ends -/
def FindPost (w : World) (S : Nat → Prop) (o : Option (List Tk)) (e : Ending) (w' : World) : Prop := w.grows w' ∧ match o with
  | none => e = .returned (.tuple #[.slice none 0 0, .bool false])
  | some ts => ∃ u, e = .returned (.tuple #[u, .bool true]) ∧ SlAt w' S 6 TkR u ts ∧ ts.length ≤ 4194304
set_option maxRecDepth 100000 in
set_option maxHeartbeats 4000000 in
theorem ffind_any {w : World} {S : Nat → Prop} {v : Value} {l : List Cu} {nm : ByteArray} (h : CusAt w S v l) (hl : l.length ≤ 4194304) :
    Calls Tryd.prog 18 #[v, .string nm] w (FindPost w S (findCu l nm)) := by
  obtain ⟨a, cap, rfl, -, -⟩ := SlAt.len h
  have H0 := Lib.hid h
  have HCU := Lib.hid (fun (W : World) => fcustom_any nm W)
  clear h
  obtain ⟨res, hres⟩ : ∃ res, findCu l nm = res := ⟨_, rfl⟩
  have HRES := Lib.hid hres
  rw [hres]
  clear hres
  have hw1 : IntKind.i64.wrap ((l.length : Int) - 1) = (l.length : Int) - 1 := by rw [IntKind.wrap_i64]; omega
  go_enter Tryd.func18, Tryd.ntmps18
  go_wp2_with fail
  go_loopg [6] l.length (fun gn v6 wj => ∃ q : Nat, Hid (gn = q ∧ q ≤ l.length) ∧ v6 = .int .i64 ((q : Int) - 1) ∧ w.grows wj ∧ Hid (customB nm = false ∨ ∀ c ∈ l.drop q, c.n ≠ nm))
  case atStart => exact ⟨l.length, Lib.hid ⟨rfl, Nat.le_refl _⟩, rfl, (by repeat (with_reducible first | assumption | exact grA | apply grB | apply grC | apply grD | refine grE ?_ (by omega) _ | refine grF ?_ (by omega) _ _)), Lib.hid (.inr fun c hc => by simp at hc)⟩
  case round =>
    obtain ⟨q, HQ, rfl, hgj, HN⟩ := hrel
    obtain ⟨jq, j2⟩ := HQ.out
    cases q with
    | zero =>
      have HR := Lib.hid (show res = none by
        rw [← HRES.out]
        exact findCu_none (by simpa using HN.out))
      have i0 : ¬ (0 : Int) ≤ (((0 : Nat) : Int) - 1) := by omega
      go_wp2_with fail
      go_ret2
      rw [HR.out]
      exact ⟨hgj.trans (by repeat (with_reducible first | assumption | exact grA | apply grB | apply grC | apply grD | refine grE ?_ (by omega) _ | refine grF ?_ (by omega) _ _)), rfl⟩
    | succ q =>
      have hgt : l[q]? = some l[q] := List.getElem?_eq_getElem (by omega)
      obtain ⟨g, off, cs, rfl, -, -, k1, hv⟩ := H0.out.elt hgt
      have hdrop : l.drop q = l[q] :: l.drop (q + 1) := List.drop_eq_getElem_cons (by omega)
      generalize l[q] = x at *
      obtain ⟨n, ts⟩ := x
      obtain ⟨hnm, u, rfl, hts, htl⟩ := hv
      obtain ⟨aT, cT, rfl, -, -⟩ := hts.len
      have k2 := k1.grows hgj
      have z3 := lt_sz k2.lt
      have c0 := k2.cell (j := 0) rfl
      have c1 := k2.cell (j := 1) rfl
      rw [World.cell?_row, Nat.add_zero] at c0
      rw [World.cell?_row] at c1
      have e0 : (((q + 1 : Nat) : Int) - 1) = (q : Int) := by omega
      have i0 : (0 : Int) ≤ (q : Int) := by omega
      have i1 : (q : Int) < (l.length : Int) := by omega
      have iw : IntKind.i64.wrap ((q : Int) - 1) = (q : Int) - 1 := by rw [IntKind.wrap_i64]; omega
      have HTS := Lib.hid (And.intro hts htl)
      have HGT := Lib.hid hgt
      have HD := Lib.hid hdrop
      clear k1 k2 hts htl hgt hdrop
      rw [e0]
      clear e0
      by_cases hnn : n = nm
      · subst hnn
        have hb : (n.toList == n.toList) = true := by simp
        cases hc : customB n with
        | true =>
          rw [hc] at HCU
          have HR := Lib.hid (show res = some ts by
            rw [← HRES.out]
            exact findCu_at HGT.out hc (by
              rcases HN.out with h | h
              · rw [hc] at h; cases h
              · exact h))
          clear hc
          go_wp2_with ((go_at_call 22; (with_reducible refine (HCU.out _).mono ?_); rintro e w1 ⟨rfl, x1, rfl⟩))
          go_ret2
          rw [HR.out]
          exact ⟨hgj.trans (by repeat (with_reducible first | assumption | exact grA | apply grB | apply grC | apply grD | refine grE ?_ (by omega) _ | refine grF ?_ (by omega) _ _)), _, rfl, HTS.out.1.grows (hgj.trans (by repeat (with_reducible first | assumption | exact grA | apply grB | apply grC | apply grD | refine grE ?_ (by omega) _ | refine grF ?_ (by omega) _ _))) fun _ _ _ h => h, HTS.out.2⟩
        | false =>
          rw [hc] at HCU
          have HC := Lib.hid hc
          clear hc
          go_wp2_with ((go_at_call 22; (with_reducible refine (HCU.out _).mono ?_); rintro e w1 ⟨rfl, x1, rfl⟩))
          go_roundg q
          case measure => omega
          case rel => exact ⟨q, Lib.hid ⟨rfl, by omega⟩, by go_num, hgj.trans (by repeat (with_reducible first | assumption | exact grA | apply grB | apply grC | apply grD | refine grE ?_ (by omega) _ | refine grF ?_ (by omega) _ _)), Lib.hid (.inl HC.out)⟩
      · have hb : (n.toList == nm.toList) = false := by
          rw [beq_eq_false_iff_ne]; exact fun e => hnn (ba_toList_inj e)
        have hb2 : ¬ n.toList = nm.toList := fun e => hnn (ba_toList_inj e)
        have HNN := Lib.hid hnn
        clear hnn
        go_wp2_with ((go_at_call 22; (with_reducible refine (HCU.out _).mono ?_); rintro e w1 ⟨rfl, x1, rfl⟩))
        go_roundg q
        case measure => omega
        case rel =>
          refine ⟨q, Lib.hid ⟨rfl, by omega⟩, by go_num, hgj.trans (by repeat (with_reducible first | assumption | exact grA | apply grB | apply grC | apply grD | refine grE ?_ (by omega) _ | refine grF ?_ (by omega) _ _)), Lib.hid ?_⟩
          rcases HN.out with h | h
          · exact .inl h
          · refine .inr fun c hc => ?_
            rw [HD.out] at hc
            rcases List.mem_cons.1 hc with rfl | hc
            · exact HNN.out
            · exact h c hc
set_option maxRecDepth 100000 in
/-- tokens behind tokens, if they are not too many -/
theorem fmore_any {w0 w : World} {B : Nat} {vO : Value} {out : List Tk} {S : Nat → Prop} {u : Value} {ts : List Tk} (g0 : w0.grows w) (b0 : w0.heap.size ≤ B) (bB : B ≤ w.heap.size) (ho : TkO w B vO out) (hl : out.length ≤ 4194304) (ht : SlAt w S 6 TkR u ts) (htl : ts.length ≤ 4194304) :
    Calls Tryd.prog 45 #[vO, u] w (PutPost w0 w B vO true (moreT out ts)) := by
  obtain ⟨aO, cO, rfl⟩ := own_slice ho.1
  obtain ⟨aT, cT, rfl, -, -⟩ := ht.len
  obtain ⟨tl1, tl2, tl3⟩ := tks_cells ht
  have HO := Lib.hid ho
  have HT1 := Lib.hid tl1
  have HT2 := Lib.hid tl2
  have HT3 := Lib.hid tl3
  clear ho ht tl1 tl2 tl3
  by_cases h : 512 < out.length + ts.length
  · have m1 : (512 : Int) < (out.length : Int) + (ts.length : Int) := by omega
    have HR := Lib.hid (show moreT out ts = none by unfold moreT; rw [if_pos h])
    go_enter Tryd.func45, Tryd.ntmps45
    go_wp2_with fail
    go_ret2
    rw [HR.out]
    exact ⟨_, _, rfl, g0.trans (by repeat (with_reducible first | assumption | exact grA | apply grB | apply grC | apply grD | refine grE ?_ (by omega) _ | refine grF ?_ (by omega) _ _)), grownBy_of_grows (by repeat (with_reducible first | assumption | exact grA | apply grB | apply grC | apply grD | refine grE ?_ (by omega) _ | refine grF ?_ (by omega) _ _)) _, rfl, fun _ => rfl⟩
  · have m1 : ¬ (512 : Int) < (out.length : Int) + (ts.length : Int) := by omega
    have HR := Lib.hid (show moreT out ts = some (out ++ ts) by unfold moreT; rw [if_neg h])
    go_enter Tryd.func45, Tryd.ntmps45
    go_wp2_with ((at_builtin; refine wpList_appS w0 (B) rfl (.tmp 12) (.tmp 13) _ rfl 53 (.agg #[.int .i64 0, .string ByteArray.empty, .int .i64 0, .int .i64 0, .bool false, .bool false]) 6 48 Tryd.underlying22 (by kernel_rfl) rfl (by omega) (by omega) _ out.length _ rfl (HO.out.1) _ ts.length _ (ts.flatMap Tk.cs) rfl HT1.out HT3.out (one_tks ts) (by omega) (by repeat (with_reducible first | assumption | exact grA | apply grB | apply grC | apply grD | refine grE ?_ (by omega) _ | refine grF ?_ (by omega) _ _)) (by omega) (by first | omega | (simp <;> omega)) ?_; intro v' w' hg' HO' HR' HG' HA'))
    go_ret2
    rw [HR.out]
    refine ⟨_, _, rfl, hg', HG'.out, rfl, ⟨by simpa using HO'.out, fun t ht => ?_⟩, ?_⟩
    · rcases List.mem_append.1 ht with h1 | h1
      · exact HO.out.2 t h1
      · exact HT2.out t h1
    · rcases HA'.out with e | e
      · exact .inl e
      · exact .inr ⟨_, e, Nat.le_refl _⟩
end Go.Proofs.YthcaphoejplecaaDoor
