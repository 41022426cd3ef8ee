/- Texts of the walk, one after the other; what each proves stands ahead of it. -/
import Derived.Test.YtjfccilmlmimaaaPtT
import Derived.Test.YtjfccilmlmimaaaPut
set_option linter.unusedSimpArgs false
set_option linter.unusedVariables false
/- WALKS over jalousielaw24: trues, flips, line by line. No condition but that the lines stand in memory and are not too many. -/
namespace Go
open Go.RowKit
theorem nameEq (a b : ByteArray) : a.data.toList = b.data.toList ↔ a = b := by
  constructor
  · intro h
    cases a; cases b
    congr 1
    exact Array.toList_inj.1 h
  · intro h; rw [h]
theorem Rise.put {R L : List Int} (h : Rise R L) (x : Int) : Rise (putL R x) (L ++ [x]) :=
  ⟨putL_up R x h.1, fun z => by rw [putL_mem, h.2, List.mem_append]; simp [or_comm]⟩
theorem Rise.uniq {R R' L : List Int} (h : Rise R L) (h' : Rise R' L) : R = R' := up_uniq h.1 h'.1 fun z => (h.2 z).trans (h'.2 z).symm
/-- of this name, and true at a value -/
def trueR (nm : ByteArray) (a b : Int) (x : Ln) : Bool := decide (x.n = nm) && trueAt a b x
/-- turning between two values -/
def flipAt (a b c d : Int) (x : Ln) : Bool := decide (truth x.o a b x.p x.q ≠ truth x.o c d x.p x.q)
def flipR (nm : ByteArray) (a b c d : Int) (x : Ln) : Bool := decide (x.n = nm) && flipAt a b c d x
end Go
namespace Go.Proofs.Ytjfccilmlmimaaa
open Go.RowKit Go.Maps

set_option maxRecDepth 100000 in
set_option maxHeartbeats 8000000 in
theorem lawTrues_any (v : Value) (l : List Ln) (nm : ByteArray) (a b : Int) (w : World) (h : SlAt w (fun _ => True) 5 LnR v l) (wa : I64 a) (wb : I64 b) (hN : l.length ≤ 1048576) :
    Calls Try.prog 21 #[v, .string nm, .agg #[.int .i64 a, .int .i64 b]] w fun e w' => ∃ v' r, e = .returned v' ∧ w.grows w' ∧ IntsAt w' v' r ∧ Rise r (idsOf (trueR nm a b) l) := by
  obtain ⟨va, vc, rfl, c1, c2, c3⟩ := h
  have C3 := Lib.hid c3
  clear c3
  have key : ∀ N, N = l.length → N ≤ vc → N ≤ 1048576 → Calls Try.prog 21 #[.slice va N vc, .string nm, .agg #[.int .i64 a, .int .i64 b]] w fun e w' => ∃ v' r, e = .returned v' ∧ w.grows w' ∧ IntsAt w' v' r ∧ Rise r (idsOf (trueR nm a b) l) := fun N eN h1 h2 => by
    have EN := Lib.hid eN
    clear eN
    go_enter Try.func21, Try.ntmps21
    go_wp2_with fail
    go_loopg [7, 12] N (fun gn v7 v12 wj => ∃ (i : Nat) (R : List Int), Hid (gn + i = N ∧ i ≤ N ∧ R.length ≤ i) ∧ v12 = .int .i64 i ∧ w.grows wj ∧ wj.row w.heap.size = some (.cells #[.int .i64 a, .int .i64 b] 24) ∧ Hid (IntsAt wj v7 R ∧ Rise R (idsOf (trueR nm a b) (l.take i))))
    case atStart => exact ⟨0, [], Lib.hid ⟨rfl, Nat.zero_le _, Nat.le_refl _⟩, by go_num, (by repeat (with_reducible first | assumption | exact grA | apply grB | apply grC | apply grD | refine grE ?_ (by omega) _ | refine grF ?_ (by omega) _ _)), by simp [go_sem], Lib.hid ⟨SlAt_nil _ _ _ _, rise_nil⟩⟩
    case round =>
      obtain ⟨i, R, HK, rfl, hg, hbx, HO⟩ := hrel
      obtain ⟨j1, j2, j3⟩ := HK.out
      have zbx := row_sz' hbx
      by_cases hlt : i < N
      · have hNl := EN.out
        rcases C3.out with h0 | ⟨g, off, rfl, _, h4⟩
        · rw [h0] at hNl; simp at hNl; omega
        have hgt := List.getElem?_eq_getElem (by omega : i < l.length)
        obtain ⟨cs, _, el, ec, wx⟩ := h4 i _ hgt
        generalize l[i] = x at *
        subst ec
        replace el := el.grows hg
        have e1 : segOk (off + i * 5) 5 (wr.row g) = true := el.1
        have e2 : segV (off + i * 5) 5 (wr.row g) = x.v := el.2
        have zg := lt_sz el.lt
        have n1 : (i : Int) < (N : Int) := by omega
        have hc := fun W => refCond_any x.o a b x.p x.q W wx.2.1 wa wb wx.2.2.1 wx.2.2.2.1
        have hsc := idsOf_succ (f := trueR nm a b) hgt
        unfold trueR trueAt at hsc
        change idsOf (trueR nm a b) (l.take (i + 1)) = idsOf (trueR nm a b) (l.take i) ++ _ at hsc
        obtain ⟨n3, c3', e3, _, _⟩ := HO.out.1.len
        subst e3
        have hpt := fun W hW => put_any (.slice n3 R.length c3') R x.i W (HO.out.1.grow hW) (by omega)
        obtain ⟨nx, o, q, r, id⟩ := x
        simp only at hc hsc hpt
        have HC := Lib.hid hc; have HSC := Lib.hid hsc; have HPT := Lib.hid hpt
        clear hc hsc hgt h4 el wx hNl hpt
        generalize truth o a b q r = t at *
        by_cases hn : nx = nm
        · subst hn
          by_cases ht : t = 2
          · subst ht
            go_wp2_with (first | (go_at_call 24; (with_reducible refine (HC.out _).mono ?_); rintro e w1 ⟨rfl, x1, rfl⟩) | (go_at_call 22; (with_reducible refine (HPT.out _ (by repeat (with_reducible first | assumption | exact grA | apply grB | apply grC | apply grD | refine grE ?_ (by omega) _ | refine grF ?_ (by omega) _ _))).mono ?_); rintro e w2 ⟨v2, rfl, hg2, hI2⟩; have hgw : w.grows w2 := World.grows.trans (by repeat (with_reducible first | assumption | exact grA | apply grB | apply grC | apply grD | refine grE ?_ (by omega) _ | refine grF ?_ (by omega) _ _)) hg2; have hb2 : w2.row w.heap.size = some (.cells #[.int .i64 a, .int .i64 b] 24) := (hg2.row_eq (g := w.heap.size) (by simp; omega)).trans (by simp [go_sem, hbx, zbx]); have HI2 := Lib.hid hI2; clear hI2))
            go_roundg (N - (i + 1))
            case rel => exact ⟨i + 1, putL R id, Lib.hid ⟨by omega, by omega, Nat.le_trans (putL_len R id) (by omega)⟩, by go_num, hgw, hb2, Lib.hid ⟨HI2.out, by rw [HSC.out]; simpa using HO.out.2.put id⟩⟩
            case measure => omega
          · go_wp2_with (first | (go_at_call 24; (with_reducible refine (HC.out _).mono ?_); rintro e w1 ⟨rfl, x1, rfl⟩))
            go_roundg (N - (i + 1))
            case rel => exact ⟨i + 1, R, Lib.hid ⟨by omega, by omega, by omega⟩, by go_num, (by repeat (with_reducible first | assumption | exact grA | apply grB | apply grC | apply grD | refine grE ?_ (by omega) _ | refine grF ?_ (by omega) _ _)), by simp [go_sem, hbx, zbx], Lib.hid ⟨HO.out.1.grow (by repeat (with_reducible first | assumption | exact grA | apply grB | apply grC | apply grD | refine grE ?_ (by omega) _ | refine grF ?_ (by omega) _ _)), by rw [HSC.out]; simpa [ht] using HO.out.2⟩⟩
            case measure => omega
        · have hq : ¬ nx.toList = nm.toList := by rw [ByteArray.toList_eq, ByteArray.toList_eq, nameEq]; exact hn
          go_wp2_with (first | (go_at_call 24; (with_reducible refine (HC.out _).mono ?_); rintro e w1 ⟨rfl, x1, rfl⟩))
          go_roundg (N - (i + 1))
          case rel => exact ⟨i + 1, R, Lib.hid ⟨by omega, by omega, by omega⟩, by go_num, (by repeat (with_reducible first | assumption | exact grA | apply grB | apply grC | apply grD | refine grE ?_ (by omega) _ | refine grF ?_ (by omega) _ _)), by simp [go_sem, hbx, zbx], Lib.hid ⟨HO.out.1.grow (by repeat (with_reducible first | assumption | exact grA | apply grB | apply grC | apply grD | refine grE ?_ (by omega) _ | refine grF ?_ (by omega) _ _)), by rw [HSC.out]; simpa [hn] using HO.out.2⟩⟩
          case measure => omega
      · have n1 : ¬ (i : Int) < (N : Int) := by omega
        obtain rfl : i = N := by omega
        have hall : l.take i = l := List.take_of_length_le (by rw [← EN.out]; exact Nat.le_refl _)
        rw [hall] at HO
        go_wp2_with fail
        go_ret
        exact ⟨_, rfl, hg, R, HO.out.1, HO.out.2⟩
  exact key _ rfl c1 hN
end Go.Proofs.Ytjfccilmlmimaaa

/- WALKS over jalousielaw24: flips, line by line. No condition but that the lines stand in memory and are not too many. (turned by program from XPtR's trues) -/
namespace Go.Proofs.Ytjfccilmlmimaaa
open Go.RowKit Go.Maps

set_option maxRecDepth 100000 in
set_option maxHeartbeats 8000000 in
theorem lawFlips_any (v : Value) (l : List Ln) (nm : ByteArray) (a b c d : Int) (w : World) (h : SlAt w (fun _ => True) 5 LnR v l) (wa : I64 a) (wb : I64 b) (wc : I64 c) (wd : I64 d) (hN : l.length ≤ 1048576) :
    Calls Try.prog 11 #[v, .string nm, .agg #[.int .i64 a, .int .i64 b], .agg #[.int .i64 c, .int .i64 d]] w fun e w' => ∃ v' r, e = .returned v' ∧ w.grows w' ∧ IntsAt w' v' r ∧ Rise r (idsOf (flipR nm a b c d) l) := by
  obtain ⟨va, vc, rfl, c1, c2, c3⟩ := h
  have C3 := Lib.hid c3
  clear c3
  have key : ∀ N, N = l.length → N ≤ vc → N ≤ 1048576 → Calls Try.prog 11 #[.slice va N vc, .string nm, .agg #[.int .i64 a, .int .i64 b], .agg #[.int .i64 c, .int .i64 d]] w fun e w' => ∃ v' r, e = .returned v' ∧ w.grows w' ∧ IntsAt w' v' r ∧ Rise r (idsOf (flipR nm a b c d) l) := fun N eN h1 h2 => by
    have EN := Lib.hid eN
    clear eN
    go_enter Try.func11, Try.ntmps11
    go_wp2_with fail
    go_loopg [9, 14] N (fun gn v9 v14 wj => ∃ (i : Nat) (R : List Int), Hid (gn + i = N ∧ i ≤ N ∧ R.length ≤ i) ∧ v14 = .int .i64 i ∧ w.grows wj ∧ wj.row w.heap.size = some (.cells #[.int .i64 a, .int .i64 b] 24) ∧ wj.row (w.heap.size + 1) = some (.cells #[.int .i64 c, .int .i64 d] 24) ∧ Hid (IntsAt wj v9 R ∧ Rise R (idsOf (flipR nm a b c d) (l.take i))))
    case atStart => exact ⟨0, [], Lib.hid ⟨rfl, Nat.zero_le _, Nat.le_refl _⟩, by go_num, (by repeat (with_reducible first | assumption | exact grA | apply grB | apply grC | apply grD | refine grE ?_ (by omega) _ | refine grF ?_ (by omega) _ _)), by simp [go_sem], by simp [go_sem], Lib.hid ⟨SlAt_nil _ _ _ _, rise_nil⟩⟩
    case round =>
      obtain ⟨i, R, HK, rfl, hg, hbx, hby, HO⟩ := hrel
      obtain ⟨j1, j2, j3⟩ := HK.out
      have zbx := row_sz' hbx
      have zby := row_sz' hby
      by_cases hlt : i < N
      · have hNl := EN.out
        rcases C3.out with h0 | ⟨g, off, rfl, _, h4⟩
        · rw [h0] at hNl; simp at hNl; omega
        have hgt := List.getElem?_eq_getElem (by omega : i < l.length)
        obtain ⟨cs, _, el, ec, wx⟩ := h4 i _ hgt
        generalize l[i] = x at *
        subst ec
        replace el := el.grows hg
        have e1 : segOk (off + i * 5) 5 (wr.row g) = true := el.1
        have e2 : segV (off + i * 5) 5 (wr.row g) = x.v := el.2
        have zg := lt_sz el.lt
        have n1 : (i : Int) < (N : Int) := by omega
        have hc := fun W => refCond_any x.o a b x.p x.q W wx.2.1 wa wb wx.2.2.1 wx.2.2.2.1
        have hd := fun W => refCond_any x.o c d x.p x.q W wx.2.1 wc wd wx.2.2.1 wx.2.2.2.1
        have hsc := idsOf_succ (f := flipR nm a b c d) hgt
        unfold flipR flipAt at hsc
        change idsOf (flipR nm a b c d) (l.take (i + 1)) = idsOf (flipR nm a b c d) (l.take i) ++ _ at hsc
        obtain ⟨n3, c3', e3, _, _⟩ := HO.out.1.len
        subst e3
        have hpt := fun W hW => put_any (.slice n3 R.length c3') R x.i W (HO.out.1.grow hW) (by omega)
        obtain ⟨nx, o, q, r, id⟩ := x
        simp only at hc hd hsc hpt
        have HC := Lib.hid hc; have HD := Lib.hid hd; have HSC := Lib.hid hsc; have HPT := Lib.hid hpt
        clear hc hd hsc hgt h4 el wx hNl hpt
        generalize truth o a b q r = t at *
        generalize truth o c d q r = t2 at *
        by_cases hn : nx = nm
        · subst hn
          by_cases ht : t = t2
          · subst ht
            go_upto_region 5 with fail
            refine wp_region_plus_lit (by kernel_rfl) (by kernel_rfl) ?_
            repeat (go_big_quiet_step (first | (go_at_call 24; (with_reducible exact Calls.plus_of (HC.out _))) | (go_at_call 24; (with_reducible exact Calls.plus_of (HD.out _)))))
            (refine wpQuiet_nil ?_; intro _ hw'; obtain ⟨xq, hw''⟩ := hw'; subst hw'')
            go_wp2_with fail
            go_roundg (N - (i + 1))
            case rel => exact ⟨i + 1, R, Lib.hid ⟨by omega, by omega, by omega⟩, by go_num, (by repeat (with_reducible first | assumption | exact grA | apply grB | apply grC | apply grD | refine grE ?_ (by omega) _ | refine grF ?_ (by omega) _ _)), by simp [go_sem, hbx, zbx], by simp [go_sem, hby, zby], Lib.hid ⟨HO.out.1.grow (by repeat (with_reducible first | assumption | exact grA | apply grB | apply grC | apply grD | refine grE ?_ (by omega) _ | refine grF ?_ (by omega) _ _)), by rw [HSC.out]; simpa using HO.out.2⟩⟩
            case measure => omega
          · go_upto_region 5 with fail
            refine wp_region_plus_lit (by kernel_rfl) (by kernel_rfl) ?_
            repeat (go_big_quiet_step (first | (go_at_call 24; (with_reducible exact Calls.plus_of (HC.out _))) | (go_at_call 24; (with_reducible exact Calls.plus_of (HD.out _)))))
            (refine wpQuiet_nil ?_; intro _ hw'; obtain ⟨xq, hw''⟩ := hw'; subst hw'')
            go_wp2_with (first | (go_at_call 22; (with_reducible refine (HPT.out _ (by repeat (with_reducible first | assumption | exact grA | apply grB | apply grC | apply grD | refine grE ?_ (by omega) _ | refine grF ?_ (by omega) _ _))).mono ?_); rintro e w2 ⟨v2, rfl, hg2, hI2⟩; have hgw : w.grows w2 := World.grows.trans (by repeat (with_reducible first | assumption | exact grA | apply grB | apply grC | apply grD | refine grE ?_ (by omega) _ | refine grF ?_ (by omega) _ _)) hg2; have hb2 : w2.row w.heap.size = some (.cells #[.int .i64 a, .int .i64 b] 24) := (hg2.row_eq (g := w.heap.size) (by simp; omega)).trans (by simp [go_sem, hbx, zbx]); have hb3 : w2.row (w.heap.size + 1) = some (.cells #[.int .i64 c, .int .i64 d] 24) := (hg2.row_eq (g := w.heap.size + 1) (by simp; omega)).trans (by simp [go_sem, hby, zby]); have HI2 := Lib.hid hI2; clear hI2))
            go_roundg (N - (i + 1))
            case rel => exact ⟨i + 1, putL R id, Lib.hid ⟨by omega, by omega, Nat.le_trans (putL_len R id) (by omega)⟩, by go_num, hgw, hb2, hb3, Lib.hid ⟨HI2.out, by rw [HSC.out]; simpa [ht] using HO.out.2.put id⟩⟩
            case measure => omega
        · have hq : ¬ nx.toList = nm.toList := by rw [ByteArray.toList_eq, ByteArray.toList_eq, nameEq]; exact hn
          have hq2 : (nx.toList == nm.toList) = false := by simpa using hq
          go_upto_region 5 with fail
          refine wp_region_plus_lit (by kernel_rfl) (by kernel_rfl) ?_
          repeat (go_big_quiet_step (first | (go_at_call 24; (with_reducible exact Calls.plus_of (HC.out _))) | (go_at_call 24; (with_reducible exact Calls.plus_of (HD.out _)))))
          (refine wpQuiet_nil ?_; intro _ hw'; obtain ⟨xq, hw''⟩ := hw'; subst hw'')
          go_wp2_with fail
          go_roundg (N - (i + 1))
          case rel => exact ⟨i + 1, R, Lib.hid ⟨by omega, by omega, by omega⟩, by go_num, (by repeat (with_reducible first | assumption | exact grA | apply grB | apply grC | apply grD | refine grE ?_ (by omega) _ | refine grF ?_ (by omega) _ _)), by simp [go_sem, hbx, zbx], by simp [go_sem, hby, zby], Lib.hid ⟨HO.out.1.grow (by repeat (with_reducible first | assumption | exact grA | apply grB | apply grC | apply grD | refine grE ?_ (by omega) _ | refine grF ?_ (by omega) _ _)), by rw [HSC.out]; simpa [hn] using HO.out.2⟩⟩
          case measure => omega
      · have n1 : ¬ (i : Int) < (N : Int) := by omega
        obtain rfl : i = N := by omega
        have hall : l.take i = l := List.take_of_length_le (by rw [← EN.out]; exact Nat.le_refl _)
        rw [hall] at HO
        go_wp2_with fail
        go_ret
        exact ⟨_, rfl, hg, R, HO.out.1, HO.out.2⟩
  exact key _ rfl c1 hN
end Go.Proofs.Ytjfccilmlmimaaa
