/- WALK over rule: what is open is closed. No condition but that the stack stands in memory. -/
import Derived.Test.YthcaphoejplecaaGreatDoorVaW
import Derived.Test.YthcaphoejplecaaGreatDoorSeqO
import Derived.Test.YthcaphoejplecaaGreatDoorOpsE
import Derived.Test.YthcaphoejplecaaGreatDoorTail
import Derived.Test.YthcaphoejplecaaGreatDoorSeg
import Derived.Test.YthcaphoejplecaaGreatDoorFlt
import Derived.Test.YthcaphoejplecaaGreatDoorExec
set_option linter.unusedSimpArgs false
set_option linter.unusedVariables false
namespace Go
open Go.RowKit
/-- a part of an own row -/
theorem own_elt {w : World} {B : Nat} {e : TypeId} {n k : Nat} {v : Value} {xs X cs Y : List Value} (h : w.ownsRow B e n v k xs) (hx : xs = X ++ cs ++ Y) (h0 : cs ≠ []) :
    ∃ (g cap : Nat) (cur : Array Value), v = .slice (some ⟨g, 0, none⟩) k cap ∧ eltAt w g X.length cs ∧ k ≤ cap ∧ cap ≤ maxLen ∧ B ≤ g ∧ g < w.heap.size ∧ w.row g = some (.cells cur e (0, 0)) ∧ cur.size = cap * n ∧ cur.toList.take (k * n) = xs := by
  obtain ⟨hl, ⟨rfl, rfl⟩ | ⟨g, cap, cur, rfl, hb, hg, hnc, hcm, hcs, ht⟩⟩ := h
  · simp at hl; subst hl
    have := congrArg List.length hx
    have := List.length_pos_iff.2 h0
    simp at *; omega
  · have hr : w.row g = some (.cells cur e (0, 0)) := hg
    refine ⟨g, cap, cur, rfl, eltAt_of_range h0 fun j u hj => ?_, hnc, hcm, hb, row_lt hr, hr, hcs, ht⟩
    rw [World.cell?_row, hr]
    show cur[X.length + j]? = some u
    have hjl := (List.getElem?_eq_some_iff.1 hj).1
    have h1 : xs[X.length + j]? = some u := by
      rw [hx, List.append_assoc, List.getElem?_append_right (by omega), Nat.add_sub_cancel_left, List.getElem?_append_left hjl]; exact hj
    rw [← ht] at h1
    have h2 := (List.getElem?_eq_some_iff.1 h1).1
    rw [List.getElem?_take_of_lt (by simp at h2; omega)] at h1
    simpa using h1
end Go
namespace Go.Proofs.YthcaphoejplecaaGreatDoor
open Go.RowKit
def tyS : TypeId := 89
/-- the program's variables while it reads: the stack, the openers -/
def Stk (w0 w : World) (b3 b4 : Nat) (p : Ps) : Prop :=
  ∃ (tg : Nat → Option Nat) (vO vS : Value) (ins : List Value), w0.grows w ∧ StkD w w0.heap.size tg vO vS ins p ∧ tg b3 = some 2 ∧ tg b4 = some 3 ∧ w0.heap.size ≤ b3 ∧ w0.heap.size ≤ b4 ∧
    w.row b3 = some (.cells #[vS] 89) ∧ w.row b4 = some (.cells #[vO] 27)
/-- behind the write: the last list has grown by a value -/
theorem Stk.last {w0 w W : World} {b3 b4 gS cS : Nat} {tg : Nat → Option Nat} {vO um v' : Value} {ins : List Value} {os : List Tk} {ls : List (List Vt)} {m : List Vt} {css : List (List Value)} {x : Vt} {cs : List Value} {curS : Array Value}
    (h : StkD w w0.heap.size tg vO (.slice (some ⟨gS, 0, none⟩) (ls.length + 1) cS) (ins ++ [um]) ⟨os, ls ++ [m]⟩) (t3 : tg b3 = some 2) (t4 : tg b4 = some 3) (l3 : w0.heap.size ≤ b3) (l4 : w0.heap.size ≤ b4)
    (hx3 : w.row b3 = some (.cells #[.slice (some ⟨gS, 0, none⟩) (ls.length + 1) cS] 89)) (hx4 : w.row b4 = some (.cells #[vO] 27)) (rS : w.row gS = some (.cells curS 58))
    (h1 : css.length = m.length) (h2 : ∀ (j : Nat) (x : Vt) (cs : List Value), m[j]? = some x → css[j]? = some cs → cs.length = 7 ∧ VOk w (RoS w w0.heap.size tg) x cs) (hx : VOk w (RoS w w0.heap.size tg) x cs) (hb : GrO w.heap.size um v')
    (ho : W.ownsRow w0.heap.size 70 7 v' (m.length + 1) (css.flatten ++ cs)) (hg : w0.grows W) (hs : w.heap.size ≤ W.heap.size)
    (hr : ∀ g, g < w.heap.size → g ≠ gS → um.ownBlock ≠ some g → W.row g = w.row g) (hw : W.row gS = some (.cells (layV curS.toList ls.length [v']).toArray 58)) :
    Stk w0 W b3 b4 ⟨os, ls ++ [m ++ [x]]⟩ := by
  have hil : ins.length = ls.length := by have := h.ls.len; simp at this; exact this
  have tS : tg gS = some 1 := h.tS gS rfl
  have tM : ∀ g, um.ownBlock = some g → tg g = some (ls.length + 4) := fun g hg => h.ls.tI ls.length um g (by rw [← hil]; simp) hg
  have hSS := h.ss
  simp only [List.length_append, List.length_singleton] at hSS
  have hS2 : W.ownsRow w0.heap.size 58 1 (.slice (some ⟨gS, 0, none⟩) (ls.length + 1) cS) (ls.length + 1) (ins ++ [v']) := by
    have := own_layV (W := W) hSS (o := ls.length) (vs := [v']) (by simp) (fun cur hc => by rw [rS] at hc; injection hc with hc; injection hc with hc; subst hc; exact hw)
    rwa [← hil, layV_end _ _ _ (by simp), hil] at this
  have n3 : b3 ≠ gS := fun e => by rw [e, tS] at t3; simp at t3
  have n4 : b4 ≠ gS := fun e => by rw [e, tS] at t4; simp at t4
  have m3 : um.ownBlock ≠ some b3 := fun e => by have := tM _ e; rw [t3] at this; simp at this
  have m4 : um.ownBlock ≠ some b4 := fun e => by have := tM _ e; rw [t4] at this; simp at this
  have z3 := (row_sz' hx3).1
  have z4 := (row_sz' hx4).1
  refine ⟨_, vO, _, _, hg, h.last h1 h2 hx hb ho hS2 hs (fun g _ a b c d e => hr g a (fun hh => b (by rw [hh]; exact tS)) fun hh => e (tM g hh)), ?_, ?_, l3, l4, (hr b3 z3 n3 m3).trans hx3, (hr b4 z4 n4 m4).trans hx4⟩
  · rw [tgNew_old _ _ _ _ z3]; exact t3
  · rw [tgNew_old _ _ _ _ z4]; exact t4
set_option maxRecDepth 100000 in
set_option maxHeartbeats 8000000 in
theorem rshut_any {w0 w : World} {b3 b4 : Nat} {p : Ps} (h : Stk w0 w b3 b4 p) (hl : p.ls.length = p.os.length + 1) (ho : p.os ≠ []) (ht : p.tot ≤ 4194304) :
    Calls Tryz.prog 48 #[.pointer (some ⟨b3, 0, none⟩), .pointer (some ⟨b4, 0, none⟩)] w fun r w' => r = .returned (.tuple #[]) ∧ Stk w0 w' b3 b4 p.shut := by
  obtain ⟨os, t, ls, m, l, rfl, hls⟩ := Ps.shut_parts hl ho
  obtain ⟨tg, vO, vS, ins, hg0, hD, t3, t4, l3, l4, hx3, hx4⟩ := h
  rw [Ps.shut_mk]
  have hil : ins.length = os.length + 1 + 1 := by have := hD.ls.len; simp at this; omega
  obtain ⟨i1, ul, rfl, hi1⟩ := snoc_of hil
  obtain ⟨ins, um, rfl, hi2⟩ := snoc_of hi1
  obtain ⟨aU, cU, rfl⟩ : ∃ a c, ul = .slice a l.length c := by
    obtain ⟨_, _, _, h3⟩ := hD.ls.inn (os.length + 1) ul l (by rw [← hi1]; simp) (by rw [List.getElem?_append_right (by simp [hls])]; simp [hls])
    exact own_slice h3
  obtain ⟨aM, cM, rfl⟩ : ∃ a c, um = .slice a m.length c := by
    obtain ⟨_, _, _, h3⟩ := hD.ls.inn os.length um m (by rw [← hi2]; simp) (by rw [← hls]; simp)
    exact own_slice h3
  have hMlt : ∀ g, (Value.slice aM m.length cM).ownBlock = some g → g < w.heap.size := fun g hg => by
    obtain ⟨_, _, _, h3⟩ := hD.ls.inn os.length (.slice aM m.length cM) m (by rw [← hi2]; simp) (by rw [← hls]; simp)
    exact (h3.lt g hg).2
  have hO := hD.os
  have hS := hD.ss
  simp only [List.length_append, List.length_singleton, List.flatMap_append, List.flatMap_cons, List.flatMap_nil, List.append_nil, hls] at hO hS
  have hne : b3 ≠ b4 := fun e => by rw [e, t4] at t3; simp at t3
  have hfl : (os.flatMap Tk.cs).length = os.length * 6 := by
    have : ∀ (o : List Tk), (o.flatMap Tk.cs).length = o.length * 6 := fun o => by
      induction o with
      | nil => rfl
      | cons a o ih => rw [List.flatMap_cons, List.length_append, ih]; simp; omega
    exact this os
  obtain ⟨gO, cO, curO, rfl, eO, kO, mO, bO, zO, rO, sO, -⟩ := own_elt hO (X := os.flatMap Tk.cs) (cs := t.cs) (Y := []) (by simp) (by simp)
  obtain ⟨gS, cS, curS, rfl, eS, kS, mS, bS, zS, rS, sS, uS⟩ := own_elt hS (X := ins ++ [.slice aM m.length cM]) (cs := [.slice aU l.length cU]) (Y := []) (by simp) (by simp)
  obtain ⟨gS', cS', _, e1, eM, -⟩ := own_elt hS (X := ins) (cs := [.slice aM m.length cM]) (Y := [.slice aU l.length cU]) (by simp) (by simp)
  injection e1 with e1 _ e3
  subst e3
  injection e1 with e1
  injection e1 with e1
  subst e1
  rw [hfl] at eO
  have hXl : (ins ++ [Value.slice aM m.length cM]).length = os.length + 1 := by simp [hi2]
  rw [hXl] at eS
  rw [hi2] at eM
  have tO := hD.tO gO rfl
  have tS := hD.tS gS rfl
  have n3O : b3 ≠ gO := fun e => by rw [e, tO] at t3; simp at t3
  have n3S : b3 ≠ gS := fun e => by rw [e, tS] at t3; simp at t3
  have n4O : b4 ≠ gO := fun e => by rw [e, tO] at t4; simp at t4
  have n4S : b4 ≠ gS := fun e => by rw [e, tS] at t4; simp at t4
  have nOS : gO ≠ gS := fun e => by rw [e, tS] at tO; simp at tO
  obtain ⟨hP, hV⟩ := hD.pop
  obtain ⟨k, s, n1, d, q1, q2⟩ := t
  have eO1 : segOk (os.length * 6) 6 (w.row gO) = true := eO.1
  have eO2 : segV (os.length * 6) 6 (w.row gO) = .agg #[.int .i64 k, .string s, .int .i64 n1, .int .i64 d, .bool q1, .bool q2] := eO.2
  have cS0 := eS.cell (j := 0) rfl
  have cM0 := eM.cell (j := 0) rfl
  rw [World.cell?_row, Nat.add_zero] at cS0 cM0
  have z3 := row_sz' hx3
  have z4 := row_sz' hx4
  have zO' := lt_sz zO
  have zS' := lt_sz zS
  have i1 : (0 : Int) ≤ (os.length : Int) := by omega
  have i2 : (os.length : Int) < (os.length : Int) + 1 := by omega
  have i3 : (0 : Int) ≤ (os.length : Int) + 1 := by omega
  have i4 : (os.length : Int) < (os.length : Int) + 1 + 1 := by omega
  have i5 : (os.length : Int) + 1 < (os.length : Int) + 1 + 1 := by omega
  have i6 : (os.length : Int) ≤ (cO : Int) := by omega
  have i7 : (os.length : Int) + 1 ≤ (cS : Int) := by omega
  have i8 : os.length ≤ cO := by omega
  have hne2 : b4 ≠ b3 := fun e => hne e.symm
  have hbig : os.length + 1 ≤ 4194304 := by unfold Ps.tot at ht; simp at ht; omega
  have HL := Lib.hid hls
  have HT := Lib.hid ht
  have HB := Lib.hid hil
  have HI := Lib.hid hi2
  clear ht hl ho hfl hXl
  have HRO := Lib.hid rO
  have HRS := Lib.hid rS
  have HCO := Lib.hid sO
  have HCS := Lib.hid sS
  have HUS := Lib.hid uS
  clear rO rS sO sS uS eO eS eM
  have hle3 : b3 < w.heap.size := z3.1
  have hle4 : b4 < w.heap.size := z4.1
  rw [show (ins ++ [Value.slice aM m.length cM]).length = os.length + 1 by simp [hi2]] at hP hV
  rw [show (ls ++ [m]).length = os.length + 1 by simp [hls]] at hP
  have HD := Lib.hid hD
  have HP := Lib.hid hP
  have HV := Lib.hid hV
  clear hD hP hV hO hS hls hil hi1 hi2
  go_enter Tryz.func48, Tryz.ntmps48
  go_wp2_with fail
  refine wp_region_plus_seq_tail 11 (by kernel_rfl) (by kernel_rfl) (fun x0 => ?_)
  simp only [List.take_succ_cons, List.take_zero, List.drop_succ_cons, List.drop_zero]
  repeat (any_goals (first | (refine wpSeqL_free rfl ?_; first | (go_big_quiet_skip; refine wpQuiet_nil ?_) | (go_big_quiet_step (fail); refine wpQuiet_nil ?_) | (refine wpQuiet_step (fun K hK => ?_); go_simp; split <;> (refine hK _ ?_; clear hK K; refine wpQuiet_nil ?_))) | (refine wpSeqL_link rfl (fun K hK => ?_); go_simp; first | first | (refine hK _ _ (by show World.grows _ _; repeat (first | assumption | exact grA | apply grB | apply grC | apply grD)) ?_; clear hK K) | ((fail); refine ⟨_, rfl, hK _ _ (by show World.grows _ _; repeat (first | assumption | exact grA | apply grB | apply grC | apply grD)) ?_⟩; clear hK K) | (split <;> (first | (refine hK _ _ (by show World.grows _ _; repeat (first | assumption | exact grA | apply grB | apply grC | apply grD)) ?_; clear hK K) | ((fail); refine ⟨_, rfl, hK _ _ (by show World.grows _ _; repeat (first | assumption | exact grA | apply grB | apply grC | apply grD)) ?_⟩; clear hK K))))))
  all_goals (refine wpSeqL_end ?_)
  go_wp2_with fail
  refine abs_rows (w := w) (G := fun W => Code.wp _ _ _ _ W) (by repeat (with_reducible first | assumption | exact grA | apply grB | apply grC | apply grD | refine grE ?_ (by omega) _ | refine grF ?_ (by omega) _ _)) [(b3, .cells #[.slice (some ⟨gS, 0, none⟩) (os.length + 1 + 1) cS] 89), (b4, .cells #[.slice (some ⟨gO, 0, none⟩) (os.length + 1) cO] 27), ((w.heap.size + x0.bs.size), .cells #[.int .i64 k, .string s, .int .i64 n1, .int .i64 d, .bool q1, .bool q2, .slice aU l.length cU] 70)] (by simp [go_sem, *]) ?_
  intro w1 gw1 hl
  simp only [List.forall_mem_cons, List.not_mem_nil, false_implies, implies_true, and_true] at hl
  obtain ⟨hx3, hx4, hv⟩ := hl
  have zhx3 := row_sz' hx3
  have zhx4 := row_sz' hx4
  have zhv := row_sz' hv
  have hbv : w.heap.size ≤ w.heap.size + x0.bs.size := Nat.le_add_right _ _
  generalize w.heap.size + x0.bs.size = bv at *
  have hw2 : IntKind.i64.wrap (os.length : Int) = (os.length : Int) := by rw [IntKind.wrap_i64]; omega
  obtain ⟨J, hJd⟩ : ∃ J : Act → World → (Nat → Bool) → Act → World → Prop, J = (fun a0 w0 L a' W => Fr a0 [17, 18, 19, 20, 21, 22, 23] a' ∧ ((L 7 = false → W = w1.drew) ∧ (L 7 = true → L 8 = false → W = (w1.drew.setCell ⟨b3, 0, none⟩ (.slice (some ⟨gS, 0, none⟩) (os.length + 1) cS))) ∧ (L 8 = true → W = ((w1.drew.setCell ⟨b3, 0, none⟩ (.slice (some ⟨gS, 0, none⟩) (os.length + 1) cS)).setCell ⟨b4, 0, none⟩ (.slice (some ⟨gO, 0, none⟩) os.length cO)))) ∧ (L 0 = true → a'.tmps.getD 17 undef = .slice (some ⟨gS, 0, none⟩) (os.length + 1 + 1) cS) ∧ (L 1 = true → a'.tmps.getD 18 undef = .int .i64 ((os.length : Int) + 1)) ∧ (L 2 = true → a'.tmps.getD 19 undef = .slice (some ⟨gS, 0, none⟩) (os.length + 1) cS) ∧ (L 3 = true → a'.tmps.getD 20 undef = .slice (some ⟨gO, 0, none⟩) (os.length + 1) cO) ∧ (L 4 = true → a'.tmps.getD 21 undef = .int .i64 ((os.length : Int) + 1)) ∧ (L 5 = true → a'.tmps.getD 22 undef = .int .i64 os.length) ∧ (L 6 = true → a'.tmps.getD 23 undef = .slice (some ⟨gO, 0, none⟩) os.length cO) ∧ True) := ⟨_, rfl⟩
  refine wp_region_inv_lit (by kernel_rfl) (by kernel_rfl) J ?_ ?_ ?_
  · intro L hL
    rw [hJd]
    exact ⟨Fr.refl, ⟨fun _ => rfl, (iN (hL 7 (by decide))), (iN (hL 8 (by decide)))⟩, (iN (hL 0 (by decide))), (iN (hL 1 (by decide))), (iN (hL 2 (by decide))), (iN (hL 3 (by decide))), (iN (hL 4 (by decide))), (iN (hL 5 (by decide))), (iN (hL 6 (by decide))), trivial⟩
  · refine And.intro ?_ (And.intro ?_ (And.intro ?_ (And.intro ?_ (And.intro ?_ (And.intro ?_ (And.intro ?_ (And.intro ?_ (And.intro ?_ trivial))))))))
    · intro L a W hL hd hcl hJ K hK
      rw [hJd] at hJ
      obtain ⟨hf, hW, f0, f1, f2, f3, f4, f5, f6, hT⟩ := hJ
      have hn : a.tmps.size = 52 := hf.2.1
      have e0 := hf.2.2 0 (by decide); have e0r := get_eval e0
      have hWe := hW.1 (Bool.eq_false_iff.2 fun h => absurd ((hcl 7 0 (by decide) (by kernel_rfl) h).symm.trans hL) (by decide))
      have HF := Lib.hid (And.intro hL (And.intro hn (And.intro hf (And.intro hW (And.intro f0 (And.intro f1 (And.intro f2 (And.intro f3 (And.intro f4 (And.intro f5 (And.intro f6 trivial)))))))))))
      rw [hWe]
      clear hL hd hcl hn hf hW f0 f1 f2 f3 f4 f5 f6
      go_simp
      obtain ⟨hL, hn, hf, hW, f0, f1, f2, f3, f4, f5, f6, _⟩ := HF.out
      refine hK _ _ ?_
      rw [hJd]
      exact ⟨(hf.put (by decide)), (by rw [upL_ne L (by decide : 7 ≠ 0), upL_ne L (by decide : 8 ≠ 0)]; rw [hWe] at hW; exact hW), (fun _ => iS hn rfl), (iq rfl rfl f1), (iq rfl rfl f2), (iq rfl rfl f3), (iq rfl rfl f4), (iq rfl rfl f5), (iq rfl rfl f6), trivial⟩
    · intro L a W hL hd hcl hJ K hK
      rw [hJd] at hJ
      obtain ⟨hf, hW, f0, f1, f2, f3, f4, f5, f6, hT⟩ := hJ
      have hn : a.tmps.size = 52 := hf.2.1
      have e2 := hf.2.2 2 (by decide); have e2r := get_eval e2
      have hWe := hW.1 (Bool.eq_false_iff.2 fun h => absurd ((hcl 7 1 (by decide) (by kernel_rfl) h).symm.trans hL) (by decide))
      have HF := Lib.hid (And.intro hL (And.intro hn (And.intro hf (And.intro hW (And.intro f0 (And.intro f1 (And.intro f2 (And.intro f3 (And.intro f4 (And.intro f5 (And.intro f6 trivial)))))))))))
      rw [hWe]
      clear hL hd hcl hn hf hW f0 f1 f2 f3 f4 f5 f6
      go_simp
      obtain ⟨hL, hn, hf, hW, f0, f1, f2, f3, f4, f5, f6, _⟩ := HF.out
      refine hK _ _ ?_
      rw [hJd]
      exact ⟨(hf.put (by decide)), (by rw [upL_ne L (by decide : 7 ≠ 1), upL_ne L (by decide : 8 ≠ 1)]; rw [hWe] at hW; exact hW), (iq rfl rfl f0), (fun _ => iS hn rfl), (iq rfl rfl f2), (iq rfl rfl f3), (iq rfl rfl f4), (iq rfl rfl f5), (iq rfl rfl f6), trivial⟩
    · intro L a W hL hd hcl hJ K hK
      rw [hJd] at hJ
      obtain ⟨hf, hW, f0, f1, f2, f3, f4, f5, f6, hT⟩ := hJ
      have hn : a.tmps.size = 52 := hf.2.1
      have p0 := f0 (hd 0 (by kernel_rfl))
      have p1 := f1 (hd 1 (by kernel_rfl))
      have p0r := get_eval p0
      have p1r := get_eval p1
      have hWe := hW.1 (Bool.eq_false_iff.2 fun h => absurd ((hcl 7 2 (by decide) (by kernel_rfl) h).symm.trans hL) (by decide))
      have HF := Lib.hid (And.intro hL (And.intro hn (And.intro hf (And.intro hW (And.intro f0 (And.intro f1 (And.intro f2 (And.intro f3 (And.intro f4 (And.intro f5 (And.intro f6 trivial)))))))))))
      rw [hWe]
      clear hL hd hcl hn hf hW f0 f1 f2 f3 f4 f5 f6
      go_simp
      obtain ⟨hL, hn, hf, hW, f0, f1, f2, f3, f4, f5, f6, _⟩ := HF.out
      refine hK _ _ ?_
      rw [hJd]
      exact ⟨(hf.put (by decide)), (by rw [upL_ne L (by decide : 7 ≠ 2), upL_ne L (by decide : 8 ≠ 2)]; rw [hWe] at hW; exact hW), (iq rfl rfl f0), (iq rfl rfl f1), (fun _ => iS hn rfl), (iq rfl rfl f3), (iq rfl rfl f4), (iq rfl rfl f5), (iq rfl rfl f6), trivial⟩
    · intro L a W hL hd hcl hJ K hK
      rw [hJd] at hJ
      obtain ⟨hf, hW, f0, f1, f2, f3, f4, f5, f6, hT⟩ := hJ
      have hn : a.tmps.size = 52 := hf.2.1
      have e1 := hf.2.2 1 (by decide); have e1r := get_eval e1
      rcases hb : L 7 with _ | _
      · have hWe := hW.1 hb
        have HF := Lib.hid (And.intro hL (And.intro hn (And.intro hf (And.intro hW (And.intro f0 (And.intro f1 (And.intro f2 (And.intro f3 (And.intro f4 (And.intro f5 (And.intro f6 trivial)))))))))))
        rw [hWe]
        clear hL hd hcl hn hf hW f0 f1 f2 f3 f4 f5 f6
        go_simp
        obtain ⟨hL, hn, hf, hW, f0, f1, f2, f3, f4, f5, f6, _⟩ := HF.out
        refine hK _ _ ?_
        rw [hJd]
        exact ⟨(hf.put (by decide)), (by rw [upL_ne L (by decide : 7 ≠ 3), upL_ne L (by decide : 8 ≠ 3)]; rw [hWe] at hW; exact hW), (iq rfl rfl f0), (iq rfl rfl f1), (iq rfl rfl f2), (fun _ => iS hn rfl), (iq rfl rfl f4), (iq rfl rfl f5), (iq rfl rfl f6), trivial⟩
      · have hWe := hW.2.1 hb (Bool.eq_false_iff.2 fun h => absurd ((hcl 8 3 (by decide) (by kernel_rfl) h).symm.trans hL) (by decide))
        have HF := Lib.hid (And.intro hL (And.intro hn (And.intro hf (And.intro hW (And.intro f0 (And.intro f1 (And.intro f2 (And.intro f3 (And.intro f4 (And.intro f5 (And.intro f6 trivial)))))))))))
        rw [hWe]
        clear hL hd hcl hn hf hW f0 f1 f2 f3 f4 f5 f6
        go_simp
        obtain ⟨hL, hn, hf, hW, f0, f1, f2, f3, f4, f5, f6, _⟩ := HF.out
        refine hK _ _ ?_
        rw [hJd]
        exact ⟨(hf.put (by decide)), (by rw [upL_ne L (by decide : 7 ≠ 3), upL_ne L (by decide : 8 ≠ 3)]; rw [hWe] at hW; exact hW), (iq rfl rfl f0), (iq rfl rfl f1), (iq rfl rfl f2), (fun _ => iS hn rfl), (iq rfl rfl f4), (iq rfl rfl f5), (iq rfl rfl f6), trivial⟩
    · intro L a W hL hd hcl hJ K hK
      rw [hJd] at hJ
      obtain ⟨hf, hW, f0, f1, f2, f3, f4, f5, f6, hT⟩ := hJ
      have hn : a.tmps.size = 52 := hf.2.1
      have e2 := hf.2.2 2 (by decide); have e2r := get_eval e2
      rcases hb : L 7 with _ | _
      · have hWe := hW.1 hb
        have HF := Lib.hid (And.intro hL (And.intro hn (And.intro hf (And.intro hW (And.intro f0 (And.intro f1 (And.intro f2 (And.intro f3 (And.intro f4 (And.intro f5 (And.intro f6 trivial)))))))))))
        rw [hWe]
        clear hL hd hcl hn hf hW f0 f1 f2 f3 f4 f5 f6
        go_simp
        obtain ⟨hL, hn, hf, hW, f0, f1, f2, f3, f4, f5, f6, _⟩ := HF.out
        refine hK _ _ ?_
        rw [hJd]
        exact ⟨(hf.put (by decide)), (by rw [upL_ne L (by decide : 7 ≠ 4), upL_ne L (by decide : 8 ≠ 4)]; rw [hWe] at hW; exact hW), (iq rfl rfl f0), (iq rfl rfl f1), (iq rfl rfl f2), (iq rfl rfl f3), (fun _ => iS hn rfl), (iq rfl rfl f5), (iq rfl rfl f6), trivial⟩
      · have hWe := hW.2.1 hb (Bool.eq_false_iff.2 fun h => absurd ((hcl 8 4 (by decide) (by kernel_rfl) h).symm.trans hL) (by decide))
        have HF := Lib.hid (And.intro hL (And.intro hn (And.intro hf (And.intro hW (And.intro f0 (And.intro f1 (And.intro f2 (And.intro f3 (And.intro f4 (And.intro f5 (And.intro f6 trivial)))))))))))
        rw [hWe]
        clear hL hd hcl hn hf hW f0 f1 f2 f3 f4 f5 f6
        go_simp
        obtain ⟨hL, hn, hf, hW, f0, f1, f2, f3, f4, f5, f6, _⟩ := HF.out
        refine hK _ _ ?_
        rw [hJd]
        exact ⟨(hf.put (by decide)), (by rw [upL_ne L (by decide : 7 ≠ 4), upL_ne L (by decide : 8 ≠ 4)]; rw [hWe] at hW; exact hW), (iq rfl rfl f0), (iq rfl rfl f1), (iq rfl rfl f2), (iq rfl rfl f3), (fun _ => iS hn rfl), (iq rfl rfl f5), (iq rfl rfl f6), trivial⟩
    · intro L a W hL hd hcl hJ K hK
      rw [hJd] at hJ
      obtain ⟨hf, hW, f0, f1, f2, f3, f4, f5, f6, hT⟩ := hJ
      have hn : a.tmps.size = 52 := hf.2.1
      have p4 := f4 (hd 4 (by kernel_rfl))
      have p4r := get_eval p4
      rcases hb : L 7 with _ | _
      · have hWe := hW.1 hb
        have HF := Lib.hid (And.intro hL (And.intro hn (And.intro hf (And.intro hW (And.intro f0 (And.intro f1 (And.intro f2 (And.intro f3 (And.intro f4 (And.intro f5 (And.intro f6 trivial)))))))))))
        rw [hWe]
        clear hL hd hcl hn hf hW f0 f1 f2 f3 f4 f5 f6
        go_simp
        obtain ⟨hL, hn, hf, hW, f0, f1, f2, f3, f4, f5, f6, _⟩ := HF.out
        refine hK _ _ ?_
        rw [hJd]
        exact ⟨(hf.put (by decide)), (by rw [upL_ne L (by decide : 7 ≠ 5), upL_ne L (by decide : 8 ≠ 5)]; rw [hWe] at hW; exact hW), (iq rfl rfl f0), (iq rfl rfl f1), (iq rfl rfl f2), (iq rfl rfl f3), (iq rfl rfl f4), (fun _ => iS hn rfl), (iq rfl rfl f6), trivial⟩
      · have hWe := hW.2.1 hb (Bool.eq_false_iff.2 fun h => absurd ((hcl 8 5 (by decide) (by kernel_rfl) h).symm.trans hL) (by decide))
        have HF := Lib.hid (And.intro hL (And.intro hn (And.intro hf (And.intro hW (And.intro f0 (And.intro f1 (And.intro f2 (And.intro f3 (And.intro f4 (And.intro f5 (And.intro f6 trivial)))))))))))
        rw [hWe]
        clear hL hd hcl hn hf hW f0 f1 f2 f3 f4 f5 f6
        go_simp
        obtain ⟨hL, hn, hf, hW, f0, f1, f2, f3, f4, f5, f6, _⟩ := HF.out
        refine hK _ _ ?_
        rw [hJd]
        exact ⟨(hf.put (by decide)), (by rw [upL_ne L (by decide : 7 ≠ 5), upL_ne L (by decide : 8 ≠ 5)]; rw [hWe] at hW; exact hW), (iq rfl rfl f0), (iq rfl rfl f1), (iq rfl rfl f2), (iq rfl rfl f3), (iq rfl rfl f4), (fun _ => iS hn rfl), (iq rfl rfl f6), trivial⟩
    · intro L a W hL hd hcl hJ K hK
      rw [hJd] at hJ
      obtain ⟨hf, hW, f0, f1, f2, f3, f4, f5, f6, hT⟩ := hJ
      have hn : a.tmps.size = 52 := hf.2.1
      have p3 := f3 (hd 3 (by kernel_rfl))
      have p5 := f5 (hd 5 (by kernel_rfl))
      have p3r := get_eval p3
      have p5r := get_eval p5
      rcases hb : L 7 with _ | _
      · have hWe := hW.1 hb
        have HF := Lib.hid (And.intro hL (And.intro hn (And.intro hf (And.intro hW (And.intro f0 (And.intro f1 (And.intro f2 (And.intro f3 (And.intro f4 (And.intro f5 (And.intro f6 trivial)))))))))))
        rw [hWe]
        clear hL hd hcl hn hf hW f0 f1 f2 f3 f4 f5 f6
        go_simp
        obtain ⟨hL, hn, hf, hW, f0, f1, f2, f3, f4, f5, f6, _⟩ := HF.out
        refine hK _ _ ?_
        rw [hJd]
        exact ⟨(hf.put (by decide)), (by rw [upL_ne L (by decide : 7 ≠ 6), upL_ne L (by decide : 8 ≠ 6)]; rw [hWe] at hW; exact hW), (iq rfl rfl f0), (iq rfl rfl f1), (iq rfl rfl f2), (iq rfl rfl f3), (iq rfl rfl f4), (iq rfl rfl f5), (fun _ => iS hn rfl), trivial⟩
      · have hWe := hW.2.1 hb (Bool.eq_false_iff.2 fun h => absurd ((hcl 8 6 (by decide) (by kernel_rfl) h).symm.trans hL) (by decide))
        have HF := Lib.hid (And.intro hL (And.intro hn (And.intro hf (And.intro hW (And.intro f0 (And.intro f1 (And.intro f2 (And.intro f3 (And.intro f4 (And.intro f5 (And.intro f6 trivial)))))))))))
        rw [hWe]
        clear hL hd hcl hn hf hW f0 f1 f2 f3 f4 f5 f6
        go_simp
        obtain ⟨hL, hn, hf, hW, f0, f1, f2, f3, f4, f5, f6, _⟩ := HF.out
        refine hK _ _ ?_
        rw [hJd]
        exact ⟨(hf.put (by decide)), (by rw [upL_ne L (by decide : 7 ≠ 6), upL_ne L (by decide : 8 ≠ 6)]; rw [hWe] at hW; exact hW), (iq rfl rfl f0), (iq rfl rfl f1), (iq rfl rfl f2), (iq rfl rfl f3), (iq rfl rfl f4), (iq rfl rfl f5), (fun _ => iS hn rfl), trivial⟩
    · intro L a W hL hd hcl hJ K hK
      rw [hJd] at hJ
      obtain ⟨hf, hW, f0, f1, f2, f3, f4, f5, f6, hT⟩ := hJ
      have hn : a.tmps.size = 52 := hf.2.1
      have p0 := f0 (hd 0 (by kernel_rfl))
      have p1 := f1 (hd 1 (by kernel_rfl))
      have p2 := f2 (hd 2 (by kernel_rfl))
      have e0 := hf.2.2 0 (by decide); have e0r := get_eval e0
      have p2r := get_eval p2
      have KF1 : L 8 = false := (Bool.eq_false_iff.2 fun h => absurd ((hcl 8 7 (by decide) (by kernel_rfl) h).symm.trans hL) (by decide))
      have hWe := hW.1 hL
      have HF := Lib.hid (And.intro hL (And.intro hn (And.intro hf (And.intro hW (And.intro f0 (And.intro f1 (And.intro f2 (And.intro f3 (And.intro f4 (And.intro f5 (And.intro f6 trivial)))))))))))
      rw [hWe]
      clear hL hd hcl hn hf hW f0 f1 f2 f3 f4 f5 f6
      go_simp
      obtain ⟨hL, hn, hf, hW, f0, f1, f2, f3, f4, f5, f6, _⟩ := HF.out
      refine hK _ _ ?_
      rw [hJd]
      exact ⟨hf, ⟨(fun h => absurd ((upL_self L 7).symm.trans h) (by decide)), (fun _ _ => rfl), (fun h => absurd h (by rw [upL_ne L (by decide)]; rw [KF1]; decide))⟩, (iq0 rfl f0), (iq0 rfl f1), (iq0 rfl f2), (iq0 rfl f3), (iq0 rfl f4), (iq0 rfl f5), (iq0 rfl f6), trivial⟩
    · intro L a W hL hd hcl hJ K hK
      rw [hJd] at hJ
      obtain ⟨hf, hW, f0, f1, f2, f3, f4, f5, f6, hT⟩ := hJ
      have hn : a.tmps.size = 52 := hf.2.1
      have p0 := f0 (hd 0 (by kernel_rfl))
      have p1 := f1 (hd 1 (by kernel_rfl))
      have p2 := f2 (hd 2 (by kernel_rfl))
      have p3 := f3 (hd 3 (by kernel_rfl))
      have p4 := f4 (hd 4 (by kernel_rfl))
      have p5 := f5 (hd 5 (by kernel_rfl))
      have p6 := f6 (hd 6 (by kernel_rfl))
      have e1 := hf.2.2 1 (by decide); have e1r := get_eval e1
      have p6r := get_eval p6
      have KT0 : upL L 8 7 = true := upL_of (hd 7 (by kernel_rfl))
      have hWe := hW.2.1 (hd 7 (by kernel_rfl)) hL
      have HF := Lib.hid (And.intro hL (And.intro hn (And.intro hf (And.intro hW (And.intro f0 (And.intro f1 (And.intro f2 (And.intro f3 (And.intro f4 (And.intro f5 (And.intro f6 trivial)))))))))))
      rw [hWe]
      clear hL hd hcl hn hf hW f0 f1 f2 f3 f4 f5 f6
      go_simp
      obtain ⟨hL, hn, hf, hW, f0, f1, f2, f3, f4, f5, f6, _⟩ := HF.out
      refine hK _ _ ?_
      rw [hJd]
      exact ⟨hf, ⟨(fun h => absurd (KT0.symm.trans h) (by decide)), (fun _ h => absurd ((upL_self L 8).symm.trans h) (by decide)), (fun _ => rfl)⟩, (iq0 rfl f0), (iq0 rfl f1), (iq0 rfl f2), (iq0 rfl f3), (iq0 rfl f4), (iq0 rfl f5), (iq0 rfl f6), trivial⟩
  intro a W hJ
  rw [hJd] at hJ
  obtain ⟨hf, hW, f0, f1, f2, f3, f4, f5, f6, _⟩ := hJ
  clear hJd
  replace hW := hW.2.2 rfl
  replace f0 := f0 rfl
  replace f1 := f1 rfl
  replace f2 := f2 rfl
  replace f3 := f3 rfl
  replace f4 := f4 rfl
  replace f5 := f5 rfl
  replace f6 := f6 rfl
  have ha := hf.puts [17, 18, 19, 20, 21, 22, 23] _ (by intro d hd; show d < 52; revert d; decide)
  simp only [List.map_cons, List.map_nil, f0, f1, f2, f3, f4, f5, f6] at ha
  clear f0 f1 f2 f3 f4 f5 f6 hf
  subst ha
  subst hW
  simp only [putL]
  go_simp
  have hg1 : w0.grows w1 := hg0.trans gw1
  have hG2 : w0.grows ((w1.setCell ⟨b3, 0, none⟩ (.slice (some ⟨gS, 0, none⟩) (os.length + 1) cS)).setCell ⟨b4, 0, none⟩ (.slice (some ⟨gO, 0, none⟩) os.length cO)).drew := (World.grows.setCell' (World.grows.setCell' hg1 l3 _ _) l4 _ _).drew
  have hR2 : ∀ g, g < w.heap.size → g ≠ b3 → g ≠ b4 → ((w1.setCell ⟨b3, 0, none⟩ (.slice (some ⟨gS, 0, none⟩) (os.length + 1) cS)).setCell ⟨b4, 0, none⟩ (.slice (some ⟨gO, 0, none⟩) os.length cO)).drew.row g = w.row g := fun g h1 h2 h3 => by
    show ((w1.setCell ⟨b3, 0, none⟩ (.slice (some ⟨gS, 0, none⟩) (os.length + 1) cS)).setCell ⟨b4, 0, none⟩ (.slice (some ⟨gO, 0, none⟩) os.length cO)).row g = _
    rw [World.row_setCell, if_neg h3, World.row_setCell, if_neg h2]; exact gw1.row_eq h1
  have y3 : ((w1.setCell ⟨b3, 0, none⟩ (.slice (some ⟨gS, 0, none⟩) (os.length + 1) cS)).setCell ⟨b4, 0, none⟩ (.slice (some ⟨gO, 0, none⟩) os.length cO)).drew.row b3 = some (.cells #[.slice (some ⟨gS, 0, none⟩) (os.length + 1) cS] 89) := by simp [go_sem, *]
  have y4 : ((w1.setCell ⟨b3, 0, none⟩ (.slice (some ⟨gS, 0, none⟩) (os.length + 1) cS)).setCell ⟨b4, 0, none⟩ (.slice (some ⟨gO, 0, none⟩) os.length cO)).drew.row b4 = some (.cells #[.slice (some ⟨gO, 0, none⟩) os.length cO] 27) := by simp [go_sem, *]
  have y5 : ((w1.setCell ⟨b3, 0, none⟩ (.slice (some ⟨gS, 0, none⟩) (os.length + 1) cS)).setCell ⟨b4, 0, none⟩ (.slice (some ⟨gO, 0, none⟩) os.length cO)).drew.row bv = some (.cells #[.int .i64 k, .string s, .int .i64 n1, .int .i64 d, .bool q1, .bool q2, .slice aU l.length cU] 70) := by
    show ((w1.setCell ⟨b3, 0, none⟩ (.slice (some ⟨gS, 0, none⟩) (os.length + 1) cS)).setCell ⟨b4, 0, none⟩ (.slice (some ⟨gO, 0, none⟩) os.length cO)).row bv = _
    rw [World.row_setCell, if_neg (by omega), World.row_setCell, if_neg (by omega)]; exact hv
  have hsz2 : w.heap.size ≤ ((w1.setCell ⟨b3, 0, none⟩ (.slice (some ⟨gS, 0, none⟩) (os.length + 1) cS)).setCell ⟨b4, 0, none⟩ (.slice (some ⟨gO, 0, none⟩) os.length cO)).drew.heap.size := by have := gw1.below.size; simpa [World.setCell] using this
  generalize ((w1.setCell ⟨b3, 0, none⟩ (.slice (some ⟨gS, 0, none⟩) (os.length + 1) cS)).setCell ⟨b4, 0, none⟩ (.slice (some ⟨gO, 0, none⟩) os.length cO)).drew = w2 at *
  clear gw1 hg1 hx3 hx4 hv zhx3 zhx4 zhv cS0 cM0 eO1 eO2 z3 z4 zO' zS' w1
  have t3' : tgPop tg (os.length + 1) b3 = some 2 := tgPop_low (by omega) t3
  have t4' : tgPop tg (os.length + 1) b4 = some 3 := tgPop_low (by omega) t4
  have hD2 : StkD w2 w0.heap.size (tgPop tg (os.length + 1)) (.slice (some ⟨gO, 0, none⟩) os.length cO) (.slice (some ⟨gS, 0, none⟩) (os.length + 1) cS) (ins ++ [.slice aM m.length cM]) ⟨os, ls ++ [m]⟩ :=
    HP.out.keep hsz2 (fun g _ h2 h3 h4 => hR2 g h2 (fun e => h3 (by rw [e]; exact t3')) (fun e => h4 (by rw [e]; exact t4'))) fun _ _ => rfl
  have hV2 : VOk w2 (RoS w2 w0.heap.size (tgPop tg (os.length + 1))) (.mk ⟨k, s, n1, d, q1, q2⟩ l) [.int .i64 k, .string s, .int .i64 n1, .int .i64 d, .bool q1, .bool q2, .slice aU l.length cU] :=
    HV.out.keep fun g hg _ => ⟨hR2 g hg.2.2 (fun e => by have := hg.2.1; rw [e, t3'] at this; cases this) (fun e => by have := hg.2.1; rw [e, t4'] at this; cases this), hg.1, hg.2.1, by have := hg.2.2; omega⟩
  generalize tgPop tg (os.length + 1) = tg2 at *
  clear HP HV t3 t4 HD
  obtain ⟨css, c1, c2, hOM⟩ := hD2.ls.inn os.length (.slice aM m.length cM) m (by rw [← HI.out]; simp) (by rw [← HL.out]; simp)
  have hSS := hD2.ss
  simp only [List.length_append, List.length_singleton, HL.out] at hSS
  obtain ⟨gS', cS', curS', e1, eM, kS', mS', bS', zS', rS', sS', -⟩ := own_elt hSS (X := ins) (cs := [.slice aM m.length cM]) (Y := []) (by simp) (by simp)
  injection e1 with e1 _ e3
  subst e3
  injection e1 with e1
  injection e1 with e1
  subst e1
  rw [HI.out] at eM
  have cM2 := eM.cell (j := 0) rfl
  rw [World.cell?_row, Nat.add_zero] at cM2
  have hfz : frozenR os.length (w2.row gS) = false := by rw [rS']; simp [frozenR]
  have tS2 : tg2 gS = some 1 := hD2.tS gS rfl
  have hMne : ∀ g, (Value.slice aM m.length cM).ownBlock = some g → g ≠ gS ∧ g < w2.heap.size := fun g hg => ⟨fun e => by
    have := hD2.ls.tI os.length (.slice aM m.length cM) g (by rw [← HI.out]; simp) hg
    rw [e, tS2] at this; simp at this, (hOM.lt g hg).2⟩
  have hml : m.length ≤ 4194304 := by
    have := HT.out
    unfold Ps.tot at this; simp at this; omega
  have HD2 := Lib.hid hD2
  have HV2 := Lib.hid hV2
  have HOM := Lib.hid hOM
  have HC2 := Lib.hid c2
  have HC1 := Lib.hid c1
  have HMN := Lib.hid hMne
  have HRS' := Lib.hid rS'
  have HSS := Lib.hid hSS
  have z3 := row_sz' y3
  have z4 := row_sz' y4
  have z5 := row_sz' y5
  have zS' := lt_sz zS'
  clear hD2 hV2 hOM c1 c2 hMne hSS eM HRO HRS HUS
  have hcS : curS'[os.length]? = some (.slice aM m.length cM) := by rw [rS'] at cM2; exact cM2
  have HML := Lib.hid hMlt
  have hcl : os.length < curS'.size := (Array.getElem?_eq_some_iff.1 hcS).1
  clear hMlt
  go_wp2_with fail
  go_region
  · go_wp2_with fail
    refine abs_rows (w := w2) (G := fun W => Code.wp _ _ _ _ W) (by repeat (with_reducible first | assumption | exact grA | apply grB | apply grC | apply grD | refine grE ?_ (by omega) _ | refine grF ?_ (by omega) _ _)) [(b3, .cells #[.slice (some ⟨gS, 0, none⟩) (os.length + 1) cS] 89), (b4, .cells #[.slice (some ⟨gO, 0, none⟩) os.length cO] 27), (bv, .cells #[.int .i64 k, .string s, .int .i64 n1, .int .i64 d, .bool q1, .bool q2, .slice aU l.length cU] 70), (gS, .cells curS' 58)] (by simp [go_sem, *]) ?_
    intro w3 gw3 hl
    simp only [List.forall_mem_cons, List.not_mem_nil, false_implies, implies_true, and_true] at hl
    obtain ⟨hx3, hx4, hx5, hxS⟩ := hl
    have zhx3 := row_sz' hx3
    have zhx4 := row_sz' hx4
    have zhx5 := row_sz' hx5
    have zhxS := row_sz' hxS
    refine wp_region_seq_tail (S := rowsAs w3 [b3, bv, gS]) 12 (by kernel_rfl) (by kernel_rfl) (rowsAs.drew _ _) ?_
    simp only [List.take_succ_cons, List.take_zero, List.drop_succ_cons, List.drop_zero]
    show wpSeqL _ _ _ _ _ _ (World.drew w3)
    have hdd : w3.grows (World.drew w3) := World.grows.drew World.grows.refl
    repeat (refine wpSeqL_free rfl ?_; refine wpQuiet_step (fun K hK => ?_); (rw [if_pos (by simp [Region.wanted])]; refine Exists.intro ?_ ⟨fun w' hw' => ?_, ?_⟩; rotate_left; focus (have r0 := rowsAs.of hw' hx3 (by simp); have s0 := row_sz' r0; have r1 := rowsAs.of hw' hx5 (by simp); have s1 := row_sz' r1; have r2 := rowsAs.of hw' hxS (by simp); have s2 := row_sz' r2; first | (simp [Oper.quietAt, Oper.quietUpon, go_sem, r0, r1, r2, s0, s1, s2, hcS, i1, i2]; rfl) | (exact ⟨rfl, rfl⟩))); go_simp; refine hK _ ?_; clear hK K; refine wpQuiet_nil ?_)
    have hRA : rowsAs w3 [b3, bv, gS] (World.drew w3) := rowsAs.drew _ _
    have hd0 : (World.drew w3).heap.size = w3.heap.size := rfl
    generalize World.drew w3 = wA at *
    refine wpSeqL_link rfl (fun K hK => ?_)
    go_simp
    have hgB : wA.grows (wA.alloc (.cells #[.int .i64 k, .string s, .int .i64 n1, .int .i64 d, .bool q1, .bool q2, .slice aU l.length cU] 70)) := World.grows.alloc World.grows.refl _
    have hnB : (wA.alloc (.cells #[.int .i64 k, .string s, .int .i64 n1, .int .i64 d, .bool q1, .bool q2, .slice aU l.length cU] 70)).row w3.heap.size = some (.cells #[.int .i64 k, .string s, .int .i64 n1, .int .i64 d, .bool q1, .bool q2, .slice aU l.length cU] 70) := by rw [← hd0]; simp [go_sem]
    have hsB : (wA.alloc (.cells #[.int .i64 k, .string s, .int .i64 n1, .int .i64 d, .bool q1, .bool q2, .slice aU l.length cU] 70)).heap.size = wA.heap.size + 1 := by simp
    have hRB := hRA.grow hgB (by simp [hd0, zhx3, zhx5, zhxS])
    refine hK _ _ hRB ?_
    clear hK K
    generalize wA.alloc (.cells #[.int .i64 k, .string s, .int .i64 n1, .int .i64 d, .bool q1, .bool q2, .slice aU l.length cU] 70) = wB at *
    have hg2B : w2.grows wB := (gw3.trans hdd).trans hgB
    refine wpSeqL_appO w0.heap.size rfl rfl (.tmp 47) (.tmp 49) 58 rfl 70 (.agg #[.int .i64 0, .string ByteArray.empty, .int .i64 0, .int .i64 0, .bool false, .bool false, .slice none 0 0]) 7 72 Tryz.underlying58 (by kernel_rfl) rfl (by omega) (by omega) _ m.length _ rfl (HOM.out.grows hg2B) (some ⟨w3.heap.size, 0, none⟩) 1 1 [.int .i64 k, .string s, .int .i64 n1, .int .i64 d, .bool q1, .bool q2, .slice aU l.length cU] rfl rfl (.inr ⟨_, rfl, fun j u hu => ?_⟩) (by simp [Value.oneCell']) (by omega) (by have := hg2B.below.size; have := hG2.below.size; omega) ?_
    · exact cells_of_row (e := 70) (fr := (0, 0)) hnB j u hu
    intro v8 wG k1 k2 k3
    replace k2 : wB.grownBy wG (Value.slice aM m.length cM).ownBlock := k2
    replace k3 : v8.ownBlock = (Value.slice aM m.length cM).ownBlock ∨ v8.ownBlock = some wB.heap.size := k3
    have hs2B := hg2B.below.size
    have hRG := hRB.grown k2 (fun b hb => by
      have hb' : b = b3 ∨ b = bv ∨ b = gS := by simpa using hb
      refine ⟨by rcases hb' with rfl | rfl | rfl <;> omega, fun e => ?_⟩
      have e1 := HML.out b e.symm
      have e2 := HD2.out.ls.tI os.length (.slice aM m.length cM) b (by rw [← HI.out]; simp) e.symm
      rcases hb' with rfl | rfl | rfl
      · rw [t3'] at e2; simp at e2
      · omega
      · rw [tS2] at e2; simp at e2)
    refine ⟨hRG, ?_⟩
    obtain ⟨a8, c8, rfl⟩ := own_slice k1
    go_simp
    have hGS := hRG.of hxS (by simp)
    have zGS := row_sz' hGS
    repeat (refine wpSeqL_free rfl ?_; refine wpQuiet_step (fun K hK => ?_); (rw [if_pos (by simp [Region.wanted])]; refine Exists.intro ?_ ⟨fun w' hw' => ?_, ?_⟩; rotate_left; focus (have r0 := rowsAs.of hw' hx3 (by simp); have s0 := row_sz' r0; have r1 := rowsAs.of hw' hx5 (by simp); have s1 := row_sz' r1; have r2 := rowsAs.of hw' hxS (by simp); have s2 := row_sz' r2; first | (simp [Oper.quietAt, Oper.quietUpon, go_sem, r0, r1, r2, s0, s1, s2, i1, i2]; rfl) | (exact ⟨rfl, rfl⟩))); go_simp; refine hK _ ?_; clear hK K; refine wpQuiet_nil ?_)
    refine wpSeqL_end ?_
    go_wp2_with fail
    go_end0
    refine ⟨rfl, ?_⟩
    have hGO : w0.grows wG := (hG2.trans hg2B).grown k2 fun k hk => (HOM.out.lt k hk).1
    refine Stk.last (gS := gS) (cS := cS) (by rw [HL.out]; exact HD2.out) t3' t4' l3 l4 (by rw [HL.out]; exact y3) y4 HRS'.out HC1.out HC2.out HV2.out ?_ (ownsRow_rowV k1 fun g hg => ?_) (hGO.setCell' bS _ _) ?_ (fun g h1 h2 h3 => ?_) ?_
    · rcases k3 with k3 | k3
      · exact .inl k3
      · exact .inr ⟨_, k3, hs2B⟩
    · have hne8 : g ≠ gS := fun e => by
        rcases k3 with k3 | k3
        · exact (HMN.out g (k3.symm.trans hg)).1 e
        · rw [k3] at hg; injection hg with hg; have := zS'.1; omega
      rw [World.row_setCell, if_neg hne8]
    · have := k2.size; have e := World.setCell_size' wG ⟨gS, os.length, none⟩ (Value.slice a8 (m.length + 1) c8); omega
    · rw [World.row_setCell, if_neg h2, row_growV k2 (by omega) (fun e => h3 e.symm)]; exact hg2B.row_eq h1
    · rw [World.row_setCell, if_pos rfl, hGS, HL.out, layV_one _ _ _ (by simpa using hcl), ← Array.toList_setIfInBounds]
      rfl
  · go_wp2_with fail
    refine abs_rows (w := w2) (G := fun W => Code.wp _ _ _ _ W) (by repeat (with_reducible first | assumption | exact grA | apply grB | apply grC | apply grD | refine grE ?_ (by omega) _ | refine grF ?_ (by omega) _ _)) [(b3, .cells #[.slice (some ⟨gS, 0, none⟩) (os.length + 1) cS] 89), (b4, .cells #[.slice (some ⟨gO, 0, none⟩) os.length cO] 27), (bv, .cells #[.int .i64 k, .string s, .int .i64 n1, .int .i64 d, .bool q1, .bool q2, .slice aU l.length cU] 70), (gS, .cells curS' 58)] (by simp [go_sem, *]) ?_
    intro w3 gw3 hl
    simp only [List.forall_mem_cons, List.not_mem_nil, false_implies, implies_true, and_true] at hl
    obtain ⟨hx3, hx4, hx5, hxS⟩ := hl
    have zhx3 := row_sz' hx3
    have zhx4 := row_sz' hx4
    have zhx5 := row_sz' hx5
    have zhxS := row_sz' hxS
    refine wp_region_seq_tail (S := rowsAs w3 [b3, bv, gS]) 13 (by kernel_rfl) (by kernel_rfl) (rowsAs.drew _ _) ?_
    simp only [List.take_succ_cons, List.take_zero, List.drop_succ_cons, List.drop_zero]
    show wpSeqL _ _ _ _ _ _ (World.drew w3)
    have hdd : w3.grows (World.drew w3) := World.grows.drew World.grows.refl
    repeat (refine wpSeqL_free rfl ?_; refine wpQuiet_step (fun K hK => ?_); (rw [if_pos (by simp [Region.wanted])]; refine Exists.intro ?_ ⟨fun w' hw' => ?_, ?_⟩; rotate_left; focus (have r0 := rowsAs.of hw' hx3 (by simp); have s0 := row_sz' r0; have r1 := rowsAs.of hw' hx5 (by simp); have s1 := row_sz' r1; have r2 := rowsAs.of hw' hxS (by simp); have s2 := row_sz' r2; first | (simp [Oper.quietAt, Oper.quietUpon, go_sem, r0, r1, r2, s0, s1, s2, hcS, i1, i2]; rfl) | (exact ⟨rfl, rfl⟩))); go_simp; refine hK _ ?_; clear hK K; refine wpQuiet_nil ?_)
    have hRA : rowsAs w3 [b3, bv, gS] (World.drew w3) := rowsAs.drew _ _
    have hd0 : (World.drew w3).heap.size = w3.heap.size := rfl
    generalize World.drew w3 = wA at *
    refine wpSeqL_link rfl (fun K hK => ?_)
    go_simp
    have hgB : wA.grows (wA.alloc (.cells #[.int .i64 0, .string ⟨#[]⟩, .int .i64 0, .int .i64 0, .bool false, .bool false, .slice none 0 0] 70)) := World.grows.alloc World.grows.refl _
    have hnB : (wA.alloc (.cells #[.int .i64 0, .string ⟨#[]⟩, .int .i64 0, .int .i64 0, .bool false, .bool false, .slice none 0 0] 70)).row w3.heap.size = some (.cells #[.int .i64 0, .string ⟨#[]⟩, .int .i64 0, .int .i64 0, .bool false, .bool false, .slice none 0 0] 70) := by rw [← hd0]; simp [go_sem]
    have hsB : (wA.alloc (.cells #[.int .i64 0, .string ⟨#[]⟩, .int .i64 0, .int .i64 0, .bool false, .bool false, .slice none 0 0] 70)).heap.size = wA.heap.size + 1 := by simp
    have hRB := hRA.grow hgB (by simp [hd0, zhx3, zhx5, zhxS])
    refine hK _ _ hRB ?_
    clear hK K
    generalize wA.alloc (.cells #[.int .i64 0, .string ⟨#[]⟩, .int .i64 0, .int .i64 0, .bool false, .bool false, .slice none 0 0] 70) = wB at *
    have hg2B : w2.grows wB := (gw3.trans hdd).trans hgB
    refine wpSeqL_appO w0.heap.size rfl rfl (.tmp 33) (.tmp 36) 58 rfl 70 (.agg #[.int .i64 0, .string ByteArray.empty, .int .i64 0, .int .i64 0, .bool false, .bool false, .slice none 0 0]) 7 72 Tryz.underlying58 (by kernel_rfl) rfl (by omega) (by omega) _ m.length _ rfl (HOM.out.grows hg2B) (some ⟨w3.heap.size, 0, none⟩) 1 1 [.int .i64 0, .string ByteArray.empty, .int .i64 0, .int .i64 0, .bool false, .bool false, .slice none 0 0] rfl rfl (.inr ⟨_, rfl, fun j u hu => ?_⟩) (by simp [Value.oneCell']) (by omega) (by have := hg2B.below.size; have := hG2.below.size; omega) ?_
    · exact cells_of_row (e := 70) (fr := (0, 0)) hnB j u hu
    intro v8 wG k1 k2 k3
    replace k2 : wB.grownBy wG (Value.slice aM m.length cM).ownBlock := k2
    replace k3 : v8.ownBlock = (Value.slice aM m.length cM).ownBlock ∨ v8.ownBlock = some wB.heap.size := k3
    have hs2B := hg2B.below.size
    have hRG := hRB.grown k2 (fun b hb => by
      have hb' : b = b3 ∨ b = bv ∨ b = gS := by simpa using hb
      refine ⟨by rcases hb' with rfl | rfl | rfl <;> omega, fun e => ?_⟩
      have e1 := HML.out b e.symm
      have e2 := HD2.out.ls.tI os.length (.slice aM m.length cM) b (by rw [← HI.out]; simp) e.symm
      rcases hb' with rfl | rfl | rfl
      · rw [t3'] at e2; simp at e2
      · omega
      · rw [tS2] at e2; simp at e2)
    refine ⟨hRG, ?_⟩
    obtain ⟨gV, cV, rfl, bV, zV, hst, hown⟩ := zero_app k1 rfl
    replace k3 : some gV = (Value.slice aM m.length cM).ownBlock ∨ some gV = some wB.heap.size := k3
    go_simp
    have hGS := hRG.of hxS (by simp)
    have zGS := row_sz' hGS
    repeat (refine wpSeqL_free rfl ?_; refine wpQuiet_step (fun K hK => ?_); (rw [if_pos (by simp [Region.wanted])]; refine Exists.intro ?_ ⟨fun w' hw' => ?_, ?_⟩; rotate_left; focus (have r0 := rowsAs.of hw' hx3 (by simp); have s0 := row_sz' r0; have r1 := rowsAs.of hw' hx5 (by simp); have s1 := row_sz' r1; have r2 := rowsAs.of hw' hxS (by simp); have s2 := row_sz' r2; first | (simp [Oper.quietAt, Oper.quietUpon, go_sem, r0, r1, r2, s0, s1, s2, i1, i2]; rfl) | (exact ⟨rfl, rfl⟩))); go_simp; refine hK _ ?_; clear hK K; refine wpQuiet_nil ?_)
    refine wpSeqL_end ?_
    have hneV : gV ≠ gS := fun e => by
      rcases k3 with k3 | k3
      · exact (HMN.out gV k3.symm).1 e
      · injection k3 with k3; have := zS'.1; omega
    have hsd := World.setCell_size' wG ⟨gS, os.length, none⟩ (Value.slice (some ⟨gV, 0, none⟩) (m.length + 1) cV)
    have hrH : (wG.setCell ⟨gS, os.length, none⟩ (Value.slice (some ⟨gV, 0, none⟩) (m.length + 1) cV)).row gV = wG.row gV := by rw [World.row_setCell, if_neg hneV]
    have hst2 := hst (wG.setCell ⟨gS, os.length, none⟩ (Value.slice (some ⟨gV, 0, none⟩) (m.length + 1) cV)) [.int .i64 k, .string s, .int .i64 n1, .int .i64 d, .bool q1, .bool q2, .slice aU l.length cU] rfl (by simp [Value.oneCell']) hrH
    have hown2 := hown _ _ [.int .i64 k, .string s, .int .i64 n1, .int .i64 d, .bool q1, .bool q2, .slice aU l.length cU] rfl hrH rfl
    have HOW := Lib.hid hown2
    have HST := Lib.hid hst
    have HON := Lib.hid hown
    clear hown2 hst hown
    have j1 : (0 : Int) ≤ (m.length : Int) := by omega
    have j2 : (m.length : Int) < (m.length : Int) + 1 := by omega
    go_wp2_with fail
    go_end0
    refine ⟨rfl, ?_⟩
    have hGO : w0.grows wG := (hG2.trans hg2B).grown k2 fun k hk => (HOM.out.lt k hk).1
    have hsz2 := size_layV gV [.int .i64 k, .string s, .int .i64 n1, .int .i64 d, .bool q1, .bool q2, .slice aU l.length cU] (m.length * 7) (wG.setCell ⟨gS, os.length, none⟩ (Value.slice (some ⟨gV, 0, none⟩) (m.length + 1) cV))
    refine Stk.last (gS := gS) (cS := cS) (by rw [HL.out]; exact HD2.out) t3' t4' l3 l4 (by rw [HL.out]; exact y3) y4 HRS'.out HC1.out HC2.out HV2.out ?_ HOW.out (grows_layV bV _ _ (hGO.setCell' bS _ _)) ?_ (fun g h1 h2 h3 => ?_) ?_
    · rcases k3 with k3 | k3
      · exact .inl k3
      · exact .inr ⟨_, k3, hs2B⟩
    · have := k2.size; omega
    · have hgV : g ≠ gV := fun e => by
        rcases k3 with k3 | k3
        · exact h3 (by rw [e]; exact k3.symm)
        · injection k3 with k3; omega
      rw [row_layVO _ _ hgV, World.row_setCell, if_neg h2, row_growV k2 (by omega) (fun e => h3 e.symm)]; exact hg2B.row_eq h1
    · rw [row_layVO _ _ (fun e => hneV e.symm), World.row_setCell, if_pos rfl, hGS, HL.out, layV_one _ _ _ (by simpa using hcl), ← Array.toList_setIfInBounds]
      rfl
end Go.Proofs.YthcaphoejplecaaGreatDoor
