/- Texts of the walk, one after the other; what each proves stands ahead of it. -/
import Derived.Test.YtjfccilmlmimaaaEls
import Derived.Test.YtjfccilmlmimaaaMa
import Derived.Test.YtjfccilmlmimaaaOps
import Derived.Test.YtjfccilmlmimaaaOpsE
set_option linter.unusedSimpArgs false
set_option linter.unusedVariables false
/- WALKS over slices: some places changed against others. No condition but that the places are there. -/
namespace Go.Proofs.Ytjfccilmlmimaaa
open Go.RowKit

theorem stE {Z : Int → List Value} (hZ : ElZ 5 Z) (w : World) (g off : Nat) (x : Int) (h : segOkW off 5 (w.row g) = true) : (storeR 37 (.pointer (some ⟨g, off, none⟩)) (.agg (Z x).toArray)).run Try.prog w = .ok () (w.setCells g off (Z x)) :=
  run_storeR_seg w 37 g off 5 (Z x) (hZ.2 x).1 (by kernel_rfl) (hZ.2 x).2 h

set_option maxRecDepth 100000 in
set_option maxHeartbeats 4000000 in
theorem swapRangeE_any {Z : Int → List Value} {RR0 : List Value} (hZ : ElZ 5 Z) (fv : Value) (g cap a b n N : Nat) (f : Nat → Int) (w : World) (hr : w.row g = some (.cells (elsL Z f N ++ RR0).toArray 37)) (hab : a + n ≤ b) (hb : b + n ≤ N) (hN : N ≤ 1048576) (hc : N ≤ cap) (hc2 : cap ≤ 9223372036854775807) :
    Calls Try.prog 75 #[.slice (some ⟨g, 0, none⟩) N cap, .int .i64 a, .int .i64 b, .int .i64 n, fv] w fun e w' => e = .returned (.tuple #[]) ∧ w'.row g = some (.cells (elsL Z (swR f a b n) N ++ RR0).toArray 37) ∧ On g w w' := by
  go_enter Try.func75, Try.ntmps75
  go_wp2_with fail
  go_loopg [10] n (fun gn v10 wj => ∃ i : Nat, Hid (gn + i = n) ∧ i ≤ n ∧ v10 = .int .i64 i ∧ wj.row g = some (.cells (elsL Z (swR f a b i) N ++ RR0).toArray 37) ∧ On g w wj)
  case atStart => exact ⟨0, rfl, Nat.zero_le _, rfl, by rw [swR_zero]; exact hr, On.refl _ _⟩
  case round =>
    obtain ⟨i, HK, hi, rfl, hx, HO⟩ := hrel
    have z := row_sz' hx
    by_cases hlt : i < n
    · have hn := HK.out
      generalize hF : swR f a b i = F at *
      have w1 : IntKind.wrap .i64 ((a : Int) + (i : Int)) = ((a + i : Nat) : Int) := by rw [wrapI (by omega) (by omega)]; omega
      have w2 : IntKind.wrap .i64 ((b : Int) + (i : Int)) = ((b + i : Nat) : Int) := by rw [wrapI (by omega) (by omega)]; omega
      have l1 : ((a + i : Nat) : Int) < (N : Int) := by omega
      have l2 : ((b + i : Nat) : Int) < (N : Int) := by omega
      have ne : ¬ a + i = b + i := by omega
      have la : a + i < N := by omega
      have lb : b + i < N := by omega
      obtain ⟨ia1, ia2, ia3⟩ := els_seg hZ hx la; obtain ⟨ib1, ib2, ib3⟩ := els_seg hZ hx lb
      have HX := Lib.hid hx
      clear hx
      have hst := stE hZ
      have t1 : ((a : Int) + (i : Int)).toNat = a + i := by omega
      have t2 : ((b : Int) + (i : Int)).toNat = b + i := by omega
      have l3 : 0 ≤ (b : Int) + (i : Int) := by omega
      have l4 : (b : Int) + (i : Int) < (N : Int) := by omega
      have l5 : 0 ≤ (a : Int) + (i : Int) := by omega
      have l6 : (a : Int) + (i : Int) < (N : Int) := by omega
      go_upto_region 3 with fail
      go_region
      go_wp2_with fail
      go_roundg (n - (i + 1))
      case rel => exact ⟨i + 1, Lib.hid (by omega), by omega, by go_num, by
        rw [← swR_step f (by omega : a + i < b), hF, sw_comm, ← up_sw]
        show World.row (World.setCells (World.setCells wr.drew _ _ _) _ _ _) g = _
        rw [World.row_setCells, if_pos rfl, World.row_setCells, if_pos rfl, show wr.drew.row g = wr.row g from rfl, HX.out, segSet_els hZ _ _ _ _ _ (by omega), segSet_els hZ _ _ _ _ _ (by omega)], ((HO.drew).setCells _ _).setCells _ _⟩
      case measure => have := HK.out; omega
    · obtain rfl : i = n := by omega
      go_wp2_with fail
      go_end0
      exact ⟨rfl, hx, HO⟩
end Go.Proofs.Ytjfccilmlmimaaa

/- WALKS over slices: two blocks of whole numbers change places. No condition but that the places are there. -/
namespace Go.Proofs.Ytjfccilmlmimaaa
open Go.RowKit

set_option maxRecDepth 100000 in
set_option maxHeartbeats 4000000 in
theorem rotateE_any {Z : Int → List Value} {RR0 : List Value} (hZ : ElZ 5 Z) (fv : Value) (g cap a m b N : Nat) (f : Nat → Int) (w : World) (hr : w.row g = some (.cells (elsL Z f N ++ RR0).toArray 37)) (ham : a < m) (hmb : m < b) (hb : b ≤ N) (hN : N ≤ 1048576) (hc : N ≤ cap) (hc2 : cap ≤ 9223372036854775807) :
    Calls Try.prog 62 #[.slice (some ⟨g, 0, none⟩) N cap, .int .i64 a, .int .i64 m, .int .i64 b, fv] w fun e w' => e = .returned (.tuple #[]) ∧ w'.row g = some (.cells (elsL Z (rotF f a m b) N ++ RR0).toArray 37) ∧ On g w w' := by
  have e1 : IntKind.wrap .i64 ((m : Int) - (a : Int)) = ((m - a : Nat) : Int) := by rw [wrapI (by omega) (by omega)]; omega
  have e2 : IntKind.wrap .i64 ((b : Int) - (m : Int)) = ((b - m : Nat) : Int) := by rw [wrapI (by omega) (by omega)]; omega
  have q1 : (m : Int) - (a : Int) = ((m - a : Nat) : Int) := by omega
  have q2 : (b : Int) - (m : Int) = ((b - m : Nat) : Int) := by omega
  go_enter Try.func62, Try.ntmps62
  go_wp2_with fail
  go_loopg [10, 11] (b - a) (fun gn v10 v11 wj => ∃ (i j : Nat) (F : Nat → Int), Hid (gn = i + j ∧ 0 < i ∧ 0 < j ∧ i ≤ m ∧ m + j ≤ N) ∧ v10 = .int .i64 i ∧ v11 = .int .i64 j ∧ wj.row g = some (.cells (elsL Z F N ++ RR0).toArray 37) ∧ On g w wj ∧ Hid (rotF F (m - i) m (m + j) = rotF f a m b))
  case atStart =>
    exact ⟨m - a, b - m, f, Lib.hid ⟨by omega, by omega, by omega, by omega, by omega⟩, by go_num, by go_num, hr, On.refl _ _, Lib.hid (by rw [show m - (m - a) = a by omega, show m + (b - m) = b by omega])⟩
  case round =>
    obtain ⟨i, j, F, HK, rfl, rfl, hx, HO, HR⟩ := hrel
    obtain ⟨k1, k2, k3, k4, k5⟩ := HK.out
    have z := row_sz' hx
    have n1 : IntKind.wrap .i64 ((m : Int) - (i : Int)) = ((m - i : Nat) : Int) := by rw [wrapI (by omega) (by omega)]; omega
    have n2 : (m : Int) - (i : Int) = ((m - i : Nat) : Int) := by omega
    clear e1 e2 q1 q2
    rcases Nat.lt_trichotomy i j with h | h | h
    · have s1 := swapRangeE_any hZ fv g cap (m - i) (m + j - i) i N F wr hx (by omega) (by omega) hN hc hc2
      have n3 : (m : Int) + (j : Int) - (i : Int) = ((m + j - i : Nat) : Int) := by omega
      have n4 : (j : Int) - (i : Int) = ((j - i : Nat) : Int) := by omega
      have S1 := Lib.hid s1
      clear s1
      go_wp2_with (go_at_call 75; (with_reducible refine (S1.out).mono ?_); rintro e w1 ⟨rfl, hx1, HO1⟩)
      go_roundg (i + (j - i))
      case rel => exact ⟨i, j - i, _, Lib.hid ⟨rfl, by omega, by omega, by omega, by omega⟩, rfl, by go_num, hx1, HO.trans HO1, Lib.hid ((rot_less F (by omega) (by omega) h).trans HR.out)⟩
      case measure => omega
    · subst h
      have s1 := swapRangeE_any hZ fv g cap (m - i) m i N F wr hx (by omega) (by omega) hN hc hc2
      have S1 := Lib.hid s1
      clear s1
      go_wp2_with (go_at_call 75; (with_reducible refine (S1.out).mono ?_); rintro e w1 ⟨rfl, hx1, HO1⟩)
      go_end0
      exact ⟨rfl, by rw [hx1, rot_same F (by omega), HR.out], HO.trans HO1⟩
    · have s1 := swapRangeE_any hZ fv g cap (m - i) m j N F wr hx (by omega) (by omega) hN hc hc2
      have n4 : (i : Int) - (j : Int) = ((i - j : Nat) : Int) := by omega
      have S1 := Lib.hid s1
      clear s1
      go_wp2_with (go_at_call 75; (with_reducible refine (S1.out).mono ?_); rintro e w1 ⟨rfl, hx1, HO1⟩)
      go_roundg (i - j + j)
      case rel => exact ⟨i - j, j, _, Lib.hid ⟨rfl, by omega, by omega, by omega, by omega⟩, by go_num, rfl, hx1, HO.trans HO1, Lib.hid ((rot_more F (by omega) (by omega) h).trans HR.out)⟩
      case measure => omega
end Go.Proofs.Ytjfccilmlmimaaa

/- WALKS over slices: the insertion sort of places, by what the caller's own function tells. No condition but that the places are there, and that the function goes on. -/
namespace Go
/-- what is asked of the function that compares things: it reads blocks that stand, and tells who is less -/
structure CmpFnE (P : Program) (G : FuncId) (Z : Int → List Value) (g N : Nat) (c : Int → Int → Int) (lt : Int → Int → Prop) (PW : World → Prop) : Prop where
  keep : ∀ W W', PW W → On g W W' → PW W'
  call : ∀ W (x y : Nat), PW W → x < N → y < N → Calls P G #[.agg (Z x).toArray, .agg (Z y).toArray] W (Gives W (.int .i64 (c x y)))
  less : ∀ x y : Nat, y < x → x < N → (c x y < 0 ↔ lt x y)
  tr : ∀ x y z, lt x y → lt y z → lt x z
  or : ∀ x y : Nat, x ≠ y → lt x y ∨ lt y x
end Go
namespace Go.Proofs.Ytjfccilmlmimaaa
open Go.RowKit

set_option maxRecDepth 100000 in
set_option maxHeartbeats 4000000 in
theorem insSortE_any {Z : Int → List Value} {RR0 : List Value} (hZ : ElZ 5 Z) {c : Int → Int → Int} {lt : Int → Int → Prop} {PW : World → Prop} (g cap a b N : Nat) (C : CmpFnE Try.prog 27 Z g N c lt PW) (f : Nat → Int) (w : World) (hP : PW w)
    (hr : w.row g = some (.cells (elsL Z f N ++ RR0).toArray 37)) (hab : a ≤ b) (hb : b ≤ N) (hN : N ≤ 1048576) (hc : N ≤ cap) (hc2 : cap ≤ 9223372036854775807) (hf : ∀ k, a ≤ k → k < b → f k = (k : Int)) :
    Calls Try.prog 55 #[.slice (some ⟨g, 0, none⟩) N cap, .int .i64 a, .int .i64 b, .func (.func 27) #[] #[]] w fun e w' => e = .returned (.tuple #[]) ∧
      ∃ f', w'.row g = some (.cells (elsL Z f' N ++ RR0).toArray 37) ∧ On g w w' ∧ Run lt f' a b ∧ ∀ k, k < a ∨ b ≤ k → f' k = f k := by
  have HC := Lib.hid C
  have HF := Lib.hid hf
  clear C hf
  have e1 : IntKind.wrap .i64 ((a : Int) + 1) = ((a + 1 : Nat) : Int) := by rw [wrapI (by omega) (by omega)]; omega
  go_enter Try.func55, Try.ntmps55
  go_wp2_with fail
  go_loopg [8] (b - (a + 1)) (fun gn v8 wj => ∃ (i : Nat) (F : Nat → Int), Hid (gn = b - i ∧ a < i ∧ (i ≤ b ∨ i = a + 1)) ∧ v8 = .int .i64 i ∧ wj.row g = some (.cells (elsL Z F N ++ RR0).toArray 37) ∧ On g w wj ∧ Hid ((a < b → Run lt F a i) ∧ (∀ k, k < a ∨ i ≤ k ∨ b ≤ k → F k = f k)))
  case atStart =>
    exact ⟨a + 1, f, Lib.hid ⟨rfl, by omega, .inr rfl⟩, by go_num, hr, On.refl _ _, Lib.hid ⟨fun h => Run.one lt (HF.out a (Nat.le_refl _) h), fun _ _ => rfl⟩⟩
  case round =>
    obtain ⟨i, F, HK, rfl, hx, HO, HR⟩ := hrel
    obtain ⟨k1, k2, k3⟩ := HK.out
    obtain ⟨r1, r2⟩ := HR.out
    by_cases hlt : i < b
    · have hRun := r1 (by omega)
      have hFi : F i = (i : Int) := (r2 i (.inr (.inl (Nat.le_refl _)))).trans (HF.out i (by omega) hlt)
      have HRun := Lib.hid hRun; have HFi := Lib.hid hFi; have H2 := Lib.hid r2
      clear hRun hFi r1 r2 HR e1
      go_wp2_with fail
      go_loopg [9] i (fun gn v9 wj => ∃ j : Nat, Hid (gn = j ∧ a ≤ j ∧ j ≤ i) ∧ v9 = .int .i64 j ∧ wj.row g = some (.cells (elsL Z (rotF F j i (i + 1)) N ++ RR0).toArray 37) ∧ On g w wj ∧ Hid (∀ q, j ≤ q → q < i → lt (F i) (F q)))
      case atStart => exact ⟨i, Lib.hid ⟨rfl, by omega, Nat.le_refl _⟩, rfl, by rw [rot_none' F i (i + 1) (by omega)]; exact hx, HO, Lib.hid fun q h1 h2 => by omega⟩
      case round =>
        clear hx HO
        obtain ⟨j, HJ, rfl, hx, HO, HL⟩ := hrel
        obtain ⟨j1, j2, j3⟩ := HJ.out
        have z := row_sz' hx
        by_cases hja : a < j
        · obtain ⟨y, y1, y2, ey⟩ := HRun.out.2.1 (j - 1) (by omega) (by omega)
          have gj : rotF F j i (i + 1) j = (i : Int) := by
            have : rotF F j i (i + 1) j = F i := by unfold rotF; rw [if_neg (by omega), if_pos (by omega)]; congr 1; omega
            rw [this, HFi.out]
          have gj1 : rotF F j i (i + 1) (j - 1) = (y : Int) := by
            have : rotF F j i (i + 1) (j - 1) = F (j - 1) := by unfold rotF; rw [if_pos (by omega)]
            rw [this, ey]
          have hstep := ins_step F (by omega : 0 < j) j3
          generalize hG : rotF F j i (i + 1) = G at *
          have la : j < N := by omega
          have lb : j - 1 < N := by omega
          obtain ⟨ia1, ia2, ia3⟩ := els_seg hZ hx la; rw [gj] at ia2
          obtain ⟨ib1, ib2, ib3⟩ := els_seg hZ hx lb; rw [gj1] at ib2
          have HX := Lib.hid hx
          clear hx
          have hst := stE hZ
          have n1 : (j : Int) - 1 = ((j - 1 : Nat) : Int) := by omega
          have n2 : IntKind.wrap .i64 ((j : Int) - 1) = ((j - 1 : Nat) : Int) := by rw [wrapI (by omega) (by omega)]; omega
          have n3 : (a : Int) < (j : Int) := by omega
          have n4 : ((j - 1 : Nat) : Int) < (N : Int) := by omega
          have n5 : (j : Int) < (N : Int) := by omega
          have hPj : PW wr := HC.out.keep _ _ hP HO
          have k4 : ∀ W, wr.grows W → Calls Try.prog 27 #[.agg (Z (i : Int)).toArray, .agg (Z (y : Int)).toArray] W (Gives W (.int .i64 (c i y))) := fun W hW => HC.out.call W i y (HC.out.keep _ _ hPj ((On.refl g wr).grow hW)) (by omega) (by omega)
          have K4 := Lib.hid k4
          clear k4
          have hless := HC.out.less i y (by omega) (by omega)
          by_cases hl : c i y < 0
          · go_upto_region 4 with fail
            refine wp_region_plus_tail 14 (by kernel_rfl) (by kernel_rfl) ?_
            simp only [List.take_succ_cons, List.take_zero, List.drop_succ_cons, List.drop_zero]
            repeat (go_big_quiet_step (fail))
            refine wpQuiet_nil ?_; intro _ hw'; obtain ⟨xq, hw''⟩ := hw'; subst hw''
            go_upto_region 6 with (go_at_call 27; (with_reducible refine (K4.out _ (by repeat (with_reducible first | assumption | exact grA | apply grB | apply grC | apply grD | refine grE ?_ (by omega) _ | refine grF ?_ (by omega) _ _))).mono ?_); rintro e w1 ⟨rfl, x1, rfl⟩)
            go_region
            go_wp2_with fail
            go_roundg (j - 1)
            case rel => exact ⟨j - 1, Lib.hid ⟨rfl, by omega, by omega⟩, by go_num, by
              rw [← hstep, sw_comm, ← up_sw, gj, gj1]
              rw [World.row_setCells, if_pos rfl, World.row_setCells, if_pos rfl, World.grows.row_eq (w := wr) (by repeat (with_reducible first | assumption | exact grA | apply grB | apply grC | apply grD | refine grE ?_ (by omega) _ | refine grF ?_ (by omega) _ _)) z.1, HX.out, segSet_els hZ _ _ _ _ _ (by omega), segSet_els hZ _ _ _ _ _ (by omega)], ((HO.grow (by repeat (with_reducible first | assumption | exact grA | apply grB | apply grC | apply grD | refine grE ?_ (by omega) _ | refine grF ?_ (by omega) _ _))).setCells _ _).setCells _ _, Lib.hid fun q q1 q2 => by
              by_cases hq : q = j - 1
              · rw [hq, HFi.out, ey]; exact hless.1 hl
              · exact HL.out q (by omega) q2⟩
            case measure => omega
          · go_upto_region 4 with fail
            refine wp_region_plus_tail 14 (by kernel_rfl) (by kernel_rfl) ?_
            simp only [List.take_succ_cons, List.take_zero, List.drop_succ_cons, List.drop_zero]
            repeat (go_big_quiet_step (fail))
            refine wpQuiet_nil ?_; intro _ hw'; obtain ⟨xq, hw''⟩ := hw'; subst hw''
            go_wp2_with (go_at_call 27; (with_reducible refine (K4.out _ (by repeat (with_reducible first | assumption | exact grA | apply grB | apply grC | apply grD | refine grE ?_ (by omega) _ | refine grF ?_ (by omega) _ _))).mono ?_); rintro e w1 ⟨rfl, x1, rfl⟩)
            go_roundg (b - (i + 1))
            case rel => exact ⟨i + 1, G, Lib.hid ⟨rfl, by omega, .inl (by omega)⟩, by go_num, by simp [go_sem, HX.out, z], HO.grow (by repeat (with_reducible first | assumption | exact grA | apply grB | apply grC | apply grD | refine grE ?_ (by omega) _ | refine grF ?_ (by omega) _ _)), Lib.hid ⟨fun _ => by
              rw [← hG]
              have hyi : lt (y : Int) (i : Int) := by
                rcases HC.out.or i y (by omega) with h | h
                · have := hless.2 h; omega
                · exact h
              refine Run.ins (by omega) j3 HRun.out HFi.out (fun q q1 q2 => ?_) HL.out
              have hy2 : lt (F (j - 1)) (F i) := by rw [HFi.out, ey]; exact hyi
              by_cases hq : q = j - 1
              · rw [hq]; exact hy2
              · exact HC.out.tr _ _ _ (HRun.out.1 q (j - 1) q1 (by omega) (by omega)) hy2, fun k hk => by
              rw [← hG]
              unfold rotF
              rw [if_pos (by omega)]
              exact H2.out k (by omega)⟩⟩
            case measure => omega
        · obtain rfl : j = a := by omega
          have n3 : ¬ (j : Int) < (j : Int) := by omega
          go_upto_region 4 with fail
          refine wp_region_plus_tail 14 (by kernel_rfl) (by kernel_rfl) ?_
          simp only [List.take_succ_cons, List.take_zero, List.drop_succ_cons, List.drop_zero]
          repeat (go_big_quiet_step (fail))
          refine wpQuiet_nil ?_; intro _ hw'; obtain ⟨xq, hw''⟩ := hw'; subst hw''
          go_wp2_with fail
          go_roundg (b - (i + 1))
          case rel => exact ⟨i + 1, rotF F j i (i + 1), Lib.hid ⟨rfl, by omega, .inl (by omega)⟩, by go_num, by simp [go_sem, hx, z], HO.grow (by repeat (with_reducible first | assumption | exact grA | apply grB | apply grC | apply grD | refine grE ?_ (by omega) _ | refine grF ?_ (by omega) _ _)), Lib.hid ⟨fun _ => Run.ins (Nat.le_refl _) j3 HRun.out HFi.out (fun q q1 q2 => by omega) HL.out, fun k hk => by
              unfold rotF
              rw [if_pos (by omega)]
              exact H2.out k (by omega)⟩⟩
          case measure => omega
    · go_wp2_with fail
      go_end0
      refine ⟨rfl, F, hx, HO, ?_, fun k hk => r2 k (by omega)⟩
      by_cases h : a < b
      · have : i = b := by omega
        rw [← this]; exact r1 h
      · exact Run.none lt F (by omega)
end Go.Proofs.Ytjfccilmlmimaaa
