/- WALKS over slices: the insertion sort of places, by what the caller's own function tells. No condition but that the places are there, and that the function goes on. -/
import Derived.Test.YtajkfmnnokkcaaaRot
set_option linter.unusedSimpArgs false
set_option linter.unusedVariables false
namespace Go
/-- what is asked of the function that compares: it reads blocks that stand, and tells who is less -/
structure CmpFn (P : Program) (G : FuncId) (L : Value) (g N : Nat) (c : Int → Int → Int) (lt : Int → Int → Prop) (PW : World → Prop) : Prop where
  keep : ∀ W W', PW W → On g W W' → PW W'
  call : ∀ W (x y : Nat), PW W → x < N → y < N → Calls P G #[.int .i64 x, .int .i64 y, L] W (Gives W (.int .i64 (c x y)))
  less : ∀ x y : Nat, y < x → x < N → (c x y < 0 ↔ lt x y)
  tr : ∀ x y z, lt x y → lt y z → lt x z
  or : ∀ x y : Nat, x ≠ y → lt x y ∨ lt y x
end Go
namespace Go.Proofs.Ytajkfmnnokkcaaa
open Go.RowKit

set_option maxRecDepth 100000 in
set_option maxHeartbeats 4000000 in
theorem insSort_any {c : Int → Int → Int} {lt : Int → Int → Prop} {PW : World → Prop} (L : Option Addr) (g cap a b N : Nat) (C : CmpFn Try.prog 20 (.pointer L) g N c lt PW) (f : Nat → Int) (w : World) (hP : PW w)
    (hr : w.row g = some (.cells (intsL f N).toArray 3)) (hab : a ≤ b) (hb : b ≤ N) (hN : N ≤ 1048576) (hc : N ≤ cap) (hc2 : cap ≤ 9223372036854775807) (hf : ∀ k, a ≤ k → k < b → f k = (k : Int)) :
    Calls Try.prog 34 #[.slice (some ⟨g, 0, none⟩) N cap, .int .i64 a, .int .i64 b, .func (.func 20) #[] #[.pointer L]] w fun e w' => e = .returned (.tuple #[]) ∧
      ∃ f', w'.row g = some (.cells (intsL f' N).toArray 3) ∧ On g w w' ∧ Run lt f' a b ∧ ∀ k, k < a ∨ b ≤ k → f' k = f k := by
  have HC := Lib.hid C
  have HF := Lib.hid hf
  clear C hf
  have e1 : IntKind.wrap .i64 ((a : Int) + 1) = ((a + 1 : Nat) : Int) := by rw [wrapI (by omega) (by omega)]; omega
  go_enter Try.func34, Try.ntmps34
  go_wp2_with fail
  go_loopg [8] (b - (a + 1)) (fun gn v8 wj => ∃ (i : Nat) (F : Nat → Int), Hid (gn = b - i ∧ a < i ∧ (i ≤ b ∨ i = a + 1)) ∧ v8 = .int .i64 i ∧ wj.row g = some (.cells (intsL F N).toArray 3) ∧ On g w wj ∧ Hid ((a < b → Run lt F a i) ∧ (∀ k, k < a ∨ i ≤ k ∨ b ≤ k → F k = f k)))
  case atStart =>
    exact ⟨a + 1, f, Lib.hid ⟨rfl, by omega, .inr rfl⟩, by go_num, hr, On.refl _ _, Lib.hid ⟨fun h => Run.one lt (HF.out a (Nat.le_refl _) h), fun _ _ => rfl⟩⟩
  case round =>
    obtain ⟨i, F, HK, rfl, hx, HO, HR⟩ := hrel
    obtain ⟨k1, k2, k3⟩ := HK.out
    obtain ⟨r1, r2⟩ := HR.out
    by_cases hlt : i < b
    · have hRun := r1 (by omega)
      have hFi : F i = (i : Int) := (r2 i (.inr (.inl (Nat.le_refl _)))).trans (HF.out i (by omega) hlt)
      have HRun := Lib.hid hRun; have HFi := Lib.hid hFi; have H2 := Lib.hid r2
      clear hRun hFi r1 r2 HR e1
      go_wp2_with fail
      go_loopg [9] i (fun gn v9 wj => ∃ j : Nat, Hid (gn = j ∧ a ≤ j ∧ j ≤ i) ∧ v9 = .int .i64 j ∧ wj.row g = some (.cells (intsL (rotF F j i (i + 1)) N).toArray 3) ∧ On g w wj ∧ Hid (∀ q, j ≤ q → q < i → lt (F i) (F q)))
      case atStart => exact ⟨i, Lib.hid ⟨rfl, by omega, Nat.le_refl _⟩, rfl, by rw [rot_none' F i (i + 1) (by omega)]; exact hx, HO, Lib.hid fun q h1 h2 => by omega⟩
      case round =>
        clear hx HO
        obtain ⟨j, HJ, rfl, hx, HO, HL⟩ := hrel
        obtain ⟨j1, j2, j3⟩ := HJ.out
        have z := row_sz' hx
        by_cases hja : a < j
        · obtain ⟨y, y1, y2, ey⟩ := HRun.out.2.1 (j - 1) (by omega) (by omega)
          have gj : rotF F j i (i + 1) j = (i : Int) := by
            have : rotF F j i (i + 1) j = F i := by unfold rotF; rw [if_neg (by omega), if_pos (by omega)]; congr 1; omega
            rw [this, HFi.out]
          have gj1 : rotF F j i (i + 1) (j - 1) = (y : Int) := by
            have : rotF F j i (i + 1) (j - 1) = F (j - 1) := by unfold rotF; rw [if_pos (by omega)]
            rw [this, ey]
          have hstep := ins_step F (by omega : 0 < j) j3
          generalize hG : rotF F j i (i + 1) = G at *
          have la : j < N := by omega
          have lb : j - 1 < N := by omega
          have ia : (intsL G N)[j]? = some (.int .i64 (i : Int)) := by rw [← gj]; exact intsL_get G la
          have ib : (intsL G N)[j - 1]? = some (.int .i64 (y : Int)) := by rw [← gj1]; exact intsL_get G lb
          have ic : ((intsL G N).set j (.int .i64 (y : Int)))[j - 1]? = some (.int .i64 (y : Int)) := by rw [List.getElem?_set, if_neg (by omega)]; exact ib
          have n1 : (j : Int) - 1 = ((j - 1 : Nat) : Int) := by omega
          have n2 : IntKind.wrap .i64 ((j : Int) - 1) = ((j - 1 : Nat) : Int) := by rw [wrapI (by omega) (by omega)]; omega
          have n3 : (a : Int) < (j : Int) := by omega
          have n4 : ((j - 1 : Nat) : Int) < (N : Int) := by omega
          have n5 : (j : Int) < (N : Int) := by omega
          have hPj : PW wr := HC.out.keep _ _ hP HO
          have k4 : ∀ W, wr.grows W → Calls Try.prog 20 #[.int .i64 (i : Int), .int .i64 (y : Int), .pointer L] W (Gives W (.int .i64 (c i y))) := fun W hW => HC.out.call W i y (HC.out.keep _ _ hPj ((On.refl g wr).grow hW)) (by omega) (by omega)
          have K4 := Lib.hid k4
          clear k4
          have hless := HC.out.less i y (by omega) (by omega)
          by_cases hl : c i y < 0
          · go_upto_region 4 with fail
            refine wp_region_plus_tail 14 (by kernel_rfl) (by kernel_rfl) ?_
            simp only [List.take_succ_cons, List.take_zero, List.drop_succ_cons, List.drop_zero]
            repeat (go_big_quiet_step (fail))
            refine wpQuiet_nil ?_; intro _ hw'; obtain ⟨xq, hw''⟩ := hw'; subst hw''
            go_upto_region 6 with (go_at_call 20; (with_reducible refine (K4.out _ (by repeat (with_reducible first | assumption | exact grA | apply grB | apply grC | apply grD | refine grE ?_ (by omega) _ | refine grF ?_ (by omega) _ _))).mono ?_); rintro e w1 ⟨rfl, x1, rfl⟩)
            go_region
            go_wp2_with fail
            go_roundg (j - 1)
            case rel => exact ⟨j - 1, Lib.hid ⟨rfl, by omega, by omega⟩, by go_num, by
              rw [← hstep, sw_comm, ← up_sw, gj, gj1]
              refine (World.grows.row_eq (w := (wr.setCell ⟨g, j, none⟩ (.int .i64 (y : Int))).setCell ⟨g, j - 1, none⟩ (.int .i64 (i : Int))) (by repeat (with_reducible first | assumption | exact grA | apply grB | apply grC | apply grD | refine grE ?_ (by omega) _ | refine grF ?_ (by omega) _ _)) (by simp [World.setCell]; exact z.1)).trans ?_
              rw [World.row_setCell, if_pos rfl, World.row_setCell, if_pos rfl, hx, setR_ints, setR_ints], ((HO.set _ _).set _ _).grow (by repeat (with_reducible first | assumption | exact grA | apply grB | apply grC | apply grD | refine grE ?_ (by omega) _ | refine grF ?_ (by omega) _ _)), Lib.hid fun q q1 q2 => by
              by_cases hq : q = j - 1
              · rw [hq, HFi.out, ey]; exact hless.1 hl
              · exact HL.out q (by omega) q2⟩
            case measure => omega
          · go_upto_region 4 with fail
            refine wp_region_plus_tail 14 (by kernel_rfl) (by kernel_rfl) ?_
            simp only [List.take_succ_cons, List.take_zero, List.drop_succ_cons, List.drop_zero]
            repeat (go_big_quiet_step (fail))
            refine wpQuiet_nil ?_; intro _ hw'; obtain ⟨xq, hw''⟩ := hw'; subst hw''
            go_wp2_with (go_at_call 20; (with_reducible refine (K4.out _ (by repeat (with_reducible first | assumption | exact grA | apply grB | apply grC | apply grD | refine grE ?_ (by omega) _ | refine grF ?_ (by omega) _ _))).mono ?_); rintro e w1 ⟨rfl, x1, rfl⟩)
            go_roundg (b - (i + 1))
            case rel => exact ⟨i + 1, G, Lib.hid ⟨rfl, by omega, .inl (by omega)⟩, by go_num, by simp [go_sem, hx, z], HO.grow (by repeat (with_reducible first | assumption | exact grA | apply grB | apply grC | apply grD | refine grE ?_ (by omega) _ | refine grF ?_ (by omega) _ _)), Lib.hid ⟨fun _ => by
              rw [← hG]
              have hyi : lt (y : Int) (i : Int) := by
                rcases HC.out.or i y (by omega) with h | h
                · have := hless.2 h; omega
                · exact h
              refine Run.ins (by omega) j3 HRun.out HFi.out (fun q q1 q2 => ?_) HL.out
              have hy2 : lt (F (j - 1)) (F i) := by rw [HFi.out, ey]; exact hyi
              by_cases hq : q = j - 1
              · rw [hq]; exact hy2
              · exact HC.out.tr _ _ _ (HRun.out.1 q (j - 1) q1 (by omega) (by omega)) hy2, fun k hk => by
              rw [← hG]
              unfold rotF
              rw [if_pos (by omega)]
              exact H2.out k (by omega)⟩⟩
            case measure => omega
        · obtain rfl : j = a := by omega
          have n3 : ¬ (j : Int) < (j : Int) := by omega
          go_upto_region 4 with fail
          refine wp_region_plus_tail 14 (by kernel_rfl) (by kernel_rfl) ?_
          simp only [List.take_succ_cons, List.take_zero, List.drop_succ_cons, List.drop_zero]
          repeat (go_big_quiet_step (fail))
          refine wpQuiet_nil ?_; intro _ hw'; obtain ⟨xq, hw''⟩ := hw'; subst hw''
          go_wp2_with fail
          go_roundg (b - (i + 1))
          case rel => exact ⟨i + 1, rotF F j i (i + 1), Lib.hid ⟨rfl, by omega, .inl (by omega)⟩, by go_num, by simp [go_sem, hx, z], HO.grow (by repeat (with_reducible first | assumption | exact grA | apply grB | apply grC | apply grD | refine grE ?_ (by omega) _ | refine grF ?_ (by omega) _ _)), Lib.hid ⟨fun _ => Run.ins (Nat.le_refl _) j3 HRun.out HFi.out (fun q q1 q2 => by omega) HL.out, fun k hk => by
              unfold rotF
              rw [if_pos (by omega)]
              exact H2.out k (by omega)⟩⟩
          case measure => omega
    · go_wp2_with fail
      go_end0
      refine ⟨rfl, F, hx, HO, ?_, fun k hk => r2 k (by omega)⟩
      by_cases h : a < b
      · have : i = b := by omega
        rw [← this]; exact r1 h
      · exact Run.none lt F (by omega)
end Go.Proofs.Ytajkfmnnokkcaaa
