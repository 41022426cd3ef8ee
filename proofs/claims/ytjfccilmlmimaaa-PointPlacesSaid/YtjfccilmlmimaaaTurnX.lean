/- WALKS over point: turning, for Crosses' function. No condition but that an index stands in memory. (printed by wip/mkturn.py) -/
import Derived.Test.YtjfccilmlmimaaaTurnA
set_option linter.unusedSimpArgs false
set_option linter.unusedVariables false
namespace Go.Proofs.Ytjfccilmlmimaaa
open Go.RowKit Go.Maps

set_option maxRecDepth 100000 in
set_option maxHeartbeats 8000000 in
theorem turnCross_any (ix : Nat) (mb : Value) (n a b c d : Int) (nm : ByteArray) (L : Option Addr) (I : List Ln → World → (Nat → Prop) → Prop) (O : Nat → Prop) (va : Option Addr) (N vc : Nat) (p : List Ln) (w0 w : World)
    (hW : Wants Try.prog 32 (.pointer L) w0 false I) (hO : On ix w0 w) (hI : I [] w O) (hx : w.row ix = some (.cells #[mb, .int .i64 n] 60)) (hix : ix < w0.heap.size) (h0 : 0 ≤ n) (h1 : n ≤ 2305843009213693952)
    (wa : I64 a) (wb : I64 b) (wc : I64 c) (wd : I64 d) (hN : N ≤ 1048576) (hwf : AllWf p) (hp : SlAt w0 (fun g => g ≠ ix) 5 LnR (.slice va N vc) p)
    (hL : ∀ W m, On ix w0 W → W.row ix = some (.cells #[mb, .int .i64 m] 60) → Calls Try.prog 37 #[.pointer (some ⟨ix, 0, none⟩), .string nm] W fun e w' => e = .returned (.slice va N vc) ∧ w' = W) :
    Calls Try.prog 29 #[.pointer (some ⟨ix, 0, none⟩), .string nm, .agg #[.int .i64 a, .int .i64 b], .agg #[.int .i64 c, .int .i64 d], .func (.func 32) #[] #[.pointer L]] w fun e w' => e = .returned (.tuple #[]) ∧ ∃ (O' : Nat → Prop) (m : Nat) (sub : List Ln), SubOf a b c d p sub ∧ m ≤ sub.length ∧ On ix w0 w' ∧ w'.row ix = some (.cells #[mb, .int .i64 (n + (m : Int))] 60) ∧ I ((sub.filter (flipAt a b c d)).take 1) w' O' := by
  have zx := row_sz' hx
  have hws := hO.size
  have c1 : ∀ w, Calls Try.prog 42 #[.agg #[.int .i64 a, .int .i64 b], .agg #[.int .i64 c, .int .i64 d]] w (Gives w (.tuple #[.int .i64 (if both a b c d = true then cmpI a b c d else 0), .bool (both a b c d)])) := fun w => by
    have := ratCmp_any a b c d w wa wb wc wd
    unfold cmpV at this
    unfold both
    cases h : (sureB a b && sureB c d) <;> simpa [h] using this
  have HWF := Lib.hid hwf
  clear hwf
  have eN : p.length = N := by obtain ⟨_, _, e, _⟩ := hp; injection e with _ e _; exact e.symm
  have EQ := Lib.hid eN; have HQ := Lib.hid hp
  clear eN
  have HL := Lib.hid hL; have HO := Lib.hid hO; have HW := Lib.hid hW; have HP := Lib.hid hp; have HI := Lib.hid hI
  clear hL hO hW hp hI
  cases hb : both a b c d with
  | false =>
    rw [hb] at c1
    have hsub : SubOf a b c d p p := by unfold SubOf; rw [if_pos hb]
    have HSUB := Lib.hid hsub
    have C1 := Lib.hid c1
    clear hsub
    clear c1
    go_enter Try.func29, Try.ntmps29
    go_wp2_with (first
      | (go_at_call 37; (with_reducible refine (HL.out _ n (On.grow HO.out (by repeat (with_reducible first | assumption | exact grA | apply grB | apply grC | apply grD | refine grE ?_ (by omega) _ | refine grF ?_ (by omega) _ _))) (by simp [go_sem, hx, zx])).mono ?_); rintro e w1 ⟨rfl, rfl⟩)
      | (go_at_call 42; (with_reducible refine (C1.out _).mono ?_); rintro e w1 ⟨rfl, x1, rfl⟩))
    go_loopg [43] N (fun gn v43 wj => ∃ (i : Nat) (acc : List Ln) (O1 : Nat → Prop), Hid (gn + i = N ∧ i ≤ N) ∧ v43 = .int .i64 i ∧ wj.row ix = some (.cells #[mb, .int .i64 (n + (i : Int))] 60) ∧ wj.row w.heap.size = some (.cells #[.int .i64 a, .int .i64 b] 24) ∧ wj.row (w.heap.size + 1) = some (.cells #[.int .i64 c, .int .i64 d] 24) ∧ Hid (On ix w0 wj ∧ I acc wj O1 ∧ (acc = [] ∧ (p.take i).filter (flipAt a b c d) = []) ∧ ¬ O1 w.heap.size ∧ ¬ O1 (w.heap.size + 1)))
    case atStart => exact ⟨0, [], O, Lib.hid ⟨by simp, Nat.zero_le _⟩, by go_num, by simp [go_sem, hx, zx], by simp [go_sem], by simp [go_sem], Lib.hid ⟨(On.grow HO.out (by repeat (with_reducible first | assumption | exact grA | apply grB | apply grC | apply grD | refine grE ?_ (by omega) _ | refine grF ?_ (by omega) _ _))), HW.out.keep _ _ _ _ HI.out (fun k hk hl => by have hlo := HW.out.low _ _ _ HI.out k hk; exact World.grows.row_eq (by repeat (with_reducible first | assumption | exact grA | apply grB | apply grC | apply grD | refine grE ?_ (by omega) _ | refine grF ?_ (by omega) _ _)) hl) (by simp; omega), ⟨rfl, by simp⟩, fun h => by have := (HW.out.low _ _ _ HI.out _ h).2; omega, fun h => by have := (HW.out.low _ _ _ HI.out _ h).2; omega⟩⟩
    case round =>
      clear hx zx
      obtain ⟨i, acc, O1, HK, rfl, hx, hb0, hb1, HS⟩ := hrel
      obtain ⟨m1, m2⟩ := HK.out
      have zx := row_sz' hx
      have zb0 := row_sz' hb0
      have zb1 := row_sz' hb1
      by_cases hlt : i < N
      · have hNl := EQ.out
        rcases (SlAt.on HQ.out HS.out.1) with ⟨va2, vc2, e, _, _, h0 | ⟨g5, off5, eva, hgx, h4⟩⟩
        · rw [h0] at hNl; simp at hNl; omega
        injection e with f1 f2 f3
        rw [eva] at f1
        clear eva f2 f3
        cases f1
        have hgt := List.getElem?_eq_getElem (by omega : i < p.length)
        obtain ⟨cs, _, el, ec, wx⟩ := h4 i _ hgt
        have hfs : (p.take (i + 1)).filter (flipAt a b c d) = (p.take i).filter (flipAt a b c d) ++ if flipAt a b c d (p[i]'(by omega)) then [p[i]'(by omega)] else [] := by
          rw [List.take_add_one, hgt, List.filter_append]
          congr 1
          cases hf : flipAt a b c d (p[i]'(by omega)) <;> simp [hf]
        generalize p[i] = x at *
        subst ec
        have e1 : segOk (_ + i * 5) 5 (wr.row _) = true := el.1
        have e2 : segV (_ + i * 5) 5 (wr.row _) = x.v := el.2
        have zg := lt_sz el.lt
        have n1 : (i : Int) < (N : Int) := by omega
        have hcA := fun W => condCmp_any x.o a b x.p x.q W wx.2.1 wa wb wx.2.2.1 wx.2.2.2.1
        have hcB := fun W => condCmp_any x.o c d x.p x.q W wx.2.1 wc wd wx.2.2.1 wx.2.2.2.1
        have hwant := fun W O2 h => HW.out.call acc W O2 x wx h
        have hfl : flipAt a b c d x = decide (truth x.o a b x.p x.q ≠ truth x.o c d x.p x.q) := rfl
        rw [hfl] at hfs
        obtain ⟨nx, o, q, r, id⟩ := x
        simp only at hcA hcB hfs
        have HCA := Lib.hid hcA; have HCB := Lib.hid hcB; have HFS := Lib.hid hfs; have HWA := Lib.hid hwant
        clear hcA hcB hfs hgt h4 el wx hNl hwant hfl hgx
        generalize truth o a b q r = t at *
        generalize truth o c d q r = t2 at *
        have hadd := cntAdd_any ix mb (n + (i : Int)) 60 (wr.alloc (.cells #[.string nx, .int .i64 o, .int .i64 q, .int .i64 r, .int .i64 id] 37)) (by simp [go_sem, hx, zx]) (by omega) (by omega)
        have HADD := Lib.hid hadd
        clear hadd
        go_upto_region 13 with (go_at_call 46; go_loud ((with_reducible refine (HADD.out).mono ?_); rintro e w1 ⟨rfl, ho1, hx1⟩))
        have q0 := (ho1.row w.heap.size (by omega) (by simp; omega)).trans (by simp [go_sem, hb0, zb0] : _ = some (.cells #[.int .i64 a, .int .i64 b] 24))
        have q1 := (ho1.row (w.heap.size + 1) (by omega) (by simp; omega)).trans (by simp [go_sem, hb1, zb1] : _ = some (.cells #[.int .i64 c, .int .i64 d] 24))
        have q2 := (ho1.row wr.heap.size (by omega) (by simp)).trans (by simp [go_sem] : _ = some (.cells #[.string nx, .int .i64 o, .int .i64 q, .int .i64 r, .int .i64 id] 37))
        have z0 := row_sz' q0; have z1 := row_sz' q1; have z2 := row_sz' q2; have z3 := row_sz' hx1
        have hgx := fun W (hg : w1.grows W) => HW.out.keep acc wr W O1 HS.out.2.1 (fun k hk hl => by
          have hlo := HW.out.low _ _ _ HS.out.2.1 k hk
          exact (hg.row_eq (by have := ho1.size; simp at this; omega)).trans ((ho1.row k (by omega) (by simp; omega)).trans (World.grows.row_eq (by repeat (with_reducible first | assumption | exact grA | apply grB | apply grC | apply grD | refine grE ?_ (by omega) _ | refine grF ?_ (by omega) _ _)) hl))) (by have h3 := ho1.size; have h4 := hg.below.size; simp at h3; omega)
        have HGX := Lib.hid hgx
        have hon1 : ∀ W, w1.grows W → On ix w0 W := fun W hg => On.grow ((HS.out.1.grow (by repeat (with_reducible first | assumption | exact grA | apply grB | apply grC | apply grD | refine grE ?_ (by omega) _ | refine grF ?_ (by omega) _ _))).trans ho1) hg
        have HON1 := Lib.hid hon1
        have hsz1 := ho1.size
        simp at hsz1
        clear hgx hon1 ho1 hx zx hb0 hb1 zb0 zb1 e1 e2
        have hal : acc.length ≤ 1048576 := by rw [HS.out.2.2.1.1]; simp
        by_cases ht : t = t2
        · subst ht
          refine wp_region_plus_lit (by kernel_rfl) (by kernel_rfl) ?_
          repeat (go_big_quiet_step (first | (go_at_call 38; (with_reducible exact Calls.plus_of (HCA.out _))) | (go_at_call 38; (with_reducible exact Calls.plus_of (HCB.out _)))))
          (refine wpQuiet_nil ?_; intro _ hw'; obtain ⟨xq, hw''⟩ := hw'; subst hw'')
          go_wp2_with fail
          go_roundg (N - (i + 1))
          case rel => exact ⟨i + 1, acc, O1, Lib.hid ⟨by omega, by omega⟩, by go_num, by simp [go_sem, hx1, z3]; omega, by simp [go_sem, q0, z0], by simp [go_sem, q1, z1], Lib.hid ⟨HON1.out _ (by repeat (with_reducible first | assumption | exact grA | apply grB | apply grC | apply grD | refine grE ?_ (by omega) _ | refine grF ?_ (by omega) _ _)), HGX.out _ (by repeat (with_reducible first | assumption | exact grA | apply grB | apply grC | apply grD | refine grE ?_ (by omega) _ | refine grF ?_ (by omega) _ _)), by rw [HFS.out]; simpa using HS.out.2.2.1, HS.out.2.2.2⟩⟩
          case measure => omega
        · have hbq : (t == t2) = false := by simpa using ht
          have hbn : (t != t2) = true := by simp [bne, hbq]
          refine wp_region_plus_seq_tail 16 (by kernel_rfl) (by kernel_rfl) (fun x0 => ?_)
          simp only [List.take_succ_cons, List.take_zero, List.drop_succ_cons, List.drop_zero]
          repeat (any_goals (first | (refine wpSeqL_free rfl ?_; first | (go_big_quiet_skip; refine wpQuiet_nil ?_) | (go_big_quiet_step (fail); refine wpQuiet_nil ?_) | (refine wpQuiet_step (fun K hK => ?_); go_simp; split <;> (refine hK _ ?_; clear hK K; refine wpQuiet_nil ?_))) | (refine wpSeqL_link rfl (fun K hK => ?_); go_simp; first | first | (refine hK _ _ (by show World.grows _ _; repeat (first | assumption | exact grA | apply grB | apply grC | apply grD)) ?_; clear hK K) | ((first | (go_at_call 38; (with_reducible refine (HCA.out _).mono ?_); rintro e w1 ⟨rfl, x1, rfl⟩) | (go_at_call 38; (with_reducible refine (HCB.out _).mono ?_); rintro e w1 ⟨rfl, x1, rfl⟩)); refine ⟨_, rfl, hK _ _ (by show World.grows _ _; repeat (first | assumption | exact grA | apply grB | apply grC | apply grD)) ?_⟩; clear hK K) | (split <;> (first | (refine hK _ _ (by show World.grows _ _; repeat (first | assumption | exact grA | apply grB | apply grC | apply grD)) ?_; clear hK K) | ((first | (go_at_call 38; (with_reducible refine (HCA.out _).mono ?_); rintro e w1 ⟨rfl, x1, rfl⟩) | (go_at_call 38; (with_reducible refine (HCB.out _).mono ?_); rintro e w1 ⟨rfl, x1, rfl⟩)); refine ⟨_, rfl, hK _ _ (by show World.grows _ _; repeat (first | assumption | exact grA | apply grB | apply grC | apply grD)) ?_⟩; clear hK K))))))
          all_goals (refine wpSeqL_end ?_)
          go_wp2_with (go_at_call 32; (with_reducible refine (HWA.out _ O1 hal (HGX.out _ (by repeat (with_reducible first | assumption | exact grA | apply grB | apply grC | apply grD | refine grE ?_ (by omega) _ | refine grF ?_ (by omega) _ _)))).mono ?_); rintro e w2 ⟨rfl, O2, hI2, hO2, hr2, hs2, hg2⟩)
          have hlw := HW.out.low _ _ _ HS.out.2.1
          have ho2 := On.want (HON1.out _ (by repeat (with_reducible first | assumption | exact grA | apply grB | apply grC | apply grD | refine grE ?_ (by omega) _ | refine grF ?_ (by omega) _ _))) hix (fun k hk => (hlw k hk).1) hr2 hs2 hg2
          have hx2 := (hr2 ix (fun h => by have := (hlw _ h).1; omega) (by simp; omega)).trans (by simp [go_sem, hx1, z3] : _ = some (.cells #[mb, .int .i64 (n + (i : Int) + 1)] 60))
          have e8 : n + (i : Int) + 1 = n + ((i + 1 : Nat) : Int) := by omega
          rw [e8] at hx2
          ((try simp only [Exit.inBlock, Exit.then]); refine bodyPost_ret (results_none rfl _ _ _) rfl ?_)
          exact ⟨rfl, O2, i + 1, p, HSUB.out, by rw [EQ.out]; omega, ho2, hx2, by
            have hsplit : p.filter (flipAt a b c d) = (p.take (i + 1)).filter (flipAt a b c d) ++ (p.drop (i + 1)).filter (flipAt a b c d) := by rw [← List.filter_append, List.take_append_drop]
            rw [hsplit, HFS.out, HS.out.2.2.1.2]
            have := HS.out.2.2.1.1
            subst this
            simpa [ht] using hI2⟩
      · obtain rfl : i = N := by omega
        have n1 : ¬ (i : Int) < (i : Int) := by omega
        have hall : p.take i = p := List.take_of_length_le (by rw [EQ.out]; exact Nat.le_refl _)
        rw [hall] at HS
        go_wp2_with fail
        go_end0
        exact ⟨rfl, O1, i, p, HSUB.out, by rw [EQ.out]; exact Nat.le_refl _, HS.out.1, hx, by rw [HS.out.2.2.1.2]; have := HS.out.2.1; rw [HS.out.2.2.1.1] at this; exact this⟩
  | true =>
    rw [hb] at c1
    by_cases hn : cmpI a b c d < 0
    · have hn1 : ¬ cmpI a b c d = 0 := by omega
      have hn2 : ¬ cmpI a b c d > 0 := by omega
      have hsub : ∀ sub, CutL a b c d p sub → SubOf a b c d p sub := fun sub h => by unfold SubOf; rw [hb, if_neg (by simp), if_neg hn1, if_pos hn]; exact h
      have HSUB := Lib.hid hsub
      clear hsub
      generalize cmpI a b c d = cc at *
      have C1 := Lib.hid c1
      clear c1
      rcases HP.out with ⟨va2, vc2, e, hv1, hv2, h0 | ⟨g, off, rfl, hgx, h4⟩⟩
      · subst h0
        have hN0 : N = 0 := by rw [← EQ.out]; rfl
        subst hN0
        clear hv1
        have pe1 : ∀ W, On ix w0 W → Calls Try.prog 43 #[.slice va 0 vc, .func (.func 44) #[] #[.pointer (some ⟨w.heap.size, 0, none⟩)]] W fun e w' => ∃ k : Nat, e = .returned (.int .i64 k) ∧ W.grows w' ∧ k ≤ 0 ∧ (∀ x, 0 < k → ([] : List Ln)[k - 1]? = some x → aheadA a b x = true) ∧ ∀ x, ([] : List Ln)[k]? = some x → aheadA a b x = false := fun W hO => place_any _ (.inl rfl) _ (fun g => g ≠ ix) _ 0 vc [] (aheadA a b) W (SlAt.on HP.out hO) (by omega) (fun W2 hg x hx => by cases hx)
        have pe2 : ∀ W, On ix w0 W → Calls Try.prog 43 #[.slice va 0 vc, .func (.func 45) #[] #[.pointer (some ⟨w.heap.size + 1, 0, none⟩)]] W fun e w' => ∃ k : Nat, e = .returned (.int .i64 k) ∧ W.grows w' ∧ k ≤ 0 ∧ (∀ x, 0 < k → ([] : List Ln)[k - 1]? = some x → aheadA a b x = true) ∧ ∀ x, ([] : List Ln)[k]? = some x → aheadA a b x = false := fun W hO => place_any _ (.inr rfl) _ (fun g => g ≠ ix) _ 0 vc [] (aheadA a b) W (SlAt.on HP.out hO) (by omega) (fun W2 hg x hx => by cases hx)
        have PE1 := Lib.hid pe1; have PE2 := Lib.hid pe2
        have hvc : vc ≤ 9223372036854775807 := by
          injection e with _ _ f3
          rw [f3]; exact hv2
        clear pe1 pe2 e hv2
        rcases va with _ | ⟨g, off, sp⟩
        · go_enter Try.func29, Try.ntmps29
          go_wp2_with (first
            | (go_at_call 37; (with_reducible refine (HL.out _ n (On.grow HO.out (by repeat (with_reducible first | assumption | exact grA | apply grB | apply grC | apply grD | refine grE ?_ (by omega) _ | refine grF ?_ (by omega) _ _))) (by simp [go_sem, hx, zx])).mono ?_); rintro e w1 ⟨rfl, rfl⟩)
            | (go_at_call 42; (with_reducible refine (C1.out _).mono ?_); rintro e w1 ⟨rfl, x1, rfl⟩)
            | (go_at_call 43; (with_reducible refine (PE1.out _ (On.grow HO.out (by repeat (with_reducible first | assumption | exact grA | apply grB | apply grC | apply grD | refine grE ?_ (by omega) _ | refine grF ?_ (by omega) _ _)))).mono ?_); rintro e w2 ⟨k1, rfl, ⟨y1, rfl⟩, hk1, _, _⟩; obtain rfl : k1 = 0 := by omega)
            | (go_at_call 43; (with_reducible refine (PE2.out _ (On.grow HO.out (by repeat (with_reducible first | assumption | exact grA | apply grB | apply grC | apply grD | refine grE ?_ (by omega) _ | refine grF ?_ (by omega) _ _)))).mono ?_); rintro e w2 ⟨k1, rfl, ⟨y1, rfl⟩, hk1, _, _⟩; obtain rfl : k1 = 0 := by omega))
          go_loopg [43] 0 (fun gn v43 wj => v43 = .int .i64 0 ∧ wj.row ix = some (.cells #[mb, .int .i64 n] 60) ∧ Hid (On ix w0 wj ∧ I [] wj O))
          case atStart => exact ⟨rfl, by simp [go_sem, hx, zx], Lib.hid ⟨On.grow HO.out (by repeat (with_reducible first | assumption | exact grA | apply grB | apply grC | apply grD | refine grE ?_ (by omega) _ | refine grF ?_ (by omega) _ _)), HW.out.keep _ _ _ _ HI.out (fun k hk hl => World.grows.row_eq (by repeat (with_reducible first | assumption | exact grA | apply grB | apply grC | apply grD | refine grE ?_ (by omega) _ | refine grF ?_ (by omega) _ _)) hl) (by simp; omega)⟩⟩
          case round =>
            obtain ⟨rfl, hx2, hS2⟩ := hrel
            go_wp2_with fail
            go_end0
            exact ⟨rfl, O, 0, [], HSUB.out _ ⟨0, 0, rfl, by simp, fun x h => by omega, fun x h => by simp at h, fun x h => by omega, fun x h => by simp at h⟩, by simp, hS2.out.1, by simpa using hx2, hS2.out.2⟩
        · go_enter Try.func29, Try.ntmps29
          go_wp2_with (first
            | (go_at_call 37; (with_reducible refine (HL.out _ n (On.grow HO.out (by repeat (with_reducible first | assumption | exact grA | apply grB | apply grC | apply grD | refine grE ?_ (by omega) _ | refine grF ?_ (by omega) _ _))) (by simp [go_sem, hx, zx])).mono ?_); rintro e w1 ⟨rfl, rfl⟩)
            | (go_at_call 42; (with_reducible refine (C1.out _).mono ?_); rintro e w1 ⟨rfl, x1, rfl⟩)
            | (go_at_call 43; (with_reducible refine (PE1.out _ (On.grow HO.out (by repeat (with_reducible first | assumption | exact grA | apply grB | apply grC | apply grD | refine grE ?_ (by omega) _ | refine grF ?_ (by omega) _ _)))).mono ?_); rintro e w2 ⟨k1, rfl, ⟨y1, rfl⟩, hk1, _, _⟩; obtain rfl : k1 = 0 := by omega)
            | (go_at_call 43; (with_reducible refine (PE2.out _ (On.grow HO.out (by repeat (with_reducible first | assumption | exact grA | apply grB | apply grC | apply grD | refine grE ?_ (by omega) _ | refine grF ?_ (by omega) _ _)))).mono ?_); rintro e w2 ⟨k1, rfl, ⟨y1, rfl⟩, hk1, _, _⟩; obtain rfl : k1 = 0 := by omega))
          go_loopg [43] 0 (fun gn v43 wj => v43 = .int .i64 0 ∧ wj.row ix = some (.cells #[mb, .int .i64 n] 60) ∧ Hid (On ix w0 wj ∧ I [] wj O))
          case atStart => exact ⟨rfl, by simp [go_sem, hx, zx], Lib.hid ⟨On.grow HO.out (by repeat (with_reducible first | assumption | exact grA | apply grB | apply grC | apply grD | refine grE ?_ (by omega) _ | refine grF ?_ (by omega) _ _)), HW.out.keep _ _ _ _ HI.out (fun k hk hl => World.grows.row_eq (by repeat (with_reducible first | assumption | exact grA | apply grB | apply grC | apply grD | refine grE ?_ (by omega) _ | refine grF ?_ (by omega) _ _)) hl) (by simp; omega)⟩⟩
          case round =>
            obtain ⟨rfl, hx2, hS2⟩ := hrel
            go_wp2_with fail
            go_end0
            exact ⟨rfl, O, 0, [], HSUB.out _ ⟨0, 0, rfl, by simp, fun x h => by omega, fun x h => by simp at h, fun x h => by omega, fun x h => by simp at h⟩, by simp, hS2.out.1, by simpa using hx2, hS2.out.2⟩
      injection e with f1 f2 f3
      subst f1; subst f3
      have hv1' : N ≤ vc := by rw [f2]; exact hv1
      clear f2 hv1
      have pl1 : ∀ W, W.row w.heap.size = some (.cells #[.int .i64 a, .int .i64 b] 24) → On ix w0 W → Calls Try.prog 43 #[.slice (some ⟨g, off, none⟩) N vc, .func (.func 44) #[] #[.pointer (some ⟨w.heap.size, 0, none⟩)]] W fun e w' => ∃ k : Nat, e = .returned (.int .i64 k) ∧ W.grows w' ∧ k ≤ N ∧ (∀ x, 0 < k → p[k - 1]? = some x → aheadA a b x = true) ∧ ∀ x, p[k]? = some x → aheadA a b x = false := fun W hb hO => place_any _ (.inl rfl) _ (fun g => g ≠ ix) _ N vc p (aheadA a b) W (SlAt.on HP.out hO) hN (fun W2 hg x hx => turn1_any _ x a b W2 (HWF.out x hx) wa wb ((hg.row_eq (row_sz' hb).1).trans hb))
      have pl2 : ∀ k1 o1, SlAt w0 (fun g => g ≠ ix) 5 LnR (.slice (some ⟨g, o1, none⟩) (N - k1) (vc - k1)) (p.drop k1) → ∀ W, W.row (w.heap.size + 1) = some (.cells #[.int .i64 c, .int .i64 d] 24) → On ix w0 W → Calls Try.prog 43 #[.slice (some ⟨g, o1, none⟩) (N - k1) (vc - k1), .func (.func 45) #[] #[.pointer (some ⟨w.heap.size + 1, 0, none⟩)]] W fun e w' => ∃ k : Nat, e = .returned (.int .i64 k) ∧ W.grows w' ∧ k ≤ N - k1 ∧ (∀ x, 0 < k → (p.drop k1)[k - 1]? = some x → aheadB c d x = true) ∧ ∀ x, (p.drop k1)[k]? = some x → aheadB c d x = false := fun k1 o1 hs W hb hO => place_any _ (.inr rfl) _ (fun g => g ≠ ix) _ (N - k1) _ (p.drop k1) (aheadB c d) W (SlAt.on hs hO) (by omega) (fun W2 hg x hx => turn2_any _ x c d W2 (HWF.out x (List.mem_of_mem_drop hx)) wc wd ((hg.row_eq (row_sz' hb).1).trans hb))
      have PL1 := Lib.hid pl1; have PL2 := Lib.hid pl2
      clear pl1 pl2 h4 hgx
      go_enter Try.func29, Try.ntmps29
      go_upto_region 7 with (first
        | (go_at_call 37; (with_reducible refine (HL.out _ n (On.grow HO.out (by repeat (with_reducible first | assumption | exact grA | apply grB | apply grC | apply grD | refine grE ?_ (by omega) _ | refine grF ?_ (by omega) _ _))) (by simp [go_sem, hx, zx])).mono ?_); rintro e w1 ⟨rfl, rfl⟩)
        | (go_at_call 42; (with_reducible refine (C1.out _).mono ?_); rintro e w1 ⟨rfl, x1, rfl⟩))
      go_upto_region 8 with (go_at_call 43; go_loud ((with_reducible refine (PL1.out _ (by simp [go_sem]) (On.grow HO.out (by repeat (with_reducible first | assumption | exact grA | apply grB | apply grC | apply grD | refine grE ?_ (by omega) _ | refine grF ?_ (by omega) _ _)))).mono ?_); rintro e w2 ⟨k1, rfl, ⟨y1, rfl⟩, hk1, hp1, hp2⟩))
      have hq1 : ∃ o1, (if vc = k1 then some (⟨g, off, none⟩ : Addr) else some ⟨g, off + k1 * 5, none⟩) = some ⟨g, o1, none⟩ ∧ SlAt w0 (fun g => g ≠ ix) 5 LnR (.slice (some ⟨g, o1, none⟩) (N - k1) (vc - k1)) (p.drop k1) := by
        split
        · refine ⟨off, rfl, some ⟨g, off, none⟩, vc - k1, by rw [List.length_drop, EQ.out], by rw [List.length_drop, EQ.out]; omega, by omega, .inl ?_⟩
          exact List.drop_eq_nil_of_le (by rw [EQ.out]; omega)
        · exact ⟨_, rfl, SlAt.drop HP.out (by rw [EQ.out]; exact hk1)⟩
      obtain ⟨o1, ho1, hq1⟩ := hq1
      rw [ho1]
      have HQ1 := Lib.hid hq1; have HP1 := Lib.hid hp1; have HP2 := Lib.hid hp2
      clear hq1 hp1 hp2 ho1
      go_upto_region 9 with (go_at_call 43; go_loud ((with_reducible refine (PL2.out k1 o1 HQ1.out _ (by simp [go_sem]) (On.grow HO.out (by repeat (with_reducible first | assumption | exact grA | apply grB | apply grC | apply grD | refine grE ?_ (by omega) _ | refine grF ?_ (by omega) _ _)))).mono ?_); rintro e w3 ⟨k2, rfl, ⟨y2, rfl⟩, hk2, hp3, hp4⟩))
      have HP3 := Lib.hid hp3; have HP4 := Lib.hid hp4
      have hq2 := SlAt.take HQ1.out (k := k2) (by rw [List.length_drop, EQ.out]; exact hk2)
      have eq2 : ((p.drop k1).take k2).length = k2 := by rw [List.length_take, List.length_drop, EQ.out]; omega
      have hkk : k1 ≤ p.length ∧ k2 ≤ (p.drop k1).length := ⟨by rw [EQ.out]; exact hk1, by rw [List.length_drop, EQ.out]; exact hk2⟩
      clear HQ EQ hp3 hp4
      have hsq := HSUB.out _ (show CutL a b c d p ((p.drop k1).take k2) from ⟨k1, k2, rfl, hkk, HP1.out, HP2.out, HP3.out, HP4.out⟩)
      generalize (p.drop k1).take k2 = qq at *
      have HQ := Lib.hid hq2; have EQ := Lib.hid eq2; have HSQ := Lib.hid hsq
      have hkN : k2 ≤ 1048576 := by omega
      clear hkk hq2 eq2 hsq HP1 HP2 HP3 HP4 HQ1 PL1 PL2 HSUB
      go_wp2_with fail
      go_loopg [43] k2 (fun gn v43 wj => ∃ (i : Nat) (acc : List Ln) (O1 : Nat → Prop), Hid (gn + i = k2 ∧ i ≤ k2) ∧ v43 = .int .i64 i ∧ wj.row ix = some (.cells #[mb, .int .i64 (n + (i : Int))] 60) ∧ wj.row w.heap.size = some (.cells #[.int .i64 a, .int .i64 b] 24) ∧ wj.row (w.heap.size + 1) = some (.cells #[.int .i64 c, .int .i64 d] 24) ∧ Hid (On ix w0 wj ∧ I acc wj O1 ∧ (acc = [] ∧ (qq.take i).filter (flipAt a b c d) = []) ∧ ¬ O1 w.heap.size ∧ ¬ O1 (w.heap.size + 1)))
      case atStart => exact ⟨0, [], O, Lib.hid ⟨by simp, Nat.zero_le _⟩, by go_num, by simp [go_sem, hx, zx], by simp [go_sem], by simp [go_sem], Lib.hid ⟨(On.grow HO.out (by repeat (with_reducible first | assumption | exact grA | apply grB | apply grC | apply grD | refine grE ?_ (by omega) _ | refine grF ?_ (by omega) _ _))), HW.out.keep _ _ _ _ HI.out (fun k hk hl => by have hlo := HW.out.low _ _ _ HI.out k hk; exact World.grows.row_eq (by repeat (with_reducible first | assumption | exact grA | apply grB | apply grC | apply grD | refine grE ?_ (by omega) _ | refine grF ?_ (by omega) _ _)) hl) (by simp; omega), ⟨rfl, by simp⟩, fun h => by have := (HW.out.low _ _ _ HI.out _ h).2; omega, fun h => by have := (HW.out.low _ _ _ HI.out _ h).2; omega⟩⟩
      case round =>
        clear hx zx
        obtain ⟨i, acc, O1, HK, rfl, hx, hb0, hb1, HS⟩ := hrel
        obtain ⟨m1, m2⟩ := HK.out
        have zx := row_sz' hx
        have zb0 := row_sz' hb0
        have zb1 := row_sz' hb1
        by_cases hlt : i < k2
        · have hNl := EQ.out
          rcases (SlAt.on HQ.out HS.out.1) with ⟨va2, vc2, e, _, _, h0 | ⟨g5, off5, eva, hgx, h4⟩⟩
          · rw [h0] at hNl; simp at hNl; omega
          injection e with f1 f2 f3
          rw [eva] at f1
          clear eva f2 f3
          cases f1
          have hgt := List.getElem?_eq_getElem (by omega : i < qq.length)
          obtain ⟨cs, _, el, ec, wx⟩ := h4 i _ hgt
          have hfs : (qq.take (i + 1)).filter (flipAt a b c d) = (qq.take i).filter (flipAt a b c d) ++ if flipAt a b c d (qq[i]'(by omega)) then [qq[i]'(by omega)] else [] := by
            rw [List.take_add_one, hgt, List.filter_append]
            congr 1
            cases hf : flipAt a b c d (qq[i]'(by omega)) <;> simp [hf]
          generalize qq[i] = x at *
          subst ec
          have e1 : segOk (_ + i * 5) 5 (wr.row _) = true := el.1
          have e2 : segV (_ + i * 5) 5 (wr.row _) = x.v := el.2
          have zg := lt_sz el.lt
          have n1 : (i : Int) < (k2 : Int) := by omega
          have hcA := fun W => condCmp_any x.o a b x.p x.q W wx.2.1 wa wb wx.2.2.1 wx.2.2.2.1
          have hcB := fun W => condCmp_any x.o c d x.p x.q W wx.2.1 wc wd wx.2.2.1 wx.2.2.2.1
          have hwant := fun W O2 h => HW.out.call acc W O2 x wx h
          have hfl : flipAt a b c d x = decide (truth x.o a b x.p x.q ≠ truth x.o c d x.p x.q) := rfl
          rw [hfl] at hfs
          obtain ⟨nx, o, q, r, id⟩ := x
          simp only at hcA hcB hfs
          have HCA := Lib.hid hcA; have HCB := Lib.hid hcB; have HFS := Lib.hid hfs; have HWA := Lib.hid hwant
          clear hcA hcB hfs hgt h4 el wx hNl hwant hfl hgx
          generalize truth o a b q r = t at *
          generalize truth o c d q r = t2 at *
          have hadd := cntAdd_any ix mb (n + (i : Int)) 60 (wr.alloc (.cells #[.string nx, .int .i64 o, .int .i64 q, .int .i64 r, .int .i64 id] 37)) (by simp [go_sem, hx, zx]) (by omega) (by omega)
          have HADD := Lib.hid hadd
          clear hadd
          go_upto_region 13 with (go_at_call 46; go_loud ((with_reducible refine (HADD.out).mono ?_); rintro e w1 ⟨rfl, ho1, hx1⟩))
          have q0 := (ho1.row w.heap.size (by omega) (by simp; omega)).trans (by simp [go_sem, hb0, zb0] : _ = some (.cells #[.int .i64 a, .int .i64 b] 24))
          have q1 := (ho1.row (w.heap.size + 1) (by omega) (by simp; omega)).trans (by simp [go_sem, hb1, zb1] : _ = some (.cells #[.int .i64 c, .int .i64 d] 24))
          have q2 := (ho1.row wr.heap.size (by omega) (by simp)).trans (by simp [go_sem] : _ = some (.cells #[.string nx, .int .i64 o, .int .i64 q, .int .i64 r, .int .i64 id] 37))
          have z0 := row_sz' q0; have z1 := row_sz' q1; have z2 := row_sz' q2; have z3 := row_sz' hx1
          have hgx := fun W (hg : w1.grows W) => HW.out.keep acc wr W O1 HS.out.2.1 (fun k hk hl => by
            have hlo := HW.out.low _ _ _ HS.out.2.1 k hk
            exact (hg.row_eq (by have := ho1.size; simp at this; omega)).trans ((ho1.row k (by omega) (by simp; omega)).trans (World.grows.row_eq (by repeat (with_reducible first | assumption | exact grA | apply grB | apply grC | apply grD | refine grE ?_ (by omega) _ | refine grF ?_ (by omega) _ _)) hl))) (by have h3 := ho1.size; have h4 := hg.below.size; simp at h3; omega)
          have HGX := Lib.hid hgx
          have hon1 : ∀ W, w1.grows W → On ix w0 W := fun W hg => On.grow ((HS.out.1.grow (by repeat (with_reducible first | assumption | exact grA | apply grB | apply grC | apply grD | refine grE ?_ (by omega) _ | refine grF ?_ (by omega) _ _))).trans ho1) hg
          have HON1 := Lib.hid hon1
          have hsz1 := ho1.size
          simp at hsz1
          clear hgx hon1 ho1 hx zx hb0 hb1 zb0 zb1 e1 e2
          have hal : acc.length ≤ 1048576 := by rw [HS.out.2.2.1.1]; simp
          by_cases ht : t = t2
          · subst ht
            refine wp_region_plus_lit (by kernel_rfl) (by kernel_rfl) ?_
            repeat (go_big_quiet_step (first | (go_at_call 38; (with_reducible exact Calls.plus_of (HCA.out _))) | (go_at_call 38; (with_reducible exact Calls.plus_of (HCB.out _)))))
            (refine wpQuiet_nil ?_; intro _ hw'; obtain ⟨xq, hw''⟩ := hw'; subst hw'')
            go_wp2_with fail
            go_roundg (k2 - (i + 1))
            case rel => exact ⟨i + 1, acc, O1, Lib.hid ⟨by omega, by omega⟩, by go_num, by simp [go_sem, hx1, z3]; omega, by simp [go_sem, q0, z0], by simp [go_sem, q1, z1], Lib.hid ⟨HON1.out _ (by repeat (with_reducible first | assumption | exact grA | apply grB | apply grC | apply grD | refine grE ?_ (by omega) _ | refine grF ?_ (by omega) _ _)), HGX.out _ (by repeat (with_reducible first | assumption | exact grA | apply grB | apply grC | apply grD | refine grE ?_ (by omega) _ | refine grF ?_ (by omega) _ _)), by rw [HFS.out]; simpa using HS.out.2.2.1, HS.out.2.2.2⟩⟩
            case measure => omega
          · have hbq : (t == t2) = false := by simpa using ht
            have hbn : (t != t2) = true := by simp [bne, hbq]
            refine wp_region_plus_seq_tail 16 (by kernel_rfl) (by kernel_rfl) (fun x0 => ?_)
            simp only [List.take_succ_cons, List.take_zero, List.drop_succ_cons, List.drop_zero]
            repeat (any_goals (first | (refine wpSeqL_free rfl ?_; first | (go_big_quiet_skip; refine wpQuiet_nil ?_) | (go_big_quiet_step (fail); refine wpQuiet_nil ?_) | (refine wpQuiet_step (fun K hK => ?_); go_simp; split <;> (refine hK _ ?_; clear hK K; refine wpQuiet_nil ?_))) | (refine wpSeqL_link rfl (fun K hK => ?_); go_simp; first | first | (refine hK _ _ (by show World.grows _ _; repeat (first | assumption | exact grA | apply grB | apply grC | apply grD)) ?_; clear hK K) | ((first | (go_at_call 38; (with_reducible refine (HCA.out _).mono ?_); rintro e w1 ⟨rfl, x1, rfl⟩) | (go_at_call 38; (with_reducible refine (HCB.out _).mono ?_); rintro e w1 ⟨rfl, x1, rfl⟩)); refine ⟨_, rfl, hK _ _ (by show World.grows _ _; repeat (first | assumption | exact grA | apply grB | apply grC | apply grD)) ?_⟩; clear hK K) | (split <;> (first | (refine hK _ _ (by show World.grows _ _; repeat (first | assumption | exact grA | apply grB | apply grC | apply grD)) ?_; clear hK K) | ((first | (go_at_call 38; (with_reducible refine (HCA.out _).mono ?_); rintro e w1 ⟨rfl, x1, rfl⟩) | (go_at_call 38; (with_reducible refine (HCB.out _).mono ?_); rintro e w1 ⟨rfl, x1, rfl⟩)); refine ⟨_, rfl, hK _ _ (by show World.grows _ _; repeat (first | assumption | exact grA | apply grB | apply grC | apply grD)) ?_⟩; clear hK K))))))
            all_goals (refine wpSeqL_end ?_)
            go_wp2_with (go_at_call 32; (with_reducible refine (HWA.out _ O1 hal (HGX.out _ (by repeat (with_reducible first | assumption | exact grA | apply grB | apply grC | apply grD | refine grE ?_ (by omega) _ | refine grF ?_ (by omega) _ _)))).mono ?_); rintro e w2 ⟨rfl, O2, hI2, hO2, hr2, hs2, hg2⟩)
            have hlw := HW.out.low _ _ _ HS.out.2.1
            have ho2 := On.want (HON1.out _ (by repeat (with_reducible first | assumption | exact grA | apply grB | apply grC | apply grD | refine grE ?_ (by omega) _ | refine grF ?_ (by omega) _ _))) hix (fun k hk => (hlw k hk).1) hr2 hs2 hg2
            have hx2 := (hr2 ix (fun h => by have := (hlw _ h).1; omega) (by simp; omega)).trans (by simp [go_sem, hx1, z3] : _ = some (.cells #[mb, .int .i64 (n + (i : Int) + 1)] 60))
            have e8 : n + (i : Int) + 1 = n + ((i + 1 : Nat) : Int) := by omega
            rw [e8] at hx2
            ((try simp only [Exit.inBlock, Exit.then]); refine bodyPost_ret (results_none rfl _ _ _) rfl ?_)
            exact ⟨rfl, O2, i + 1, qq, HSQ.out, by rw [EQ.out]; omega, ho2, hx2, by
              have hsplit : qq.filter (flipAt a b c d) = (qq.take (i + 1)).filter (flipAt a b c d) ++ (qq.drop (i + 1)).filter (flipAt a b c d) := by rw [← List.filter_append, List.take_append_drop]
              rw [hsplit, HFS.out, HS.out.2.2.1.2]
              have := HS.out.2.2.1.1
              subst this
              simpa [ht] using hI2⟩
        · obtain rfl : i = k2 := by omega
          have n1 : ¬ (i : Int) < (i : Int) := by omega
          have hall : qq.take i = qq := List.take_of_length_le (by rw [EQ.out]; exact Nat.le_refl _)
          rw [hall] at HS
          go_wp2_with fail
          go_end0
          exact ⟨rfl, O1, i, qq, HSQ.out, by rw [EQ.out]; exact Nat.le_refl _, HS.out.1, hx, by rw [HS.out.2.2.1.2]; have := HS.out.2.1; rw [HS.out.2.2.1.1] at this; exact this⟩
    · by_cases hz : cmpI a b c d = 0
      · have hsub : SubOf a b c d p [] := by unfold SubOf; rw [hb, if_neg (by simp), if_pos hz]
        have HSUB := Lib.hid hsub
        clear hsub
        rw [hz] at c1
        have C1 := Lib.hid c1
        clear c1 hz hn
        go_enter Try.func29, Try.ntmps29
        go_wp2_with (first
          | (go_at_call 37; (with_reducible refine (HL.out _ n (On.grow HO.out (by repeat (with_reducible first | assumption | exact grA | apply grB | apply grC | apply grD | refine grE ?_ (by omega) _ | refine grF ?_ (by omega) _ _))) (by simp [go_sem, hx, zx])).mono ?_); rintro e w1 ⟨rfl, rfl⟩)
          | (go_at_call 42; (with_reducible refine (C1.out _).mono ?_); rintro e w1 ⟨rfl, x1, rfl⟩))
        ((try simp only [Exit.inBlock, Exit.then]); refine bodyPost_ret (results_none rfl _ _ _) rfl ?_)
        exact ⟨rfl, O, 0, [], HSUB.out, by simp, On.grow HO.out (by repeat (with_reducible first | assumption | exact grA | apply grB | apply grC | apply grD | refine grE ?_ (by omega) _ | refine grF ?_ (by omega) _ _)), by simp [go_sem, hx, zx], HW.out.keep _ _ _ _ HI.out (fun k hk hl => World.grows.row_eq (by repeat (with_reducible first | assumption | exact grA | apply grB | apply grC | apply grD | refine grE ?_ (by omega) _ | refine grF ?_ (by omega) _ _)) hl) (by simp; omega)⟩
      have hn1 : ¬ cmpI a b c d = 0 := hz
      have hn2 : cmpI a b c d > 0 := by omega
      have hn3 : 0 < cmpI a b c d := by omega
      have hsub : ∀ sub, CutL c d a b p sub → SubOf a b c d p sub := fun sub h => by unfold SubOf; rw [hb, if_neg (by simp), if_neg hn1, if_neg hn]; exact h
      have HSUB := Lib.hid hsub
      clear hsub hz
      generalize cmpI a b c d = cc at *
      have C1 := Lib.hid c1
      clear c1
      rcases HP.out with ⟨va2, vc2, e, hv1, hv2, h0 | ⟨g, off, rfl, hgx, h4⟩⟩
      · subst h0
        have hN0 : N = 0 := by rw [← EQ.out]; rfl
        subst hN0
        clear hv1
        have pe1 : ∀ W, On ix w0 W → Calls Try.prog 43 #[.slice va 0 vc, .func (.func 44) #[] #[.pointer (some ⟨w.heap.size, 0, none⟩)]] W fun e w' => ∃ k : Nat, e = .returned (.int .i64 k) ∧ W.grows w' ∧ k ≤ 0 ∧ (∀ x, 0 < k → ([] : List Ln)[k - 1]? = some x → aheadA a b x = true) ∧ ∀ x, ([] : List Ln)[k]? = some x → aheadA a b x = false := fun W hO => place_any _ (.inl rfl) _ (fun g => g ≠ ix) _ 0 vc [] (aheadA a b) W (SlAt.on HP.out hO) (by omega) (fun W2 hg x hx => by cases hx)
        have pe2 : ∀ W, On ix w0 W → Calls Try.prog 43 #[.slice va 0 vc, .func (.func 45) #[] #[.pointer (some ⟨w.heap.size + 1, 0, none⟩)]] W fun e w' => ∃ k : Nat, e = .returned (.int .i64 k) ∧ W.grows w' ∧ k ≤ 0 ∧ (∀ x, 0 < k → ([] : List Ln)[k - 1]? = some x → aheadA a b x = true) ∧ ∀ x, ([] : List Ln)[k]? = some x → aheadA a b x = false := fun W hO => place_any _ (.inr rfl) _ (fun g => g ≠ ix) _ 0 vc [] (aheadA a b) W (SlAt.on HP.out hO) (by omega) (fun W2 hg x hx => by cases hx)
        have PE1 := Lib.hid pe1; have PE2 := Lib.hid pe2
        have hvc : vc ≤ 9223372036854775807 := by
          injection e with _ _ f3
          rw [f3]; exact hv2
        clear pe1 pe2 e hv2
        rcases va with _ | ⟨g, off, sp⟩
        · go_enter Try.func29, Try.ntmps29
          go_wp2_with (first
            | (go_at_call 37; (with_reducible refine (HL.out _ n (On.grow HO.out (by repeat (with_reducible first | assumption | exact grA | apply grB | apply grC | apply grD | refine grE ?_ (by omega) _ | refine grF ?_ (by omega) _ _))) (by simp [go_sem, hx, zx])).mono ?_); rintro e w1 ⟨rfl, rfl⟩)
            | (go_at_call 42; (with_reducible refine (C1.out _).mono ?_); rintro e w1 ⟨rfl, x1, rfl⟩)
            | (go_at_call 43; (with_reducible refine (PE1.out _ (On.grow HO.out (by repeat (with_reducible first | assumption | exact grA | apply grB | apply grC | apply grD | refine grE ?_ (by omega) _ | refine grF ?_ (by omega) _ _)))).mono ?_); rintro e w2 ⟨k1, rfl, ⟨y1, rfl⟩, hk1, _, _⟩; obtain rfl : k1 = 0 := by omega)
            | (go_at_call 43; (with_reducible refine (PE2.out _ (On.grow HO.out (by repeat (with_reducible first | assumption | exact grA | apply grB | apply grC | apply grD | refine grE ?_ (by omega) _ | refine grF ?_ (by omega) _ _)))).mono ?_); rintro e w2 ⟨k1, rfl, ⟨y1, rfl⟩, hk1, _, _⟩; obtain rfl : k1 = 0 := by omega))
          go_loopg [43] 0 (fun gn v43 wj => v43 = .int .i64 0 ∧ wj.row ix = some (.cells #[mb, .int .i64 n] 60) ∧ Hid (On ix w0 wj ∧ I [] wj O))
          case atStart => exact ⟨rfl, by simp [go_sem, hx, zx], Lib.hid ⟨On.grow HO.out (by repeat (with_reducible first | assumption | exact grA | apply grB | apply grC | apply grD | refine grE ?_ (by omega) _ | refine grF ?_ (by omega) _ _)), HW.out.keep _ _ _ _ HI.out (fun k hk hl => World.grows.row_eq (by repeat (with_reducible first | assumption | exact grA | apply grB | apply grC | apply grD | refine grE ?_ (by omega) _ | refine grF ?_ (by omega) _ _)) hl) (by simp; omega)⟩⟩
          case round =>
            obtain ⟨rfl, hx2, hS2⟩ := hrel
            go_wp2_with fail
            go_end0
            exact ⟨rfl, O, 0, [], HSUB.out _ ⟨0, 0, rfl, by simp, fun x h => by omega, fun x h => by simp at h, fun x h => by omega, fun x h => by simp at h⟩, by simp, hS2.out.1, by simpa using hx2, hS2.out.2⟩
        · go_enter Try.func29, Try.ntmps29
          go_wp2_with (first
            | (go_at_call 37; (with_reducible refine (HL.out _ n (On.grow HO.out (by repeat (with_reducible first | assumption | exact grA | apply grB | apply grC | apply grD | refine grE ?_ (by omega) _ | refine grF ?_ (by omega) _ _))) (by simp [go_sem, hx, zx])).mono ?_); rintro e w1 ⟨rfl, rfl⟩)
            | (go_at_call 42; (with_reducible refine (C1.out _).mono ?_); rintro e w1 ⟨rfl, x1, rfl⟩)
            | (go_at_call 43; (with_reducible refine (PE1.out _ (On.grow HO.out (by repeat (with_reducible first | assumption | exact grA | apply grB | apply grC | apply grD | refine grE ?_ (by omega) _ | refine grF ?_ (by omega) _ _)))).mono ?_); rintro e w2 ⟨k1, rfl, ⟨y1, rfl⟩, hk1, _, _⟩; obtain rfl : k1 = 0 := by omega)
            | (go_at_call 43; (with_reducible refine (PE2.out _ (On.grow HO.out (by repeat (with_reducible first | assumption | exact grA | apply grB | apply grC | apply grD | refine grE ?_ (by omega) _ | refine grF ?_ (by omega) _ _)))).mono ?_); rintro e w2 ⟨k1, rfl, ⟨y1, rfl⟩, hk1, _, _⟩; obtain rfl : k1 = 0 := by omega))
          go_loopg [43] 0 (fun gn v43 wj => v43 = .int .i64 0 ∧ wj.row ix = some (.cells #[mb, .int .i64 n] 60) ∧ Hid (On ix w0 wj ∧ I [] wj O))
          case atStart => exact ⟨rfl, by simp [go_sem, hx, zx], Lib.hid ⟨On.grow HO.out (by repeat (with_reducible first | assumption | exact grA | apply grB | apply grC | apply grD | refine grE ?_ (by omega) _ | refine grF ?_ (by omega) _ _)), HW.out.keep _ _ _ _ HI.out (fun k hk hl => World.grows.row_eq (by repeat (with_reducible first | assumption | exact grA | apply grB | apply grC | apply grD | refine grE ?_ (by omega) _ | refine grF ?_ (by omega) _ _)) hl) (by simp; omega)⟩⟩
          case round =>
            obtain ⟨rfl, hx2, hS2⟩ := hrel
            go_wp2_with fail
            go_end0
            exact ⟨rfl, O, 0, [], HSUB.out _ ⟨0, 0, rfl, by simp, fun x h => by omega, fun x h => by simp at h, fun x h => by omega, fun x h => by simp at h⟩, by simp, hS2.out.1, by simpa using hx2, hS2.out.2⟩
      injection e with f1 f2 f3
      subst f1; subst f3
      have hv1' : N ≤ vc := by rw [f2]; exact hv1
      clear f2 hv1
      have pl1 : ∀ W, W.row w.heap.size = some (.cells #[.int .i64 c, .int .i64 d] 24) → On ix w0 W → Calls Try.prog 43 #[.slice (some ⟨g, off, none⟩) N vc, .func (.func 44) #[] #[.pointer (some ⟨w.heap.size, 0, none⟩)]] W fun e w' => ∃ k : Nat, e = .returned (.int .i64 k) ∧ W.grows w' ∧ k ≤ N ∧ (∀ x, 0 < k → p[k - 1]? = some x → aheadA c d x = true) ∧ ∀ x, p[k]? = some x → aheadA c d x = false := fun W hb hO => place_any _ (.inl rfl) _ (fun g => g ≠ ix) _ N vc p (aheadA c d) W (SlAt.on HP.out hO) hN (fun W2 hg x hx => turn1_any _ x c d W2 (HWF.out x hx) wc wd ((hg.row_eq (row_sz' hb).1).trans hb))
      have pl2 : ∀ k1 o1, SlAt w0 (fun g => g ≠ ix) 5 LnR (.slice (some ⟨g, o1, none⟩) (N - k1) (vc - k1)) (p.drop k1) → ∀ W, W.row (w.heap.size + 1) = some (.cells #[.int .i64 a, .int .i64 b] 24) → On ix w0 W → Calls Try.prog 43 #[.slice (some ⟨g, o1, none⟩) (N - k1) (vc - k1), .func (.func 45) #[] #[.pointer (some ⟨w.heap.size + 1, 0, none⟩)]] W fun e w' => ∃ k : Nat, e = .returned (.int .i64 k) ∧ W.grows w' ∧ k ≤ N - k1 ∧ (∀ x, 0 < k → (p.drop k1)[k - 1]? = some x → aheadB a b x = true) ∧ ∀ x, (p.drop k1)[k]? = some x → aheadB a b x = false := fun k1 o1 hs W hb hO => place_any _ (.inr rfl) _ (fun g => g ≠ ix) _ (N - k1) _ (p.drop k1) (aheadB a b) W (SlAt.on hs hO) (by omega) (fun W2 hg x hx => turn2_any _ x a b W2 (HWF.out x (List.mem_of_mem_drop hx)) wa wb ((hg.row_eq (row_sz' hb).1).trans hb))
      have PL1 := Lib.hid pl1; have PL2 := Lib.hid pl2
      clear pl1 pl2 h4 hgx
      go_enter Try.func29, Try.ntmps29
      go_upto_region 7 with (first
        | (go_at_call 37; (with_reducible refine (HL.out _ n (On.grow HO.out (by repeat (with_reducible first | assumption | exact grA | apply grB | apply grC | apply grD | refine grE ?_ (by omega) _ | refine grF ?_ (by omega) _ _))) (by simp [go_sem, hx, zx])).mono ?_); rintro e w1 ⟨rfl, rfl⟩)
        | (go_at_call 42; (with_reducible refine (C1.out _).mono ?_); rintro e w1 ⟨rfl, x1, rfl⟩))
      go_upto_region 8 with (go_at_call 43; go_loud ((with_reducible refine (PL1.out _ (by simp [go_sem]) (On.grow HO.out (by repeat (with_reducible first | assumption | exact grA | apply grB | apply grC | apply grD | refine grE ?_ (by omega) _ | refine grF ?_ (by omega) _ _)))).mono ?_); rintro e w2 ⟨k1, rfl, ⟨y1, rfl⟩, hk1, hp1, hp2⟩))
      have hq1 : ∃ o1, (if vc = k1 then some (⟨g, off, none⟩ : Addr) else some ⟨g, off + k1 * 5, none⟩) = some ⟨g, o1, none⟩ ∧ SlAt w0 (fun g => g ≠ ix) 5 LnR (.slice (some ⟨g, o1, none⟩) (N - k1) (vc - k1)) (p.drop k1) := by
        split
        · refine ⟨off, rfl, some ⟨g, off, none⟩, vc - k1, by rw [List.length_drop, EQ.out], by rw [List.length_drop, EQ.out]; omega, by omega, .inl ?_⟩
          exact List.drop_eq_nil_of_le (by rw [EQ.out]; omega)
        · exact ⟨_, rfl, SlAt.drop HP.out (by rw [EQ.out]; exact hk1)⟩
      obtain ⟨o1, ho1, hq1⟩ := hq1
      rw [ho1]
      have HQ1 := Lib.hid hq1; have HP1 := Lib.hid hp1; have HP2 := Lib.hid hp2
      clear hq1 hp1 hp2 ho1
      go_upto_region 9 with (go_at_call 43; go_loud ((with_reducible refine (PL2.out k1 o1 HQ1.out _ (by simp [go_sem]) (On.grow HO.out (by repeat (with_reducible first | assumption | exact grA | apply grB | apply grC | apply grD | refine grE ?_ (by omega) _ | refine grF ?_ (by omega) _ _)))).mono ?_); rintro e w3 ⟨k2, rfl, ⟨y2, rfl⟩, hk2, hp3, hp4⟩))
      have HP3 := Lib.hid hp3; have HP4 := Lib.hid hp4
      have hq2 := SlAt.take HQ1.out (k := k2) (by rw [List.length_drop, EQ.out]; exact hk2)
      have eq2 : ((p.drop k1).take k2).length = k2 := by rw [List.length_take, List.length_drop, EQ.out]; omega
      have hkk : k1 ≤ p.length ∧ k2 ≤ (p.drop k1).length := ⟨by rw [EQ.out]; exact hk1, by rw [List.length_drop, EQ.out]; exact hk2⟩
      clear HQ EQ hp3 hp4
      have hsq := HSUB.out _ (show CutL c d a b p ((p.drop k1).take k2) from ⟨k1, k2, rfl, hkk, HP1.out, HP2.out, HP3.out, HP4.out⟩)
      generalize (p.drop k1).take k2 = qq at *
      have HQ := Lib.hid hq2; have EQ := Lib.hid eq2; have HSQ := Lib.hid hsq
      have hkN : k2 ≤ 1048576 := by omega
      clear hkk hq2 eq2 hsq HP1 HP2 HP3 HP4 HQ1 PL1 PL2 HSUB
      go_wp2_with fail
      go_loopg [43] k2 (fun gn v43 wj => ∃ (i : Nat) (acc : List Ln) (O1 : Nat → Prop), Hid (gn + i = k2 ∧ i ≤ k2) ∧ v43 = .int .i64 i ∧ wj.row ix = some (.cells #[mb, .int .i64 (n + (i : Int))] 60) ∧ wj.row w.heap.size = some (.cells #[.int .i64 c, .int .i64 d] 24) ∧ wj.row (w.heap.size + 1) = some (.cells #[.int .i64 a, .int .i64 b] 24) ∧ Hid (On ix w0 wj ∧ I acc wj O1 ∧ (acc = [] ∧ (qq.take i).filter (flipAt a b c d) = []) ∧ ¬ O1 w.heap.size ∧ ¬ O1 (w.heap.size + 1)))
      case atStart => exact ⟨0, [], O, Lib.hid ⟨by simp, Nat.zero_le _⟩, by go_num, by simp [go_sem, hx, zx], by simp [go_sem], by simp [go_sem], Lib.hid ⟨(On.grow HO.out (by repeat (with_reducible first | assumption | exact grA | apply grB | apply grC | apply grD | refine grE ?_ (by omega) _ | refine grF ?_ (by omega) _ _))), HW.out.keep _ _ _ _ HI.out (fun k hk hl => by have hlo := HW.out.low _ _ _ HI.out k hk; exact World.grows.row_eq (by repeat (with_reducible first | assumption | exact grA | apply grB | apply grC | apply grD | refine grE ?_ (by omega) _ | refine grF ?_ (by omega) _ _)) hl) (by simp; omega), ⟨rfl, by simp⟩, fun h => by have := (HW.out.low _ _ _ HI.out _ h).2; omega, fun h => by have := (HW.out.low _ _ _ HI.out _ h).2; omega⟩⟩
      case round =>
        clear hx zx
        obtain ⟨i, acc, O1, HK, rfl, hx, hb0, hb1, HS⟩ := hrel
        obtain ⟨m1, m2⟩ := HK.out
        have zx := row_sz' hx
        have zb0 := row_sz' hb0
        have zb1 := row_sz' hb1
        by_cases hlt : i < k2
        · have hNl := EQ.out
          rcases (SlAt.on HQ.out HS.out.1) with ⟨va2, vc2, e, _, _, h0 | ⟨g5, off5, eva, hgx, h4⟩⟩
          · rw [h0] at hNl; simp at hNl; omega
          injection e with f1 f2 f3
          rw [eva] at f1
          clear eva f2 f3
          cases f1
          have hgt := List.getElem?_eq_getElem (by omega : i < qq.length)
          obtain ⟨cs, _, el, ec, wx⟩ := h4 i _ hgt
          have hfs : (qq.take (i + 1)).filter (flipAt a b c d) = (qq.take i).filter (flipAt a b c d) ++ if flipAt a b c d (qq[i]'(by omega)) then [qq[i]'(by omega)] else [] := by
            rw [List.take_add_one, hgt, List.filter_append]
            congr 1
            cases hf : flipAt a b c d (qq[i]'(by omega)) <;> simp [hf]
          generalize qq[i] = x at *
          subst ec
          have e1 : segOk (_ + i * 5) 5 (wr.row _) = true := el.1
          have e2 : segV (_ + i * 5) 5 (wr.row _) = x.v := el.2
          have zg := lt_sz el.lt
          have n1 : (i : Int) < (k2 : Int) := by omega
          have hcA := fun W => condCmp_any x.o c d x.p x.q W wx.2.1 wc wd wx.2.2.1 wx.2.2.2.1
          have hcB := fun W => condCmp_any x.o a b x.p x.q W wx.2.1 wa wb wx.2.2.1 wx.2.2.2.1
          have hwant := fun W O2 h => HW.out.call acc W O2 x wx h
          have hfl : flipAt a b c d x = decide (truth x.o c d x.p x.q ≠ truth x.o a b x.p x.q) := by unfold flipAt; exact decide_eq_decide.2 ne_comm
          rw [hfl] at hfs
          obtain ⟨nx, o, q, r, id⟩ := x
          simp only at hcA hcB hfs
          have HCA := Lib.hid hcA; have HCB := Lib.hid hcB; have HFS := Lib.hid hfs; have HWA := Lib.hid hwant
          clear hcA hcB hfs hgt h4 el wx hNl hwant hfl hgx
          generalize truth o c d q r = t at *
          generalize truth o a b q r = t2 at *
          have hadd := cntAdd_any ix mb (n + (i : Int)) 60 (wr.alloc (.cells #[.string nx, .int .i64 o, .int .i64 q, .int .i64 r, .int .i64 id] 37)) (by simp [go_sem, hx, zx]) (by omega) (by omega)
          have HADD := Lib.hid hadd
          clear hadd
          go_upto_region 13 with (go_at_call 46; go_loud ((with_reducible refine (HADD.out).mono ?_); rintro e w1 ⟨rfl, ho1, hx1⟩))
          have q0 := (ho1.row w.heap.size (by omega) (by simp; omega)).trans (by simp [go_sem, hb0, zb0] : _ = some (.cells #[.int .i64 c, .int .i64 d] 24))
          have q1 := (ho1.row (w.heap.size + 1) (by omega) (by simp; omega)).trans (by simp [go_sem, hb1, zb1] : _ = some (.cells #[.int .i64 a, .int .i64 b] 24))
          have q2 := (ho1.row wr.heap.size (by omega) (by simp)).trans (by simp [go_sem] : _ = some (.cells #[.string nx, .int .i64 o, .int .i64 q, .int .i64 r, .int .i64 id] 37))
          have z0 := row_sz' q0; have z1 := row_sz' q1; have z2 := row_sz' q2; have z3 := row_sz' hx1
          have hgx := fun W (hg : w1.grows W) => HW.out.keep acc wr W O1 HS.out.2.1 (fun k hk hl => by
            have hlo := HW.out.low _ _ _ HS.out.2.1 k hk
            exact (hg.row_eq (by have := ho1.size; simp at this; omega)).trans ((ho1.row k (by omega) (by simp; omega)).trans (World.grows.row_eq (by repeat (with_reducible first | assumption | exact grA | apply grB | apply grC | apply grD | refine grE ?_ (by omega) _ | refine grF ?_ (by omega) _ _)) hl))) (by have h3 := ho1.size; have h4 := hg.below.size; simp at h3; omega)
          have HGX := Lib.hid hgx
          have hon1 : ∀ W, w1.grows W → On ix w0 W := fun W hg => On.grow ((HS.out.1.grow (by repeat (with_reducible first | assumption | exact grA | apply grB | apply grC | apply grD | refine grE ?_ (by omega) _ | refine grF ?_ (by omega) _ _))).trans ho1) hg
          have HON1 := Lib.hid hon1
          have hsz1 := ho1.size
          simp at hsz1
          clear hgx hon1 ho1 hx zx hb0 hb1 zb0 zb1 e1 e2
          have hal : acc.length ≤ 1048576 := by rw [HS.out.2.2.1.1]; simp
          by_cases ht : t = t2
          · subst ht
            refine wp_region_plus_lit (by kernel_rfl) (by kernel_rfl) ?_
            repeat (go_big_quiet_step (first | (go_at_call 38; (with_reducible exact Calls.plus_of (HCA.out _))) | (go_at_call 38; (with_reducible exact Calls.plus_of (HCB.out _)))))
            (refine wpQuiet_nil ?_; intro _ hw'; obtain ⟨xq, hw''⟩ := hw'; subst hw'')
            go_wp2_with fail
            go_roundg (k2 - (i + 1))
            case rel => exact ⟨i + 1, acc, O1, Lib.hid ⟨by omega, by omega⟩, by go_num, by simp [go_sem, hx1, z3]; omega, by simp [go_sem, q0, z0], by simp [go_sem, q1, z1], Lib.hid ⟨HON1.out _ (by repeat (with_reducible first | assumption | exact grA | apply grB | apply grC | apply grD | refine grE ?_ (by omega) _ | refine grF ?_ (by omega) _ _)), HGX.out _ (by repeat (with_reducible first | assumption | exact grA | apply grB | apply grC | apply grD | refine grE ?_ (by omega) _ | refine grF ?_ (by omega) _ _)), by rw [HFS.out]; simpa using HS.out.2.2.1, HS.out.2.2.2⟩⟩
            case measure => omega
          · have hbq : (t == t2) = false := by simpa using ht
            have hbn : (t != t2) = true := by simp [bne, hbq]
            refine wp_region_plus_seq_tail 16 (by kernel_rfl) (by kernel_rfl) (fun x0 => ?_)
            simp only [List.take_succ_cons, List.take_zero, List.drop_succ_cons, List.drop_zero]
            repeat (any_goals (first | (refine wpSeqL_free rfl ?_; first | (go_big_quiet_skip; refine wpQuiet_nil ?_) | (go_big_quiet_step (fail); refine wpQuiet_nil ?_) | (refine wpQuiet_step (fun K hK => ?_); go_simp; split <;> (refine hK _ ?_; clear hK K; refine wpQuiet_nil ?_))) | (refine wpSeqL_link rfl (fun K hK => ?_); go_simp; first | first | (refine hK _ _ (by show World.grows _ _; repeat (first | assumption | exact grA | apply grB | apply grC | apply grD)) ?_; clear hK K) | ((first | (go_at_call 38; (with_reducible refine (HCA.out _).mono ?_); rintro e w1 ⟨rfl, x1, rfl⟩) | (go_at_call 38; (with_reducible refine (HCB.out _).mono ?_); rintro e w1 ⟨rfl, x1, rfl⟩)); refine ⟨_, rfl, hK _ _ (by show World.grows _ _; repeat (first | assumption | exact grA | apply grB | apply grC | apply grD)) ?_⟩; clear hK K) | (split <;> (first | (refine hK _ _ (by show World.grows _ _; repeat (first | assumption | exact grA | apply grB | apply grC | apply grD)) ?_; clear hK K) | ((first | (go_at_call 38; (with_reducible refine (HCA.out _).mono ?_); rintro e w1 ⟨rfl, x1, rfl⟩) | (go_at_call 38; (with_reducible refine (HCB.out _).mono ?_); rintro e w1 ⟨rfl, x1, rfl⟩)); refine ⟨_, rfl, hK _ _ (by show World.grows _ _; repeat (first | assumption | exact grA | apply grB | apply grC | apply grD)) ?_⟩; clear hK K))))))
            all_goals (refine wpSeqL_end ?_)
            go_wp2_with (go_at_call 32; (with_reducible refine (HWA.out _ O1 hal (HGX.out _ (by repeat (with_reducible first | assumption | exact grA | apply grB | apply grC | apply grD | refine grE ?_ (by omega) _ | refine grF ?_ (by omega) _ _)))).mono ?_); rintro e w2 ⟨rfl, O2, hI2, hO2, hr2, hs2, hg2⟩)
            have hlw := HW.out.low _ _ _ HS.out.2.1
            have ho2 := On.want (HON1.out _ (by repeat (with_reducible first | assumption | exact grA | apply grB | apply grC | apply grD | refine grE ?_ (by omega) _ | refine grF ?_ (by omega) _ _))) hix (fun k hk => (hlw k hk).1) hr2 hs2 hg2
            have hx2 := (hr2 ix (fun h => by have := (hlw _ h).1; omega) (by simp; omega)).trans (by simp [go_sem, hx1, z3] : _ = some (.cells #[mb, .int .i64 (n + (i : Int) + 1)] 60))
            have e8 : n + (i : Int) + 1 = n + ((i + 1 : Nat) : Int) := by omega
            rw [e8] at hx2
            ((try simp only [Exit.inBlock, Exit.then]); refine bodyPost_ret (results_none rfl _ _ _) rfl ?_)
            exact ⟨rfl, O2, i + 1, qq, HSQ.out, by rw [EQ.out]; omega, ho2, hx2, by
              have hsplit : qq.filter (flipAt a b c d) = (qq.take (i + 1)).filter (flipAt a b c d) ++ (qq.drop (i + 1)).filter (flipAt a b c d) := by rw [← List.filter_append, List.take_append_drop]
              rw [hsplit, HFS.out, HS.out.2.2.1.2]
              have := HS.out.2.2.1.1
              subst this
              simpa [ht] using hI2⟩
        · obtain rfl : i = k2 := by omega
          have n1 : ¬ (i : Int) < (i : Int) := by omega
          have hall : qq.take i = qq := List.take_of_length_le (by rw [EQ.out]; exact Nat.le_refl _)
          rw [hall] at HS
          go_wp2_with fail
          go_end0
          exact ⟨rfl, O1, i, qq, HSQ.out, by rw [EQ.out]; exact Nat.le_refl _, HS.out.1, hx, by rw [HS.out.2.2.1.2]; have := HS.out.2.1; rw [HS.out.2.2.1.1] at this; exact this⟩
end Go.Proofs.Ytjfccilmlmimaaa
