/- WALKS over slices: the stable sort of the numbers from 0 on, by what the caller's own function tells. No condition but that the function goes on. (does not build yet) -/
import Derived.Test.YtjfccilmlmimaaaESym3
set_option linter.unusedSimpArgs false
set_option linter.unusedVariables false
namespace Go.Proofs.Ytjfccilmlmimaaa
open Go.RowKit

set_option maxRecDepth 100000 in
set_option maxHeartbeats 8000000 in
theorem stableE_any {Z : Int → List Value} {RR0 : List Value} (hZ : ElZ 5 Z) {c : Int → Int → Int} {lt : Int → Int → Prop} {PW : World → Prop} (g cap N : Nat) (C : CmpFnE Try.prog 27 Z g N c lt PW) (f : Nat → Int) (w : World) (hP : PW w)
    (hr : w.row g = some (.cells (elsL Z f N ++ RR0).toArray 37)) (hN : N ≤ 1048576) (hc : N ≤ cap) (hc2 : cap ≤ 9223372036854775807) (hf : ∀ k, k < N → f k = (k : Int)) :
    Calls Try.prog 41 #[.slice (some ⟨g, 0, none⟩) N cap, .int .i64 N, .func (.func 27) #[] #[]] w fun e w' => e = .returned (.tuple #[]) ∧
      ∃ f', w'.row g = some (.cells (elsL Z f' N ++ RR0).toArray 37) ∧ On g w w' ∧ Run lt f' 0 N := by
  have HC := Lib.hid C
  have HF := Lib.hid hf
  clear C hf
  go_enter Try.func41, Try.ntmps41
  go_wp2_with fail
  go_loopg [7, 8] N (fun gn v7 v8 wj => ∃ (q A : Nat) (F : Nat → Int), Hid (gn + q = N ∧ A ≤ N ∧ A = q * 20) ∧ v7 = .int .i64 (A : Int) ∧ v8 = .int .i64 ((A : Int) + 20) ∧ wj.row g = some (.cells (elsL Z F N ++ RR0).toArray 37) ∧ On g w wj ∧
    Hid ((∀ p, p < q → Run lt F (p * 20) ((p + 1) * 20)) ∧ ∀ k, A ≤ k → F k = f k))
  case atStart => exact ⟨0, 0, f, Lib.hid ⟨by omega, by omega, rfl⟩, rfl, by go_num, hr, On.refl _ _, Lib.hid ⟨fun p hp => absurd hp (Nat.not_lt_zero _), fun _ _ => rfl⟩⟩
  case round =>
    obtain ⟨q, A, F, HK, rfl, rfl, hx, HO, HR⟩ := hrel
    obtain ⟨k1, k2, k3⟩ := HK.out
    obtain ⟨r1, r2⟩ := HR.out
    have hPj : PW wr := HC.out.keep _ _ hP HO
    have K3 := Lib.hid k3
    clear k3
    by_cases h : A + 20 ≤ N
    · have s1 := insSortE_any hZ g cap A (A + 20) N HC.out F wr hPj hx (by omega) h hN hc hc2 (fun k h1 h2 => by rw [r2 k h1]; exact HF.out k (by omega))
      rw [show ((A + 20 : Nat) : Int) = (A : Int) + 20 by omega] at s1
      have S1 := Lib.hid s1
      have n1 : (A : Int) + 20 ≤ (N : Int) := by omega
      clear s1
      go_wp2_with (go_at_call 55; (with_reducible refine (S1.out).mono ?_); rintro e w1 ⟨rfl, F1, hx1, HO1, hR1, hk1⟩)
      go_roundg (N - (q + 1))
      case rel => exact ⟨q + 1, A + 20, F1, Lib.hid ⟨by have := K3.out; omega, h, by have := K3.out; omega⟩, by go_num, by go_num, hx1, HO.trans HO1, Lib.hid ⟨fun p hp => by
          have k3 := K3.out
          by_cases hpq : p = q
          · subst hpq; rw [show (p + 1) * 20 = A + 20 by omega, ← k3]; exact hR1
          · exact (r1 p (by omega)).keep fun k a1 a2 => hk1 k (.inl (by omega)), fun k hk => by rw [hk1 k (.inr (by omega))]; exact r2 k (by omega)⟩⟩
      case measure => have := K3.out; omega
    · have s1 := insSortE_any hZ g cap A N N HC.out F wr hPj hx (by omega) (Nat.le_refl _) hN hc hc2 (fun k h1 h2 => by rw [r2 k h1]; exact HF.out k (by omega))
      have S1 := Lib.hid s1
      clear s1
      go_wp2_with (go_at_call 55; (with_reducible refine (S1.out).mono ?_); rintro e w1 ⟨rfl, F1, hx1, HO1, hR1, hk1⟩)
      have hAll : All lt F1 N 20 := All.first K3.out (by omega) (fun p hp => (r1 p hp).keep fun k a1 a2 => hk1 k (.inl (by have := K3.out; omega))) hR1 k2
      have HAll := Lib.hid hAll
      have HO2 : On g w w1 := HO.trans HO1
      clear hAll hR1 hk1 r1 r2 HR K3 HK k1 h HO HO1 hPj hx hr
      go_loopg [6, 7, 8] (N - 20) (fun gn v6 v7 v8 wj => ∃ (B : Nat) (F : Nat → Int), Hid (gn = N - B ∧ 20 ≤ B ∧ B ≤ 2097152) ∧ v6 = .int .i64 (B : Int) ∧ wj.row g = some (.cells (elsL Z F N ++ RR0).toArray 37) ∧ On g w wj ∧ Hid (All lt F N B))
      case atStart => exact ⟨20, F1, Lib.hid ⟨by omega, by omega, by omega⟩, by go_num, hx1, HO2, HAll⟩
      case round =>
        clear hx1 HO2 HAll
        obtain ⟨B, F2, HB, rfl, hx2, HO2, HA2⟩ := hrel
        obtain ⟨b1, b2, b3⟩ := HB.out
        by_cases hBN : B < N
        · have n1 : (B : Int) < (N : Int) := by omega
          go_wp2_with fail
          go_loopg [7, 8] N (fun gn v7 v8 wj => ∃ (p A : Nat) (F : Nat → Int), Hid (gn + A = N ∧ A ≤ N ∧ A = p * (2 * B)) ∧ v7 = .int .i64 (A : Int) ∧ v8 = .int .i64 ((A : Int) + 2 * (B : Int)) ∧ wj.row g = some (.cells (elsL Z F N ++ RR0).toArray 37) ∧ On g w wj ∧ Hid (Half lt F N B p))
          case atStart => exact ⟨0, 0, F2, Lib.hid ⟨by omega, by omega, by omega⟩, rfl, by go_num, hx2, HO2, Lib.hid HA2.out.half⟩
          case round =>
            clear hx2 HO2 HA2
            obtain ⟨p, A, F3, HK, rfl, rfl, hx, HO, HR⟩ := hrel
            obtain ⟨k1, k2, k3⟩ := HK.out
            have hPj : PW wr := HC.out.keep _ _ hP HO
            have K3 := Lib.hid k3
            clear k3
            by_cases h : A + 2 * B ≤ N
            · obtain ⟨p1, p2⟩ := HR.out.pair K3.out (Nat.min_eq_left h).symm (by omega)
              have s1 := symMergeE_any hZ g cap N HC.out hN hc hc2 _ A (A + B) (A + 2 * B) (Nat.le_refl _) (by omega) (by omega) h F3 wr hPj hx (p1.val p2 (by omega) h) p1.1 p2.1 (p1.apart p2)
              rw [show ((A + 2 * B : Nat) : Int) = (A : Int) + 2 * (B : Int) by omega, show ((A + B : Nat) : Int) = (A : Int) + (B : Int) by omega] at s1
              have S1 := Lib.hid s1
              have n2 : (A : Int) + 2 * (B : Int) ≤ (N : Int) := by omega
              clear s1 p1 p2
              go_wp2_with (go_at_call 56; (with_reducible refine (S1.out).mono ?_); rintro e w1 ⟨rfl, F1, hx1, HO1, hpm, hsr⟩)
              go_roundg (N - (A + 2 * B))
              case rel => exact ⟨p + 1, A + 2 * B, F1, Lib.hid ⟨by omega, h, by have := K3.out; rw [Nat.add_mul, Nat.one_mul]; omega⟩, by go_num, by go_num, hx1, HO.trans HO1, Lib.hid (HR.out.next K3.out (Nat.min_eq_left h).symm (by omega) hpm hsr)⟩
              case measure => omega
            · have n2 : ¬ (A : Int) + 2 * (B : Int) ≤ (N : Int) := by omega
              by_cases h2 : A + B < N
              · obtain ⟨p1, p2⟩ := HR.out.pair K3.out (Nat.min_eq_right (by omega : N ≤ A + 2 * B)).symm (by omega)
                have s1 := symMergeE_any hZ g cap N HC.out hN hc hc2 _ A (A + B) N (Nat.le_refl _) (by omega) (by omega) (Nat.le_refl _) F3 wr hPj hx (p1.val p2 (by omega) (Nat.le_refl _)) p1.1 p2.1 (p1.apart p2)
                rw [show ((A + B : Nat) : Int) = (A : Int) + (B : Int) by omega] at s1
                have S1 := Lib.hid s1
                have n3 : (A : Int) + (B : Int) < (N : Int) := by omega
                clear s1 p1 p2
                go_wp2_with (go_at_call 56; (with_reducible refine (S1.out).mono ?_); rintro e w1 ⟨rfl, F1, hx1, HO1, hpm, hsr⟩)
                go_roundg (N - 2 * B)
                case rel => exact ⟨2 * B, F1, Lib.hid ⟨rfl, by omega, by omega⟩, by go_num, hx1, HO.trans HO1, Lib.hid ((HR.out.next K3.out (Nat.min_eq_right (by omega : N ≤ A + 2 * B)).symm (by omega) hpm hsr).full (by have := K3.out; rw [Nat.add_mul, Nat.one_mul]; omega))⟩
                case measure => omega
              · have n3 : ¬ (A : Int) + (B : Int) < (N : Int) := by omega
                go_wp2_with fail
                go_roundg (N - 2 * B)
                case rel => exact ⟨2 * B, F3, Lib.hid ⟨rfl, by omega, by omega⟩, by go_num, hx, HO, Lib.hid (HR.out.last (by have := K3.out; omega))⟩
                case measure => omega
        · have n1 : ¬ (B : Int) < (N : Int) := by omega
          go_wp2_with fail
          go_end0
          exact ⟨rfl, F2, hx2, HO2, HA2.out.done (by omega)⟩
end Go.Proofs.Ytjfccilmlmimaaa
