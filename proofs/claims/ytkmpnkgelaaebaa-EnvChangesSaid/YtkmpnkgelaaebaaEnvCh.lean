/- EnvChanges: any changes, one behind the other. No condition but that numbers are of their kinds, and that the list reads as operations. -/
import Derived.Test.YtkmpnkgelaaebaaEnvOrdP
import Derived.Test.YtkmpnkgelaaebaaAbs
import Derived.Deep.MidRow
namespace Go
open Go.RowKit Go.Proofs.Ytkmpnkgelaaebaa
def Od.l (o : Od) : List Value := [.int .i64 o.k0, .int .i64 o.k1, .int .i64 o.k2, .int .i64 o.k3, .string o.n, .string o.wd, .slice o.tp o.tl o.tc, .int .i64 o.a, .int .i64 o.b, .int .i64 o.c, .int .i64 o.d, .int .i64 o.bt, .string o.bs, .int .i64 o.b1, .int .i64 o.b2, .int .i64 o.b3, .int .i64 o.b4, .bool o.on]
theorem rangeAt_grows {w W : World} {g o : Nat} {l : List Value} (h : w.rangeAt g o l) (hg : w.grows W) : W.rangeAt g o l := by
  obtain ⟨x, rfl⟩ := hg
  intro j v hj
  have := h j v hj
  rw [World.cell?_plus_some]
  · exact this
  · rw [this]; rfl
theorem World.grows.setRow {a b : World} (h : a.grows b) {n : Nat} (hn : a.heap.size ≤ n) (c : Array Value) : a.grows (b.setRow n c) := by
  obtain ⟨x, rfl⟩ := h
  refine World.grows.of_below ⟨rfl, rfl, rfl, ?_, fun k hk => ?_⟩
  · rw [setRow_size]; simp
  · rw [setRow_other _ _ _ _ (by omega)]; exact World.heap_plus_lt _ _ hk
theorem row_setRow {W : World} {g : Nat} {old c : Array Value} {t : TypeId} (h : W.row g = some (.cells old t (0, 0))) : (W.setRow g c).row g = some (.cells c t (0, 0)) := setRow_heap W g old c t (0, 0) h
theorem chgE_wf {e : En} {o : Od} (he : e.Wf) (ho : o.Wf) : (chgE e (o.res e)).Wf := by
  rw [res_eq]; unfold chgE
  split
  · split
    · rename_i f hf
      split at hf
      · cases hf; exact upd_wf he ho
      · cases hf
    · exact zero_wf
  · exact zero_wf
end Go
namespace Go.Proofs.Ytkmpnkgelaaebaa
open Go.RowKit

set_option maxRecDepth 100000 in
set_option maxHeartbeats 4000000 in
theorem envChangesLaw_any (e : En) (a : Option Addr) (len cap : Nat) (w : World) (he : e.Wf) (hl : len ≤ maxLen)
    (hops : len = 0 ∨ ∃ (g off : Nat) (f : Nat → Od), a = some ⟨g, off, none⟩ ∧ ∀ i, i < len → (f i).Wf ∧ w.rangeAt g (off + i * 18) (f i).l) :
    Calls Try.prog 6 #[e.v, .slice a len cap] w (Gives w (.bool true)) := by
  unfold maxLen at hl
  have HE := Lib.hid he; have HO := Lib.hid hops; clear he hops
  obtain ⟨p0, w10, w20, h10, h20, f10, f20, c10, c20, s0, h0, q0, m0⟩ := e
  go_enter Try.func6, Try.ntmps6
  go_wp2_with fail
  go_loopw [5] (fun i wr => ∃ (k : Nat) (E : En), k ≤ len ∧ k ≤ 60 ∧ i = .int .i64 k ∧ E.Wf ∧ w.grows wr ∧ wr.row w.heap.size = some (.cells #[.bool E.p, .int .i64 E.w1, .int .i64 E.w2, .int .i64 E.h1, .int .i64 E.h2, .int .i64 E.f1, .int .i64 E.f2, .int .i64 E.c1, .int .i64 E.c2, .string E.s, .string E.h, .string E.q, .string E.m] 37)) (fun i _ => len - (intOf i).toNat)
  case atStart => exact ⟨0, ⟨p0, w10, w20, h10, h20, f10, f20, c10, c20, s0, h0, q0, m0⟩, Nat.zero_le _, by omega, rfl, HE.out, (by repeat (first | assumption | exact World.grows.refl | apply World.grows.plus | apply World.grows.alloc | apply World.grows.drew)), by simp [go_sem]⟩
  case round =>
    obtain ⟨k, E, hk, hk60, rfl, hE, hg, hr⟩ := hrel
    have hz := row_sz hr
    by_cases hlt : k < len
    · by_cases h60 : k < 60
      · rcases HO.out with h | ⟨g, off, f, rfl, hf⟩
        · omega
        obtain ⟨ho, hrange⟩ := hf k hlt
        have fv := fun w => five_any (f k) w
        have cv := fun w => change_any E (f k).five w hE (Od.five_wf ho)
        have rv := fun w => refChange_any E (f k) w hE ho
        have hwf := chgE_wf hE (Od.five_wf ho)
        have hld : (loadR 47 (.pointer (some ⟨g, off + k * 18, none⟩))).run Try.prog wr = .ok (f k).v wr := run_loadAt_mid wr g (off + k * 18) 47 (f k).l _ (rangeAt_grows hrange hg) Try.underlying47 rfl (by kernel_rfl)
        simp only [chgV] at cv rv
        generalize chgE E ((f k).five.res E) = E1 at *
        generalize chgW E (f k).five.why ((f k).five.res E) = R at *
        generalize (f k).five = O at *
        generalize f k = o at *
        have HW := Lib.hid hwf; have HE2 := Lib.hid hE; clear hwf hrange ho hf HO hE
        obtain ⟨k0, k1, k2, k3, n, wd, tp, tl, tc, a, b, c, d, bt, bs, b1, b2, b3, b4, on⟩ := o
        obtain ⟨k0', k1', k2', k3', n', wd', tp', tl', tc', a', b', c', d', bt', bs', b1', b2', b3', b4', on'⟩ := O
        obtain ⟨p2, w12, w22, h12, h22, f12, f22, c12, c22, s2, h2, q2, m2⟩ := E
        obtain ⟨p1, w11, w21, h11, h21, f11, f21, c11, c21, s1, h1, q1, m1⟩ := E1
        have FV := Lib.hid fv; have CV := Lib.hid cv; have RV := Lib.hid rv; clear fv cv rv
        by_cases hR : R = 0
        · subst hR
          go_wp2_with (first | (go_at_call 27; (with_reducible refine (FV.out _).mono ?_); rintro e w1 ⟨rfl, x1, rfl⟩) | (go_at_call 28; (with_reducible refine (CV.out _).mono ?_); rintro e w1 ⟨rfl, x1, rfl⟩) | (go_at_call 29; (with_reducible refine (RV.out _).mono ?_); rintro e w1 ⟨rfl, x1, rfl⟩))
          go_roundw
          case rel => exact ⟨k + 1, ⟨p1, w11, w21, h11, h21, f11, f21, c11, c21, s1, h1, q1, m1⟩, by omega, by omega, by go_num, HW.out, (by repeat (first | assumption | exact World.grows.refl | apply World.grows.plus | apply World.grows.alloc | apply World.grows.drew | (refine World.grows.setRow ?_ (Nat.le_refl _) _))), row_setRow (by repeat (first | exact hr | apply row_plus_of | apply row_alloc_of))⟩
          case measure => simp [intOf]; omega
        · have hb : (R == 0) = false := by simpa using hR
          clear hR
          go_wp2_with (first | (go_at_call 27; (with_reducible refine (FV.out _).mono ?_); rintro e w1 ⟨rfl, x1, rfl⟩) | (go_at_call 28; (with_reducible refine (CV.out _).mono ?_); rintro e w1 ⟨rfl, x1, rfl⟩) | (go_at_call 29; (with_reducible refine (RV.out _).mono ?_); rintro e w1 ⟨rfl, x1, rfl⟩))
          go_roundw
          case rel => exact ⟨k + 1, ⟨p2, w12, w22, h12, h22, f12, f22, c12, c22, s2, h2, q2, m2⟩, by omega, by omega, by go_num, by first | assumption | exact HE2.out, (by repeat (first | assumption | exact World.grows.refl | apply World.grows.plus | apply World.grows.alloc | apply World.grows.drew)), by repeat (first | exact hr | apply row_plus_of | apply row_alloc_of)⟩
          case measure => simp [intOf]; omega
      · have h61 : k = 60 := by omega
        subst h61
        clear HO
        go_wp2_with (first | (go_at_call 26; (with_reducible refine (awake_any _).mono ?_); rintro e w1 ⟨rfl, x1, rfl⟩))
        go_ret
        exact ⟨rfl, (by repeat (first | assumption | exact World.grows.refl | apply World.grows.plus | apply World.grows.alloc | apply World.grows.drew))⟩
    · have h61 : k = len := by omega
      subst h61
      clear HO
      go_wp2_with (first | (go_at_call 26; (with_reducible refine (awake_any _).mono ?_); rintro e w1 ⟨rfl, x1, rfl⟩))
      go_ret
      exact ⟨rfl, (by repeat (first | assumption | exact World.grows.refl | apply World.grows.plus | apply World.grows.alloc | apply World.grows.drew))⟩

end Go.Proofs.Ytkmpnkgelaaebaa
