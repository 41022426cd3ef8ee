/- WALK over the statement's own count: jalousielaw12.few. No condition but that the expression stands in memory and has at most 2^20 nodes. -/
import Derived.Test.YthmicnjigfcljaaWholeP
import Derived.Test.YthmicnjigfcljaaMp
import Derived.Test.YthmicnjigfcljaaMi
import Derived.Test.YthmicnjigfcljaaMa
set_option linter.unusedSimpArgs false
set_option linter.unusedVariables false
namespace Go
open Go.RowKit
/-- what the count is to give: how many, if it says yes -/
def FewP (w : World) (N : Nat) (B : Bool) (e : Ending) (w' : World) : Prop := ∃ n : Int, e = .returned (.tuple #[.int .i64 n, .bool B]) ∧ w.grows w' ∧ (B = true → n = N)
end Go
namespace Go.Proofs.Ythmicnjigfcljaa
open Go.RowKit

def FewIH (m : Nat) : Prop := ∀ (t : Ex) (cs : List Value) (dp : Nat) (w : World), ExAt w m t cs → dp ≤ 301 → szE m t ≤ 1048576 →
    Calls Try.prog 23 #[.agg cs.toArray, .int .i64 (dp : Int)] w (FewP w (fewN m t) (fewB m dp t))

set_option maxRecDepth 100000 in
set_option maxHeartbeats 8000000 in
theorem few_num (n d u : Int) (len : Nat) (a : Option Addr) (cap dp : Nat) (w : World) (hd : dp ≤ 300) (B : Bool) (hB : (decide (d = 1) && (decide (-1024 < n) && decide (n < 1024))) = B) :
    Calls Try.prog 23 #[.agg #[.int .i64 1, .int .i64 n, .int .i64 d, .int .i64 u, .slice a len cap], .int .i64 (dp : Int)] w (FewP w 1 B) := by
  have t0 : ¬ (300 : Int) < (dp : Int) := by omega
  have t0' : decide ((300 : Int) < (dp : Int)) = false := by simpa using t0
  by_cases h1 : d = 1
  · subst h1
    by_cases h2 : -1024 < n
    · by_cases h3 : n < 1024
      · have e2 : decide (-1024 < n) = true := by simpa using h2
        have e3 : decide (n < 1024) = true := by simpa using h3
        rw [e2, e3] at hB
        simp at hB
        subst hB
        go_enter Try.func23, Try.ntmps23
        go_wp2_with fail
        refine wp_region_plus_lit (by kernel_rfl) (by kernel_rfl) ?_
        repeat (go_big_quiet_step (fail))
        (refine wpQuiet_nil ?_; intro _ hw'; obtain ⟨xq, hw''⟩ := hw'; subst hw'')
        go_wp2_with fail
        go_ret2
        exact ⟨_, rfl, (by repeat (with_reducible first | assumption | exact World.grows.refl | apply World.grows.plus | apply World.grows.alloc | apply World.grows.drew | (refine World.grows.setRow' ?_ (by omega) _) | (refine World.grows.setCell' ?_ (by omega) _ _))), fun _ => rfl⟩
      · have e2 : decide (-1024 < n) = true := by simpa using h2
        have e3 : decide (n < 1024) = false := by simpa using h3
        rw [e2, e3] at hB
        simp at hB
        subst hB
        clear h3
        go_enter Try.func23, Try.ntmps23
        go_wp2_with fail
        refine wp_region_plus_lit (by kernel_rfl) (by kernel_rfl) ?_
        repeat (go_big_quiet_step (fail))
        (refine wpQuiet_nil ?_; intro _ hw'; obtain ⟨xq, hw''⟩ := hw'; subst hw'')
        go_wp2_with fail
        go_ret2
        exact ⟨_, rfl, (by repeat (with_reducible first | assumption | exact World.grows.refl | apply World.grows.plus | apply World.grows.alloc | apply World.grows.drew | (refine World.grows.setRow' ?_ (by omega) _) | (refine World.grows.setCell' ?_ (by omega) _ _))), fun _ => rfl⟩
    · have e2 : decide (-1024 < n) = false := by simpa using h2
      rw [e2] at hB
      simp at hB
      subst hB
      clear h2
      go_enter Try.func23, Try.ntmps23
      go_wp2_with fail
      refine wp_region_plus_lit (by kernel_rfl) (by kernel_rfl) ?_
      repeat (go_big_quiet_step (fail))
      (refine wpQuiet_nil ?_; intro _ hw'; obtain ⟨xq, hw''⟩ := hw'; subst hw'')
      go_wp2_with fail
      go_ret2
      exact ⟨_, rfl, (by repeat (with_reducible first | assumption | exact World.grows.refl | apply World.grows.plus | apply World.grows.alloc | apply World.grows.drew | (refine World.grows.setRow' ?_ (by omega) _) | (refine World.grows.setCell' ?_ (by omega) _ _))), fun _ => rfl⟩
  · have e1 : (d == 1) = false := by simpa using h1
    have e1' : decide (d = 1) = false := by simpa using h1
    rw [e1', Bool.false_and] at hB
    subst hB
    clear h1 e1'
    go_enter Try.func23, Try.ntmps23
    go_wp2_with fail
    refine wp_region_plus_lit (by kernel_rfl) (by kernel_rfl) ?_
    repeat (go_big_quiet_step (fail))
    (refine wpQuiet_nil ?_; intro _ hw'; obtain ⟨xq, hw''⟩ := hw'; subst hw'')
    go_wp2_with fail
    go_ret2
    exact ⟨_, rfl, (by repeat (with_reducible first | assumption | exact World.grows.refl | apply World.grows.plus | apply World.grows.alloc | apply World.grows.drew | (refine World.grows.setRow' ?_ (by omega) _) | (refine World.grows.setCell' ?_ (by omega) _ _))), fun _ => rfl⟩

set_option maxRecDepth 100000 in
set_option maxHeartbeats 8000000 in
theorem few_no (k n d u : Int) (len : Nat) (a : Option Addr) (cap dp : Nat) (w : World) (N : Nat) (h : k = 5 ∨ 300 < dp) :
    Calls Try.prog 23 #[.agg #[.int .i64 k, .int .i64 n, .int .i64 d, .int .i64 u, .slice a len cap], .int .i64 (dp : Int)] w (FewP w N false) := by
  by_cases h5 : k = 5
  · subst h5
    clear h
    go_enter Try.func23, Try.ntmps23
    go_wp2_with fail
    go_ret2
    exact ⟨_, rfl, (by repeat (with_reducible first | assumption | exact World.grows.refl | apply World.grows.plus | apply World.grows.alloc | apply World.grows.drew | (refine World.grows.setRow' ?_ (by omega) _) | (refine World.grows.setCell' ?_ (by omega) _ _))), fun h => by cases h⟩
  · have e5 : (k == 5) = false := by simpa using h5
    have t0 : (300 : Int) < (dp : Int) := by omega
    have t0' : decide ((300 : Int) < (dp : Int)) = true := by simpa using t0
    clear h h5
    go_enter Try.func23, Try.ntmps23
    go_wp2_with fail
    go_ret2
    exact ⟨_, rfl, (by repeat (with_reducible first | assumption | exact World.grows.refl | apply World.grows.plus | apply World.grows.alloc | apply World.grows.drew | (refine World.grows.setRow' ?_ (by omega) _) | (refine World.grows.setCell' ?_ (by omega) _ _))), fun h => by cases h⟩

set_option maxRecDepth 100000 in
set_option maxHeartbeats 8000000 in
theorem few_step (m : Nat) (IH0 : FewIH m) (k n d u : Int) (kids : List Ex) (a : Option Addr) (cap dp : Nat) (w : World) (hlc : kids.length ≤ cap) (hc : cap ≤ 9223372036854775807) (hkids : KidsAt w m kids a) (h5 : k ≠ 5) (h1 : k ≠ 1) (hd : dp ≤ 300)
    (hex : ExAt w (m + 1) (.mk k n d u kids) (exL k n d u a kids.length cap)) (hsz : szE (m + 1) (.mk k n d u kids) ≤ 1048576) :
    Calls Try.prog 23 #[.agg #[.int .i64 k, .int .i64 n, .int .i64 d, .int .i64 u, .slice a kids.length cap], .int .i64 (dp : Int)] w (FewP w ((kids.map (fewN m)).sum) (kids.all (fewB m (dp + 1)) && mayE (m + 1) 340 (.mk k n d u kids))) := by
  have t0 : ¬ (300 : Int) < (dp : Int) := by omega
  have e5 : (k == 5) = false := by simpa using h5
  have e1 : (k == 1) = false := by simpa using h1
  have cm := fun W (hW : w.grows W) => refMayE2_any (m + 1) _ _ W (hex.grows hW)
  generalize hM : mayE (m + 1) 340 (.mk k n d u kids) = MB at *
  have hn : kids.length < 1048576 := Nat.lt_of_lt_of_le szE_kids hsz
  have hsum : ∀ i, ((kids.take i).map (fewN m)).sum ≤ 1048576 := fun i => by
    have h1 : ((kids.take i).map (fewN m)).sum ≤ (kids.map (fewN m)).sum := sum_sublist ((List.take_sublist i kids).map _)
    have h2 : (kids.map (fewN m)).sum ≤ 1 * (kids.map (szE m)).sum := sum_le_mul kids fun t _ => by have := fewN_le m t; omega
    rw [szE] at hsz
    omega
  have hkz : ∀ i (hlt : i < kids.length), szE m kids[i] ≤ 1048576 := fun i hlt => Nat.le_of_lt (Nat.lt_of_lt_of_le (szE_kid (List.getElem_mem hlt)) hsz)
  generalize hres : (kids.all (fewB m (dp + 1)) && MB) = res
  have IH := Lib.hid IH0; have HK := Lib.hid hkids; have CM := Lib.hid cm; have HRES := Lib.hid hres; have HSUM := Lib.hid hsum; have HKZ := Lib.hid hkz
  clear IH0 hkids cm hres hsum hkz hex hsz hM h5 h1
  go_enter Try.func23, Try.ntmps23
  go_wp2_with fail
  go_loopg [6, 40] kids.length (fun gn v6 v40 wj => ∃ i : Nat, Hid (gn + i = kids.length) ∧ i ≤ kids.length ∧ v40 = .int .i64 i ∧ v6 = .int .i64 (((kids.take i).map (fewN m)).sum : Nat) ∧ w.grows wj ∧ wj.row w.heap.size = some (.cells #[.int .i64 k, .int .i64 n, .int .i64 d, .int .i64 u, .slice a kids.length cap] 26) ∧ Hid (((kids.drop i).all (fewB m (dp + 1)) && MB) = res))
  case atStart => exact ⟨0, rfl, Nat.zero_le _, rfl, rfl, (by repeat (with_reducible first | assumption | exact World.grows.refl | apply World.grows.plus | apply World.grows.alloc | apply World.grows.drew | (refine World.grows.setRow' ?_ (by omega) _) | (refine World.grows.setCell' ?_ (by omega) _ _))), by simp [go_sem], HRES.out⟩
  case round =>
    obtain ⟨i, HGN, hi, rfl, rfl, hg, hx, HB⟩ := hrel
    have z1 := row_sz' hx
    by_cases hlt : i < kids.length
    · rcases HK.out with h | ⟨g, off, rfl, hcell⟩
      · rw [h] at hlt; cases hlt
      obtain ⟨cs', hel, hex⟩ := hcell i kids[i] (by simp [hlt])
      have hl5 := ExAt_len hex
      have he := hel.grows hg
      unfold eltAt at he
      rw [hl5] at he
      have zr := lt_sz (hel.grows hg).lt
      have e3 : segOk (off + i * 5) 5 (wr.row g) = true := he.1
      have e4 : segV (off + i * 5) 5 (wr.row g) = .agg cs'.toArray := he.2
      have c1 : ∀ W, w.grows W → Calls Try.prog 23 #[.agg cs'.toArray, .int .i64 ((dp : Int) + 1)] W (FewP W (fewN m kids[i]) (fewB m (dp + 1) kids[i])) := fun W hW => IH.out kids[i] cs' (dp + 1) W (hex.grows hW) (by omega) (HKZ.out i hlt)
      have hB := HB.out
      rw [all_drop _ hlt, Bool.and_assoc] at hB
      have hs1 := HSUM.out i
      have hs2 := HSUM.out (i + 1)
      have htk : ((kids.take (i + 1)).map (fewN m)).sum = ((kids.take i).map (fewN m)).sum + fewN m kids[i] := by
        rw [List.take_succ_eq_append_getElem hlt, List.map_append, List.sum_append_nat]; simp
      rw [htk] at hs2
      generalize fewB m (dp + 1) kids[i] = B at *
      generalize fewN m kids[i] = N1 at *
      generalize hSS : ((kids.take i).map (fewN m)).sum = SS at *
      obtain ⟨k0, k1, k2, k3, va, vl, vc, rfl⟩ := ExAt_vals hex
      have C1 := Lib.hid c1; have HTK := Lib.hid htk; clear c1 hel he hex hl5 hcell HB HRES IH HK HSUM HKZ htk hSS
      cases B
      · rw [Bool.false_and] at hB
        subst hB
        go_wp2_with (first | (go_at_call 23; (with_reducible refine (C1.out _ (by repeat (with_reducible first | assumption | exact World.grows.refl | apply World.grows.plus | apply World.grows.alloc | apply World.grows.drew | (refine World.grows.setRow' ?_ (by omega) _) | (refine World.grows.setCell' ?_ (by omega) _ _)))).mono ?_); rintro e w1 ⟨n1, rfl, hg1, hn1⟩; have hgw1 : w.grows w1 := World.grows.trans (by repeat (with_reducible first | assumption | exact World.grows.refl | apply World.grows.plus | apply World.grows.alloc | apply World.grows.drew | (refine World.grows.setRow' ?_ (by omega) _) | (refine World.grows.setCell' ?_ (by omega) _ _))) hg1))
        go_ret2
        exact ⟨_, rfl, (by repeat (with_reducible first | assumption | exact World.grows.refl | apply World.grows.plus | apply World.grows.alloc | apply World.grows.drew | (refine World.grows.setRow' ?_ (by omega) _) | (refine World.grows.setCell' ?_ (by omega) _ _))), fun h => by cases h⟩
      · rw [Bool.true_and] at hB
        have HB' := Lib.hid hB; clear hB
        go_wp2_with (first | (go_at_call 23; (with_reducible refine (C1.out _ (by repeat (with_reducible first | assumption | exact World.grows.refl | apply World.grows.plus | apply World.grows.alloc | apply World.grows.drew | (refine World.grows.setRow' ?_ (by omega) _) | (refine World.grows.setCell' ?_ (by omega) _ _)))).mono ?_); rintro e w1 ⟨n1, rfl, hg1, hn1⟩; have hgw1 : w.grows w1 := World.grows.trans (by repeat (with_reducible first | assumption | exact World.grows.refl | apply World.grows.plus | apply World.grows.alloc | apply World.grows.drew | (refine World.grows.setRow' ?_ (by omega) _) | (refine World.grows.setCell' ?_ (by omega) _ _))) hg1; have hrw1 : wr.grows w1 := World.grows.trans (by repeat (with_reducible first | assumption | exact World.grows.refl | apply World.grows.plus | apply World.grows.alloc | apply World.grows.drew | (refine World.grows.setRow' ?_ (by omega) _) | (refine World.grows.setCell' ?_ (by omega) _ _))) hg1; obtain rfl : n1 = (N1 : Int) := hn1 rfl; have q1 := (hrw1.row_eq z1.1).trans hx; have t1 := row_sz' q1; clear hn1 hg1))
        go_roundg (kids.length - (i + 1))
        case rel => exact ⟨i + 1, Lib.hid (by omega), by omega, by go_num, by rw [HTK.out]; go_num, (by repeat (with_reducible first | assumption | exact World.grows.refl | apply World.grows.plus | apply World.grows.alloc | apply World.grows.drew | (refine World.grows.setRow' ?_ (by omega) _) | (refine World.grows.setCell' ?_ (by omega) _ _))), by simp [go_sem, q1, t1], HB'.out⟩
        case measure => have := HGN.out; omega
    · obtain rfl : i = kids.length := by omega
      have hB := HB.out
      rw [List.drop_length, List.all_nil, Bool.true_and] at hB
      subst hB
      rw [List.take_length]
      generalize (kids.map (fewN m)).sum = SS at *
      clear HB
      go_wp2_with (first | (go_at_call 53; (with_reducible refine (CM.out _ (by repeat (with_reducible first | assumption | exact World.grows.refl | apply World.grows.plus | apply World.grows.alloc | apply World.grows.drew | (refine World.grows.setRow' ?_ (by omega) _) | (refine World.grows.setCell' ?_ (by omega) _ _)))).mono ?_); rintro e w1 ⟨rfl, x1, rfl⟩))
      go_ret2
      exact ⟨_, rfl, (by repeat (with_reducible first | assumption | exact World.grows.refl | apply World.grows.plus | apply World.grows.alloc | apply World.grows.drew | (refine World.grows.setRow' ?_ (by omega) _) | (refine World.grows.setCell' ?_ (by omega) _ _))), fun _ => rfl⟩

theorem few_all : ∀ m, FewIH m
  | 0 => fun _ _ _ _ h _ _ => h.elim
  | m + 1 => by
    intro t cs dp w h hd hsz
    have IH := few_all m
    have hex := h
    obtain ⟨k, n, d, u, kids⟩ := t
    obtain ⟨wk, wn, wd, wu, a, cap, rfl, hlc, hc, hkids⟩ := h
    show Calls Try.prog 23 #[.agg #[.int .i64 k, .int .i64 n, .int .i64 d, .int .i64 u, .slice a kids.length cap], .int .i64 (dp : Int)] w _
    unfold fewB fewN
    by_cases h5 : k = 5 ∨ 300 < dp
    · rw [if_pos h5]
      exact few_no k n d u kids.length a cap dp w _ h5
    · rw [if_neg h5]
      by_cases h1 : k = 1
      · subst h1
        rw [if_pos rfl, if_pos rfl]
        exact few_num n d u kids.length a cap dp w (by omega) _ rfl
      · rw [if_neg h1, if_neg h1]
        exact few_step m IH k n d u kids a cap dp w hlc hc hkids (fun e => h5 (.inl e)) h1 (by omega) hex hsz
end Go.Proofs.Ythmicnjigfcljaa
