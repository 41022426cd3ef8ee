/- WALKS over rule, jalousieref5: values without blanks at both ends; values copied. No condition. -/
import Derived.Test.YthcaphoejplecaaGreatDoorVaN
set_option linter.unusedSimpArgs false
set_option linter.unusedVariables false
namespace Go
open Go.RowKit
section
variable {α : Type} {w : World} {S : Nat → Prop} {n : Nat} {R : α → List Value → Prop} {a : Option Addr} {m cap : Nat} {l : List α} {x : α}
theorem SlAt.bound (h : SlAt w S n R (.slice a m cap) l) : m = l.length ∧ m ≤ cap ∧ cap ≤ 9223372036854775807 := by
  obtain ⟨a', c', h1, h2, h3, _⟩ := h
  injection h1 with _ e2 e3
  subst e2; subst e3
  exact ⟨rfl, h2, h3⟩
theorem SlAt.elt (h : SlAt w S n R (.slice a m cap) l) {i : Nat} (hx : l[i]? = some x) : ∃ g off cs, a = some ⟨g, off, none⟩ ∧ S g ∧ cs.length = n ∧ eltAt w g (off + i * n) cs ∧ R x cs := by
  obtain ⟨a', c', h1, h2, h3, h4⟩ := h
  injection h1 with e1 e2 e3
  subst e1
  rcases h4 with rfl | ⟨g, off, rfl, hS, h7⟩
  · simp at hx
  · obtain ⟨cs, k1, k2, k3⟩ := h7 i x hx
    exact ⟨g, off, cs, rfl, hS, k1, k2, k3⟩
theorem SlAt.init1 (h : SlAt w S n R (.slice a m cap) (l ++ [x])) : SlAt w S n R (.slice a l.length cap) l := by
  obtain ⟨a', c', h1, h2, h3, h4⟩ := h
  injection h1 with e1 e2 e3
  subst e1; subst e3
  simp at h2
  refine ⟨_, _, rfl, by omega, h3, ?_⟩
  rcases h4 with h4 | ⟨g, off, h5, h6, h7⟩
  · simp at h4
  · exact .inr ⟨g, off, h5, h6, fun i y hy => h7 i y (by
      have := (List.getElem?_eq_some_iff.1 hy).1
      rw [List.getElem?_append_left this]; exact hy)⟩
theorem SlAt.tail1 {g off : Nat} (h : SlAt w S n R (.slice (some ⟨g, off, none⟩) m cap) (x :: l)) : SlAt w S n R (.slice (some ⟨g, off + n, none⟩) l.length (cap - 1)) l := by
  obtain ⟨a', c', h1, h2, h3, h4⟩ := h
  injection h1 with e1 e2 e3
  subst e1; subst e3
  simp at h2
  refine ⟨_, _, rfl, by omega, by omega, ?_⟩
  rcases h4 with h4 | ⟨g', off', h5, h6, h7⟩
  · simp at h4
  · injection h5 with h5
    injection h5 with e1 e2
    subst e1; subst e2
    exact .inr ⟨g, _, rfl, h6, fun i y hy => by
      obtain ⟨cs, k1, k2, k3⟩ := h7 (i + 1) y (by simpa using hy)
      exact ⟨cs, k1, by rw [show off + n + i * n = off + (i + 1) * n by rw [Nat.add_mul]; omega]; exact k2, k3⟩⟩
theorem SlAt_empty (w : World) (S : Nat → Prop) (n : Nat) (R : α → List Value → Prop) (a : Option Addr) (cap : Nat) (h : cap ≤ 9223372036854775807) : SlAt w S n R (.slice a 0 cap) ([] : List α) := ⟨a, cap, rfl, Nat.zero_le _, h, .inl rfl⟩
end
/-- what is cut in front, behind -/
def frontT (l : List Vt) : List Vt := l.dropWhile blankT
def backT (l : List Vt) : List Vt := (l.reverse.dropWhile blankT).reverse
theorem trimT_eq (l : List Vt) : trimT l = backT (frontT l) := rfl
theorem frontT_cons {x : Vt} {l : List Vt} (h : x.t.k = 13) : frontT (x :: l) = frontT l := by unfold frontT; rw [List.dropWhile_cons_of_pos (by simp [blankT, h])]
theorem frontT_stop {x : Vt} {l : List Vt} (h : x.t.k ≠ 13) : frontT (x :: l) = x :: l := by unfold frontT; rw [List.dropWhile_cons_of_neg (by simp [blankT, h])]
theorem backT_snoc {x : Vt} {l : List Vt} (h : x.t.k = 13) : backT (l ++ [x]) = backT l := by unfold backT; rw [List.reverse_append, List.reverse_singleton, List.singleton_append, List.dropWhile_cons_of_pos (by simp [blankT, h])]
theorem backT_stop {x : Vt} {l : List Vt} (h : x.t.k ≠ 13) : backT (l ++ [x]) = l ++ [x] := by unfold backT; rw [List.reverse_append, List.reverse_singleton, List.singleton_append, List.dropWhile_cons_of_neg (by simp [blankT, h])]; simp
mutual
/-- how many values a tree holds -/
def Vt.nodes : Vt → Nat
  | .mk _ ks => 1 + nodesL ks
def nodesL : List Vt → Nat
  | [] => 0
  | x :: l => x.nodes + nodesL l
end
theorem nodesL_app (a b : List Vt) : nodesL (a ++ b) = nodesL a + nodesL b := by
  induction a with
  | nil => simp [nodesL]
  | cons x a ih => simp [nodesL, ih]; omega
theorem nodesL_len : ∀ l : List Vt, l.length ≤ nodesL l
  | [] => Nat.le_refl _
  | .mk t ks :: l => by have := nodesL_len l; simp [nodesL, Vt.nodes]; omega
theorem nodesL_mem {x : Vt} {l : List Vt} (h : x ∈ l) : x.nodes ≤ nodesL l := by
  obtain ⟨a, b, rfl⟩ := List.append_of_mem h
  rw [nodesL_app]; simp [nodesL]; omega
theorem nodesL_front (l : List Vt) : nodesL (frontT l) ≤ nodesL l := by
  have h : l = l.takeWhile blankT ++ frontT l := (List.takeWhile_append_dropWhile (p := blankT) (l := l)).symm
  have := congrArg nodesL h
  rw [nodesL_app] at this; omega
theorem nodesL_rev (l : List Vt) : nodesL l.reverse = nodesL l := by
  induction l with
  | nil => rfl
  | cons x l ih => rw [List.reverse_cons, nodesL_app, ih]; simp [nodesL]; omega
theorem nodesL_trim (l : List Vt) : nodesL (trimT l) ≤ nodesL l := by
  have h1 := nodesL_front l
  have h2 := nodesL_front (frontT l).reverse
  rw [trimT_eq]
  unfold backT
  rw [nodesL_rev]
  have h3 := nodesL_rev (frontT l)
  have h4 : frontT (frontT l).reverse = (frontT l).reverse.dropWhile blankT := rfl
  rw [h4] at h2; omega
end Go
namespace Go.Proofs.YthcaphoejplecaaGreatDoor
open Go.RowKit
set_option maxRecDepth 100000 in
set_option maxHeartbeats 4000000 in
theorem trimmed_any {w : World} {S : Nat → Prop} {v : Value} {l : List Vt} (h : VsAt w S v l) :
    Calls Tryz.prog 71 #[v] w fun e w' => ∃ r, e = .returned r ∧ w.grows w' ∧ VsAt w' S r (trimT l) := by
  obtain ⟨a, cap, rfl, -, -⟩ := SlAt.len h
  have H0 := Lib.hid h
  clear h
  rw [trimT_eq]
  go_enter Tryz.func71, Tryz.ntmps71
  go_wp2_with fail
  go_loopg [0] l.length (fun gn v0 wj => ∃ (a : Option Addr) (cap : Nat) (l' : List Vt), Hid (gn = l'.length) ∧ v0 = .slice a l'.length cap ∧ w.grows wj ∧ Hid (VsAt wj S (.slice a l'.length cap) l' ∧ frontT l = frontT l'))
  case atStart => exact ⟨a, cap, l, Lib.hid rfl, rfl, (by repeat (with_reducible first | assumption | exact grA | apply grB | apply grC | apply grD | refine grE ?_ (by omega) _ | refine grF ?_ (by omega) _ _)), Lib.hid ⟨H0.out, rfl⟩⟩
  case round =>
    obtain ⟨a, cap, l', HQ, rfl, hgj, HV⟩ := hrel
    cases l' with
    | nil =>
      have HF := Lib.hid HV.out.2
      clear H0
      simp only [List.length_nil]
      go_wp2_with fail
      go_loopg [0] 0 (fun gn v0 wj => ∃ (a : Option Addr) (cap : Nat) (L : List Vt), Hid (gn = L.length) ∧ v0 = .slice a L.length cap ∧ w.grows wj ∧ Hid (VsAt wj S (.slice a L.length cap) L ∧ backT (frontT l) = backT L))
      case atStart => exact ⟨a, cap, [], Lib.hid rfl, rfl, hgj.trans (by repeat (with_reducible first | assumption | exact grA | apply grB | apply grC | apply grD | refine grE ?_ (by omega) _ | refine grF ?_ (by omega) _ _)), Lib.hid ⟨HV.out.1.grows (show World.grows wr _ from (by repeat (with_reducible first | assumption | exact grA | apply grB | apply grC | apply grD | refine grE ?_ (by omega) _ | refine grF ?_ (by omega) _ _))), by rw [HF.out]; rfl⟩⟩
      case round =>
        obtain ⟨a, cap, L, HQ, rfl, hgj, HV⟩ := hrel
        by_cases hz : L.length = 0
        · obtain rfl : L = [] := List.length_eq_zero_iff.1 hz
          simp only [List.length_nil] at hz ⊢
          clear hz
          go_wp2_with fail
          go_ret
          refine ⟨_, rfl, hgj.trans (by repeat (with_reducible first | assumption | exact grA | apply grB | apply grC | apply grD | refine grE ?_ (by omega) _ | refine grF ?_ (by omega) _ _)), ?_⟩
          rw [HV.out.2]
          exact HV.out.1.grows (show World.grows wr _ from (by repeat (with_reducible first | assumption | exact grA | apply grB | apply grC | apply grD | refine grE ?_ (by omega) _ | refine grF ?_ (by omega) _ _)))
        · obtain ⟨L, x, rfl, -⟩ := snoc_of (l := L) (n := L.length - 1) (by omega)
          obtain ⟨g, off, cs, rfl, hS, -, k1, hv⟩ := HV.out.1.elt (i := L.length) (x := x) (by simp)
          obtain ⟨t, ks⟩ := x
          obtain ⟨twf, vk, rfl, hks⟩ := VOk_open hv
          obtain ⟨aK, cK, rfl, -, -⟩ := hks.len
          obtain ⟨b1, b2, b3⟩ := HV.out.1.bound
          have HSP := Lib.hid (fun (W : World) => rspace_any t aK ks.length cK W)
          have HX := Lib.hid (show ∀ (hk : t.k = 13), _ from fun hk => backT_snoc (x := .mk t ks) (l := L) hk)
          have HY := Lib.hid (show ∀ (hk : t.k ≠ 13), _ from fun hk => backT_stop (x := .mk t ks) (l := L) hk)
          obtain ⟨k, s, n1, d, q1, q2⟩ := t
          have z3 := lt_sz k1.lt
          obtain ⟨u1, u2⟩ := k1
          replace u1 : segOk (off + L.length * 7) 7 (wr.row g) = true := u1
          replace u2 : segV (off + L.length * 7) 7 (wr.row g) = .agg #[.int .i64 k, .string s, .int .i64 n1, .int .i64 d, .bool q1, .bool q2, .slice aK ks.length cK] := u2
          simp only [List.length_append, List.length_singleton] at b1 b2 hz ⊢
          have i0 : (0 : Int) < (L.length : Int) + 1 := by omega
          have i1 : (0 : Int) ≤ (L.length : Int) := by omega
          have i2 : (L.length : Int) < (L.length : Int) + 1 := by omega
          have i3 : (L.length : Int) ≤ (cap : Int) := by omega
          have iw : IntKind.i64.wrap (L.length : Int) = (L.length : Int) := by rw [IntKind.wrap_i64]; omega
          clear hz
          by_cases hk : k = 13
          · have hb : decide (k = 13) = true := by simpa using hk
            have HN := Lib.hid (HX.out hk)
            simp only [hb] at HSP
            clear hk hb
            go_wp2_with ((go_at_call 100; (with_reducible refine (HSP.out _).mono ?_); rintro e w1 ⟨rfl, x1, rfl⟩))
            go_roundg L.length
            case measure => have := HQ.out; simp at this; omega
            case rel => exact ⟨_, _, L, Lib.hid rfl, by go_num, hgj.trans (by repeat (with_reducible first | assumption | exact grA | apply grB | apply grC | apply grD | refine grE ?_ (by omega) _ | refine grF ?_ (by omega) _ _)), Lib.hid ⟨(SlAt.init1 HV.out.1).grows (show World.grows wr _ from (by repeat (with_reducible first | assumption | exact grA | apply grB | apply grC | apply grD | refine grE ?_ (by omega) _ | refine grF ?_ (by omega) _ _))) (fun _ _ _ h => h.grows (by repeat (with_reducible first | assumption | exact grA | apply grB | apply grC | apply grD | refine grE ?_ (by omega) _ | refine grF ?_ (by omega) _ _))), by rw [HV.out.2, HN.out]⟩⟩
          · have hb : decide (k = 13) = false := by simpa using hk
            have HN := Lib.hid (HY.out hk)
            simp only [hb] at HSP
            clear hk hb
            go_wp2_with ((go_at_call 100; (with_reducible refine (HSP.out _).mono ?_); rintro e w1 ⟨rfl, x1, rfl⟩))
            go_ret
            refine ⟨_, rfl, hgj.trans (by repeat (with_reducible first | assumption | exact grA | apply grB | apply grC | apply grD | refine grE ?_ (by omega) _ | refine grF ?_ (by omega) _ _)), ?_⟩
            rw [HV.out.2, HN.out]
            have := HV.out.1.grows (show World.grows wr (wr.plus x1) from (by repeat (with_reducible first | assumption | exact grA | apply grB | apply grC | apply grD | refine grE ?_ (by omega) _ | refine grF ?_ (by omega) _ _)))
            simpa using this
    | cons x l' =>
      obtain ⟨g, off, cs, rfl, hS, -, k1, hv⟩ := HV.out.1.elt (i := 0) rfl
      obtain ⟨t, ks⟩ := x
      obtain ⟨twf, vk, rfl, hks⟩ := VOk_open hv
      obtain ⟨aK, cK, rfl, -, -⟩ := hks.len
      obtain ⟨b1, b2, b3⟩ := HV.out.1.bound
      have HSP := Lib.hid (fun (W : World) => rspace_any t aK ks.length cK W)
      have HX := Lib.hid (show ∀ (hk : t.k = 13), _ from fun hk => frontT_cons (x := .mk t ks) (l := l') hk)
      have HY := Lib.hid (show ∀ (hk : t.k ≠ 13), _ from fun hk => frontT_stop (x := .mk t ks) (l := l') hk)
      rw [Nat.zero_mul, Nat.add_zero] at k1
      obtain ⟨k, s, n1, d, q1, q2⟩ := t
      have z3 := lt_sz k1.lt
      obtain ⟨u1, u2⟩ := k1
      replace u1 : segOk off 7 (wr.row g) = true := u1
      replace u2 : segV off 7 (wr.row g) = .agg #[.int .i64 k, .string s, .int .i64 n1, .int .i64 d, .bool q1, .bool q2, .slice aK ks.length cK] := u2
      simp only [List.length_cons] at b1 b2 ⊢
      have i0 : (0 : Int) < (l'.length : Int) + 1 := by omega
      by_cases hk : k = 13
      · have hb : decide (k = 13) = true := by simpa using hk
        have HN := Lib.hid (HX.out hk)
        simp only [hb] at HSP
        have c1 : (1 : Int) ≤ (l'.length : Int) + 1 := by omega
        clear hk hb
        by_cases hcap : cap = 1
        · subst hcap
          obtain rfl : l' = [] := List.length_eq_zero_iff.1 (by omega)
          simp only [List.length_nil] at *
          go_wp2_with ((go_at_call 100; (with_reducible refine (HSP.out _).mono ?_); rintro e w1 ⟨rfl, x1, rfl⟩))
          go_roundg 0
          case measure => have := HQ.out; simp at this; omega
          case rel => exact ⟨_, _, [], Lib.hid rfl, by go_num, hgj.trans (by repeat (with_reducible first | assumption | exact grA | apply grB | apply grC | apply grD | refine grE ?_ (by omega) _ | refine grF ?_ (by omega) _ _)), Lib.hid ⟨SlAt_empty _ _ _ _ _ _ (by omega), by rw [HV.out.2, HN.out]⟩⟩
        · have c2 : (1 : Int) ≤ (cap : Int) := by omega
          have c3 : ¬ (cap : Int) = 1 := by omega
          go_wp2_with ((go_at_call 100; (with_reducible refine (HSP.out _).mono ?_); rintro e w1 ⟨rfl, x1, rfl⟩))
          go_roundg l'.length
          case measure => have := HQ.out; simp at this; omega
          case rel => exact ⟨_, _, l', Lib.hid rfl, by go_num, hgj.trans (by repeat (with_reducible first | assumption | exact grA | apply grB | apply grC | apply grD | refine grE ?_ (by omega) _ | refine grF ?_ (by omega) _ _)), Lib.hid ⟨(SlAt.tail1 HV.out.1).grows (show World.grows wr _ from (by repeat (with_reducible first | assumption | exact grA | apply grB | apply grC | apply grD | refine grE ?_ (by omega) _ | refine grF ?_ (by omega) _ _))) (fun _ _ _ h => h.grows (by repeat (with_reducible first | assumption | exact grA | apply grB | apply grC | apply grD | refine grE ?_ (by omega) _ | refine grF ?_ (by omega) _ _))), by rw [HV.out.2, HN.out]⟩⟩
      · have hb : decide (k = 13) = false := by simpa using hk
        have HN := Lib.hid (HY.out hk)
        simp only [hb] at HSP
        clear hk hb
        go_wp2_with ((go_at_call 100; (with_reducible refine (HSP.out _).mono ?_); rintro e w1 ⟨rfl, x1, rfl⟩))
        go_loopg [0] (l'.length + 1) (fun gn v0 wj => ∃ (a : Option Addr) (cap : Nat) (L : List Vt), Hid (gn = L.length) ∧ v0 = .slice a L.length cap ∧ w.grows wj ∧ Hid (VsAt wj S (.slice a L.length cap) L ∧ backT (frontT l) = backT L))
        case atStart => exact ⟨_, _, .mk ⟨k, s, n1, d, q1, q2⟩ ks :: l', Lib.hid rfl, rfl, hgj.trans (by repeat (with_reducible first | assumption | exact grA | apply grB | apply grC | apply grD | refine grE ?_ (by omega) _ | refine grF ?_ (by omega) _ _)), Lib.hid ⟨HV.out.1.grows (show World.grows wr _ from (by repeat (with_reducible first | assumption | exact grA | apply grB | apply grC | apply grD | refine grE ?_ (by omega) _ | refine grF ?_ (by omega) _ _))), by rw [HV.out.2, HN.out]⟩⟩
        case round =>
          obtain ⟨a, cap, L, HQ, rfl, hgj, HV⟩ := hrel
          by_cases hz : L.length = 0
          · obtain rfl : L = [] := List.length_eq_zero_iff.1 hz
            simp only [List.length_nil] at hz ⊢
            clear hz
            go_wp2_with fail
            go_ret
            refine ⟨_, rfl, hgj.trans (by repeat (with_reducible first | assumption | exact grA | apply grB | apply grC | apply grD | refine grE ?_ (by omega) _ | refine grF ?_ (by omega) _ _)), ?_⟩
            rw [HV.out.2]
            exact HV.out.1.grows (show World.grows wr _ from (by repeat (with_reducible first | assumption | exact grA | apply grB | apply grC | apply grD | refine grE ?_ (by omega) _ | refine grF ?_ (by omega) _ _)))
          · obtain ⟨L, x, rfl, -⟩ := snoc_of (l := L) (n := L.length - 1) (by omega)
            obtain ⟨g, off, cs, rfl, hS, -, k1, hv⟩ := HV.out.1.elt (i := L.length) (x := x) (by simp)
            obtain ⟨t, ks⟩ := x
            obtain ⟨twf, vk, rfl, hks⟩ := VOk_open hv
            obtain ⟨aK, cK, rfl, -, -⟩ := hks.len
            obtain ⟨b1, b2, b3⟩ := HV.out.1.bound
            have HSP := Lib.hid (fun (W : World) => rspace_any t aK ks.length cK W)
            have HX := Lib.hid (show ∀ (hk : t.k = 13), _ from fun hk => backT_snoc (x := .mk t ks) (l := L) hk)
            have HY := Lib.hid (show ∀ (hk : t.k ≠ 13), _ from fun hk => backT_stop (x := .mk t ks) (l := L) hk)
            obtain ⟨k, s, n1, d, q1, q2⟩ := t
            have z3 := lt_sz k1.lt
            obtain ⟨u1, u2⟩ := k1
            replace u1 : segOk (off + L.length * 7) 7 (wr.row g) = true := u1
            replace u2 : segV (off + L.length * 7) 7 (wr.row g) = .agg #[.int .i64 k, .string s, .int .i64 n1, .int .i64 d, .bool q1, .bool q2, .slice aK ks.length cK] := u2
            simp only [List.length_append, List.length_singleton] at b1 b2 hz ⊢
            have i0 : (0 : Int) < (L.length : Int) + 1 := by omega
            have i1 : (0 : Int) ≤ (L.length : Int) := by omega
            have i2 : (L.length : Int) < (L.length : Int) + 1 := by omega
            have i3 : (L.length : Int) ≤ (cap : Int) := by omega
            have iw : IntKind.i64.wrap (L.length : Int) = (L.length : Int) := by rw [IntKind.wrap_i64]; omega
            clear hz
            by_cases hk : k = 13
            · have hb : decide (k = 13) = true := by simpa using hk
              have HN := Lib.hid (HX.out hk)
              simp only [hb] at HSP
              clear hk hb
              go_wp2_with ((go_at_call 100; (with_reducible refine (HSP.out _).mono ?_); rintro e w1 ⟨rfl, x1, rfl⟩))
              go_roundg L.length
              case measure => have := HQ.out; simp at this; omega
              case rel => exact ⟨_, _, L, Lib.hid rfl, by go_num, hgj.trans (by repeat (with_reducible first | assumption | exact grA | apply grB | apply grC | apply grD | refine grE ?_ (by omega) _ | refine grF ?_ (by omega) _ _)), Lib.hid ⟨(SlAt.init1 HV.out.1).grows (show World.grows wr _ from (by repeat (with_reducible first | assumption | exact grA | apply grB | apply grC | apply grD | refine grE ?_ (by omega) _ | refine grF ?_ (by omega) _ _))) (fun _ _ _ h => h.grows (by repeat (with_reducible first | assumption | exact grA | apply grB | apply grC | apply grD | refine grE ?_ (by omega) _ | refine grF ?_ (by omega) _ _))), by rw [HV.out.2, HN.out]⟩⟩
            · have hb : decide (k = 13) = false := by simpa using hk
              have HN := Lib.hid (HY.out hk)
              simp only [hb] at HSP
              clear hk hb
              go_wp2_with ((go_at_call 100; (with_reducible refine (HSP.out _).mono ?_); rintro e w1 ⟨rfl, x1, rfl⟩))
              go_ret
              refine ⟨_, rfl, hgj.trans (by repeat (with_reducible first | assumption | exact grA | apply grB | apply grC | apply grD | refine grE ?_ (by omega) _ | refine grF ?_ (by omega) _ _)), ?_⟩
              rw [HV.out.2, HN.out]
              have := HV.out.1.grows (show World.grows wr (wr.plus x1) from (by repeat (with_reducible first | assumption | exact grA | apply grB | apply grC | apply grD | refine grE ?_ (by omega) _ | refine grF ?_ (by omega) _ _)))
              simpa using this
set_option maxRecDepth 100000 in
set_option maxHeartbeats 4000000 in
/-- values copied, one level after the other -/
theorem copied_step {w : World} {S : Nat → Prop} (P : Vt → List Value → Prop) (hPl : ∀ x cs, P x cs → cs.length = 7)
    (hP : ∀ (t : Tk) (ks : List Vt) (cs : List Value), P (.mk t ks) cs → t.Wf ∧ ∃ v : Value, cs = t.cs ++ [v] ∧ (∃ a c, v = .slice a ks.length c) ∧ ∀ W : World, w.grows W → Calls Tryz.prog 70 #[v] W fun e w' => ∃ r, e = .returned r ∧ W.grows w' ∧ VsAt w' (fun g => W.heap.size ≤ g) r ks)
    {v : Value} {l : List Vt} (h : SlAt w S 7 P v l) (hl : l.length ≤ 4194304) : Calls Tryz.prog 70 #[v] w fun e w' => ∃ r, e = .returned r ∧ w.grows w' ∧ VsAt w' (fun g => w.heap.size ≤ g) r l := by
  obtain ⟨a, cap, rfl, -, -⟩ := SlAt.len h
  have H0 := Lib.hid h
  have HP := Lib.hid hP
  clear h hP
  go_enter Tryz.func70, Tryz.ntmps70
  go_wp2_with fail
  go_loopg [3, 8] l.length (fun gn v3 v8 wj => ∃ i : Nat, Hid (gn + i = l.length ∧ i ≤ l.length) ∧ v8 = .int .i64 i ∧ w.grows wj ∧ Hid (∃ css : List (List Value), css.length = i ∧ (∀ (j : Nat) (x : Vt) (cs : List Value), l[j]? = some x → css[j]? = some cs → cs.length = 7 ∧ VOk wj (fun g => w.heap.size ≤ g ∧ v3.ownBlock ≠ some g ∧ g < wj.heap.size) x cs) ∧ wj.ownsRow w.heap.size 70 7 v3 i css.flatten))
  case atStart => exact ⟨0, Lib.hid ⟨by simp, Nat.zero_le _⟩, by go_num, (by repeat (with_reducible first | assumption | exact grA | apply grB | apply grC | apply grD | refine grE ?_ (by omega) _ | refine grF ?_ (by omega) _ _)), Lib.hid ⟨[], rfl, fun j x cs _ q => by simp at q, World.ownsRow_nil _ _ _ _⟩⟩
  case round =>
    obtain ⟨i, HQ, rfl, hgj, HO⟩ := hrel
    obtain ⟨j1, j2⟩ := HQ.out
    by_cases hlt : i < l.length
    · have iI : (i : Int) < (l.length : Int) := by omega
      have ii0 : (0 : Int) ≤ (i : Int) := by omega
      obtain ⟨css, o1, o2, o3⟩ := HO.out
      obtain ⟨a3, c3, rfl⟩ := own_slice o3
      have hgt : l[i]? = some l[i] := List.getElem?_eq_getElem hlt
      obtain ⟨g, off, cs, rfl, hS, -, k1, hv⟩ := H0.out.elt hgt
      have hm := List.getElem_mem hlt
      generalize l[i] = x at *
      obtain ⟨t, ks⟩ := x
      obtain ⟨twf, vk, rfl, ⟨aK, cK, rfl⟩, hcall⟩ := HP.out t ks cs hv
      have k2 := k1.grows hgj
      obtain ⟨k, s, n1, d, q1, q2⟩ := t
      have z3 := lt_sz k2.lt
      obtain ⟨u1, u2⟩ := k2
      replace u1 : segOk (off + i * 7) 7 (wr.row g) = true := u1
      replace u2 : segV (off + i * 7) 7 (wr.row g) = .agg #[.int .i64 k, .string s, .int .i64 n1, .int .i64 d, .bool q1, .bool q2, .slice aK ks.length cK] := u2
      have HGT := Lib.hid hgt
      have HTW := Lib.hid twf
      have HCL := Lib.hid hcall
      have HO1 := Lib.hid o1
      have HO2 := Lib.hid o2
      have HO3 := Lib.hid o3
      clear hgt twf hcall o1 o2 o3 hv k1 HO
      have hgs1 : segOk 0 6 (some (.cells #[.int .i64 k, .string s, .int .i64 n1, .int .i64 d, .bool q1, .bool q2, .slice aK ks.length cK] 70)) = true := rfl
      have hgs2 : segV 0 6 (some (.cells #[.int .i64 k, .string s, .int .i64 n1, .int .i64 d, .bool q1, .bool q2, .slice aK ks.length cK] 70)) = .agg #[.int .i64 k, .string s, .int .i64 n1, .int .i64 d, .bool q1, .bool q2] := rfl
      go_upto_region 5 with fail
      refine abs_rows (w := wr) (G := fun W => Code.wp _ _ _ _ W) (by repeat (with_reducible first | assumption | exact grA | apply grB | apply grC | apply grD | refine grE ?_ (by omega) _ | refine grF ?_ (by omega) _ _)) [(wr.heap.size, .cells #[.int .i64 k, .string s, .int .i64 n1, .int .i64 d, .bool q1, .bool q2, .slice aK ks.length cK] 70)] (by simp [go_sem, *]) ?_
      intro w2 gw2 hl
      simp only [List.forall_mem_cons, List.not_mem_nil, false_implies, implies_true, and_true] at hl
      have x5 := hl
      have zx5 := row_sz' x5
      have hs2 := gw2.below.size
      have hgw := hgj.below.size
      have hlt5 := zx5.1
      generalize hb5 : wr.heap.size = b5 at *
      refine wp_region_seq (S := rowsAs w2 [b5]) (by kernel_rfl) (by kernel_rfl) (rowsAs.drew _ _) ?_
      show wpSeqL _ _ _ _ _ _ (World.drew w2)
      have hdd : w2.grows (World.drew w2) := World.grows.drew World.grows.refl
      repeat (refine wpSeqL_free rfl ?_; refine wpQuiet_step (fun K hK => ?_); (rw [if_pos (by simp [Region.wanted])]; refine Exists.intro ?_ ⟨fun w' hw' => ?_, ?_⟩; rotate_left; focus (have r0 := rowsAs.of hw' x5 (by simp); have s0 := row_sz' r0; first | (simp [Oper.quietAt, Oper.quietUpon, go_sem, r0, s0, hgs1, hgs2]; rfl) | (exact ⟨rfl, rfl⟩))); go_simp; refine hK _ ?_; clear hK K; refine wpQuiet_nil ?_)
      have hRA : rowsAs w2 [b5] (World.drew w2) := rowsAs.drew _ _
      have hd0 : (World.drew w2).heap.size = w2.heap.size := rfl
      generalize World.drew w2 = wA at *
      refine wpSeqL_link rfl (fun K hK => ?_)
      go_simp
      have hgA := (hgj.trans gw2).trans hdd
      (go_at_call 70; go_loud ((with_reducible refine (HCL.out _ hgA).mono ?_); rintro r wC ⟨vR, rfl, hgC, hvC⟩))
      obtain ⟨aR, cR, rfl, -, -⟩ := hvC.len
      have hRC := hRA.grow hgC (by simp [hd0, zx5])
      refine ⟨_, rfl, hK _ _ hRC ?_⟩
      clear hK K
      have hsC := hgC.below.size
      repeat (refine wpSeqL_free rfl ?_; refine wpQuiet_step (fun K hK => ?_); (rw [if_pos (by simp [Region.wanted])]; refine Exists.intro ?_ ⟨fun w' hw' => ?_, ?_⟩; rotate_left; focus (have r0 := rowsAs.of hw' x5 (by simp); have s0 := row_sz' r0; first | (simp [Oper.quietAt, Oper.quietUpon, go_sem, r0, s0]; rfl) | (exact ⟨rfl, rfl⟩))); go_simp; refine hK _ ?_; clear hK K; refine wpQuiet_nil ?_)
      refine wpSeqL_link rfl (fun K hK => ?_)
      go_simp
      have hgB : wC.grows (wC.alloc (.cells #[.int .i64 k, .string s, .int .i64 n1, .int .i64 d, .bool q1, .bool q2, .slice aR ks.length cR] 70)) := World.grows.alloc World.grows.refl _
      have hnB : (wC.alloc (.cells #[.int .i64 k, .string s, .int .i64 n1, .int .i64 d, .bool q1, .bool q2, .slice aR ks.length cR] 70)).row wC.heap.size = some (.cells #[.int .i64 k, .string s, .int .i64 n1, .int .i64 d, .bool q1, .bool q2, .slice aR ks.length cR] 70) := by simp [go_sem]
      have hsB : (wC.alloc (.cells #[.int .i64 k, .string s, .int .i64 n1, .int .i64 d, .bool q1, .bool q2, .slice aR ks.length cR] 70)).heap.size = wC.heap.size + 1 := by simp
      have hRB := hRC.grow hgB (by simp; omega)
      refine hK _ _ hRB ?_
      clear hK K
      generalize wC.alloc (.cells #[.int .i64 k, .string s, .int .i64 n1, .int .i64 d, .bool q1, .bool q2, .slice aR ks.length cR] 70) = wB at *
      have hg2B : wr.grows wB := ((gw2.trans hdd).trans hgC).trans hgB
      refine wpSeqL_appO w.heap.size rfl rfl (.tmp 12) (.tmp 19) 58 rfl 70 (.agg #[.int .i64 0, .string ByteArray.empty, .int .i64 0, .int .i64 0, .bool false, .bool false, .slice none 0 0]) 7 72 Tryz.underlying58 (by kernel_rfl) rfl (by omega) (by omega) _ i _ rfl (HO3.out.grows hg2B) (some ⟨wC.heap.size, 0, none⟩) 1 1 [.int .i64 k, .string s, .int .i64 n1, .int .i64 d, .bool q1, .bool q2, .slice aR ks.length cR] rfl rfl (.inr ⟨_, rfl, fun j u hu => ?_⟩) (by simp [Value.oneCell']) (by omega) (by omega) ?_
      · exact cells_of_row (e := 70) (fr := (0, 0)) hnB j u hu
      intro v8 wG k1 k2 k3
      replace k2 : wB.grownBy wG (Value.slice a3 i c3).ownBlock := k2
      replace k3 : v8.ownBlock = (Value.slice a3 i c3).ownBlock ∨ v8.ownBlock = some wB.heap.size := k3
      have hv3 : ∀ g, (Value.slice a3 i c3).ownBlock = some g → g < wr.heap.size := fun g hg => (HO3.out.lt g hg).2
      have hRG := hRB.grown k2 (fun b hb => by
        have hb' : b = b5 := by simpa using hb
        refine ⟨by omega, fun e => ?_⟩
        have := hv3 b e.symm
        omega)
      refine ⟨hRG, ?_⟩
      obtain ⟨a8, c8, rfl⟩ := own_slice k1
      go_simp
      repeat (refine wpSeqL_free rfl ?_; refine wpQuiet_step (fun K hK => ?_); (rw [if_pos (by simp [Region.wanted])]; refine Exists.intro ?_ ⟨fun w' hw' => ?_, ?_⟩; rotate_left; focus (have r0 := rowsAs.of hw' x5 (by simp); have s0 := row_sz' r0; first | (simp [Oper.quietAt, Oper.quietUpon, go_sem, r0, s0]; rfl) | (exact ⟨rfl, rfl⟩))); go_simp; refine hK _ ?_; clear hK K; refine wpQuiet_nil ?_)
      refine wpSeqL_end ?_
      have hgG : w.grows wG := (hgj.trans hg2B).grown k2 fun k hk => (HO3.out.lt k hk).1
      have hsG := k2.size
      have HFIN : Hid (∃ css : List (List Value), css.length = i + 1 ∧ (∀ (j : Nat) (x : Vt) (cs : List Value), l[j]? = some x → css[j]? = some cs → cs.length = 7 ∧ VOk wG (fun g => w.heap.size ≤ g ∧ (Value.slice a8 (i + 1) c8).ownBlock ≠ some g ∧ g < wG.heap.size) x cs) ∧ wG.ownsRow w.heap.size 70 7 (.slice a8 (i + 1) c8) (i + 1) css.flatten) := by
        refine Lib.hid ⟨css ++ [[.int .i64 k, .string s, .int .i64 n1, .int .i64 d, .bool q1, .bool q2, .slice aR ks.length cR]], by simp [HO1.out], fun j x cs p1 p2 => ?_, by simpa using k1⟩
        have hn8 : ∀ g, (Value.slice a3 i c3).ownBlock ≠ some g → g < wB.heap.size → (Value.slice a8 (i + 1) c8).ownBlock ≠ some g := fun g h1 h2 h3 => by
          rcases k3 with k3 | k3
          · exact h1 (k3.symm.trans h3)
          · rw [k3] at h3; injection h3 with h3; omega
        by_cases hj : j < css.length
        · rw [List.getElem?_append_left hj] at p2
          refine ⟨(HO2.out j x cs p1 p2).1, (HO2.out j x cs p1 p2).2.keep fun g hg hl => ⟨?_, hg.1, hn8 g hg.2.1 (by omega), by omega⟩⟩
          rw [row_growV k2 (by omega) (fun e => hg.2.1 e.symm)]; exact hg2B.row_eq (by rw [hb5]; exact hg.2.2)
        · have hj2 := (List.getElem?_eq_some_iff.1 p2).1
          have o1 := HO1.out
          simp only [List.length_append, List.length_singleton] at hj2
          obtain rfl : j = css.length := by omega
          rw [o1] at p1
          rw [HGT.out] at p1
          injection p1 with p1
          subst p1
          simp at p2
          subst p2
          refine ⟨rfl, (VOk_mk (t := ⟨k, s, n1, d, q1, q2⟩) HTW.out hvC).keep fun g hg hl => ?_⟩
          have h3 : (Value.slice a3 i c3).ownBlock ≠ some g := fun e => by have := hv3 g e; omega
          refine ⟨?_, by omega, hn8 g h3 (by omega), by omega⟩
          rw [row_growV k2 (by omega) (fun e => h3 e.symm)]; exact hgB.row_eq hl
      clear hRG k1 k2 k3 hvC
      go_wp2_with fail
      go_roundg (l.length - (i + 1))
      case measure => omega
      case rel => exact ⟨i + 1, Lib.hid ⟨by omega, by omega⟩, by go_num, hgG, HFIN⟩
    · have iI : ¬ (i : Int) < (l.length : Int) := by omega
      obtain rfl : i = l.length := by omega
      go_wp2_with fail
      go_ret
      obtain ⟨css, o1, o2, o3⟩ := HO.out
      refine ⟨_, rfl, hgj.trans (by repeat (with_reducible first | assumption | exact grA | apply grB | apply grC | apply grD | refine grE ?_ (by omega) _ | refine grF ?_ (by omega) _ _)), ?_⟩
      rename_i v3
      have ho : OwnAt wr w.heap.size 70 7 (VOk wr (fun g => w.heap.size ≤ g)) _ l := ⟨css, o1, fun j x cs p1 p2 => ⟨(o2 j x cs p1 p2).1, (o2 j x cs p1 p2).2.keep fun g hg _ => ⟨rfl, hg.1⟩⟩, o3⟩
      exact VsAt.grows (OwnAt.slAt ho (by omega) fun g hg => (o3.lt g hg).1) (by repeat (with_reducible first | assumption | exact grA | apply grB | apply grC | apply grD | refine grE ?_ (by omega) _ | refine grF ?_ (by omega) _ _))
theorem copied_deep : ∀ (m : Nat) (w : World) (S : Nat → Prop) (v : Value) (l : List Vt), SlAt w S 7 (VAt w S m) v l → nodesL l ≤ 4194304 → Calls Tryz.prog 70 #[v] w fun e w' => ∃ r, e = .returned r ∧ w.grows w' ∧ VsAt w' (fun g => w.heap.size ≤ g) r l
  | m, w, S, v, l, h, hn => by
    refine copied_step (P := fun x cs => VAt w S m x cs ∧ x.nodes ≤ 4194304) (fun x cs hx => VOk.len ⟨m, hx.1⟩) (fun t ks cs hx => ?_) (h.keep (fun _ hS _ => ⟨rfl, hS⟩) fun x hx cs hc => ⟨hc, Nat.le_trans (nodesL_mem hx) hn⟩) (Nat.le_trans (nodesL_len l) hn)
    cases m with
    | zero => exact hx.1.elim
    | succ m =>
      obtain ⟨⟨h1, u, h3, h4⟩, h5⟩ := hx
      obtain ⟨a, c, hu, -, -⟩ := h4.len
      exact ⟨h1, u, h3, ⟨a, c, hu⟩, fun W hg => copied_deep m W S u ks (h4.keep (fun _ hS hl => ⟨hg.row_eq hl, hS⟩) fun x _ cs hc => VAt.keep (fun _ hS hl => ⟨hg.row_eq hl, hS⟩) m x cs hc) (by simp [Vt.nodes] at h5; omega)⟩
/-- values copied -/
theorem copied_any {w : World} {S : Nat → Prop} {v : Value} {l : List Vt} (h : VsAt w S v l) (hn : nodesL l ≤ 4194304) : Calls Tryz.prog 70 #[v] w fun e w' => ∃ r, e = .returned r ∧ w.grows w' ∧ VsAt w' (fun g => w.heap.size ≤ g) r l := by
  obtain ⟨m, hm⟩ := SlAt.commonV (R := VAt w S) (fun _ _ _ _ h hle => h.le hle) h
  exact copied_deep m w S v l hm hn
set_option maxRecDepth 100000 in
theorem rtrim_any {w : World} {S : Nat → Prop} {v : Value} {l : List Vt} (h : VsAt w S v l) (hn : nodesL l ≤ 4194304) : Calls Tryz.prog 52 #[v] w fun e w' => ∃ r, e = .returned r ∧ w.grows w' ∧ VsAt w' (fun g => w.heap.size ≤ g) r (trimT l) := by
  have H1 := Lib.hid (trimmed_any h)
  have HN := Lib.hid (Nat.le_trans (nodesL_trim l) hn)
  clear h hn
  go_enter Tryz.func52, Tryz.ntmps52
  go_upto_region 1 with fail
  refine (show ∀ P : Prop, P → P from fun _ h => h) _ ?_
  go_wp2_with (first | (go_at_call 71; go_loud ((with_reducible refine H1.out.mono ?_); rintro r w1 ⟨v1, rfl, hg1, hv1⟩)) | (go_at_call 70; go_loud ((with_reducible refine (copied_any hv1 HN.out).mono ?_); rintro r w2 ⟨v2, rfl, hg2, hv2⟩)))
  go_ret
  exact ⟨_, rfl, hg1.trans (hg2.trans (by repeat (with_reducible first | assumption | exact grA | apply grB | apply grC | apply grD | refine grE ?_ (by omega) _ | refine grF ?_ (by omega) _ _))), hv2.keep fun g hg hl => ⟨(show World.grows w2 _ from (by repeat (with_reducible first | assumption | exact grA | apply grB | apply grC | apply grD | refine grE ?_ (by omega) _ | refine grF ?_ (by omega) _ _))).row_eq hl, Nat.le_trans hg1.below.size hg⟩⟩
end Go.Proofs.YthcaphoejplecaaGreatDoor
