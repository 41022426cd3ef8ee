/- WALKS over rule and jalousieref5: which component values may be. No condition. -/
import Derived.Test.YthcaphoejplecaaGreatDoorVaF
set_option linter.unusedSimpArgs false
set_option linter.unusedVariables false
namespace Go
open Go.RowKit
def chkV (n : Nat) (v : Vt) : Bool := decide (1 ≤ v.t.k) && decide (v.t.k ≤ 24) && (if clo v.t.k = 0 then v.kids.isEmpty else match n with | 0 => false | n + 1 => mayV n v.kids)
theorem mayV_all (n : Nat) (l : List Vt) : mayV n l = l.all (chkV n) := by
  unfold mayV
  congr 1
theorem chkV_leaf {n : Nat} {t : Tk} {ks : List Vt} (h1 : ¬ t.k < 1) (h2 : ¬ 24 < t.k) (hc : clo t.k = 0) (hz : ks.length = 0) : chkV n (.mk t ks) = true := by
  have e : ks = [] := List.length_eq_zero_iff.1 hz
  subst e
  unfold chkV
  show (decide (1 ≤ t.k) && decide (t.k ≤ 24) && (if clo t.k = 0 then true else _)) = true
  rw [if_pos hc, decide_eq_true (by omega), decide_eq_true (by omega)]; rfl
theorem chkV_node {m : Nat} {t : Tk} {ks : List Vt} (h1 : ¬ t.k < 1) (h2 : ¬ 24 < t.k) (hc : clo t.k ≠ 0) (hm : mayV m ks = true) : chkV (m + 1) (.mk t ks) = true := by
  unfold chkV
  show (decide (1 ≤ t.k) && decide (t.k ≤ 24) && (if clo t.k = 0 then _ else mayV m ks)) = true
  rw [if_neg hc, hm, decide_eq_true (by omega), decide_eq_true (by omega)]; rfl
theorem all_bad {α : Type} {p : α → Bool} {l : List α} {i : Nat} {x : α} (h : l[i]? = some x) (hx : p x = false) : l.all p = false := by
  rw [List.all_eq_false]
  exact ⟨x, List.mem_of_getElem? h, by simp [hx]⟩
theorem all_next {α : Type} {p : α → Bool} {l : List α} {i : Nat} {x : α} (h : l[i]? = some x) (hx : p x = true) (ht : (l.take i).all p = true) : (l.take (i + 1)).all p = true := by
  rw [List.take_add_one, h, List.all_append, ht]; simp [hx]
end Go
namespace Go.Proofs.YthcaphoejplecaaGreatDoor
open Go.RowKit
set_option maxRecDepth 100000 in
set_option maxHeartbeats 4000000 in
theorem rmay_step (n : Nat) (IH : ∀ m, n = m + 1 → ∀ (D : Int) (l : List Vt) (v : Value) (S : Nat → Prop) (w : World), D + m = 64 ∧ m ≤ 64 → VsAt w S v l → Calls Tryz.prog 50 #[v, .int .i64 D] w (Gives w (.bool (mayV m l)))) (D : Int) (hD : D + n = 64 ∧ n ≤ 64) (l : List Vt) (v : Value) (S : Nat → Prop) (w : World) (h : VsAt w S v l) :
    Calls Tryz.prog 50 #[v, .int .i64 D] w (Gives w (.bool (mayV n l))) := by
  obtain ⟨a, cap, rfl, hcap, hcap2, h⟩ := h
  have HE := Lib.hid h
  have HIH := Lib.hid IH
  have HDD := Lib.hid hD
  rw [mayV_all]
  clear h IH hD
  go_enter Tryz.func50, Tryz.ntmps50
  go_wp2_with fail
  go_loopg [9] l.length (fun gn v9 wj => ∃ i : Nat, Hid (gn + i = l.length ∧ i ≤ l.length) ∧ v9 = .int .i64 i ∧ w.grows wj ∧ Hid ((l.take i).all (chkV n) = true))
  case atStart => exact ⟨0, Lib.hid ⟨by simp, Nat.zero_le _⟩, by go_num, (by repeat (with_reducible first | assumption | exact grA | apply grB | apply grC | apply grD | refine grE ?_ (by omega) _ | refine grF ?_ (by omega) _ _)), Lib.hid (by simp)⟩
  case round =>
    obtain ⟨i, HQ, rfl, hgj, HT⟩ := hrel
    obtain ⟨j1, j2⟩ := HQ.out
    by_cases hlt : i < l.length
    · have iI : (i : Int) < (l.length : Int) := by omega
      rcases HE.out with h0 | ⟨g, off, rfl, hS, e1⟩
      · rw [h0] at hlt; simp at hlt
      have hgt : l[i]? = some l[i] := List.getElem?_eq_getElem hlt
      obtain ⟨cs, _, k1, hv⟩ := e1 i _ hgt
      generalize l[i] = x at *
      obtain ⟨⟨k, s, n1, d, q1, q2⟩, ks⟩ := x
      obtain ⟨twf, vk, rfl, hks⟩ := VOk_open hv
      obtain ⟨aK, cK, rfl, hKc, hKc2⟩ := hks.len
      have k2 := k1.grows hgj
      have z3 := lt_sz k2.lt
      obtain ⟨u1, u2⟩ := k2
      replace u1 : segOk (off + i * 7) 7 (wr.row g) = true := u1
      replace u2 : segV (off + i * 7) 7 (wr.row g) = .agg #[.int .i64 k, .string s, .int .i64 n1, .int .i64 d, .bool q1, .bool q2, .slice aK ks.length cK] := u2
      have HK := Lib.hid (hks.grows hgj (fun _ _ _ h => h.grows hgj))
      have HGT := Lib.hid hgt
      have hiw : IntKind.i64.wrap ((i : Int) + 1) = (i : Int) + 1 := by rw [IntKind.wrap_i64]; omega
      clear e1 hgt k1 hv hks twf
      by_cases hk1 : k < 1
      · have HB : Hid (l.all (chkV n) = false) := Lib.hid (all_bad HGT.out (by unfold chkV; simp [Vt.t, show ¬ 1 ≤ k by omega]))
        rw [HB.out]
        go_wp2_with fail
        go_ret
        exact ⟨rfl, hgj.trans (by repeat (with_reducible first | assumption | exact grA | apply grB | apply grC | apply grD | refine grE ?_ (by omega) _ | refine grF ?_ (by omega) _ _))⟩
      by_cases hk2 : 24 < k
      · have HB : Hid (l.all (chkV n) = false) := Lib.hid (all_bad HGT.out (by unfold chkV; simp [Vt.t, show ¬ k ≤ 24 by omega]))
        rw [HB.out]
        go_wp2_with fail
        go_ret
        exact ⟨rfl, hgj.trans (by repeat (with_reducible first | assumption | exact grA | apply grB | apply grC | apply grD | refine grE ?_ (by omega) _ | refine grF ?_ (by omega) _ _))⟩
      by_cases hc : clo k = 0
      · have hcb : (clo k == 0) = true := by rw [hc]; rfl
        by_cases hz : ks.length = 0
        · have HN := Lib.hid (all_next HGT.out (p := chkV n) (chkV_leaf hk1 hk2 hc hz) HT.out)
          have z0 : ¬ (0 : Int) < (ks.length : Int) := by omega
          have z1 : decide (0 < ks.length) = false := by rw [hz]; rfl
          clear hz
          go_wp2_with ((go_at_call 49; (with_reducible refine (rclo_any k _).mono ?_); rintro e w1 ⟨rfl, x1, rfl⟩))
          go_roundg (l.length - (i + 1))
          case measure => omega
          case rel => exact ⟨i + 1, Lib.hid ⟨by omega, by omega⟩, by go_num, hgj.trans (by repeat (with_reducible first | assumption | exact grA | apply grB | apply grC | apply grD | refine grE ?_ (by omega) _ | refine grF ?_ (by omega) _ _)), HN⟩
        · have HB : Hid (l.all (chkV n) = false) := Lib.hid (all_bad HGT.out (by
            have : ks ≠ [] := fun e => hz (by rw [e]; rfl)
            unfold chkV; simp [Vt.t, Vt.kids, hc, this]))
          have z0 : (0 : Int) < (ks.length : Int) := by omega
          have z1 : 0 < ks.length := by omega
          rw [HB.out]
          go_wp2_with ((go_at_call 49; (with_reducible refine (rclo_any k _).mono ?_); rintro e w1 ⟨rfl, x1, rfl⟩))
          go_ret
          exact ⟨rfl, hgj.trans (by repeat (with_reducible first | assumption | exact grA | apply grB | apply grC | apply grD | refine grE ?_ (by omega) _ | refine grF ?_ (by omega) _ _))⟩
      · have hcb : (clo k == 0) = false := by simpa using hc
        have HC := Lib.hid hc
        clear hc
        cases n with
        | zero =>
          have HB : Hid (l.all (chkV 0) = false) := Lib.hid (all_bad HGT.out (by unfold chkV; simp [Vt.t, HC.out]))
          have g0 : (64 : Int) ≤ D := by have := HDD.out; omega
          rw [HB.out]
          go_wp2_with ((go_at_call 49; (with_reducible refine (rclo_any k _).mono ?_); rintro e w1 ⟨rfl, x1, rfl⟩))
          go_ret
          exact ⟨rfl, hgj.trans (by repeat (with_reducible first | assumption | exact grA | apply grB | apply grC | apply grD | refine grE ?_ (by omega) _ | refine grF ?_ (by omega) _ _))⟩
        | succ m =>
          have g0 : ¬ (64 : Int) ≤ D := by have := HDD.out; omega
          have g1 : IntKind.i64.wrap (D + 1) = D + 1 := by have := HDD.out; rw [IntKind.wrap_i64]; omega
          have HCALL := Lib.hid (fun (W : World) (hW : wr.grows W) => HIH.out m rfl _ ks (.slice aK ks.length cK) S W (show D + 1 + m = 64 ∧ m ≤ 64 by have := HDD.out; omega) (HK.out.grows hW fun _ _ _ h => h.grows hW))
          by_cases hm : mayV m ks = true
          · have HN := Lib.hid (all_next HGT.out (p := chkV (m + 1)) (chkV_node hk1 hk2 HC.out hm) HT.out)
            simp only [hm] at HCALL
            clear hm
            go_wp2_with (first | (go_at_call 49; (with_reducible refine (rclo_any k _).mono ?_); rintro e w1 ⟨rfl, x1, rfl⟩) | (go_at_call 50; (with_reducible refine (HCALL.out _ (by repeat (with_reducible first | assumption | exact grA | apply grB | apply grC | apply grD | refine grE ?_ (by omega) _ | refine grF ?_ (by omega) _ _))).mono ?_); rintro e w1 ⟨rfl, x1, rfl⟩))
            go_roundg (l.length - (i + 1))
            case measure => omega
            case rel => exact ⟨i + 1, Lib.hid ⟨by omega, by omega⟩, by go_num, hgj.trans (by repeat (with_reducible first | assumption | exact grA | apply grB | apply grC | apply grD | refine grE ?_ (by omega) _ | refine grF ?_ (by omega) _ _)), HN⟩
          · have hm' : mayV m ks = false := by simpa using hm
            have HB : Hid (l.all (chkV (m + 1)) = false) := Lib.hid (all_bad HGT.out (by unfold chkV; simp [Vt.t, Vt.kids, HC.out, hm']))
            simp only [hm'] at HCALL
            rw [HB.out]
            clear hm hm'
            go_wp2_with (first | (go_at_call 49; (with_reducible refine (rclo_any k _).mono ?_); rintro e w1 ⟨rfl, x1, rfl⟩) | (go_at_call 50; (with_reducible refine (HCALL.out _ (by repeat (with_reducible first | assumption | exact grA | apply grB | apply grC | apply grD | refine grE ?_ (by omega) _ | refine grF ?_ (by omega) _ _))).mono ?_); rintro e w1 ⟨rfl, x1, rfl⟩))
            go_ret
            exact ⟨rfl, hgj.trans (by repeat (with_reducible first | assumption | exact grA | apply grB | apply grC | apply grD | refine grE ?_ (by omega) _ | refine grF ?_ (by omega) _ _))⟩
    · have iI : ¬ (i : Int) < (l.length : Int) := by omega
      obtain rfl : i = l.length := by omega
      have HB := HT
      rw [List.take_length] at HB
      clear HT
      go_wp2_with fail
      go_ret
      rw [HB.out]
      exact ⟨rfl, hgj.trans (by repeat (with_reducible first | assumption | exact grA | apply grB | apply grC | apply grD | refine grE ?_ (by omega) _ | refine grF ?_ (by omega) _ _))⟩
theorem rmay_any : ∀ (n : Nat) (D : Int) (l : List Vt) (v : Value) (S : Nat → Prop) (w : World), D + n = 64 ∧ n ≤ 64 → VsAt w S v l → Calls Tryz.prog 50 #[v, .int .i64 D] w (Gives w (.bool (mayV n l)))
  | 0, D, l, v, S, w, hD, h => rmay_step 0 (fun m hm => by omega) D hD l v S w h
  | n + 1, D, l, v, S, w, hD, h => rmay_step (n + 1) (fun m hm D l v S w hD h => by
      obtain rfl : n = m := by omega
      exact rmay_any n D l v S w hD h) D hD l v S w h
set_option maxRecDepth 100000 in
set_option maxHeartbeats 4000000 in
theorem fmay_step (n : Nat) (IH : ∀ m, n = m + 1 → ∀ (D : Int) (l : List Vt) (v : Value) (S : Nat → Prop) (w : World), D = m ∧ m ≤ 64 → VsAt w S v l → Calls Tryz.prog 44 #[v, .int .i64 D] w (Gives w (.bool (mayV m l)))) (D : Int) (hD : D = n ∧ n ≤ 64) (l : List Vt) (v : Value) (S : Nat → Prop) (w : World) (h : VsAt w S v l) :
    Calls Tryz.prog 44 #[v, .int .i64 D] w (Gives w (.bool (mayV n l))) := by
  obtain ⟨a, cap, rfl, hcap, hcap2, h⟩ := h
  have HE := Lib.hid h
  have HIH := Lib.hid IH
  have HDD := Lib.hid hD
  rw [mayV_all]
  clear h IH hD
  go_enter Tryz.func44, Tryz.ntmps44
  go_wp2_with fail
  go_loopg [9] l.length (fun gn v9 wj => ∃ i : Nat, Hid (gn + i = l.length ∧ i ≤ l.length) ∧ v9 = .int .i64 i ∧ w.grows wj ∧ Hid ((l.take i).all (chkV n) = true))
  case atStart => exact ⟨0, Lib.hid ⟨by simp, Nat.zero_le _⟩, by go_num, (by repeat (with_reducible first | assumption | exact grA | apply grB | apply grC | apply grD | refine grE ?_ (by omega) _ | refine grF ?_ (by omega) _ _)), Lib.hid (by simp)⟩
  case round =>
    obtain ⟨i, HQ, rfl, hgj, HT⟩ := hrel
    obtain ⟨j1, j2⟩ := HQ.out
    by_cases hlt : i < l.length
    · have iI : (i : Int) < (l.length : Int) := by omega
      rcases HE.out with h0 | ⟨g, off, rfl, hS, e1⟩
      · rw [h0] at hlt; simp at hlt
      have hgt : l[i]? = some l[i] := List.getElem?_eq_getElem hlt
      obtain ⟨cs, _, k1, hv⟩ := e1 i _ hgt
      generalize l[i] = x at *
      obtain ⟨⟨k, s, n1, d, q1, q2⟩, ks⟩ := x
      obtain ⟨twf, vk, rfl, hks⟩ := VOk_open hv
      obtain ⟨aK, cK, rfl, hKc, hKc2⟩ := hks.len
      have k2 := k1.grows hgj
      have z3 := lt_sz k2.lt
      obtain ⟨u1, u2⟩ := k2
      replace u1 : segOk (off + i * 7) 7 (wr.row g) = true := u1
      replace u2 : segV (off + i * 7) 7 (wr.row g) = .agg #[.int .i64 k, .string s, .int .i64 n1, .int .i64 d, .bool q1, .bool q2, .slice aK ks.length cK] := u2
      have HK := Lib.hid (hks.grows hgj (fun _ _ _ h => h.grows hgj))
      have HGT := Lib.hid hgt
      have hiw : IntKind.i64.wrap ((i : Int) + 1) = (i : Int) + 1 := by rw [IntKind.wrap_i64]; omega
      clear e1 hgt k1 hv hks twf
      by_cases hk1 : k < 1
      · have HB : Hid (l.all (chkV n) = false) := Lib.hid (all_bad HGT.out (by unfold chkV; simp [Vt.t, show ¬ 1 ≤ k by omega]))
        rw [HB.out]
        go_wp2_with fail
        go_ret
        exact ⟨rfl, hgj.trans (by repeat (with_reducible first | assumption | exact grA | apply grB | apply grC | apply grD | refine grE ?_ (by omega) _ | refine grF ?_ (by omega) _ _))⟩
      by_cases hk2 : 24 < k
      · have HB : Hid (l.all (chkV n) = false) := Lib.hid (all_bad HGT.out (by unfold chkV; simp [Vt.t, show ¬ k ≤ 24 by omega]))
        rw [HB.out]
        go_wp2_with fail
        go_ret
        exact ⟨rfl, hgj.trans (by repeat (with_reducible first | assumption | exact grA | apply grB | apply grC | apply grD | refine grE ?_ (by omega) _ | refine grF ?_ (by omega) _ _))⟩
      by_cases hc : clo k = 0
      · have hcb : (clo k == 0) = true := by rw [hc]; rfl
        by_cases hz : ks.length = 0
        · have HN := Lib.hid (all_next HGT.out (p := chkV n) (chkV_leaf hk1 hk2 hc hz) HT.out)
          have z0 : ¬ (0 : Int) < (ks.length : Int) := by omega
          have z1 : decide (0 < ks.length) = false := by rw [hz]; rfl
          clear hz
          go_wp2_with ((go_at_call 42; (with_reducible refine (fclo_any k _).mono ?_); rintro e w1 ⟨rfl, x1, rfl⟩))
          go_roundg (l.length - (i + 1))
          case measure => omega
          case rel => exact ⟨i + 1, Lib.hid ⟨by omega, by omega⟩, by go_num, hgj.trans (by repeat (with_reducible first | assumption | exact grA | apply grB | apply grC | apply grD | refine grE ?_ (by omega) _ | refine grF ?_ (by omega) _ _)), HN⟩
        · have HB : Hid (l.all (chkV n) = false) := Lib.hid (all_bad HGT.out (by
            have : ks ≠ [] := fun e => hz (by rw [e]; rfl)
            unfold chkV; simp [Vt.t, Vt.kids, hc, this]))
          have z0 : (0 : Int) < (ks.length : Int) := by omega
          have z1 : 0 < ks.length := by omega
          rw [HB.out]
          go_wp2_with ((go_at_call 42; (with_reducible refine (fclo_any k _).mono ?_); rintro e w1 ⟨rfl, x1, rfl⟩))
          go_ret
          exact ⟨rfl, hgj.trans (by repeat (with_reducible first | assumption | exact grA | apply grB | apply grC | apply grD | refine grE ?_ (by omega) _ | refine grF ?_ (by omega) _ _))⟩
      · have hcb : (clo k == 0) = false := by simpa using hc
        have HC := Lib.hid hc
        clear hc
        cases n with
        | zero =>
          have HB : Hid (l.all (chkV 0) = false) := Lib.hid (all_bad HGT.out (by unfold chkV; simp [Vt.t, HC.out]))
          have g0 : (D == 0) = true := by have := HDD.out.1; simp [this]
          rw [HB.out]
          go_wp2_with ((go_at_call 42; (with_reducible refine (fclo_any k _).mono ?_); rintro e w1 ⟨rfl, x1, rfl⟩))
          go_ret
          exact ⟨rfl, hgj.trans (by repeat (with_reducible first | assumption | exact grA | apply grB | apply grC | apply grD | refine grE ?_ (by omega) _ | refine grF ?_ (by omega) _ _))⟩
        | succ m =>
          have g0 : (D == 0) = false := by have := HDD.out; rw [beq_eq_false_iff_ne]; omega
          have g1 : IntKind.i64.wrap (D - 1) = D - 1 := by have := HDD.out; rw [IntKind.wrap_i64]; omega
          have HCALL := Lib.hid (fun (W : World) (hW : wr.grows W) => HIH.out m rfl _ ks (.slice aK ks.length cK) S W (show D - 1 = m ∧ m ≤ 64 by have := HDD.out; omega) (HK.out.grows hW fun _ _ _ h => h.grows hW))
          by_cases hm : mayV m ks = true
          · have HN := Lib.hid (all_next HGT.out (p := chkV (m + 1)) (chkV_node hk1 hk2 HC.out hm) HT.out)
            simp only [hm] at HCALL
            clear hm
            go_wp2_with (first | (go_at_call 42; (with_reducible refine (fclo_any k _).mono ?_); rintro e w1 ⟨rfl, x1, rfl⟩) | (go_at_call 44; (with_reducible refine (HCALL.out _ (by repeat (with_reducible first | assumption | exact grA | apply grB | apply grC | apply grD | refine grE ?_ (by omega) _ | refine grF ?_ (by omega) _ _))).mono ?_); rintro e w1 ⟨rfl, x1, rfl⟩))
            go_roundg (l.length - (i + 1))
            case measure => omega
            case rel => exact ⟨i + 1, Lib.hid ⟨by omega, by omega⟩, by go_num, hgj.trans (by repeat (with_reducible first | assumption | exact grA | apply grB | apply grC | apply grD | refine grE ?_ (by omega) _ | refine grF ?_ (by omega) _ _)), HN⟩
          · have hm' : mayV m ks = false := by simpa using hm
            have HB : Hid (l.all (chkV (m + 1)) = false) := Lib.hid (all_bad HGT.out (by unfold chkV; simp [Vt.t, Vt.kids, HC.out, hm']))
            simp only [hm'] at HCALL
            rw [HB.out]
            clear hm hm'
            go_wp2_with (first | (go_at_call 42; (with_reducible refine (fclo_any k _).mono ?_); rintro e w1 ⟨rfl, x1, rfl⟩) | (go_at_call 44; (with_reducible refine (HCALL.out _ (by repeat (with_reducible first | assumption | exact grA | apply grB | apply grC | apply grD | refine grE ?_ (by omega) _ | refine grF ?_ (by omega) _ _))).mono ?_); rintro e w1 ⟨rfl, x1, rfl⟩))
            go_ret
            exact ⟨rfl, hgj.trans (by repeat (with_reducible first | assumption | exact grA | apply grB | apply grC | apply grD | refine grE ?_ (by omega) _ | refine grF ?_ (by omega) _ _))⟩
    · have iI : ¬ (i : Int) < (l.length : Int) := by omega
      obtain rfl : i = l.length := by omega
      have HB := HT
      rw [List.take_length] at HB
      clear HT
      go_wp2_with fail
      go_ret
      rw [HB.out]
      exact ⟨rfl, hgj.trans (by repeat (with_reducible first | assumption | exact grA | apply grB | apply grC | apply grD | refine grE ?_ (by omega) _ | refine grF ?_ (by omega) _ _))⟩
theorem fmay_any : ∀ (n : Nat) (D : Int) (l : List Vt) (v : Value) (S : Nat → Prop) (w : World), D = n ∧ n ≤ 64 → VsAt w S v l → Calls Tryz.prog 44 #[v, .int .i64 D] w (Gives w (.bool (mayV n l)))
  | 0, D, l, v, S, w, hD, h => fmay_step 0 (fun m hm => by omega) D hD l v S w h
  | n + 1, D, l, v, S, w, hD, h => fmay_step (n + 1) (fun m hm D l v S w hD h => by
      obtain rfl : n = m := by omega
      exact fmay_any n D l v S w hD h) D hD l v S w h
end Go.Proofs.YthcaphoejplecaaGreatDoor
