/- WALKS over order and slices: order.Sort: the places of claims, the weaker ones ahead. No condition but that the claims stand in memory and are not too many. -/
import Derived.Test.YtajkfmnnokkcaaaCls
set_option linter.unusedSimpArgs false
set_option linter.unusedVariables false
namespace Go
open Go.RowKit
/-- the claims at all places ahead of i may be -/
def mayTo (l : List Cl) (i : Nat) : Prop := ∀ (k : Nat) (x : Cl), k < i → l[k]? = some x → x.may = true
theorem mayTo_all {l : List Cl} : l.all Cl.may = true ↔ mayTo l l.length := by
  rw [List.all_eq_true]
  constructor
  · intro h k x _ hx; exact h x (List.mem_of_getElem? hx)
  · intro h x hx
    obtain ⟨k, hk, rfl⟩ := List.mem_iff_getElem.1 hx
    exact h k _ hk (List.getElem?_eq_getElem hk)
/-- behind the sort: the places in order, or nothing and the error -/
def Sorted (w : World) (l : List Cl) (t : TypeId) (e : Ending) (w' : World) : Prop :=
  w.grows w' ∧ ((l.all Cl.may = false ∧ e = .returned (.tuple #[.slice none 0 0, .int .i64 1])) ∨ (l.all Cl.may = true ∧ ∃ (g : Nat) (f : Nat → Int), e = .returned (.tuple #[.slice (some ⟨g, 0, none⟩) l.length l.length, .int .i64 0]) ∧
    w.heap.size ≤ g ∧ w'.row g = some (.cells (intsL f l.length).toArray t) ∧ Run (ltC (atC l)) f 0 l.length))
theorem intsL_id (n : Nat) : intsL (fun k => (k : Int)) (n + 1) = intsL (fun k => (k : Int)) n ++ [.int .i64 (n : Int)] := by
  simp [intsL, List.range_succ]
theorem owns_full {w : World} {B : Nat} {e : TypeId} {g N : Nat} {xs : List Value} (h : w.ownsRow B e 1 (.slice (some ⟨g, 0, none⟩) N N) N xs) : w.row g = some (.cells xs.toArray e) := by
  obtain ⟨hl, ⟨h1, _⟩ | ⟨g', cap, cur, h1, hb, hh, hnc, hc, hsz, htake⟩⟩ := h
  · cases h1
  · injection h1 with e1 e2 e3
    injection e1 with e1
    injection e1 with e1
    subst e1; subst e3
    have : cur.toList = xs := by rw [← htake, List.take_of_length_le (by simp; omega)]
    rw [← this]
    simpa [World.row] using hh
end Go
namespace Go.Proofs.Ytajkfmnnokkcaaa
open Go.RowKit

set_option maxRecDepth 100000 in
set_option maxHeartbeats 2000000 in
theorem sortStable_any {c : Int → Int → Int} {lt : Int → Int → Prop} {PW : World → Prop} (L : Option Addr) (g N : Nat) (C : CmpFn Try.prog 20 (.pointer L) g N c lt PW) (w : World) (hP : PW w)
    (hr : w.row g = some (.cells (intsL (fun k => (k : Int)) N).toArray 3)) (hN : N ≤ 1048576) :
    Calls Try.prog 19 #[.slice (some ⟨g, 0, none⟩) N N, .func (.func 20) #[] #[.pointer L]] w fun e w' => e = .returned (.tuple #[]) ∧
      ∃ f', w'.row g = some (.cells (intsL f' N).toArray 3) ∧ On g w w' ∧ Run lt f' 0 N := by
  have s1 := stable_any L g N N C (fun k => (k : Int)) w hP hr hN (Nat.le_refl _) (by omega) fun _ _ => rfl
  have S1 := Lib.hid s1
  clear s1
  go_enter Try.func19, Try.ntmps19
  go_wp2_with (go_at_call 26; (with_reducible refine (S1.out).mono ?_); rintro e w1 ⟨rfl, F1, hx1, HO1, hR1⟩)
  go_end0
  exact ⟨rfl, F1, hx1, HO1, hR1⟩

theorem Sinfo3 : (Try.prog.info? 3).map (fun i => (i.zero, i.size, i.bytes)) = some (some (.int .i64 0), 1, 8) := by kernel_rfl

set_option maxRecDepth 100000 in
set_option maxHeartbeats 4000000 in
theorem ordSort_any (v : Value) (l : List Cl) (w : World) (h : SlAt w (fun _ => True) 8 ClR v l) (hN : l.length ≤ 1048576) :
    Calls Try.prog 9 #[v] w (Sorted w l 3) := by
  have h0 := h
  obtain ⟨a, cap, rfl, h1, h2, h3⟩ := h
  have H0 := Lib.hid h0
  have H3 := Lib.hid h3
  clear h0 h3
  have key : ∀ N, N = l.length → N ≤ 1048576 → Calls Try.prog 9 #[.slice a N cap] w (Sorted w l 3) := fun N eN hN => by
    have EN := Lib.hid eN
    clear eN h1
    obtain ⟨i, hi, hz0, hz1, hz2⟩ := info_parts Sinfo3
    go_enter Try.func9, Try.ntmps9
    go_wp2_with (first | (at_make; refine wpList_make_own _ rfl _ _ 23 rfl w.heap.size 3 i _ 1 Try.underlying23 hi hz0 hz1 _ _ _ N rfl rfl rfl (by rw [hz2]; omega) (by simp only [maxLen]; omega) (by simp) ?_; intro w1 hown hgrow; have hg1 : w.grows w1 := World.grows.grown (w := w) (by repeat (with_reducible first | assumption | exact grA | apply grB | apply grC | apply grD | refine grE ?_ (by omega) _ | refine grF ?_ (by omega) _ _)) hgrow (fun _ h => by cases h); have hx1 : w1.row w.heap.size = some (.cells #[.slice a N cap] 22) := World.row_grown hgrow (by simp [go_sem]) (by simp); have zx1 := row_sz' hx1; have hO1 := Lib.hid hown; have eS : (w.alloc (.cells #[.slice a N cap] 22)).heap.size = w.heap.size + 1 := (by simp); rw [eS] at hO1; clear hown hgrow))
    go_loopg [4, 12] N (fun gn v4 v12 wj => ∃ i : Nat, Hid (gn + i = N ∧ i ≤ N ∧ mayTo l i) ∧ v12 = .int .i64 i ∧ v4 = .slice (some ⟨w.heap.size + 1, 0, none⟩) i N ∧ w.grows wj ∧ wj.row w.heap.size = some (.cells #[.slice a N cap] 22) ∧ Hid (wj.ownsRow w.heap.size 3 1 v4 i (intsL (fun k => (k : Int)) i)))
    case atStart => exact ⟨0, Lib.hid ⟨rfl, Nat.zero_le _, fun k x h _ => by omega⟩, by go_num, by go_num, hg1, hx1, hO1⟩
    case round =>
      clear hO1 hx1 hg1 zx1 eS
      obtain ⟨i1, HK, rfl, rfl, hg, hx, HO⟩ := hrel
      obtain ⟨k1, k2, k3⟩ := HK.out
      have zx := row_sz' hx
      by_cases hlt : i1 < N
      · have hNl := EN.out
        rcases H3.out with h0 | ⟨g, off, rfl, _, h4⟩
        · rw [h0] at hNl; simp at hNl; omega
        have hgt := List.getElem?_eq_getElem (by omega : i1 < l.length)
        obtain ⟨cs, _, el, ec, _⟩ := h4 i1 _ hgt
        generalize l[i1] = x at *
        subst ec
        replace el := el.grows hg
        have e1 : segOk (off + i1 * 8) 8 (wr.row g) = true := el.1
        have e2 : segV (off + i1 * 8) 8 (wr.row g) = x.v := el.2
        have zg := lt_sz el.lt
        have n1 : (i1 : Int) < (N : Int) := by omega
        have hM := fun W => ordMay_any x W
        cases hm : x.may with
        | false =>
          rw [hm] at hM
          have HM := Lib.hid hM
          have HF : Hid (l.all Cl.may = false) := Lib.hid (by
            rw [Bool.eq_false_iff]; intro h
            have := mayTo_all.1 h i1 x (by omega) hgt
            rw [hm] at this; cases this)
          clear hM el h4 hgt hNl k3 HK hm
          obtain ⟨p, o, q, a, b1, c, r, d⟩ := x
          go_wp2_with (first | (go_at_call 17; (with_reducible refine (HM.out _).mono ?_); rintro e w1 ⟨rfl, x1, rfl⟩))
          go_ret2
          exact ⟨(by repeat (with_reducible first | assumption | exact grA | apply grB | apply grC | apply grD | refine grE ?_ (by omega) _ | refine grF ?_ (by omega) _ _)), .inl ⟨HF.out, rfl⟩⟩
        | true =>
          rw [hm] at hM
          have HM := Lib.hid hM
          have K3 : Hid (mayTo l (i1 + 1)) := Lib.hid fun k y hk hy => by
            by_cases h : k < i1
            · exact k3 k y h hy
            · obtain rfl : k = i1 := by omega
              rw [hgt] at hy; cases hy; exact hm
          clear hM el h4 hgt hNl k3 HK hm
          obtain ⟨p, o, q, a, b1, c, r, d⟩ := x
          go_wp2_with (first | (go_at_call 17; (with_reducible refine (HM.out _).mono ?_); rintro e w1 ⟨rfl, x1, rfl⟩) | (at_builtin; refine wpList_append_fits _ rfl (.tmp 20) (.tmp 22) 23 rfl w.heap.size 3 i 1 Try.underlying23 hi hz1 (w.heap.size + 1) i1 N (intsL (fun k => (k : Int)) i1) rfl (HO.out.grows (by repeat (with_reducible first | assumption | exact grA | apply grB | apply grC | apply grD | refine grE ?_ (by omega) _ | refine grF ?_ (by omega) _ _))) _ 1 _ [.int .i64 i1] rfl rfl (cells_of_row (e := 3) (fr := (0, 0)) (by simp [go_sem])) (by simp [Value.oneCell']) (by omega) ?_; intro w2 hown hgrow; have hg2 : w.grows w2 := World.grows.grown (w := w) (by repeat (with_reducible first | assumption | exact grA | apply grB | apply grC | apply grD | refine grE ?_ (by omega) _ | refine grF ?_ (by omega) _ _)) hgrow (fun _ h => by cases h; omega); have hx2 : w2.row w.heap.size = some (.cells #[.slice (some ⟨g, off, none⟩) N cap] 22) := World.row_grown hgrow (by simp [go_sem, hx, zx]) (by simp); have zx2 := row_sz' hx2; rw [← intsL_id] at hown; have hO2 := Lib.hid hown; clear hown hgrow))
          go_roundg (N - (i1 + 1))
          case rel => exact ⟨i1 + 1, Lib.hid ⟨by omega, by omega, K3.out⟩, by go_num, by go_num, hg2, hx2, hO2⟩
          case measure => omega
      · obtain rfl : i1 = N := by omega
        have hPW : Claims w.heap.size (w.heap.size + 1) 22 (.slice a l.length cap) l wr := ⟨by omega, by rw [← EN.out]; exact hx, H0.out.keep (fun k _ hk => ⟨hg.row_eq hk, by omega⟩) fun _ _ _ h => h⟩
        have s1 := sortStable_any _ (w.heap.size + 1) i1 (sortFn_cmp w.heap.size (w.heap.size + 1) i1 (.slice a l.length cap) l EN.out.symm) wr hPW (owns_full HO.out) hN
        have S1 := Lib.hid s1
        have HT : Hid (l.all Cl.may = true) := Lib.hid (mayTo_all.2 (by rw [← EN.out]; exact k3))
        have n1 : ¬ (i1 : Int) < (i1 : Int) := by omega
        clear s1 hPW k3 HK
        go_wp2_with (go_at_call 19; (with_reducible refine (S1.out).mono ?_); rintro e w1 ⟨rfl, F1, hx1, HO1, hR1⟩)
        go_ret2
        rw [EN.out] at hx1 hR1 ⊢
        exact ⟨HO1.gr w (by omega) hg, .inr ⟨HT.out, _, F1, rfl, by omega, hx1, hR1⟩⟩
  exact key _ rfl hN
end Go.Proofs.Ytajkfmnnokkcaaa
