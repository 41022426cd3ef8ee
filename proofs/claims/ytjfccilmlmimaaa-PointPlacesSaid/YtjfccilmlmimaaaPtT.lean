/- WALKS over point: True. No condition but that an index stands in memory. -/
import Derived.Test.YtjfccilmlmimaaaPtL
set_option linter.unusedSimpArgs false
set_option linter.unusedVariables false
namespace Go
open Go.RowKit
/-- the numbers of the lines of m that f takes -/
def idsOf (f : Ln → Bool) (m : List Ln) : List Int := (m.filter f).map Ln.i
theorem idsOf_succ {f : Ln → Bool} {m : List Ln} {k : Nat} {x : Ln} (h : m[k]? = some x) : idsOf f (m.take (k + 1)) = idsOf f (m.take k) ++ if f x then [x.i] else [] := by
  unfold idsOf
  rw [List.take_add_one, h, List.filter_append, List.map_append]
  congr 1
  cases hf : f x <;> simp [hf]
theorem idsOf_mem {f : Ln → Bool} {m : List Ln} {z : Int} : z ∈ idsOf f m ↔ ∃ x ∈ m, f x = true ∧ x.i = z := by
  unfold idsOf
  rw [List.mem_map]
  simp only [List.mem_filter]
  constructor
  · rintro ⟨x, ⟨a, b⟩, c⟩; exact ⟨x, a, b, c⟩
  · rintro ⟨x, a, b, c⟩; exact ⟨x, ⟨a, b⟩, c⟩
theorem idsOf_len (f : Ln → Bool) (m : List Ln) (k : Nat) : (idsOf f (m.take k)).length ≤ k := by
  unfold idsOf
  rw [List.length_map]
  exact Nat.le_trans (List.length_filter_le _ _) (by simp; omega)
/-- true at a value -/
def trueAt (a b : Int) (x : Ln) : Bool := decide (truth x.o a b x.p x.q = 2)
end Go
namespace Go.Proofs.Ytjfccilmlmimaaa
open Go.RowKit Go.Maps

set_option maxRecDepth 100000 in
set_option maxHeartbeats 8000000 in
theorem ptTrue_any (ix B : Nat) (n : Int) (l : List Ln) (nm : ByteArray) (a b : Int) (w : World) (hI : Idx w ix n B l) (hw : AllWf l) (hs : nm.size ≤ maxLen) (wa : I64 a) (wb : I64 b) (hN : l.length ≤ 1048576) :
    Calls Try.prog 20 #[.pointer (some ⟨ix, 0, none⟩), .string nm, .agg #[.int .i64 a, .int .i64 b]] w fun e w' => ∃ v' r p, e = .returned v' ∧ w.grows w' ∧ IntsFrom w.heap.size w' v' r ∧ Srt (ofN l l.length nm.data.toList) p ∧ Rise r (idsOf (trueAt a b) p) := by
  obtain ⟨mb, v, p, hx, hS, hpw, hp, hl⟩ := hI.look hw nm hs
  have hpN : p.length ≤ 1048576 := by rw [hS.len]; unfold ofN; exact Nat.le_trans (List.length_filter_le _ _) (by simp; omega)
  have LK : ∀ W, w.grows W → Calls Try.prog 37 #[.pointer (some ⟨ix, 0, none⟩), .string nm] W fun e w' => e = .returned v ∧ w' = W := fun W hW =>
    ptLines_any ix mb n v nm W ((hW.row_eq (row_sz' hx).1).trans hx) (hl W (On.grow (On.refl ix w) hW))
  have LK := Lib.hid LK
  obtain ⟨va, vc, rfl, c1, c2, c3⟩ := hp
  have C3 := Lib.hid c3; have HS := Lib.hid hS; have HPW := Lib.hid hpw
  clear hI hw c3 hS hpw hl hx
  have key : ∀ N, N = p.length → N ≤ vc → N ≤ 1048576 → (∀ W, w.grows W → Calls Try.prog 37 #[.pointer (some ⟨ix, 0, none⟩), .string nm] W fun e w' => e = .returned (.slice va N vc) ∧ w' = W) → Calls Try.prog 20 #[.pointer (some ⟨ix, 0, none⟩), .string nm, .agg #[.int .i64 a, .int .i64 b]] w fun e w' => ∃ v' r p, e = .returned v' ∧ w.grows w' ∧ IntsFrom w.heap.size w' v' r ∧ Srt (ofN l l.length nm.data.toList) p ∧ Rise r (idsOf (trueAt a b) p) := fun N eN h1 h2 hlk => by
    have EN := Lib.hid eN; have LK := Lib.hid hlk
    clear eN hlk
    go_enter Try.func20, Try.ntmps20
    go_wp2_with (first | (go_at_call 37; (with_reducible refine (LK.out _ (by repeat (with_reducible first | assumption | exact grA | apply grB | apply grC | apply grD | refine grE ?_ (by omega) _ | refine grF ?_ (by omega) _ _))).mono ?_); rintro e w1 ⟨rfl, rfl⟩))
    go_loopg [7, 14] N (fun gn v7 v14 wj => ∃ i : Nat, Hid (gn + i = N ∧ i ≤ N) ∧ v14 = .int .i64 i ∧ w.grows wj ∧ wj.row w.heap.size = some (.cells #[.int .i64 a, .int .i64 b] 24) ∧ w.heap.size + 1 ≤ wj.heap.size ∧ Hid (wj.ownsRow (w.heap.size + 1) 3 1 v7 (idsOf (trueAt a b) (p.take i)).length ((idsOf (trueAt a b) (p.take i)).map (Value.int .i64))))
    case atStart => exact ⟨0, Lib.hid ⟨rfl, Nat.zero_le _⟩, by go_num, (by repeat (with_reducible first | assumption | exact grA | apply grB | apply grC | apply grD | refine grE ?_ (by omega) _ | refine grF ?_ (by omega) _ _)), by simp [go_sem], by simp, Lib.hid (World.ownsRow_nil _ _ _ _)⟩
    case round =>
      obtain ⟨i, HK, rfl, hg, hbx, hz, HO⟩ := hrel
      obtain ⟨j1, j2⟩ := HK.out
      have zbx := row_sz' hbx
      by_cases hlt : i < N
      · have hNl := EN.out
        rcases C3.out with h0 | ⟨g, off, rfl, _, h4⟩
        · rw [h0] at hNl; simp at hNl; omega
        have hgt := List.getElem?_eq_getElem (by omega : i < p.length)
        obtain ⟨cs, _, el, ec, wx⟩ := h4 i _ hgt
        generalize p[i] = x at *
        subst ec
        replace el := el.grows hg
        have e1 : segOk (off + i * 5) 5 (wr.row g) = true := el.1
        have e2 : segV (off + i * 5) 5 (wr.row g) = x.v := el.2
        have zg := lt_sz el.lt
        have n1 : (i : Int) < (N : Int) := by omega
        have hc := fun W => condCmp_any x.o a b x.p x.q W wx.2.1 wa wb wx.2.2.1 wx.2.2.2.1
        have hsc := idsOf_succ (f := trueAt a b) hgt
        have hln := idsOf_len (trueAt a b) p i
        unfold trueAt at hsc
        change idsOf (trueAt a b) (p.take (i + 1)) = idsOf (trueAt a b) (p.take i) ++ _ at hsc
        obtain ⟨nx, o, q, r, id⟩ := x
        simp only at hc hsc
        have HC := Lib.hid hc; have HSC := Lib.hid hsc
        clear hc hsc hgt h4 el wx hNl
        generalize truth o a b q r = t at *
        generalize hA : idsOf (trueAt a b) (p.take i) = A at *
        have HA0 := Lib.hid hA
        clear hA
        by_cases ht : t = 2
        · subst ht
          go_wp2_with (first | (go_at_call 38; (with_reducible refine (HC.out _).mono ?_); rintro e w1 ⟨rfl, x1, rfl⟩) | (at_builtin; refine wpList_app w (w.heap.size + 1) rfl (.tmp 25) (.tmp 28) _ rfl 3 (.int .i64 0) 1 8 Try.underlying26 (by kernel_rfl) rfl (by omega) (by omega) _ A.length _ rfl (HO.out.grows (by repeat (with_reducible first | assumption | exact grA | apply grB | apply grC | apply grD | refine grE ?_ (by omega) _ | refine grF ?_ (by omega) _ _))) _ 1 _ [.int .i64 id] rfl rfl (cells_of_row (e := 3) (fr := (0, 0)) (by simp [go_sem])) (by simp [Value.oneCell']) (by omega) (by repeat (with_reducible first | assumption | exact grA | apply grB | apply grC | apply grD | refine grE ?_ (by omega) _ | refine grF ?_ (by omega) _ _)) (by omega) (by simp; omega) ?_; intro v' w' hg' HO' HR' HG' HA'))
          have hbx' : w'.row w.heap.size = some (.cells #[.int .i64 a, .int .i64 b] 24) := (HR'.out _ (by omega)).trans (by simp [go_sem, hbx, zbx])
          have hz' := (row_sz' hbx').1
          go_roundg (N - (i + 1))
          case rel => exact ⟨i + 1, Lib.hid ⟨by omega, by omega⟩, by go_num, hg', hbx', hz', by rw [HSC.out]; simpa using HO'⟩
          case measure => omega
        · go_wp2_with (first | (go_at_call 38; (with_reducible refine (HC.out _).mono ?_); rintro e w1 ⟨rfl, x1, rfl⟩))
          go_roundg (N - (i + 1))
          case rel => exact ⟨i + 1, Lib.hid ⟨by omega, by omega⟩, by go_num, (by repeat (with_reducible first | assumption | exact grA | apply grB | apply grC | apply grD | refine grE ?_ (by omega) _ | refine grF ?_ (by omega) _ _)), by simp [go_sem, hbx, zbx], by simp; omega, Lib.hid (by rw [HSC.out]; simpa [ht] using HO.out.grows (by repeat (with_reducible first | assumption | exact grA | apply grB | apply grC | apply grD | refine grE ?_ (by omega) _ | refine grF ?_ (by omega) _ _)))⟩
          case measure => omega
      · have n1 : ¬ (i : Int) < (N : Int) := by omega
        obtain rfl : i = N := by omega
        have hall : p.take i = p := List.take_of_length_le (by rw [← EN.out]; exact Nat.le_refl _)
        rw [hall] at HO
        have hln : (idsOf (trueAt a b) p).length ≤ 1048576 := by
          have := idsOf_len (trueAt a b) p i
          rw [hall] at this; omega
        generalize hA : idsOf (trueAt a b) p = A at *
        have HA0 := Lib.hid hA
        have hon := fun W hW => once_any _ A W (w.heap.size + 1) (World.ownsRow.grows HO.out hW) hln (Nat.le_trans hz hW.below.size)
        have HON := Lib.hid hon
        clear hA hon
        go_wp2_with (first | (go_at_call 31; (with_reducible refine (HON.out _ (by repeat (with_reducible first | assumption | exact grA | apply grB | apply grC | apply grD | refine grE ?_ (by omega) _ | refine grF ?_ (by omega) _ _))).mono ?_); rintro e w2 ⟨v2, l2, rfl, hb2, hI2, hR2⟩))
        go_ret
        exact ⟨_, _, p, rfl, World.grows.of_below (hg.below.trans (hb2.mono (by omega))), hI2.mono (by omega), HS.out, by rw [HA0.out]; exact hR2⟩
  exact key _ rfl c1 hpN LK.out
end Go.Proofs.Ytjfccilmlmimaaa
