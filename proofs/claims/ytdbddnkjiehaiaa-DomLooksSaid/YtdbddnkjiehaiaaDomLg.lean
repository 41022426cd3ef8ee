/- WALK over dom: Classes. No condition but that a tree stands in memory, no value longer than 256. -/
import Derived.Test.YtdbddnkjiehaiaaDomLf
set_option linter.unusedSimpArgs false
set_option linter.unusedVariables false
namespace Go.Proofs.Ytdbddnkjiehaiaa
open Go.Maps Go.RowKit Go.Sort
theorem bytes_eq {p q : ByteArray} : (p.toList == q.toList) = true ↔ p = q := by
  rw [beq_iff_eq]
  refine ⟨fun h => ?_, fun h => by rw [h]⟩
  obtain ⟨a⟩ := p
  obtain ⟨b⟩ := q
  have h' : a.toList = b.toList := by simpa [ByteArray.toList_eq] using h
  rw [Array.toList_inj.1 h']
theorem contains_any (l : List ByteArray) (p : ByteArray) : Lib.containsS l p = l.any fun q => p.toList == q.toList := by
  rw [Bool.eq_iff_iff, Lib.containsS_iff, List.any_eq_true]
  exact ⟨fun h => ⟨p, h, bytes_eq.2 rfl⟩, fun ⟨q, h1, h2⟩ => by rw [bytes_eq.1 h2]; exact h1⟩
theorem contains_call {w : World} {B : Nat} {e : TypeId} {a : Option Addr} {c : Nat} {l : List ByteArray} (h : w.ownsRow B e 1 (.slice a l.length c) l.length (l.map Value.string)) (hl : l.length ≤ 100000) (p : ByteArray) : Calls Try.prog 53 #[.slice a l.length c, .string p] w fun e w' => e = .returned (.bool (l.any fun q => p.toList == q.toList)) ∧ w' = w := by
  obtain ⟨a', c', e1, h2⟩ := strs_own h
  injection e1 with e1 _ e3
  subst e1; subst e3
  rcases h2 with h2 | ⟨g, rfl, _, h2⟩
  · subst h2
    exact Try.slices_Contains_string_empty a c p w
  · have hh := Try.slices_Contains_string g 0 l.length c l p w (Nat.le_refl _) (by omega) (fun j hj => by
      have := h2 j l[j] (List.getElem?_eq_getElem hj)
      rw [World.cell?_row, Nat.zero_add, this, List.getD_eq_getElem?_getD, List.getElem?_eq_getElem hj]; rfl)
    rw [List.take_length, contains_any] at hh
    exact hh
set_option maxRecDepth 100000 in
set_option maxHeartbeats 8000000 in
theorem domClasses_any (w : World) (L : Ly) (M : Dm) (h : TreeAt w L M) (hu : M.Ups) (hS : M.Short) (id : Int) (hi : I64 id) : Calls Try.prog 19 #[.pointer (some ⟨L.t, 0, none⟩), .int .i64 id] w fun r w' => ∃ v, r = .returned v ∧ w.grows w' ∧ w'.ownsRow w.heap.size 9 1 v (onceL (pieces (M.attr id ⟨#[99, 108, 97, 115, 115]⟩).1)).length ((onceL (pieces (M.attr id ⟨#[99, 108, 97, 115, 115]⟩).1)).map Value.string) := by
  have hat := domAttr_any w L M h hu id ⟨#[99, 108, 97, 115, 115]⟩ hi
  have hsz := hS.attr id ⟨#[99, 108, 97, 115, 115]⟩
  generalize M.attr id ⟨#[99, 108, 97, 115, 115]⟩ = av at *
  obtain ⟨s, b⟩ := av
  simp only at *
  have HAT := Lib.hid hat
  have HPC := Lib.hid (fun W => domFields_any s W hsz)
  have hpl := pieces_len s
  clear hat h hu hS
  generalize pieces s = ps at *
  go_enter Try.func19, Try.ntmps19
  go_upto_region 4 with (first | (go_at_call 51; go_loud ((with_reducible refine (HPC.out _).mono ?_); rintro r w2 ⟨v2, rfl, hg2, hv2⟩; obtain ⟨a2, c2, rfl⟩ := own_slice hv2)) | (go_at_call 14; go_loud ((with_reducible refine (HAT.out).mono ?_); rintro r w1 ⟨rfl, hg1⟩)))
  have hg12 := hg1.trans hg2
  obtain ⟨a2', c2', e2, hps⟩ := strs_own hv2
  injection e2 with e2 _ e3
  subst e2; subst e3
  have HPS := Lib.hid hps
  clear hps hv2
  have s12 := hg12.below.size
  go_loopg [7, 19] ps.length (fun gn v7 v19 wj => ∃ (i : Nat) (acc : List ByteArray), Hid (gn + i = ps.length ∧ i ≤ ps.length) ∧ Hid (acc = (ps.take i).foldl once1 []) ∧ v19 = .int .i64 i ∧ w2.grows wj ∧ Hid (wj.ownsRow w2.heap.size 9 1 v7 acc.length (acc.map Value.string)))
  case atStart => exact ⟨0, [], Lib.hid ⟨by simp, Nat.zero_le _⟩, Lib.hid rfl, by go_num, World.grows.refl, Lib.hid (World.ownsRow_nil _ _ _ _)⟩
  case round =>
    obtain ⟨i, acc, HQ, HL, rfl, hgj, HV⟩ := hrel
    obtain ⟨j1, j2⟩ := HQ.out
    have hal : acc.length ≤ 257 := by
      have h1 := once_len (ps.take i) []
      rw [← HL.out] at h1
      simp only [List.length_nil, List.length_take] at h1
      omega
    by_cases hlt : i < ps.length
    · have i1 : (i : Int) < (ps.length : Int) := by omega
      rcases HPS.out with h0 | ⟨g2, rfl, z2, e2⟩
      · rw [h0] at hlt; simp at hlt
      have hgt := List.getElem?_eq_getElem hlt
      have c2 := e2 i _ hgt
      have HTK := Lib.hid (show once1 acc ps[i] = (ps.take (i + 1)).foldl once1 [] by
        rw [List.take_add_one, hgt, List.foldl_append, ← HL.out]; rfl)
      generalize ps[i] = p at *
      rw [← hgj.row_eq z2] at c2
      have z2' := lt_sz (Nat.lt_of_lt_of_le z2 hgj.below.size)
      obtain ⟨a7, c7, rfl, hac⟩ := strs_own HV.out
      have HAC := Lib.hid hac
      have hvo := HV.out
      have s03 := hgj.below.size
      clear HV hac e2 hgt HL
      have hcc := contains_call hvo (by omega) p
      have HCC := Lib.hid hcc
      clear hcc
      unfold once1 at HTK
      cases hb : (acc.any fun q => p.toList == q.toList) with
      | true =>
        rw [hb] at HCC
        rw [hb, if_pos rfl] at HTK
        clear hb
        have HVO := Lib.hid hvo
        go_wp2_with (go_at_call 53; go_loud ((with_reducible refine HCC.out.mono ?_); rintro r w5 ⟨rfl, rfl⟩))
        go_roundg (ps.length - (i + 1))
        case measure => omega
        case rel => exact ⟨i + 1, acc, Lib.hid ⟨by omega, by omega⟩, HTK, by go_num, (by repeat (with_reducible first | assumption | exact grA | apply grB | apply grC | apply grD | refine grE ?_ (by omega) _ | refine grF ?_ (by omega) _ _)), Lib.hid (HVO.out.grows (by repeat (with_reducible first | assumption | exact grA | apply grB | apply grC | apply grD | refine grE ?_ (by omega) _ | refine grF ?_ (by omega) _ _)))⟩
      | false =>
        rw [hb] at HCC
        rw [hb, if_neg (by decide)] at HTK
        clear hb
        go_wp2_with (first
          | (go_at_call 53; go_loud ((with_reducible refine HCC.out.mono ?_); rintro r w5 ⟨rfl, rfl⟩))
          | (at_builtin; refine wpList_app w2 (w2.heap.size) rfl (.tmp 27) (.tmp 29) _ rfl 9 (.string ByteArray.empty) 1 16 Try.underlying54 (by kernel_rfl) rfl (by omega) (by omega) _ acc.length _ rfl (hvo.grows (by repeat (with_reducible first | assumption | exact grA | apply grB | apply grC | apply grD | refine grE ?_ (by omega) _ | refine grF ?_ (by omega) _ _))) _ 1 _ [.string p] rfl rfl (cells_of_row (e := 9) (fr := (0, 0)) (by simp [go_sem])) (by simp [Value.oneCell']) (by omega) (by repeat (with_reducible first | assumption | exact grA | apply grB | apply grC | apply grD | refine grE ?_ (by omega) _ | refine grF ?_ (by omega) _ _)) (by omega) (by simp <;> omega) ?_; intro v' w' hg' HO' HR' HG' HA'))
        have HN := Lib.hid HO'.out
        rw [show acc.map Value.string ++ [.string p] = (acc ++ [p]).map Value.string by simp, show acc.length + 1 = (acc ++ [p]).length by simp] at HN
        clear HO' HR' HG' HA'
        go_roundg (ps.length - (i + 1))
        case measure => omega
        case rel => exact ⟨i + 1, acc ++ [p], Lib.hid ⟨by omega, by omega⟩, HTK, by go_num, hg', HN⟩
    · have i1 : ¬ (i : Int) < (ps.length : Int) := by omega
      obtain rfl : i = ps.length := by omega
      have HLE := Lib.hid (show acc = onceL ps by rw [HL.out, List.take_length]; rfl)
      clear HL
      go_wp2_with fail
      go_ret
      rw [← HLE.out]
      exact ⟨_, rfl, hg12.trans hgj, World.ownsRow.mono_base s12 HV.out⟩
end Go.Proofs.Ytdbddnkjiehaiaa
