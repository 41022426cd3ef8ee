/- LAWS: no attribute's value is longer than 256, and the pieces of one, each once. No condition. -/
import Derived.Test.YtdbddnkjiehaiaaDomLc
set_option linter.unusedSimpArgs false
set_option linter.unusedVariables false
namespace Go
open Go.RowKit
def Dm.Short (M : Dm) : Prop := ∀ e ∈ M.els, ∀ x ∈ e.at', x.2.size ≤ 256
theorem short_upd {M : Dm} (h : M.Short) (id : Int) (f : El → El) (hf : ∀ e ∈ M.els, ∀ x ∈ (f e).at', x.2.size ≤ 256) : Dm.Short ⟨M.root, M.next, updE M.els id f⟩ := fun x hx => by
  obtain ⟨y, hy, rfl⟩ := updE_mem.1 hx
  split
  · exact hf y hy
  · exact h y hy
theorem Dm.Short.step {M : Dm} (h : M.Short) (o : Opn) : (M.step o).2.2.Short := by
  unfold Dm.step
  split
  · unfold Dm.ins
    cases hat : M.at o.id with
    | none => exact h
    | some e =>
      simp only
      split
      · exact h
      split
      · exact h
      split
      · exact h
      split
      · exact h
      · intro x hx
        rcases List.mem_append.1 hx with hx | hx
        · exact short_upd h o.id (insE o.pl.toNat M.next) (fun y hy => h y hy) x hx
        · simp only [List.mem_singleton] at hx
          subst hx; intro x hx; cases hx
  split
  · unfold Dm.rem
    cases hat : M.at o.id with
    | none => exact h
    | some e =>
      simp only
      split
      · exact h
      · exact fun x hx => short_upd h e.p (fun f => { f with ks := f.ks.filter (fun k => decide (k ≠ o.id)) }) (fun y hy => h y hy) x (List.mem_filter.1 hx).1
  split
  · unfold Dm.set
    cases hat : M.at o.id with
    | none => exact h
    | some e =>
      simp only
      split
      · exact h
      split
      · exact h
      split
      · exact h
      · rename_i q _
        refine short_upd h _ _ fun y hy x hx => ?_
        rcases putA_mem hx with rfl | hx
        · exact Nat.le_of_not_lt q
        · exact h y hy x hx
  split
  · unfold Dm.unset
    cases hat : M.at o.id with
    | none => exact h
    | some e =>
      simp only
      split
      · exact h
      · exact short_upd h _ _ fun y hy x hx => h y hy x (List.mem_filter.1 hx).1
  split
  · unfold Dm.box
    cases hat : M.at o.id with
    | none => exact h
    | some e =>
      simp only
      split
      · exact h
      · exact short_upd h _ _ fun y hy x hx => h y hy x hx
  · exact h
theorem short_new (tag : ByteArray) : (Go.Proofs.Ytdbddnkjiehaiaa.newM tag).Short := fun x hx => by
  simp [Go.Proofs.Ytdbddnkjiehaiaa.newM] at hx
  subst hx
  intro x hx; cases hx
theorem Dm.Short.attr {M : Dm} (h : M.Short) (id : Int) (n : ByteArray) : (M.attr id n).1.size ≤ 256 := by
  unfold Dm.attr
  cases hat : M.at id with
  | none => exact Nat.zero_le _
  | some e =>
    simp only
    cases hf : e.at'.find? (fun x => decide (x.1 = n)) with
    | none => exact Nat.zero_le _
    | some x => exact h e (findE_some hat).1 x (List.mem_of_find?_eq_some hf)
/-- each once, in the order of the first -/
def once1 (acc : List ByteArray) (p : ByteArray) : List ByteArray := if (acc.any fun q => p.toList == q.toList) = true then acc else acc ++ [p]
def onceL (l : List ByteArray) : List ByteArray := l.foldl once1 []
theorem once_len : ∀ (l acc : List ByteArray), (l.foldl once1 acc).length ≤ acc.length + l.length
  | [], acc => by simp
  | p :: t, acc => by
    rw [List.foldl_cons]
    have := once_len t (once1 acc p)
    have h2 : (once1 acc p).length ≤ acc.length + 1 := by unfold once1; split <;> simp
    simp only [List.length_cons]
    omega
theorem pcs_len (s : ByteArray) : ∀ (n i : Nat) (f : Option Nat) (acc : List ByteArray), (pcs s n i f acc).length ≤ acc.length + n
  | 0, i, f, acc => by unfold pcs; omega
  | n + 1, i, f, acc => by
    unfold pcs
    split
    · cases f with
      | some a =>
        have := pcs_len s n (i + 1) none (acc ++ [s.extract a i])
        simp only [List.length_append, List.length_cons, List.length_nil] at this
        show (pcs s n (i + 1) none (acc ++ [s.extract a i])).length ≤ _
        omega
      | none =>
        have := pcs_len s n (i + 1) none acc
        show (pcs s n (i + 1) none acc).length ≤ _
        omega
    · cases f with
      | some a =>
        have := pcs_len s n (i + 1) (some a) acc
        show (pcs s n (i + 1) (some a) acc).length ≤ _
        omega
      | none =>
        have := pcs_len s n (i + 1) (some i) acc
        show (pcs s n (i + 1) (some i) acc).length ≤ _
        omega
theorem pieces_len (s : ByteArray) : (pieces s).length ≤ s.size + 1 := by
  have := pcs_len s (s.size + 1) 0 none []
  simpa [pieces] using this
end Go
namespace Go.Proofs.Ytdbddnkjiehaiaa
open Go.Maps Go.RowKit Go.Sort
theorem strs_own {w : World} {B : Nat} {e : TypeId} {v : Value} {l : List ByteArray} (h : w.ownsRow B e 1 v l.length (l.map Value.string)) : ∃ a c, v = .slice a l.length c ∧ (l = [] ∨ ∃ g, a = some ⟨g, 0, none⟩ ∧ g < w.heap.size ∧ ∀ (i : Nat) (x : ByteArray), l[i]? = some x → cellR i (w.row g) = some (.string x)) := by
  obtain ⟨a, c, rfl⟩ := own_slice h
  refine ⟨a, c, rfl, ?_⟩
  rcases h.2 with ⟨h0, h1⟩ | ⟨g, _, _, h0, _⟩
  · exact .inl (List.length_eq_zero_iff.1 h1)
  · injection h0 with h0
    subst h0
    refine .inr ⟨g, rfl, (h.lt g rfl).2, fun i x hx => ?_⟩
    have := h.cells (g := g) rfl i (.string x) (by rw [List.getElem?_map, hx]; rfl)
    rwa [Addr.add_lit, World.cell?_row, Nat.zero_add] at this
set_option maxRecDepth 100000 in
set_option maxHeartbeats 8000000 in
theorem refClasses_any (w : World) (t : Nat) (v : Value) (M : Dm) (h : RefR w t v M) (hG : M.Good) (hw : ∀ e ∈ M.els, e.Wf) (hS : M.Short) (id : Int) : Calls Try.prog 20 #[.pointer (some ⟨t, 0, none⟩), .int .i64 id] w fun r w' => ∃ v, r = .returned v ∧ w.grows w' ∧ w'.ownsRow w.heap.size 9 1 v (onceL (pieces (M.attr id ⟨#[99, 108, 97, 115, 115]⟩).1)).length ((onceL (pieces (M.attr id ⟨#[99, 108, 97, 115, 115]⟩).1)).map Value.string) := by
  have hat := refAttr_any w t v M h hG hw id ⟨#[99, 108, 97, 115, 115]⟩
  have hsz := hS.attr id ⟨#[99, 108, 97, 115, 115]⟩
  generalize M.attr id ⟨#[99, 108, 97, 115, 115]⟩ = av at *
  obtain ⟨s, b⟩ := av
  simp only at *
  have HAT := Lib.hid hat
  have HPC := Lib.hid (fun W => refPieces_any W s (by omega))
  have hpl := pieces_len s
  clear hat h hG hw hS
  generalize pieces s = ps at *
  go_enter Try.func20, Try.ntmps20
  go_upto_region 4 with (first | (go_at_call 54; go_loud ((with_reducible refine (HPC.out _).mono ?_); rintro r w2 ⟨v2, rfl, hg2, hv2⟩; obtain ⟨a2, c2, rfl⟩ := own_slice hv2)) | (go_at_call 15; go_loud ((with_reducible refine (HAT.out).mono ?_); rintro r w1 ⟨rfl, hg1⟩)))
  have hg12 := hg1.trans hg2
  obtain ⟨a2', c2', e2, hps⟩ := strs_own hv2
  injection e2 with e2 _ e3
  subst e2; subst e3
  have HPS := Lib.hid hps
  clear hps hv2
  have s12 := hg12.below.size
  go_loopg [7, 22] ps.length (fun gn v7 v22 wj => ∃ (i : Nat) (acc : List ByteArray), Hid (gn + i = ps.length ∧ i ≤ ps.length) ∧ Hid (acc = (ps.take i).foldl once1 []) ∧ v22 = .int .i64 i ∧ w2.grows wj ∧ Hid (wj.ownsRow w2.heap.size 9 1 v7 acc.length (acc.map Value.string)))
  case atStart => exact ⟨0, [], Lib.hid ⟨by simp, Nat.zero_le _⟩, Lib.hid rfl, by go_num, World.grows.refl, Lib.hid (World.ownsRow_nil _ _ _ _)⟩
  case round =>
    obtain ⟨i, acc, HQ, HL, rfl, hgj, HV⟩ := hrel
    obtain ⟨j1, j2⟩ := HQ.out
    have hal : acc.length ≤ 257 := by
      have h1 := once_len (ps.take i) []
      rw [← HL.out] at h1
      simp only [List.length_nil, List.length_take] at h1
      omega
    by_cases hlt : i < ps.length
    · have i1 : (i : Int) < (ps.length : Int) := by omega
      rcases HPS.out with h0 | ⟨g2, rfl, z2, e2⟩
      · rw [h0] at hlt; simp at hlt
      have hgt := List.getElem?_eq_getElem hlt
      have c2 := e2 i _ hgt
      have HTK := Lib.hid (show once1 acc ps[i] = (ps.take (i + 1)).foldl once1 [] by
        rw [List.take_add_one, hgt, List.foldl_append, ← HL.out]; rfl)
      generalize ps[i] = p at *
      rw [← hgj.row_eq z2] at c2
      have z2' := lt_sz (Nat.lt_of_lt_of_le z2 hgj.below.size)
      obtain ⟨a7, c7, rfl, hac⟩ := strs_own HV.out
      have HAC := Lib.hid hac
      have hvo := HV.out
      have s03 := hgj.below.size
      clear HV hac e2 hgt HL
      go_upto_region 8 with fail
      clear c2
      go_loopg [10, 28] acc.length (fun gn v10 v28 wk => ∃ j : Nat, Hid (gn + j = acc.length ∧ j ≤ acc.length) ∧ v28 = .int .i64 j ∧ v10 = .bool ((acc.take j).any fun q => p.toList == q.toList) ∧ wr.grows wk)
      case atStart => exact ⟨0, Lib.hid ⟨by simp, Nat.zero_le _⟩, by go_num, by simp, World.grows.refl⟩
      case round =>
        obtain ⟨j, HQ2, rfl, rfl, hgk⟩ := hrel
        obtain ⟨m1, m2⟩ := HQ2.out
        by_cases hj : j < acc.length
        · have jI : (j : Int) < (acc.length : Int) := by omega
          rcases HAC.out with h0 | ⟨g7, rfl, z7, e7⟩
          · rw [h0] at hj; simp at hj
          have hgt := List.getElem?_eq_getElem hj
          have c7' := e7 j _ hgt
          rw [← hgk.row_eq z7] at c7'
          have z7' := lt_sz (Nat.lt_of_lt_of_le z7 hgk.below.size)
          have HT := Lib.hid (show ((acc.take (j + 1)).any fun q => p.toList == q.toList) = (((acc.take j).any fun q => p.toList == q.toList) || (p.toList == (acc[j]).toList)) by
            rw [List.take_add_one, hgt]; simp only [Option.toList_some, List.any_append, List.any_cons, List.any_nil, Bool.or_false])
          generalize acc[j] = q at *
          generalize ((acc.take j).any fun q => p.toList == q.toList) = b at *
          clear e7 hgt
          cases hb : (p.toList == q.toList) with
          | true =>
            cases b
            all_goals
              (go_wp2_with fail
               go_roundg (acc.length - (j + 1))
               case measure => omega
               case rel => exact ⟨j + 1, Lib.hid ⟨by omega, by omega⟩, by go_num, by rw [HT.out, hb]; rfl, (by repeat (with_reducible first | assumption | exact grA | apply grB | apply grC | apply grD | refine grE ?_ (by omega) _ | refine grF ?_ (by omega) _ _))⟩)
          | false =>
            cases b
            all_goals
              (go_wp2_with fail
               go_roundg (acc.length - (j + 1))
               case measure => omega
               case rel => exact ⟨j + 1, Lib.hid ⟨by omega, by omega⟩, by go_num, by rw [HT.out, hb]; rfl, (by repeat (with_reducible first | assumption | exact grA | apply grB | apply grC | apply grD | refine grE ?_ (by omega) _ | refine grF ?_ (by omega) _ _))⟩)
        · have jI : ¬ (j : Int) < (acc.length : Int) := by omega
          obtain rfl : j = acc.length := by omega
          have hgk2 := hgj.trans hgk
          have s04 := hgk2.below.size
          have hvK := hvo.grows hgk
          unfold once1 at HTK
          cases hb : (acc.any fun q => p.toList == q.toList) with
          | true =>
            rw [hb, if_pos rfl] at HTK
            have hb2 : ((acc.take acc.length).any fun q => p.toList == q.toList) = true := by rw [List.take_length]; exact hb
            generalize ((acc.take acc.length).any fun q => p.toList == q.toList) = b at *
            subst hb2
            clear hb
            go_wp2_with fail
            go_roundg (ps.length - (i + 1))
            case measure => omega
            case rel => exact ⟨i + 1, acc, Lib.hid ⟨by omega, by omega⟩, HTK, by go_num, (by repeat (with_reducible first | assumption | exact grA | apply grB | apply grC | apply grD | refine grE ?_ (by omega) _ | refine grF ?_ (by omega) _ _)), Lib.hid (hvK.grows (by repeat (with_reducible first | assumption | exact grA | apply grB | apply grC | apply grD | refine grE ?_ (by omega) _ | refine grF ?_ (by omega) _ _)))⟩
          | false =>
            rw [hb, if_neg (by decide)] at HTK
            have hb2 : ((acc.take acc.length).any fun q => p.toList == q.toList) = false := by rw [List.take_length]; exact hb
            generalize ((acc.take acc.length).any fun q => p.toList == q.toList) = b at *
            subst hb2
            clear hb
            go_wp2_with (at_builtin; refine wpList_app w2 (w2.heap.size) rfl (.tmp 41) (.tmp 43) _ rfl 9 (.string ByteArray.empty) 1 16 Try.underlying54 (by kernel_rfl) rfl (by omega) (by omega) _ acc.length _ rfl (hvK.grows (by repeat (with_reducible first | assumption | exact grA | apply grB | apply grC | apply grD | refine grE ?_ (by omega) _ | refine grF ?_ (by omega) _ _))) _ 1 _ [.string p] rfl rfl (cells_of_row (e := 9) (fr := (0, 0)) (by simp [go_sem])) (by simp [Value.oneCell']) (by omega) (by repeat (with_reducible first | assumption | exact grA | apply grB | apply grC | apply grD | refine grE ?_ (by omega) _ | refine grF ?_ (by omega) _ _)) (by omega) (by simp <;> omega) ?_; intro v' w' hg' HO' HR' HG' HA')
            have HN := Lib.hid HO'.out
            rw [show acc.map Value.string ++ [.string p] = (acc ++ [p]).map Value.string by simp, show acc.length + 1 = (acc ++ [p]).length by simp] at HN
            clear HO' HR' HG' HA'
            go_roundg (ps.length - (i + 1))
            case measure => omega
            case rel => exact ⟨i + 1, acc ++ [p], Lib.hid ⟨by omega, by omega⟩, HTK, by go_num, hg', HN⟩
    · have i1 : ¬ (i : Int) < (ps.length : Int) := by omega
      obtain rfl : i = ps.length := by omega
      have HLE := Lib.hid (show acc = onceL ps by rw [HL.out, List.take_length]; rfl)
      clear HL
      go_wp2_with fail
      go_ret
      rw [← HLE.out]
      exact ⟨_, rfl, hg12.trans hgj, World.ownsRow.mono_base s12 HV.out⟩
end Go.Proofs.Ytdbddnkjiehaiaa
