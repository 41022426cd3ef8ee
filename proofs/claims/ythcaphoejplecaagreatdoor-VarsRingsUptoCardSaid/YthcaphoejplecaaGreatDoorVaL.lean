/- WALKS over prop, jalousieref3, jalousieref14: a text made small; a custom property's name. No condition. -/
import Derived.Test.YthcaphoejplecaaGreatDoorVaG
import Derived.Laws.RangeString
import Derived.Laws.RangeAny
import Derived.Lib.ConvBytes
import Derived.Laws.BytesString
set_option linter.unusedSimpArgs false
set_option linter.unusedVariables false
namespace Go
open Go.RowKit
theorem customB_short {s : ByteArray} (h : ¬ 2 < s.size) : customB s = false := by
  obtain ⟨⟨l⟩⟩ := s
  have h' : ¬ 2 < l.length := h
  match l, h' with
  | [], _ => rfl
  | [a], _ => unfold customB; split <;> simp_all
  | [a, b], _ => unfold customB; split <;> simp_all
  | _ :: _ :: _ :: _, h' => exact absurd (by simp) h'
theorem customB_long {s : ByteArray} (h : 2 < s.size) : ∃ (a b : UInt8) (r : List UInt8), s.data.toList = a :: b :: r ∧ customB s = ((a == 45) && (b == 45)) ∧ (∀ h0 : 0 < s.size, s[0]'h0 = a) ∧ (∀ h1 : 1 < s.size, s[1]'h1 = b) ∧ ((s.extract 0 2).toList == [45, 45]) = ((a == 45) && (b == 45)) := by
  obtain ⟨⟨l⟩⟩ := s
  have h' : 2 < l.length := h
  match l, h' with
  | a :: b :: c :: r, _ =>
    refine ⟨a, b, c :: r, rfl, ?_, fun _ => rfl, fun _ => rfl, ?_⟩
    · unfold customB
      simp only
      by_cases ha : a = 45
      · by_cases hb : b = 45
        · subst ha; subst hb; rfl
        · subst ha; simp [hb]
      · simp [ha]
    · have e : ((ByteArray.mk (a :: b :: c :: r).toArray).extract 0 2).toList = [a, b] := by
        rw [ByteArray.toList_eq, ByteArray.data_extract]; simp
      rw [e]
      by_cases ha : a = 45
      · by_cases hb : b = 45
        · subst ha; subst hb; rfl
        · subst ha; simp [hb]
      · simp [ha]
  | [], h' => simp at h'
  | [_], h' => simp at h'
  | [_, _], h' => simp at h'
theorem u8_beq (a : UInt8) (n : Nat) (hn : n < 256) : (((a.toNat : Nat) : Int) == (n : Int)) = (a == UInt8.ofNat n) := by
  by_cases h : a = UInt8.ofNat n
  · subst h; simp [Nat.mod_eq_of_lt hn]
  · have : a.toNat ≠ n := fun e => h (by rw [← e]; simp)
    have h2 : ((a.toNat : Nat) : Int) ≠ (n : Int) := by omega
    rw [beq_eq_false_iff_ne.2 h2, beq_eq_false_iff_ne.2 h]
end Go
namespace Go.Proofs.YthcaphoejplecaaGreatDoor
open Go.RowKit
set_option maxRecDepth 100000 in
theorem fcustom_any (s : ByteArray) (w : World) : Calls Tryz.prog 38 #[.string s] w (Gives w (.bool (customB s))) := by
  by_cases h : 2 < s.size
  · have h1 : (2 : Int) < (s.size : Int) := by omega
    have hz0 : 0 < s.size := by omega
    have hz1 : 1 < s.size := by omega
    have hz2 : (1 : Int) < (s.size : Int) := by omega
    obtain ⟨a, b, r, _, hcu, ha, hb, _⟩ := customB_long h
    replace ha := ha hz0
    replace hb := hb hz1
    have HCU := Lib.hid hcu
    clear hcu
    rw [HCU.out]
    by_cases c0 : a = 45
    · subst c0
      by_cases c1 : b = 45
      · subst c1
        go_enter Tryz.func38, Tryz.ntmps38
        go_wp2_with fail
        go_ret
        exact ⟨rfl, (by repeat (with_reducible first | assumption | exact grA | apply grB | apply grC | apply grD | refine grE ?_ (by omega) _ | refine grF ?_ (by omega) _ _))⟩
      · have e1 : (((b.toNat : Nat) : Int) == 45) = false := (u8_beq b 45 (by decide)).trans (by simpa using c1)
        have e2 : ((45 : UInt8) == 45 && b == 45) = false := by simp [c1]
        rw [e2]
        have e3 : ¬ ((b.toNat : Nat) : Int) = 45 := by simpa using e1
        go_enter Tryz.func38, Tryz.ntmps38
        go_wp2_with fail
        go_ret
        exact ⟨rfl, (by repeat (with_reducible first | assumption | exact grA | apply grB | apply grC | apply grD | refine grE ?_ (by omega) _ | refine grF ?_ (by omega) _ _))⟩
    · have e1 : (((a.toNat : Nat) : Int) == 45) = false := (u8_beq a 45 (by decide)).trans (by simpa using c0)
      have e2 : (a == 45 && b == 45) = false := by simp [c0]
      rw [e2]
      have e3 : ¬ ((a.toNat : Nat) : Int) = 45 := by simpa using e1
      go_enter Tryz.func38, Tryz.ntmps38
      go_wp2_with fail
      go_ret
      exact ⟨rfl, (by repeat (with_reducible first | assumption | exact grA | apply grB | apply grC | apply grD | refine grE ?_ (by omega) _ | refine grF ?_ (by omega) _ _))⟩
  · rw [customB_short h]
    have h1 : ¬ (2 : Int) < (s.size : Int) := by omega
    have h2 : decide (2 < s.size) = false := by simpa using h
    have h3 : decide ((2 : Int) < (s.size : Int)) = false := by simpa using h1
    go_enter Tryz.func38, Tryz.ntmps38
    go_wp2_with fail
    go_ret
    exact ⟨rfl, (by repeat (with_reducible first | assumption | exact grA | apply grB | apply grC | apply grD | refine grE ?_ (by omega) _ | refine grF ?_ (by omega) _ _))⟩
set_option maxRecDepth 100000 in
theorem prefix2_any (s : ByteArray) (h : 2 < s.size) (w : World) : Calls Tryz.prog 47 #[.string s, .string ⟨#[45, 45]⟩] w (Gives w (.bool (customB s))) := by
  have h1 : (2 : Int) ≤ (s.size : Int) := by omega
  obtain ⟨a, b, r, _, hcu, _, _, he⟩ := customB_long h
  have hcu2 := hcu.trans he.symm
  rw [hcu2]
  clear hcu hcu2 he
  go_enter Tryz.func47, Tryz.ntmps47
  go_wp2_with go_in
  go_ret
  exact ⟨rfl, (by repeat (with_reducible first | assumption | exact grA | apply grB | apply grC | apply grD | refine grE ?_ (by omega) _ | refine grF ?_ (by omega) _ _))⟩
set_option maxRecDepth 100000 in
theorem pcustom_any (s : ByteArray) (hs : s.size ≤ maxLen) (w : World) : Calls Tryz.prog 29 #[.string s] w (Gives w (.bool (customB s))) := by
  go_enter Tryz.func29, Tryz.ntmps29
  go_wp2_with fail
  go_loopg [3] s.size (fun gn v3 wj => ∃ pos : Nat, Hid (gn = s.size - pos) ∧ wj = w.iter s pos ∧ Hid (pos ≤ 2 ∨ customB s = false))
  case atStart => exact ⟨0, Lib.hid rfl, rfl, Lib.hid (.inl (by omega))⟩
  case round =>
    obtain ⟨pos, HQ, rfl, HP⟩ := hrel
    by_cases hp : pos < s.size
    · have hnx : ∀ ty, (Instr.next (.pointer (some ⟨w.heap.size, 0, none⟩)) true ty).run Tryz.prog (w.iter s pos) = _ := fun ty => run_next_any w s pos ty hp
      have hwd : 1 ≤ (Utf8.decode s pos).2 := by
        by_cases ha : (s[pos]'hp).toNat < 128
        · rw [decode_ascii s pos hp ha]; exact Nat.le_refl _
        · exact (decode_high s pos hp (by omega)).2
      have HNX : Hid (pos + (Utf8.decode s pos).2 ≤ 2 ∨ pos = 2 ∨ customB s = false) := Lib.hid (by
        rcases HP.out with h2 | h2
        · by_cases h3 : pos = 2
          · exact .inr (.inl h3)
          · by_cases ha : (s[pos]'hp).toNat < 128
            · rw [decode_ascii s pos hp ha]; exact .inl (by show pos + 1 ≤ 2; omega)
            · refine .inr (.inr ?_)
              by_cases hl : 2 < s.size
              · obtain ⟨a, b, r, _, hcu, ea, eb, _⟩ := customB_long hl
                rw [hcu]
                have hx : pos = 0 ∨ pos = 1 := by omega
                rcases hx with rfl | rfl
                · rw [ea hp] at ha
                  have : a ≠ 45 := fun e => ha (by rw [e]; decide)
                  simp [this]
                · rw [eb hp] at ha
                  have : b ≠ 45 := fun e => ha (by rw [e]; decide)
                  simp [this]
              · exact customB_short hl
        · exact .inr (.inr h2))
      have hgw : w.grows (w.iter s (pos + (Utf8.decode s pos).2)) := World.grows.alloc World.grows.refl _
      have hdl := (Utf8.decode s pos).2
      have HW := Lib.hid hwd
      clear hwd
      by_cases h2 : pos = 2
      · subst h2
        have hl : 2 < s.size := hp
        go_wp2_with ((go_at_call 47; (with_reducible refine (prefix2_any s hl _).mono ?_); rintro e w1 ⟨rfl, x1, rfl⟩))
        go_ret
        exact ⟨rfl, hgw.trans (by repeat (with_reducible first | assumption | exact grA | apply grB | apply grC | apply grD | refine grE ?_ (by omega) _ | refine grF ?_ (by omega) _ _))⟩
      · have hb : ((pos : Int) == 2) = false := by rw [beq_eq_false_iff_ne]; omega
        have hbn : (pos == 2) = false := by rw [beq_eq_false_iff_ne]; omega
        have HN2 := Lib.hid h2
        clear h2
        go_wp2_with fail
        go_roundg (s.size - (pos + (Utf8.decode s pos).2))
        case measure => have := HW.out; have := HQ.out; omega
        case rel => exact ⟨_, Lib.hid rfl, rfl, Lib.hid (by rcases HNX.out with h | h | h; exact .inl h; exact absurd h HN2.out; exact .inr h)⟩
    · have hnx : ∀ ty, (Instr.next (.pointer (some ⟨w.heap.size, 0, none⟩)) true ty).run Tryz.prog (w.iter s pos) = _ := fun ty => run_next_end w s pos ty hp
      have HB : Hid (customB s = false) := Lib.hid (by
        rcases HP.out with h | h
        · exact customB_short (by omega)
        · exact h)
      go_wp2_with fail
      go_ret
      rw [HB.out]
      exact ⟨rfl, World.grows.alloc World.grows.refl _⟩
end Go.Proofs.YthcaphoejplecaaGreatDoor
namespace Go
open Go.RowKit
/-- a text made small -/
def lowU (c : UInt8) : UInt8 := if 65 ≤ c ∧ c ≤ 90 then c + 32 else c
def lowS (s : ByteArray) : ByteArray := ⟨(s.data.toList.map lowU).toArray⟩
theorem lowS_list (s : ByteArray) : (lowS s).data.toList = lowB s.data.toList := by
  show (List.map lowU _).toArray.toList = _
  simp [lowB, lowU]
/-- bytes as cells -/
def u8c (l : List UInt8) : List Value := l.map fun b => Value.int .u8 b.toNat
theorem conv_row {P : Program} (w : World) (src dst e : TypeId) (s : ByteArray) {u : TypeDesc} (hs : P.underlying src = some u) (hd : P.underlying dst = some (.slice e)) (he : P.underlying e = some (.int .u8)) :
    ∃ (c n : Nat) (W : World) (zs : List Value), (convert src dst (.string s)).run P w = .ok (.slice (some ⟨w.heap.size, 0, none⟩) s.size c) W ∧ w.grows W ∧ W.heap.size = w.heap.size + 1 ∧ W.row w.heap.size = some (.cells (u8c s.data.toList ++ zs).toArray e (n, n + 1)) ∧ n = s.data.toList.length + zs.length := by
  refine ⟨_, (Lib.bytesCells w e s).size, Lib.bytesWorld w e s, List.replicate (grownCap w s.size 0 e - s.size) (.int .u8 0), Lib.run_convert_string_bytes w src dst e s hs hd he, ?_, Lib.bytesWorld_size _ _ _, ?_, ?_⟩
  · refine World.grows.of_below ⟨?_, ?_, ?_, ?_, fun k hk => Lib.bytesWorld_at_old w e s k hk⟩ <;> first | rfl | (simp only [Lib.bytesWorld, World.freeze]; split <;> rfl) | (rw [Lib.bytesWorld_size]; omega)
  · show (Lib.bytesWorld w e s).heap[w.heap.size]? = _
    rw [Lib.bytesWorld_at_new]
    congr 2
    apply Array.ext'
    simp [Lib.bytesCells, u8c]
  · simp [Lib.bytesCells]
theorem fold_push (l : List UInt8) (r : ByteArray) : (l.map fun b => ((b.toNat : Nat) : Int)).foldl (fun r n => r.push (UInt8.ofNat n.toNat)) r = ⟨(r.data.toList ++ l).toArray⟩ := by
  induction l generalizing r with
  | nil => simp
  | cons a t ih =>
    rw [List.map_cons, List.foldl_cons, ih]
    congr 1
    apply Array.ext'
    simp
theorem conv_str {P : Program} (w : World) (src dst e e' : TypeId) (g cap : Nat) (l : List UInt8) (zs : List Value) (fr : Nat × Nat) (hs : P.underlying src = some (.slice e)) (he : P.underlying e = some (.int .u8)) (hd : P.underlying dst = some .string)
    (h : w.row g = some (.cells (u8c l ++ zs).toArray e' fr)) : (convert src dst (.slice (some ⟨g, 0, none⟩) l.length cap)).run P w = .ok (.string ⟨l.toArray⟩) w := by
  rw [run_convert_bytes_string w src dst e _ _ _ hs he hd]
  rw [run_bytesToString w ⟨g, 0, none⟩ l.length cap (l.map fun b => ((b.toNat : Nat) : Int)), fold_push]
  · rfl
  · have := run_loadCells_list (P := P) (w := w) ⟨g, 0, none⟩ (u8c l) (fun j v hj => by
      rw [Addr.add_lit, World.cell?_row, h, Nat.zero_add]
      show (u8c l ++ zs).toArray[j]? = some v
      have hl := (List.getElem?_eq_some_iff.1 hj).1
      simp only [List.getElem?_toArray]
      rw [List.getElem?_append_left hl]; exact hj)
    have e1 : (l.map fun b => ((b.toNat : Nat) : Int)).map (Value.int .u8) = u8c l := by simp [u8c, Function.comp_def]
    have e2 : (u8c l).length = l.length := by simp [u8c]
    rw [e1, ← e2]; exact this
/-- what is made small so far -/
def lowTo (l : List UInt8) (i : Nat) : List UInt8 := (l.take i).map lowU ++ l.drop i
theorem lowTo_len (l : List UInt8) (i : Nat) : (lowTo l i).length = l.length := by unfold lowTo; simp; omega
theorem lowTo_get (l : List UInt8) {i : Nat} {c : UInt8} (h : l[i]? = some c) : (lowTo l i)[i]? = some c := by
  have hl := (List.getElem?_eq_some_iff.1 h).1
  unfold lowTo
  rw [List.getElem?_append_right (by simp; omega)]
  simp [h, Nat.min_eq_left (Nat.le_of_lt hl)]
theorem lowTo_succ (l : List UInt8) {i : Nat} {c : UInt8} (h : l[i]? = some c) : lowTo l (i + 1) = (lowTo l i).set i (lowU c) := by
  have hl := (List.getElem?_eq_some_iff.1 h).1
  unfold lowTo
  rw [List.take_add_one, h, List.map_append, List.set_append_right _ _ (by simp; omega)]
  have e : i - (List.map lowU (List.take i l)).length = 0 := by simp; omega
  rw [e]
  have h2 : l[i] = c := (List.getElem?_eq_some_iff.1 h).2
  have h3 : l.drop i = c :: l.drop (i + 1) := by rw [List.drop_eq_getElem_cons hl, h2]
  rw [h3]; simp
theorem lowTo_same (l : List UInt8) {i : Nat} {c : UInt8} (h : l[i]? = some c) (hc : lowU c = c) : lowTo l (i + 1) = lowTo l i := by
  rw [lowTo_succ l h, hc]
  have h2 := lowTo_get l h
  exact List.ext_getElem? fun j => by
    rw [List.getElem?_set]
    split
    · subst i; split
      · exact h2.symm
      · rename_i hx; rw [List.getElem?_eq_none (by omega)]
    · rfl
theorem u8c_set (l : List UInt8) (zs : List Value) (i : Nat) (c : UInt8) (h : i < l.length) : ((u8c l ++ zs).toArray.setIfInBounds i (.int .u8 c.toNat)) = (u8c (l.set i c) ++ zs).toArray := by
  apply Array.ext'
  simp only [Array.toList_setIfInBounds]
  rw [List.set_append_left _ _ (by simp [u8c]; exact h)]
  simp [u8c, List.map_set]
end Go
namespace Go.Proofs.YthcaphoejplecaaGreatDoor
open Go.RowKit
set_option maxRecDepth 100000 in
theorem rsmall_any (s : ByteArray) (hs : s.size ≤ maxLen) (w : World) : Calls Tryz.prog 99 #[.string s] w (Gives w (.string (lowS s))) := by
  obtain ⟨c, n, W, zs, hcv, hgW, hsW, hrow, hn⟩ := conv_row (P := Tryz.prog) (u := .string) w 9 57 5 s (by kernel_rfl) (by kernel_rfl) (by kernel_rfl)
  have hsz : s.data.toList.length = s.size := rfl
  have hlen : s.size ≤ 9223372036854775807 := hs
  have HSZ := Lib.hid hsz
  have HN := Lib.hid hn
  have HS := Lib.hid hgW
  have HROW := Lib.hid hrow
  have hsW' := hsW
  clear hsz hn hgW hrow hs
  go_enter Tryz.func99, Tryz.ntmps99
  go_wp2_with fail
  have HW0 : Hid (w.heap.size = w.heap.size) := Lib.hid rfl
  obtain ⟨g0, hg0e⟩ : ∃ g0, w.heap.size = g0 := ⟨_, rfl⟩
  replace HW0 : Hid (w.heap.size = g0) := Lib.hid hg0e
  rw [hg0e]
  rw [hg0e] at HROW hsW'
  clear hg0e hcv
  go_loopg [10] s.size (fun gn v10 wj => ∃ i : Nat, Hid (gn + i = s.size ∧ i ≤ s.size) ∧ v10 = .int .i64 i ∧ Hid (w.grows wj ∧ wj.row g0 = some (.cells (u8c (lowTo s.data.toList i) ++ zs).toArray 5 (n, n + 1))))
  case atStart => exact ⟨0, Lib.hid ⟨by simp, Nat.zero_le _⟩, by go_num, Lib.hid ⟨HS.out, by rw [show lowTo s.data.toList 0 = s.data.toList by simp [lowTo]]; exact HROW.out⟩⟩
  case round =>
    obtain ⟨i, HQ, rfl, HR⟩ := hrel
    obtain ⟨j1, j2⟩ := HQ.out
    obtain ⟨hgj, hrj⟩ := HR.out
    have zg := (row_sz' hrj).1
    have zg' := lt_sz zg
    by_cases hlt : i < s.size
    · have iI : (i : Int) < (s.size : Int) := by omega
      have ii0 : (0 : Int) ≤ (i : Int) := by omega
      have hil : i < s.data.toList.length := hlt
      obtain ⟨c0, hc0⟩ : ∃ c0, s.data.toList[i]? = some c0 := ⟨_, List.getElem?_eq_getElem hil⟩
      have hcell : cellR i (wr.row g0) = some (.int .u8 c0.toNat) := by
        rw [hrj]
        show (u8c (lowTo s.data.toList i) ++ zs).toArray[i]? = _
        have h1 := lowTo_get _ hc0
        simp only [List.getElem?_toArray]
        rw [List.getElem?_append_left (by simp [u8c, lowTo_len]; exact hil)]
        simp [u8c, h1]
      have hfz : frozenR i (wr.row g0) = false := by
        rw [hrj]
        have := HN.out
        simp only [frozenR, Bool.and_eq_false_iff, decide_eq_false_iff_not]
        omega
      have HRJ := Lib.hid hrj
      have HC := Lib.hid hc0
      clear hrj hc0
      have hub : c0.toNat < 256 := c0.toNat_lt
      by_cases h65 : 65 ≤ c0.toNat
      · have k1 : (65 : Int) ≤ (c0.toNat : Int) := by omega
        by_cases h90 : c0.toNat ≤ 90
        · have k2 : (c0.toNat : Int) ≤ 90 := by omega
          have hlow : Hid (((lowU c0).toNat : Int) = (c0.toNat : Int) + 32) := Lib.hid (by
            unfold lowU
            rw [if_pos ⟨by rw [UInt8.le_iff_toNat_le]; exact h65, by rw [UInt8.le_iff_toNat_le]; exact h90⟩, UInt8.toNat_add]
            have : (32 : UInt8).toNat = 32 := rfl
            rw [this]; omega)
          have a1 : IntKind.u8.wrap ((c0.toNat : Int) + 97) = (c0.toNat : Int) + 97 := by simp [IntKind.wrap, IntKind.bits, IntKind.signed]; omega
          have a2 : IntKind.u8.wrap ((c0.toNat : Int) + 97 - 65) = (c0.toNat : Int) + 32 := by simp [IntKind.wrap, IntKind.bits, IntKind.signed]; omega
          go_wp2_with fail
          go_roundg (s.size - (i + 1))
          case measure => omega
          case rel =>
            refine ⟨i + 1, Lib.hid ⟨by omega, by omega⟩, by go_num, Lib.hid ⟨hgj.setCell' (Nat.le_of_eq HW0.out) _ _, ?_⟩⟩
            rw [World.row_setCell, if_pos rfl, HRJ.out, lowTo_succ _ HC.out, ← u8c_set _ _ _ _ (by rw [lowTo_len]; exact hil), hlow.out]
            rfl
        · have k2 : ¬ (c0.toNat : Int) ≤ 90 := by omega
          have hlow := Lib.hid (lowTo_same _ HC.out (show lowU c0 = c0 by
            unfold lowU
            rw [if_neg (fun h => h90 (by have := h.2; rw [UInt8.le_iff_toNat_le] at this; exact this))]))
          go_wp2_with fail
          go_roundg (s.size - (i + 1))
          case measure => omega
          case rel => exact ⟨i + 1, Lib.hid ⟨by omega, by omega⟩, by go_num, Lib.hid ⟨hgj, by rw [hlow.out]; exact HRJ.out⟩⟩
      · have k1 : ¬ (65 : Int) ≤ (c0.toNat : Int) := by omega
        have hlow := Lib.hid (lowTo_same _ HC.out (show lowU c0 = c0 by
          unfold lowU
          rw [if_neg (fun h => h65 (by have := h.1; rw [UInt8.le_iff_toNat_le] at this; exact this))]))
        go_wp2_with fail
        go_roundg (s.size - (i + 1))
        case measure => omega
        case rel => exact ⟨i + 1, Lib.hid ⟨by omega, by omega⟩, by go_num, Lib.hid ⟨hgj, by rw [hlow.out]; exact HRJ.out⟩⟩
    · have iI : ¬ (i : Int) < (s.size : Int) := by omega
      obtain rfl : i = s.size := by omega
      have hfull : lowTo s.data.toList s.size = s.data.toList.map lowU := by
        unfold lowTo
        rw [← HSZ.out, List.take_length, List.drop_length, List.append_nil]
      rw [hfull] at hrj
      have hst := conv_str (P := Tryz.prog) wr 57 9 5 5 g0 c (s.data.toList.map lowU) zs _ (by kernel_rfl) (by kernel_rfl) (by kernel_rfl) hrj
      rw [List.length_map, HSZ.out] at hst
      clear hrj HR
      go_wp2_with fail
      go_ret
      exact ⟨rfl, hgj⟩
set_option maxRecDepth 100000 in
theorem flower_any (s : ByteArray) (hs : s.size ≤ maxLen) (w : World) : Calls Tryz.prog 96 #[.string s] w (Gives w (.string (lowS s))) := by
  obtain ⟨c, n, W, zs, hcv, hgW, hsW, hrow, hn⟩ := conv_row (P := Tryz.prog) (u := .string) w 9 57 5 s (by kernel_rfl) (by kernel_rfl) (by kernel_rfl)
  have hsz : s.data.toList.length = s.size := rfl
  have hlen : s.size ≤ 9223372036854775807 := hs
  have HSZ := Lib.hid hsz
  have HN := Lib.hid hn
  have HS := Lib.hid hgW
  have HROW := Lib.hid hrow
  have hsW' := hsW
  clear hsz hn hgW hrow hs
  go_enter Tryz.func96, Tryz.ntmps96
  go_wp2_with fail
  have HW0 : Hid (w.heap.size = w.heap.size) := Lib.hid rfl
  obtain ⟨g0, hg0e⟩ : ∃ g0, w.heap.size = g0 := ⟨_, rfl⟩
  replace HW0 : Hid (w.heap.size = g0) := Lib.hid hg0e
  rw [hg0e]
  rw [hg0e] at HROW hsW'
  clear hg0e hcv
  go_loopg [10] s.size (fun gn v10 wj => ∃ i : Nat, Hid (gn + i = s.size ∧ i ≤ s.size) ∧ v10 = .int .i64 i ∧ Hid (w.grows wj ∧ wj.row g0 = some (.cells (u8c (lowTo s.data.toList i) ++ zs).toArray 5 (n, n + 1))))
  case atStart => exact ⟨0, Lib.hid ⟨by simp, Nat.zero_le _⟩, by go_num, Lib.hid ⟨HS.out, by rw [show lowTo s.data.toList 0 = s.data.toList by simp [lowTo]]; exact HROW.out⟩⟩
  case round =>
    obtain ⟨i, HQ, rfl, HR⟩ := hrel
    obtain ⟨j1, j2⟩ := HQ.out
    obtain ⟨hgj, hrj⟩ := HR.out
    have zg := (row_sz' hrj).1
    have zg' := lt_sz zg
    by_cases hlt : i < s.size
    · have iI : (i : Int) < (s.size : Int) := by omega
      have ii0 : (0 : Int) ≤ (i : Int) := by omega
      have hil : i < s.data.toList.length := hlt
      obtain ⟨c0, hc0⟩ : ∃ c0, s.data.toList[i]? = some c0 := ⟨_, List.getElem?_eq_getElem hil⟩
      have hcell : cellR i (wr.row g0) = some (.int .u8 c0.toNat) := by
        rw [hrj]
        show (u8c (lowTo s.data.toList i) ++ zs).toArray[i]? = _
        have h1 := lowTo_get _ hc0
        simp only [List.getElem?_toArray]
        rw [List.getElem?_append_left (by simp [u8c, lowTo_len]; exact hil)]
        simp [u8c, h1]
      have hfz : frozenR i (wr.row g0) = false := by
        rw [hrj]
        have := HN.out
        simp only [frozenR, Bool.and_eq_false_iff, decide_eq_false_iff_not]
        omega
      have HRJ := Lib.hid hrj
      have HC := Lib.hid hc0
      clear hrj hc0
      have hub : c0.toNat < 256 := c0.toNat_lt
      by_cases h65 : 65 ≤ c0.toNat
      · have k1 : (65 : Int) ≤ (c0.toNat : Int) := by omega
        by_cases h90 : c0.toNat ≤ 90
        · have k2 : (c0.toNat : Int) ≤ 90 := by omega
          have hlow : Hid (((lowU c0).toNat : Int) = (c0.toNat : Int) + 32) := Lib.hid (by
            unfold lowU
            rw [if_pos ⟨by rw [UInt8.le_iff_toNat_le]; exact h65, by rw [UInt8.le_iff_toNat_le]; exact h90⟩, UInt8.toNat_add]
            have : (32 : UInt8).toNat = 32 := rfl
            rw [this]; omega)
          have a1 : IntKind.u8.wrap ((c0.toNat : Int) + 32) = (c0.toNat : Int) + 32 := by simp [IntKind.wrap, IntKind.bits, IntKind.signed]; omega
          go_wp2_with fail
          go_roundg (s.size - (i + 1))
          case measure => omega
          case rel =>
            refine ⟨i + 1, Lib.hid ⟨by omega, by omega⟩, by go_num, Lib.hid ⟨hgj.setCell' (Nat.le_of_eq HW0.out) _ _, ?_⟩⟩
            rw [World.row_setCell, if_pos rfl, HRJ.out, lowTo_succ _ HC.out, ← u8c_set _ _ _ _ (by rw [lowTo_len]; exact hil), hlow.out]
            rfl
        · have k2 : ¬ (c0.toNat : Int) ≤ 90 := by omega
          have hlow := Lib.hid (lowTo_same _ HC.out (show lowU c0 = c0 by
            unfold lowU
            rw [if_neg (fun h => h90 (by have := h.2; rw [UInt8.le_iff_toNat_le] at this; exact this))]))
          go_wp2_with fail
          go_roundg (s.size - (i + 1))
          case measure => omega
          case rel => exact ⟨i + 1, Lib.hid ⟨by omega, by omega⟩, by go_num, Lib.hid ⟨hgj, by rw [hlow.out]; exact HRJ.out⟩⟩
      · have k1 : ¬ (65 : Int) ≤ (c0.toNat : Int) := by omega
        have hlow := Lib.hid (lowTo_same _ HC.out (show lowU c0 = c0 by
          unfold lowU
          rw [if_neg (fun h => h65 (by have := h.1; rw [UInt8.le_iff_toNat_le] at this; exact this))]))
        go_wp2_with fail
        go_roundg (s.size - (i + 1))
        case measure => omega
        case rel => exact ⟨i + 1, Lib.hid ⟨by omega, by omega⟩, by go_num, Lib.hid ⟨hgj, by rw [hlow.out]; exact HRJ.out⟩⟩
    · have iI : ¬ (i : Int) < (s.size : Int) := by omega
      obtain rfl : i = s.size := by omega
      have hfull : lowTo s.data.toList s.size = s.data.toList.map lowU := by
        unfold lowTo
        rw [← HSZ.out, List.take_length, List.drop_length, List.append_nil]
      rw [hfull] at hrj
      have hst := conv_str (P := Tryz.prog) wr 57 9 5 5 g0 c (s.data.toList.map lowU) zs _ (by kernel_rfl) (by kernel_rfl) (by kernel_rfl) hrj
      rw [List.length_map, HSZ.out] at hst
      clear hrj HR
      go_wp2_with fail
      go_ret
      exact ⟨rfl, hgj⟩
end Go.Proofs.YthcaphoejplecaaGreatDoor
