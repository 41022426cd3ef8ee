/- WALKS: the number of an expression. No condition but that the expression stands in memory, that it may be, and that it has at most 2^20 nodes. (printed by wip/mknumb.py) -/
import Derived.Test.YthmicnjigfcljaaMj
import Derived.Test.YthmicnjigfcljaaMg
import Derived.Test.YthmicnjigfcljaaMa
import Derived.Test.YthmicnjigfcljaaMh
import Derived.Test.YthmicnjigfcljaaMm
set_option linter.unusedSimpArgs false
set_option linter.unusedVariables false
namespace Go.Proofs.Ythmicnjigfcljaa
open Go.RowKit

def NumIH (m : Nat) : Prop := ∀ (t : Ex) (cs : List Value) (left : Nat) (w : World), ExAt w m t cs → mayE m left t = true → szE m t ≤ 1048576 →
    Calls Try.prog 58 #[.agg cs.toArray] w (Gives w (ratV (numE m t)))

set_option maxRecDepth 100000 in
set_option maxHeartbeats 4000000 in
theorem number_k2 (m : Nat) (IH0 : NumIH m) (kids : List Ex) (a : Option Addr) (cap left : Nat) (w : World) (hlc : kids.length ≤ cap) (hc : cap ≤ 9223372036854775807) (hkids : KidsAt w m kids a)
    (hmay : kids.all (mayE m left) = true) (hsz : szE (m + 1) (.mk 2 0 0 0 kids) ≤ 1048576) (hbd : ∀ t ∈ kids, bdE m t) (hok : 1 ≤ kids.length) :
    Calls Try.prog 58 #[.agg #[.int .i64 2, .int .i64 0, .int .i64 0, .int .i64 0, .slice a kids.length cap]] w (Gives w (ratV (foldQ (0, 1) addQ (kids.map (numE m))))) := by
  have hn : kids.length < 1048576 := Nat.lt_of_lt_of_le szE_kids hsz
  have hI : ∀ p ∈ (kids.map (numE m)), I64p p := fun p hp => by
    obtain ⟨t, ht, rfl⟩ := List.mem_map.1 hp
    exact numE_bd m t (hbd t ht)
  generalize hV : numE m = V at *
  have IH : ∀ i (hlt : i < kids.length) cs' W, ExAt W m kids[i] cs' → Calls Try.prog 58 #[.agg cs'.toArray] W (Gives W (ratV (V kids[i]))) :=
    fun i hlt cs' W h => hV ▸ IH0 _ _ left _ h (List.all_eq_true.1 hmay _ (List.getElem_mem hlt)) (Nat.le_of_lt (Nat.lt_of_lt_of_le (szE_kid (List.getElem_mem hlt)) hsz))
  clear hV
  clear hsz hbd hmay IH0 hok
  have IH := Lib.hid IH
  have HK := Lib.hid hkids; have HI := Lib.hid hI; clear hkids hI
  generalize hres : foldQ (0, 1) addQ (kids.map V) = res at *
  have HRES := Lib.hid hres; clear hres
  obtain ⟨R1, R2⟩ := res
  go_enter Try.func58, Try.ntmps58
  go_wp2_with fail
  go_loopw [3, 9] (fun v3 v9 wr => ∃ (i : Nat), i ≤ kids.length ∧ v9 = .int .i64 i ∧ Hid (wr.ownsRow (w.heap.size + 1 + 1) 23 2 v3 i (((kids.take i).map V).flatMap ratL)) ∧ w.grows wr ∧ wr.row w.heap.size = some (.cells #[.int .i64 2, .int .i64 0, .int .i64 0, .int .i64 0, .slice a kids.length cap] 26) ∧ wr.row (w.heap.size + 1) = some (.cells #[.int .i64 0, .int .i64 0] 23)) (fun _ i _ => kids.length - (intOf i).toNat)
  case atStart => exact ⟨0, Nat.zero_le _, rfl, World.ownsRow_nil _ _ _ _, (by repeat (with_reducible first | assumption | exact grA | apply grB | apply grC | apply grD | refine grE ?_ (by omega) _ | refine grF ?_ (by omega) _ _)), by simp [go_sem], by simp [go_sem]⟩
  case round =>
    obtain ⟨i, hi, rfl, HO, hg, hx, hy⟩ := hrel
    have z1 := row_sz' hx
    have z2 := row_sz' hy
    by_cases hlt : i < kids.length
    · rcases HK.out with h | ⟨g, off, rfl, hcell⟩
      · rw [h] at hlt; cases hlt
      obtain ⟨cs', hel, hex⟩ := hcell i kids[i] (by simp [hlt])
      have hl5 := ExAt_len hex
      have he := hel.grows hg
      unfold eltAt at he
      rw [hl5] at he
      have zr := lt_sz (hel.grows hg).lt
      have e3 : segOk (off + i * 5) 5 (wr.row g) = true := he.1
      have e4 : segV (off + i * 5) 5 (wr.row g) = .agg cs'.toArray := he.2
      have c1 := fun W (hW : w.grows W) => IH.out i hlt cs' W (hex.grows hW)
      have hnx : ((kids.take (i + 1)).map V).flatMap ratL = ((kids.take i).map V).flatMap ratL ++ ratL (V kids[i]) := by
        rw [List.take_succ_eq_append_getElem hlt, List.map_append, List.flatMap_append]; simp
      have hbs : w.heap.size + 1 + 1 ≤ wr.heap.size := z2.1
      obtain ⟨k0, k1, k2, k3, va, vl, vc, rfl⟩ := ExAt_vals hex
      generalize V kids[i] = q at *
      obtain ⟨q1, q2⟩ := q
      have C1 := Lib.hid c1; have HNX := Lib.hid hnx; clear c1 hel he hex hl5 hcell IH HK hnx
      go_wp2_with (first | (go_at_call 58; (with_reducible refine (C1.out _ (by repeat (with_reducible first | assumption | exact grA | apply grB | apply grC | apply grD | refine grE ?_ (by omega) _ | refine grF ?_ (by omega) _ _))).mono ?_); rintro e w1 ⟨rfl, x1, rfl⟩) | (at_builtin; refine wpList_app w (w.heap.size + 1 + 1) rfl (.tmp 13) (.tmp 16) _ rfl 23 (.agg #[.int .i64 0, .int .i64 0]) 2 16 Try.underlying85 (by kernel_rfl) rfl (by omega) (by omega) _ i _ rfl (HO.out.grows (by repeat (with_reducible first | assumption | exact grA | apply grB | apply grC | apply grD | refine grE ?_ (by omega) _ | refine grF ?_ (by omega) _ _))) _ 1 _ [.int .i64 q1, .int .i64 q2] rfl rfl (cells_of_row (e := 23) (fr := (0, 0)) (by simp [go_sem])) (by simp [Value.oneCell']) (by omega) (by repeat (with_reducible first | assumption | exact grA | apply grB | apply grC | apply grD | refine grE ?_ (by omega) _ | refine grF ?_ (by omega) _ _)) (by omega) (by simp; omega) ?_; intro v' w' hg' HO' HR' HG' HA'))
      go_wp2_with fail
      go_roundw
      case rel => exact ⟨i + 1, by omega, by go_num, (by rw [HNX.out]; exact HO'), hg', (HR'.out _ (by omega)).trans (by simp [go_sem, hx, z1]), (HR'.out _ (by omega)).trans (by simp [go_sem, hy, z2])⟩
      case measure => simp [intOf]; omega
    · obtain rfl : i = kids.length := by omega
      have hO := HO.out
      rw [List.take_length] at hO
      have hO' : wr.ownsRow (w.heap.size + 1 + 1) 23 2 u3 (kids.map V).length ((kids.map V).flatMap ratL) := by rw [List.length_map]; exact hO
      have hR := RatsAt_of_owns hO' HI.out
      have c0 := fun W (hW : wr.grows W) => ratAdd_any u3 _ W (hR.grows hW)
      rw [HRES.out] at c0
      have C1 := Lib.hid c0; clear c0 hR hO hO' HO HI HRES IH HK
      go_wp2_with (first | (go_at_call 76; (with_reducible refine (C1.out _ (by repeat (with_reducible first | assumption | exact grA | apply grB | apply grC | apply grD | refine grE ?_ (by omega) _ | refine grF ?_ (by omega) _ _))).mono ?_); rintro e w1 ⟨rfl, x1, rfl⟩) | ((with_reducible show bodyPost _ _ _ _ _ _); exact ret_23 rfl rfl (by simp [go_sem, hx, hy, z1, z2]) rfl ⟨by simp [go_sem, hx, hy, z1, z2], (by repeat (with_reducible first | assumption | exact grA | apply grB | apply grC | apply grD | refine grE ?_ (by omega) _ | refine grF ?_ (by omega) _ _))⟩))

set_option maxRecDepth 100000 in
set_option maxHeartbeats 4000000 in
theorem number_k4 (m : Nat) (IH0 : NumIH m) (kids : List Ex) (a : Option Addr) (cap left : Nat) (w : World) (hlc : kids.length ≤ cap) (hc : cap ≤ 9223372036854775807) (hkids : KidsAt w m kids a)
    (hmay : kids.all (mayE m left) = true) (hsz : szE (m + 1) (.mk 4 0 0 0 kids) ≤ 1048576) (hbd : ∀ t ∈ kids, bdE m t) (hok : 1 ≤ kids.length) :
    Calls Try.prog 58 #[.agg #[.int .i64 4, .int .i64 0, .int .i64 0, .int .i64 0, .slice a kids.length cap]] w (Gives w (ratV (foldQ (1, 1) mulQ (kids.map (numE m))))) := by
  have hn : kids.length < 1048576 := Nat.lt_of_lt_of_le szE_kids hsz
  have hI : ∀ p ∈ (kids.map (numE m)), I64p p := fun p hp => by
    obtain ⟨t, ht, rfl⟩ := List.mem_map.1 hp
    exact numE_bd m t (hbd t ht)
  generalize hV : numE m = V at *
  have IH : ∀ i (hlt : i < kids.length) cs' W, ExAt W m kids[i] cs' → Calls Try.prog 58 #[.agg cs'.toArray] W (Gives W (ratV (V kids[i]))) :=
    fun i hlt cs' W h => hV ▸ IH0 _ _ left _ h (List.all_eq_true.1 hmay _ (List.getElem_mem hlt)) (Nat.le_of_lt (Nat.lt_of_lt_of_le (szE_kid (List.getElem_mem hlt)) hsz))
  clear hV
  clear hsz hbd hmay IH0 hok
  have IH := Lib.hid IH
  have HK := Lib.hid hkids; have HI := Lib.hid hI; clear hkids hI
  generalize hres : foldQ (1, 1) mulQ (kids.map V) = res at *
  have HRES := Lib.hid hres; clear hres
  obtain ⟨R1, R2⟩ := res
  go_enter Try.func58, Try.ntmps58
  go_wp2_with fail
  go_loopw [3, 9] (fun v3 v9 wr => ∃ (i : Nat), i ≤ kids.length ∧ v9 = .int .i64 i ∧ Hid (wr.ownsRow (w.heap.size + 1 + 1) 23 2 v3 i (((kids.take i).map V).flatMap ratL)) ∧ w.grows wr ∧ wr.row w.heap.size = some (.cells #[.int .i64 4, .int .i64 0, .int .i64 0, .int .i64 0, .slice a kids.length cap] 26) ∧ wr.row (w.heap.size + 1) = some (.cells #[.int .i64 0, .int .i64 0] 23)) (fun _ i _ => kids.length - (intOf i).toNat)
  case atStart => exact ⟨0, Nat.zero_le _, rfl, World.ownsRow_nil _ _ _ _, (by repeat (with_reducible first | assumption | exact grA | apply grB | apply grC | apply grD | refine grE ?_ (by omega) _ | refine grF ?_ (by omega) _ _)), by simp [go_sem], by simp [go_sem]⟩
  case round =>
    obtain ⟨i, hi, rfl, HO, hg, hx, hy⟩ := hrel
    have z1 := row_sz' hx
    have z2 := row_sz' hy
    by_cases hlt : i < kids.length
    · rcases HK.out with h | ⟨g, off, rfl, hcell⟩
      · rw [h] at hlt; cases hlt
      obtain ⟨cs', hel, hex⟩ := hcell i kids[i] (by simp [hlt])
      have hl5 := ExAt_len hex
      have he := hel.grows hg
      unfold eltAt at he
      rw [hl5] at he
      have zr := lt_sz (hel.grows hg).lt
      have e3 : segOk (off + i * 5) 5 (wr.row g) = true := he.1
      have e4 : segV (off + i * 5) 5 (wr.row g) = .agg cs'.toArray := he.2
      have c1 := fun W (hW : w.grows W) => IH.out i hlt cs' W (hex.grows hW)
      have hnx : ((kids.take (i + 1)).map V).flatMap ratL = ((kids.take i).map V).flatMap ratL ++ ratL (V kids[i]) := by
        rw [List.take_succ_eq_append_getElem hlt, List.map_append, List.flatMap_append]; simp
      have hbs : w.heap.size + 1 + 1 ≤ wr.heap.size := z2.1
      obtain ⟨k0, k1, k2, k3, va, vl, vc, rfl⟩ := ExAt_vals hex
      generalize V kids[i] = q at *
      obtain ⟨q1, q2⟩ := q
      have C1 := Lib.hid c1; have HNX := Lib.hid hnx; clear c1 hel he hex hl5 hcell IH HK hnx
      go_wp2_with (first | (go_at_call 58; (with_reducible refine (C1.out _ (by repeat (with_reducible first | assumption | exact grA | apply grB | apply grC | apply grD | refine grE ?_ (by omega) _ | refine grF ?_ (by omega) _ _))).mono ?_); rintro e w1 ⟨rfl, x1, rfl⟩) | (at_builtin; refine wpList_app w (w.heap.size + 1 + 1) rfl (.tmp 13) (.tmp 16) _ rfl 23 (.agg #[.int .i64 0, .int .i64 0]) 2 16 Try.underlying85 (by kernel_rfl) rfl (by omega) (by omega) _ i _ rfl (HO.out.grows (by repeat (with_reducible first | assumption | exact grA | apply grB | apply grC | apply grD | refine grE ?_ (by omega) _ | refine grF ?_ (by omega) _ _))) _ 1 _ [.int .i64 q1, .int .i64 q2] rfl rfl (cells_of_row (e := 23) (fr := (0, 0)) (by simp [go_sem])) (by simp [Value.oneCell']) (by omega) (by repeat (with_reducible first | assumption | exact grA | apply grB | apply grC | apply grD | refine grE ?_ (by omega) _ | refine grF ?_ (by omega) _ _)) (by omega) (by simp; omega) ?_; intro v' w' hg' HO' HR' HG' HA'))
      go_wp2_with fail
      go_roundw
      case rel => exact ⟨i + 1, by omega, by go_num, (by rw [HNX.out]; exact HO'), hg', (HR'.out _ (by omega)).trans (by simp [go_sem, hx, z1]), (HR'.out _ (by omega)).trans (by simp [go_sem, hy, z2])⟩
      case measure => simp [intOf]; omega
    · obtain rfl : i = kids.length := by omega
      have hO := HO.out
      rw [List.take_length] at hO
      have hO' : wr.ownsRow (w.heap.size + 1 + 1) 23 2 u3 (kids.map V).length ((kids.map V).flatMap ratL) := by rw [List.length_map]; exact hO
      have hR := RatsAt_of_owns hO' HI.out
      have c0 := fun W (hW : wr.grows W) => ratMul_any u3 _ W (hR.grows hW)
      rw [HRES.out] at c0
      have C1 := Lib.hid c0; clear c0 hR hO hO' HO HI HRES IH HK
      go_wp2_with (first | (go_at_call 77; (with_reducible refine (C1.out _ (by repeat (with_reducible first | assumption | exact grA | apply grB | apply grC | apply grD | refine grE ?_ (by omega) _ | refine grF ?_ (by omega) _ _))).mono ?_); rintro e w1 ⟨rfl, x1, rfl⟩) | ((with_reducible show bodyPost _ _ _ _ _ _); exact ret_23 rfl rfl (by simp [go_sem, hx, hy, z1, z2]) rfl ⟨by simp [go_sem, hx, hy, z1, z2], (by repeat (with_reducible first | assumption | exact grA | apply grB | apply grC | apply grD | refine grE ?_ (by omega) _ | refine grF ?_ (by omega) _ _))⟩))

set_option maxRecDepth 100000 in
set_option maxHeartbeats 4000000 in
theorem number_k6 (m : Nat) (IH0 : NumIH m) (kids : List Ex) (a : Option Addr) (cap left : Nat) (w : World) (hlc : kids.length ≤ cap) (hc : cap ≤ 9223372036854775807) (hkids : KidsAt w m kids a)
    (hmay : kids.all (mayE m left) = true) (hsz : szE (m + 1) (.mk 6 0 0 0 kids) ≤ 1048576) (hbd : ∀ t ∈ kids, bdE m t) (hok : 1 ≤ kids.length) :
    Calls Try.prog 58 #[.agg #[.int .i64 6, .int .i64 0, .int .i64 0, .int .i64 0, .slice a kids.length cap]] w (Gives w (ratV (bestQ (-1) (kids.map (numE m))))) := by
  have hn : kids.length < 1048576 := Nat.lt_of_lt_of_le szE_kids hsz
  have hI : ∀ p ∈ (kids.map (numE m)), I64p p := fun p hp => by
    obtain ⟨t, ht, rfl⟩ := List.mem_map.1 hp
    exact numE_bd m t (hbd t ht)
  generalize hV : numE m = V at *
  have IH : ∀ i (hlt : i < kids.length) cs' W, ExAt W m kids[i] cs' → Calls Try.prog 58 #[.agg cs'.toArray] W (Gives W (ratV (V kids[i]))) :=
    fun i hlt cs' W h => hV ▸ IH0 _ _ left _ h (List.all_eq_true.1 hmay _ (List.getElem_mem hlt)) (Nat.le_of_lt (Nat.lt_of_lt_of_le (szE_kid (List.getElem_mem hlt)) hsz))
  clear hV
  clear hsz hbd hmay IH0 hok
  have IH := Lib.hid IH
  have HK := Lib.hid hkids; have HI := Lib.hid hI; clear hkids hI
  generalize hres : bestQ (-1) (kids.map V) = res at *
  have HRES := Lib.hid hres; clear hres
  obtain ⟨R1, R2⟩ := res
  go_enter Try.func58, Try.ntmps58
  go_wp2_with fail
  go_loopw [3, 9] (fun v3 v9 wr => ∃ (i : Nat), i ≤ kids.length ∧ v9 = .int .i64 i ∧ Hid (wr.ownsRow (w.heap.size + 1 + 1) 23 2 v3 i (((kids.take i).map V).flatMap ratL)) ∧ w.grows wr ∧ wr.row w.heap.size = some (.cells #[.int .i64 6, .int .i64 0, .int .i64 0, .int .i64 0, .slice a kids.length cap] 26) ∧ wr.row (w.heap.size + 1) = some (.cells #[.int .i64 0, .int .i64 0] 23)) (fun _ i _ => kids.length - (intOf i).toNat)
  case atStart => exact ⟨0, Nat.zero_le _, rfl, World.ownsRow_nil _ _ _ _, (by repeat (with_reducible first | assumption | exact grA | apply grB | apply grC | apply grD | refine grE ?_ (by omega) _ | refine grF ?_ (by omega) _ _)), by simp [go_sem], by simp [go_sem]⟩
  case round =>
    obtain ⟨i, hi, rfl, HO, hg, hx, hy⟩ := hrel
    have z1 := row_sz' hx
    have z2 := row_sz' hy
    by_cases hlt : i < kids.length
    · rcases HK.out with h | ⟨g, off, rfl, hcell⟩
      · rw [h] at hlt; cases hlt
      obtain ⟨cs', hel, hex⟩ := hcell i kids[i] (by simp [hlt])
      have hl5 := ExAt_len hex
      have he := hel.grows hg
      unfold eltAt at he
      rw [hl5] at he
      have zr := lt_sz (hel.grows hg).lt
      have e3 : segOk (off + i * 5) 5 (wr.row g) = true := he.1
      have e4 : segV (off + i * 5) 5 (wr.row g) = .agg cs'.toArray := he.2
      have c1 := fun W (hW : w.grows W) => IH.out i hlt cs' W (hex.grows hW)
      have hnx : ((kids.take (i + 1)).map V).flatMap ratL = ((kids.take i).map V).flatMap ratL ++ ratL (V kids[i]) := by
        rw [List.take_succ_eq_append_getElem hlt, List.map_append, List.flatMap_append]; simp
      have hbs : w.heap.size + 1 + 1 ≤ wr.heap.size := z2.1
      obtain ⟨k0, k1, k2, k3, va, vl, vc, rfl⟩ := ExAt_vals hex
      generalize V kids[i] = q at *
      obtain ⟨q1, q2⟩ := q
      have C1 := Lib.hid c1; have HNX := Lib.hid hnx; clear c1 hel he hex hl5 hcell IH HK hnx
      go_wp2_with (first | (go_at_call 58; (with_reducible refine (C1.out _ (by repeat (with_reducible first | assumption | exact grA | apply grB | apply grC | apply grD | refine grE ?_ (by omega) _ | refine grF ?_ (by omega) _ _))).mono ?_); rintro e w1 ⟨rfl, x1, rfl⟩) | (at_builtin; refine wpList_app w (w.heap.size + 1 + 1) rfl (.tmp 13) (.tmp 16) _ rfl 23 (.agg #[.int .i64 0, .int .i64 0]) 2 16 Try.underlying85 (by kernel_rfl) rfl (by omega) (by omega) _ i _ rfl (HO.out.grows (by repeat (with_reducible first | assumption | exact grA | apply grB | apply grC | apply grD | refine grE ?_ (by omega) _ | refine grF ?_ (by omega) _ _))) _ 1 _ [.int .i64 q1, .int .i64 q2] rfl rfl (cells_of_row (e := 23) (fr := (0, 0)) (by simp [go_sem])) (by simp [Value.oneCell']) (by omega) (by repeat (with_reducible first | assumption | exact grA | apply grB | apply grC | apply grD | refine grE ?_ (by omega) _ | refine grF ?_ (by omega) _ _)) (by omega) (by simp; omega) ?_; intro v' w' hg' HO' HR' HG' HA'))
      go_wp2_with fail
      go_roundw
      case rel => exact ⟨i + 1, by omega, by go_num, (by rw [HNX.out]; exact HO'), hg', (HR'.out _ (by omega)).trans (by simp [go_sem, hx, z1]), (HR'.out _ (by omega)).trans (by simp [go_sem, hy, z2])⟩
      case measure => simp [intOf]; omega
    · obtain rfl : i = kids.length := by omega
      have hO := HO.out
      rw [List.take_length] at hO
      have hO' : wr.ownsRow (w.heap.size + 1 + 1) 23 2 u3 (kids.map V).length ((kids.map V).flatMap ratL) := by rw [List.length_map]; exact hO
      have hR := RatsAt_of_owns hO' HI.out
      have c0 := fun W (hW : wr.grows W) => ratLeast_any u3 _ W (hR.grows hW)
      rw [HRES.out] at c0
      have C1 := Lib.hid c0; clear c0 hR hO hO' HO HI HRES IH HK
      go_wp2_with (first | (go_at_call 88; (with_reducible refine (C1.out _ (by repeat (with_reducible first | assumption | exact grA | apply grB | apply grC | apply grD | refine grE ?_ (by omega) _ | refine grF ?_ (by omega) _ _))).mono ?_); rintro e w1 ⟨rfl, x1, rfl⟩) | ((with_reducible show bodyPost _ _ _ _ _ _); exact ret_23 rfl rfl (by simp [go_sem, hx, hy, z1, z2]) rfl ⟨by simp [go_sem, hx, hy, z1, z2], (by repeat (with_reducible first | assumption | exact grA | apply grB | apply grC | apply grD | refine grE ?_ (by omega) _ | refine grF ?_ (by omega) _ _))⟩))

set_option maxRecDepth 100000 in
set_option maxHeartbeats 4000000 in
theorem number_k7 (m : Nat) (IH0 : NumIH m) (kids : List Ex) (a : Option Addr) (cap left : Nat) (w : World) (hlc : kids.length ≤ cap) (hc : cap ≤ 9223372036854775807) (hkids : KidsAt w m kids a)
    (hmay : kids.all (mayE m left) = true) (hsz : szE (m + 1) (.mk 7 0 0 0 kids) ≤ 1048576) (hbd : ∀ t ∈ kids, bdE m t) (hok : 1 ≤ kids.length) :
    Calls Try.prog 58 #[.agg #[.int .i64 7, .int .i64 0, .int .i64 0, .int .i64 0, .slice a kids.length cap]] w (Gives w (ratV (bestQ 1 (kids.map (numE m))))) := by
  have hn : kids.length < 1048576 := Nat.lt_of_lt_of_le szE_kids hsz
  have hI : ∀ p ∈ (kids.map (numE m)), I64p p := fun p hp => by
    obtain ⟨t, ht, rfl⟩ := List.mem_map.1 hp
    exact numE_bd m t (hbd t ht)
  generalize hV : numE m = V at *
  have IH : ∀ i (hlt : i < kids.length) cs' W, ExAt W m kids[i] cs' → Calls Try.prog 58 #[.agg cs'.toArray] W (Gives W (ratV (V kids[i]))) :=
    fun i hlt cs' W h => hV ▸ IH0 _ _ left _ h (List.all_eq_true.1 hmay _ (List.getElem_mem hlt)) (Nat.le_of_lt (Nat.lt_of_lt_of_le (szE_kid (List.getElem_mem hlt)) hsz))
  clear hV
  clear hsz hbd hmay IH0 hok
  have IH := Lib.hid IH
  have HK := Lib.hid hkids; have HI := Lib.hid hI; clear hkids hI
  generalize hres : bestQ 1 (kids.map V) = res at *
  have HRES := Lib.hid hres; clear hres
  obtain ⟨R1, R2⟩ := res
  go_enter Try.func58, Try.ntmps58
  go_wp2_with fail
  go_loopw [3, 9] (fun v3 v9 wr => ∃ (i : Nat), i ≤ kids.length ∧ v9 = .int .i64 i ∧ Hid (wr.ownsRow (w.heap.size + 1 + 1) 23 2 v3 i (((kids.take i).map V).flatMap ratL)) ∧ w.grows wr ∧ wr.row w.heap.size = some (.cells #[.int .i64 7, .int .i64 0, .int .i64 0, .int .i64 0, .slice a kids.length cap] 26) ∧ wr.row (w.heap.size + 1) = some (.cells #[.int .i64 0, .int .i64 0] 23)) (fun _ i _ => kids.length - (intOf i).toNat)
  case atStart => exact ⟨0, Nat.zero_le _, rfl, World.ownsRow_nil _ _ _ _, (by repeat (with_reducible first | assumption | exact grA | apply grB | apply grC | apply grD | refine grE ?_ (by omega) _ | refine grF ?_ (by omega) _ _)), by simp [go_sem], by simp [go_sem]⟩
  case round =>
    obtain ⟨i, hi, rfl, HO, hg, hx, hy⟩ := hrel
    have z1 := row_sz' hx
    have z2 := row_sz' hy
    by_cases hlt : i < kids.length
    · rcases HK.out with h | ⟨g, off, rfl, hcell⟩
      · rw [h] at hlt; cases hlt
      obtain ⟨cs', hel, hex⟩ := hcell i kids[i] (by simp [hlt])
      have hl5 := ExAt_len hex
      have he := hel.grows hg
      unfold eltAt at he
      rw [hl5] at he
      have zr := lt_sz (hel.grows hg).lt
      have e3 : segOk (off + i * 5) 5 (wr.row g) = true := he.1
      have e4 : segV (off + i * 5) 5 (wr.row g) = .agg cs'.toArray := he.2
      have c1 := fun W (hW : w.grows W) => IH.out i hlt cs' W (hex.grows hW)
      have hnx : ((kids.take (i + 1)).map V).flatMap ratL = ((kids.take i).map V).flatMap ratL ++ ratL (V kids[i]) := by
        rw [List.take_succ_eq_append_getElem hlt, List.map_append, List.flatMap_append]; simp
      have hbs : w.heap.size + 1 + 1 ≤ wr.heap.size := z2.1
      obtain ⟨k0, k1, k2, k3, va, vl, vc, rfl⟩ := ExAt_vals hex
      generalize V kids[i] = q at *
      obtain ⟨q1, q2⟩ := q
      have C1 := Lib.hid c1; have HNX := Lib.hid hnx; clear c1 hel he hex hl5 hcell IH HK hnx
      go_wp2_with (first | (go_at_call 58; (with_reducible refine (C1.out _ (by repeat (with_reducible first | assumption | exact grA | apply grB | apply grC | apply grD | refine grE ?_ (by omega) _ | refine grF ?_ (by omega) _ _))).mono ?_); rintro e w1 ⟨rfl, x1, rfl⟩) | (at_builtin; refine wpList_app w (w.heap.size + 1 + 1) rfl (.tmp 13) (.tmp 16) _ rfl 23 (.agg #[.int .i64 0, .int .i64 0]) 2 16 Try.underlying85 (by kernel_rfl) rfl (by omega) (by omega) _ i _ rfl (HO.out.grows (by repeat (with_reducible first | assumption | exact grA | apply grB | apply grC | apply grD | refine grE ?_ (by omega) _ | refine grF ?_ (by omega) _ _))) _ 1 _ [.int .i64 q1, .int .i64 q2] rfl rfl (cells_of_row (e := 23) (fr := (0, 0)) (by simp [go_sem])) (by simp [Value.oneCell']) (by omega) (by repeat (with_reducible first | assumption | exact grA | apply grB | apply grC | apply grD | refine grE ?_ (by omega) _ | refine grF ?_ (by omega) _ _)) (by omega) (by simp; omega) ?_; intro v' w' hg' HO' HR' HG' HA'))
      go_wp2_with fail
      go_roundw
      case rel => exact ⟨i + 1, by omega, by go_num, (by rw [HNX.out]; exact HO'), hg', (HR'.out _ (by omega)).trans (by simp [go_sem, hx, z1]), (HR'.out _ (by omega)).trans (by simp [go_sem, hy, z2])⟩
      case measure => simp [intOf]; omega
    · obtain rfl : i = kids.length := by omega
      have hO := HO.out
      rw [List.take_length] at hO
      have hO' : wr.ownsRow (w.heap.size + 1 + 1) 23 2 u3 (kids.map V).length ((kids.map V).flatMap ratL) := by rw [List.length_map]; exact hO
      have hR := RatsAt_of_owns hO' HI.out
      have c0 := fun W (hW : wr.grows W) => ratMost_any u3 _ W (hR.grows hW)
      rw [HRES.out] at c0
      have C1 := Lib.hid c0; clear c0 hR hO hO' HO HI HRES IH HK
      go_wp2_with (first | (go_at_call 89; (with_reducible refine (C1.out _ (by repeat (with_reducible first | assumption | exact grA | apply grB | apply grC | apply grD | refine grE ?_ (by omega) _ | refine grF ?_ (by omega) _ _))).mono ?_); rintro e w1 ⟨rfl, x1, rfl⟩) | ((with_reducible show bodyPost _ _ _ _ _ _); exact ret_23 rfl rfl (by simp [go_sem, hx, hy, z1, z2]) rfl ⟨by simp [go_sem, hx, hy, z1, z2], (by repeat (with_reducible first | assumption | exact grA | apply grB | apply grC | apply grD | refine grE ?_ (by omega) _ | refine grF ?_ (by omega) _ _))⟩))

set_option maxRecDepth 100000 in
set_option maxHeartbeats 4000000 in
theorem number_k3 (m : Nat) (IH0 : NumIH m) (kids : List Ex) (a : Option Addr) (cap left : Nat) (w : World) (hlc : 1 ≤ cap) (hc : cap ≤ 9223372036854775807) (hkids : KidsAt w m kids a)
    (hmay : kids.all (mayE m left) = true) (hsz : szE (m + 1) (.mk 3 0 0 0 kids) ≤ 1048576) (hbd : ∀ t ∈ kids, bdE m t) (hok : kids.length = 1) :
    Calls Try.prog 58 #[.agg #[.int .i64 3, .int .i64 0, .int .i64 0, .int .i64 0, .slice a 1 cap]] w (Gives w (ratV (negQ ((kids.map (numE m)).getD 0 (0, 0))))) := by
  have hn : kids.length < 1048576 := Nat.lt_of_lt_of_le szE_kids hsz
  have hI : ∀ p ∈ (kids.map (numE m)), I64p p := fun p hp => by
    obtain ⟨t, ht, rfl⟩ := List.mem_map.1 hp
    exact numE_bd m t (hbd t ht)
  generalize hV : numE m = V at *
  have IH : ∀ i (hlt : i < kids.length) cs' W, ExAt W m kids[i] cs' → Calls Try.prog 58 #[.agg cs'.toArray] W (Gives W (ratV (V kids[i]))) :=
    fun i hlt cs' W h => hV ▸ IH0 _ _ left _ h (List.all_eq_true.1 hmay _ (List.getElem_mem hlt)) (Nat.le_of_lt (Nat.lt_of_lt_of_le (szE_kid (List.getElem_mem hlt)) hsz))
  clear hV
  clear hsz hbd hmay IH0
  have IH := Lib.hid IH
  have HK := Lib.hid hkids; have HI := Lib.hid hI; clear hkids hI
  generalize hres : negQ ((kids.map V).getD 0 (0, 0)) = res at *
  have HRES := Lib.hid hres; clear hres
  obtain ⟨R1, R2⟩ := res
  have HL := Lib.hid hok; rw [hok] at hn; clear hok
  go_enter Try.func58, Try.ntmps58
  go_wp2_with fail
  go_loopw [3, 9] (fun v3 v9 wr => ∃ (i : Nat), i ≤ 1 ∧ v9 = .int .i64 i ∧ Hid (wr.ownsRow (w.heap.size + 1 + 1) 23 2 v3 i (((kids.take i).map V).flatMap ratL)) ∧ w.grows wr ∧ wr.row w.heap.size = some (.cells #[.int .i64 3, .int .i64 0, .int .i64 0, .int .i64 0, .slice a 1 cap] 26) ∧ wr.row (w.heap.size + 1) = some (.cells #[.int .i64 0, .int .i64 0] 23)) (fun _ i _ => 1 - (intOf i).toNat)
  case atStart => exact ⟨0, Nat.zero_le _, rfl, World.ownsRow_nil _ _ _ _, (by repeat (with_reducible first | assumption | exact grA | apply grB | apply grC | apply grD | refine grE ?_ (by omega) _ | refine grF ?_ (by omega) _ _)), by simp [go_sem], by simp [go_sem]⟩
  case round =>
    obtain ⟨i, hi, rfl, HO, hg, hx, hy⟩ := hrel
    have z1 := row_sz' hx
    have z2 := row_sz' hy
    by_cases hlt0 : i < 1
    · have hlt : i < kids.length := by rw [HL.out]; exact hlt0
      rcases HK.out with h | ⟨g, off, rfl, hcell⟩
      · rw [h] at hlt; cases hlt
      obtain ⟨cs', hel, hex⟩ := hcell i kids[i] (by simp [hlt])
      have hl5 := ExAt_len hex
      have he := hel.grows hg
      unfold eltAt at he
      rw [hl5] at he
      have zr := lt_sz (hel.grows hg).lt
      have e3 : segOk (off + i * 5) 5 (wr.row g) = true := he.1
      have e4 : segV (off + i * 5) 5 (wr.row g) = .agg cs'.toArray := he.2
      have c1 := fun W (hW : w.grows W) => IH.out i hlt cs' W (hex.grows hW)
      have hnx : ((kids.take (i + 1)).map V).flatMap ratL = ((kids.take i).map V).flatMap ratL ++ ratL (V kids[i]) := by
        rw [List.take_succ_eq_append_getElem hlt, List.map_append, List.flatMap_append]; simp
      have hbs : w.heap.size + 1 + 1 ≤ wr.heap.size := z2.1
      obtain ⟨k0, k1, k2, k3, va, vl, vc, rfl⟩ := ExAt_vals hex
      generalize V kids[i] = q at *
      obtain ⟨q1, q2⟩ := q
      have C1 := Lib.hid c1; have HNX := Lib.hid hnx; clear c1 hel he hex hl5 hcell IH HK hnx
      go_wp2_with (first | (go_at_call 58; (with_reducible refine (C1.out _ (by repeat (with_reducible first | assumption | exact grA | apply grB | apply grC | apply grD | refine grE ?_ (by omega) _ | refine grF ?_ (by omega) _ _))).mono ?_); rintro e w1 ⟨rfl, x1, rfl⟩) | (at_builtin; refine wpList_app w (w.heap.size + 1 + 1) rfl (.tmp 13) (.tmp 16) _ rfl 23 (.agg #[.int .i64 0, .int .i64 0]) 2 16 Try.underlying85 (by kernel_rfl) rfl (by omega) (by omega) _ i _ rfl (HO.out.grows (by repeat (with_reducible first | assumption | exact grA | apply grB | apply grC | apply grD | refine grE ?_ (by omega) _ | refine grF ?_ (by omega) _ _))) _ 1 _ [.int .i64 q1, .int .i64 q2] rfl rfl (cells_of_row (e := 23) (fr := (0, 0)) (by simp [go_sem])) (by simp [Value.oneCell']) (by omega) (by repeat (with_reducible first | assumption | exact grA | apply grB | apply grC | apply grD | refine grE ?_ (by omega) _ | refine grF ?_ (by omega) _ _)) (by omega) (by simp; omega) ?_; intro v' w' hg' HO' HR' HG' HA'))
      go_wp2_with fail
      go_roundw
      case rel => exact ⟨i + 1, by omega, by go_num, (by rw [HNX.out]; exact HO'), hg', (HR'.out _ (by omega)).trans (by simp [go_sem, hx, z1]), (HR'.out _ (by omega)).trans (by simp [go_sem, hy, z2])⟩
      case measure => simp [intOf]; omega
    · obtain rfl : i = 1 := by omega
      have hO := HO.out
      rw [List.take_of_length_le (by rw [HL.out]; exact Nat.le_refl _)] at hO
      have hO' : wr.ownsRow (w.heap.size + 1 + 1) 23 2 u3 (kids.map V).length ((kids.map V).flatMap ratL) := by rw [List.length_map, HL.out]; exact hO
      have hR := RatsAt_of_owns hO' HI.out
      obtain ⟨p, hp⟩ : ∃ p, kids.map V = [p] := len_one (by rw [List.length_map]; exact HL.out)
      have hres := HRES.out
      rw [hp] at hR hres
      obtain ⟨a', cap', rfl, hlc', hc', hI', hE⟩ := hR
      simp only [List.length_cons, List.length_nil, Nat.zero_add, Nat.reduceAdd] at hlc' ⊢
      rcases hE with h | ⟨g', off', rfl, hcell'⟩
      · cases h
      have E0 := hcell' 0 p rfl
      simp only [Nat.zero_mul, Nat.add_zero, Nat.reduceMul, Nat.one_mul] at E0
      have eo0 : segOk (off') 2 (wr.row g') = true := E0.1
      have ev0 : segV (off') 2 (wr.row g') = ratV p := E0.2
      have I0 := hI' p (by simp)
      have zg := lt_sz E0.lt
      change negQ p = (R1, R2) at hres
      obtain ⟨p1, p2⟩ := p
      have c0 := fun W => ratNeg_any p1 p2 W I0.1 I0.2
      rw [hres] at c0
      have C1 := Lib.hid c0; clear c0 hO hO' HO HI HRES IH HK HL hp hres hcell' hI' E0 I0
      go_wp2_with (first | (go_at_call 86; (with_reducible refine (C1.out _).mono ?_); rintro e w1 ⟨rfl, x1, rfl⟩) | ((with_reducible show bodyPost _ _ _ _ _ _); exact ret_23 rfl rfl (by simp [go_sem, hx, hy, z1, z2]) rfl ⟨by simp [go_sem, hx, hy, z1, z2], (by repeat (with_reducible first | assumption | exact grA | apply grB | apply grC | apply grD | refine grE ?_ (by omega) _ | refine grF ?_ (by omega) _ _))⟩))

set_option maxRecDepth 100000 in
set_option maxHeartbeats 4000000 in
theorem number_k5 (m : Nat) (IH0 : NumIH m) (kids : List Ex) (a : Option Addr) (cap left : Nat) (w : World) (hlc : 1 ≤ cap) (hc : cap ≤ 9223372036854775807) (hkids : KidsAt w m kids a)
    (hmay : kids.all (mayE m left) = true) (hsz : szE (m + 1) (.mk 5 0 0 0 kids) ≤ 1048576) (hbd : ∀ t ∈ kids, bdE m t) (hok : kids.length = 1) :
    Calls Try.prog 58 #[.agg #[.int .i64 5, .int .i64 0, .int .i64 0, .int .i64 0, .slice a 1 cap]] w (Gives w (ratV (divQ (1, 1) ((kids.map (numE m)).getD 0 (0, 0))))) := by
  have hn : kids.length < 1048576 := Nat.lt_of_lt_of_le szE_kids hsz
  have hI : ∀ p ∈ (kids.map (numE m)), I64p p := fun p hp => by
    obtain ⟨t, ht, rfl⟩ := List.mem_map.1 hp
    exact numE_bd m t (hbd t ht)
  generalize hV : numE m = V at *
  have IH : ∀ i (hlt : i < kids.length) cs' W, ExAt W m kids[i] cs' → Calls Try.prog 58 #[.agg cs'.toArray] W (Gives W (ratV (V kids[i]))) :=
    fun i hlt cs' W h => hV ▸ IH0 _ _ left _ h (List.all_eq_true.1 hmay _ (List.getElem_mem hlt)) (Nat.le_of_lt (Nat.lt_of_lt_of_le (szE_kid (List.getElem_mem hlt)) hsz))
  clear hV
  clear hsz hbd hmay IH0
  have IH := Lib.hid IH
  have HK := Lib.hid hkids; have HI := Lib.hid hI; clear hkids hI
  generalize hres : divQ (1, 1) ((kids.map V).getD 0 (0, 0)) = res at *
  have HRES := Lib.hid hres; clear hres
  obtain ⟨R1, R2⟩ := res
  have HL := Lib.hid hok; rw [hok] at hn; clear hok
  go_enter Try.func58, Try.ntmps58
  go_wp2_with fail
  go_loopw [3, 9] (fun v3 v9 wr => ∃ (i : Nat), i ≤ 1 ∧ v9 = .int .i64 i ∧ Hid (wr.ownsRow (w.heap.size + 1 + 1) 23 2 v3 i (((kids.take i).map V).flatMap ratL)) ∧ w.grows wr ∧ wr.row w.heap.size = some (.cells #[.int .i64 5, .int .i64 0, .int .i64 0, .int .i64 0, .slice a 1 cap] 26) ∧ wr.row (w.heap.size + 1) = some (.cells #[.int .i64 0, .int .i64 0] 23)) (fun _ i _ => 1 - (intOf i).toNat)
  case atStart => exact ⟨0, Nat.zero_le _, rfl, World.ownsRow_nil _ _ _ _, (by repeat (with_reducible first | assumption | exact grA | apply grB | apply grC | apply grD | refine grE ?_ (by omega) _ | refine grF ?_ (by omega) _ _)), by simp [go_sem], by simp [go_sem]⟩
  case round =>
    obtain ⟨i, hi, rfl, HO, hg, hx, hy⟩ := hrel
    have z1 := row_sz' hx
    have z2 := row_sz' hy
    by_cases hlt0 : i < 1
    · have hlt : i < kids.length := by rw [HL.out]; exact hlt0
      rcases HK.out with h | ⟨g, off, rfl, hcell⟩
      · rw [h] at hlt; cases hlt
      obtain ⟨cs', hel, hex⟩ := hcell i kids[i] (by simp [hlt])
      have hl5 := ExAt_len hex
      have he := hel.grows hg
      unfold eltAt at he
      rw [hl5] at he
      have zr := lt_sz (hel.grows hg).lt
      have e3 : segOk (off + i * 5) 5 (wr.row g) = true := he.1
      have e4 : segV (off + i * 5) 5 (wr.row g) = .agg cs'.toArray := he.2
      have c1 := fun W (hW : w.grows W) => IH.out i hlt cs' W (hex.grows hW)
      have hnx : ((kids.take (i + 1)).map V).flatMap ratL = ((kids.take i).map V).flatMap ratL ++ ratL (V kids[i]) := by
        rw [List.take_succ_eq_append_getElem hlt, List.map_append, List.flatMap_append]; simp
      have hbs : w.heap.size + 1 + 1 ≤ wr.heap.size := z2.1
      obtain ⟨k0, k1, k2, k3, va, vl, vc, rfl⟩ := ExAt_vals hex
      generalize V kids[i] = q at *
      obtain ⟨q1, q2⟩ := q
      have C1 := Lib.hid c1; have HNX := Lib.hid hnx; clear c1 hel he hex hl5 hcell IH HK hnx
      go_wp2_with (first | (go_at_call 58; (with_reducible refine (C1.out _ (by repeat (with_reducible first | assumption | exact grA | apply grB | apply grC | apply grD | refine grE ?_ (by omega) _ | refine grF ?_ (by omega) _ _))).mono ?_); rintro e w1 ⟨rfl, x1, rfl⟩) | (at_builtin; refine wpList_app w (w.heap.size + 1 + 1) rfl (.tmp 13) (.tmp 16) _ rfl 23 (.agg #[.int .i64 0, .int .i64 0]) 2 16 Try.underlying85 (by kernel_rfl) rfl (by omega) (by omega) _ i _ rfl (HO.out.grows (by repeat (with_reducible first | assumption | exact grA | apply grB | apply grC | apply grD | refine grE ?_ (by omega) _ | refine grF ?_ (by omega) _ _))) _ 1 _ [.int .i64 q1, .int .i64 q2] rfl rfl (cells_of_row (e := 23) (fr := (0, 0)) (by simp [go_sem])) (by simp [Value.oneCell']) (by omega) (by repeat (with_reducible first | assumption | exact grA | apply grB | apply grC | apply grD | refine grE ?_ (by omega) _ | refine grF ?_ (by omega) _ _)) (by omega) (by simp; omega) ?_; intro v' w' hg' HO' HR' HG' HA'))
      go_wp2_with fail
      go_roundw
      case rel => exact ⟨i + 1, by omega, by go_num, (by rw [HNX.out]; exact HO'), hg', (HR'.out _ (by omega)).trans (by simp [go_sem, hx, z1]), (HR'.out _ (by omega)).trans (by simp [go_sem, hy, z2])⟩
      case measure => simp [intOf]; omega
    · obtain rfl : i = 1 := by omega
      have hO := HO.out
      rw [List.take_of_length_le (by rw [HL.out]; exact Nat.le_refl _)] at hO
      have hO' : wr.ownsRow (w.heap.size + 1 + 1) 23 2 u3 (kids.map V).length ((kids.map V).flatMap ratL) := by rw [List.length_map, HL.out]; exact hO
      have hR := RatsAt_of_owns hO' HI.out
      obtain ⟨p, hp⟩ : ∃ p, kids.map V = [p] := len_one (by rw [List.length_map]; exact HL.out)
      have hres := HRES.out
      rw [hp] at hR hres
      obtain ⟨a', cap', rfl, hlc', hc', hI', hE⟩ := hR
      simp only [List.length_cons, List.length_nil, Nat.zero_add, Nat.reduceAdd] at hlc' ⊢
      rcases hE with h | ⟨g', off', rfl, hcell'⟩
      · cases h
      have E0 := hcell' 0 p rfl
      simp only [Nat.zero_mul, Nat.add_zero, Nat.reduceMul, Nat.one_mul] at E0
      have eo0 : segOk (off') 2 (wr.row g') = true := E0.1
      have ev0 : segV (off') 2 (wr.row g') = ratV p := E0.2
      have I0 := hI' p (by simp)
      have zg := lt_sz E0.lt
      change divQ (1, 1) p = (R1, R2) at hres
      obtain ⟨p1, p2⟩ := p
      have c0 := fun W => ratDiv_any 1 1 p1 p2 W (by unfold I64; omega) (by unfold I64; omega) I0.1 I0.2
      rw [hres] at c0
      have C1 := Lib.hid c0; clear c0 hO hO' HO HI HRES IH HK HL hp hres hcell' hI' E0 I0
      go_wp2_with (first | (go_at_call 87; (with_reducible refine (C1.out _).mono ?_); rintro e w1 ⟨rfl, x1, rfl⟩) | ((with_reducible show bodyPost _ _ _ _ _ _); exact ret_23 rfl rfl (by simp [go_sem, hx, hy, z1, z2]) rfl ⟨by simp [go_sem, hx, hy, z1, z2], (by repeat (with_reducible first | assumption | exact grA | apply grB | apply grC | apply grD | refine grE ?_ (by omega) _ | refine grF ?_ (by omega) _ _))⟩))

set_option maxRecDepth 100000 in
set_option maxHeartbeats 4000000 in
theorem number_k8 (m : Nat) (IH0 : NumIH m) (kids : List Ex) (a : Option Addr) (cap left : Nat) (w : World) (hlc : 3 ≤ cap) (hc : cap ≤ 9223372036854775807) (hkids : KidsAt w m kids a)
    (hmay : kids.all (mayE m left) = true) (hsz : szE (m + 1) (.mk 8 0 0 0 kids) ≤ 1048576) (hbd : ∀ t ∈ kids, bdE m t) (hok : kids.length = 3) :
    Calls Try.prog 58 #[.agg #[.int .i64 8, .int .i64 0, .int .i64 0, .int .i64 0, .slice a 3 cap]] w (Gives w (ratV (bestQ 1 [(kids.map (numE m)).getD 0 (0, 0), bestQ (-1) [(kids.map (numE m)).getD 1 (0, 0), (kids.map (numE m)).getD 2 (0, 0)]]))) := by
  have hn : kids.length < 1048576 := Nat.lt_of_lt_of_le szE_kids hsz
  have hI : ∀ p ∈ (kids.map (numE m)), I64p p := fun p hp => by
    obtain ⟨t, ht, rfl⟩ := List.mem_map.1 hp
    exact numE_bd m t (hbd t ht)
  generalize hV : numE m = V at *
  have IH : ∀ i (hlt : i < kids.length) cs' W, ExAt W m kids[i] cs' → Calls Try.prog 58 #[.agg cs'.toArray] W (Gives W (ratV (V kids[i]))) :=
    fun i hlt cs' W h => hV ▸ IH0 _ _ left _ h (List.all_eq_true.1 hmay _ (List.getElem_mem hlt)) (Nat.le_of_lt (Nat.lt_of_lt_of_le (szE_kid (List.getElem_mem hlt)) hsz))
  clear hV
  clear hsz hbd hmay IH0
  have IH := Lib.hid IH
  have HK := Lib.hid hkids; have HI := Lib.hid hI; clear hkids hI
  generalize hres : bestQ 1 [(kids.map V).getD 0 (0, 0), bestQ (-1) [(kids.map V).getD 1 (0, 0), (kids.map V).getD 2 (0, 0)]] = res at *
  have HRES := Lib.hid hres; clear hres
  obtain ⟨R1, R2⟩ := res
  have HL := Lib.hid hok; rw [hok] at hn; clear hok
  go_enter Try.func58, Try.ntmps58
  go_wp2_with fail
  go_loopw [3, 9] (fun v3 v9 wr => ∃ (i : Nat), i ≤ 3 ∧ v9 = .int .i64 i ∧ Hid (wr.ownsRow (w.heap.size + 1 + 1) 23 2 v3 i (((kids.take i).map V).flatMap ratL)) ∧ w.grows wr ∧ wr.row w.heap.size = some (.cells #[.int .i64 8, .int .i64 0, .int .i64 0, .int .i64 0, .slice a 3 cap] 26) ∧ wr.row (w.heap.size + 1) = some (.cells #[.int .i64 0, .int .i64 0] 23)) (fun _ i _ => 3 - (intOf i).toNat)
  case atStart => exact ⟨0, Nat.zero_le _, rfl, World.ownsRow_nil _ _ _ _, (by repeat (with_reducible first | assumption | exact grA | apply grB | apply grC | apply grD | refine grE ?_ (by omega) _ | refine grF ?_ (by omega) _ _)), by simp [go_sem], by simp [go_sem]⟩
  case round =>
    obtain ⟨i, hi, rfl, HO, hg, hx, hy⟩ := hrel
    have z1 := row_sz' hx
    have z2 := row_sz' hy
    by_cases hlt0 : i < 3
    · have hlt : i < kids.length := by rw [HL.out]; exact hlt0
      rcases HK.out with h | ⟨g, off, rfl, hcell⟩
      · rw [h] at hlt; cases hlt
      obtain ⟨cs', hel, hex⟩ := hcell i kids[i] (by simp [hlt])
      have hl5 := ExAt_len hex
      have he := hel.grows hg
      unfold eltAt at he
      rw [hl5] at he
      have zr := lt_sz (hel.grows hg).lt
      have e3 : segOk (off + i * 5) 5 (wr.row g) = true := he.1
      have e4 : segV (off + i * 5) 5 (wr.row g) = .agg cs'.toArray := he.2
      have c1 := fun W (hW : w.grows W) => IH.out i hlt cs' W (hex.grows hW)
      have hnx : ((kids.take (i + 1)).map V).flatMap ratL = ((kids.take i).map V).flatMap ratL ++ ratL (V kids[i]) := by
        rw [List.take_succ_eq_append_getElem hlt, List.map_append, List.flatMap_append]; simp
      have hbs : w.heap.size + 1 + 1 ≤ wr.heap.size := z2.1
      obtain ⟨k0, k1, k2, k3, va, vl, vc, rfl⟩ := ExAt_vals hex
      generalize V kids[i] = q at *
      obtain ⟨q1, q2⟩ := q
      have C1 := Lib.hid c1; have HNX := Lib.hid hnx; clear c1 hel he hex hl5 hcell IH HK hnx
      go_wp2_with (first | (go_at_call 58; (with_reducible refine (C1.out _ (by repeat (with_reducible first | assumption | exact grA | apply grB | apply grC | apply grD | refine grE ?_ (by omega) _ | refine grF ?_ (by omega) _ _))).mono ?_); rintro e w1 ⟨rfl, x1, rfl⟩) | (at_builtin; refine wpList_app w (w.heap.size + 1 + 1) rfl (.tmp 13) (.tmp 16) _ rfl 23 (.agg #[.int .i64 0, .int .i64 0]) 2 16 Try.underlying85 (by kernel_rfl) rfl (by omega) (by omega) _ i _ rfl (HO.out.grows (by repeat (with_reducible first | assumption | exact grA | apply grB | apply grC | apply grD | refine grE ?_ (by omega) _ | refine grF ?_ (by omega) _ _))) _ 1 _ [.int .i64 q1, .int .i64 q2] rfl rfl (cells_of_row (e := 23) (fr := (0, 0)) (by simp [go_sem])) (by simp [Value.oneCell']) (by omega) (by repeat (with_reducible first | assumption | exact grA | apply grB | apply grC | apply grD | refine grE ?_ (by omega) _ | refine grF ?_ (by omega) _ _)) (by omega) (by simp; omega) ?_; intro v' w' hg' HO' HR' HG' HA'))
      go_wp2_with fail
      go_roundw
      case rel => exact ⟨i + 1, by omega, by go_num, (by rw [HNX.out]; exact HO'), hg', (HR'.out _ (by omega)).trans (by simp [go_sem, hx, z1]), (HR'.out _ (by omega)).trans (by simp [go_sem, hy, z2])⟩
      case measure => simp [intOf]; omega
    · obtain rfl : i = 3 := by omega
      have hO := HO.out
      rw [List.take_of_length_le (by rw [HL.out]; exact Nat.le_refl _)] at hO
      have hO' : wr.ownsRow (w.heap.size + 1 + 1) 23 2 u3 (kids.map V).length ((kids.map V).flatMap ratL) := by rw [List.length_map, HL.out]; exact hO
      have hR := RatsAt_of_owns hO' HI.out
      obtain ⟨p, q, r, hp⟩ : ∃ p q r, kids.map V = [p, q, r] := len_three (by rw [List.length_map]; exact HL.out)
      have hres := HRES.out
      rw [hp] at hR hres
      obtain ⟨a', cap', rfl, hlc', hc', hI', hE⟩ := hR
      simp only [List.length_cons, List.length_nil, Nat.zero_add, Nat.reduceAdd] at hlc' ⊢
      rcases hE with h | ⟨g', off', rfl, hcell'⟩
      · cases h
      have E0 := hcell' 0 p rfl
      simp only [Nat.zero_mul, Nat.add_zero, Nat.reduceMul, Nat.one_mul] at E0
      have eo0 : segOk (off') 2 (wr.row g') = true := E0.1
      have ev0 : segV (off') 2 (wr.row g') = ratV p := E0.2
      have I0 := hI' p (by simp)
      have E1 := hcell' 1 q rfl
      simp only [Nat.zero_mul, Nat.add_zero, Nat.reduceMul, Nat.one_mul] at E1
      have eo1 : segOk (off' + 2) 2 (wr.row g') = true := E1.1
      have ev1 : segV (off' + 2) 2 (wr.row g') = ratV q := E1.2
      have I1 := hI' q (by simp)
      have E2 := hcell' 2 r rfl
      simp only [Nat.zero_mul, Nat.add_zero, Nat.reduceMul, Nat.one_mul] at E2
      have eo2 : segOk (off' + 4) 2 (wr.row g') = true := E2.1
      have ev2 : segV (off' + 4) 2 (wr.row g') = ratV r := E2.2
      have I2 := hI' r (by simp)
      have zg := lt_sz E0.lt
      change bestQ 1 [p, bestQ (-1) [q, r]] = (R1, R2) at hres
      have is := bestQ_bd (way := -1) (l := [q, r]) (fun x hx => by rcases List.mem_cons.1 hx with rfl | hx; exact I1; rw [List.mem_singleton.1 hx]; exact I2)
      have l1 : ∀ W G, W.row G = some (.cells #[.int .i64 q.1, .int .i64 q.2, .int .i64 r.1, .int .i64 r.2] 23) → Calls Try.prog 88 #[.slice (some ⟨G, 0, none⟩) 2 2] W (Gives W (ratV (bestQ (-1) [q, r]))) :=
        fun W G h => ratLeast_any _ _ W (rats2 h I1 I2)
      generalize bestQ (-1) [q, r] = s at *
      have m1 : ∀ W G, W.row G = some (.cells #[.int .i64 p.1, .int .i64 p.2, .int .i64 s.1, .int .i64 s.2] 23) → Calls Try.prog 89 #[.slice (some ⟨G, 0, none⟩) 2 2] W (Gives W (ratV (R1, R2))) :=
        fun W G h => hres ▸ ratMost_any _ _ W (rats2 h I0 is)
      obtain ⟨p1, p2⟩ := p
      obtain ⟨q1, q2⟩ := q
      obtain ⟨r1', r2'⟩ := r
      obtain ⟨s1, s2⟩ := s
      dsimp only at l1 m1
      have L1 := Lib.hid l1; have M1 := Lib.hid m1; clear l1 m1 hO hO' HO HI HRES IH HK HL hp hres hcell' hI' E0 E1 E2 I0 I1 I2 is
      go_wp2_with fail
      refine wp_region_plus_seq_tail 13 (by kernel_rfl) (by kernel_rfl) (fun x0 => ?_)
      simp only [List.take_succ_cons, List.take_zero, List.drop_succ_cons, List.drop_zero]
      repeat (any_goals (first | (refine wpSeqL_free rfl ?_; first | (go_big_quiet_skip; refine wpQuiet_nil ?_) | (go_big_quiet_step (fail); refine wpQuiet_nil ?_) | (refine wpQuiet_step (fun K hK => ?_); go_simp; split <;> (refine hK _ ?_; clear hK K; refine wpQuiet_nil ?_))) | (refine wpSeqL_link rfl (fun K hK => ?_); go_simp; first | first | (refine hK _ _ (by show World.grows _ _; repeat (first | assumption | exact grA | apply grB | apply grC | apply grD)) ?_; clear hK K) | (((first | (go_at_call 88; (with_reducible refine (L1.out _ _ ?_).mono ?_); (simp [go_sem]); rintro e w1 ⟨rfl, x1, rfl⟩) | (go_at_call 89; (with_reducible refine (M1.out _ _ ?_).mono ?_); (simp [go_sem]); rintro e w1 ⟨rfl, x2, rfl⟩))); refine ⟨_, rfl, hK _ _ (by show World.grows _ _; repeat (first | assumption | exact grA | apply grB | apply grC | apply grD)) ?_⟩; clear hK K) | (split <;> (first | (refine hK _ _ (by show World.grows _ _; repeat (first | assumption | exact grA | apply grB | apply grC | apply grD)) ?_; clear hK K) | (((first | (go_at_call 88; (with_reducible refine (L1.out _ _ ?_).mono ?_); (simp [go_sem]); rintro e w1 ⟨rfl, x1, rfl⟩) | (go_at_call 89; (with_reducible refine (M1.out _ _ ?_).mono ?_); (simp [go_sem]); rintro e w1 ⟨rfl, x2, rfl⟩))); refine ⟨_, rfl, hK _ _ (by show World.grows _ _; repeat (first | assumption | exact grA | apply grB | apply grC | apply grD)) ?_⟩; clear hK K))))))
      all_goals (refine wpSeqL_end ?_)
      go_wp2_with (first | ((with_reducible show bodyPost _ _ _ _ _ _); exact ret_23 rfl rfl (by simp [go_sem, hx, hy, z1, z2]) rfl ⟨by simp [go_sem, hx, hy, z1, z2], (by repeat (with_reducible first | assumption | exact grA | apply grB | apply grC | apply grD | refine grE ?_ (by omega) _ | refine grF ?_ (by omega) _ _))⟩))

set_option maxRecDepth 100000 in
set_option maxHeartbeats 4000000 in
theorem number_k1 (n d u : Int) (a : Option Addr) (cap : Nat) (w : World) (hc : cap ≤ 9223372036854775807) :
    Calls Try.prog 58 #[.agg #[.int .i64 1, .int .i64 n, .int .i64 d, .int .i64 u, .slice a 0 cap]] w (Gives w (ratV (n, d))) := by
  go_enter Try.func58, Try.ntmps58
  go_wp2_with fail
  go_loopw [9] (fun v9 wr => v9 = .int .i64 0 ∧ w.grows wr ∧ wr.row w.heap.size = some (.cells #[.int .i64 1, .int .i64 n, .int .i64 d, .int .i64 u, .slice a 0 cap] 26) ∧ wr.row (w.heap.size + 1) = some (.cells #[.int .i64 0, .int .i64 0] 23)) (fun _ _ => 0)
  case atStart => exact ⟨rfl, (by repeat (with_reducible first | assumption | exact grA | apply grB | apply grC | apply grD | refine grE ?_ (by omega) _ | refine grF ?_ (by omega) _ _)), by simp [go_sem], by simp [go_sem]⟩
  case round =>
    obtain ⟨rfl, hg, hx, hy⟩ := hrel
    have z1 := row_sz' hx
    have z2 := row_sz' hy
    go_wp2_with (first | ((with_reducible show bodyPost _ _ _ _ _ _); exact ret_23 rfl rfl (by simp [go_sem, hx, hy, z1, z2]) rfl ⟨by simp [go_sem, hx, hy, z1, z2], (by repeat (with_reducible first | assumption | exact grA | apply grB | apply grC | apply grD | refine grE ?_ (by omega) _ | refine grF ?_ (by omega) _ _))⟩))

theorem number_any : ∀ (m : Nat), NumIH m
  | 0 => fun _ _ _ _ h _ _ => h.elim
  | m + 1 => by
    intro t cs left w h hm hsz
    have IH := number_any m
    have hb := ExAt_bd _ _ _ h
    obtain ⟨k, n, d, u, kids⟩ := t
    obtain ⟨wk, wn, wd, wu, a, cap, rfl, hlc, hc, hkids⟩ := h
    show Calls Try.prog 58 #[.agg #[.int .i64 k, .int .i64 n, .int .i64 d, .int .i64 u, .slice a kids.length cap]] w _
    unfold mayE at hm
    split at hm
    · cases hm
    split at hm
    · rename_i hk1
      subst hk1
      simp only [Bool.and_eq_true, decide_eq_true_eq] at hm
      rw [hm.1]
      exact number_k1 n d u a cap w hc
    · rename_i hk1
      simp only [Bool.and_eq_true, decide_eq_true_eq] at hm
      obtain ⟨⟨rfl, rfl⟩, rfl, hok, hall⟩ := hm
      have hkk : k = 2 ∨ k = 4 ∨ k = 6 ∨ k = 7 ∨ k = 3 ∨ k = 5 ∨ k = 8 := by
        unfold lenOk at hok
        split at hok
        · omega
        · split at hok
          · omega
          · split at hok
            · omega
            · cases hok
      rcases hkk with rfl | rfl | rfl | rfl | rfl | rfl | rfl
      · exact number_k2 m IH kids a cap _ w hlc hc hkids hall hsz hb.2 (by simpa [lenOk] using hok)
      · exact number_k4 m IH kids a cap _ w hlc hc hkids hall hsz hb.2 (by simpa [lenOk] using hok)
      · exact number_k6 m IH kids a cap _ w hlc hc hkids hall hsz hb.2 (by simpa [lenOk] using hok)
      · exact number_k7 m IH kids a cap _ w hlc hc hkids hall hsz hb.2 (by simpa [lenOk] using hok)
      · have hl : kids.length = 1 := by simpa [lenOk] using hok
        have := number_k3 m IH kids a cap _ w (hl ▸ hlc) hc hkids hall hsz hb.2 hl
        rw [hl]; exact this
      · have hl : kids.length = 1 := by simpa [lenOk] using hok
        have := number_k5 m IH kids a cap _ w (hl ▸ hlc) hc hkids hall hsz hb.2 hl
        rw [hl]; exact this
      · have hl : kids.length = 3 := by simpa [lenOk] using hok
        have := number_k8 m IH kids a cap _ w (hl ▸ hlc) hc hkids hall hsz hb.2 hl
        rw [hl]; exact this
end Go.Proofs.Ythmicnjigfcljaa
