/- WALKS over order: order.Winners: of each name the strongest claim, by rising names. No condition but that the claims stand in memory and are not too many. -/
import Derived.Test.YtajkfmnnokkcaaaIter
import Derived.Test.YtajkfmnnokkcaaaWinP
import Derived.Test.YtajkfmnnokkcaaaSort
import Derived.StringKeys
import Derived.WalkArith
set_option linter.unusedSimpArgs false
set_option linter.unusedVariables false
namespace Go
open Go.RowKit
/-- behind the search for the winners: their places, or nothing and the error -/
def Won (w : World) (l : List Cl) (t : TypeId) (e : Ending) (w' : World) : Prop :=
  w.grows w' ∧ ((l.all Cl.may = false ∧ e = .returned (.tuple #[.slice none 0 0, .int .i64 1])) ∨ (l.all Cl.may = true ∧ ∃ (v : Value) (W : List Int), e = .returned (.tuple #[v, .int .i64 0]) ∧
    Wins l W ∧ w'.ownsRow w.heap.size t 1 v W.length (W.map (Value.int .i64))))
theorem World.ownsMap.grows {H : Type} {P : Program} {k : TypeId} {R : Value → Option (DataW H × List MemPlace)} {w W : World} {b n : Nat} {D : DataW H} (h : w.ownsMap P k R b n D) (hg : w.grows W) : W.ownsMap P k R b n D := by
  have hlt := h.lt
  obtain ⟨x, rfl⟩ := hg
  obtain ⟨es, clock, hb, F, hs, hD⟩ := h
  exact ⟨es, clock, by rw [World.heap_plus_lt _ _ hlt]; exact hb, F, hs, hD⟩
end Go
namespace Go.Proofs.Ytajkfmnnokkcaaa
open Go.RowKit Go.Maps

theorem mapKeys_any (mb : Option Nat) (w : World) : Calls Try.prog 25 #[.map mb] w fun e w' => e = .returned (.func (.func 33) #[] #[.pointer (some ⟨w.heap.size, 0, none⟩)]) ∧ w' = w.alloc (.cells #[.map mb] 43) :=
  callsIn_wide.1 (Try.maps_Keys_25 mb w)

theorem zero_int (w : World) : (zeroValue 3).run Try.prog w = .ok (.int .i64 0) w := by rfl

theorem sortedKeys_any (b nn : Nat) (D0 : DataW Unit) (w : World) (hown : w.ownsMap Try.prog 9 (plainElem Try.prog 3) b nn D0) (hsz : Maps.size D0 ≤ 1048576) :
    Calls Try.prog 24 #[.func (.func 33) #[] #[.pointer (some ⟨w.heap.size, 0, none⟩)]] (w.alloc (.cells #[.map (some b)] 43)) fun e w' => ∃ (v : Value) (ns : List (List UInt8)), e = .returned v ∧ w.grows w' ∧
      Hid (ns.Pairwise (· < ·) ∧ (∀ s, s ∈ ns ↔ has D0 (.string s) = true) ∧ (∀ s ∈ ns, s.length ≤ maxLen) ∧ ns.length ≤ Maps.size D0) ∧ SlAt w' (fun _ => True) 1 (fun s cs => cs = [encStr s]) v ns := by
  have hown0 := hown
  refine (callsIn_wide.1 (Try.slices_Sorted_keys_24_25 b nn D0 _ w hown (by simp only [maxLen]; omega) (by omega))).mono ?_
  rintro e w' ⟨v, ss, rfl, hp, hr, _, hb⟩
  obtain ⟨nd, hm⟩ := mem_strKeys hown0 (string_keyed Try.underlying9) Try.underlying9
  have nd2 : ss.Nodup := hp.nodup_iff.2 nd
  obtain ⟨up, hm2⟩ := sorted_up nd2
  have hlen : (ss.mergeSort leB).length = ss.length := List.length_mergeSort ss
  refine ⟨v, ss.mergeSort leB, rfl, (World.grows.refl.alloc _).trans (World.grows.of_below hb), Lib.hid ⟨up, fun s => by rw [hm2, hp.mem_iff, hm], fun s hs => strKeys_le hown0 Try.underlying9 s (hp.mem_iff.1 ((hm2 s).1 hs)), by
    rw [hlen, hp.length_eq]; cases D0 <;> simp [strKeys, Maps.size]⟩, ?_⟩
  have ho : OwnAt w' (w.heap.size + 1) 9 1 (fun s cs => cs = [encStr s]) v (ss.mergeSort leB) := by
    refine ⟨(ss.mergeSort leB).map fun s => [encStr s], by simp, fun i s cs h1 h2 => ?_, ?_⟩
    · rw [List.getElem?_map, h1] at h2; cases h2; exact ⟨rfl, rfl⟩
    · rw [hlen]
      have e : ((ss.mergeSort leB).map fun s => [encStr s]).flatten = (ss.mergeSort leB).map encStr := by
        induction ss.mergeSort leB with
        | nil => rfl
        | cons a r ih => simp [ih]
      rw [e]; simpa using hr
  exact ho.slAt (by omega) fun _ _ => trivial

set_option maxRecDepth 100000 in
set_option maxHeartbeats 4000000 in
theorem ordWinners_any (v : Value) (l : List Cl) (w : World) (h : SlAt w (fun _ => True) 8 ClR v l) (hN : l.length ≤ 1048576) : Calls Try.prog 14 #[v] w (Won w l 3) := by
  have c1 := ordSort_any v l w h hN
  have C1 := Lib.hid c1
  clear c1
  have h0 := h
  obtain ⟨a, cap, rfl, h1, h2, h3⟩ := h
  have H3 := Lib.hid h3
  clear h3
  cases hall : l.all Cl.may with
  | false =>
    have HA := Lib.hid hall
    have c2 : Calls Try.prog 9 #[.slice a l.length cap] w fun e w' => e = .returned (.tuple #[.slice none 0 0, .int .i64 1]) ∧ w.grows w' := C1.out.mono fun e w' hs => by
      obtain ⟨hg, ⟨_, e1⟩ | ⟨hh, _⟩⟩ := hs
      · exact ⟨e1, hg⟩
      · rw [hall] at hh; cases hh
    have C2 := Lib.hid c2
    clear hall c2
    go_enter Try.func14, Try.ntmps14
    go_wp2_with (first | (go_at_call 9; (with_reducible refine (C2.out).mono ?_); rintro e w1 ⟨rfl, hg1⟩))
    go_ret2
    exact ⟨hg1, .inl ⟨HA.out, rfl⟩⟩
  | true =>
    have HA := Lib.hid hall
    have c2 : Calls Try.prog 9 #[.slice a l.length cap] w fun e w' => ∃ (g : Nat) (f : Nat → Int), e = .returned (.tuple #[.slice (some ⟨g, 0, none⟩) l.length l.length, .int .i64 0]) ∧ w.grows w' ∧
        Hid (w.heap.size ≤ g) ∧ w'.row g = some (.cells (intsL f l.length).toArray 3) ∧ Hid (Run (ltC (atC l)) f 0 l.length) := C1.out.mono fun e w' hs => by
      obtain ⟨hg, ⟨hh, _⟩ | ⟨_, g, f, h1, h2, h3, h4⟩⟩ := hs
      · rw [hall] at hh; cases hh
      · exact ⟨g, f, h1, hg, Lib.hid h2, h3, Lib.hid h4⟩
    have C2 := Lib.hid c2
    clear hall c2 C1
    have key : ∀ N, N = l.length → N ≤ cap → N ≤ 1048576 → Calls Try.prog 14 #[.slice a N cap] w (Won w l 3) := fun N eN h1 hN => by
      have EN := Lib.hid eN
      rw [← eN] at C2
      clear eN
      have hmk := fun (W : World) => run_makeMap (P := Try.prog) 43 W
      go_enter Try.func14, Try.ntmps14
      go_wp2_with (first | (go_at_call 9; (with_reducible refine (C2.out).mono ?_); rintro e w1 ⟨g, f, rfl, hg1, HGS, hx1, HR⟩; have zx1 := row_sz' hx1))
      have q1 := hg1.below.size
      have q2 := zx1.1
      have hgw : w.grows (w1.alloc (.map #[] 0)) := hg1.alloc _
      have hxw : (w1.alloc (.map #[] 0)).row g = some (.cells (intsL f N).toArray 3) := by simp [go_sem, hx1, zx1]
      have hmw : (w1.alloc (.map #[] 0)).ownsMap Try.prog 9 (plainElem Try.prog 3) w1.heap.size 0 (.map [] : DataW Unit) := World.ownsMap_made w1 _ _ _
      clear hmk hx1 hg1 zx1 C2
      generalize w1.heap.size = B at *
      generalize hW0 : w1.alloc (.map #[] 0) = w0 at *
      clear hW0 w1
      go_loopg [23] N (fun gn v23 wj => ∃ (i : Nat) (D : DataW Unit), Hid (gn + i = N ∧ i ≤ N) ∧ v23 = .int .i64 i ∧ w.grows wj ∧ wj.row g = some (.cells (intsL f N).toArray 3) ∧ Hid (wj.ownsMap Try.prog 9 (plainElem Try.prog 3) B i D ∧ MapIs D (lastF l f i)))
      case atStart => exact ⟨0, _, Lib.hid ⟨rfl, Nat.zero_le _⟩, by go_num, hgw, hxw, Lib.hid ⟨hmw, MapIs.nil⟩⟩
      case round =>
        clear hgw hxw hmw
        obtain ⟨i, D, HK, rfl, hg, hx, HM⟩ := hrel
        obtain ⟨k1, k2⟩ := HK.out
        have zx := row_sz' hx
        by_cases hlt : i < N
        · have n1 : (i : Int) < (N : Int) := by omega
          obtain ⟨k, _, kN, ek⟩ := HR.out.2.1 i (Nat.zero_le _) hlt
          rw [EN.out] at kN
          rcases H3.out with hnil | ⟨eg, off, rfl, _, h4⟩
          · rw [hnil] at kN; simp at kN
          have hgt := List.getElem?_eq_getElem kN
          obtain ⟨cs, _, el, ec, wf⟩ := h4 k _ hgt
          have hat := atC_get hgt
          generalize l[k] = x at *
          subst ec
          replace el := el.grows hg
          have ia : (intsL f N)[i]? = some (.int .i64 (k : Int)) := by rw [← ek]; exact intsL_get f hlt
          have e0 := el.cell (j := 0) rfl
          rw [World.cell?_row, Nat.add_zero] at e0
          have zg := lt_sz el.lt
          have n2 : (k : Int) < (N : Int) := by rw [EN.out]; omega
          have hk64 : (Lit.int .i64 (k : Int)).wf = true := WalkArith.wf_i64 ⟨by omega, by omega⟩
          have hps : x.p.size ≤ maxLen := wf.1
          have HM2 : Hid (MapIs (D.put (.string x.p.data.toList) (.lit (.int .i64 (k : Int)))) (lastF l f (i + 1))) := Lib.hid (by
            have := HM.out.2.put x.n (k : Int)
            have e : (fun t => if t = x.n then some (k : Int) else lastF l f i t) = lastF l f (i + 1) := by
              funext t; show _ = if t = (atC l (f i)).n then some (f i) else lastF l f i t
              rw [ek, hat]
            rw [e] at this; exact this)
          have HW := Lib.hid hk64; have HS := Lib.hid hps
          clear el hat ek wf h4 hgt hk64 hps
          obtain ⟨p, o, q, a, b1, c, r, d⟩ := x
          go_wp2_with (first | (at_mapUpdate; go_loud (refine wpList_mapUpdate_own _ rfl (.tmp 27) (.tmp 32) (.tmp 33) 43 rfl 9 3 (string_keyed Try.underlying9) Try.underlying43 _ B i D rfl HM.out.1 (by simp only [maxLen]; omega) _ _ _ rfl rfl (WideMaps.keyOf_string_mk Try.underlying9 HS.out) (.lit (.int .i64 (k : Int))) [] (plainElem_int Try.underlying3 HW.out) ?_); intro w2 hown hgrow; have hg2 : w.grows w2 := World.grows.grown hg hgrow (fun _ h => by cases h; omega); have hx2 := World.row_grown hgrow hx (by simp; omega); have HO := Lib.hid hown; clear hown hgrow))
          go_roundg (N - (i + 1))
          case rel => exact ⟨i + 1, _, Lib.hid ⟨by omega, by omega⟩, by go_num, hg2, hx2, Lib.hid ⟨HO.out, HM2.out⟩⟩
          case measure => omega
        · have n1 : ¬ (i : Int) < (N : Int) := by omega
          obtain rfl : i = N := by omega
          have s2 := sortedKeys_any B i D wr HM.out.1 (Nat.le_trans HM.out.1.size_le hN)
          have S2 := Lib.hid s2
          have hsz := HM.out.1.size_le
          clear s2
          go_wp2_with (first | (go_at_call 25; (with_reducible refine (mapKeys_any _ _).mono ?_); rintro e w' ⟨rfl, rfl⟩) | (go_at_call 24; (with_reducible refine (S2.out).mono ?_); rintro e w2 ⟨vn, ns, rfl, hg2, HN, hsl⟩; obtain ⟨na, ncap, rfl, hn1, hn2, hn3⟩ := hsl))
          have hgw : w.grows w2 := hg.trans hg2
          have hmap : w2.ownsMap Try.prog 9 (plainElem Try.prog 3) B i D := HM.out.1.grows hg2
          have hMis := HM.out.2
          obtain ⟨nup, nmem, nlen, ncnt⟩ := HN.out
          generalize hM : ns.length = M at *
          have hMN : M ≤ 1048576 := by omega
          have EM := Lib.hid hM; have HMAP := Lib.hid hmap; have HMIS := Lib.hid hMis; have HN3 := Lib.hid hn3; have HUP := Lib.hid nup; have HMEM := Lib.hid nmem; have HLEN := Lib.hid nlen
          have q3 := hgw.below.size
          clear hM hmap hMis hn3 nup nmem nlen HN HM hx zx S2 HK ncnt hsz hg2
          go_loopg [9, 39] M (fun gn v9 v39 wj => ∃ (j : Nat) (W : List Int), Hid (gn + j = M ∧ j ≤ M ∧ W.length = j) ∧ Hid (∀ (k : Nat) s v, ns[k]? = some s → W[k]? = some v → lastF l f i s = some v) ∧ v39 = .int .i64 j ∧ w2.grows wj ∧ Hid (wj.ownsRow w2.heap.size 3 1 v9 j (W.map (Value.int .i64))))
          case atStart => exact ⟨0, [], Lib.hid ⟨rfl, Nat.zero_le _, rfl⟩, Lib.hid fun k s v _ h => by simp at h, by go_num, World.grows.refl, Lib.hid (World.ownsRow_nil _ _ _ _)⟩
          case round =>
            obtain ⟨j, W, HKj, HV, rfl, hgj, HO⟩ := hrel
            obtain ⟨m1, m2, m3⟩ := HKj.out
            by_cases hlj : j < M
            · have n3 : (j : Int) < (M : Int) := by omega
              have hMM := EM.out
              rcases HN3.out with hnil | ⟨ng, noff, rfl, _, hel⟩
              · rw [hnil] at hMM; simp at hMM; omega
              have hgt := List.getElem?_eq_getElem (by omega : j < ns.length)
              obtain ⟨cs, _, el, ec⟩ := hel j _ hgt
              have hmem := (HMEM.out _).1 (List.getElem_mem (by omega : j < ns.length))
              have hln := HLEN.out _ (List.getElem_mem (by omega : j < ns.length))
              generalize ns[j] = s at *
              subst ec
              replace el := el.grows hgj
              have e0 := el.cell (j := 0) rfl
              rw [World.cell?_row, Nat.add_zero, Nat.mul_one] at e0
              have zg := lt_sz el.lt
              have hkey : keyOf Try.prog 9 (encStr s) = some (.string s) := by
                have := WideMaps.keyOf_string_mk (P := Try.prog) Try.underlying9 (s := ⟨s.toArray⟩) (by simpa [ByteArray.size] using hln)
                simpa using this
              obtain ⟨c, hlk, hat, _⟩ := (HMAP.out.grows hgj).lookup_int (string_keyed Try.underlying9) Try.underlying43 Try.underlying3 (zero_int _) hkey
              obtain ⟨b1, b2⟩ := HMIS.out.2 s
              rw [hmem] at b1
              obtain ⟨u, hu⟩ := Option.isSome_iff_exists.1 b1.symm
              have := (b2 u (.lit (.int .i64 0)) hu).symm.trans hat
              injection this with this
              injection this with _ this
              subst this
              have HV2 : Hid (∀ (k : Nat) s v, ns[k]? = some s → (W ++ [u])[k]? = some v → lastF l f i s = some v) := Lib.hid fun k s' v h1 h2 => by
                by_cases hk : k < j
                · rw [List.getElem?_append_left (by omega)] at h2
                  exact HV.out k s' v h1 h2
                · have hkj : k = j := by
                    have := (List.getElem?_eq_some_iff.1 h2).1; simp at this; omega
                  subst hkj
                  rw [List.getElem?_append_right (by omega), m3] at h2
                  simp at h2
                  rw [hgt] at h1
                  cases h1; subst h2; exact hu
              clear hu b1 b2 hat hmem hln hgt hel el HV hkey
              go_wp2_with (first | (at_builtin; refine wpList_app w2 (w2.heap.size) rfl (.tmp 43) (.tmp 47) _ rfl 3 (.int .i64 0) 1 8 Try.underlying23 (by kernel_rfl) rfl (by omega) (by omega) _ j _ rfl (HO.out.grows (by repeat (with_reducible first | assumption | exact grA | apply grB | apply grC | apply grD | refine grE ?_ (by omega) _ | refine grF ?_ (by omega) _ _))) _ 1 _ [.int .i64 u] rfl rfl (cells_of_row (e := 3) (fr := (0, 0)) (by simp [go_sem])) (by simp [Value.oneCell']) (by omega) (by repeat (with_reducible first | assumption | exact grA | apply grB | apply grC | apply grD | refine grE ?_ (by omega) _ | refine grF ?_ (by omega) _ _)) (by omega) (by simp; have := hgj.below.size; omega) ?_; intro v' w' hg' HO' HR' HG' HA'))
              go_roundg (M - (j + 1))
              case rel => exact ⟨j + 1, W ++ [u], Lib.hid ⟨by omega, by omega, by simp [m3]⟩, HV2, by go_num, hg', by simpa using HO'⟩
              case measure => omega
            · have n3 : ¬ (j : Int) < (M : Int) := by omega
              go_wp2_with fail
              go_ret2
              have hjM : j = M := by omega
              have hR := HR.out
              have hv := HV.out
              have hme := HMEM.out
              have hMi := HMIS.out.2
              have hiN := EN.out
              subst hiN
              refine ⟨hgw.trans hgj, .inr ⟨HA.out, _, W, rfl, wins_of hR HUP.out (fun s => by rw [hme, (hMi s).1]) (by rw [EM.out, m3, hjM]) hv, ?_⟩⟩
              rw [m3]
              exact (HO.out).mono_base q3
    exact key _ rfl h1 hN
end Go.Proofs.Ytajkfmnnokkcaaa
