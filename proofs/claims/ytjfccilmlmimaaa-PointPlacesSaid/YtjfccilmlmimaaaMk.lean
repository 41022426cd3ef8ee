/- Texts of the walk, one after the other; what each proves stands ahead of it. -/
import Derived.Test.YtjfccilmlmimaaaLaw24
import Derived.Test.YtjfccilmlmimaaaMp
import Derived.Test.YtjfccilmlmimaaaTurnA
import Derived.Test.YtjfccilmlmimaaaTurnX
set_option linter.unusedSimpArgs false
set_option linter.unusedVariables false
/- WALKS over point: Flips' function, Flips. No condition but that an index stands in memory. -/
namespace Go
open Go.RowKit
/-- append onto a row of the call's own: what is known of the world, in full -/
theorem wpList_appG {P : Program} {w : World} {ops : Array Oper} {rest : List Oper} {o : Oper} {a : Act} {Q : Exit → Act → World → Prop} (B : Nat) (hgd : o.guard = none) (s x : Operand) (t : TypeId)
    (ho : o.op = .call { callee := .builtin .append, args := #[s, x], argTypes := #[t, t] })
    (e : TypeId) (z : Value) (size bytes : Nat) (ht : P.underlying t = some (.slice e)) (hi : (P.info? e).map (fun i => (i.zero, i.size, i.bytes)) = some (some z, size, bytes))
    (hzs : z.cells.size = size) (hsz : 0 < size) (hby : bytes ≤ 1048576)
    (v : Value) (n : Nat) (xs : List Value) (hs : a.eval s = v) (hown : w.ownsRow B e size v n xs)
    (ad : Addr) (m c : Nat) (news : List Value) (hx : a.eval x = .slice (some ad) m c) (hl : news.length = m * size) (hnews : ∀ j u, news[j]? = some u → w.cell? (ad.add j) = some u) (h1 : ∀ u ∈ news, u.oneCell' = true)
    (hn : n + m ≤ 67108864) (hB2 : B ≤ w.heap.size)
    (h : ∀ v' w', Hid (w'.ownsRow B e size v' (n + m) (xs ++ news)) → Hid (w.grownBy w' v.ownBlock) → Hid (v'.ownBlock = v.ownBlock ∨ v'.ownBlock = some w.heap.size) → wpList P ops Q rest (a.put o.dst v') w') :
    wpList P ops Q (o :: rest) a w := by
  obtain ⟨i, hi0, hzz⟩ := Option.map_eq_some_iff.1 hi
  simp only [Prod.mk.injEq] at hzz
  obtain ⟨hz, hsz0, hby0⟩ := hzz
  refine wpList_append_own_at w hgd s x t ho B e i z size bytes ht hi0 hz hsz0 hby0 hzs hsz v n xs hs hown ad m c news hx hl hnews h1 (by simp only [maxLen]; omega)
    (Nat.le_trans (Nat.mul_le_mul hn hby) (by decide)) hB2 ?_
  intro v' w' hown' hgrow _ hat
  exact h v' w' (Lib.hid hown') (Lib.hid hgrow) (Lib.hid hat)
end Go
namespace Go.Proofs.Ytjfccilmlmimaaa
open Go.RowKit Go.Maps
/-- the cell in which Flips' function gathers, and its row -/
def FlipI (c : Nat) (w0 : World) (acc : List Ln) (W : World) (O : Nat → Prop) : Prop := ∃ v, W.row c = some (.cells #[v] 26) ∧ w0.heap.size ≤ c ∧ W.ownsRow (c + 1) 3 1 v acc.length ((acc.map Ln.i).map (Value.int .i64)) ∧ ∀ k, O k ↔ k = c ∨ v.ownBlock = some k

set_option maxRecDepth 100000 in
set_option maxHeartbeats 4000000 in
theorem flip1_any (c : Nat) (x : Ln) (A : List Int) (v : Value) (w : World) (hx : w.row c = some (.cells #[v] 26)) (ho : w.ownsRow (c + 1) 3 1 v A.length (A.map (Value.int .i64))) (hN : A.length ≤ 1048576) :
    Calls Try.prog 30 #[x.v, .pointer (some ⟨c, 0, none⟩)] w fun e w' => e = .returned (.bool true) ∧ ∃ v', w'.row c = some (.cells #[v'] 26) ∧ w'.ownsRow (c + 1) 3 1 v' (A ++ [x.i]).length ((A ++ [x.i]).map (Value.int .i64)) ∧ (v'.ownBlock = v.ownBlock ∨ ∃ k, v'.ownBlock = some k ∧ w.heap.size ≤ k) ∧ (∀ k, k ≠ c → v.ownBlock ≠ some k → k < w.heap.size → w'.row k = w.row k) ∧ w.heap.size ≤ w'.heap.size ∧ ∀ w00 : World, w00.heap.size ≤ c → w00.grows w → w00.grows w' := by
  have zx := row_sz' hx
  have hcs := zx.1
  obtain ⟨n, o, p, q, i⟩ := x
  obtain ⟨sa, sc, rfl⟩ := own_slice ho
  have HO := Lib.hid ho
  clear ho
  go_enter Try.func30, Try.ntmps30
  go_wp2_with (at_builtin; go_loud (refine wpList_appG (c + 1) rfl (.tmp 4) (.tmp 7) _ rfl 3 (.int .i64 0) 1 8 Try.underlying26 (by kernel_rfl) rfl (by omega) (by omega) _ A.length _ rfl (HO.out.grows (by repeat (with_reducible first | assumption | exact grA | apply grB | apply grC | apply grD | refine grE ?_ (by omega) _ | refine grF ?_ (by omega) _ _))) _ 1 _ [.int .i64 i] rfl rfl (cells_of_row (e := 3) (fr := (0, 0)) (by simp [go_sem])) (by simp [Value.oneCell']) (by omega) (by simp; omega) ?_; intro v' w' HO' HG' HA'; obtain ⟨sa2, sc2, rfl⟩ := own_slice HO'.out; have hx' : w'.row c = some (.cells #[.slice sa A.length sc] 26) := World.row_grown HG'.out (by simp [go_sem, hx, zx]) (fun e => by have := (HO.out.lt c e.symm).1; omega); have zx' := row_sz' hx'))
  go_ret
  refine ⟨rfl, .slice sa2 (A.length + 1) sc2, by simp [go_sem, hx', zx'], ?_, ?_, fun k h1 h2 h3 => ?_, ?_, fun w00 q1 q2 => ?_⟩
  · have := own_kept (W := w'.setCell ⟨c, 0, none⟩ (.slice sa2 (A.length + 1) sc2)) HO'.out (fun g hg => by have := (HO'.out.lt g hg).1; rw [World.row_setCell, if_neg (by omega)])
    simpa using this
  · rcases HA'.out with h | h
    · exact .inl h
    · exact .inr ⟨_, h, by simp; omega⟩
  · rw [World.row_setCell, if_neg h1]
    exact (World.row_grow HG'.out (by simp; omega) (fun e => h2 e.symm)).trans (World.grows.row_eq (by repeat (with_reducible first | assumption | exact grA | apply grB | apply grC | apply grD | refine grE ?_ (by omega) _ | refine grF ?_ (by omega) _ _)) h3)
  · have := HG'.out.size
    simp at this ⊢
    omega
  · exact World.grows.setCell' (World.grows.grown (World.grows.trans q2 (by repeat (with_reducible first | assumption | exact grA | apply grB | apply grC | apply grD | refine grE ?_ (by omega) _ | refine grF ?_ (by omega) _ _))) HG'.out (fun k hk => by have := (HO.out.lt k hk).1; omega)) (by omega) 0 _
theorem subOf_len {a b c d : Int} {p sub : List Ln} (h : SubOf a b c d p sub) : sub.length ≤ p.length := by
  have hc : ∀ {a b c d : Int}, CutL a b c d p sub → sub.length ≤ p.length := by
    rintro a b c d ⟨k1, k2, rfl, _⟩
    simp; omega
  unfold SubOf at h
  split at h
  · rw [h]; exact Nat.le_refl _
  · split at h
    · rw [h]; simp
    · split at h
      · exact hc h
      · exact hc h
theorem wants_flip (c : Nat) (w0 : World) : Wants Try.prog 30 (.pointer (some ⟨c, 0, none⟩)) w0 true (FlipI c w0) where
  keep := fun acc W W' O ⟨v, h1, h2, h3, h4⟩ hr hs => ⟨v, (hr c ((h4 c).2 (.inl rfl)) (row_sz' h1).1).trans h1, h2, own_kept h3 (fun g hg => hr g ((h4 g).2 (.inr hg)) (h3.lt g hg).2), h4⟩
  low := fun acc W O ⟨v, h1, h2, h3, h4⟩ k hk => by
    rcases (h4 k).1 hk with h | h
    · exact ⟨by omega, by rw [h]; exact (row_sz' h1).1⟩
    · have := h3.lt k h; exact ⟨by omega, this.2⟩
  call := fun acc W O x _ hN ⟨v, h1, h2, h3, h4⟩ => (flip1_any c x (acc.map Ln.i) v W h1 (by simpa using h3) (by simpa using hN)).mono fun e w' hh => by
    obtain ⟨q1, v', q2, q3, q4, q5, q6, q7⟩ := hh
    refine ⟨q1, fun k => k = c ∨ v'.ownBlock = some k, ⟨v', q2, h2, by simpa using q3, fun _ => Iff.rfl⟩, fun k hk => ?_, fun k hk hl => q5 k (fun e => hk ((h4 k).2 (.inl e))) (fun e => hk ((h4 k).2 (.inr e))) hl, q6, fun w00 q => q7 w00 (q c ((h4 c).2 (.inl rfl)))⟩
    rcases hk with h | h
    · exact .inl ((h4 k).2 (.inl h))
    · rcases q4 with e | ⟨k', e, hk'⟩
      · exact .inl ((h4 k).2 (.inr (by rw [← e]; exact h)))
      · rw [e] at h; cases h; exact .inr hk'
theorem On.belowB {ix B : Nat} {w0 W W' : World} (h : On ix w0 W) (hb : RowKit.Below B W W') (hB : w0.heap.size ≤ B) (hix : ix < w0.heap.size) : On ix w0 W' :=
  ⟨fun w00 q1 q2 => World.grows.of_below ((h.gr w00 q1 q2).below.trans (hb.mono (by omega))), Nat.le_trans h.size hb.size, fun k hk hl => (hb.block k (by omega)).trans (h.row k hk hl)⟩

set_option maxRecDepth 100000 in
set_option maxHeartbeats 8000000 in
theorem ptFlips_any (ix B : Nat) (n : Int) (l : List Ln) (nm : ByteArray) (a b c d : Int) (w : World) (hI : Idx w ix n B l) (hw : AllWf l) (hs : nm.size ≤ maxLen) (wa : I64 a) (wb : I64 b) (wc : I64 c) (wd : I64 d) (hN : l.length ≤ 1048576) (h0 : 0 ≤ n) (h1 : n ≤ 2305843009213693952) :
    Calls Try.prog 14 #[.pointer (some ⟨ix, 0, none⟩), .string nm, .agg #[.int .i64 a, .int .i64 b], .agg #[.int .i64 c, .int .i64 d]] w fun e w' => ∃ (v' : Value) (r : List Int) (sub p : List Ln) (m : Nat), e = .returned v' ∧ On ix w w' ∧ Idx w' ix (n + (m : Int)) B l ∧ IntsFrom w.heap.size w' v' r ∧ Rise r (idsOf (flipAt a b c d) sub) ∧ m ≤ sub.length ∧ Srt (ofN l l.length nm.data.toList) p ∧ SubOf a b c d p sub := by
  obtain ⟨mb, v, p, hx, hS, hpw, hp, hl⟩ := hI.look hw nm hs
  have hpN : p.length ≤ 1048576 := by rw [hS.len]; unfold ofN; exact Nat.le_trans (List.length_filter_le _ _) (by simp; omega)
  obtain ⟨va, vc, rfl, c1, c2, c3⟩ := id hp
  have hT := fun W hO hb hxW => turnFlips_any ix (.map (some mb)) n a b c d nm (some ⟨w.heap.size + 2, 0, none⟩) (FlipI (w.heap.size + 2) w) (fun k => k = w.heap.size + 2) va p.length vc p w W (wants_flip _ w) hO (show FlipI _ _ [] W _ from ⟨.slice none 0 0, hb, by omega, World.ownsRow_nil _ _ _ _, fun _ => ⟨.inl, fun h => by rcases h with h | h; exact h; cases h⟩⟩) hxW (row_sz' hx).1 h0 h1 wa wb wc wd hpN hpw hp (fun W2 m2 hO2 hx2 => ptLines_any ix mb m2 _ nm W2 hx2 (hl W2 hO2))
  have zx := row_sz' hx
  have HT := Lib.hid hT; have HI := Lib.hid hI; have HS := Lib.hid hS
  clear hT hI hS hp hl c1 c2 c3 hpw
  go_enter Try.func14, Try.ntmps14
  go_upto_region 3 with (go_at_call 29; go_loud ((with_reducible refine (HT.out _ (On.grow (On.refl ix w) (by repeat (with_reducible first | assumption | exact grA | apply grB | apply grC | apply grD | refine grE ?_ (by omega) _ | refine grF ?_ (by omega) _ _))) (by simp [go_sem]) (by simp [go_sem, hx, zx])).mono ?_); rintro e w2 ⟨rfl, O2, m, sub, hsub, hm, hO2, hx2, hC2⟩))
  obtain ⟨vv, hc1, hc2, hc3, hc4⟩ := hC2
  obtain ⟨sa, sc, rfl⟩ := own_slice hc3
  have hln := subOf_len hsub
  have hfl : (sub.filter (flipAt a b c d)).length ≤ 1048576 := by have := List.length_filter_le (flipAt a b c d) sub; omega
  have hon := once_any _ ((sub.filter (flipAt a b c d)).map Ln.i) w2 (w.heap.size + 2 + 1) (by rw [List.length_map]; exact hc3) (by rw [List.length_map]; exact hfl) (row_sz' hc1).1
  have HON := Lib.hid hon
  have zc1 := row_sz' hc1
  have HSB := Lib.hid hsub
  clear hon hc3 hc4 hsub
  go_wp2_with (go_at_call 31; go_loud ((with_reducible refine (HON.out).mono ?_); rintro e w3 ⟨v3, l3, rfl, hb3, hI3, hR3⟩))
  go_ret
  have ho3 := On.belowB hO2 hb3 (by omega) zx.1
  exact ⟨_, l3, sub, p, m, rfl, ho3, Idx.on HI.out ho3 (fun b hb => by rw [hx] at hb; cases hb; exact (hb3.block ix (by have := zx.1; omega)).trans hx2), hI3.mono (by omega), hR3, hm, HS.out, HSB.out⟩
end Go.Proofs.Ytjfccilmlmimaaa

/- WALKS over point: Crosses' function, Crosses. No condition but that an index stands in memory. -/
namespace Go.Proofs.Ytjfccilmlmimaaa
open Go.RowKit Go.Maps
/-- the cell in which Crosses' function tells -/
def CrossI (c : Nat) (w0 : World) (acc : List Ln) (W : World) (O : Nat → Prop) : Prop := W.row c = some (.cells #[.bool (!acc.isEmpty)] 4) ∧ w0.heap.size ≤ c ∧ ∀ k, O k ↔ k = c

set_option maxRecDepth 100000 in
set_option maxHeartbeats 4000000 in
theorem cross1_any (c : Nat) (x : Ln) (u : Bool) (w : World) (hx : w.row c = some (.cells #[.bool u] 4)) : Calls Try.prog 32 #[x.v, .pointer (some ⟨c, 0, none⟩)] w fun e w' => e = .returned (.bool false) ∧ On c w w' ∧ w'.row c = some (.cells #[.bool true] 4) := by
  have zx := row_sz' hx
  obtain ⟨n, o, p, q, i⟩ := x
  go_enter Try.func32, Try.ntmps32
  go_wp2_with fail
  go_ret
  refine ⟨rfl, ?_, by simp [go_sem, hx, zx]⟩
  repeat (first | exact On.refl c w | (with_reducible refine On.set ?_ _ _) | (refine On.grow ?_ (World.grows.alloc World.grows.refl _)) | (refine On.grow ?_ (World.grows.plus World.grows.refl _)))
theorem wants_cross (c : Nat) (w0 : World) : Wants Try.prog 32 (.pointer (some ⟨c, 0, none⟩)) w0 false (CrossI c w0) where
  keep := fun acc W W' O h hr hs => ⟨(hr c ((h.2.2 c).2 rfl) (row_sz' h.1).1).trans h.1, h.2⟩
  low := fun acc W O h k hk => by
    obtain rfl := (h.2.2 k).1 hk
    exact ⟨h.2.1, (row_sz' h.1).1⟩
  call := fun acc W O x _ _ h => (cross1_any c x _ W h.1).mono fun e w' hh => by
    obtain ⟨h1, h2, h3⟩ := hh
    refine ⟨h1, O, ⟨by rw [h3]; simp, h.2⟩, fun k hk => .inl hk, fun k hk hl => h2.row k (fun e => hk ((h.2.2 k).2 e)) hl, h2.size, fun w00 q1 q2 => h2.gr w00 (q1 c ((h.2.2 c).2 rfl)) q2⟩

set_option maxRecDepth 100000 in
set_option maxHeartbeats 8000000 in
theorem ptCross_any (ix B : Nat) (n : Int) (l : List Ln) (nm : ByteArray) (a b c d : Int) (w : World) (hI : Idx w ix n B l) (hw : AllWf l) (hs : nm.size ≤ maxLen) (wa : I64 a) (wb : I64 b) (wc : I64 c) (wd : I64 d) (hN : l.length ≤ 1048576) (h0 : 0 ≤ n) (h1 : n ≤ 2305843009213693952) :
    Calls Try.prog 15 #[.pointer (some ⟨ix, 0, none⟩), .string nm, .agg #[.int .i64 a, .int .i64 b], .agg #[.int .i64 c, .int .i64 d]] w fun e w' => ∃ (sub p : List Ln) (m : Nat), e = .returned (.bool (!(sub.filter (flipAt a b c d)).isEmpty)) ∧ On ix w w' ∧ Idx w' ix (n + (m : Int)) B l ∧ m ≤ sub.length ∧ Srt (ofN l l.length nm.data.toList) p ∧ SubOf a b c d p sub := by
  obtain ⟨mb, v, p, hx, hS, hpw, hp, hl⟩ := hI.look hw nm hs
  have hpN : p.length ≤ 1048576 := by rw [hS.len]; unfold ofN; exact Nat.le_trans (List.length_filter_le _ _) (by simp; omega)
  obtain ⟨va, vc, rfl, c1, c2, c3⟩ := id hp
  have hT := fun W hO hb hxW => turnCross_any ix (.map (some mb)) n a b c d nm (some ⟨w.heap.size + 2, 0, none⟩) (CrossI (w.heap.size + 2) w) (fun k => k = w.heap.size + 2) va p.length vc p w W (wants_cross _ w) hO (show CrossI _ _ [] W _ from ⟨hb, by omega, fun _ => Iff.rfl⟩) hxW (row_sz' hx).1 h0 h1 wa wb wc wd hpN hpw hp (fun W2 m2 hO2 hx2 => ptLines_any ix mb m2 _ nm W2 hx2 (hl W2 hO2))
  have zx := row_sz' hx
  have HT := Lib.hid hT; have HI := Lib.hid hI; have HS := Lib.hid hS
  clear hT hI hS hp hl c1 c2 c3 hpw
  go_enter Try.func15, Try.ntmps15
  go_wp2_with (go_at_call 29; go_loud ((with_reducible refine (HT.out _ (On.grow (On.refl ix w) (by repeat (with_reducible first | assumption | exact grA | apply grB | apply grC | apply grD | refine grE ?_ (by omega) _ | refine grF ?_ (by omega) _ _))) (by simp [go_sem]) (by simp [go_sem, hx, zx])).mono ?_); rintro e w2 ⟨rfl, O2, m, sub, hsub, hm, hO2, hx2, hC2⟩; have hc2 := hC2.1; have zc2 := row_sz' hc2))
  go_ret
  refine ⟨sub, p, m, ?_, hO2, Idx.on HI.out hO2 (fun b hb => by rw [hx] at hb; cases hb; exact hx2), hm, HS.out, hsub⟩
  show Ending.returned (.bool (!(List.take 1 (List.filter (flipAt a b c d) sub)).isEmpty)) = _
  cases List.filter (flipAt a b c d) sub <;> simp
end Go.Proofs.Ytjfccilmlmimaaa

/- WALKS over point: what the statements see of an index: True, Flips, Crosses told of all lines. No condition but that an index stands in memory. -/
namespace Go.Proofs.Ytjfccilmlmimaaa
open Go.RowKit Go.Maps
theorem lines_wf {w : World} {S : Nat → Prop} {v : Value} {l : List Ln} (h : SlAt w S 5 LnR v l) : AllWf l := fun x hx => by
  obtain ⟨_, _, _, _, _, h3⟩ := h
  rcases h3 with h0 | ⟨_, _, _, _, h4⟩
  · rw [h0] at hx; cases hx
  · obtain ⟨q, hq, rfl⟩ := List.mem_iff_getElem.1 hx
    obtain ⟨_, _, _, _, wf⟩ := h4 q _ (List.getElem?_eq_getElem hq)
    exact wf
theorem Idx.grows {w W : World} {ix B : Nat} {n : Int} {l : List Ln} (h : Idx w ix n B l) (hg : w.grows W) : Idx W ix n B l :=
  h.on (On.grow (On.refl ix w) hg) fun b hb => (hg.row_eq (row_sz' hb).1).trans hb
theorem ixNew_any (v : Value) (l : List Ln) (w : World) (h : SlAt w (fun _ => True) 5 LnR v l) (hN : l.length ≤ 1048576) :
    Calls Try.prog 12 #[v] w fun e w' => ∃ ix B, e = .returned (.pointer (some ⟨ix, 0, none⟩)) ∧ w.heap.size ≤ ix ∧ w.grows w' ∧ Idx w' ix 0 B l := by
  obtain ⟨a, c, e, h1, h2, h3⟩ := id h
  have := ptNew_any a c l.length l w rfl hN (by rw [← e]; exact h)
  rw [e]
  exact this.mono fun e w' ⟨q1, q2, q3⟩ => ⟨_, _, q1, by omega, q2, q3⟩
theorem ixTrue_any (ix B : Nat) (n : Int) (l : List Ln) (nm : ByteArray) (a b : Int) (w : World) (hI : Idx w ix n B l) (hw : AllWf l) (hs : nm.size ≤ maxLen) (wa : I64 a) (wb : I64 b) (hN : l.length ≤ 1048576) :
    Calls Try.prog 20 #[.pointer (some ⟨ix, 0, none⟩), .string nm, .agg #[.int .i64 a, .int .i64 b]] w fun e w' => ∃ v' r, e = .returned v' ∧ w.grows w' ∧ IntsFrom w.heap.size w' v' r ∧ Rise r (idsOf (trueR nm a b) l) :=
  (ptTrue_any ix B n l nm a b w hI hw hs wa wb hN).mono fun e w' ⟨v', r, p, q1, q2, q3, q4, q5⟩ => ⟨v', r, q1, q2, q3, trues_rise q4 q5⟩
theorem ixFlips_any (ix B : Nat) (n : Int) (l : List Ln) (nm : ByteArray) (a b c d : Int) (w : World) (hI : Idx w ix n B l) (hw : AllWf l) (hs : nm.size ≤ maxLen) (wa : I64 a) (wb : I64 b) (wc : I64 c) (wd : I64 d) (hN : l.length ≤ 1048576) (h0 : 0 ≤ n) (h1 : n ≤ 2305843009213693952) :
    Calls Try.prog 14 #[.pointer (some ⟨ix, 0, none⟩), .string nm, .agg #[.int .i64 a, .int .i64 b], .agg #[.int .i64 c, .int .i64 d]] w fun e w' => ∃ (v' : Value) (r : List Int) (m : Nat), e = .returned v' ∧ On ix w w' ∧ Idx w' ix (n + (m : Int)) B l ∧ IntsFrom w.heap.size w' v' r ∧ Rise r (idsOf (flipR nm a b c d) l) ∧ Looks a b c d nm l m :=
  (ptFlips_any ix B n l nm a b c d w hI hw hs wa wb wc wd hN h0 h1).mono fun e w' ⟨v', r, sub, p, m, q1, q2, q3, q4, q5, q6, q7, q8⟩ => ⟨v', r, m, q1, q2, q3, q4, flips_rise q7 q8 q5, p, sub, q7, q8, q6⟩
theorem ixCross_any (ix B : Nat) (n : Int) (l : List Ln) (nm : ByteArray) (a b c d : Int) (w : World) (hI : Idx w ix n B l) (hw : AllWf l) (hs : nm.size ≤ maxLen) (wa : I64 a) (wb : I64 b) (wc : I64 c) (wd : I64 d) (hN : l.length ≤ 1048576) (h0 : 0 ≤ n) (h1 : n ≤ 2305843009213693952) :
    Calls Try.prog 15 #[.pointer (some ⟨ix, 0, none⟩), .string nm, .agg #[.int .i64 a, .int .i64 b], .agg #[.int .i64 c, .int .i64 d]] w fun e w' => ∃ (m : Nat), e = .returned (.bool (!(idsOf (flipR nm a b c d) l).isEmpty)) ∧ On ix w w' ∧ Idx w' ix (n + (m : Int)) B l ∧ Looks a b c d nm l m :=
  (ptCross_any ix B n l nm a b c d w hI hw hs wa wb wc wd hN h0 h1).mono fun e w' ⟨sub, p, m, q1, q2, q3, q4, q5, q6⟩ => ⟨m, by
    rw [q1]
    have := any_flip q5 q6
    unfold idsOf at this ⊢
    rw [List.map_eq_nil_iff, List.map_eq_nil_iff] at this
    congr 2
    cases h1 : List.filter (flipAt a b c d) sub <;> cases h2 : List.filter (flipR nm a b c d) l <;> simp_all, q2, q3, p, sub, q5, q6, q4⟩
theorem lawTruesR_any (v : Value) (l : List Ln) (nm : ByteArray) (a b : Int) (r : List Int) (w : World) (h : SlAt w (fun _ => True) 5 LnR v l) (wa : I64 a) (wb : I64 b) (hN : l.length ≤ 1048576) (hr : Rise r (idsOf (trueR nm a b) l)) :
    Calls Try.prog 21 #[v, .string nm, .agg #[.int .i64 a, .int .i64 b]] w fun e w' => ∃ v', e = .returned v' ∧ w.grows w' ∧ IntsAt w' v' r :=
  (lawTrues_any v l nm a b w h wa wb hN).mono fun e w' ⟨v', r', q1, q2, q3, q4⟩ => ⟨v', q1, q2, by rw [hr.uniq q4]; exact q3⟩
/-- the lines of awake -/
def wakeL : List Ln := [⟨"w".toUTF8, 4, 6, 1, 4⟩]
theorem idx_seg {W : World} {ix B : Nat} {n : Int} {l : List Ln} (h : Idx W ix n B l) : ∃ b, W.row ix = some (.cells #[.map (some b), .int .i64 n] 60) := by
  obtain ⟨b, _, _, _, _, _, _, _, h4, _⟩ := h; exact ⟨b, h4⟩
end Go.Proofs.Ytjfccilmlmimaaa
