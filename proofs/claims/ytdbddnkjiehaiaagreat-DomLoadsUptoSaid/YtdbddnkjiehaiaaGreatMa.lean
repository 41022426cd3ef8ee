/- Texts of the walk, one after the other; what each proves stands ahead of it. -/
import Derived.Below
import Derived.BigQuiet
import Derived.ChangeOld
import Derived.Deep.DeepCutAuto
import Derived.Deep.DeepMust
import Derived.Deep.LoopGhost
import Derived.Deep.QuietTactic
import Derived.Deep.RegionHeld3
import Derived.Deep.Slices
import Derived.Handy
import Derived.IntWalk
import Derived.Lib.ConvBytes
import Derived.Lib.Hide
import Derived.OpenShut
import Derived.ProofKit
import Derived.ShutString
import Derived.StillTail
import Derived.WalkKit
import Derived.WalkLawsBesides
import Derived.WalkSpells
set_option linter.unusedSimpArgs false
set_option linter.unusedVariables false
/- PLAIN ARITHMETIC: greatest common divisors. No condition; no program. -/
namespace Go

theorem gcd_emod_l (x y : Int) (hx : 0 < x) (hy : 0 ≤ y) : Int.gcd (y % x) x = Int.gcd y x := by
  obtain ⟨n, rfl⟩ := Int.eq_ofNat_of_zero_le hy
  obtain ⟨m, rfl⟩ := Int.eq_ofNat_of_zero_le (Int.le_of_lt hx)
  rw [← Int.natCast_emod]
  simp only [Int.gcd, Int.natAbs_natCast]
  rw [← Nat.gcd_rec m n, Nat.gcd_comm]

/-- a fraction that may be, and is not over -/
def sureB (n d : Int) : Bool := decide (1 ≤ d) && (decide (n ≠ -9223372036854775808) && ((Int.gcd n d : Nat) : Int) == 1)
/-- a fraction that may be -/
def mayB (n d : Int) : Bool := (decide (n = 0) && decide (d = 0)) || sureB n d
theorem sureB_of {n d : Int} (h1 : 1 ≤ d) (h2 : n ≠ -9223372036854775808) (h3 : Int.gcd n d = 1) : sureB n d = true := by simp [sureB, h1, h2, h3]
theorem sureB_no {n d : Int} (h : d < 1 ∨ n = -9223372036854775808 ∨ Int.gcd n d ≠ 1) : sureB n d = false := by
  simp only [sureB]; rcases h with h | h | h
  · have : ¬ 1 ≤ d := by omega
    simp [this]
  · simp [h]
  · have : ¬ ((Int.gcd n d : Nat) : Int) = 1 := by omega
    simp [this]

theorem gcd_natAbs_l (n d : Int) : Int.gcd (n.natAbs : Int) d = Int.gcd n d := by simp [Int.gcd]

theorem mayB_sure {n d : Int} (h : n ≠ 0 ∨ d ≠ 0) : mayB n d = sureB n d := by
  simp only [mayB]; rw [Bool.or_eq_right_iff_imp]; simp; intro a b; omega

/-- a fraction that is a size -/
def sizeB (n d : Int) : Bool := mayB n d && (decide (0 < d) && decide (0 ≤ n))
theorem sureB_may {n d : Int} : sureB n d = (mayB n d && decide (0 < d)) := by
  unfold mayB
  by_cases h : 1 ≤ d
  · have h0 : ¬ d = 0 := by omega
    have h1 : 0 < d := by omega
    simp [h0, h1]
  · have h1 : ¬ 0 < d := by omega
    rw [sureB_no (.inl (by omega))]; simp [h1]

end Go

/- SMALL LAWS: the world that is another one with more blocks ('World.plus'), and regions that draw their order whose callees only make new blocks. No condition: plain laws on worlds. -/
namespace Go
open Go.RowKit

/-- a number of the kind int, int64 -/
def I64 (n : Int) : Prop := -9223372036854775808 ≤ n ∧ n ≤ 9223372036854775807
theorem I64.lo {n : Int} (h : I64 n) : -9223372036854775808 ≤ n := h.1
theorem I64.hi {n : Int} (h : I64 n) : n ≤ 9223372036854775807 := h.2

/-- New blocks, and the count of draws. -/
structure Ext where
  bs : Array Obj
  n : Nat
instance : Nonempty Ext := ⟨⟨#[], 0⟩⟩
/-- 'w' with blocks put behind, and some draws. -/
def World.plus (w : World) (x : Ext) : World := { w with heap := w.heap ++ x.bs, drawn := x.n }

section
variable (w : World) (x y : Ext) (a : Addr) (v : Value) (o : Obj)
@[simp, go_sem] theorem World.size_plus : (w.plus x).heap.size = w.heap.size + x.bs.size := by simp [World.plus]
@[simp, go_sem] theorem World.tape_plus : (w.plus x).tape = w.tape := rfl
theorem World.heap_plus_lt {k : Nat} (h : k < w.heap.size) : (w.plus x).heap[k]? = w.heap[k]? := by
  simp only [World.plus, Array.getElem?_append]; rw [if_pos h]
@[go_sem] theorem World.cell?_plus_lt (n i : Nat) (h : n < w.heap.size) : (w.plus x).cell? ⟨n, i, none⟩ = w.cell? ⟨n, i, none⟩ := by
  unfold World.cell?; rw [World.heap_plus_lt w x h]
@[go_sem] theorem World.cell?_plus_some (h : (w.cell? a).isSome = true) : (w.plus x).cell? a = w.cell? a := by
  obtain ⟨u, hu⟩ := Option.isSome_iff_exists.1 h
  have := World.block_lt_of_cell? w a hu
  unfold World.cell?; rw [World.heap_plus_lt w x this]
@[go_sem] theorem World.frozen?_plus_lt (n i : Nat) (h : n < w.heap.size) : (w.plus x).frozen? ⟨n, i, none⟩ = w.frozen? ⟨n, i, none⟩ := by
  unfold World.frozen?; rw [World.heap_plus_lt w x h]
theorem World.plus_plus : (w.plus x).plus y = w.plus ⟨x.bs ++ y.bs, y.n⟩ := by simp [World.plus, Array.append_assoc]
@[simp, go_sem] theorem World.drew_plus : w.drew.plus x = w.plus x := by cases w; simp [World.plus, World.drew]
@[simp, go_sem] theorem World.drewN_plus (n : Nat) : (w.drewN n).plus x = w.plus x := by cases w; simp [World.plus, World.drewN]
theorem World.plus_drew : (w.plus x).drew = w.plus ⟨x.bs, x.n + 1⟩ := rfl
theorem World.drew_is_plus : w.drew = w.plus ⟨#[], w.drawn + 1⟩ := by
  show ({ w with drawn := w.drawn + 1 } : World) = { w with heap := w.heap ++ #[], drawn := w.drawn + 1 }
  rw [Array.append_empty]
theorem World.drewN_is_plus (n : Nat) : w.drewN n = w.plus ⟨#[], w.drawn + n⟩ := by
  show ({ w with drawn := w.drawn + n } : World) = { w with heap := w.heap ++ #[], drawn := w.drawn + n }
  rw [Array.append_empty]
theorem World.self_is_plus : w = w.plus ⟨#[], w.drawn⟩ := by simp [World.plus]
theorem World.alloc_is_plus : w.alloc o = w.plus ⟨#[o], w.drawn⟩ := by
  show ({ w with heap := w.heap.push o } : World) = { w with heap := w.heap ++ #[o], drawn := w.drawn }
  rw [Array.push_eq_append]
@[go_sem] theorem World.setCell_plus (n i : Nat) (h : n < w.heap.size) : (w.plus x).setCell ⟨n, i, none⟩ v = (w.setCell ⟨n, i, none⟩ v).plus x := by
  cases w
  simp only [World.setCell, World.plus] at *
  congr 1
  apply Array.ext
  · simp
  · intro k h1 h2
    simp only [Array.getElem_modify, Array.getElem_append, Array.size_modify]
    by_cases hk : n = k
    · subst hk; simp [h]
    · simp [hk]
end

@[go_sem] theorem lt_add_true {a b c : Nat} (h : a < b) : (a < b + c) = True := by simp; omega

@[go_sem] theorem lt_lv2 {a b c2 : Nat} (h : 0 < b) : (a < a + b + c2) = True := by simp; omega
@[go_sem] theorem lte_lv2 {a e b c2 : Nat} (h : e < b) : (a + e < a + b + c2) = True := by simp; omega
@[go_sem] theorem lt_lv3 {a b c2 c3 : Nat} (h : 0 < b) : (a < a + b + c2 + c3) = True := by simp; omega
@[go_sem] theorem lte_lv3 {a e b c2 c3 : Nat} (h : e < b) : (a + e < a + b + c2 + c3) = True := by simp; omega
@[go_sem] theorem lt_lv4 {a b c2 c3 c4 : Nat} (h : 0 < b) : (a < a + b + c2 + c3 + c4) = True := by simp; omega
@[go_sem] theorem lte_lv4 {a e b c2 c3 c4 : Nat} (h : e < b) : (a + e < a + b + c2 + c3 + c4) = True := by simp; omega
@[go_sem] theorem lt_lv5 {a b c2 c3 c4 c5 : Nat} (h : 0 < b) : (a < a + b + c2 + c3 + c4 + c5) = True := by simp; omega
@[go_sem] theorem lte_lv5 {a e b c2 c3 c4 c5 : Nat} (h : e < b) : (a + e < a + b + c2 + c3 + c4 + c5) = True := by simp; omega
@[go_sem] theorem lt_lv6 {a b c2 c3 c4 c5 c6 : Nat} (h : 0 < b) : (a < a + b + c2 + c3 + c4 + c5 + c6) = True := by simp; omega
@[go_sem] theorem lte_lv6 {a e b c2 c3 c4 c5 c6 : Nat} (h : e < b) : (a + e < a + b + c2 + c3 + c4 + c5 + c6) = True := by simp; omega
@[go_sem] theorem lt_lv7 {a b c2 c3 c4 c5 c6 c7 : Nat} (h : 0 < b) : (a < a + b + c2 + c3 + c4 + c5 + c6 + c7) = True := by simp; omega
@[go_sem] theorem lte_lv7 {a e b c2 c3 c4 c5 c6 c7 : Nat} (h : e < b) : (a + e < a + b + c2 + c3 + c4 + c5 + c6 + c7) = True := by simp; omega
@[go_sem] theorem lt_lv8 {a b c2 c3 c4 c5 c6 c7 c8 : Nat} (h : 0 < b) : (a < a + b + c2 + c3 + c4 + c5 + c6 + c7 + c8) = True := by simp; omega
@[go_sem] theorem lte_lv8 {a e b c2 c3 c4 c5 c6 c7 c8 : Nat} (h : e < b) : (a + e < a + b + c2 + c3 + c4 + c5 + c6 + c7 + c8) = True := by simp; omega

/-- nothing that was there has turned; there may be new blocks, and draws. -/
def World.grows (w w' : World) : Prop := ∃ x, w' = w.plus x
theorem World.grows.refl {w : World} : w.grows w := ⟨_, w.self_is_plus⟩
theorem World.grows.trans {a b c : World} (h : a.grows b) (k : b.grows c) : a.grows c := by
  obtain ⟨x, rfl⟩ := h; obtain ⟨y, rfl⟩ := k; exact ⟨_, World.plus_plus _ _ _⟩
theorem World.grows.alloc {a b : World} (h : a.grows b) (o : Obj) : a.grows (b.alloc o) := h.trans ⟨_, World.alloc_is_plus _ _⟩
theorem World.grows.drew {a b : World} (h : a.grows b) : a.grows b.drew := h.trans ⟨_, World.drew_is_plus _⟩
theorem World.grows.drewN {a b : World} (h : a.grows b) (n : Nat) : a.grows (b.drewN n) := h.trans ⟨_, World.drewN_is_plus _ _⟩
theorem World.grows.plus {a b : World} (h : a.grows b) (x) : a.grows (b.plus x) := h.trans ⟨_, rfl⟩
/-- Short names: they stand in many texts. -/
theorem grA {w : World} : w.grows w := World.grows.refl
theorem grB {a b : World} (h : a.grows b) (x) : a.grows (b.plus x) := h.plus x
theorem grC {a b : World} (h : a.grows b) (o : Obj) : a.grows (b.alloc o) := h.alloc o
theorem grD {a b : World} (h : a.grows b) : a.grows b.drew := h.drew
theorem World.grows.below {w w' : World} (h : w.grows w') : Below w.heap.size w w' := by
  obtain ⟨x, rfl⟩ := h
  exact ⟨rfl, rfl, rfl, by simp, fun k hk => World.heap_plus_lt _ _ hk⟩
theorem World.grows.of_below {w w' : World} (h : Below w.heap.size w w') : w.grows w' := by
  refine ⟨⟨w'.heap.extract w.heap.size w'.heap.size, w'.drawn⟩, ?_⟩
  obtain ⟨h1, h2, h3, h4, h5⟩ := h
  cases w; cases w'
  simp only [World.plus] at *
  subst h1 h2 h3
  congr 1
  apply Array.ext_getElem?
  intro i
  rw [Array.getElem?_append]
  split
  · rename_i hi; exact h5 i hi
  · rename_i hi
    rw [Array.getElem?_extract]
    simp only [Nat.not_lt] at hi
    split
    · congr 1; omega
    · rw [Array.getElem?_eq_none (by omega)]

/-- The post of a function that only reckons: this value; the world may have grown. -/
def Gives (w : World) (v : Value) (e : Ending) (w' : World) : Prop := e = .returned v ∧ w.grows w'

theorem Calls.plus_of {P : Program} {f : FuncId} {args : Array Value} {w : World} {x : Ext} {v : Value}
    (h : Calls P f args (w.plus x) (Gives (w.plus x) v)) : Calls P f args (w.plus x) fun e w'' => e = .returned v ∧ ∃ y, w'' = w.plus y :=
  h.mono fun _ _ ⟨he, _, hy⟩ => ⟨he, _, hy.trans (World.plus_plus _ _ _)⟩

theorem gives_same {P : Program} {f : FuncId} {args : Array Value} {w : World} {v : Value}
    (h : Calls P f args w fun e w' => e = .returned v ∧ w = w') : Calls P f args w (Gives w v) :=
  h.mono fun _ _ ⟨he, hw⟩ => ⟨he, hw ▸ World.grows.refl⟩

/-- ONE WALK IN THE TEXT's ORDER for a region that draws its order, whose operations only read and whose callees only make new blocks. -/
theorem wp_region_plus_lit {P : Program} {id : Nat} {Q : Exit → Act → World → Prop} {a : Act} {w : World} {l : List Oper} (hm : P.follows .mixedOrders = true) (hB : Region.lexB .any l.toArray = true)
    (h : wpQuiet P l.toArray (fun w' => ∃ x, w' = w.plus x) (fun a' => ∀ w', (∃ x, w' = w.plus x) → Q .normal a' w') l a) : (Code.region id l.toArray true).wp P Q a w :=
  wp_region_quiet (C := fun w' => ∃ x, w' = w.plus x) hm hB ⟨_, w.drew_is_plus⟩ (by simpa using h)

/-- '[]byte(s)' of a string that is no constant: a new row that holds its bytes. -/
theorem conv_bytes {P : Program} (w : World) (src dst e : TypeId) (s : ByteArray) {u : TypeDesc}
    (hs : P.underlying src = some u) (hd : P.underlying dst = some (.slice e)) (he : P.underlying e = some (.int .u8)) :
    ∃ (c : Nat) (z : Ext), (convert src dst (.string s)).run P w = .ok (.slice (some ⟨w.heap.size, 0, none⟩) s.size c) (w.plus z) ∧
      ∀ j, j < s.size → (w.plus z).cell? ⟨w.heap.size, j, none⟩ = some (.int .u8 (s.data.toList.getD j 0).toNat) := by
  have h0 := Lib.run_convert_string_bytes w src dst e s hs hd he
  have hb : w.grows (Lib.bytesWorld w e s) := by
    refine World.grows.of_below ⟨?_, ?_, ?_, ?_, fun k hk => Lib.bytesWorld_at_old w e s k hk⟩ <;> first | rfl | (simp only [Lib.bytesWorld, World.freeze]; split <;> rfl) | (rw [Lib.bytesWorld_size]; omega)
  obtain ⟨z, hz⟩ := hb
  refine ⟨_, z, by rw [h0, hz], fun j hj => ?_⟩
  rw [← hz]; exact Lib.bytesWorld_cell w e s j hj

theorem ret_int {k : IntKind} {a b : Int} (h : a = b) : Ending.returned (.int k a) = .returned (.int k b) := by rw [h]
theorem ret_bool {a b : Bool} (h : a = b) : Ending.returned (.bool a) = .returned (.bool b) := by rw [h]

end Go

/- PLAIN: which texts are names. No condition; no program. -/
namespace Go

/-- a letter or '_' -/
def letterB (c : UInt8) : Bool := (97 ≤ c && c ≤ 122) || ((65 ≤ c && c ≤ 90) || c == 95)
/-- may this byte stand at this place of a name? -/
def nameAt (i : Nat) (c : UInt8) : Bool := letterB c || (decide (i ≠ 0) && (c == 45 || (48 ≤ c && c ≤ 57)))
def nameFrom : Nat → List UInt8 → Bool
  | _, [] => true
  | i, c :: l => nameAt i c && nameFrom (i + 1) l
/-- is it a name? -/
def nameB (l : List UInt8) : Bool := decide (1 ≤ l.length) && (decide (l.length ≤ 64) && nameFrom 0 l)
theorem nameB_no {l : List UInt8} (h : l.length < 1 ∨ 64 < l.length) : nameB l = false := by
  unfold nameB
  rcases h with h | h
  · have : ¬ 1 ≤ l.length := by omega
    simp only [this, decide_false, Bool.false_and]
  · have : ¬ l.length ≤ 64 := by omega
    simp only [this, decide_false, Bool.false_and, Bool.and_false]

theorem letterB_iff (c : UInt8) : letterB c = true ↔
    ((97 ≤ (c.toNat : Int) ∧ (c.toNat : Int) ≤ 122) ∨ (65 ≤ (c.toNat : Int) ∧ (c.toNat : Int) ≤ 90) ∨ (c.toNat : Int) = 95) := by
  simp only [letterB, Bool.or_eq_true, Bool.and_eq_true, decide_eq_true_eq, UInt8.le_iff_toNat_le, beq_iff_eq, ← UInt8.toNat_inj]
  simp only [UInt8.reduceToNat]
  omega
theorem nameAt_iff (i : Nat) (c : UInt8) : nameAt i c = true ↔
    ((97 ≤ (c.toNat : Int) ∧ (c.toNat : Int) ≤ 122) ∨ (65 ≤ (c.toNat : Int) ∧ (c.toNat : Int) ≤ 90) ∨ (c.toNat : Int) = 95) ∨
      ((i : Int) ≠ 0 ∧ ((c.toNat : Int) = 45 ∨ 48 ≤ (c.toNat : Int) ∧ (c.toNat : Int) ≤ 57)) := by
  simp only [nameAt, letterB, Bool.or_eq_true, Bool.and_eq_true, decide_eq_true_eq, UInt8.le_iff_toNat_le, beq_iff_eq, ← UInt8.toNat_inj]
  simp only [UInt8.reduceToNat]
  omega
theorem nameFrom_step {l : List UInt8} {k : Nat} (h : k < l.length) : nameFrom k (l.drop k) = (nameAt k (l.getD k 0) && nameFrom (k + 1) (l.drop (k + 1))) := by
  rw [List.drop_eq_getElem_cons h, nameFrom, List.getD_eq_getElem?_getD, List.getElem?_eq_getElem h]; rfl
theorem nameFrom_end {l : List UInt8} {k : Nat} (h : l.length ≤ k) : nameFrom k (l.drop k) = true := by
  rw [List.drop_eq_nil_of_le h]; rfl

theorem nameB_yes {l : List UInt8} (h : 1 ≤ l.length) (h2 : l.length ≤ 64) : nameB l = nameFrom 0 l := by
  unfold nameB; simp only [h, h2, decide_true, Bool.true_and]

end Go

/- REGIONS THAT DRAW THEIR ORDER, PARTED: the first n operations only read, or call what only makes new blocks, in whatever order; the others come behind them, one by one. Laws over any program. No condition. -/
namespace Go
open Go.RowKit

section
variable {P : Program} {ops : Array Oper} {md : Region.Mode} {C : World → Prop}

/-- What is asked of the first n operations: they wait for earlier ones alone, and their guards are earlier ones. -/
def headB (md : Region.Mode) (ops : Array Oper) (n : Nat) : Bool :=
  (List.range n).all fun i => match ops[i]? with
    | some o => (o.after.all fun e => !Region.binds md e || decide (e.on < i)) && (match o.guard with | some (j, _) => decide (j < n) | none => true)
    | none => false

theorem headB_spec {n : Nat} (h : headB md ops n = true) {i : Nat} (hi : i < n) : ∃ o, ops[i]? = some o ∧ (∀ e ∈ o.after, Region.binds md e = true → e.on < i) ∧ ∀ j b, o.guard = some (j, b) → j < n := by
  have h1 := List.all_eq_true.1 h i (List.mem_range.2 hi)
  cases ho : ops[i]? with
  | none => simp [ho] at h1
  | some o =>
    simp only [ho, Bool.and_eq_true, Array.all_eq_true_iff_forall_mem, Bool.or_eq_true, Bool.not_eq_true', decide_eq_true_eq] at h1
    refine ⟨o, rfl, fun e he hb => ?_, fun j b hg => ?_⟩
    · rcases h1.1 e he with h2 | h2
      · rw [hb] at h2; cases h2
      · exact h2
    · have := h1.2; rw [hg] at this; simpa using this

theorem wanted_cut {ops H : Array Oper} {o : Oper} {n : Nat} (hH : ∀ i, i < n → H[i]? = ops[i]?) (hg : ∀ j b, o.guard = some (j, b) → j < n) (tmps : Array Value) :
    Region.wanted o (yielded H tmps) = Region.wanted o (yielded ops tmps) := by
  unfold Region.wanted
  cases hgd : o.guard with
  | none => rfl
  | some p =>
    obtain ⟨j, b⟩ := p
    have : yielded H tmps j = yielded ops tmps j := by unfold yielded; rw [hH j (hg j b hgd)]
    simp only [this]

theorem wpOp_of_cut {H : Array Oper} {n i : Nat} (hH : ∀ i, i < n → H[i]? = ops[i]?) (hB : headB md ops n = true) (hi : i < n) {a : Act} {K : Act → Prop} {K' : Act → World → Prop} {Q' : Exit → Act → World → Prop} {w : World}
    (hw : C w) (h : ∀ a w', C w' → K a → K' a w') (hq : qOp P H C i K a) : wpOp P ops Q' i K' a w := by
  have hq' : qOp P ops C i K a := by
    obtain ⟨o, ho, _, hg⟩ := headB_spec hB hi
    unfold qOp at *
    rw [hH i hi] at hq
    simp only [ho] at hq ⊢
    rwa [wanted_cut hH hg] at hq
  exact wpOp_of_qOp hw h hq'

/-- The rest, one by one, whatever fuel is left over. -/
theorem wpAny_of_seq_more {Q' : Exit → Act → World → Prop} : ∀ (l : List Oper) (k F : Nat) (listed : Array Bool) (a : Act) (w : World), l.length ≤ F → (∀ j, l[j]? = ops[k + j]?) →
    Region.seqB md ops l.length k listed = true → wpList P ops Q' l a w → wpAny P md ops Q' F listed a w
  | [], k, F, listed, a, w, _, _, hB, h => by
    have hr : Region.ready md ops listed = [] := by simpa [Region.seqB] using hB
    cases F with
    | zero => exact ⟨hr, h⟩
    | succ F => exact ⟨fun _ => h, fun i hi => by rw [hr] at hi; cases hi⟩
  | o :: l, k, F, listed, a, w, hF, hl, hB, h => by
    have h0 : ops[k]? = some o := by simpa using (hl 0).symm
    simp only [List.length_cons, Region.seqB, Bool.and_eq_true, decide_eq_true_eq] at hB
    cases F with
    | zero => simp at hF
    | succ F =>
      refine ⟨fun h1 => (by rw [hB.1] at h1; cases h1), fun i hi => ?_⟩
      rw [hB.1] at hi
      have hik : i = k := by simpa using hi
      subst hik
      have hw : wpOp P ops Q' i (wpList P ops Q' l) a w := by unfold wpOp; simp only [h0]; exact h
      exact wpOp_mono (fun a' w' h' => wpAny_of_seq_more l (i + 1) F _ a' w' (by simpa using hF) (fun j => by have := hl (j + 1); simpa [Nat.add_assoc, Nat.add_comm 1 j] using this) hB.2 h') hw

/-- The listed operations of the whole, and of the first n alone. -/
structure Cut (ops : Array Oper) (n : Nat) (listedH listed : Array Bool) : Prop where
  sizeH : listedH.size = n
  size : listed.size = ops.size
  same : ∀ i, i < n → ∀ b, listedH.getD i b = listed.getD i b

theorem Cut.set {n i : Nat} {listedH listed : Array Bool} (c : Cut ops n listedH listed) (hn : n ≤ ops.size) (hi : i < n) : Cut ops n (listedH.setIfInBounds i true) (listed.setIfInBounds i true) := by
  refine ⟨by simp [c.sizeH], by simp [c.size], fun j hj b => ?_⟩
  by_cases hij : i = j
  · subst hij
    have h1 : i < listedH.size := by rw [c.sizeH]; exact hi
    have h2 : i < listed.size := by rw [c.size]; omega
    simp [h1, h2]
  · rw [getD_set_ne b hij, getD_set_ne b hij]; exact c.same j hj b

theorem Cut.ready {n i : Nat} {H : Array Oper} {listedH listed : Array Bool} (c : Cut ops n listedH listed) (hH : ∀ i, i < n → H[i]? = ops[i]?) (hB : headB md ops n = true) (hi : i < n)
    (hr : i ∈ Region.ready md ops listed) : i ∈ Region.ready md H listedH := by
  obtain ⟨h0, o, ho, hall⟩ := mem_ready.1 hr
  obtain ⟨o', ho', hlt, _⟩ := headB_spec hB hi
  have : o = o' := Option.some.inj (ho.symm.trans ho')
  subst this
  refine mem_ready.2 ⟨by rw [c.same i hi]; exact h0, o, by rw [hH i hi]; exact ho, fun e he hb => ?_⟩
  have := hlt e he hb
  rw [c.same e.on (by omega)]
  exact hall e he hb

/-- Where none of the first n may come up, all of them have. -/
theorem Cut.all {n : Nat} {H : Array Oper} {listedH listed : Array Bool} (c : Cut ops n listedH listed) (hH : ∀ i, i < n → H[i]? = ops[i]?) (hB : headB md ops n = true) (hr : Region.ready md H listedH = []) :
    ∀ i, i < n → listed.getD i true = true := by
  intro i
  induction i using Nat.strongRecOn with
  | _ i ih =>
    intro hi
    cases hl : listed.getD i true with
    | true => rfl
    | false =>
      obtain ⟨o, ho, hlt, _⟩ := headB_spec hB hi
      have : i ∈ Region.ready md H listedH := by
        refine mem_ready.2 ⟨by rw [c.same i hi]; exact hl, o, by rw [hH i hi]; exact ho, fun e he hb => ?_⟩
        have h1 := hlt e he hb
        have h2 := ih e.on h1 (by omega)
        rw [c.same e.on (by omega)]
        cases h3 : listed.getD e.on false with
        | true => rfl
        | false => rw [getD_in (by rw [c.size]; have := (Array.getElem?_eq_some_iff.1 ho).1; omega) h3] at h2; cases h2
      rw [hr] at this; cases this

theorem wpAny_of_cut {n g : Nat} {H : Array Oper} {Lq : Act → Prop} {Q' : Exit → Act → World → Prop} {tl : List Oper} (hH : ∀ i, i < n → H[i]? = ops[i]?) (hB : headB md ops n = true)
    (hs : Region.sinkB md ops n = true) (hc : Region.chainB md ops n = true) (hn : n < ops.size) (hg : tl.length = g) (htl : ∀ j, tl[j]? = ops[n + j]?)
    (hseq : ∀ listed : Array Bool, listed.size = ops.size → (∀ i, i < n → listed.getD i true = true) → (∀ t, n ≤ t → t < ops.size → listed.getD t true = false) → Region.seqB md ops g n listed = true)
    (hL : ∀ a w, C w → Lq a → wpList P ops Q' tl a w) :
    ∀ (f : Nat) (listedH listed : Array Bool) (a : Act) (w : World), Cut ops n listedH listed → HeadInv md ops n listed → C w → wpAnyQ P md H C Lq f listedH a → wpAny P md ops Q' (f + g) listed a w := by
  intro f
  induction f with
  | zero =>
    intro listedH listed a w c inv hw h
    exact wpAny_of_seq_more tl n _ listed a w (by omega) htl (by rw [hg]; exact hseq listed c.size (c.all hH hB h.1) inv.tail) (hL a w hw h.2)
  | succ f ih =>
    intro listedH listed a w c inv hw h
    cases hr : Region.ready md H listedH with
    | nil => exact wpAny_of_seq_more tl n _ listed a w (by omega) htl (by rw [hg]; exact hseq listed c.size (c.all hH hB hr) inv.tail) (hL a w hw (h.1 hr))
    | cons r0 rs =>
      have hr0 : r0 ∈ Region.ready md H listedH := by rw [hr]; exact List.mem_cons_self
      have hr0n : r0 < n := by
        obtain ⟨hh, _⟩ := mem_ready.1 hr0
        rcases Nat.lt_or_ge r0 n with h' | h'
        · exact h'
        · rw [← c.sizeH] at h'; simp [Array.getElem?_eq_none h'] at hh
      have hun : listed.getD r0 true = false := by rw [← c.same r0 hr0n]; exact (mem_ready.1 hr0).1
      rw [show f + 1 + g = (f + g) + 1 by omega]
      have hnot : ∀ t, n ≤ t → t ∉ Region.ready md ops listed := tail_waits hs hc hn inv _ r0 rfl hr0n hun
      refine ⟨fun h0 => ?_, fun i hi => ?_⟩
      · -- some operation may come up: the least one that has not
        have hall : ∀ i, i < n → listed.getD i true = true := by
          intro i
          induction i using Nat.strongRecOn with
          | _ i ih2 =>
            intro hi
            cases hl : listed.getD i true with
            | true => rfl
            | false =>
              obtain ⟨o, ho, hlt, _⟩ := headB_spec hB hi
              have : i ∈ Region.ready md ops listed := by
                refine mem_ready.2 ⟨hl, o, ho, fun e he hb => ?_⟩
                have h1 := hlt e he hb
                have h2 := ih2 e.on h1 (by omega)
                cases h3 : listed.getD e.on false with
                | true => rfl
                | false => rw [getD_in (by rw [c.size]; omega) h3] at h2; cases h2
              rw [h0] at this; cases this
        rw [hall r0 hr0n] at hun; cases hun
      · have hin : i < n := by
          rcases Nat.lt_or_ge i n with h' | h'
          · exact h'
          · exact absurd hi (hnot i h')
        have hiH := c.ready hH hB hin hi
        exact wpOp_of_cut hH hB hin hw (fun a' w' hw' hk => ih _ _ a' w' (c.set (by omega) hin) (inv.set hi hin) hw' hk) (h.2 i hiH)

/-- The Bool that the kernel reckons, of the list of operations and n. -/
def tailB (md : Region.Mode) (l : List Oper) (n : Nat) : Bool :=
  headB md l.toArray n && Region.sinkB md l.toArray n && Region.chainB md l.toArray n && decide (n < l.length) &&
    Region.seqB md l.toArray (l.length - n) n (Array.replicate n true ++ Array.replicate (l.length - n) false) &&
    Region.noSelect (l.take n).toArray && Region.lexFrom md (l.take n).toArray n 0 (Array.replicate n false)

theorem listed_eq {m n : Nat} {listed : Array Bool} (hn : n < m) (hsz : listed.size = m) (h1 : ∀ i, i < n → listed.getD i true = true) (h2 : ∀ t, n ≤ t → t < m → listed.getD t true = false) :
    listed = Array.replicate n true ++ Array.replicate (m - n) false := by
  apply Array.ext
  · simp [hsz]; omega
  · intro i hi1 hi2
    rw [Array.getElem_append]
    have hi : i < m := by omega
    split
    · rename_i hlt
      have := h1 i (by simpa using hlt)
      simp [hi1] at this; simp [this]
    · rename_i hge
      have := h2 i (by simpa using hge) hi
      simp [hi1] at this; simp [this]

/-- **THE LAW**: the first n operations walked once, in the text's order, over every world of the class; then the others, in any world of the class. -/
theorem wp_region_class_tail {id : Nat} {Q : Exit → Act → World → Prop} {a : Act} {w : World} {l : List Oper} (n : Nat) (hm : P.follows .mixedOrders = true) (hB : tailB .any l n = true) (hC : C { w with drawn := w.drawn + 1 })
    (h : wpQuiet P (l.take n).toArray C (fun a' => ∀ w', C w' → wpList P l.toArray Q (l.drop n) a' w') (l.take n) a) : (Code.region id l.toArray true).wp P Q a w := by
  simp only [tailB, Bool.and_eq_true, decide_eq_true_eq] at hB
  obtain ⟨⟨⟨⟨⟨⟨h1, h2⟩, h3⟩, h4⟩, h5⟩, h6⟩, h7⟩ := hB
  have hsz : (l.take n).length = n := by simp; omega
  have hq := wpAnyQ_lex (C := C) (md := .any) h6 (l.take n) 0 (Array.replicate n false) a (by simp) (by rw [hsz]; exact h7) h
  rw [hsz] at hq
  refine wp_region_any hm ?_
  have := wpAny_of_cut (P := P) (C := C) (ops := l.toArray) (H := (l.take n).toArray) (md := .any) (g := l.length - n) (Q' := Q) (tl := l.drop n) (n := n)
    (fun i hi => by simp [hi]) h1 h2 h3 (by simpa using h4) (by simp) (fun j => by simp [List.getElem?_drop])
    (fun listed hs1 hs2 hs3 => by rw [listed_eq (m := l.length) h4 (by simpa using hs1) hs2 (fun t ht ht' => hs3 t ht (by simpa using ht'))]; exact h5)
    (fun a' w' hw' hk => hk w' hw') n (Array.replicate n false) (Array.replicate l.toArray.size false) a { w with drawn := w.drawn + 1 }
    ⟨by simp, by simp, fun i hi b => by simp [hi]; rw [Array.getElem?_replicate, if_pos (by omega)]; rfl⟩
    ⟨by simp, fun j oj _ hl => (by rw [getD_replicate_false] at hl; cases hl), fun t _ ht => getD_in (by simpa using ht) (getD_replicate_false _ _)⟩ hC hq
  rw [show n + (l.length - n) = l.toArray.size by simp; omega] at this
  exact this
end

/-- The same at the class 'w with more blocks'. -/
theorem wp_region_plus_tail {P : Program} {id : Nat} {Q : Exit → Act → World → Prop} {a : Act} {w : World} {l : List Oper} (n : Nat) (hm : P.follows .mixedOrders = true) (hB : tailB .any l n = true)
    (h : wpQuiet P (l.take n).toArray (fun w' => ∃ x, w' = w.plus x) (fun a' => ∀ w', (∃ x, w' = w.plus x) → wpList P l.toArray Q (l.drop n) a' w') (l.take n) a) : (Code.region id l.toArray true).wp P Q a w :=
  wp_region_class_tail n hm hB ⟨_, w.drew_is_plus⟩ h

end Go

/- REGIONS THAT DRAW THEIR ORDER, WALKED ONCE IN THE TEXT's ORDER, where their calls stand in one chain and all else yields one value in every world that has grown. Laws over any program. No condition. -/
namespace Go
open Go.RowKit

/-- No call of a Go function, nor of a builtin but len and cap; nothing that makes or writes memory; nothing of goroutines. -/
def freeOp (o : Oper) : Bool :=
  match o.op with
  | .call c => (match c.callee with | .builtin .len => true | .builtin .cap => true | _ => false)
  | .go _ | .defer _ | .send .. | .recv .. | .select .. => false
  | .alloc _ | .box .. | .buildSlice .. | .makeSlice .. | .store .. | .mapUpdate .. => false
  | _ => true

theorem run_val {P : Program} {s : Sem Value} {w w' : World} {n : Next} (h : (do pure (Next.value (← s)) : Sem Next).run P w = .ok n w') : ∃ x, n = .value x := by
  simp only [Sem.run_bind] at h
  cases hs : s.run P w with
  | ok x w1 => rw [hs] at h; simp only [Result.andThen_ok, Sem.run_pure, Result.ok.injEq] at h; exact ⟨x, h.1.symm⟩
  | halt x w1 => rw [hs] at h; simp [Result.andThen] at h

theorem run_unit {P : Program} {s : Sem Unit} {w w' : World} {n : Next} (h : (do s; pure Next.skip : Sem Next).run P w = .ok n w') : n = .skip := by
  simp only [Sem.run_bind] at h
  cases hs : s.run P w with
  | ok x w1 => rw [hs] at h; simp only [Result.andThen_ok, Sem.run_pure, Result.ok.injEq] at h; exact h.1.symm
  | halt x w1 => rw [hs] at h; simp [Result.andThen] at h

/-- What a bind ends in, its last step ends in. -/
theorem run_last {P : Program} {α : Type} {s : Sem α} {k : α → Sem Next} {w w' : World} {n : Next} (h : (s >>= k).run P w = .ok n w') : ∃ x w1, (k x).run P w1 = .ok n w' := by
  simp only [Sem.run_bind] at h
  cases hs : s.run P w with
  | ok x w1 => rw [hs] at h; exact ⟨x, w1, h⟩
  | halt x w1 => rw [hs] at h; simp [Result.andThen] at h

theorem free_noEnter {P : Program} {ρ : Operand → Value} {o : Oper} {w w' : World} {f : FuncId} {as' : Array Value} (hf : freeOp o = true) (h : (execOp ρ o).run P w = .ok (.enter f as') w') : False := by
  obtain ⟨dst, op, ty, pos, after, guard⟩ := o
  cases op
  case call c =>
    obtain ⟨callee, cas, ats⟩ := c
    cases callee with
    | builtin b =>
      rw [BigFrame.execOp_builtin] at h
      cases b <;> simp [freeOp] at hf
      · simp only [BigFrame.builtin_cap] at h; obtain ⟨x, hx⟩ := run_val h; cases hx
      · simp only [BigFrame.builtin_len] at h; obtain ⟨x, hx⟩ := run_val h; cases hx
    | _ => simp [freeOp] at hf
  case nilCheck x =>
    simp only [execOp] at h
    generalize ρ x = v at h
    split at h
    · simp [runtimePanic] at h
    · simp [runtimePanic] at h
    · simp [runtimePanic] at h
    · split at h
      · simp [runtimePanic] at h
      · obtain ⟨a, w1, h1⟩ := run_last h
        obtain ⟨b, w2, h2⟩ := run_last h1
        split at h2
        · obtain ⟨c, w3, h3⟩ := run_last h2; simp at h3
        · simp at h2
      · simp at h
    · simp at h
  case pick c a b =>
    simp only [execOp] at h
    obtain ⟨x, w1, h1⟩ := run_last h
    simp at h1
  case go c => simp [freeOp] at hf
  case defer c => simp [freeOp] at hf
  case send => simp [freeOp] at hf
  case recv => simp [freeOp] at hf
  case select => simp [freeOp] at hf
  all_goals simp only [execOp] at h
  all_goals first
    | (obtain ⟨x, hx⟩ := run_val h; cases hx; done)
    | (have hx := run_unit h; cases hx; done)
    | (simp at h; done)

section
variable {P : Program} {ops : Array Oper} {md : Region.Mode} {S : World → Prop}

/-- An operation carried out in this very world, which gives a value, or nothing. -/
def Oper.chainUpon (P : Program) (o : Oper) (a : Act) (K : Act → World → Prop) : Result Next → Prop
  | .ok (.value v) w' => K (a.put o.dst v) w'
  | .ok .skip w' => K (a.put o.dst undef) w'
  | .ok (.enter f args) w' => Calls P f args w' fun e w'' => ∃ v, e = .returned v ∧ K (a.put o.dst v) w''
  | _ => False
def Oper.chain (P : Program) (o : Oper) (a : Act) (w : World) (K : Act → World → Prop) : Prop := o.chainUpon P a K ((execOp a.eval o).run P w)

theorem Oper.chain_mono {o : Oper} {a : Act} {w : World} {K K' : Act → World → Prop} (hk : ∀ v w', K (a.put o.dst v) w' → K' (a.put o.dst v) w') (h : o.chain P a w K) : o.chain P a w K' := by
  unfold Oper.chain at *
  generalize (execOp a.eval o).run P w = r at *
  cases r with
  | ok n w' => cases n <;> simp only [Oper.chainUpon] at * <;> first | exact hk _ _ h | exact h.mono fun _ _ ⟨v, he, hv⟩ => ⟨v, he, hk _ _ hv⟩
  | halt x w' => exact h

theorem Oper.chain_some {o : Oper} {a : Act} {w : World} {K : Act → World → Prop} (h : o.chain P a w K) : ∃ v w', K (a.put o.dst v) w' := by
  unfold Oper.chain at h
  generalize (execOp a.eval o).run P w = r at *
  cases r with
  | ok n w' =>
    cases n <;> simp only [Oper.chainUpon] at h
    case value v => exact ⟨v, w', h⟩
    case skip => exact ⟨undef, w', h⟩
    case enter f args =>
      obtain ⟨e, w2, fr, ⟨v, _, hk⟩, _⟩ := h []
      exact ⟨v, w2, hk⟩
  | halt x w' => simp only [Oper.chainUpon] at h

theorem Oper.wp_of_chain {o : Oper} {a : Act} {w : World} {K : Act → World → Prop} {Q' : Exit → Act → World → Prop} (h : o.chain P a w K) : o.wp P a w K Q' := by
  unfold Oper.chain at h
  unfold Oper.wp
  generalize (execOp a.eval o).run P w = r at *
  cases r with
  | ok n w' =>
    cases n <;> simp only [Oper.chainUpon] at h <;> simp only [Oper.upon]
    case value v => exact h
    case skip => exact h
    case enter f args => exact h.mono fun e w'' ⟨v, he, hk⟩ => by subst he; exact hk
  | halt x w' => simp only [Oper.chainUpon] at h

/-- Carried out with another temporary already written: it makes no difference. -/
theorem Oper.chain_unput {o : Oper} {a : Act} {w : World} {x : Option Tmp} {v : Value} {K : Act → World → Prop} (he : execOp (a.put x v).eval o = execOp a.eval o) (hx : ∀ d, x = some d → o.dst ≠ some d)
    (h : o.chain P (a.put x v) w K) : o.chain P a w fun a' w' => K (a'.put x v) w' := by
  unfold Oper.chain at *
  rw [he] at h
  generalize (execOp a.eval o).run P w = r at *
  cases r with
  | ok n w' =>
    cases n <;> simp only [Oper.chainUpon] at *
    case value u => rw [← Act.put_comm a v u hx]; exact h
    case skip => rw [← Act.put_comm a v undef hx]; exact h
    case enter f args => exact h.mono fun e w'' ⟨u, he, hk⟩ => ⟨u, he, by rw [← Act.put_comm a v u hx]; exact hk⟩
  | halt x w' => exact h
theorem Oper.chain_put {o : Oper} {a : Act} {w : World} {x : Option Tmp} {v : Value} {K : Act → World → Prop} (he : execOp (a.put x v).eval o = execOp a.eval o) (hx : ∀ d, x = some d → o.dst ≠ some d)
    (h : o.chain P a w fun a' w' => K (a'.put x v) w') : o.chain P (a.put x v) w K := by
  unfold Oper.chain at *
  rw [he]
  generalize (execOp a.eval o).run P w = r at *
  cases r with
  | ok n w' =>
    cases n <;> simp only [Oper.chainUpon] at *
    case value u => rw [Act.put_comm a v u hx]; exact h
    case skip => rw [Act.put_comm a v undef hx]; exact h
    case enter f args => exact h.mono fun e w'' ⟨u, he, hk⟩ => ⟨u, he, by rw [Act.put_comm a v u hx]; exact hk⟩
  | halt x w' => exact h

/-- It is free and yields this value in every world of the class; or it is passed over. -/
def YieldsFree (P : Program) (ops : Array Oper) (S : World → Prop) (o : Oper) (v : Value) (a : Act) : Prop :=
  (Region.wanted o (yielded ops a.tmps) = true ∧ freeOp o = true ∧ ∀ w, S w → o.quietAt P a S w v) ∨ (Region.wanted o (yielded ops a.tmps) = false ∧ v = undef)

theorem YieldsFree.of_same {o : Oper} {v : Value} {a a' : Act} (hy : YieldsFree P ops S o v a) (he : execOp a'.eval o = execOp a.eval o)
    (hw : Region.wanted o (yielded ops a'.tmps) = Region.wanted o (yielded ops a.tmps)) : YieldsFree P ops S o v a' := by
  unfold YieldsFree Oper.quietAt at *
  rw [he, hw]
  exact hy

theorem YieldsFree.unique {o : Oper} {v v' : Value} {a : Act} {w : World} (hS : S w) (h : YieldsFree P ops S o v a) (h' : YieldsFree P ops S o v' a) : v = v' := by
  rcases h with ⟨hw, hf, hq⟩ | ⟨hw, rfl⟩ <;> rcases h' with ⟨hw', _, hq'⟩ | ⟨hw', rfl⟩
  · have h1 := hq w hS
    have h2 := hq' w hS
    unfold Oper.quietAt at h1 h2
    cases hr : (execOp a.eval o).run P w with
    | ok n w1 =>
      rw [hr] at h1 h2
      cases n <;> simp only [Oper.quietUpon] at h1 h2
      case value u => exact h1.2.symm.trans h2.2
      case skip => exact h1.2.trans h2.2.symm
      case enter f args => exact (free_noEnter hf hr).elim
    | halt x w1 => rw [hr] at h1; simp only [Oper.quietUpon] at h1
  · rw [hw] at hw'; cases hw'
  · rw [hw] at hw'; cases hw'
  · rfl

/-- One operation of the walk in the text's order. -/
def stepI (P : Program) (ops : Array Oper) (S : World → Prop) (o : Oper) (a : Act) (w : World) (K : Act → World → Prop) : Prop :=
  (∃ v, YieldsFree P ops S o v a ∧ K (a.put o.dst v) w) ∨
  (Region.wanted o (yielded ops a.tmps) = true ∧ freeOp o = false ∧ o.chain P a w fun a' w' => S w' ∧ K a' w')

/-- The operations of these numbers, one by one. -/
def wpSeqI (P : Program) (ops : Array Oper) (S : World → Prop) (F : Act → World → Prop) : List Nat → Act → World → Prop
  | [], a, w => F a w
  | i :: r, a, w => ∃ o, ops[i]? = some o ∧ stepI P ops S o a w (wpSeqI P ops S F r)

/-- One that waits for none of those ahead of it may be taken out and carried out first. -/
theorem wpSeqI_extract {F : Act → World → Prop} {i : Nat} {oi : Oper} (hi : ops[i]? = some oi) (hsel : ∀ (j : Nat) (o : Oper) cs b, ops[j]? = some o → o.op ≠ .select cs b) :
    ∀ (pre post : List Nat) (a : Act) (w : World), S w → (∀ j ∈ pre, ∀ oj, ops[j]? = some oj → oj.apart ops oi = true ∧ (freeOp oj = false → freeOp oi = true)) →
      wpSeqI P ops S F (pre ++ i :: post) a w → stepI P ops S oi a w (wpSeqI P ops S F (pre ++ post)) := by
  intro pre
  induction pre with
  | nil =>
    intro post a w _ _ h
    obtain ⟨o, ho, hs⟩ := h
    rw [Option.some.inj (hi.symm.trans ho)]
    exact hs
  | cons j pre ih =>
    intro post a w hS hap h
    obtain ⟨oj, hj, hs⟩ := h
    obtain ⟨hapj, hfr⟩ := hap j List.mem_cons_self oj hj
    obtain ⟨h1, h2, h3⟩ := Oper.apart_spec hapj
    have h2' : ∀ d, oi.dst = some d → oj.dst ≠ some d := fun d hd he => h2 d he hd
    have hap' : ∀ k ∈ pre, ∀ ok, ops[k]? = some ok → ok.apart ops oi = true ∧ (freeOp ok = false → freeOp oi = true) := fun k hk => hap k (List.mem_cons_of_mem _ hk)
    have ei : ∀ (b : Act) (v : Value), execOp (b.put oj.dst v).eval oi = execOp b.eval oi := fun b v => execOp_put oi (fun cs c => hsel i oi cs c hi) b oj.dst v h1
    have wi : ∀ (b : Act) (v : Value), Region.wanted oi (yielded ops (b.put oj.dst v).tmps) = Region.wanted oi (yielded ops b.tmps) := fun b v => wanted_put oi b oj.dst v h1
    have ej : ∀ (b : Act) (v : Value), execOp (b.put oi.dst v).eval oj = execOp b.eval oj := fun b v => execOp_put oj (fun cs c => hsel j oj cs c hj) b oi.dst v h3
    have wj : ∀ (b : Act) (v : Value), Region.wanted oj (yielded ops (b.put oi.dst v).tmps) = Region.wanted oj (yielded ops b.tmps) := fun b v => wanted_put oj b oi.dst v h3
    rcases hs with ⟨vj, hyj, hk⟩ | ⟨hwj, hfj, hch⟩
    · have hs' := ih post _ w hS hap' hk
      rcases hs' with ⟨vi, hyi, hk'⟩ | ⟨hwi, hfi, hci⟩
      · refine .inl ⟨vi, hyi.of_same (ei a vj).symm (wi a vj).symm, oj, hj, .inl ⟨vj, hyj.of_same (ej a vi) (wj a vi), ?_⟩⟩
        rw [← Act.put_comm a vj vi h2]; exact hk'
      · refine .inr ⟨by rw [← wi a vj]; exact hwi, hfi, ?_⟩
        have hc := Oper.chain_unput (ei a vj) h2 hci
        refine Oper.chain_mono (fun u w' hh => ⟨hh.1, oj, hj, .inl ⟨vj, hyj.of_same (ej a u) (wj a u), hh.2⟩⟩) hc
    · have hfi := hfr hfj
      have left : ∀ u w', S w' ∧ wpSeqI P ops S F (pre ++ i :: post) (a.put oj.dst u) w' → ∃ vi, YieldsFree P ops S oi vi a ∧ wpSeqI P ops S F (pre ++ post) ((a.put oj.dst u).put oi.dst vi) w' := fun u w' hh => by
        rcases ih post _ w' hh.1 hap' hh.2 with ⟨vi, hyi, hk'⟩ | ⟨_, hfi', _⟩
        · exact ⟨vi, hyi.of_same (ei a u).symm (wi a u).symm, hk'⟩
        · rw [hfi] at hfi'; cases hfi'
      obtain ⟨u0, w0, hh0⟩ := Oper.chain_some hch
      obtain ⟨vi, hyi, _⟩ := left u0 w0 hh0
      refine .inl ⟨vi, hyi, oj, hj, .inr ⟨by rw [wj a vi]; exact hwj, hfj, ?_⟩⟩
      refine Oper.chain_put (ej a vi) h2' (Oper.chain_mono (fun u w' hh => ?_) hch)
      obtain ⟨vi', hyi', hk'⟩ := left u w' hh
      rw [YieldsFree.unique hS hyi hyi']
      exact ⟨hh.1, hk'⟩

/-- Of two of the first n the later one waits for the earlier one, or they are apart. -/
def pairsB (md : Region.Mode) (ops : Array Oper) (n : Nat) : Bool :=
  (List.range n).all fun i => (List.range i).all fun j => Region.waitsFor md ops i j || (match ops[j]?, ops[i]? with | some oj, some oi => oj.apart ops oi | _, _ => false)
def notFree (ops : Array Oper) (i : Nat) : Bool := !(ops[i]?.map freeOp).getD true
/-- The last one ahead of i that is not free. -/
def prevNF (ops : Array Oper) : Nat → Option Nat
  | 0 => none
  | k + 1 => if notFree ops k then some k else prevNF ops k
theorem prevNF_spec {j : Nat} (hj : notFree ops j = true) : ∀ i, j < i → ∃ p, prevNF ops i = some p ∧ j ≤ p ∧ p < i ∧ notFree ops p = true
  | 0, h => absurd h (Nat.not_lt_zero j)
  | k + 1, h => by
    unfold prevNF
    cases hk : notFree ops k with
    | true => exact ⟨k, by simp, by omega, by omega, hk⟩
    | false =>
      have hne : j ≠ k := fun e => by rw [e, hk] at hj; cases hj
      obtain ⟨p, h1, h2, h3, h4⟩ := prevNF_spec hj k (by omega)
      exact ⟨p, by simp [h1], h2, by omega, h4⟩
/-- i waits for j, by however many steps, over those between them. -/
def reachB (md : Region.Mode) (ops : Array Oper) : Nat → Nat → Nat → Bool
  | 0, _, _ => false
  | f + 1, i, j => Region.waitsFor md ops i j || (List.range i).any fun k => decide (j < k) && Region.waitsFor md ops i k && reachB md ops f k j
/-- What is not free stands in one chain. -/
def chainsB (md : Region.Mode) (ops : Array Oper) (n : Nat) : Bool :=
  (List.range n).all fun i => !notFree ops i || (match prevNF ops i with | some p => reachB md ops n i p | none => true)

theorem reachB_listed {listed : Array Bool} (hcl : ∀ j oj, ops[j]? = some oj → listed.getD j false = true → ∀ e ∈ oj.after, Region.binds md e = true → listed.getD e.on false = true) :
    ∀ (f i j : Nat) (oi : Oper), ops[i]? = some oi → (∀ e ∈ oi.after, Region.binds md e = true → listed.getD e.on false = true) → reachB md ops f i j = true → listed.getD j false = true := by
  intro f
  induction f with
  | zero => intro i j oi _ _ h; simp [reachB] at h
  | succ f ih =>
    intro i j oi hoi hall h
    have direct : ∀ k, Region.waitsFor md ops i k = true → listed.getD k false = true := fun k hk => by
      obtain ⟨o', ho', e, he, hb, hon⟩ := Region.waitsFor_spec hk
      have : o' = oi := Option.some.inj (ho'.symm.trans hoi)
      subst this
      rw [← hon]; exact hall e he hb
    simp only [reachB, Bool.or_eq_true] at h
    rcases h with h | h
    · exact direct j h
    · obtain ⟨k, _, hk2⟩ := List.any_eq_true.1 h
      simp only [Bool.and_eq_true, decide_eq_true_eq] at hk2
      have hlk := direct k hk2.1.2
      cases hok : ops[k]? with
      | none => 
        cases f with
        | zero => simp [reachB] at hk2
        | succ f =>
          have h3 := hk2.2
          simp only [reachB, Region.waitsFor, hok, Bool.and_false, Bool.false_and, Bool.false_or] at h3
          simp at h3
      | some ok => exact ih k j ok hok (hcl k ok hok hlk) hk2.2

theorem pairsB_spec {n i j : Nat} {oi oj : Oper} (h : pairsB md ops n = true) (hi : i < n) (hj : j < i) (hoi : ops[i]? = some oi) (hoj : ops[j]? = some oj) : Region.waitsFor md ops i j = true ∨ oj.apart ops oi = true := by
  have h1 := List.all_eq_true.1 (List.all_eq_true.1 h i (List.mem_range.2 hi)) j (List.mem_range.2 hj)
  simpa [hoi, hoj] using h1

theorem notFree_of {i : Nat} {oi : Oper} (h : ops[i]? = some oi) : notFree ops i = !freeOp oi := by simp [notFree, h]

/-- Where a link of the chain has come up, all links ahead of it have. -/
theorem chain_listed {n : Nat} {listed : Array Bool} (h : chainsB md ops n = true) (hcl : ∀ j oj, ops[j]? = some oj → listed.getD j false = true → ∀ e ∈ oj.after, Region.binds md e = true → listed.getD e.on false = true) :
    ∀ (i j : Nat) (oi oj : Oper), i < n → j < i → ops[i]? = some oi → ops[j]? = some oj → freeOp oi = false → freeOp oj = false → (∀ e ∈ oi.after, Region.binds md e = true → listed.getD e.on false = true) → listed.getD j false = true := by
  intro i
  induction i using Nat.strongRecOn with
  | _ i ih =>
    intro j oi oj hi hj hoi hoj hfi hfj hall
    obtain ⟨p, hp, hjp, hpi, hfp⟩ := prevNF_spec (ops := ops) (j := j) (by rw [notFree_of hoj, hfj]; rfl) i hj
    have h1 := List.all_eq_true.1 h i (List.mem_range.2 hi)
    rw [notFree_of hoi, hfi, hp] at h1
    simp only [Bool.not_false, Bool.not_true, Bool.false_or] at h1
    have hlp := reachB_listed hcl n i p oi hoi hall h1
    by_cases hjp' : j = p
    · subst hjp'; exact hlp
    · cases hok : ops[p]? with
      | none => simp [notFree, hok] at hfp
      | some op =>
        have hfp' : freeOp op = false := by rw [notFree_of hok] at hfp; simpa using hfp
        exact ih p hpi j op oj (by omega) (by omega) hok hoj hfp' hfj (hcl p op hok hlp)

theorem wpOp_of_stepI {i : Nat} {oi : Oper} {a : Act} {w : World} {K : Act → World → Prop} {Q' : Exit → Act → World → Prop} (hi : ops[i]? = some oi) (hS : S w)
    (h : stepI P ops S oi a w K) : wpOp P ops Q' i (fun a' w' => S w' ∧ K a' w') a w := by
  unfold wpOp
  simp only [hi]
  rcases h with ⟨v, hy, hk⟩ | ⟨hw, hf, hc⟩
  · rcases hy with ⟨hw, hf, hq⟩ | ⟨hw, rfl⟩
    · simp only [hw, if_true]
      refine .inl ?_
      have h1 := hq w hS
      unfold Oper.quietAt at h1
      unfold Oper.wp
      cases hr : (execOp a.eval oi).run P w with
      | ok m w1 =>
        rw [hr] at h1
        cases m <;> simp only [Oper.quietUpon] at h1 <;> simp only [Oper.upon]
        case value u => rw [h1.1, h1.2]; exact ⟨hS, hk⟩
        case skip => rw [h1.1, ← h1.2]; exact ⟨hS, hk⟩
        case enter f args => exact (free_noEnter hf hr).elim
      | halt x w1 => rw [hr] at h1; simp only [Oper.quietUpon] at h1
    · simp only [hw, Bool.false_eq_true, if_false]
      exact ⟨hS, hk⟩
  · simp only [hw, if_true]
    exact .inl (Oper.wp_of_chain hc)

theorem wpAny_of_seqI {n g : Nat} {F : Act → World → Prop} {Q' : Exit → Act → World → Prop} {tl : List Oper} (hsel : Region.noSelect ops = true) (hB : headB md ops n = true) (hpB : pairsB md ops n = true) (hcB : chainsB md ops n = true)
    (htail : ∀ (listed : Array Bool), HeadInv md ops n listed → ∀ i, i < n → listed.getD i true = false → ∀ t, n ≤ t → t ∉ Region.ready md ops listed) (hn : n ≤ ops.size) (hg : tl.length = g) (htl : ∀ j, tl[j]? = ops[n + j]?)
    (hseq : ∀ listed : Array Bool, listed.size = ops.size → (∀ i, i < n → listed.getD i true = true) → (∀ t, n ≤ t → t < ops.size → listed.getD t true = false) → Region.seqB md ops g n listed = true)
    (hL : ∀ a w, S w → F a w → wpList P ops Q' tl a w) :
    ∀ (m : Nat) (r : List Nat) (listed : Array Bool) (a : Act) (w : World), r.length = m → r.Pairwise (· < ·) → (∀ i, i < n → (listed.getD i true = false ↔ i ∈ r)) → (∀ i ∈ r, i < n) → HeadInv md ops n listed → S w →
      wpSeqI P ops S F r a w → wpAny P md ops Q' (m + g) listed a w := by
  intro m
  induction m with
  | zero =>
    intro r listed a w hm _ hr _ inv hS h
    obtain rfl : r = [] := List.eq_nil_of_length_eq_zero hm
    have hall : ∀ i, i < n → listed.getD i true = true := fun i hi => by
      cases hl : listed.getD i true with
      | true => rfl
      | false => exact absurd ((hr i hi).1 hl) (List.not_mem_nil)
    exact wpAny_of_seq_more tl n _ listed a w (by omega) htl (by rw [hg]; exact hseq listed inv.size hall inv.tail) (hL a w hS h)
  | succ m ih =>
    intro r listed a w hm hp hr hrn inv hS h
    rw [show m + 1 + g = (m + g) + 1 by omega]
    cases r with
    | nil => cases hm
    | cons r0 rs =>
      have hr0n : r0 < n := hrn r0 List.mem_cons_self
      have hun : listed.getD r0 true = false := (hr r0 hr0n).2 List.mem_cons_self
      have hnot := htail listed inv r0 hr0n hun
      have hr0 : r0 ∈ Region.ready md ops listed := by
        obtain ⟨o, ho, hlt, _⟩ := headB_spec hB hr0n
        refine mem_ready.2 ⟨hun, o, ho, fun e he hb => ?_⟩
        have h1 := hlt e he hb
        cases h3 : listed.getD e.on false with
        | true => rfl
        | false =>
          have h4 := getD_in (by rw [inv.size]; omega) h3
          have h5 := (hr e.on (by omega)).1 h4
          rcases List.mem_cons.1 h5 with h6 | h6
          · omega
          · have := List.rel_of_pairwise_cons hp h6; omega
      refine ⟨fun h0 => (by rw [h0] at hr0; cases hr0), fun i hi => ?_⟩
      have hin : i < n := by
        rcases Nat.lt_or_ge i n with h' | h'
        · exact h'
        · exact absurd hi (hnot i h')
      obtain ⟨hiun, oi, hoi, hall⟩ := mem_ready.1 hi
      have hir : i ∈ r0 :: rs := (hr i hin).1 hiun
      obtain ⟨pre, post, hpp⟩ := List.append_of_mem hir
      rw [hpp] at h hp hm hr hrn
      have hlt : ∀ j ∈ pre, j < i := fun j hj => (List.pairwise_append.1 hp).2.2 j hj i List.mem_cons_self
      have hstep := wpSeqI_extract hoi (Region.noSelect_spec hsel) pre post a w hS (fun j hj oj hoj => by
        have hji := hlt j hj
        have hjun : listed.getD j true = false := (hr j (by omega)).2 (List.mem_append_left _ hj)
        refine ⟨?_, fun hfj => ?_⟩
        · rcases pairsB_spec hpB hin hji hoi hoj with h1 | h1
          · obtain ⟨o', ho', e, he, hb, hon⟩ := Region.waitsFor_spec h1
            have : o' = oi := Option.some.inj (ho'.symm.trans hoi)
            subst this
            have h2 := hall e he hb
            rw [hon, getD_both hjun] at h2; cases h2
          · exact h1
        · cases hfi : freeOp oi with
          | true => rfl
          | false =>
            have h2 := chain_listed hcB inv.closed i j oi oj hin hji hoi hoj hfi hfj hall
            rw [getD_both hjun] at h2; cases h2) h
      refine wpOp_mono (fun a' w' hh => ?_) (wpOp_of_stepI (Q' := Q') hoi hS hstep)
      refine ih (pre ++ post) _ a' w' (by simp at hm ⊢; omega) ?_ ?_ ?_ (inv.set hi hin) hh.1 hh.2
      · exact List.Pairwise.sublist (List.Sublist.append (List.Sublist.refl _) (List.sublist_cons_self _ _)) hp
      · intro k hk
        by_cases hki : i = k
        · subst hki
          have hsz : i < listed.size := by rw [inv.size]; omega
          constructor
          · intro h1; simp [hsz] at h1
          · intro h1
            exfalso
            rcases List.mem_append.1 h1 with h1 | h1
            · have := hlt i h1; omega
            · have := List.rel_of_pairwise_cons (List.pairwise_append.1 hp).2.1 h1; omega
        · rw [getD_set_ne true hki, hr k hk]
          simp only [List.mem_append, List.mem_cons]
          constructor
          · rintro (h1 | h1 | h1)
            · exact .inl h1
            · exact absurd h1.symm hki
            · exact .inr h1
          · rintro (h1 | h1)
            · exact .inl h1
            · exact .inr (.inr h1)
      · intro k hk
        refine hrn k ?_
        simp only [List.mem_append, List.mem_cons] at hk ⊢
        rcases hk with h1 | h1
        · exact .inl h1
        · exact .inr (.inr h1)

/-- The operations of a list, one by one. -/
def wpSeqL (P : Program) (ops : Array Oper) (S : World → Prop) (F : Act → World → Prop) : List Oper → Act → World → Prop
  | [], a, w => F a w
  | o :: rest, a, w => stepI P ops S o a w (wpSeqL P ops S F rest)

theorem stepI_mono {o : Oper} {a : Act} {w : World} {K K' : Act → World → Prop} (hk : ∀ a w, K a w → K' a w) (h : stepI P ops S o a w K) : stepI P ops S o a w K' := by
  rcases h with ⟨v, hy, h⟩ | ⟨hw, hf, hc⟩
  · exact .inl ⟨v, hy, hk _ _ h⟩
  · exact .inr ⟨hw, hf, Oper.chain_mono (fun _ _ hh => ⟨hh.1, hk _ _ hh.2⟩) hc⟩

theorem wpSeqI_of_L {F : Act → World → Prop} : ∀ (l : List Oper) (k : Nat) (a : Act) (w : World), (∀ j, j < l.length → l[j]? = ops[k + j]?) → wpSeqL P ops S F l a w → wpSeqI P ops S F (List.range' k l.length) a w
  | [], _, _, _, _, h => h
  | o :: l, k, a, w, hl, h => by
    refine ⟨o, by simpa using (hl 0 (by simp)).symm, stepI_mono (fun a' w' hh => ?_) h⟩
    exact wpSeqI_of_L l (k + 1) a' w' (fun j hj => by have := hl (j + 1) (by simpa using hj); simpa [Nat.add_assoc, Nat.add_comm 1 j] using this) hh

/-- Some free operations at the head, walked as quiet ones are. -/
theorem wpSeqL_quiet {F : Act → World → Prop} {w : World} (rest : List Oper) : ∀ (fs : List Oper) (a : Act), fs.all freeOp = true → wpQuiet P ops S (fun a' => wpSeqL P ops S F rest a' w) fs a → wpSeqL P ops S F (fs ++ rest) a w
  | [], _, _, h => h
  | o :: fs, a, hf, h => by
    simp only [List.all_cons, Bool.and_eq_true] at hf
    unfold wpQuiet at h
    by_cases hw : Region.wanted o (yielded ops a.tmps) = true
    · rw [if_pos hw] at h
      obtain ⟨v, hq, hn⟩ := h
      exact .inl ⟨v, .inl ⟨hw, hf.1, hq⟩, wpSeqL_quiet rest fs _ hf.2 hn⟩
    · rw [if_neg hw] at h
      exact .inl ⟨undef, .inr ⟨by simpa using hw, rfl⟩, wpSeqL_quiet rest fs _ hf.2 h⟩
theorem wpSeqL_seg {F : Act → World → Prop} {w : World} {l : List Oper} {a : Act} (k : Nat) (hf : (l.take k).all freeOp = true) (h : wpQuiet P ops S (fun a' => wpSeqL P ops S F (l.drop k) a' w) (l.take k) a) : wpSeqL P ops S F l a w := by
  have := wpSeqL_quiet (l.drop k) (l.take k) a hf h
  rwa [List.take_append_drop] at this
theorem wpSeqL_free {F : Act → World → Prop} {w : World} {rest : List Oper} {o : Oper} {a : Act} (hf : freeOp o = true) (h : wpQuiet P ops S (fun a' => wpSeqL P ops S F rest a' w) [o] a) : wpSeqL P ops S F (o :: rest) a w :=
  wpSeqL_quiet rest [o] a (by simp [hf]) h
/-- A link of the chain. -/
theorem wpSeqL_link {F : Act → World → Prop} {w : World} {rest : List Oper} {o : Oper} {a : Act} (hf : freeOp o = false)
    (h : ∀ K : Act → World → Prop, (∀ a w, S w → wpSeqL P ops S F rest a w → K a w) → if Region.wanted o (yielded ops a.tmps) then o.chain P a w K else K (a.put o.dst undef) w) : wpSeqL P ops S F (o :: rest) a w := by
  by_cases hw : Region.wanted o (yielded ops a.tmps) = true
  · have h1 := h (fun a' w' => S w' ∧ wpSeqL P ops S F rest a' w') (fun _ _ hs hh => ⟨hs, hh⟩)
    rw [if_pos hw] at h1
    exact .inr ⟨hw, hf, h1⟩
  · have h1 := h (fun a' w' => wpSeqL P ops S F rest a' w') (fun _ _ _ hh => hh)
    rw [if_neg hw] at h1
    exact .inl ⟨undef, .inr ⟨by simpa using hw, rfl⟩, h1⟩
theorem wpSeqL_end {F : Act → World → Prop} {w : World} {a : Act} (h : F a w) : wpSeqL P ops S F [] a w := h

def seqOkB (md : Region.Mode) (l : List Oper) : Bool :=
  Region.noSelect l.toArray && headB md l.toArray l.length && pairsB md l.toArray l.length && chainsB md l.toArray l.length && (Region.ready md l.toArray (Array.replicate l.length true)).isEmpty
def seqTailB (md : Region.Mode) (l : List Oper) (n : Nat) : Bool :=
  Region.noSelect l.toArray && headB md l.toArray n && pairsB md l.toArray n && chainsB md l.toArray n && Region.sinkB md l.toArray n && Region.chainB md l.toArray n && decide (n < l.length) &&
    Region.seqB md l.toArray (l.length - n) n (Array.replicate n true ++ Array.replicate (l.length - n) false)

theorem inv0 (l : List Oper) (n : Nat) : HeadInv md l.toArray n (Array.replicate l.toArray.size false) :=
  ⟨by simp, fun j oj _ hl => (by rw [getD_replicate_false] at hl; cases hl), fun t _ ht => getD_in (by simpa using ht) (getD_replicate_false _ _)⟩

/-- **THE LAW**: one walk in the text's order. -/
theorem wp_region_seq {id : Nat} {Q : Exit → Act → World → Prop} {a : Act} {w : World} {l : List Oper} (hm : P.follows .mixedOrders = true) (hB : seqOkB .any l = true) (hS : S { w with drawn := w.drawn + 1 })
    (h : wpSeqL P l.toArray S (fun a' w' => Q .normal a' w') l a { w with drawn := w.drawn + 1 }) : (Code.region id l.toArray true).wp P Q a w := by
  simp only [seqOkB, Bool.and_eq_true, List.isEmpty_iff] at hB
  obtain ⟨⟨⟨⟨h1, h2⟩, h3⟩, h4⟩, h5⟩ := hB
  refine wp_region_any hm ?_
  have := wpAny_of_seqI (P := P) (S := S) (ops := l.toArray) (md := .any) (n := l.length) (g := 0) (tl := []) (Q' := Q) (F := fun a' w' => Q .normal a' w') h1 h2 h3 h4
    (fun listed inv i _ _ t ht hr => by
      obtain ⟨_, o, ho, _⟩ := mem_ready.1 hr
      have := (Array.getElem?_eq_some_iff.1 ho).1
      simp at this; omega) (by simp) rfl (fun j => by simp)
    (fun listed hs1 hs2 _ => by
      have : listed = Array.replicate l.length true := by
        apply Array.ext
        · simpa using hs1
        · intro i hi1 hi2
          have := hs2 i (by simpa using hi2)
          simp [hi1] at this; simp [this]
      rw [this]; simpa [Region.seqB] using h5)
    (fun a' w' _ hk => hk) l.length (List.range' 0 l.length) (Array.replicate l.toArray.size false) a { w with drawn := w.drawn + 1 } (by simp) (List.pairwise_lt_range' ..) (fun i hi => by simp [hi]) (fun i hi => by simpa using hi) (inv0 l _) hS
    (wpSeqI_of_L l 0 a _ (fun j hj => by simp) h)
  simpa using this

theorem wp_region_seq_tail {id : Nat} {Q : Exit → Act → World → Prop} {a : Act} {w : World} {l : List Oper} (n : Nat) (hm : P.follows .mixedOrders = true) (hB : seqTailB .any l n = true) (hS : S { w with drawn := w.drawn + 1 })
    (h : wpSeqL P l.toArray S (fun a' w' => wpList P l.toArray Q (l.drop n) a' w') (l.take n) a { w with drawn := w.drawn + 1 }) : (Code.region id l.toArray true).wp P Q a w := by
  simp only [seqTailB, Bool.and_eq_true, decide_eq_true_eq] at hB
  obtain ⟨⟨⟨⟨⟨⟨⟨h1, h2⟩, h3⟩, h4⟩, h5⟩, h6⟩, h7⟩, h8⟩ := hB
  refine wp_region_any hm ?_
  have hsz : (l.take n).length = n := by simp; omega
  have := wpAny_of_seqI (P := P) (S := S) (ops := l.toArray) (md := .any) (n := n) (g := l.length - n) (tl := l.drop n) (Q' := Q) (F := fun a' w' => wpList P l.toArray Q (l.drop n) a' w') h1 h2 h3 h4
    (fun listed inv i hi hun t ht => tail_waits h5 h6 (by simpa using h7) inv _ i rfl hi hun t ht) (by simp; omega) (by simp) (fun j => by simp [List.getElem?_drop])
    (fun listed hs1 hs2 hs3 => by rw [listed_eq (m := l.length) h7 (by simpa using hs1) hs2 (fun t ht ht' => hs3 t ht (by simpa using ht'))]; exact h8)
    (fun a' w' _ hk => hk) n (List.range' 0 n) (Array.replicate l.toArray.size false) a { w with drawn := w.drawn + 1 } (by simp) (List.pairwise_lt_range' ..) (fun i hi => by simp [hi]; rw [Array.getElem?_replicate, if_pos (by omega)]; rfl) (fun i hi => by simpa using hi) (inv0 l _) hS
    (by have := wpSeqI_of_L (ops := l.toArray) (l.take n) 0 a _ (fun j hj => by rw [hsz] at hj; simp [hj]) h; rwa [hsz] at this)
  rw [show n + (l.length - n) = l.toArray.size by simp; omega] at this
  exact this

end

attribute [go_sem] Oper.chain Oper.chainUpon

/-- The same at the class 'w with more blocks'. -/
theorem wp_region_plus_seq {P : Program} {id : Nat} {Q : Exit → Act → World → Prop} {a : Act} {w : World} {l : List Oper} (hm : P.follows .mixedOrders = true) (hB : seqOkB .any l = true)
    (h : ∀ x0, wpSeqL P l.toArray (fun w' => ∃ x, w' = w.plus x) (fun a' w' => Q .normal a' w') l a (w.plus x0)) : (Code.region id l.toArray true).wp P Q a w := by
  have e : ({ w with drawn := w.drawn + 1 } : World) = w.plus ⟨#[], w.drawn + 1⟩ := w.drew_is_plus
  refine wp_region_seq (S := fun w' => ∃ x, w' = w.plus x) hm hB ⟨_, e⟩ ?_
  rw [e]; exact h _
theorem wp_region_plus_seq_tail {P : Program} {id : Nat} {Q : Exit → Act → World → Prop} {a : Act} {w : World} {l : List Oper} (n : Nat) (hm : P.follows .mixedOrders = true) (hB : seqTailB .any l n = true)
    (h : ∀ x0, wpSeqL P l.toArray (fun w' => ∃ x, w' = w.plus x) (fun a' w' => wpList P l.toArray Q (l.drop n) a' w') (l.take n) a (w.plus x0)) : (Code.region id l.toArray true).wp P Q a w := by
  have e : ({ w with drawn := w.drawn + 1 } : World) = w.plus ⟨#[], w.drawn + 1⟩ := w.drew_is_plus
  refine wp_region_seq_tail (S := fun w' => ∃ x, w' = w.plus x) n hm hB ⟨_, e⟩ ?_
  rw [e]; exact h _

end Go

/- OPENING ARGUMENTS: what the reading of a struct says of its cells. Laws over any program. No condition. -/
namespace Go
open Go.ChangeShapes Go.WideShapes Go.ChangeAt Go.RowKit

theorem trod_fields {H : Type} {enc : TypeId × Value → H} {P : Program} {w : World} {base : Nat} {spare : Nat → Bool} {held : Bool} {fuel : Nat} {t : TypeId} {cs : List Value} {x : DataW H × List MemPlace}
    {fs : Array Field} (ht : P.underlying t = some (.struct fs)) (h : DataW.trod enc P w base spare held fuel t cs = some x) :
    cs.length = P.cellsOf t ∧ ∃ n, ∀ (i : Nat) (f : Field), fs[i]? = some f → ∃ y, DataW.trod enc P w base spare held n f.type ((cs.drop f.offset).take (P.cellsOf f.type)) = some y := by
  obtain ⟨xs, n, rfl, _, hl, hx, hf⟩ := DataW.trod_struct ht h
  refine ⟨hl, n, fun i f hi => ?_⟩
  have h1 := hf i f hi
  have hlt : i < xs.length := by rw [hx]; exact (Array.getElem?_eq_some_iff.1 hi).1
  exact ⟨xs[i], by rw [h1, List.getElem?_eq_getElem hlt]⟩

theorem trod_items {H : Type} {enc : TypeId × Value → H} {P : Program} {w : World} {base : Nat} {spare : Nat → Bool} {held : Bool} {fuel : Nat} {t : TypeId} {cs : List Value} {x : DataW H × List MemPlace}
    {k : Nat} {e : TypeId} (ht : P.underlying t = some (.array k e)) (h : DataW.trod enc P w base spare held fuel t cs = some x) :
    cs.length = P.cellsOf t ∧ ∃ n, ∀ (i : Nat), i < k → ∃ y, DataW.trod enc P w base spare held n e ((cs.drop (i * P.cellsOf e)).take (P.cellsOf e)) = some y := by
  cases fuel with
  | zero => simp [DataW.trod] at h
  | succ n =>
    unfold DataW.trod at h
    rw [ht] at h
    split at h <;> simp_all
    obtain ⟨hl, xs, hp, hd⟩ := h
    refine ⟨n, fun i hi => ?_⟩
    have h1 := mapM_some_get hp i i (List.getElem?_range hi)
    have hlt : i < xs.length := by rw [mapM_some_length hp]; simpa using hi
    exact ⟨_, _, by rw [h1, List.getElem?_eq_getElem hlt]⟩

theorem trod_osl {H : Type} {enc : TypeId × Value → H} {P : Program} {w : World} {base : Nat} {spare : Nat → Bool} {held : Bool} {fuel : Nat} {t e : TypeId} {cs : List Value} {x : DataW H × List MemPlace}
    (ht : P.underlying t = some (.slice e)) (h : DataW.trod enc P w base spare held fuel t cs = some x) : ∃ (a : Option Addr) (l c : Nat), cs = [.slice a l c] := by
  rcases Go.Deep.open_slice ht h with ⟨h0, _⟩ | ⟨a, len, cap, m, n, D, Pl, h0, _⟩
  · exact ⟨_, _, _, h0⟩
  · exact ⟨_, _, _, h0⟩
theorem agg_of {cs : Array Value} {l : List Value} (e : (Value.agg cs).cells.toList = l) : Value.agg cs = .agg l.toArray := by
  subst e; simp [Value.cells]
theorem i64_of {n : Int} (h : (Lit.int .i64 n).wf = true) : I64 n := bounds_i64 h
theorem len1 {l : List Value} (h : l.length = 1) : ∃ c0, l = [c0] := by
  match l, h with | [c0], _ => exact ⟨c0, rfl⟩
theorem len2 {l : List Value} (h : l.length = 2) : ∃ c0 c1, l = [c0, c1] := by
  match l, h with | [c0, c1], _ => exact ⟨c0, c1, rfl⟩
theorem len3 {l : List Value} (h : l.length = 3) : ∃ c0 c1 c2, l = [c0, c1, c2] := by
  match l, h with | [c0, c1, c2], _ => exact ⟨c0, c1, c2, rfl⟩
theorem len4 {l : List Value} (h : l.length = 4) : ∃ c0 c1 c2 c3, l = [c0, c1, c2, c3] := by
  match l, h with | [c0, c1, c2, c3], _ => exact ⟨c0, c1, c2, c3, rfl⟩
theorem len5 {l : List Value} (h : l.length = 5) : ∃ c0 c1 c2 c3 c4, l = [c0, c1, c2, c3, c4] := by
  match l, h with | [c0, c1, c2, c3, c4], _ => exact ⟨c0, c1, c2, c3, c4, rfl⟩
theorem len6 {l : List Value} (h : l.length = 6) : ∃ c0 c1 c2 c3 c4 c5, l = [c0, c1, c2, c3, c4, c5] := by
  match l, h with | [c0, c1, c2, c3, c4, c5], _ => exact ⟨c0, c1, c2, c3, c4, c5, rfl⟩
theorem len7 {l : List Value} (h : l.length = 7) : ∃ c0 c1 c2 c3 c4 c5 c6, l = [c0, c1, c2, c3, c4, c5, c6] := by
  match l, h with | [c0, c1, c2, c3, c4, c5, c6], _ => exact ⟨c0, c1, c2, c3, c4, c5, c6, rfl⟩
theorem len8 {l : List Value} (h : l.length = 8) : ∃ c0 c1 c2 c3 c4 c5 c6 c7, l = [c0, c1, c2, c3, c4, c5, c6, c7] := by
  match l, h with | [c0, c1, c2, c3, c4, c5, c6, c7], _ => exact ⟨c0, c1, c2, c3, c4, c5, c6, c7, rfl⟩
theorem len9 {l : List Value} (h : l.length = 9) : ∃ c0 c1 c2 c3 c4 c5 c6 c7 c8, l = [c0, c1, c2, c3, c4, c5, c6, c7, c8] := by
  match l, h with | [c0, c1, c2, c3, c4, c5, c6, c7, c8], _ => exact ⟨c0, c1, c2, c3, c4, c5, c6, c7, c8, rfl⟩
theorem len10 {l : List Value} (h : l.length = 10) : ∃ c0 c1 c2 c3 c4 c5 c6 c7 c8 c9, l = [c0, c1, c2, c3, c4, c5, c6, c7, c8, c9] := by
  match l, h with | [c0, c1, c2, c3, c4, c5, c6, c7, c8, c9], _ => exact ⟨c0, c1, c2, c3, c4, c5, c6, c7, c8, c9, rfl⟩
theorem len11 {l : List Value} (h : l.length = 11) : ∃ c0 c1 c2 c3 c4 c5 c6 c7 c8 c9 c10, l = [c0, c1, c2, c3, c4, c5, c6, c7, c8, c9, c10] := by
  match l, h with | [c0, c1, c2, c3, c4, c5, c6, c7, c8, c9, c10], _ => exact ⟨c0, c1, c2, c3, c4, c5, c6, c7, c8, c9, c10, rfl⟩
theorem len12 {l : List Value} (h : l.length = 12) : ∃ c0 c1 c2 c3 c4 c5 c6 c7 c8 c9 c10 c11, l = [c0, c1, c2, c3, c4, c5, c6, c7, c8, c9, c10, c11] := by
  match l, h with | [c0, c1, c2, c3, c4, c5, c6, c7, c8, c9, c10, c11], _ => exact ⟨c0, c1, c2, c3, c4, c5, c6, c7, c8, c9, c10, c11, rfl⟩
theorem len13 {l : List Value} (h : l.length = 13) : ∃ c0 c1 c2 c3 c4 c5 c6 c7 c8 c9 c10 c11 c12, l = [c0, c1, c2, c3, c4, c5, c6, c7, c8, c9, c10, c11, c12] := by
  match l, h with | [c0, c1, c2, c3, c4, c5, c6, c7, c8, c9, c10, c11, c12], _ => exact ⟨c0, c1, c2, c3, c4, c5, c6, c7, c8, c9, c10, c11, c12, rfl⟩
theorem len14 {l : List Value} (h : l.length = 14) : ∃ c0 c1 c2 c3 c4 c5 c6 c7 c8 c9 c10 c11 c12 c13, l = [c0, c1, c2, c3, c4, c5, c6, c7, c8, c9, c10, c11, c12, c13] := by
  match l, h with | [c0, c1, c2, c3, c4, c5, c6, c7, c8, c9, c10, c11, c12, c13], _ => exact ⟨c0, c1, c2, c3, c4, c5, c6, c7, c8, c9, c10, c11, c12, c13, rfl⟩
theorem len15 {l : List Value} (h : l.length = 15) : ∃ c0 c1 c2 c3 c4 c5 c6 c7 c8 c9 c10 c11 c12 c13 c14, l = [c0, c1, c2, c3, c4, c5, c6, c7, c8, c9, c10, c11, c12, c13, c14] := by
  match l, h with | [c0, c1, c2, c3, c4, c5, c6, c7, c8, c9, c10, c11, c12, c13, c14], _ => exact ⟨c0, c1, c2, c3, c4, c5, c6, c7, c8, c9, c10, c11, c12, c13, c14, rfl⟩
theorem len16 {l : List Value} (h : l.length = 16) : ∃ c0 c1 c2 c3 c4 c5 c6 c7 c8 c9 c10 c11 c12 c13 c14 c15, l = [c0, c1, c2, c3, c4, c5, c6, c7, c8, c9, c10, c11, c12, c13, c14, c15] := by
  match l, h with | [c0, c1, c2, c3, c4, c5, c6, c7, c8, c9, c10, c11, c12, c13, c14, c15], _ => exact ⟨c0, c1, c2, c3, c4, c5, c6, c7, c8, c9, c10, c11, c12, c13, c14, c15, rfl⟩
theorem len17 {l : List Value} (h : l.length = 17) : ∃ c0 c1 c2 c3 c4 c5 c6 c7 c8 c9 c10 c11 c12 c13 c14 c15 c16, l = [c0, c1, c2, c3, c4, c5, c6, c7, c8, c9, c10, c11, c12, c13, c14, c15, c16] := by
  match l, h with | [c0, c1, c2, c3, c4, c5, c6, c7, c8, c9, c10, c11, c12, c13, c14, c15, c16], _ => exact ⟨c0, c1, c2, c3, c4, c5, c6, c7, c8, c9, c10, c11, c12, c13, c14, c15, c16, rfl⟩
theorem len18 {l : List Value} (h : l.length = 18) : ∃ c0 c1 c2 c3 c4 c5 c6 c7 c8 c9 c10 c11 c12 c13 c14 c15 c16 c17, l = [c0, c1, c2, c3, c4, c5, c6, c7, c8, c9, c10, c11, c12, c13, c14, c15, c16, c17] := by
  match l, h with | [c0, c1, c2, c3, c4, c5, c6, c7, c8, c9, c10, c11, c12, c13, c14, c15, c16, c17], _ => exact ⟨c0, c1, c2, c3, c4, c5, c6, c7, c8, c9, c10, c11, c12, c13, c14, c15, c16, c17, rfl⟩
theorem len19 {l : List Value} (h : l.length = 19) : ∃ c0 c1 c2 c3 c4 c5 c6 c7 c8 c9 c10 c11 c12 c13 c14 c15 c16 c17 c18, l = [c0, c1, c2, c3, c4, c5, c6, c7, c8, c9, c10, c11, c12, c13, c14, c15, c16, c17, c18] := by
  match l, h with | [c0, c1, c2, c3, c4, c5, c6, c7, c8, c9, c10, c11, c12, c13, c14, c15, c16, c17, c18], _ => exact ⟨c0, c1, c2, c3, c4, c5, c6, c7, c8, c9, c10, c11, c12, c13, c14, c15, c16, c17, c18, rfl⟩
theorem len20 {l : List Value} (h : l.length = 20) : ∃ c0 c1 c2 c3 c4 c5 c6 c7 c8 c9 c10 c11 c12 c13 c14 c15 c16 c17 c18 c19, l = [c0, c1, c2, c3, c4, c5, c6, c7, c8, c9, c10, c11, c12, c13, c14, c15, c16, c17, c18, c19] := by
  match l, h with | [c0, c1, c2, c3, c4, c5, c6, c7, c8, c9, c10, c11, c12, c13, c14, c15, c16, c17, c18, c19], _ => exact ⟨c0, c1, c2, c3, c4, c5, c6, c7, c8, c9, c10, c11, c12, c13, c14, c15, c16, c17, c18, c19, rfl⟩
theorem len21 {l : List Value} (h : l.length = 21) : ∃ c0 c1 c2 c3 c4 c5 c6 c7 c8 c9 c10 c11 c12 c13 c14 c15 c16 c17 c18 c19 c20, l = [c0, c1, c2, c3, c4, c5, c6, c7, c8, c9, c10, c11, c12, c13, c14, c15, c16, c17, c18, c19, c20] := by
  match l, h with | [c0, c1, c2, c3, c4, c5, c6, c7, c8, c9, c10, c11, c12, c13, c14, c15, c16, c17, c18, c19, c20], _ => exact ⟨c0, c1, c2, c3, c4, c5, c6, c7, c8, c9, c10, c11, c12, c13, c14, c15, c16, c17, c18, c19, c20, rfl⟩
theorem len22 {l : List Value} (h : l.length = 22) : ∃ c0 c1 c2 c3 c4 c5 c6 c7 c8 c9 c10 c11 c12 c13 c14 c15 c16 c17 c18 c19 c20 c21, l = [c0, c1, c2, c3, c4, c5, c6, c7, c8, c9, c10, c11, c12, c13, c14, c15, c16, c17, c18, c19, c20, c21] := by
  match l, h with | [c0, c1, c2, c3, c4, c5, c6, c7, c8, c9, c10, c11, c12, c13, c14, c15, c16, c17, c18, c19, c20, c21], _ => exact ⟨c0, c1, c2, c3, c4, c5, c6, c7, c8, c9, c10, c11, c12, c13, c14, c15, c16, c17, c18, c19, c20, c21, rfl⟩
theorem len23 {l : List Value} (h : l.length = 23) : ∃ c0 c1 c2 c3 c4 c5 c6 c7 c8 c9 c10 c11 c12 c13 c14 c15 c16 c17 c18 c19 c20 c21 c22, l = [c0, c1, c2, c3, c4, c5, c6, c7, c8, c9, c10, c11, c12, c13, c14, c15, c16, c17, c18, c19, c20, c21, c22] := by
  match l, h with | [c0, c1, c2, c3, c4, c5, c6, c7, c8, c9, c10, c11, c12, c13, c14, c15, c16, c17, c18, c19, c20, c21, c22], _ => exact ⟨c0, c1, c2, c3, c4, c5, c6, c7, c8, c9, c10, c11, c12, c13, c14, c15, c16, c17, c18, c19, c20, c21, c22, rfl⟩
theorem len24 {l : List Value} (h : l.length = 24) : ∃ c0 c1 c2 c3 c4 c5 c6 c7 c8 c9 c10 c11 c12 c13 c14 c15 c16 c17 c18 c19 c20 c21 c22 c23, l = [c0, c1, c2, c3, c4, c5, c6, c7, c8, c9, c10, c11, c12, c13, c14, c15, c16, c17, c18, c19, c20, c21, c22, c23] := by
  match l, h with | [c0, c1, c2, c3, c4, c5, c6, c7, c8, c9, c10, c11, c12, c13, c14, c15, c16, c17, c18, c19, c20, c21, c22, c23], _ => exact ⟨c0, c1, c2, c3, c4, c5, c6, c7, c8, c9, c10, c11, c12, c13, c14, c15, c16, c17, c18, c19, c20, c21, c22, c23, rfl⟩

end Go
