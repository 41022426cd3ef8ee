/- SMALL LAWS: the world that is another one with more blocks ('World.plus'), and regions that draw their order whose callees only make new blocks. No condition: plain laws on worlds. -/
import Derived.WalkKit
import Derived.WalkSpells
import Derived.WalkLawsBesides
import Derived.Deep.QuietTactic
import Derived.BigQuiet
import Derived.Lib.Hide
import Derived.Deep.DeepCutAuto
import Derived.Deep.LoopGhost
import Derived.Deep.DeepMust
import Derived.Lib.ConvBytes
import Derived.Handy
import Derived.Deep.RegionHeld3
set_option linter.unusedSimpArgs false
set_option linter.unusedVariables false
namespace Go
open Go.RowKit

/-- a number of the kind int, int64 -/
def I64 (n : Int) : Prop := -9223372036854775808 ≤ n ∧ n ≤ 9223372036854775807
theorem I64.lo {n : Int} (h : I64 n) : -9223372036854775808 ≤ n := h.1
theorem I64.hi {n : Int} (h : I64 n) : n ≤ 9223372036854775807 := h.2

/-- New blocks, and the count of draws. -/
structure Ext where
  bs : Array Obj
  n : Nat
instance : Nonempty Ext := ⟨⟨#[], 0⟩⟩
/-- 'w' with blocks put behind, and some draws. -/
def World.plus (w : World) (x : Ext) : World := { w with heap := w.heap ++ x.bs, drawn := x.n }

section
variable (w : World) (x y : Ext) (a : Addr) (v : Value) (o : Obj)
@[simp, go_sem] theorem World.size_plus : (w.plus x).heap.size = w.heap.size + x.bs.size := by simp [World.plus]
@[simp, go_sem] theorem World.tape_plus : (w.plus x).tape = w.tape := rfl
theorem World.heap_plus_lt {k : Nat} (h : k < w.heap.size) : (w.plus x).heap[k]? = w.heap[k]? := by
  simp only [World.plus, Array.getElem?_append]; rw [if_pos h]
@[go_sem] theorem World.cell?_plus_lt (n i : Nat) (h : n < w.heap.size) : (w.plus x).cell? ⟨n, i, none⟩ = w.cell? ⟨n, i, none⟩ := by
  unfold World.cell?; rw [World.heap_plus_lt w x h]
@[go_sem] theorem World.cell?_plus_some (h : (w.cell? a).isSome = true) : (w.plus x).cell? a = w.cell? a := by
  obtain ⟨u, hu⟩ := Option.isSome_iff_exists.1 h
  have := World.block_lt_of_cell? w a hu
  unfold World.cell?; rw [World.heap_plus_lt w x this]
@[go_sem] theorem World.frozen?_plus_lt (n i : Nat) (h : n < w.heap.size) : (w.plus x).frozen? ⟨n, i, none⟩ = w.frozen? ⟨n, i, none⟩ := by
  unfold World.frozen?; rw [World.heap_plus_lt w x h]
theorem World.plus_plus : (w.plus x).plus y = w.plus ⟨x.bs ++ y.bs, y.n⟩ := by simp [World.plus, Array.append_assoc]
@[simp, go_sem] theorem World.drew_plus : w.drew.plus x = w.plus x := by cases w; simp [World.plus, World.drew]
@[simp, go_sem] theorem World.drewN_plus (n : Nat) : (w.drewN n).plus x = w.plus x := by cases w; simp [World.plus, World.drewN]
theorem World.plus_drew : (w.plus x).drew = w.plus ⟨x.bs, x.n + 1⟩ := rfl
theorem World.drew_is_plus : w.drew = w.plus ⟨#[], w.drawn + 1⟩ := by
  show ({ w with drawn := w.drawn + 1 } : World) = { w with heap := w.heap ++ #[], drawn := w.drawn + 1 }
  rw [Array.append_empty]
theorem World.drewN_is_plus (n : Nat) : w.drewN n = w.plus ⟨#[], w.drawn + n⟩ := by
  show ({ w with drawn := w.drawn + n } : World) = { w with heap := w.heap ++ #[], drawn := w.drawn + n }
  rw [Array.append_empty]
theorem World.self_is_plus : w = w.plus ⟨#[], w.drawn⟩ := by simp [World.plus]
theorem World.alloc_is_plus : w.alloc o = w.plus ⟨#[o], w.drawn⟩ := by
  show ({ w with heap := w.heap.push o } : World) = { w with heap := w.heap ++ #[o], drawn := w.drawn }
  rw [Array.push_eq_append]
@[go_sem] theorem World.setCell_plus (n i : Nat) (h : n < w.heap.size) : (w.plus x).setCell ⟨n, i, none⟩ v = (w.setCell ⟨n, i, none⟩ v).plus x := by
  cases w
  simp only [World.setCell, World.plus] at *
  congr 1
  apply Array.ext
  · simp
  · intro k h1 h2
    simp only [Array.getElem_modify, Array.getElem_append, Array.size_modify]
    by_cases hk : n = k
    · subst hk; simp [h]
    · simp [hk]
end

@[go_sem] theorem lt_add_true {a b c : Nat} (h : a < b) : (a < b + c) = True := by simp; omega

@[go_sem] theorem lt_lv2 {a b c2 : Nat} (h : 0 < b) : (a < a + b + c2) = True := by simp; omega
@[go_sem] theorem lte_lv2 {a e b c2 : Nat} (h : e < b) : (a + e < a + b + c2) = True := by simp; omega
@[go_sem] theorem lt_lv3 {a b c2 c3 : Nat} (h : 0 < b) : (a < a + b + c2 + c3) = True := by simp; omega
@[go_sem] theorem lte_lv3 {a e b c2 c3 : Nat} (h : e < b) : (a + e < a + b + c2 + c3) = True := by simp; omega
@[go_sem] theorem lt_lv4 {a b c2 c3 c4 : Nat} (h : 0 < b) : (a < a + b + c2 + c3 + c4) = True := by simp; omega
@[go_sem] theorem lte_lv4 {a e b c2 c3 c4 : Nat} (h : e < b) : (a + e < a + b + c2 + c3 + c4) = True := by simp; omega
@[go_sem] theorem lt_lv5 {a b c2 c3 c4 c5 : Nat} (h : 0 < b) : (a < a + b + c2 + c3 + c4 + c5) = True := by simp; omega
@[go_sem] theorem lte_lv5 {a e b c2 c3 c4 c5 : Nat} (h : e < b) : (a + e < a + b + c2 + c3 + c4 + c5) = True := by simp; omega
@[go_sem] theorem lt_lv6 {a b c2 c3 c4 c5 c6 : Nat} (h : 0 < b) : (a < a + b + c2 + c3 + c4 + c5 + c6) = True := by simp; omega
@[go_sem] theorem lte_lv6 {a e b c2 c3 c4 c5 c6 : Nat} (h : e < b) : (a + e < a + b + c2 + c3 + c4 + c5 + c6) = True := by simp; omega
@[go_sem] theorem lt_lv7 {a b c2 c3 c4 c5 c6 c7 : Nat} (h : 0 < b) : (a < a + b + c2 + c3 + c4 + c5 + c6 + c7) = True := by simp; omega
@[go_sem] theorem lte_lv7 {a e b c2 c3 c4 c5 c6 c7 : Nat} (h : e < b) : (a + e < a + b + c2 + c3 + c4 + c5 + c6 + c7) = True := by simp; omega
@[go_sem] theorem lt_lv8 {a b c2 c3 c4 c5 c6 c7 c8 : Nat} (h : 0 < b) : (a < a + b + c2 + c3 + c4 + c5 + c6 + c7 + c8) = True := by simp; omega
@[go_sem] theorem lte_lv8 {a e b c2 c3 c4 c5 c6 c7 c8 : Nat} (h : e < b) : (a + e < a + b + c2 + c3 + c4 + c5 + c6 + c7 + c8) = True := by simp; omega

/-- nothing that was there has turned; there may be new blocks, and draws. -/
def World.grows (w w' : World) : Prop := ∃ x, w' = w.plus x
theorem World.grows.refl {w : World} : w.grows w := ⟨_, w.self_is_plus⟩
theorem World.grows.trans {a b c : World} (h : a.grows b) (k : b.grows c) : a.grows c := by
  obtain ⟨x, rfl⟩ := h; obtain ⟨y, rfl⟩ := k; exact ⟨_, World.plus_plus _ _ _⟩
theorem World.grows.alloc {a b : World} (h : a.grows b) (o : Obj) : a.grows (b.alloc o) := h.trans ⟨_, World.alloc_is_plus _ _⟩
theorem World.grows.drew {a b : World} (h : a.grows b) : a.grows b.drew := h.trans ⟨_, World.drew_is_plus _⟩
theorem World.grows.drewN {a b : World} (h : a.grows b) (n : Nat) : a.grows (b.drewN n) := h.trans ⟨_, World.drewN_is_plus _ _⟩
theorem World.grows.plus {a b : World} (h : a.grows b) (x) : a.grows (b.plus x) := h.trans ⟨_, rfl⟩
/-- Short names: they stand in many texts. -/
theorem grA {w : World} : w.grows w := World.grows.refl
theorem grB {a b : World} (h : a.grows b) (x) : a.grows (b.plus x) := h.plus x
theorem grC {a b : World} (h : a.grows b) (o : Obj) : a.grows (b.alloc o) := h.alloc o
theorem grD {a b : World} (h : a.grows b) : a.grows b.drew := h.drew
theorem World.grows.below {w w' : World} (h : w.grows w') : Below w.heap.size w w' := by
  obtain ⟨x, rfl⟩ := h
  exact ⟨rfl, rfl, rfl, by simp, fun k hk => World.heap_plus_lt _ _ hk⟩
theorem World.grows.of_below {w w' : World} (h : Below w.heap.size w w') : w.grows w' := by
  refine ⟨⟨w'.heap.extract w.heap.size w'.heap.size, w'.drawn⟩, ?_⟩
  obtain ⟨h1, h2, h3, h4, h5⟩ := h
  cases w; cases w'
  simp only [World.plus] at *
  subst h1 h2 h3
  congr 1
  apply Array.ext_getElem?
  intro i
  rw [Array.getElem?_append]
  split
  · rename_i hi; exact h5 i hi
  · rename_i hi
    rw [Array.getElem?_extract]
    simp only [Nat.not_lt] at hi
    split
    · congr 1; omega
    · rw [Array.getElem?_eq_none (by omega)]

/-- The post of a function that only reckons: this value; the world may have grown. -/
def Gives (w : World) (v : Value) (e : Ending) (w' : World) : Prop := e = .returned v ∧ w.grows w'

theorem Calls.plus_of {P : Program} {f : FuncId} {args : Array Value} {w : World} {x : Ext} {v : Value}
    (h : Calls P f args (w.plus x) (Gives (w.plus x) v)) : Calls P f args (w.plus x) fun e w'' => e = .returned v ∧ ∃ y, w'' = w.plus y :=
  h.mono fun _ _ ⟨he, _, hy⟩ => ⟨he, _, hy.trans (World.plus_plus _ _ _)⟩

theorem gives_same {P : Program} {f : FuncId} {args : Array Value} {w : World} {v : Value}
    (h : Calls P f args w fun e w' => e = .returned v ∧ w = w') : Calls P f args w (Gives w v) :=
  h.mono fun _ _ ⟨he, hw⟩ => ⟨he, hw ▸ World.grows.refl⟩

/-- ONE WALK IN THE TEXT's ORDER for a region that draws its order, whose operations only read and whose callees only make new blocks. -/
theorem wp_region_plus_lit {P : Program} {id : Nat} {Q : Exit → Act → World → Prop} {a : Act} {w : World} {l : List Oper} (hm : P.follows .mixedOrders = true) (hB : Region.lexB .any l.toArray = true)
    (h : wpQuiet P l.toArray (fun w' => ∃ x, w' = w.plus x) (fun a' => ∀ w', (∃ x, w' = w.plus x) → Q .normal a' w') l a) : (Code.region id l.toArray true).wp P Q a w :=
  wp_region_quiet (C := fun w' => ∃ x, w' = w.plus x) hm hB ⟨_, w.drew_is_plus⟩ (by simpa using h)

/-- '[]byte(s)' of a string that is no constant: a new row that holds its bytes. -/
theorem conv_bytes {P : Program} (w : World) (src dst e : TypeId) (s : ByteArray) {u : TypeDesc}
    (hs : P.underlying src = some u) (hd : P.underlying dst = some (.slice e)) (he : P.underlying e = some (.int .u8)) :
    ∃ (c : Nat) (z : Ext), (convert src dst (.string s)).run P w = .ok (.slice (some ⟨w.heap.size, 0, none⟩) s.size c) (w.plus z) ∧
      ∀ j, j < s.size → (w.plus z).cell? ⟨w.heap.size, j, none⟩ = some (.int .u8 (s.data.toList.getD j 0).toNat) := by
  have h0 := Lib.run_convert_string_bytes w src dst e s hs hd he
  have hb : w.grows (Lib.bytesWorld w e s) := by
    refine World.grows.of_below ⟨?_, ?_, ?_, ?_, fun k hk => Lib.bytesWorld_at_old w e s k hk⟩ <;> first | rfl | (simp only [Lib.bytesWorld, World.freeze]; split <;> rfl) | (rw [Lib.bytesWorld_size]; omega)
  obtain ⟨z, hz⟩ := hb
  refine ⟨_, z, by rw [h0, hz], fun j hj => ?_⟩
  rw [← hz]; exact Lib.bytesWorld_cell w e s j hj

theorem ret_int {k : IntKind} {a b : Int} (h : a = b) : Ending.returned (.int k a) = .returned (.int k b) := by rw [h]
theorem ret_bool {a b : Bool} (h : a = b) : Ending.returned (.bool a) = .returned (.bool b) := by rw [h]

end Go
