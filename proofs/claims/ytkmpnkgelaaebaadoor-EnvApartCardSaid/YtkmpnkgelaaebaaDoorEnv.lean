/- PLAIN: environments: features, their words; slices of texts that the call itself makes. No condition; no program. -/
import Derived.Test.YtkmpnkgelaaebaaDoorKit
import Derived.Test.YtkmpnkgelaaebaaDoorNum
set_option linter.unusedSimpArgs false
set_option linter.unusedVariables false
namespace Go
open Go.RowKit

/-- the value is a slice of these texts, in this world -/
def SRow (w : World) (v : Value) (l : List ByteArray) : Prop :=
  (v = .slice none 0 0 ∧ l = []) ∨ ∃ g cap : Nat, v = .slice (some ⟨g, 0, none⟩) l.length cap ∧ ∀ i, i < l.length → w.cell? ⟨g, i, none⟩ = some (.string (l.getD i ByteArray.empty))
theorem SRow.plus {w : World} {v : Value} {l : List ByteArray} (h : SRow w v l) (x : Ext) : SRow (w.plus x) v l := by
  rcases h with h | ⟨g, cap, rfl, hc⟩
  · exact .inl h
  · exact .inr ⟨g, cap, rfl, fun i hi => by rw [World.cell?_plus_some]; exact hc i hi; rw [hc i hi]; rfl⟩
/-- returns a slice of these texts -/
def GivesS (w : World) (l : List ByteArray) (e : Ending) (w' : World) : Prop := ∃ v, e = .returned v ∧ w.grows w' ∧ SRow w' v l

def nHover : ByteArray := ⟨#[104, 111, 118, 101, 114]⟩
def nOri : ByteArray := ⟨#[111, 114, 105, 101, 110, 116, 97, 116, 105, 111, 110]⟩
def nPointer : ByteArray := ⟨#[112, 111, 105, 110, 116, 101, 114]⟩
def nScheme : ByteArray := ⟨#[112, 114, 101, 102, 101, 114, 115, 45, 99, 111, 108, 111, 114, 45, 115, 99, 104, 101, 109, 101]⟩
def nMotion : ByteArray := ⟨#[112, 114, 101, 102, 101, 114, 115, 45, 114, 101, 100, 117, 99, 101, 100, 45, 109, 111, 116, 105, 111, 110]⟩
/-- the words of a feature -/
def wordsOf (s : ByteArray) : List ByteArray :=
  if s.toList = [104, 111, 118, 101, 114] then [⟨#[110, 111, 110, 101]⟩, ⟨#[104, 111, 118, 101, 114]⟩] else
  if s.toList = [111, 114, 105, 101, 110, 116, 97, 116, 105, 111, 110] then [⟨#[112, 111, 114, 116, 114, 97, 105, 116]⟩, ⟨#[108, 97, 110, 100, 115, 99, 97, 112, 101]⟩] else
  if s.toList = [112, 111, 105, 110, 116, 101, 114] then [⟨#[110, 111, 110, 101]⟩, ⟨#[99, 111, 97, 114, 115, 101]⟩, ⟨#[102, 105, 110, 101]⟩] else
  if s.toList = [112, 114, 101, 102, 101, 114, 115, 45, 99, 111, 108, 111, 114, 45, 115, 99, 104, 101, 109, 101] then [⟨#[108, 105, 103, 104, 116]⟩, ⟨#[100, 97, 114, 107]⟩] else
  if s.toList = [112, 114, 101, 102, 101, 114, 115, 45, 114, 101, 100, 117, 99, 101, 100, 45, 109, 111, 116, 105, 111, 110] then [⟨#[110, 111, 45, 112, 114, 101, 102, 101, 114, 101, 110, 99, 101]⟩, ⟨#[114, 101, 100, 117, 99, 101]⟩] else
  []

theorem wordsOf_none {s : ByteArray} (h0 : ¬ s.toList = [104, 111, 118, 101, 114]) (h1 : ¬ s.toList = [111, 114, 105, 101, 110, 116, 97, 116, 105, 111, 110]) (h2 : ¬ s.toList = [112, 111, 105, 110, 116, 101, 114]) (h3 : ¬ s.toList = [112, 114, 101, 102, 101, 114, 115, 45, 99, 111, 108, 111, 114, 45, 115, 99, 104, 101, 109, 101]) (h4 : ¬ s.toList = [112, 114, 101, 102, 101, 114, 115, 45, 114, 101, 100, 117, 99, 101, 100, 45, 109, 111, 116, 105, 111, 110]) : wordsOf s = [] := by
  unfold wordsOf
  rw [if_neg h0, if_neg h1, if_neg h2, if_neg h3, if_neg h4]

/-- is a text one of these? -/
def hasW (l : List ByteArray) (s : ByteArray) : Bool := l.any fun x => s.toList == x.toList
/-- where it stands -/
def idxW (s : ByteArray) : List ByteArray → Nat → Int
  | [], _ => -1
  | x :: l, k => if s.toList == x.toList then (k : Int) else idxW s l (k + 1)
theorem beq_symm (l m : List UInt8) : (l == m) = (m == l) := by rw [Bool.eq_iff_iff, beq_iff_eq, beq_iff_eq]; exact eq_comm
theorem idxW_step {s : ByteArray} {l : List ByteArray} {k : Nat} (h : k < l.length) : idxW s (l.drop k) k = if s.toList == (l.getD k ByteArray.empty).toList then (k : Int) else idxW s (l.drop (k + 1)) (k + 1) := by
  rw [List.drop_eq_getElem_cons h, idxW, List.getD_eq_getElem?_getD, List.getElem?_eq_getElem h]; rfl
theorem idxW_end {s : ByteArray} {l : List ByteArray} {k : Nat} (h : l.length ≤ k) : idxW s (l.drop k) k = -1 := by
  rw [List.drop_eq_nil_of_le h]; rfl
theorem idxW_has (s : ByteArray) : ∀ (l : List ByteArray) (k : Nat), decide (0 ≤ idxW s l k) = hasW l s
  | [], k => rfl
  | x :: l, k => by
    unfold idxW hasW
    simp only [List.any_cons]
    cases h : (s.toList == x.toList) with
    | true => simp
    | false => simp only [Bool.false_or]; exact idxW_has s l (k + 1)
theorem hasW_step {s : ByteArray} {l : List ByteArray} {k : Nat} (h : k < l.length) : hasW (l.drop k) s = (s.toList == (l.getD k ByteArray.empty).toList || hasW (l.drop (k + 1)) s) := by
  rw [List.drop_eq_getElem_cons h, hasW, List.any_cons, List.getD_eq_getElem?_getD, List.getElem?_eq_getElem h]; rfl
theorem hasW_end {s : ByteArray} {l : List ByteArray} {k : Nat} (h : l.length ≤ k) : hasW (l.drop k) s = false := by
  rw [List.drop_eq_nil_of_le h]; rfl

theorem wordsOf_len (s : ByteArray) : (wordsOf s).length ≤ maxLen := by
  unfold wordsOf maxLen
  repeat' split
  all_goals (simp)

structure En where
  p : Bool
  w1 : Int
  w2 : Int
  h1 : Int
  h2 : Int
  f1 : Int
  f2 : Int
  c1 : Int
  c2 : Int
  s : ByteArray
  h : ByteArray
  q : ByteArray
  m : ByteArray
abbrev En.v (e : En) : Value := .agg #[.bool e.p, .int .i64 e.w1, .int .i64 e.w2, .int .i64 e.h1, .int .i64 e.h2, .int .i64 e.f1, .int .i64 e.f2, .int .i64 e.c1, .int .i64 e.c2, .string e.s, .string e.h, .string e.q, .string e.m]
def En.Wf (e : En) : Prop := I64 e.w1 ∧ I64 e.w2 ∧ I64 e.h1 ∧ I64 e.h2 ∧ I64 e.f1 ∧ I64 e.f2 ∧ I64 e.c1 ∧ I64 e.c2
/-- may it be? -/
def En.may (e : En) : Bool := sizeB e.w1 e.w2 && (sizeB e.h1 e.h2 && (sizeB e.f1 e.f2 && (sizeB e.c1 e.c2 && ((e.c2 == 1) &&
  (hasW (wordsOf nHover) e.h && (hasW (wordsOf nPointer) e.q && (hasW (wordsOf nScheme) e.s && hasW (wordsOf nMotion) e.m)))))))

/-- the context of an environment -/
def En.ctx (e : En) : Value := if e.may then Value.agg #[.int .i64 e.f1, .int .i64 e.f2, .int .i64 e.f1, .int .i64 e.f2, .int .i64 e.w1, .int .i64 e.w2, .int .i64 e.h1, .int .i64 e.h2, .int .i64 0, .int .i64 0, .int .i64 0, .int .i64 0] else Value.agg #[.int .i64 0, .int .i64 0, .int .i64 0, .int .i64 0, .int .i64 0, .int .i64 0, .int .i64 0, .int .i64 0, .int .i64 0, .int .i64 0, .int .i64 0, .int .i64 0]

end Go
