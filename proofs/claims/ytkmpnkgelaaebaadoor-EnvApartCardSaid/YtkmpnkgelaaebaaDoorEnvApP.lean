/- PLAIN FACTS of environments: what each feature is, and what a change leaves as it was. No condition; no program. -/
import Derived.Test.YtkmpnkgelaaebaaDoorEnvVl
import Derived.Test.YtkmpnkgelaaebaaDoorEnvP
set_option linter.unusedSimpArgs false
set_option linter.unusedVariables false
namespace Go
open Go.RowKit Go.Proofs.YtkmpnkgelaaebaaDoor
def nmW : ByteArray := ⟨#[119, 105, 100, 116, 104]⟩
def nmH : ByteArray := ⟨#[104, 101, 105, 103, 104, 116]⟩
def nmA : ByteArray := ⟨#[97, 115, 112, 101, 99, 116, 45, 114, 97, 116, 105, 111]⟩
def nmC : ByteArray := ⟨#[99, 111, 108, 111, 114]⟩
def allN : List ByteArray := [nmW, nmH, nmA, nmC, nHover, nOri, nPointer, nScheme, nMotion]
/-- is it a feature with a number? -/
def numB (n : ByteArray) : Bool := n.toList == [119, 105, 100, 116, 104] || (n.toList == [104, 101, 105, 103, 104, 116] || (n.toList == [97, 115, 112, 101, 99, 116, 45, 114, 97, 116, 105, 111] || n.toList == [99, 111, 108, 111, 114]))
theorem val_nmW {e : En} (h : e.may = true) : e.val nmW = ((e.w1, e.w2), true) := by
  unfold En.val; rw [if_pos h, if_pos (by decide +kernel)]
theorem val_nmH {e : En} (h : e.may = true) : e.val nmH = ((e.h1, e.h2), true) := by
  unfold En.val; rw [if_pos h, if_neg (by decide +kernel), if_pos (by decide +kernel)]
theorem val_nmA {e : En} (h : e.may = true) : e.val nmA = (divQ (e.w1, e.w2) (e.h1, e.h2), true) := by
  unfold En.val; rw [if_pos h, if_neg (by decide +kernel), if_neg (by decide +kernel), if_pos (by decide +kernel)]
theorem val_nmC {e : En} (h : e.may = true) : e.val nmC = ((e.c1, e.c2), true) := by
  unfold En.val; rw [if_pos h, if_neg (by decide +kernel), if_neg (by decide +kernel), if_neg (by decide +kernel), if_pos (by decide +kernel)]
theorem val_nHover {e : En} (h : e.may = true) : e.val nHover = ((0, 0), false) := by
  unfold En.val; rw [if_pos h, if_neg (by decide +kernel), if_neg (by decide +kernel), if_neg (by decide +kernel), if_neg (by decide +kernel)]
theorem val_nOri {e : En} (h : e.may = true) : e.val nOri = ((0, 0), false) := by
  unfold En.val; rw [if_pos h, if_neg (by decide +kernel), if_neg (by decide +kernel), if_neg (by decide +kernel), if_neg (by decide +kernel)]
theorem val_nPointer {e : En} (h : e.may = true) : e.val nPointer = ((0, 0), false) := by
  unfold En.val; rw [if_pos h, if_neg (by decide +kernel), if_neg (by decide +kernel), if_neg (by decide +kernel), if_neg (by decide +kernel)]
theorem val_nScheme {e : En} (h : e.may = true) : e.val nScheme = ((0, 0), false) := by
  unfold En.val; rw [if_pos h, if_neg (by decide +kernel), if_neg (by decide +kernel), if_neg (by decide +kernel), if_neg (by decide +kernel)]
theorem val_nMotion {e : En} (h : e.may = true) : e.val nMotion = ((0, 0), false) := by
  unfold En.val; rw [if_pos h, if_neg (by decide +kernel), if_neg (by decide +kernel), if_neg (by decide +kernel), if_neg (by decide +kernel)]
theorem word_nmW {e : En} (h : e.may = true) : e.word nmW = (⟨#[]⟩, false) := by
  have hf : fieldOf nmW = none := by decide +kernel
  unfold En.word; rw [if_pos h, if_neg (by decide +kernel), hf]
theorem word_nmH {e : En} (h : e.may = true) : e.word nmH = (⟨#[]⟩, false) := by
  have hf : fieldOf nmH = none := by decide +kernel
  unfold En.word; rw [if_pos h, if_neg (by decide +kernel), hf]
theorem word_nmA {e : En} (h : e.may = true) : e.word nmA = (⟨#[]⟩, false) := by
  have hf : fieldOf nmA = none := by decide +kernel
  unfold En.word; rw [if_pos h, if_neg (by decide +kernel), hf]
theorem word_nmC {e : En} (h : e.may = true) : e.word nmC = (⟨#[]⟩, false) := by
  have hf : fieldOf nmC = none := by decide +kernel
  unfold En.word; rw [if_pos h, if_neg (by decide +kernel), hf]
theorem word_nHover {e : En} (h : e.may = true) : e.word nHover = (e.h, true) := by
  have hf : fieldOf nHover = some 10 := by decide +kernel
  unfold En.word; rw [if_pos h, if_neg (by decide +kernel), hf]; rfl
theorem word_nOri {e : En} (h : e.may = true) : e.word nOri = (if 0 ≤ e.cmpHW then nPortrait else nLandscape, true) := by
  unfold En.word; rw [if_pos h, if_pos (by decide +kernel)]
theorem word_nPointer {e : En} (h : e.may = true) : e.word nPointer = (e.q, true) := by
  have hf : fieldOf nPointer = some 11 := by decide +kernel
  unfold En.word; rw [if_pos h, if_neg (by decide +kernel), hf]; rfl
theorem word_nScheme {e : En} (h : e.may = true) : e.word nScheme = (e.s, true) := by
  have hf : fieldOf nScheme = some 9 := by decide +kernel
  unfold En.word; rw [if_pos h, if_neg (by decide +kernel), hf]; rfl
theorem word_nMotion {e : En} (h : e.may = true) : e.word nMotion = (e.m, true) := by
  have hf : fieldOf nMotion = some 12 := by decide +kernel
  unfold En.word; rw [if_pos h, if_neg (by decide +kernel), hf]; rfl
theorem all_cases {P : ByteArray → Prop} (h : P nmW ∧ P nmH ∧ P nmA ∧ P nmC ∧ P nHover ∧ P nOri ∧ P nPointer ∧ P nScheme ∧ P nMotion) : ∀ n ∈ allN, P n := by
  intro n hn
  simp only [allN, List.mem_cons, List.not_mem_nil, or_false] at hn
  obtain ⟨p0, p1, p2, p3, p4, p5, p6, p7, p8⟩ := h
  rcases hn with rfl | rfl | rfl | rfl | rfl | rfl | rfl | rfl | rfl <;> assumption
theorem flags {e : En} (h : e.may = true) : ∀ n ∈ allN, (e.val n).2 = numB n ∧ (e.word n).2 = !numB n :=
  all_cases ⟨by rw [val_nmW h, word_nmW h]; exact ⟨(by decide +kernel : true = numB nmW), (by decide +kernel : false = !numB nmW)⟩, by rw [val_nmH h, word_nmH h]; exact ⟨(by decide +kernel : true = numB nmH), (by decide +kernel : false = !numB nmH)⟩, by rw [val_nmA h, word_nmA h]; exact ⟨(by decide +kernel : true = numB nmA), (by decide +kernel : false = !numB nmA)⟩, by rw [val_nmC h, word_nmC h]; exact ⟨(by decide +kernel : true = numB nmC), (by decide +kernel : false = !numB nmC)⟩, by rw [val_nHover h, word_nHover h]; exact ⟨(by decide +kernel : false = numB nHover), (by decide +kernel : true = !numB nHover)⟩, by rw [val_nOri h, word_nOri h]; exact ⟨(by decide +kernel : false = numB nOri), (by decide +kernel : true = !numB nOri)⟩, by rw [val_nPointer h, word_nPointer h]; exact ⟨(by decide +kernel : false = numB nPointer), (by decide +kernel : true = !numB nPointer)⟩, by rw [val_nScheme h, word_nScheme h]; exact ⟨(by decide +kernel : false = numB nScheme), (by decide +kernel : true = !numB nScheme)⟩, by rw [val_nMotion h, word_nMotion h]; exact ⟨(by decide +kernel : false = numB nMotion), (by decide +kernel : true = !numB nMotion)⟩⟩
/-- is it the change's own feature? -/
def ownB (o : Od) (n : ByteArray) : Bool :=
  ((o.k0 == 2) && (n.toList == [119, 105, 100, 116, 104] || (n.toList == [104, 101, 105, 103, 104, 116] || (n.toList == [97, 115, 112, 101, 99, 116, 45, 114, 97, 116, 105, 111] || n.toList == [111, 114, 105, 101, 110, 116, 97, 116, 105, 111, 110])))) || (((o.k0 == 13) && n.toList == [99, 111, 108, 111, 114]) || ((o.k0 == 4) && n.toList == o.n.toList))
theorem own2 {o : Od} {n : ByteArray} (hk : o.k0 = 2) (h : (n.toList == [119, 105, 100, 116, 104] || (n.toList == [104, 101, 105, 103, 104, 116] || (n.toList == [97, 115, 112, 101, 99, 116, 45, 114, 97, 116, 105, 111] || n.toList == [111, 114, 105, 101, 110, 116, 97, 116, 105, 111, 110]))) = true) : ownB o n = true := by
  unfold ownB; rw [hk, h]; rfl
theorem own13 {o : Od} {n : ByteArray} (hk : o.k0 = 13) (h : (n.toList == [99, 111, 108, 111, 114]) = true) : ownB o n = true := by
  unfold ownB; rw [hk, h]; simp
theorem put_get {e : En} {k : Nat} {s : ByteArray} (hk : k = 10 ∨ k = 11 ∨ k = 9 ∨ k = 12) (hm : (e.put k s).may = true) :
    (k = 10 → (e.put k s).h = s ∧ (e.put k s).q = e.q ∧ (e.put k s).s = e.s ∧ (e.put k s).m = e.m) ∧ (k = 11 → (e.put k s).q = s ∧ (e.put k s).h = e.h ∧ (e.put k s).s = e.s ∧ (e.put k s).m = e.m) ∧
    (k = 9 → (e.put k s).s = s ∧ (e.put k s).h = e.h ∧ (e.put k s).q = e.q ∧ (e.put k s).m = e.m) ∧ (k = 12 → (e.put k s).m = s ∧ (e.put k s).h = e.h ∧ (e.put k s).q = e.q ∧ (e.put k s).s = e.s) := by
  rcases hk with rfl | rfl | rfl | rfl <;> simp [En.put10, En.put11, En.put9, En.put12]
theorem put_num {e : En} {k : Nat} {s : ByteArray} (hk : k = 10 ∨ k = 11 ∨ k = 9 ∨ k = 12) :
    (e.put k s).w1 = e.w1 ∧ (e.put k s).w2 = e.w2 ∧ (e.put k s).h1 = e.h1 ∧ (e.put k s).h2 = e.h2 ∧ (e.put k s).c1 = e.c1 ∧ (e.put k s).c2 = e.c2 := by
  rcases hk with rfl | rfl | rfl | rfl <;> simp [En.put10, En.put11, En.put9, En.put12]
theorem apart2 {e : En} {o : Od} (h : e.may = true) (hF : (e.upd o).may = true) (hk : o.k0 = 2) : ∀ n ∈ allN, ownB o n = false → (e.val n).1 = ((e.upd o).val n).1 ∧ (e.word n).1 = ((e.upd o).word n).1 := by
  refine all_cases ⟨fun hw => absurd (hw.symm.trans (own2 hk (by decide +kernel))) (by simp),
    fun hw => absurd (hw.symm.trans (own2 hk (by decide +kernel))) (by simp),
    fun hw => absurd (hw.symm.trans (own2 hk (by decide +kernel))) (by simp),
    fun _ => by rw [val_nmC h, val_nmC hF, word_nmC h, word_nmC hF]; unfold En.upd; rw [if_pos hk]; exact ⟨rfl, rfl⟩,
    fun _ => by rw [val_nHover h, val_nHover hF, word_nHover h, word_nHover hF]; unfold En.upd; rw [if_pos hk]; exact ⟨rfl, rfl⟩,
    fun hw => absurd (hw.symm.trans (own2 hk (by decide +kernel))) (by simp),
    fun _ => by rw [val_nPointer h, val_nPointer hF, word_nPointer h, word_nPointer hF]; unfold En.upd; rw [if_pos hk]; exact ⟨rfl, rfl⟩,
    fun _ => by rw [val_nScheme h, val_nScheme hF, word_nScheme h, word_nScheme hF]; unfold En.upd; rw [if_pos hk]; exact ⟨rfl, rfl⟩,
    fun _ => by rw [val_nMotion h, val_nMotion hF, word_nMotion h, word_nMotion hF]; unfold En.upd; rw [if_pos hk]; exact ⟨rfl, rfl⟩⟩
theorem apart3 {e : En} {o : Od} (h : e.may = true) (hF : (e.upd o).may = true) (hk : o.k0 = 3) : ∀ n ∈ allN, ownB o n = false → (e.val n).1 = ((e.upd o).val n).1 ∧ (e.word n).1 = ((e.upd o).word n).1 := by
  refine all_cases ⟨fun _ => by rw [val_nmW h, val_nmW hF, word_nmW h, word_nmW hF]; unfold En.upd; rw [if_neg (show ¬ o.k0 = 2 by omega), if_pos hk]; exact ⟨rfl, rfl⟩,
    fun _ => by rw [val_nmH h, val_nmH hF, word_nmH h, word_nmH hF]; unfold En.upd; rw [if_neg (show ¬ o.k0 = 2 by omega), if_pos hk]; exact ⟨rfl, rfl⟩,
    fun _ => by rw [val_nmA h, val_nmA hF, word_nmA h, word_nmA hF]; unfold En.upd; rw [if_neg (show ¬ o.k0 = 2 by omega), if_pos hk]; exact ⟨rfl, rfl⟩,
    fun _ => by rw [val_nmC h, val_nmC hF, word_nmC h, word_nmC hF]; unfold En.upd; rw [if_neg (show ¬ o.k0 = 2 by omega), if_pos hk]; exact ⟨rfl, rfl⟩,
    fun _ => by rw [val_nHover h, val_nHover hF, word_nHover h, word_nHover hF]; unfold En.upd; rw [if_neg (show ¬ o.k0 = 2 by omega), if_pos hk]; exact ⟨rfl, rfl⟩,
    fun _ => by rw [val_nOri h, val_nOri hF, word_nOri h, word_nOri hF]; unfold En.upd; rw [if_neg (show ¬ o.k0 = 2 by omega), if_pos hk]; exact ⟨rfl, rfl⟩,
    fun _ => by rw [val_nPointer h, val_nPointer hF, word_nPointer h, word_nPointer hF]; unfold En.upd; rw [if_neg (show ¬ o.k0 = 2 by omega), if_pos hk]; exact ⟨rfl, rfl⟩,
    fun _ => by rw [val_nScheme h, val_nScheme hF, word_nScheme h, word_nScheme hF]; unfold En.upd; rw [if_neg (show ¬ o.k0 = 2 by omega), if_pos hk]; exact ⟨rfl, rfl⟩,
    fun _ => by rw [val_nMotion h, val_nMotion hF, word_nMotion h, word_nMotion hF]; unfold En.upd; rw [if_neg (show ¬ o.k0 = 2 by omega), if_pos hk]; exact ⟨rfl, rfl⟩⟩
theorem apart13 {e : En} {o : Od} (h : e.may = true) (hF : (e.upd o).may = true) (hk : o.k0 = 13) : ∀ n ∈ allN, ownB o n = false → (e.val n).1 = ((e.upd o).val n).1 ∧ (e.word n).1 = ((e.upd o).word n).1 := by
  refine all_cases ⟨fun _ => by rw [val_nmW h, val_nmW hF, word_nmW h, word_nmW hF]; unfold En.upd; rw [if_neg (show ¬ o.k0 = 2 by omega), if_neg (show ¬ o.k0 = 3 by omega), if_pos hk]; exact ⟨rfl, rfl⟩,
    fun _ => by rw [val_nmH h, val_nmH hF, word_nmH h, word_nmH hF]; unfold En.upd; rw [if_neg (show ¬ o.k0 = 2 by omega), if_neg (show ¬ o.k0 = 3 by omega), if_pos hk]; exact ⟨rfl, rfl⟩,
    fun _ => by rw [val_nmA h, val_nmA hF, word_nmA h, word_nmA hF]; unfold En.upd; rw [if_neg (show ¬ o.k0 = 2 by omega), if_neg (show ¬ o.k0 = 3 by omega), if_pos hk]; exact ⟨rfl, rfl⟩,
    fun hw => absurd (hw.symm.trans (own13 hk (by decide +kernel))) (by simp),
    fun _ => by rw [val_nHover h, val_nHover hF, word_nHover h, word_nHover hF]; unfold En.upd; rw [if_neg (show ¬ o.k0 = 2 by omega), if_neg (show ¬ o.k0 = 3 by omega), if_pos hk]; exact ⟨rfl, rfl⟩,
    fun _ => by rw [val_nOri h, val_nOri hF, word_nOri h, word_nOri hF]; unfold En.upd; rw [if_neg (show ¬ o.k0 = 2 by omega), if_neg (show ¬ o.k0 = 3 by omega), if_pos hk]; exact ⟨rfl, rfl⟩,
    fun _ => by rw [val_nPointer h, val_nPointer hF, word_nPointer h, word_nPointer hF]; unfold En.upd; rw [if_neg (show ¬ o.k0 = 2 by omega), if_neg (show ¬ o.k0 = 3 by omega), if_pos hk]; exact ⟨rfl, rfl⟩,
    fun _ => by rw [val_nScheme h, val_nScheme hF, word_nScheme h, word_nScheme hF]; unfold En.upd; rw [if_neg (show ¬ o.k0 = 2 by omega), if_neg (show ¬ o.k0 = 3 by omega), if_pos hk]; exact ⟨rfl, rfl⟩,
    fun _ => by rw [val_nMotion h, val_nMotion hF, word_nMotion h, word_nMotion hF]; unfold En.upd; rw [if_neg (show ¬ o.k0 = 2 by omega), if_neg (show ¬ o.k0 = 3 by omega), if_pos hk]; exact ⟨rfl, rfl⟩⟩
theorem apart14 {e : En} {o : Od} (h : e.may = true) (hF : (e.upd o).may = true) (hk : o.k0 = 14) : ∀ n ∈ allN, ownB o n = false → (e.val n).1 = ((e.upd o).val n).1 ∧ (e.word n).1 = ((e.upd o).word n).1 := by
  refine all_cases ⟨fun _ => by rw [val_nmW h, val_nmW hF, word_nmW h, word_nmW hF]; unfold En.upd; rw [if_neg (show ¬ o.k0 = 2 by omega), if_neg (show ¬ o.k0 = 3 by omega), if_neg (show ¬ o.k0 = 13 by omega), if_pos hk]; exact ⟨rfl, rfl⟩,
    fun _ => by rw [val_nmH h, val_nmH hF, word_nmH h, word_nmH hF]; unfold En.upd; rw [if_neg (show ¬ o.k0 = 2 by omega), if_neg (show ¬ o.k0 = 3 by omega), if_neg (show ¬ o.k0 = 13 by omega), if_pos hk]; exact ⟨rfl, rfl⟩,
    fun _ => by rw [val_nmA h, val_nmA hF, word_nmA h, word_nmA hF]; unfold En.upd; rw [if_neg (show ¬ o.k0 = 2 by omega), if_neg (show ¬ o.k0 = 3 by omega), if_neg (show ¬ o.k0 = 13 by omega), if_pos hk]; exact ⟨rfl, rfl⟩,
    fun _ => by rw [val_nmC h, val_nmC hF, word_nmC h, word_nmC hF]; unfold En.upd; rw [if_neg (show ¬ o.k0 = 2 by omega), if_neg (show ¬ o.k0 = 3 by omega), if_neg (show ¬ o.k0 = 13 by omega), if_pos hk]; exact ⟨rfl, rfl⟩,
    fun _ => by rw [val_nHover h, val_nHover hF, word_nHover h, word_nHover hF]; unfold En.upd; rw [if_neg (show ¬ o.k0 = 2 by omega), if_neg (show ¬ o.k0 = 3 by omega), if_neg (show ¬ o.k0 = 13 by omega), if_pos hk]; exact ⟨rfl, rfl⟩,
    fun _ => by rw [val_nOri h, val_nOri hF, word_nOri h, word_nOri hF]; unfold En.upd; rw [if_neg (show ¬ o.k0 = 2 by omega), if_neg (show ¬ o.k0 = 3 by omega), if_neg (show ¬ o.k0 = 13 by omega), if_pos hk]; exact ⟨rfl, rfl⟩,
    fun _ => by rw [val_nPointer h, val_nPointer hF, word_nPointer h, word_nPointer hF]; unfold En.upd; rw [if_neg (show ¬ o.k0 = 2 by omega), if_neg (show ¬ o.k0 = 3 by omega), if_neg (show ¬ o.k0 = 13 by omega), if_pos hk]; exact ⟨rfl, rfl⟩,
    fun _ => by rw [val_nScheme h, val_nScheme hF, word_nScheme h, word_nScheme hF]; unfold En.upd; rw [if_neg (show ¬ o.k0 = 2 by omega), if_neg (show ¬ o.k0 = 3 by omega), if_neg (show ¬ o.k0 = 13 by omega), if_pos hk]; exact ⟨rfl, rfl⟩,
    fun _ => by rw [val_nMotion h, val_nMotion hF, word_nMotion h, word_nMotion hF]; unfold En.upd; rw [if_neg (show ¬ o.k0 = 2 by omega), if_neg (show ¬ o.k0 = 3 by omega), if_neg (show ¬ o.k0 = 13 by omega), if_pos hk]; exact ⟨rfl, rfl⟩⟩
theorem upd4 {e : En} {o : Od} (hk : o.k0 = 4) : e.upd o = e.put ((fieldOf o.n).getD 0) o.wd := by
  unfold En.upd; rw [if_neg (by omega), if_neg (by omega), if_neg (by omega), if_neg (by omega)]
theorem own4 {o : Od} {n : ByteArray} (hk : o.k0 = 4) (h : ownB o n = false) : n.toList ≠ o.n.toList := by
  unfold ownB at h; rw [hk] at h; intro e; rw [e] at h; simp at h
theorem apart4 {e : En} {o : Od} (h : e.may = true) (hF : (e.upd o).may = true) (hk : o.k0 = 4) (hok : o.ok = true) : ∀ n ∈ allN, ownB o n = false → (e.val n).1 = ((e.upd o).val n).1 ∧ (e.word n).1 = ((e.upd o).word n).1 := by
  have hs : (fieldOf o.n).isSome = true := by
    unfold Od.ok at hok; rw [if_neg (by omega), if_neg (by omega), if_neg (by omega), if_neg (by omega)] at hok
    simp only [Bool.and_eq_true] at hok; exact hok.1
  obtain ⟨k, hf⟩ := Option.isSome_iff_exists.1 hs
  have hi := fieldOf_is hf
  have hu := upd4 (e := e) hk
  rw [hf] at hu
  simp only [Option.getD_some] at hu
  rw [hu] at hF ⊢
  have hkk : k = 10 ∨ k = 11 ∨ k = 9 ∨ k = 12 := by rcases hi with h | h | h | h <;> simp [h.1]
  have hg := put_get (e := e) (s := o.wd) hkk hF
  have hn := put_num (e := e) (s := o.wd) hkk
  have hc : (e.put k o.wd).cmpHW = e.cmpHW := by unfold En.cmpHW; rw [hn.1, hn.2.1, hn.2.2.1, hn.2.2.2.1]
  refine all_cases ⟨fun hw => by
      rw [val_nmW h, val_nmW hF, word_nmW h, word_nmW hF]
      simp only [hn.1, hn.2.1, hn.2.2.1, hn.2.2.2.1, hn.2.2.2.2.1, hn.2.2.2.2.2, and_self],
    fun hw => by
      rw [val_nmH h, val_nmH hF, word_nmH h, word_nmH hF]
      simp only [hn.1, hn.2.1, hn.2.2.1, hn.2.2.2.1, hn.2.2.2.2.1, hn.2.2.2.2.2, and_self],
    fun hw => by
      rw [val_nmA h, val_nmA hF, word_nmA h, word_nmA hF]
      simp only [hn.1, hn.2.1, hn.2.2.1, hn.2.2.2.1, hn.2.2.2.2.1, hn.2.2.2.2.2, and_self],
    fun hw => by
      rw [val_nmC h, val_nmC hF, word_nmC h, word_nmC hF]
      simp only [hn.1, hn.2.1, hn.2.2.1, hn.2.2.2.1, hn.2.2.2.2.1, hn.2.2.2.2.2, and_self],
    fun hw => by
      rw [val_nHover h, val_nHover hF, word_nHover h, word_nHover hF]
      have hne := own4 hk hw
      rcases hi with ⟨r, q⟩ | ⟨r, q⟩ | ⟨r, q⟩ | ⟨r, q⟩
      · first | exact absurd q.symm hne | exact ⟨rfl, by simp [(hg.1 r)]⟩
      · first | exact absurd q.symm hne | exact ⟨rfl, by simp [(hg.2.1 r)]⟩
      · first | exact absurd q.symm hne | exact ⟨rfl, by simp [(hg.2.2.1 r)]⟩
      · first | exact absurd q.symm hne | exact ⟨rfl, by simp [(hg.2.2.2 r)]⟩,
    fun hw => by
      rw [val_nOri h, val_nOri hF, word_nOri h, word_nOri hF]
      simp only [hc, and_self],
    fun hw => by
      rw [val_nPointer h, val_nPointer hF, word_nPointer h, word_nPointer hF]
      have hne := own4 hk hw
      rcases hi with ⟨r, q⟩ | ⟨r, q⟩ | ⟨r, q⟩ | ⟨r, q⟩
      · first | exact absurd q.symm hne | exact ⟨rfl, by simp [(hg.1 r)]⟩
      · first | exact absurd q.symm hne | exact ⟨rfl, by simp [(hg.2.1 r)]⟩
      · first | exact absurd q.symm hne | exact ⟨rfl, by simp [(hg.2.2.1 r)]⟩
      · first | exact absurd q.symm hne | exact ⟨rfl, by simp [(hg.2.2.2 r)]⟩,
    fun hw => by
      rw [val_nScheme h, val_nScheme hF, word_nScheme h, word_nScheme hF]
      have hne := own4 hk hw
      rcases hi with ⟨r, q⟩ | ⟨r, q⟩ | ⟨r, q⟩ | ⟨r, q⟩
      · first | exact absurd q.symm hne | exact ⟨rfl, by simp [(hg.1 r)]⟩
      · first | exact absurd q.symm hne | exact ⟨rfl, by simp [(hg.2.1 r)]⟩
      · first | exact absurd q.symm hne | exact ⟨rfl, by simp [(hg.2.2.1 r)]⟩
      · first | exact absurd q.symm hne | exact ⟨rfl, by simp [(hg.2.2.2 r)]⟩,
    fun hw => by
      rw [val_nMotion h, val_nMotion hF, word_nMotion h, word_nMotion hF]
      have hne := own4 hk hw
      rcases hi with ⟨r, q⟩ | ⟨r, q⟩ | ⟨r, q⟩ | ⟨r, q⟩
      · first | exact absurd q.symm hne | exact ⟨rfl, by simp [(hg.1 r)]⟩
      · first | exact absurd q.symm hne | exact ⟨rfl, by simp [(hg.2.1 r)]⟩
      · first | exact absurd q.symm hne | exact ⟨rfl, by simp [(hg.2.2.1 r)]⟩
      · first | exact absurd q.symm hne | exact ⟨rfl, by simp [(hg.2.2.2 r)]⟩⟩
theorem apart_all {e : En} {o : Od} (h : e.may = true) (hF : (e.upd o).may = true) (hok : o.ok = true) (hk : o.k0 = 2 ∨ o.k0 = 3 ∨ o.k0 = 13 ∨ o.k0 = 14 ∨ o.k0 = 4) : ∀ n ∈ allN, ownB o n = false → (e.val n).1 = ((e.upd o).val n).1 ∧ (e.word n).1 = ((e.upd o).word n).1 := by
  rcases hk with hk | hk | hk | hk | hk
  · exact apart2 h hF hk
  · exact apart3 h hF hk
  · exact apart13 h hF hk
  · exact apart14 h hF hk
  · exact apart4 h hF hk hok
/-- behind a word that was given it is that word -/
theorem word_given {e : En} {o : Od} (hF : (e.upd o).may = true) (hk : o.k0 = 4) (hok : o.ok = true) : (e.upd o).word o.n = (o.wd, true) := by
  have hs : (fieldOf o.n).isSome = true := by
    unfold Od.ok at hok; rw [if_neg (by omega), if_neg (by omega), if_neg (by omega), if_neg (by omega)] at hok
    simp only [Bool.and_eq_true] at hok; exact hok.1
  obtain ⟨k, hf⟩ := Option.isSome_iff_exists.1 hs
  have hi := fieldOf_is hf
  have hu := upd4 (e := e) hk
  rw [hf] at hu
  simp only [Option.getD_some] at hu
  rw [hu] at hF ⊢
  have ho : ¬ o.n.toList = [111, 114, 105, 101, 110, 116, 97, 116, 105, 111, 110] := by
    intro e0
    rcases hi with ⟨_, q⟩ | ⟨_, q⟩ | ⟨_, q⟩ | ⟨_, q⟩ <;> (rw [e0] at q; revert q; decide +kernel)
  unfold En.word; rw [if_pos hF, if_neg ho, hf]
  rcases hi with ⟨r, _⟩ | ⟨r, _⟩ | ⟨r, _⟩ | ⟨r, _⟩ <;> (subst r; rfl)
theorem five_kind (o : Od) : o.five.k0 = 2 ∨ o.five.k0 = 3 ∨ o.five.k0 = 13 ∨ o.five.k0 = 14 ∨ o.five.k0 = 4 := by
  unfold Od.five Od.is
  split
  · rename_i h; simp at h; omega
  · simp
end Go
