/- LAWS of this program's struct types: a whole row loaded, stored, built, compared. No condition. -/
import Derived.Test.YthcaphoejplecaaGreatDoorProg
import Derived.Test.YthcaphoejplecaaGreatDoorKit
import Derived.Test.YthcaphoejplecaaGreatDoorExec
set_option linter.unusedSimpArgs false
set_option linter.unusedVariables false
namespace Go.Proofs.YthcaphoejplecaaGreatDoor
open Go.RowKit

/-- api.Custom -/
@[go_sem high] theorem load_30 (w : World) (g : Nat) (h : rowOk 2 (w.row g) = true) : (loadR 30 (.pointer (some ⟨g, 0, none⟩))).run Tryz.prog w = .ok (rowV (w.row g)) w :=
  run_loadR_row w Tryz.underlying30 rfl (by kernel_rfl) h
@[go_sem high] theorem store_30 (w : World) (g : Nat) (x0 : ByteArray) (x1p : Option Addr) (x1l x1c : Nat) (h : rowOkW 2 (w.row g) = true) : (storeR 30 (.pointer (some ⟨g, 0, none⟩)) (.agg #[.string x0, .slice x1p x1l x1c])).run Tryz.prog w = .ok () (w.setRow g #[.string x0, .slice x1p x1l x1c]) :=
  run_storeR_row w (by kernel_rfl) rfl h
@[go_sem high] theorem alloc_30 (w : World) : (allocR 30).run Tryz.prog w = .ok (.pointer (some ⟨w.heap.size, 0, none⟩)) (w.alloc (.cells #[.string ⟨#[]⟩, .slice none 0 0] 30)) := by kernel_rfl
theorem ret_30 {fn : Func} {a : Act} {w : World} {R : Ending → World → Prop} {p : Tmp} {g : Nat} (h : fn.results = #[.cell p 30]) (hp : a.tmps.getD p undef = .pointer (some ⟨g, 0, none⟩)) (hrow : rowOk 2 (w.row g) = true) (hdf : a.defers = []) (hR : R (.returned (rowV (w.row g))) w) : bodyPost Tryz.prog fn R .ret a w :=
  ret_cell h hp Tryz.underlying30 rfl (by kernel_rfl) hrow hdf hR
theorem rett_30 {fn : Func} {a : Act} {w : World} {R : Ending → World → Prop} {p q : Tmp} {g : Nat} (h : fn.results = #[.cell p 30, .tmp q]) (hp : a.tmps.getD p undef = .pointer (some ⟨g, 0, none⟩)) (hrow : rowOk 2 (w.row g) = true) (hdf : a.defers = []) (hR : R (.returned (.tuple #[rowV (w.row g), a.tmps.getD q undef])) w) : bodyPost Tryz.prog fn R .ret a w :=
  ret_cell_tmp h hp Tryz.underlying30 rfl (by kernel_rfl) hrow hdf hR

/-- api.Rat -/
@[go_sem high] theorem load_63 (w : World) (g : Nat) (h : rowOk 2 (w.row g) = true) : (loadR 63 (.pointer (some ⟨g, 0, none⟩))).run Tryz.prog w = .ok (rowV (w.row g)) w :=
  run_loadR_row w Tryz.underlying63 rfl (by kernel_rfl) h
@[go_sem high] theorem store_63 (w : World) (g : Nat) (x0 : Int) (x1 : Int) (h : rowOkW 2 (w.row g) = true) : (storeR 63 (.pointer (some ⟨g, 0, none⟩)) (.agg #[.int .i64 x0, .int .i64 x1])).run Tryz.prog w = .ok () (w.setRow g #[.int .i64 x0, .int .i64 x1]) :=
  run_storeR_row w (by kernel_rfl) rfl h
@[go_sem high] theorem alloc_63 (w : World) : (allocR 63).run Tryz.prog w = .ok (.pointer (some ⟨w.heap.size, 0, none⟩)) (w.alloc (.cells #[.int .i64 0, .int .i64 0] 63)) := by kernel_rfl
theorem ret_63 {fn : Func} {a : Act} {w : World} {R : Ending → World → Prop} {p : Tmp} {g : Nat} (h : fn.results = #[.cell p 63]) (hp : a.tmps.getD p undef = .pointer (some ⟨g, 0, none⟩)) (hrow : rowOk 2 (w.row g) = true) (hdf : a.defers = []) (hR : R (.returned (rowV (w.row g))) w) : bodyPost Tryz.prog fn R .ret a w :=
  ret_cell h hp Tryz.underlying63 rfl (by kernel_rfl) hrow hdf hR
theorem rett_63 {fn : Func} {a : Act} {w : World} {R : Ending → World → Prop} {p q : Tmp} {g : Nat} (h : fn.results = #[.cell p 63, .tmp q]) (hp : a.tmps.getD p undef = .pointer (some ⟨g, 0, none⟩)) (hrow : rowOk 2 (w.row g) = true) (hdf : a.defers = []) (hR : R (.returned (.tuple #[rowV (w.row g), a.tmps.getD q undef])) w) : bodyPost Tryz.prog fn R .ret a w :=
  ret_cell_tmp h hp Tryz.underlying63 rfl (by kernel_rfl) hrow hdf hR
set_option maxRecDepth 100000 in
theorem eq_63 (d : Nat) (w : World) (x0 : Int) (x1 : Int) (y0 : Int) (y1 : Int) : (Op.equalIn (d + 3) 63 (.agg #[.int .i64 x0, .int .i64 x1]) (.agg #[.int .i64 y0, .int .i64 y1])).run Tryz.prog w = .ok (x0 == y0 && (x1 == y1)) w := by
  rw [show d + 3 = (d + 2) + 1 from rfl, run_equalIn_agg w _ 63 _ _ (by kernel_rfl) (by kernel_rfl)]
  simp only [Program.fieldsOf, Tryz.underlying63]
  simp [go_sem]
  by_cases h0 : x0 = y0
  case neg => simp [h0]
  by_cases h1 : x1 = y1
  case neg => simp [h1, h0]
  simp [h0, h1]
@[go_sem high] theorem eq_63_10000 (w : World) (x0 : Int) (x1 : Int) (y0 : Int) (y1 : Int) : (Op.equalIn 10000 63 (.agg #[.int .i64 x0, .int .i64 x1]) (.agg #[.int .i64 y0, .int .i64 y1])).run Tryz.prog w = .ok (x0 == y0 && (x1 == y1)) w := eq_63 9997 w x0 x1 y0 y1
@[go_sem high] theorem eq_63_9999 (w : World) (x0 : Int) (x1 : Int) (y0 : Int) (y1 : Int) : (Op.equalIn 9999 63 (.agg #[.int .i64 x0, .int .i64 x1]) (.agg #[.int .i64 y0, .int .i64 y1])).run Tryz.prog w = .ok (x0 == y0 && (x1 == y1)) w := eq_63 9996 w x0 x1 y0 y1
@[go_sem high] theorem eq_63_9998 (w : World) (x0 : Int) (x1 : Int) (y0 : Int) (y1 : Int) : (Op.equalIn 9998 63 (.agg #[.int .i64 x0, .int .i64 x1]) (.agg #[.int .i64 y0, .int .i64 y1])).run Tryz.prog w = .ok (x0 == y0 && (x1 == y1)) w := eq_63 9995 w x0 x1 y0 y1

/-- api.Token -/
@[go_sem high] theorem load_65 (w : World) (g : Nat) (h : rowOk 6 (w.row g) = true) : (loadR 65 (.pointer (some ⟨g, 0, none⟩))).run Tryz.prog w = .ok (rowV (w.row g)) w :=
  run_loadR_row w Tryz.underlying65 rfl (by kernel_rfl) h
@[go_sem high] theorem store_65 (w : World) (g : Nat) (x0 : Int) (x1 : ByteArray) (x2 : Int) (x3 : Int) (x4 : Bool) (x5 : Bool) (h : rowOkW 6 (w.row g) = true) : (storeR 65 (.pointer (some ⟨g, 0, none⟩)) (.agg #[.int .i64 x0, .string x1, .int .i64 x2, .int .i64 x3, .bool x4, .bool x5])).run Tryz.prog w = .ok () (w.setRow g #[.int .i64 x0, .string x1, .int .i64 x2, .int .i64 x3, .bool x4, .bool x5]) :=
  run_storeR_row w (by kernel_rfl) rfl h
@[go_sem high] theorem alloc_65 (w : World) : (allocR 65).run Tryz.prog w = .ok (.pointer (some ⟨w.heap.size, 0, none⟩)) (w.alloc (.cells #[.int .i64 0, .string ⟨#[]⟩, .int .i64 0, .int .i64 0, .bool false, .bool false] 65)) := by kernel_rfl
theorem ret_65 {fn : Func} {a : Act} {w : World} {R : Ending → World → Prop} {p : Tmp} {g : Nat} (h : fn.results = #[.cell p 65]) (hp : a.tmps.getD p undef = .pointer (some ⟨g, 0, none⟩)) (hrow : rowOk 6 (w.row g) = true) (hdf : a.defers = []) (hR : R (.returned (rowV (w.row g))) w) : bodyPost Tryz.prog fn R .ret a w :=
  ret_cell h hp Tryz.underlying65 rfl (by kernel_rfl) hrow hdf hR
theorem rett_65 {fn : Func} {a : Act} {w : World} {R : Ending → World → Prop} {p q : Tmp} {g : Nat} (h : fn.results = #[.cell p 65, .tmp q]) (hp : a.tmps.getD p undef = .pointer (some ⟨g, 0, none⟩)) (hrow : rowOk 6 (w.row g) = true) (hdf : a.defers = []) (hR : R (.returned (.tuple #[rowV (w.row g), a.tmps.getD q undef])) w) : bodyPost Tryz.prog fn R .ret a w :=
  ret_cell_tmp h hp Tryz.underlying65 rfl (by kernel_rfl) hrow hdf hR
set_option maxRecDepth 100000 in
theorem eq_65 (d : Nat) (w : World) (x0 : Int) (x1 : ByteArray) (x2 : Int) (x3 : Int) (x4 : Bool) (x5 : Bool) (y0 : Int) (y1 : ByteArray) (y2 : Int) (y3 : Int) (y4 : Bool) (y5 : Bool) : (Op.equalIn (d + 3) 65 (.agg #[.int .i64 x0, .string x1, .int .i64 x2, .int .i64 x3, .bool x4, .bool x5]) (.agg #[.int .i64 y0, .string y1, .int .i64 y2, .int .i64 y3, .bool y4, .bool y5])).run Tryz.prog w = .ok (x0 == y0 && (x1.toList == y1.toList && (x2 == y2 && (x3 == y3 && (x4 == y4 && (x5 == y5)))))) w := by
  rw [show d + 3 = (d + 2) + 1 from rfl, run_equalIn_agg w _ 65 _ _ (by kernel_rfl) (by kernel_rfl)]
  simp only [Program.fieldsOf, Tryz.underlying65]
  simp [go_sem]
  by_cases h0 : x0 = y0
  case neg => simp [h0]
  by_cases h1 : x1.toList = y1.toList
  case neg => simp [h1, h0]
  by_cases h2 : x2 = y2
  case neg => simp [h2, h0, h1]
  by_cases h3 : x3 = y3
  case neg => simp [h3, h0, h1, h2]
  by_cases h4 : x4 = y4
  case neg => simp [h4, h0, h1, h2, h3]
  by_cases h5 : x5 = y5
  case neg => simp [h5, h0, h1, h2, h3, h4]
  simp [h0, h1, h2, h3, h4, h5]
@[go_sem high] theorem eq_65_10000 (w : World) (x0 : Int) (x1 : ByteArray) (x2 : Int) (x3 : Int) (x4 : Bool) (x5 : Bool) (y0 : Int) (y1 : ByteArray) (y2 : Int) (y3 : Int) (y4 : Bool) (y5 : Bool) : (Op.equalIn 10000 65 (.agg #[.int .i64 x0, .string x1, .int .i64 x2, .int .i64 x3, .bool x4, .bool x5]) (.agg #[.int .i64 y0, .string y1, .int .i64 y2, .int .i64 y3, .bool y4, .bool y5])).run Tryz.prog w = .ok (x0 == y0 && (x1.toList == y1.toList && (x2 == y2 && (x3 == y3 && (x4 == y4 && (x5 == y5)))))) w := eq_65 9997 w x0 x1 x2 x3 x4 x5 y0 y1 y2 y3 y4 y5
@[go_sem high] theorem eq_65_9999 (w : World) (x0 : Int) (x1 : ByteArray) (x2 : Int) (x3 : Int) (x4 : Bool) (x5 : Bool) (y0 : Int) (y1 : ByteArray) (y2 : Int) (y3 : Int) (y4 : Bool) (y5 : Bool) : (Op.equalIn 9999 65 (.agg #[.int .i64 x0, .string x1, .int .i64 x2, .int .i64 x3, .bool x4, .bool x5]) (.agg #[.int .i64 y0, .string y1, .int .i64 y2, .int .i64 y3, .bool y4, .bool y5])).run Tryz.prog w = .ok (x0 == y0 && (x1.toList == y1.toList && (x2 == y2 && (x3 == y3 && (x4 == y4 && (x5 == y5)))))) w := eq_65 9996 w x0 x1 x2 x3 x4 x5 y0 y1 y2 y3 y4 y5
@[go_sem high] theorem eq_65_9998 (w : World) (x0 : Int) (x1 : ByteArray) (x2 : Int) (x3 : Int) (x4 : Bool) (x5 : Bool) (y0 : Int) (y1 : ByteArray) (y2 : Int) (y3 : Int) (y4 : Bool) (y5 : Bool) : (Op.equalIn 9998 65 (.agg #[.int .i64 x0, .string x1, .int .i64 x2, .int .i64 x3, .bool x4, .bool x5]) (.agg #[.int .i64 y0, .string y1, .int .i64 y2, .int .i64 y3, .bool y4, .bool y5])).run Tryz.prog w = .ok (x0 == y0 && (x1.toList == y1.toList && (x2 == y2 && (x3 == y3 && (x4 == y4 && (x5 == y5)))))) w := eq_65 9995 w x0 x1 x2 x3 x4 x5 y0 y1 y2 y3 y4 y5

/-- api.Value -/
@[go_sem high] theorem load_70 (w : World) (g : Nat) (h : rowOk 7 (w.row g) = true) : (loadR 70 (.pointer (some ⟨g, 0, none⟩))).run Tryz.prog w = .ok (rowV (w.row g)) w :=
  run_loadR_row w Tryz.underlying70 rfl (by kernel_rfl) h
@[go_sem high] theorem store_70 (w : World) (g : Nat) (x0 : Int) (x1 : ByteArray) (x2 : Int) (x3 : Int) (x4 : Bool) (x5 : Bool) (x6p : Option Addr) (x6l x6c : Nat) (h : rowOkW 7 (w.row g) = true) : (storeR 70 (.pointer (some ⟨g, 0, none⟩)) (.agg #[.int .i64 x0, .string x1, .int .i64 x2, .int .i64 x3, .bool x4, .bool x5, .slice x6p x6l x6c])).run Tryz.prog w = .ok () (w.setRow g #[.int .i64 x0, .string x1, .int .i64 x2, .int .i64 x3, .bool x4, .bool x5, .slice x6p x6l x6c]) :=
  run_storeR_row w (by kernel_rfl) rfl h
@[go_sem high] theorem alloc_70 (w : World) : (allocR 70).run Tryz.prog w = .ok (.pointer (some ⟨w.heap.size, 0, none⟩)) (w.alloc (.cells #[.int .i64 0, .string ⟨#[]⟩, .int .i64 0, .int .i64 0, .bool false, .bool false, .slice none 0 0] 70)) := by kernel_rfl
theorem ret_70 {fn : Func} {a : Act} {w : World} {R : Ending → World → Prop} {p : Tmp} {g : Nat} (h : fn.results = #[.cell p 70]) (hp : a.tmps.getD p undef = .pointer (some ⟨g, 0, none⟩)) (hrow : rowOk 7 (w.row g) = true) (hdf : a.defers = []) (hR : R (.returned (rowV (w.row g))) w) : bodyPost Tryz.prog fn R .ret a w :=
  ret_cell h hp Tryz.underlying70 rfl (by kernel_rfl) hrow hdf hR
theorem rett_70 {fn : Func} {a : Act} {w : World} {R : Ending → World → Prop} {p q : Tmp} {g : Nat} (h : fn.results = #[.cell p 70, .tmp q]) (hp : a.tmps.getD p undef = .pointer (some ⟨g, 0, none⟩)) (hrow : rowOk 7 (w.row g) = true) (hdf : a.defers = []) (hR : R (.returned (.tuple #[rowV (w.row g), a.tmps.getD q undef])) w) : bodyPost Tryz.prog fn R .ret a w :=
  ret_cell_tmp h hp Tryz.underlying70 rfl (by kernel_rfl) hrow hdf hR

/-- jalousieref5.frame -/
@[go_sem high] theorem load_80 (w : World) (g : Nat) (h : rowOk 7 (w.row g) = true) : (loadR 80 (.pointer (some ⟨g, 0, none⟩))).run Tryz.prog w = .ok (rowV (w.row g)) w :=
  run_loadR_row w Tryz.underlying80 rfl (by kernel_rfl) h
@[go_sem high] theorem store_80 (w : World) (g : Nat) (x0 : Int) (x1 : ByteArray) (x2 : Int) (x3 : Int) (x4 : Bool) (x5 : Bool) (x6p : Option Addr) (x6l x6c : Nat) (h : rowOkW 7 (w.row g) = true) : (storeR 80 (.pointer (some ⟨g, 0, none⟩)) (.agg #[.int .i64 x0, .string x1, .int .i64 x2, .int .i64 x3, .bool x4, .bool x5, .slice x6p x6l x6c])).run Tryz.prog w = .ok () (w.setRow g #[.int .i64 x0, .string x1, .int .i64 x2, .int .i64 x3, .bool x4, .bool x5, .slice x6p x6l x6c]) :=
  run_storeR_row w (by kernel_rfl) rfl h
@[go_sem high] theorem alloc_80 (w : World) : (allocR 80).run Tryz.prog w = .ok (.pointer (some ⟨w.heap.size, 0, none⟩)) (w.alloc (.cells #[.int .i64 0, .string ⟨#[]⟩, .int .i64 0, .int .i64 0, .bool false, .bool false, .slice none 0 0] 80)) := by kernel_rfl
theorem ret_80 {fn : Func} {a : Act} {w : World} {R : Ending → World → Prop} {p : Tmp} {g : Nat} (h : fn.results = #[.cell p 80]) (hp : a.tmps.getD p undef = .pointer (some ⟨g, 0, none⟩)) (hrow : rowOk 7 (w.row g) = true) (hdf : a.defers = []) (hR : R (.returned (rowV (w.row g))) w) : bodyPost Tryz.prog fn R .ret a w :=
  ret_cell h hp Tryz.underlying80 rfl (by kernel_rfl) hrow hdf hR
theorem rett_80 {fn : Func} {a : Act} {w : World} {R : Ending → World → Prop} {p q : Tmp} {g : Nat} (h : fn.results = #[.cell p 80, .tmp q]) (hp : a.tmps.getD p undef = .pointer (some ⟨g, 0, none⟩)) (hrow : rowOk 7 (w.row g) = true) (hdf : a.defers = []) (hR : R (.returned (.tuple #[rowV (w.row g), a.tmps.getD q undef])) w) : bodyPost Tryz.prog fn R .ret a w :=
  ret_cell_tmp h hp Tryz.underlying80 rfl (by kernel_rfl) hrow hdf hR

/-- jalousieref3.R -/
@[go_sem high] theorem load_100 (w : World) (g : Nat) (h : rowOk 2 (w.row g) = true) : (loadR 100 (.pointer (some ⟨g, 0, none⟩))).run Tryz.prog w = .ok (rowV (w.row g)) w :=
  run_loadR_row w Tryz.underlying100 rfl (by kernel_rfl) h
@[go_sem high] theorem store_100 (w : World) (g : Nat) (x0p : Option Addr) (x0l x0c : Nat) (x1 : Int) (h : rowOkW 2 (w.row g) = true) : (storeR 100 (.pointer (some ⟨g, 0, none⟩)) (.agg #[.slice x0p x0l x0c, .int .i64 x1])).run Tryz.prog w = .ok () (w.setRow g #[.slice x0p x0l x0c, .int .i64 x1]) :=
  run_storeR_row w (by kernel_rfl) rfl h
@[go_sem high] theorem alloc_100 (w : World) : (allocR 100).run Tryz.prog w = .ok (.pointer (some ⟨w.heap.size, 0, none⟩)) (w.alloc (.cells #[.slice none 0 0, .int .i64 0] 100)) := by kernel_rfl
theorem ret_100 {fn : Func} {a : Act} {w : World} {R : Ending → World → Prop} {p : Tmp} {g : Nat} (h : fn.results = #[.cell p 100]) (hp : a.tmps.getD p undef = .pointer (some ⟨g, 0, none⟩)) (hrow : rowOk 2 (w.row g) = true) (hdf : a.defers = []) (hR : R (.returned (rowV (w.row g))) w) : bodyPost Tryz.prog fn R .ret a w :=
  ret_cell h hp Tryz.underlying100 rfl (by kernel_rfl) hrow hdf hR
theorem rett_100 {fn : Func} {a : Act} {w : World} {R : Ending → World → Prop} {p q : Tmp} {g : Nat} (h : fn.results = #[.cell p 100, .tmp q]) (hp : a.tmps.getD p undef = .pointer (some ⟨g, 0, none⟩)) (hrow : rowOk 2 (w.row g) = true) (hdf : a.defers = []) (hR : R (.returned (.tuple #[rowV (w.row g), a.tmps.getD q undef])) w) : bodyPost Tryz.prog fn R .ret a w :=
  ret_cell_tmp h hp Tryz.underlying100 rfl (by kernel_rfl) hrow hdf hR

/-- [9]int -/
@[go_sem high] theorem load_117 (w : World) (g : Nat) (h : rowOk 9 (w.row g) = true) : (loadR 117 (.pointer (some ⟨g, 0, none⟩))).run Tryz.prog w = .ok (rowV (w.row g)) w :=
  run_loadR_row w Tryz.underlying117 rfl (by kernel_rfl) h
@[go_sem high] theorem store_117 (w : World) (g : Nat) (x0 : Int) (x1 : Int) (x2 : Int) (x3 : Int) (x4 : Int) (x5 : Int) (x6 : Int) (x7 : Int) (x8 : Int) (h : rowOkW 9 (w.row g) = true) : (storeR 117 (.pointer (some ⟨g, 0, none⟩)) (.agg #[.int .i64 x0, .int .i64 x1, .int .i64 x2, .int .i64 x3, .int .i64 x4, .int .i64 x5, .int .i64 x6, .int .i64 x7, .int .i64 x8])).run Tryz.prog w = .ok () (w.setRow g #[.int .i64 x0, .int .i64 x1, .int .i64 x2, .int .i64 x3, .int .i64 x4, .int .i64 x5, .int .i64 x6, .int .i64 x7, .int .i64 x8]) :=
  run_storeR_row w (by kernel_rfl) rfl h
@[go_sem high] theorem alloc_117 (w : World) : (allocR 117).run Tryz.prog w = .ok (.pointer (some ⟨w.heap.size, 0, none⟩)) (w.alloc (.cells #[.int .i64 0, .int .i64 0, .int .i64 0, .int .i64 0, .int .i64 0, .int .i64 0, .int .i64 0, .int .i64 0, .int .i64 0] 117)) := by kernel_rfl
theorem ret_117 {fn : Func} {a : Act} {w : World} {R : Ending → World → Prop} {p : Tmp} {g : Nat} (h : fn.results = #[.cell p 117]) (hp : a.tmps.getD p undef = .pointer (some ⟨g, 0, none⟩)) (hrow : rowOk 9 (w.row g) = true) (hdf : a.defers = []) (hR : R (.returned (rowV (w.row g))) w) : bodyPost Tryz.prog fn R .ret a w :=
  ret_cell h hp Tryz.underlying117 rfl (by kernel_rfl) hrow hdf hR
theorem rett_117 {fn : Func} {a : Act} {w : World} {R : Ending → World → Prop} {p q : Tmp} {g : Nat} (h : fn.results = #[.cell p 117, .tmp q]) (hp : a.tmps.getD p undef = .pointer (some ⟨g, 0, none⟩)) (hrow : rowOk 9 (w.row g) = true) (hdf : a.defers = []) (hR : R (.returned (.tuple #[rowV (w.row g), a.tmps.getD q undef])) w) : bodyPost Tryz.prog fn R .ret a w :=
  ret_cell_tmp h hp Tryz.underlying117 rfl (by kernel_rfl) hrow hdf hR
set_option maxRecDepth 100000 in
theorem eq_117 (d : Nat) (w : World) (x0 : Int) (x1 : Int) (x2 : Int) (x3 : Int) (x4 : Int) (x5 : Int) (x6 : Int) (x7 : Int) (x8 : Int) (y0 : Int) (y1 : Int) (y2 : Int) (y3 : Int) (y4 : Int) (y5 : Int) (y6 : Int) (y7 : Int) (y8 : Int) : (Op.equalIn (d + 2) 117 (.agg #[.int .i64 x0, .int .i64 x1, .int .i64 x2, .int .i64 x3, .int .i64 x4, .int .i64 x5, .int .i64 x6, .int .i64 x7, .int .i64 x8]) (.agg #[.int .i64 y0, .int .i64 y1, .int .i64 y2, .int .i64 y3, .int .i64 y4, .int .i64 y5, .int .i64 y6, .int .i64 y7, .int .i64 y8])).run Tryz.prog w = .ok (x0 == y0 && (x1 == y1 && (x2 == y2 && (x3 == y3 && (x4 == y4 && (x5 == y5 && (x6 == y6 && (x7 == y7 && (x8 == y8))))))))) w := by
  rw [show d + 2 = (d + 1) + 1 from rfl, Op.equalIn]
  simp only [Sem.run_bind, run_underlying Tryz.underlying117, Result.andThen_ok]
  simp only [Std.Legacy.Range.forIn_eq_forIn_range', Std.Legacy.Range.size, Nat.sub_zero, Nat.add_sub_cancel, Nat.div_one, List.range'_succ, List.range'_zero, List.forIn_cons, List.forIn_nil]
  simp [go_sem]
  by_cases h0 : x0 = y0
  case neg => simp [h0]
  by_cases h1 : x1 = y1
  case neg => simp [h1, h0]
  by_cases h2 : x2 = y2
  case neg => simp [h2, h0, h1]
  by_cases h3 : x3 = y3
  case neg => simp [h3, h0, h1, h2]
  by_cases h4 : x4 = y4
  case neg => simp [h4, h0, h1, h2, h3]
  by_cases h5 : x5 = y5
  case neg => simp [h5, h0, h1, h2, h3, h4]
  by_cases h6 : x6 = y6
  case neg => simp [h6, h0, h1, h2, h3, h4, h5]
  by_cases h7 : x7 = y7
  case neg => simp [h7, h0, h1, h2, h3, h4, h5, h6]
  by_cases h8 : x8 = y8
  case neg => simp [h8, h0, h1, h2, h3, h4, h5, h6, h7]
  simp [h0, h1, h2, h3, h4, h5, h6, h7, h8]
@[go_sem high] theorem eq_117_10000 (w : World) (x0 : Int) (x1 : Int) (x2 : Int) (x3 : Int) (x4 : Int) (x5 : Int) (x6 : Int) (x7 : Int) (x8 : Int) (y0 : Int) (y1 : Int) (y2 : Int) (y3 : Int) (y4 : Int) (y5 : Int) (y6 : Int) (y7 : Int) (y8 : Int) : (Op.equalIn 10000 117 (.agg #[.int .i64 x0, .int .i64 x1, .int .i64 x2, .int .i64 x3, .int .i64 x4, .int .i64 x5, .int .i64 x6, .int .i64 x7, .int .i64 x8]) (.agg #[.int .i64 y0, .int .i64 y1, .int .i64 y2, .int .i64 y3, .int .i64 y4, .int .i64 y5, .int .i64 y6, .int .i64 y7, .int .i64 y8])).run Tryz.prog w = .ok (x0 == y0 && (x1 == y1 && (x2 == y2 && (x3 == y3 && (x4 == y4 && (x5 == y5 && (x6 == y6 && (x7 == y7 && (x8 == y8))))))))) w := eq_117 9998 w x0 x1 x2 x3 x4 x5 x6 x7 x8 y0 y1 y2 y3 y4 y5 y6 y7 y8
@[go_sem high] theorem eq_117_9999 (w : World) (x0 : Int) (x1 : Int) (x2 : Int) (x3 : Int) (x4 : Int) (x5 : Int) (x6 : Int) (x7 : Int) (x8 : Int) (y0 : Int) (y1 : Int) (y2 : Int) (y3 : Int) (y4 : Int) (y5 : Int) (y6 : Int) (y7 : Int) (y8 : Int) : (Op.equalIn 9999 117 (.agg #[.int .i64 x0, .int .i64 x1, .int .i64 x2, .int .i64 x3, .int .i64 x4, .int .i64 x5, .int .i64 x6, .int .i64 x7, .int .i64 x8]) (.agg #[.int .i64 y0, .int .i64 y1, .int .i64 y2, .int .i64 y3, .int .i64 y4, .int .i64 y5, .int .i64 y6, .int .i64 y7, .int .i64 y8])).run Tryz.prog w = .ok (x0 == y0 && (x1 == y1 && (x2 == y2 && (x3 == y3 && (x4 == y4 && (x5 == y5 && (x6 == y6 && (x7 == y7 && (x8 == y8))))))))) w := eq_117 9997 w x0 x1 x2 x3 x4 x5 x6 x7 x8 y0 y1 y2 y3 y4 y5 y6 y7 y8
@[go_sem high] theorem eq_117_9998 (w : World) (x0 : Int) (x1 : Int) (x2 : Int) (x3 : Int) (x4 : Int) (x5 : Int) (x6 : Int) (x7 : Int) (x8 : Int) (y0 : Int) (y1 : Int) (y2 : Int) (y3 : Int) (y4 : Int) (y5 : Int) (y6 : Int) (y7 : Int) (y8 : Int) : (Op.equalIn 9998 117 (.agg #[.int .i64 x0, .int .i64 x1, .int .i64 x2, .int .i64 x3, .int .i64 x4, .int .i64 x5, .int .i64 x6, .int .i64 x7, .int .i64 x8]) (.agg #[.int .i64 y0, .int .i64 y1, .int .i64 y2, .int .i64 y3, .int .i64 y4, .int .i64 y5, .int .i64 y6, .int .i64 y7, .int .i64 y8])).run Tryz.prog w = .ok (x0 == y0 && (x1 == y1 && (x2 == y2 && (x3 == y3 && (x4 == y4 && (x5 == y5 && (x6 == y6 && (x7 == y7 && (x8 == y8))))))))) w := eq_117 9996 w x0 x1 x2 x3 x4 x5 x6 x7 x8 y0 y1 y2 y3 y4 y5 y6 y7 y8

@[go_sem high] theorem build_30_0_1 (a0_0 : ByteArray) (a1_0p : Option Addr) (a1_0l a1_0c : Nat) (w : World) : (buildR 30 [(0, .string a0_0), (1, .slice a1_0p a1_0l a1_0c)]).run Tryz.prog w = .ok (.agg #[.string a0_0, .slice a1_0p a1_0l a1_0c]) w := run_buildR_of w (by kernel_rfl)
@[go_sem high] theorem build_63_z (w : World) : (buildR 63 []).run Tryz.prog w = .ok (.agg #[.int .i64 0, .int .i64 0]) w := run_buildR_of w (by kernel_rfl)
@[go_sem high] theorem build_63_0_1 (a0_0 : Int) (a1_0 : Int) (w : World) : (buildR 63 [(0, .int .i64 a0_0), (1, .int .i64 a1_0)]).run Tryz.prog w = .ok (.agg #[.int .i64 a0_0, .int .i64 a1_0]) w := run_buildR_of w (by kernel_rfl)
@[go_sem high] theorem build_65_0 (a0_0 : Int) (w : World) : (buildR 65 [(0, .int .i64 a0_0)]).run Tryz.prog w = .ok (.agg #[.int .i64 a0_0, .string ⟨#[]⟩, .int .i64 0, .int .i64 0, .bool false, .bool false]) w := run_buildR_of w (by kernel_rfl)
@[go_sem high] theorem build_65_0_1 (a0_0 : Int) (a1_0 : ByteArray) (w : World) : (buildR 65 [(0, .int .i64 a0_0), (1, .string a1_0)]).run Tryz.prog w = .ok (.agg #[.int .i64 a0_0, .string a1_0, .int .i64 0, .int .i64 0, .bool false, .bool false]) w := run_buildR_of w (by kernel_rfl)
@[go_sem high] theorem build_65_0_2_3 (a0_0 : Int) (a2_0 : Int) (a2_1 : Int) (a3_0 : Bool) (w : World) : (buildR 65 [(0, .int .i64 a0_0), (2, .agg #[.int .i64 a2_0, .int .i64 a2_1]), (3, .bool a3_0)]).run Tryz.prog w = .ok (.agg #[.int .i64 a0_0, .string ⟨#[]⟩, .int .i64 a2_0, .int .i64 a2_1, .bool a3_0, .bool false]) w := run_buildR_of w (by kernel_rfl)
@[go_sem high] theorem build_65_0_4_1 (a0_0 : Int) (a1_0 : ByteArray) (a4_0 : Bool) (w : World) : (buildR 65 [(0, .int .i64 a0_0), (4, .bool a4_0), (1, .string a1_0)]).run Tryz.prog w = .ok (.agg #[.int .i64 a0_0, .string a1_0, .int .i64 0, .int .i64 0, .bool false, .bool a4_0]) w := run_buildR_of w (by kernel_rfl)
@[go_sem high] theorem build_70_0 (a0_0 : Int) (a0_1 : ByteArray) (a0_2 : Int) (a0_3 : Int) (a0_4 : Bool) (a0_5 : Bool) (w : World) : (buildR 70 [(0, .agg #[.int .i64 a0_0, .string a0_1, .int .i64 a0_2, .int .i64 a0_3, .bool a0_4, .bool a0_5])]).run Tryz.prog w = .ok (.agg #[.int .i64 a0_0, .string a0_1, .int .i64 a0_2, .int .i64 a0_3, .bool a0_4, .bool a0_5, .slice none 0 0]) w := run_buildR_of w (by kernel_rfl)
@[go_sem high] theorem build_70_0_1 (a0_0 : Int) (a0_1 : ByteArray) (a0_2 : Int) (a0_3 : Int) (a0_4 : Bool) (a0_5 : Bool) (a1_0p : Option Addr) (a1_0l a1_0c : Nat) (w : World) : (buildR 70 [(0, .agg #[.int .i64 a0_0, .string a0_1, .int .i64 a0_2, .int .i64 a0_3, .bool a0_4, .bool a0_5]), (1, .slice a1_0p a1_0l a1_0c)]).run Tryz.prog w = .ok (.agg #[.int .i64 a0_0, .string a0_1, .int .i64 a0_2, .int .i64 a0_3, .bool a0_4, .bool a0_5, .slice a1_0p a1_0l a1_0c]) w := run_buildR_of w (by kernel_rfl)
@[go_sem high] theorem build_80_z (w : World) : (buildR 80 []).run Tryz.prog w = .ok (.agg #[.int .i64 0, .string ⟨#[]⟩, .int .i64 0, .int .i64 0, .bool false, .bool false, .slice none 0 0]) w := run_buildR_of w (by kernel_rfl)
@[go_sem high] theorem build_80_0 (a0_0 : Int) (a0_1 : ByteArray) (a0_2 : Int) (a0_3 : Int) (a0_4 : Bool) (a0_5 : Bool) (w : World) : (buildR 80 [(0, .agg #[.int .i64 a0_0, .string a0_1, .int .i64 a0_2, .int .i64 a0_3, .bool a0_4, .bool a0_5])]).run Tryz.prog w = .ok (.agg #[.int .i64 a0_0, .string a0_1, .int .i64 a0_2, .int .i64 a0_3, .bool a0_4, .bool a0_5, .slice none 0 0]) w := run_buildR_of w (by kernel_rfl)
@[go_sem high] theorem build_100_0 (a0_0p : Option Addr) (a0_0l a0_0c : Nat) (w : World) : (buildR 100 [(0, .slice a0_0p a0_0l a0_0c)]).run Tryz.prog w = .ok (.agg #[.slice a0_0p a0_0l a0_0c, .int .i64 0]) w := run_buildR_of w (by kernel_rfl)
@[go_sem high] theorem build_117_0_1_2_3_4_5_6_7_8 (a0_0 : Int) (a1_0 : Int) (a2_0 : Int) (a3_0 : Int) (a4_0 : Int) (a5_0 : Int) (a6_0 : Int) (a7_0 : Int) (a8_0 : Int) (w : World) : (buildR 117 [(0, .int .i64 a0_0), (1, .int .i64 a1_0), (2, .int .i64 a2_0), (3, .int .i64 a3_0), (4, .int .i64 a4_0), (5, .int .i64 a5_0), (6, .int .i64 a6_0), (7, .int .i64 a7_0), (8, .int .i64 a8_0)]).run Tryz.prog w = .ok (.agg #[.int .i64 a0_0, .int .i64 a1_0, .int .i64 a2_0, .int .i64 a3_0, .int .i64 a4_0, .int .i64 a5_0, .int .i64 a6_0, .int .i64 a7_0, .int .i64 a8_0]) w := run_buildR_of w (by kernel_rfl)

end Go.Proofs.YthcaphoejplecaaGreatDoor
