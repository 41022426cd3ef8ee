/- LAWS of this program's struct types: a whole row loaded, stored, built, compared. No condition. -/
import Derived.Test.YthmicnjigfcljaaProg
import Derived.Test.YthmicnjigfcljaaMa
set_option linter.unusedSimpArgs false
set_option linter.unusedVariables false
namespace Go.Proofs.Ythmicnjigfcljaa
open Go.RowKit

/-- api.Rat -/
@[go_sem high] theorem load_23 (w : World) (g : Nat) (h : rowOk 2 (w.row g) = true) : (loadR 23 (.pointer (some ⟨g, 0, none⟩))).run Try.prog w = .ok (rowV (w.row g)) w :=
  run_loadR_row w Try.underlying23 rfl (by kernel_rfl) h
@[go_sem high] theorem store_23 (w : World) (g : Nat) (x0 : Int) (x1 : Int) (h : rowOkW 2 (w.row g) = true) : (storeR 23 (.pointer (some ⟨g, 0, none⟩)) (.agg #[.int .i64 x0, .int .i64 x1])).run Try.prog w = .ok () (w.setRow g #[.int .i64 x0, .int .i64 x1]) :=
  run_storeR_row w (by kernel_rfl) rfl h
@[go_sem high] theorem alloc_23 (w : World) : (allocR 23).run Try.prog w = .ok (.pointer (some ⟨w.heap.size, 0, none⟩)) (w.alloc (.cells #[.int .i64 0, .int .i64 0] 23)) := by kernel_rfl
theorem ret_23 {fn : Func} {a : Act} {w : World} {R : Ending → World → Prop} {p : Tmp} {g : Nat} (h : fn.results = #[.cell p 23]) (hp : a.tmps.getD p undef = .pointer (some ⟨g, 0, none⟩)) (hrow : rowOk 2 (w.row g) = true) (hdf : a.defers = []) (hR : R (.returned (rowV (w.row g))) w) : bodyPost Try.prog fn R .ret a w :=
  ret_cell h hp Try.underlying23 rfl (by kernel_rfl) hrow hdf hR
theorem rett_23 {fn : Func} {a : Act} {w : World} {R : Ending → World → Prop} {p q : Tmp} {g : Nat} (h : fn.results = #[.cell p 23, .tmp q]) (hp : a.tmps.getD p undef = .pointer (some ⟨g, 0, none⟩)) (hrow : rowOk 2 (w.row g) = true) (hdf : a.defers = []) (hR : R (.returned (.tuple #[rowV (w.row g), a.tmps.getD q undef])) w) : bodyPost Try.prog fn R .ret a w :=
  ret_cell_tmp h hp Try.underlying23 rfl (by kernel_rfl) hrow hdf hR
set_option maxRecDepth 100000 in
theorem eq_23 (d : Nat) (w : World) (x0 : Int) (x1 : Int) (y0 : Int) (y1 : Int) : (Op.equalIn (d + 3) 23 (.agg #[.int .i64 x0, .int .i64 x1]) (.agg #[.int .i64 y0, .int .i64 y1])).run Try.prog w = .ok (x0 == y0 && (x1 == y1)) w := by
  rw [show d + 3 = (d + 2) + 1 from rfl, run_equalIn_agg w _ 23 _ _ (by kernel_rfl) (by kernel_rfl)]
  simp only [Program.fieldsOf, Try.underlying23]
  simp [go_sem]
  by_cases h0 : x0 = y0
  case neg => simp [h0]
  by_cases h1 : x1 = y1
  case neg => simp [h1, h0]
  simp [h0, h1]
@[go_sem high] theorem eq_23_10000 (w : World) (x0 : Int) (x1 : Int) (y0 : Int) (y1 : Int) : (Op.equalIn 10000 23 (.agg #[.int .i64 x0, .int .i64 x1]) (.agg #[.int .i64 y0, .int .i64 y1])).run Try.prog w = .ok (x0 == y0 && (x1 == y1)) w := eq_23 9997 w x0 x1 y0 y1
/-- api.Expr -/
@[go_sem high] theorem load_26 (w : World) (g : Nat) (h : rowOk 5 (w.row g) = true) : (loadR 26 (.pointer (some ⟨g, 0, none⟩))).run Try.prog w = .ok (rowV (w.row g)) w :=
  run_loadR_row w Try.underlying26 rfl (by kernel_rfl) h
@[go_sem high] theorem store_26 (w : World) (g : Nat) (x0 : Int) (x1 : Int) (x2 : Int) (x3 : Int) (x4p : Option Addr) (x4l x4c : Nat) (h : rowOkW 5 (w.row g) = true) : (storeR 26 (.pointer (some ⟨g, 0, none⟩)) (.agg #[.int .i64 x0, .int .i64 x1, .int .i64 x2, .int .i64 x3, .slice x4p x4l x4c])).run Try.prog w = .ok () (w.setRow g #[.int .i64 x0, .int .i64 x1, .int .i64 x2, .int .i64 x3, .slice x4p x4l x4c]) :=
  run_storeR_row w (by kernel_rfl) rfl h
@[go_sem high] theorem alloc_26 (w : World) : (allocR 26).run Try.prog w = .ok (.pointer (some ⟨w.heap.size, 0, none⟩)) (w.alloc (.cells #[.int .i64 0, .int .i64 0, .int .i64 0, .int .i64 0, .slice none 0 0] 26)) := by kernel_rfl
@[go_sem high] theorem alloc_27 (w : World) : (allocR 27).run Try.prog w = .ok (.pointer (some ⟨w.heap.size, 0, none⟩)) (w.alloc (.cells #[.int .i64 0, .int .i64 0, .int .i64 0, .int .i64 0, .int .i64 0, .int .i64 0, .int .i64 0, .int .i64 0, .int .i64 0, .int .i64 0, .int .i64 0, .int .i64 0, .int .i64 0, .int .i64 0] 27)) := by kernel_rfl
/-- api.Form -/
@[go_sem high] theorem load_30 (w : World) (g : Nat) (h : rowOk 15 (w.row g) = true) : (loadR 30 (.pointer (some ⟨g, 0, none⟩))).run Try.prog w = .ok (rowV (w.row g)) w :=
  run_loadR_row w Try.underlying30 rfl (by kernel_rfl) h
@[go_sem high] theorem store_30 (w : World) (g : Nat) (x0 : Int) (x1 : Int) (x2 : Int) (x3 : Int) (x4 : Int) (x5 : Int) (x6 : Int) (x7 : Int) (x8 : Int) (x9 : Int) (x10 : Int) (x11 : Int) (x12 : Int) (x13 : Int) (x14p : Option Addr) (x14l x14c : Nat) (h : rowOkW 15 (w.row g) = true) : (storeR 30 (.pointer (some ⟨g, 0, none⟩)) (.agg #[.int .i64 x0, .int .i64 x1, .int .i64 x2, .int .i64 x3, .int .i64 x4, .int .i64 x5, .int .i64 x6, .int .i64 x7, .int .i64 x8, .int .i64 x9, .int .i64 x10, .int .i64 x11, .int .i64 x12, .int .i64 x13, .slice x14p x14l x14c])).run Try.prog w = .ok () (w.setRow g #[.int .i64 x0, .int .i64 x1, .int .i64 x2, .int .i64 x3, .int .i64 x4, .int .i64 x5, .int .i64 x6, .int .i64 x7, .int .i64 x8, .int .i64 x9, .int .i64 x10, .int .i64 x11, .int .i64 x12, .int .i64 x13, .slice x14p x14l x14c]) :=
  run_storeR_row w (by kernel_rfl) rfl h
@[go_sem high] theorem alloc_30 (w : World) : (allocR 30).run Try.prog w = .ok (.pointer (some ⟨w.heap.size, 0, none⟩)) (w.alloc (.cells #[.int .i64 0, .int .i64 0, .int .i64 0, .int .i64 0, .int .i64 0, .int .i64 0, .int .i64 0, .int .i64 0, .int .i64 0, .int .i64 0, .int .i64 0, .int .i64 0, .int .i64 0, .int .i64 0, .slice none 0 0] 30)) := by kernel_rfl
theorem ret_30 {fn : Func} {a : Act} {w : World} {R : Ending → World → Prop} {p : Tmp} {g : Nat} (h : fn.results = #[.cell p 30]) (hp : a.tmps.getD p undef = .pointer (some ⟨g, 0, none⟩)) (hrow : rowOk 15 (w.row g) = true) (hdf : a.defers = []) (hR : R (.returned (rowV (w.row g))) w) : bodyPost Try.prog fn R .ret a w :=
  ret_cell h hp Try.underlying30 rfl (by kernel_rfl) hrow hdf hR
theorem rett_30 {fn : Func} {a : Act} {w : World} {R : Ending → World → Prop} {p q : Tmp} {g : Nat} (h : fn.results = #[.cell p 30, .tmp q]) (hp : a.tmps.getD p undef = .pointer (some ⟨g, 0, none⟩)) (hrow : rowOk 15 (w.row g) = true) (hdf : a.defers = []) (hR : R (.returned (.tuple #[rowV (w.row g), a.tmps.getD q undef])) w) : bodyPost Try.prog fn R .ret a w :=
  ret_cell_tmp h hp Try.underlying30 rfl (by kernel_rfl) hrow hdf hR

/-- api.Ctx -/
@[go_sem high] theorem load_58 (w : World) (g : Nat) (h : rowOk 12 (w.row g) = true) : (loadR 58 (.pointer (some ⟨g, 0, none⟩))).run Try.prog w = .ok (rowV (w.row g)) w :=
  run_loadR_row w Try.underlying58 rfl (by kernel_rfl) h
@[go_sem high] theorem alloc_58 (w : World) : (allocR 58).run Try.prog w = .ok (.pointer (some ⟨w.heap.size, 0, none⟩)) (w.alloc (.cells #[.int .i64 0, .int .i64 0, .int .i64 0, .int .i64 0, .int .i64 0, .int .i64 0, .int .i64 0, .int .i64 0, .int .i64 0, .int .i64 0, .int .i64 0, .int .i64 0] 58)) := by kernel_rfl
@[go_sem high] theorem store_76 (w : World) (g : Nat) (x0 : Bool) (x1p : Option Addr) (x1l x1c : Nat) (h : rowOkW 2 (w.row g) = true) : (storeR 76 (.pointer (some ⟨g, 0, none⟩)) (.agg #[.bool x0, .slice x1p x1l x1c])).run Try.prog w = .ok () (w.setRow g #[.bool x0, .slice x1p x1l x1c]) :=
  run_storeR_row w (by kernel_rfl) rfl h
@[go_sem high] theorem alloc_76 (w : World) : (allocR 76).run Try.prog w = .ok (.pointer (some ⟨w.heap.size, 0, none⟩)) (w.alloc (.cells #[.bool false, .slice none 0 0] 76)) := by kernel_rfl
@[go_sem high] theorem store_88 (w : World) (g : Nat) (x0 : Int) (x1 : Int) (x2 : Int) (x3 : Int) (x4 : Int) (x5 : Int) (x6 : Int) (x7 : Int) (h : rowOkW 8 (w.row g) = true) : (storeR 88 (.pointer (some ⟨g, 0, none⟩)) (.agg #[.int .i64 x0, .int .i64 x1, .int .i64 x2, .int .i64 x3, .int .i64 x4, .int .i64 x5, .int .i64 x6, .int .i64 x7])).run Try.prog w = .ok () (w.setRow g #[.int .i64 x0, .int .i64 x1, .int .i64 x2, .int .i64 x3, .int .i64 x4, .int .i64 x5, .int .i64 x6, .int .i64 x7]) :=
  run_storeR_row w (by kernel_rfl) rfl h
@[go_sem high] theorem alloc_88 (w : World) : (allocR 88).run Try.prog w = .ok (.pointer (some ⟨w.heap.size, 0, none⟩)) (w.alloc (.cells #[.int .i64 0, .int .i64 0, .int .i64 0, .int .i64 0, .int .i64 0, .int .i64 0, .int .i64 0, .int .i64 0] 88)) := by kernel_rfl
@[go_sem high] theorem alloc_90 (w : World) : (allocR 90).run Try.prog w = .ok (.pointer (some ⟨w.heap.size, 0, none⟩)) (w.alloc (.cells #[.string ⟨#[]⟩, .string ⟨#[]⟩, .string ⟨#[]⟩, .string ⟨#[]⟩, .string ⟨#[]⟩, .string ⟨#[]⟩, .string ⟨#[]⟩, .string ⟨#[]⟩] 90)) := by kernel_rfl
@[go_sem high] theorem store_93 (w : World) (g : Nat) (x0 : Int) (x1 : Int) (x2 : Int) (h : rowOkW 3 (w.row g) = true) : (storeR 93 (.pointer (some ⟨g, 0, none⟩)) (.agg #[.int .i64 x0, .int .i64 x1, .int .i64 x2])).run Try.prog w = .ok () (w.setRow g #[.int .i64 x0, .int .i64 x1, .int .i64 x2]) :=
  run_storeR_row w (by kernel_rfl) rfl h
@[go_sem high] theorem alloc_93 (w : World) : (allocR 93).run Try.prog w = .ok (.pointer (some ⟨w.heap.size, 0, none⟩)) (w.alloc (.cells #[.int .i64 0, .int .i64 0, .int .i64 0] 93)) := by kernel_rfl
/-- jalousieref1.W -/
@[go_sem high] theorem load_99 (w : World) (g : Nat) (h : rowOk 2 (w.row g) = true) : (loadR 99 (.pointer (some ⟨g, 0, none⟩))).run Try.prog w = .ok (rowV (w.row g)) w :=
  run_loadR_row w Try.underlying99 rfl (by kernel_rfl) h
@[go_sem high] theorem store_99 (w : World) (g : Nat) (x0 : Int) (x1 : Int) (h : rowOkW 2 (w.row g) = true) : (storeR 99 (.pointer (some ⟨g, 0, none⟩)) (.agg #[.int .u64 x0, .int .u64 x1])).run Try.prog w = .ok () (w.setRow g #[.int .u64 x0, .int .u64 x1]) :=
  run_storeR_row w (by kernel_rfl) rfl h
@[go_sem high] theorem alloc_99 (w : World) : (allocR 99).run Try.prog w = .ok (.pointer (some ⟨w.heap.size, 0, none⟩)) (w.alloc (.cells #[.int .u64 0, .int .u64 0] 99)) := by kernel_rfl
theorem ret_99 {fn : Func} {a : Act} {w : World} {R : Ending → World → Prop} {p : Tmp} {g : Nat} (h : fn.results = #[.cell p 99]) (hp : a.tmps.getD p undef = .pointer (some ⟨g, 0, none⟩)) (hrow : rowOk 2 (w.row g) = true) (hdf : a.defers = []) (hR : R (.returned (rowV (w.row g))) w) : bodyPost Try.prog fn R .ret a w :=
  ret_cell h hp Try.underlying99 rfl (by kernel_rfl) hrow hdf hR
@[go_sem high] theorem build_23_z (w : World) : (buildR 23 []).run Try.prog w = .ok (.agg #[.int .i64 0, .int .i64 0]) w := run_buildR_of w (by kernel_rfl)
@[go_sem high] theorem build_23_0_1 (a0_0 : Int) (a1_0 : Int) (w : World) : (buildR 23 [(0, .int .i64 a0_0), (1, .int .i64 a1_0)]).run Try.prog w = .ok (.agg #[.int .i64 a0_0, .int .i64 a1_0]) w := run_buildR_of w (by kernel_rfl)
@[go_sem high] theorem build_23_1 (a1_0 : Int) (w : World) : (buildR 23 [(1, .int .i64 a1_0)]).run Try.prog w = .ok (.agg #[.int .i64 0, .int .i64 a1_0]) w := run_buildR_of w (by kernel_rfl)
@[go_sem high] theorem build_26_0_1_2 (a0_0 : Int) (a1_0 : Int) (a1_1 : Int) (a2_0 : Int) (w : World) : (buildR 26 [(0, .int .i64 a0_0), (1, .agg #[.int .i64 a1_0, .int .i64 a1_1]), (2, .int .i64 a2_0)]).run Try.prog w = .ok (.agg #[.int .i64 a0_0, .int .i64 a1_0, .int .i64 a1_1, .int .i64 a2_0, .slice none 0 0]) w := run_buildR_of w (by kernel_rfl)
@[go_sem high] theorem build_30_z (w : World) : (buildR 30 []).run Try.prog w = .ok (.agg #[.int .i64 0, .int .i64 0, .int .i64 0, .int .i64 0, .int .i64 0, .int .i64 0, .int .i64 0, .int .i64 0, .int .i64 0, .int .i64 0, .int .i64 0, .int .i64 0, .int .i64 0, .int .i64 0, .slice none 0 0]) w := run_buildR_of w (by kernel_rfl)
@[go_sem high] theorem build_58_z (w : World) : (buildR 58 []).run Try.prog w = .ok (.agg #[.int .i64 0, .int .i64 0, .int .i64 0, .int .i64 0, .int .i64 0, .int .i64 0, .int .i64 0, .int .i64 0, .int .i64 0, .int .i64 0, .int .i64 0, .int .i64 0]) w := run_buildR_of w (by kernel_rfl)
@[go_sem high] theorem build_58_0 (a0_0 : Int) (a0_1 : Int) (w : World) : (buildR 58 [(0, .agg #[.int .i64 a0_0, .int .i64 a0_1])]).run Try.prog w = .ok (.agg #[.int .i64 a0_0, .int .i64 a0_1, .int .i64 0, .int .i64 0, .int .i64 0, .int .i64 0, .int .i64 0, .int .i64 0, .int .i64 0, .int .i64 0, .int .i64 0, .int .i64 0]) w := run_buildR_of w (by kernel_rfl)
@[go_sem high] theorem build_76_0_1 (a0_0 : Bool) (a1_0p : Option Addr) (a1_0l a1_0c : Nat) (w : World) : (buildR 76 [(0, .bool a0_0), (1, .slice a1_0p a1_0l a1_0c)]).run Try.prog w = .ok (.agg #[.bool a0_0, .slice a1_0p a1_0l a1_0c]) w := run_buildR_of w (by kernel_rfl)
@[go_sem high] theorem build_88_0_1_2_3 (a0_0 : Int) (a0_1 : Int) (a1_0 : Int) (a1_1 : Int) (a2_0 : Int) (a2_1 : Int) (a3_0 : Int) (a3_1 : Int) (w : World) : (buildR 88 [(0, .agg #[.int .i64 a0_0, .int .i64 a0_1]), (1, .agg #[.int .i64 a1_0, .int .i64 a1_1]), (2, .agg #[.int .i64 a2_0, .int .i64 a2_1]), (3, .agg #[.int .i64 a3_0, .int .i64 a3_1])]).run Try.prog w = .ok (.agg #[.int .i64 a0_0, .int .i64 a0_1, .int .i64 a1_0, .int .i64 a1_1, .int .i64 a2_0, .int .i64 a2_1, .int .i64 a3_0, .int .i64 a3_1]) w := run_buildR_of w (by kernel_rfl)
@[go_sem high] theorem build_93_z (w : World) : (buildR 93 []).run Try.prog w = .ok (.agg #[.int .i64 0, .int .i64 0, .int .i64 0]) w := run_buildR_of w (by kernel_rfl)
@[go_sem high] theorem build_99_z (w : World) : (buildR 99 []).run Try.prog w = .ok (.agg #[.int .u64 0, .int .u64 0]) w := run_buildR_of w (by kernel_rfl)
@[go_sem high] theorem build_99_0_1 (a0_0 : Int) (a1_0 : Int) (w : World) : (buildR 99 [(0, .int .u64 a0_0), (1, .int .u64 a1_0)]).run Try.prog w = .ok (.agg #[.int .u64 a0_0, .int .u64 a1_0]) w := run_buildR_of w (by kernel_rfl)

end Go.Proofs.Ythmicnjigfcljaa
