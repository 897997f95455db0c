/- This text holds the table of the program's types that the proofs use, and proves that it agrees with the program. -/
import Derived.Test.YthknndkjnglegaaGreatI06
import Derived.Test.YthknndkjnglegaaGreatProg
import Derived.Test.YthknndkjnglegaaGreatRows
import Derived.ChangeShapes
import Derived.Test.YthknndkjnglegaaGreatI07
import Derived.Lib.LaidTab
import Derived.Lib.Replace
import Derived.Lib.Join
import Derived.Lib.TrimByte
import Derived.Lib.Small
import Derived.Shelf.Small.Bits
import Derived.Shelf.Small.Strs
import Derived.Shelf.Small.Wraps
import Derived.Shelf.Strconv.Itoa0
import Derived.Shelf.SlSortCmp.WholeK
set_option linter.all false

namespace Go.Proofs
open Go Go.X
set_option maxRecDepth 100000
def Tryz.tyT : Ty := [
  (2, { d := .int .i64, size := 1, bytes := 8, zero := .c (.i .i64 0) }),
  (3, { d := .int .i64, size := 1, bytes := 8, zero := .c (.i .i64 0) }),
  (4, { d := .bool, size := 1, bytes := 1, zero := .c (.b false) }),
  (5, { d := .int .u8, size := 1, bytes := 1, zero := .c (.i .u8 0) }),
  (9, { d := .str, size := 1, bytes := 16, zero := .c (.s []) }),
  (12, { d := .int .u64, size := 1, bytes := 8, zero := .c (.i .u64 0) }),
  (21, { d := .int .i32, size := 1, bytes := 4, zero := .c (.i .i32 0) }),
  (22, { d := .sl 60, size := 1, bytes := 24, zero := .c (.sl none 0 0) }),
  (23, { d := .sl 80, size := 1, bytes := 24, zero := .c (.sl none 0 0) }),
  (24, { d := .sl 145, size := 1, bytes := 24, zero := .c (.sl none 0 0) }),
  (25, { d := .sl 152, size := 1, bytes := 24, zero := .c (.sl none 0 0) }),
  (26, { d := .sl 213, size := 1, bytes := 24, zero := .c (.sl none 0 0) }),
  (27, { d := .st [(0, 24), (1, 25), (2, 26)], size := 3, bytes := 72, zero := .agg [.sl none 0 0, .sl none 0 0, .sl none 0 0] }),
  (28, { d := .st [(0, 24), (1, 25), (2, 26)], size := 3, bytes := 72, zero := .agg [.sl none 0 0, .sl none 0 0, .sl none 0 0] }),
  (29, { d := .sl 9, size := 1, bytes := 24, zero := .c (.sl none 0 0) }),
  (30, { d := .sl 260, size := 1, bytes := 24, zero := .c (.sl none 0 0) }),
  (31, { d := .st [(0, 23), (1, 28), (4, 29), (5, 3), (6, 30)], size := 7, bytes := 152, zero := .agg [.sl none 0 0, .sl none 0 0, .sl none 0 0, .sl none 0 0, .sl none 0 0, .i .i64 0, .sl none 0 0] }),
  (32, { d := .st [(0, 23), (1, 28), (4, 29), (5, 3), (6, 30)], size := 7, bytes := 152, zero := .agg [.sl none 0 0, .sl none 0 0, .sl none 0 0, .sl none 0 0, .sl none 0 0, .i .i64 0, .sl none 0 0] }),
  (33, { d := .sl 3, size := 1, bytes := 24, zero := .c (.sl none 0 0) }),
  (37, { d := .sl 95, size := 1, bytes := 24, zero := .c (.sl none 0 0) }),
  (38, { d := .sl 196, size := 1, bytes := 24, zero := .c (.sl none 0 0) }),
  (39, { d := .sl 198, size := 1, bytes := 24, zero := .c (.sl none 0 0) }),
  (40, { d := .sl 168, size := 1, bytes := 24, zero := .c (.sl none 0 0) }),
  (41, { d := .st [(0, 3), (1, 3), (2, 37), (3, 37), (4, 38), (5, 3), (6, 39), (7, 40)], size := 8, bytes := 144, zero := .agg [.i .i64 0, .i .i64 0, .sl none 0 0, .sl none 0 0, .sl none 0 0, .i .i64 0, .sl none 0 0, .sl none 0 0] }),
  (42, { d := .st [(0, 3), (1, 3), (2, 37), (3, 37), (4, 38), (5, 3), (6, 39), (7, 40)], size := 8, bytes := 144, zero := .agg [.i .i64 0, .i .i64 0, .sl none 0 0, .sl none 0 0, .sl none 0 0, .i .i64 0, .sl none 0 0, .sl none 0 0] }),
  (49, { d := .st [(0, 3), (1, 9)], size := 2, bytes := 24, zero := .agg [.i .i64 0, .s []] }),
  (50, { d := .st [(0, 3), (1, 9)], size := 2, bytes := 24, zero := .agg [.i .i64 0, .s []] }),
  (51, { d := .st [(0, 50), (2, 3)], size := 3, bytes := 32, zero := .agg [.i .i64 0, .s [], .i .i64 0] }),
  (52, { d := .st [(0, 50), (2, 3)], size := 3, bytes := 32, zero := .agg [.i .i64 0, .s [], .i .i64 0] }),
  (53, { d := .sl 52, size := 1, bytes := 24, zero := .c (.sl none 0 0) }),
  (59, { d := .st [(0, 9), (1, 50), (3, 3)], size := 4, bytes := 48, zero := .agg [.s [], .i .i64 0, .s [], .i .i64 0] }),
  (60, { d := .st [(0, 9), (1, 50), (3, 3)], size := 4, bytes := 48, zero := .agg [.s [], .i .i64 0, .s [], .i .i64 0] }),
  (64, { d := .ptr 121, size := 1, bytes := 8, zero := .c (.raw (.pointer none)) }),
  (69, { d := .sl 50, size := 1, bytes := 24, zero := .c (.sl none 0 0) }),
  (79, { d := .st [(0, 50), (2, 9), (3, 3)], size := 4, bytes := 48, zero := .agg [.i .i64 0, .s [], .s [], .i .i64 0] }),
  (80, { d := .st [(0, 50), (2, 9), (3, 3)], size := 4, bytes := 48, zero := .agg [.i .i64 0, .s [], .s [], .i .i64 0] }),
  (85, { d := .int .i64, size := 1, bytes := 8, zero := .c (.i .i64 0) }),
  (88, { d := .sl 98, size := 1, bytes := 24, zero := .c (.sl none 0 0) }),
  (89, { d := .st [(0, 3), (1, 9), (2, 9), (3, 50), (5, 50), (7, 9), (8, 3), (9, 88)], size := 10, bytes := 136, zero := .agg [.i .i64 0, .s [], .s [], .i .i64 0, .s [], .i .i64 0, .s [], .s [], .i .i64 0, .sl none 0 0] }),
  (90, { d := .st [(0, 3), (1, 9), (2, 9), (3, 50), (5, 50), (7, 9), (8, 3), (9, 88)], size := 10, bytes := 136, zero := .agg [.i .i64 0, .s [], .s [], .i .i64 0, .s [], .i .i64 0, .s [], .s [], .i .i64 0, .sl none 0 0] }),
  (91, { d := .sl 90, size := 1, bytes := 24, zero := .c (.sl none 0 0) }),
  (94, { d := .st [(0, 50), (2, 88)], size := 3, bytes := 48, zero := .agg [.i .i64 0, .s [], .sl none 0 0] }),
  (95, { d := .st [(0, 50), (2, 88)], size := 3, bytes := 48, zero := .agg [.i .i64 0, .s [], .sl none 0 0] }),
  (97, { d := .st [(0, 3), (1, 9), (2, 9), (3, 9), (4, 3), (5, 3)], size := 6, bytes := 72, zero := .agg [.i .i64 0, .s [], .s [], .s [], .i .i64 0, .i .i64 0] }),
  (98, { d := .st [(0, 3), (1, 9), (2, 9), (3, 9), (4, 3), (5, 3)], size := 6, bytes := 72, zero := .agg [.i .i64 0, .s [], .s [], .s [], .i .i64 0, .i .i64 0] }),
  (103, { d := .mp 105 3, size := 1, bytes := 8, zero := .c (.raw (.map none)) }),
  (104, { d := .st [(0, 9), (1, 50)], size := 3, bytes := 40, zero := .agg [.s [], .i .i64 0, .s []] }),
  (105, { d := .st [(0, 9), (1, 50)], size := 3, bytes := 40, zero := .agg [.s [], .i .i64 0, .s []] }),
  (107, { d := .mp 50 4, size := 1, bytes := 8, zero := .c (.raw (.map none)) }),
  (114, { d := .arr 7 9, size := 7, bytes := 112, zero := .agg [.s [], .s [], .s [], .s [], .s [], .s [], .s []] }),
  (115, { d := .arr 5 9, size := 5, bytes := 80, zero := .agg [.s [], .s [], .s [], .s [], .s []] }),
  (118, { d := .arr 3 9, size := 3, bytes := 48, zero := .agg [.s [], .s [], .s []] }),
  (119, { d := .int .u64, size := 1, bytes := 8, zero := .c (.i .u64 0) }),
  (120, { d := .st [(0, 33), (1, 3), (2, 119)], size := 3, bytes := 40, zero := .agg [.sl none 0 0, .i .i64 0, .i .u64 0] }),
  (121, { d := .st [(0, 33), (1, 3), (2, 119)], size := 3, bytes := 40, zero := .agg [.sl none 0 0, .i .i64 0, .i .u64 0] }),
  (122, { d := .int .u64, size := 1, bytes := 8, zero := .c (.i .u64 0) }),
  (123, { d := .mp 9 3, size := 1, bytes := 8, zero := .c (.raw (.map none)) }),
  (134, { d := .arr 8 9, size := 8, bytes := 128, zero := .agg [.s [], .s [], .s [], .s [], .s [], .s [], .s [], .s []] }),
  (144, { d := .st [(0, 9), (1, 29)], size := 2, bytes := 40, zero := .agg [.s [], .sl none 0 0] }),
  (145, { d := .st [(0, 9), (1, 29)], size := 2, bytes := 40, zero := .agg [.s [], .sl none 0 0] }),
  (147, { d := .sl 150, size := 1, bytes := 24, zero := .c (.sl none 0 0) }),
  (149, { d := .st [(0, 3), (1, 50)], size := 3, bytes := 32, zero := .agg [.i .i64 0, .i .i64 0, .s []] }),
  (150, { d := .st [(0, 3), (1, 50)], size := 3, bytes := 32, zero := .agg [.i .i64 0, .i .i64 0, .s []] }),
  (151, { d := .st [(0, 4), (1, 3), (2, 9), (3, 150)], size := 6, bytes := 64, zero := .agg [.b false, .i .i64 0, .s [], .i .i64 0, .i .i64 0, .s []] }),
  (152, { d := .st [(0, 4), (1, 3), (2, 9), (3, 150)], size := 6, bytes := 64, zero := .agg [.b false, .i .i64 0, .s [], .i .i64 0, .i .i64 0, .s []] }),
  (160, { d := .sl 5, size := 1, bytes := 24, zero := .c (.sl none 0 0) }),
  (161, { d := .arr 28 9, size := 28, bytes := 448, zero := .agg [.s [], .s [], .s [], .s [], .s [], .s [], .s [], .s [], .s [], .s [], .s [], .s [], .s [], .s [], .s [], .s [], .s [], .s [], .s [], .s [], .s [], .s [], .s [], .s [], .s [], .s [], .s [], .s []] }),
  (167, { d := .st [(0, 9), (1, 3)], size := 2, bytes := 24, zero := .agg [.s [], .i .i64 0] }),
  (168, { d := .st [(0, 9), (1, 3)], size := 2, bytes := 24, zero := .agg [.s [], .i .i64 0] }),
  (177, { d := .int .i64, size := 1, bytes := 8, zero := .c (.i .i64 0) }),
  (184, { d := .int .u32, size := 1, bytes := 4, zero := .c (.i .u32 0) }),
  (192, { d := .arr 14 3, size := 14, bytes := 112, zero := .agg [.i .i64 0, .i .i64 0, .i .i64 0, .i .i64 0, .i .i64 0, .i .i64 0, .i .i64 0, .i .i64 0, .i .i64 0, .i .i64 0, .i .i64 0, .i .i64 0, .i .i64 0, .i .i64 0] }),
  (195, { d := .st [(0, 3), (1, 9), (2, 9), (3, 50), (5, 3), (6, 9), (7, 3)], size := 8, bytes := 96, zero := .agg [.i .i64 0, .s [], .s [], .i .i64 0, .s [], .i .i64 0, .s [], .i .i64 0] }),
  (196, { d := .st [(0, 3), (1, 9), (2, 9), (3, 50), (5, 3), (6, 9), (7, 3)], size := 8, bytes := 96, zero := .agg [.i .i64 0, .s [], .s [], .i .i64 0, .s [], .i .i64 0, .s [], .i .i64 0] }),
  (197, { d := .st [(0, 9), (1, 50)], size := 3, bytes := 40, zero := .agg [.s [], .i .i64 0, .s []] }),
  (198, { d := .st [(0, 9), (1, 50)], size := 3, bytes := 40, zero := .agg [.s [], .i .i64 0, .s []] }),
  (212, { d := .st [(0, 4), (1, 9), (2, 50), (4, 9)], size := 5, bytes := 64, zero := .agg [.b false, .s [], .i .i64 0, .s [], .s []] }),
  (213, { d := .st [(0, 4), (1, 9), (2, 50), (4, 9)], size := 5, bytes := 64, zero := .agg [.b false, .s [], .i .i64 0, .s [], .s []] }),
  (218, { d := .int .u64, size := 1, bytes := 8, zero := .c (.i .u64 0) }),
  (222, { d := .ptr 3, size := 1, bytes := 8, zero := .c (.raw (.pointer none)) }),
  (234, { d := .ptr 218, size := 1, bytes := 8, zero := .c (.raw (.pointer none)) }),
  (250, { d := .ptr 5, size := 1, bytes := 8, zero := .c (.raw (.pointer none)) }),
  (255, { d := .st [(0, 3), (1, 50), (3, 3)], size := 4, bytes := 40, zero := .agg [.i .i64 0, .i .i64 0, .s [], .i .i64 0] }),
  (256, { d := .st [(0, 3), (1, 50), (3, 3)], size := 4, bytes := 40, zero := .agg [.i .i64 0, .i .i64 0, .s [], .i .i64 0] }),
  (257, { d := .st [(0, 4), (1, 9), (2, 3)], size := 3, bytes := 32, zero := .agg [.b false, .s [], .i .i64 0] }),
  (258, { d := .st [(0, 4), (1, 9), (2, 3)], size := 3, bytes := 32, zero := .agg [.b false, .s [], .i .i64 0] }),
  (259, { d := .st [(0, 256), (4, 258)], size := 7, bytes := 72, zero := .agg [.i .i64 0, .i .i64 0, .s [], .i .i64 0, .b false, .s [], .i .i64 0] }),
  (260, { d := .st [(0, 256), (4, 258)], size := 7, bytes := 72, zero := .agg [.i .i64 0, .i .i64 0, .s [], .i .i64 0, .b false, .s [], .i .i64 0] })]
theorem tyok2 : TyI.ok Tryz.prog 2 { d := .int .i64, size := 1, bytes := 8, zero := .c (.i .i64 0) } := ⟨by kernel_rfl, by kernel_rfl, .inr rfl, (by show Program.underlying _ _ = _; kernel_rfl)⟩
theorem tyok3 : TyI.ok Tryz.prog 3 { d := .int .i64, size := 1, bytes := 8, zero := .c (.i .i64 0) } := ⟨by kernel_rfl, by kernel_rfl, .inr rfl, (by show Program.underlying _ _ = _; kernel_rfl)⟩
theorem tyok4 : TyI.ok Tryz.prog 4 { d := .bool, size := 1, bytes := 1, zero := .c (.b false) } := ⟨by kernel_rfl, by kernel_rfl, .inr rfl, (by show Program.underlying _ _ = _; kernel_rfl)⟩
theorem tyok5 : TyI.ok Tryz.prog 5 { d := .int .u8, size := 1, bytes := 1, zero := .c (.i .u8 0) } := ⟨by kernel_rfl, by kernel_rfl, .inr rfl, (by show Program.underlying _ _ = _; kernel_rfl)⟩
theorem tyok9 : TyI.ok Tryz.prog 9 { d := .str, size := 1, bytes := 16, zero := .c (.s []) } := ⟨by kernel_rfl, by kernel_rfl, .inr rfl, (by show Program.underlying _ _ = _; kernel_rfl)⟩
theorem tyok12 : TyI.ok Tryz.prog 12 { d := .int .u64, size := 1, bytes := 8, zero := .c (.i .u64 0) } := ⟨by kernel_rfl, by kernel_rfl, .inr rfl, (by show Program.underlying _ _ = _; kernel_rfl)⟩
theorem tyok21 : TyI.ok Tryz.prog 21 { d := .int .i32, size := 1, bytes := 4, zero := .c (.i .i32 0) } := ⟨by kernel_rfl, by kernel_rfl, .inr rfl, (by show Program.underlying _ _ = _; kernel_rfl)⟩
theorem tyok22 : TyI.ok Tryz.prog 22 { d := .sl 60, size := 1, bytes := 24, zero := .c (.sl none 0 0) } := ⟨by kernel_rfl, by kernel_rfl, .inr rfl, (by show Program.underlying _ _ = _; kernel_rfl)⟩
theorem tyok23 : TyI.ok Tryz.prog 23 { d := .sl 80, size := 1, bytes := 24, zero := .c (.sl none 0 0) } := ⟨by kernel_rfl, by kernel_rfl, .inr rfl, (by show Program.underlying _ _ = _; kernel_rfl)⟩
theorem tyok24 : TyI.ok Tryz.prog 24 { d := .sl 145, size := 1, bytes := 24, zero := .c (.sl none 0 0) } := ⟨by kernel_rfl, by kernel_rfl, .inr rfl, (by show Program.underlying _ _ = _; kernel_rfl)⟩
theorem tyok25 : TyI.ok Tryz.prog 25 { d := .sl 152, size := 1, bytes := 24, zero := .c (.sl none 0 0) } := ⟨by kernel_rfl, by kernel_rfl, .inr rfl, (by show Program.underlying _ _ = _; kernel_rfl)⟩
theorem tyok26 : TyI.ok Tryz.prog 26 { d := .sl 213, size := 1, bytes := 24, zero := .c (.sl none 0 0) } := ⟨by kernel_rfl, by kernel_rfl, .inr rfl, (by show Program.underlying _ _ = _; kernel_rfl)⟩
theorem tyok27 : TyI.ok Tryz.prog 27 { d := .st [(0, 24), (1, 25), (2, 26)], size := 3, bytes := 72, zero := .agg [.sl none 0 0, .sl none 0 0, .sl none 0 0] } := ⟨by kernel_rfl, by kernel_rfl, .inl rfl, ⟨by kernel_rfl, by kernel_rfl, by kernel_rfl, by kernel_rfl, by kernel_rfl⟩⟩
theorem tyok28 : TyI.ok Tryz.prog 28 { d := .st [(0, 24), (1, 25), (2, 26)], size := 3, bytes := 72, zero := .agg [.sl none 0 0, .sl none 0 0, .sl none 0 0] } := ⟨by kernel_rfl, by kernel_rfl, .inl rfl, ⟨by kernel_rfl, by kernel_rfl, by kernel_rfl, by kernel_rfl, by kernel_rfl⟩⟩
theorem tyok29 : TyI.ok Tryz.prog 29 { d := .sl 9, size := 1, bytes := 24, zero := .c (.sl none 0 0) } := ⟨by kernel_rfl, by kernel_rfl, .inr rfl, (by show Program.underlying _ _ = _; kernel_rfl)⟩
theorem tyok30 : TyI.ok Tryz.prog 30 { d := .sl 260, size := 1, bytes := 24, zero := .c (.sl none 0 0) } := ⟨by kernel_rfl, by kernel_rfl, .inr rfl, (by show Program.underlying _ _ = _; kernel_rfl)⟩
theorem tyok31 : TyI.ok Tryz.prog 31 { d := .st [(0, 23), (1, 28), (4, 29), (5, 3), (6, 30)], size := 7, bytes := 152, zero := .agg [.sl none 0 0, .sl none 0 0, .sl none 0 0, .sl none 0 0, .sl none 0 0, .i .i64 0, .sl none 0 0] } := ⟨by kernel_rfl, by kernel_rfl, .inl rfl, ⟨by kernel_rfl, by kernel_rfl, by kernel_rfl, by kernel_rfl, by kernel_rfl⟩⟩
theorem tyok32 : TyI.ok Tryz.prog 32 { d := .st [(0, 23), (1, 28), (4, 29), (5, 3), (6, 30)], size := 7, bytes := 152, zero := .agg [.sl none 0 0, .sl none 0 0, .sl none 0 0, .sl none 0 0, .sl none 0 0, .i .i64 0, .sl none 0 0] } := ⟨by kernel_rfl, by kernel_rfl, .inl rfl, ⟨by kernel_rfl, by kernel_rfl, by kernel_rfl, by kernel_rfl, by kernel_rfl⟩⟩
theorem tyok33 : TyI.ok Tryz.prog 33 { d := .sl 3, size := 1, bytes := 24, zero := .c (.sl none 0 0) } := ⟨by kernel_rfl, by kernel_rfl, .inr rfl, (by show Program.underlying _ _ = _; kernel_rfl)⟩
theorem tyok37 : TyI.ok Tryz.prog 37 { d := .sl 95, size := 1, bytes := 24, zero := .c (.sl none 0 0) } := ⟨by kernel_rfl, by kernel_rfl, .inr rfl, (by show Program.underlying _ _ = _; kernel_rfl)⟩
theorem tyok38 : TyI.ok Tryz.prog 38 { d := .sl 196, size := 1, bytes := 24, zero := .c (.sl none 0 0) } := ⟨by kernel_rfl, by kernel_rfl, .inr rfl, (by show Program.underlying _ _ = _; kernel_rfl)⟩
theorem tyok39 : TyI.ok Tryz.prog 39 { d := .sl 198, size := 1, bytes := 24, zero := .c (.sl none 0 0) } := ⟨by kernel_rfl, by kernel_rfl, .inr rfl, (by show Program.underlying _ _ = _; kernel_rfl)⟩
theorem tyok40 : TyI.ok Tryz.prog 40 { d := .sl 168, size := 1, bytes := 24, zero := .c (.sl none 0 0) } := ⟨by kernel_rfl, by kernel_rfl, .inr rfl, (by show Program.underlying _ _ = _; kernel_rfl)⟩
theorem tyok41 : TyI.ok Tryz.prog 41 { d := .st [(0, 3), (1, 3), (2, 37), (3, 37), (4, 38), (5, 3), (6, 39), (7, 40)], size := 8, bytes := 144, zero := .agg [.i .i64 0, .i .i64 0, .sl none 0 0, .sl none 0 0, .sl none 0 0, .i .i64 0, .sl none 0 0, .sl none 0 0] } := ⟨by kernel_rfl, by kernel_rfl, .inl rfl, ⟨by kernel_rfl, by kernel_rfl, by kernel_rfl, by kernel_rfl, by kernel_rfl⟩⟩
theorem tyok42 : TyI.ok Tryz.prog 42 { d := .st [(0, 3), (1, 3), (2, 37), (3, 37), (4, 38), (5, 3), (6, 39), (7, 40)], size := 8, bytes := 144, zero := .agg [.i .i64 0, .i .i64 0, .sl none 0 0, .sl none 0 0, .sl none 0 0, .i .i64 0, .sl none 0 0, .sl none 0 0] } := ⟨by kernel_rfl, by kernel_rfl, .inl rfl, ⟨by kernel_rfl, by kernel_rfl, by kernel_rfl, by kernel_rfl, by kernel_rfl⟩⟩
theorem tyok49 : TyI.ok Tryz.prog 49 { d := .st [(0, 3), (1, 9)], size := 2, bytes := 24, zero := .agg [.i .i64 0, .s []] } := ⟨by kernel_rfl, by kernel_rfl, .inl rfl, ⟨by kernel_rfl, by kernel_rfl, by kernel_rfl, by kernel_rfl, by kernel_rfl⟩⟩
theorem tyok50 : TyI.ok Tryz.prog 50 { d := .st [(0, 3), (1, 9)], size := 2, bytes := 24, zero := .agg [.i .i64 0, .s []] } := ⟨by kernel_rfl, by kernel_rfl, .inl rfl, ⟨by kernel_rfl, by kernel_rfl, by kernel_rfl, by kernel_rfl, by kernel_rfl⟩⟩
theorem tyok51 : TyI.ok Tryz.prog 51 { d := .st [(0, 50), (2, 3)], size := 3, bytes := 32, zero := .agg [.i .i64 0, .s [], .i .i64 0] } := ⟨by kernel_rfl, by kernel_rfl, .inl rfl, ⟨by kernel_rfl, by kernel_rfl, by kernel_rfl, by kernel_rfl, by kernel_rfl⟩⟩
theorem tyok52 : TyI.ok Tryz.prog 52 { d := .st [(0, 50), (2, 3)], size := 3, bytes := 32, zero := .agg [.i .i64 0, .s [], .i .i64 0] } := ⟨by kernel_rfl, by kernel_rfl, .inl rfl, ⟨by kernel_rfl, by kernel_rfl, by kernel_rfl, by kernel_rfl, by kernel_rfl⟩⟩
theorem tyok53 : TyI.ok Tryz.prog 53 { d := .sl 52, size := 1, bytes := 24, zero := .c (.sl none 0 0) } := ⟨by kernel_rfl, by kernel_rfl, .inr rfl, (by show Program.underlying _ _ = _; kernel_rfl)⟩
theorem tyok59 : TyI.ok Tryz.prog 59 { d := .st [(0, 9), (1, 50), (3, 3)], size := 4, bytes := 48, zero := .agg [.s [], .i .i64 0, .s [], .i .i64 0] } := ⟨by kernel_rfl, by kernel_rfl, .inl rfl, ⟨by kernel_rfl, by kernel_rfl, by kernel_rfl, by kernel_rfl, by kernel_rfl⟩⟩
theorem tyok60 : TyI.ok Tryz.prog 60 { d := .st [(0, 9), (1, 50), (3, 3)], size := 4, bytes := 48, zero := .agg [.s [], .i .i64 0, .s [], .i .i64 0] } := ⟨by kernel_rfl, by kernel_rfl, .inl rfl, ⟨by kernel_rfl, by kernel_rfl, by kernel_rfl, by kernel_rfl, by kernel_rfl⟩⟩
theorem tyok64 : TyI.ok Tryz.prog 64 { d := .ptr 121, size := 1, bytes := 8, zero := .c (.raw (.pointer none)) } := ⟨by kernel_rfl, by kernel_rfl, .inr rfl, (by show Program.underlying _ _ = _; kernel_rfl)⟩
theorem tyok69 : TyI.ok Tryz.prog 69 { d := .sl 50, size := 1, bytes := 24, zero := .c (.sl none 0 0) } := ⟨by kernel_rfl, by kernel_rfl, .inr rfl, (by show Program.underlying _ _ = _; kernel_rfl)⟩
theorem tyok79 : TyI.ok Tryz.prog 79 { d := .st [(0, 50), (2, 9), (3, 3)], size := 4, bytes := 48, zero := .agg [.i .i64 0, .s [], .s [], .i .i64 0] } := ⟨by kernel_rfl, by kernel_rfl, .inl rfl, ⟨by kernel_rfl, by kernel_rfl, by kernel_rfl, by kernel_rfl, by kernel_rfl⟩⟩
theorem tyok80 : TyI.ok Tryz.prog 80 { d := .st [(0, 50), (2, 9), (3, 3)], size := 4, bytes := 48, zero := .agg [.i .i64 0, .s [], .s [], .i .i64 0] } := ⟨by kernel_rfl, by kernel_rfl, .inl rfl, ⟨by kernel_rfl, by kernel_rfl, by kernel_rfl, by kernel_rfl, by kernel_rfl⟩⟩
theorem tyok85 : TyI.ok Tryz.prog 85 { d := .int .i64, size := 1, bytes := 8, zero := .c (.i .i64 0) } := ⟨by kernel_rfl, by kernel_rfl, .inr rfl, (by show Program.underlying _ _ = _; kernel_rfl)⟩
theorem tyok88 : TyI.ok Tryz.prog 88 { d := .sl 98, size := 1, bytes := 24, zero := .c (.sl none 0 0) } := ⟨by kernel_rfl, by kernel_rfl, .inr rfl, (by show Program.underlying _ _ = _; kernel_rfl)⟩
theorem tyok89 : TyI.ok Tryz.prog 89 { d := .st [(0, 3), (1, 9), (2, 9), (3, 50), (5, 50), (7, 9), (8, 3), (9, 88)], size := 10, bytes := 136, zero := .agg [.i .i64 0, .s [], .s [], .i .i64 0, .s [], .i .i64 0, .s [], .s [], .i .i64 0, .sl none 0 0] } := ⟨by kernel_rfl, by kernel_rfl, .inl rfl, ⟨by kernel_rfl, by kernel_rfl, by kernel_rfl, by kernel_rfl, by kernel_rfl⟩⟩
theorem tyok90 : TyI.ok Tryz.prog 90 { d := .st [(0, 3), (1, 9), (2, 9), (3, 50), (5, 50), (7, 9), (8, 3), (9, 88)], size := 10, bytes := 136, zero := .agg [.i .i64 0, .s [], .s [], .i .i64 0, .s [], .i .i64 0, .s [], .s [], .i .i64 0, .sl none 0 0] } := ⟨by kernel_rfl, by kernel_rfl, .inl rfl, ⟨by kernel_rfl, by kernel_rfl, by kernel_rfl, by kernel_rfl, by kernel_rfl⟩⟩
theorem tyok91 : TyI.ok Tryz.prog 91 { d := .sl 90, size := 1, bytes := 24, zero := .c (.sl none 0 0) } := ⟨by kernel_rfl, by kernel_rfl, .inr rfl, (by show Program.underlying _ _ = _; kernel_rfl)⟩
theorem tyok94 : TyI.ok Tryz.prog 94 { d := .st [(0, 50), (2, 88)], size := 3, bytes := 48, zero := .agg [.i .i64 0, .s [], .sl none 0 0] } := ⟨by kernel_rfl, by kernel_rfl, .inl rfl, ⟨by kernel_rfl, by kernel_rfl, by kernel_rfl, by kernel_rfl, by kernel_rfl⟩⟩
theorem tyok95 : TyI.ok Tryz.prog 95 { d := .st [(0, 50), (2, 88)], size := 3, bytes := 48, zero := .agg [.i .i64 0, .s [], .sl none 0 0] } := ⟨by kernel_rfl, by kernel_rfl, .inl rfl, ⟨by kernel_rfl, by kernel_rfl, by kernel_rfl, by kernel_rfl, by kernel_rfl⟩⟩
theorem tyok97 : TyI.ok Tryz.prog 97 { d := .st [(0, 3), (1, 9), (2, 9), (3, 9), (4, 3), (5, 3)], size := 6, bytes := 72, zero := .agg [.i .i64 0, .s [], .s [], .s [], .i .i64 0, .i .i64 0] } := ⟨by kernel_rfl, by kernel_rfl, .inl rfl, ⟨by kernel_rfl, by kernel_rfl, by kernel_rfl, by kernel_rfl, by kernel_rfl⟩⟩
theorem tyok98 : TyI.ok Tryz.prog 98 { d := .st [(0, 3), (1, 9), (2, 9), (3, 9), (4, 3), (5, 3)], size := 6, bytes := 72, zero := .agg [.i .i64 0, .s [], .s [], .s [], .i .i64 0, .i .i64 0] } := ⟨by kernel_rfl, by kernel_rfl, .inl rfl, ⟨by kernel_rfl, by kernel_rfl, by kernel_rfl, by kernel_rfl, by kernel_rfl⟩⟩
theorem tyok103 : TyI.ok Tryz.prog 103 { d := .mp 105 3, size := 1, bytes := 8, zero := .c (.raw (.map none)) } := ⟨by kernel_rfl, by kernel_rfl, .inr rfl, (by show Program.underlying _ _ = _; kernel_rfl)⟩
theorem tyok104 : TyI.ok Tryz.prog 104 { d := .st [(0, 9), (1, 50)], size := 3, bytes := 40, zero := .agg [.s [], .i .i64 0, .s []] } := ⟨by kernel_rfl, by kernel_rfl, .inl rfl, ⟨by kernel_rfl, by kernel_rfl, by kernel_rfl, by kernel_rfl, by kernel_rfl⟩⟩
theorem tyok105 : TyI.ok Tryz.prog 105 { d := .st [(0, 9), (1, 50)], size := 3, bytes := 40, zero := .agg [.s [], .i .i64 0, .s []] } := ⟨by kernel_rfl, by kernel_rfl, .inl rfl, ⟨by kernel_rfl, by kernel_rfl, by kernel_rfl, by kernel_rfl, by kernel_rfl⟩⟩
theorem tyok107 : TyI.ok Tryz.prog 107 { d := .mp 50 4, size := 1, bytes := 8, zero := .c (.raw (.map none)) } := ⟨by kernel_rfl, by kernel_rfl, .inr rfl, (by show Program.underlying _ _ = _; kernel_rfl)⟩
theorem tyok114 : TyI.ok Tryz.prog 114 { d := .arr 7 9, size := 7, bytes := 112, zero := .agg [.s [], .s [], .s [], .s [], .s [], .s [], .s []] } := ⟨by kernel_rfl, by kernel_rfl, .inl rfl, (by show Program.underlying _ _ = _; kernel_rfl)⟩
theorem tyok115 : TyI.ok Tryz.prog 115 { d := .arr 5 9, size := 5, bytes := 80, zero := .agg [.s [], .s [], .s [], .s [], .s []] } := ⟨by kernel_rfl, by kernel_rfl, .inl rfl, (by show Program.underlying _ _ = _; kernel_rfl)⟩
theorem tyok118 : TyI.ok Tryz.prog 118 { d := .arr 3 9, size := 3, bytes := 48, zero := .agg [.s [], .s [], .s []] } := ⟨by kernel_rfl, by kernel_rfl, .inl rfl, (by show Program.underlying _ _ = _; kernel_rfl)⟩
theorem tyok119 : TyI.ok Tryz.prog 119 { d := .int .u64, size := 1, bytes := 8, zero := .c (.i .u64 0) } := ⟨by kernel_rfl, by kernel_rfl, .inr rfl, (by show Program.underlying _ _ = _; kernel_rfl)⟩
theorem tyok120 : TyI.ok Tryz.prog 120 { d := .st [(0, 33), (1, 3), (2, 119)], size := 3, bytes := 40, zero := .agg [.sl none 0 0, .i .i64 0, .i .u64 0] } := ⟨by kernel_rfl, by kernel_rfl, .inl rfl, ⟨by kernel_rfl, by kernel_rfl, by kernel_rfl, by kernel_rfl, by kernel_rfl⟩⟩
theorem tyok121 : TyI.ok Tryz.prog 121 { d := .st [(0, 33), (1, 3), (2, 119)], size := 3, bytes := 40, zero := .agg [.sl none 0 0, .i .i64 0, .i .u64 0] } := ⟨by kernel_rfl, by kernel_rfl, .inl rfl, ⟨by kernel_rfl, by kernel_rfl, by kernel_rfl, by kernel_rfl, by kernel_rfl⟩⟩
theorem tyok122 : TyI.ok Tryz.prog 122 { d := .int .u64, size := 1, bytes := 8, zero := .c (.i .u64 0) } := ⟨by kernel_rfl, by kernel_rfl, .inr rfl, (by show Program.underlying _ _ = _; kernel_rfl)⟩
theorem tyok123 : TyI.ok Tryz.prog 123 { d := .mp 9 3, size := 1, bytes := 8, zero := .c (.raw (.map none)) } := ⟨by kernel_rfl, by kernel_rfl, .inr rfl, (by show Program.underlying _ _ = _; kernel_rfl)⟩
theorem tyok134 : TyI.ok Tryz.prog 134 { d := .arr 8 9, size := 8, bytes := 128, zero := .agg [.s [], .s [], .s [], .s [], .s [], .s [], .s [], .s []] } := ⟨by kernel_rfl, by kernel_rfl, .inl rfl, (by show Program.underlying _ _ = _; kernel_rfl)⟩
theorem tyok144 : TyI.ok Tryz.prog 144 { d := .st [(0, 9), (1, 29)], size := 2, bytes := 40, zero := .agg [.s [], .sl none 0 0] } := ⟨by kernel_rfl, by kernel_rfl, .inl rfl, ⟨by kernel_rfl, by kernel_rfl, by kernel_rfl, by kernel_rfl, by kernel_rfl⟩⟩
theorem tyok145 : TyI.ok Tryz.prog 145 { d := .st [(0, 9), (1, 29)], size := 2, bytes := 40, zero := .agg [.s [], .sl none 0 0] } := ⟨by kernel_rfl, by kernel_rfl, .inl rfl, ⟨by kernel_rfl, by kernel_rfl, by kernel_rfl, by kernel_rfl, by kernel_rfl⟩⟩
theorem tyok147 : TyI.ok Tryz.prog 147 { d := .sl 150, size := 1, bytes := 24, zero := .c (.sl none 0 0) } := ⟨by kernel_rfl, by kernel_rfl, .inr rfl, (by show Program.underlying _ _ = _; kernel_rfl)⟩
theorem tyok149 : TyI.ok Tryz.prog 149 { d := .st [(0, 3), (1, 50)], size := 3, bytes := 32, zero := .agg [.i .i64 0, .i .i64 0, .s []] } := ⟨by kernel_rfl, by kernel_rfl, .inl rfl, ⟨by kernel_rfl, by kernel_rfl, by kernel_rfl, by kernel_rfl, by kernel_rfl⟩⟩
theorem tyok150 : TyI.ok Tryz.prog 150 { d := .st [(0, 3), (1, 50)], size := 3, bytes := 32, zero := .agg [.i .i64 0, .i .i64 0, .s []] } := ⟨by kernel_rfl, by kernel_rfl, .inl rfl, ⟨by kernel_rfl, by kernel_rfl, by kernel_rfl, by kernel_rfl, by kernel_rfl⟩⟩
theorem tyok151 : TyI.ok Tryz.prog 151 { d := .st [(0, 4), (1, 3), (2, 9), (3, 150)], size := 6, bytes := 64, zero := .agg [.b false, .i .i64 0, .s [], .i .i64 0, .i .i64 0, .s []] } := ⟨by kernel_rfl, by kernel_rfl, .inl rfl, ⟨by kernel_rfl, by kernel_rfl, by kernel_rfl, by kernel_rfl, by kernel_rfl⟩⟩
theorem tyok152 : TyI.ok Tryz.prog 152 { d := .st [(0, 4), (1, 3), (2, 9), (3, 150)], size := 6, bytes := 64, zero := .agg [.b false, .i .i64 0, .s [], .i .i64 0, .i .i64 0, .s []] } := ⟨by kernel_rfl, by kernel_rfl, .inl rfl, ⟨by kernel_rfl, by kernel_rfl, by kernel_rfl, by kernel_rfl, by kernel_rfl⟩⟩
theorem tyok160 : TyI.ok Tryz.prog 160 { d := .sl 5, size := 1, bytes := 24, zero := .c (.sl none 0 0) } := ⟨by kernel_rfl, by kernel_rfl, .inr rfl, (by show Program.underlying _ _ = _; kernel_rfl)⟩
theorem tyok161 : TyI.ok Tryz.prog 161 { d := .arr 28 9, size := 28, bytes := 448, zero := .agg [.s [], .s [], .s [], .s [], .s [], .s [], .s [], .s [], .s [], .s [], .s [], .s [], .s [], .s [], .s [], .s [], .s [], .s [], .s [], .s [], .s [], .s [], .s [], .s [], .s [], .s [], .s [], .s []] } := ⟨by kernel_rfl, by kernel_rfl, .inl rfl, (by show Program.underlying _ _ = _; kernel_rfl)⟩
theorem tyok167 : TyI.ok Tryz.prog 167 { d := .st [(0, 9), (1, 3)], size := 2, bytes := 24, zero := .agg [.s [], .i .i64 0] } := ⟨by kernel_rfl, by kernel_rfl, .inl rfl, ⟨by kernel_rfl, by kernel_rfl, by kernel_rfl, by kernel_rfl, by kernel_rfl⟩⟩
theorem tyok168 : TyI.ok Tryz.prog 168 { d := .st [(0, 9), (1, 3)], size := 2, bytes := 24, zero := .agg [.s [], .i .i64 0] } := ⟨by kernel_rfl, by kernel_rfl, .inl rfl, ⟨by kernel_rfl, by kernel_rfl, by kernel_rfl, by kernel_rfl, by kernel_rfl⟩⟩
theorem tyok177 : TyI.ok Tryz.prog 177 { d := .int .i64, size := 1, bytes := 8, zero := .c (.i .i64 0) } := ⟨by kernel_rfl, by kernel_rfl, .inr rfl, (by show Program.underlying _ _ = _; kernel_rfl)⟩
theorem tyok184 : TyI.ok Tryz.prog 184 { d := .int .u32, size := 1, bytes := 4, zero := .c (.i .u32 0) } := ⟨by kernel_rfl, by kernel_rfl, .inr rfl, (by show Program.underlying _ _ = _; kernel_rfl)⟩
theorem tyok192 : TyI.ok Tryz.prog 192 { d := .arr 14 3, size := 14, bytes := 112, zero := .agg [.i .i64 0, .i .i64 0, .i .i64 0, .i .i64 0, .i .i64 0, .i .i64 0, .i .i64 0, .i .i64 0, .i .i64 0, .i .i64 0, .i .i64 0, .i .i64 0, .i .i64 0, .i .i64 0] } := ⟨by kernel_rfl, by kernel_rfl, .inl rfl, (by show Program.underlying _ _ = _; kernel_rfl)⟩
theorem tyok195 : TyI.ok Tryz.prog 195 { d := .st [(0, 3), (1, 9), (2, 9), (3, 50), (5, 3), (6, 9), (7, 3)], size := 8, bytes := 96, zero := .agg [.i .i64 0, .s [], .s [], .i .i64 0, .s [], .i .i64 0, .s [], .i .i64 0] } := ⟨by kernel_rfl, by kernel_rfl, .inl rfl, ⟨by kernel_rfl, by kernel_rfl, by kernel_rfl, by kernel_rfl, by kernel_rfl⟩⟩
theorem tyok196 : TyI.ok Tryz.prog 196 { d := .st [(0, 3), (1, 9), (2, 9), (3, 50), (5, 3), (6, 9), (7, 3)], size := 8, bytes := 96, zero := .agg [.i .i64 0, .s [], .s [], .i .i64 0, .s [], .i .i64 0, .s [], .i .i64 0] } := ⟨by kernel_rfl, by kernel_rfl, .inl rfl, ⟨by kernel_rfl, by kernel_rfl, by kernel_rfl, by kernel_rfl, by kernel_rfl⟩⟩
theorem tyok197 : TyI.ok Tryz.prog 197 { d := .st [(0, 9), (1, 50)], size := 3, bytes := 40, zero := .agg [.s [], .i .i64 0, .s []] } := ⟨by kernel_rfl, by kernel_rfl, .inl rfl, ⟨by kernel_rfl, by kernel_rfl, by kernel_rfl, by kernel_rfl, by kernel_rfl⟩⟩
theorem tyok198 : TyI.ok Tryz.prog 198 { d := .st [(0, 9), (1, 50)], size := 3, bytes := 40, zero := .agg [.s [], .i .i64 0, .s []] } := ⟨by kernel_rfl, by kernel_rfl, .inl rfl, ⟨by kernel_rfl, by kernel_rfl, by kernel_rfl, by kernel_rfl, by kernel_rfl⟩⟩
theorem tyok212 : TyI.ok Tryz.prog 212 { d := .st [(0, 4), (1, 9), (2, 50), (4, 9)], size := 5, bytes := 64, zero := .agg [.b false, .s [], .i .i64 0, .s [], .s []] } := ⟨by kernel_rfl, by kernel_rfl, .inl rfl, ⟨by kernel_rfl, by kernel_rfl, by kernel_rfl, by kernel_rfl, by kernel_rfl⟩⟩
theorem tyok213 : TyI.ok Tryz.prog 213 { d := .st [(0, 4), (1, 9), (2, 50), (4, 9)], size := 5, bytes := 64, zero := .agg [.b false, .s [], .i .i64 0, .s [], .s []] } := ⟨by kernel_rfl, by kernel_rfl, .inl rfl, ⟨by kernel_rfl, by kernel_rfl, by kernel_rfl, by kernel_rfl, by kernel_rfl⟩⟩
theorem tyok218 : TyI.ok Tryz.prog 218 { d := .int .u64, size := 1, bytes := 8, zero := .c (.i .u64 0) } := ⟨by kernel_rfl, by kernel_rfl, .inr rfl, (by show Program.underlying _ _ = _; kernel_rfl)⟩
theorem tyok222 : TyI.ok Tryz.prog 222 { d := .ptr 3, size := 1, bytes := 8, zero := .c (.raw (.pointer none)) } := ⟨by kernel_rfl, by kernel_rfl, .inr rfl, (by show Program.underlying _ _ = _; kernel_rfl)⟩
theorem tyok234 : TyI.ok Tryz.prog 234 { d := .ptr 218, size := 1, bytes := 8, zero := .c (.raw (.pointer none)) } := ⟨by kernel_rfl, by kernel_rfl, .inr rfl, (by show Program.underlying _ _ = _; kernel_rfl)⟩
theorem tyok250 : TyI.ok Tryz.prog 250 { d := .ptr 5, size := 1, bytes := 8, zero := .c (.raw (.pointer none)) } := ⟨by kernel_rfl, by kernel_rfl, .inr rfl, (by show Program.underlying _ _ = _; kernel_rfl)⟩
theorem tyok255 : TyI.ok Tryz.prog 255 { d := .st [(0, 3), (1, 50), (3, 3)], size := 4, bytes := 40, zero := .agg [.i .i64 0, .i .i64 0, .s [], .i .i64 0] } := ⟨by kernel_rfl, by kernel_rfl, .inl rfl, ⟨by kernel_rfl, by kernel_rfl, by kernel_rfl, by kernel_rfl, by kernel_rfl⟩⟩
theorem tyok256 : TyI.ok Tryz.prog 256 { d := .st [(0, 3), (1, 50), (3, 3)], size := 4, bytes := 40, zero := .agg [.i .i64 0, .i .i64 0, .s [], .i .i64 0] } := ⟨by kernel_rfl, by kernel_rfl, .inl rfl, ⟨by kernel_rfl, by kernel_rfl, by kernel_rfl, by kernel_rfl, by kernel_rfl⟩⟩
theorem tyok257 : TyI.ok Tryz.prog 257 { d := .st [(0, 4), (1, 9), (2, 3)], size := 3, bytes := 32, zero := .agg [.b false, .s [], .i .i64 0] } := ⟨by kernel_rfl, by kernel_rfl, .inl rfl, ⟨by kernel_rfl, by kernel_rfl, by kernel_rfl, by kernel_rfl, by kernel_rfl⟩⟩
theorem tyok258 : TyI.ok Tryz.prog 258 { d := .st [(0, 4), (1, 9), (2, 3)], size := 3, bytes := 32, zero := .agg [.b false, .s [], .i .i64 0] } := ⟨by kernel_rfl, by kernel_rfl, .inl rfl, ⟨by kernel_rfl, by kernel_rfl, by kernel_rfl, by kernel_rfl, by kernel_rfl⟩⟩
theorem tyok259 : TyI.ok Tryz.prog 259 { d := .st [(0, 256), (4, 258)], size := 7, bytes := 72, zero := .agg [.i .i64 0, .i .i64 0, .s [], .i .i64 0, .b false, .s [], .i .i64 0] } := ⟨by kernel_rfl, by kernel_rfl, .inl rfl, ⟨by kernel_rfl, by kernel_rfl, by kernel_rfl, by kernel_rfl, by kernel_rfl⟩⟩
theorem tyok260 : TyI.ok Tryz.prog 260 { d := .st [(0, 256), (4, 258)], size := 7, bytes := 72, zero := .agg [.i .i64 0, .i .i64 0, .s [], .i .i64 0, .b false, .s [], .i .i64 0] } := ⟨by kernel_rfl, by kernel_rfl, .inl rfl, ⟨by kernel_rfl, by kernel_rfl, by kernel_rfl, by kernel_rfl, by kernel_rfl⟩⟩
theorem Tryz.tyOK : TyOK Tryz.prog Tryz.tyT := tyOK_of_all ⟨tyok2, tyok3, tyok4, tyok5, tyok9, tyok12, tyok21, tyok22, tyok23, tyok24, tyok25, tyok26, tyok27, tyok28, tyok29, tyok30, tyok31, tyok32, tyok33, tyok37, tyok38, tyok39, tyok40, tyok41, tyok42, tyok49, tyok50, tyok51, tyok52, tyok53, tyok59, tyok60, tyok64, tyok69, tyok79, tyok80, tyok85, tyok88, tyok89, tyok90, tyok91, tyok94, tyok95, tyok97, tyok98, tyok103, tyok104, tyok105, tyok107, tyok114, tyok115, tyok118, tyok119, tyok120, tyok121, tyok122, tyok123, tyok134, tyok144, tyok145, tyok147, tyok149, tyok150, tyok151, tyok152, tyok160, tyok161, tyok167, tyok168, tyok177, tyok184, tyok192, tyok195, tyok196, tyok197, tyok198, tyok212, tyok213, tyok218, tyok222, tyok234, tyok250, tyok255, tyok256, tyok257, tyok258, tyok259, tyok260, trivial⟩
end Go.Proofs

/- This text holds what all rows of this seat share: a world in which the listed tables lie, and closed facts of the program. -/
namespace Go.Proofs.YthknndkjnglegaaGreat
open Go Go.X Go.ChangeShapes Go.WideShapes Go.ChangeAt Go.RowKit
set_option maxRecDepth 100000
theorem own : ownKnob Tryz.prog.godebug = none := by kernel_rfl
theorem laidOut : laidOutB Tryz.prog = true := by kernel_rfl
/-- A world for the witnesses: the settled one. -/
noncomputable def laidWorld (os : Os) : World := World.holding Tryz.prog os ⟨#[], #[], []⟩
theorem world_vars (os : Os) (args : Array Value) : ((laidWorld os).forCall (fun _ _ => 0) ⟨#[], args, []⟩).variablesB Tryz.checked.prog = true := by kernel_rfl
theorem world_rest (os : Os) (args : Array Value) : (((laidWorld os).forCall (fun _ _ => 0) ⟨#[], args, []⟩).heap.toList.drop Tryz.checked.prog.globals.size).take ((begin Tryz.checked.prog (fun _ _ => 0) default).world.heap.size - Tryz.checked.prog.globals.size) =
    (begin Tryz.checked.prog (fun _ _ => 0) default).world.heap.toList.drop Tryz.checked.prog.globals.size := by kernel_rfl
theorem laid_met (os : Os) (args : Array Value) : laidMet Tryz.prog [] ((laidWorld os).forCall (fun _ _ => 0) ⟨#[], args, []⟩).memory := by
  exact ⟨[], by constructor, List.nodup_nil, fun _ _ h => by cases h⟩
theorem okTy {t : Nat} {i : TyI} (h : find Tryz.tyT t = some i) : i.ok Tryz.prog t := Tryz.tyOK t i h
end Go.Proofs.YthknndkjnglegaaGreat

/- This text holds plain facts on lists of bytes, with no program in sight: what the library's string functions compute when the separator is one byte. -/
namespace Go.X
open Go.Lib
/-- Before the first c, behind it, and whether there is one. -/
def cutAt (c : UInt8) : List UInt8 → List UInt8 × List UInt8 × Bool
  | [] => ([], [], false)
  | x :: r => if x = c then ([], r, true) else (x :: (cutAt c r).1, (cutAt c r).2.1, (cutAt c r).2.2)
/-- The pieces between the bytes c. -/
def splitOn (c : UInt8) : List UInt8 → List (List UInt8)
  | [] => [[]]
  | x :: r => if x = c then [] :: splitOn c r else (x :: (splitOn c r).headD []) :: (splitOn c r).tail
theorem splitOn_ne (c : UInt8) (l : List UInt8) : splitOn c l ≠ [] := by
  cases l with
  | nil => simp [splitOn]
  | cons x r => simp only [splitOn]; split <;> simp
theorem splitOn_eq (c : UInt8) (l : List UInt8) : splitOn c l = (splitOn c l).headD [] :: (splitOn c l).tail := by
  have := splitOn_ne c l
  cases h : splitOn c l with
  | nil => exact absurd h this
  | cons a b => rfl
theorem index_nil (c : UInt8) : index [] [c] = -1 := by simp [index]
theorem index_same (c : UInt8) (l : List UInt8) : index (c :: l) [c] = 0 := by simp [index, List.isPrefixOf]
theorem index_other {b c : UInt8} (h : b ≠ c) (l : List UInt8) : index (b :: l) [c] = if index l [c] = -1 then -1 else index l [c] + 1 := by
  have hp : ([c] : List UInt8).isPrefixOf (b :: l) = false := by simp [List.isPrefixOf, Ne.symm h]
  rw [index, hp]; simp
/-- The pieces with the byte c between them. -/
def joinOn (c : UInt8) : List (List UInt8) → List UInt8
  | [] => []
  | [x] => x
  | x :: y :: r => x ++ c :: joinOn c (y :: r)
theorem join_splitOn (c : UInt8) : ∀ l : List UInt8, joinOn c (splitOn c l) = l
  | [] => rfl
  | x :: r => by
    have ih := join_splitOn c r
    have e := splitOn_eq c r
    by_cases h : x = c
    · subst h
      simp only [splitOn, if_true]
      rw [e] at ih ⊢
      simp only [joinOn, ih, List.nil_append]
    · simp only [splitOn, if_neg h]
      rw [e] at ih
      cases ht : (splitOn c r).tail with
      | nil => rw [ht] at ih; simp only [joinOn] at ih ⊢; rw [ih]
      | cons y t => rw [ht] at ih; simp only [joinOn, List.cons_append] at ih ⊢; rw [ih]
theorem splitOn_length_le (c : UInt8) : ∀ l : List UInt8, (splitOn c l).length ≤ l.length + 1
  | [] => by simp [splitOn]
  | x :: r => by
    have ih := splitOn_length_le c r
    simp only [splitOn]
    split
    · simp; omega
    · simp; omega
theorem mem_splitOn_le (c : UInt8) : ∀ (l p : List UInt8), p ∈ splitOn c l → p.length ≤ l.length
  | [], p, h => by simp [splitOn] at h; simp [h]
  | x :: r, p, h => by
    have ih := mem_splitOn_le c r
    have hh : ((splitOn c r).headD []).length ≤ r.length := by
      have := ih ((splitOn c r).headD []) (by rw [splitOn_eq c r]; simp)
      exact this
    simp only [splitOn] at h
    split at h
    · rcases List.mem_cons.1 h with rfl | h
      · simp
      · have := ih p h; simp; omega
    · rcases List.mem_cons.1 h with rfl | h
      · simp only [List.length_cons]; omega
      · have := ih p (List.mem_of_mem_tail h); simp; omega
/-! ### A list that is turned from the left -/
section
variable {α : Type} {A B : List α} {i : Nat}
end
theorem joinOn_le (c : UInt8) : ∀ xs ys : List (List UInt8), xs.length = ys.length → (∀ (i : Nat) (h : i < xs.length) (h' : i < ys.length), xs[i].length ≤ ys[i].length) → (joinOn c xs).length ≤ (joinOn c ys).length
  | [], [], _, _ => Nat.le_refl _
  | [x], [y], _, h => by have := h 0 (by simp) (by simp); simpa [joinOn] using this
  | x :: x' :: r, y :: y' :: q, hl, h => by
    have h0 := h 0 (by simp) (by simp)
    have ih := joinOn_le c (x' :: r) (y' :: q) (by simpa using hl) (fun i h1 h2 => h (i + 1) (by simpa using h1) (by simpa using h2))
    simp only [List.getElem_cons_zero] at h0
    simp only [joinOn, List.length_append, List.length_cons]
    omega
  | [], _ :: _, hl, _ => by simp at hl
  | _ :: _, [], hl, _ => by simp at hl
  | [_], _ :: _ :: _, hl, _ => by simp at hl
  | _ :: _ :: _, [_], hl, _ => by simp at hl
end Go.X

/- This text holds contracts of the Go library's functions at this program, laid by the kit's shelf (its plain mode). -/
namespace Go.Proofs
open Go.Shelf
def Tryz.lays125_ren : Go.Shelf.Ren := ⟨fun | 125 => 88 | 128 => 128 | 129 => 129 | n => n, fun | 46 => 122 | 3 => 3 | 51 => 184 | 53 => 119 | 4 => 4 | 5 => 5 | 9 => 9 | n => n, fun | n => n⟩
theorem Tryz.lays125 : Go.Proofs.Lays.n125 Tryz.prog Tryz.lays125_ren := {
  mixed := by kernel_rfl
  f125 := Tryz.func88.trans (congrArg some (by kernel_rfl))
  f128 := Tryz.func128.trans (congrArg some (by kernel_rfl))
  f129 := Tryz.func129.trans (congrArg some (by kernel_rfl))
  t3 := Tryz.underlying3
  a3 := Tryz.isAgg3
  z3 := Tryz.sizeOf3
  v3 := Tryz.zeroValue3
  t4 := Tryz.underlying4
  a4 := Tryz.isAgg4
  z4 := Tryz.sizeOf4
  v4 := Tryz.zeroValue4
  t5 := Tryz.underlying5
  a5 := Tryz.isAgg5
  z5 := Tryz.sizeOf5
  v5 := Tryz.zeroValue5
  t9 := Tryz.underlying9
  a9 := Tryz.isAgg9
  z9 := Tryz.sizeOf9
  v9 := Tryz.zeroValue9
  t46 := Tryz.underlying122
  a46 := Tryz.isAgg122
  z46 := Tryz.sizeOf122
  v46 := Tryz.zeroValue122
  t51 := Tryz.underlying184
  a51 := Tryz.isAgg184
  z51 := Tryz.sizeOf184
  v51 := Tryz.zeroValue184
  t53 := Tryz.underlying119
  a53 := Tryz.isAgg119
  z53 := Tryz.sizeOf119
  v53 := Tryz.zeroValue119 }
theorem Tryz.bits_Len (x : Int) (w : World) (h0 : 0 ≤ x) (h1 : x ≤ 18446744073709551615) :
    Calls Tryz.prog 88 #[.int .u64 x] w fun e w' => e = .returned (.int .i64 (Lib.bitLen x.toNat)) ∧ w' = w := Any.bits_Len Tryz.lays125 x w h0 h1
def Tryz.lays106_ren : Go.Shelf.Ren := ⟨fun | 106 => 91 | 213 => 138 | 265 => 172 | n => n, fun | 9 => 9 | 3 => 3 | n => n, fun | n => n⟩
theorem Tryz.lays106 : Go.Proofs.Lays.n106 Tryz.prog Tryz.lays106_ren := {
  mixed := by kernel_rfl
  f106 := Tryz.func91.trans (congrArg some (by kernel_rfl))
  f213 := Tryz.func138.trans (congrArg some (by kernel_rfl))
  f265 := Tryz.func172.trans (congrArg some (by kernel_rfl))
  t3 := Tryz.underlying3
  a3 := Tryz.isAgg3
  z3 := Tryz.sizeOf3
  v3 := Tryz.zeroValue3
  t9 := Tryz.underlying9
  a9 := Tryz.isAgg9
  z9 := Tryz.sizeOf9
  v9 := Tryz.zeroValue9 }
open Go.RowKit in
theorem Tryz.strings_Compare (a b : ByteArray) (w : World) :
    Calls Tryz.prog 91 #[.string a, .string b] w fun e w' => e = .returned (.int .i64 (Lib.compareBytes a.data.toList b.data.toList)) ∧ w' = w := Any.strings_Compare Tryz.lays106 a b w
def Tryz.lays122_ren : Go.Shelf.Ren := ⟨fun | 122 => 52 | 215 => 90 | n => n, fun | 3 => 3 | 4 => 4 | n => n, fun | n => n⟩
theorem Tryz.lays122 : Go.Proofs.Lays.n122 Tryz.prog Tryz.lays122_ren := {
  mixed := by kernel_rfl
  f122 := Tryz.func52.trans (congrArg some (by kernel_rfl))
  f215 := Tryz.func90.trans (congrArg some (by kernel_rfl))
  t3 := Tryz.underlying3
  a3 := Tryz.isAgg3
  z3 := Tryz.sizeOf3
  v3 := Tryz.zeroValue3
  t4 := Tryz.underlying4
  a4 := Tryz.isAgg4
  z4 := Tryz.sizeOf4
  v4 := Tryz.zeroValue4 }
open Go.RowKit in
theorem Tryz.cmp_Compare_int (x y : Int) (w : World) :
    Calls Tryz.prog 52 #[.int .i64 x, .int .i64 y] w fun e w' => e = .returned (.int .i64 (Lib.compareInt x y)) ∧ w' = w := Any.cmp_Compare_int Tryz.lays122 x y w
end Go.Proofs

/- This text gives the contracts of Go's library functions in the form of the symbolic executor. -/
namespace Go.Proofs
open Go Go.X Go.RowKit Go.Shelf
theorem stringsCompare_ok (a b : List UInt8) : FnS Tryz.prog 91 [.c (.s a), .c (.s b)] [] [] (Is (.c (.i .i64 (Lib.compareBytes a b)))) :=
  fn_pure ⟨_, Tryz.func91, by kernel_rfl, by kernel_rfl⟩ (Tryz.strings_Compare ⟨⟨a⟩⟩ ⟨⟨b⟩⟩)
theorem compareInt_ok (a b : Int) : FnS Tryz.prog 52 [.c (.i .i64 a), .c (.i .i64 b)] [] [] (Is (.c (.i .i64 (Lib.compareInt a b)))) :=
  fn_pure ⟨_, Tryz.func52, by kernel_rfl, by kernel_rfl⟩ (Tryz.cmp_Compare_int a b)
end Go.Proofs

/- This text turns the kit's contract of slices.SortFunc, at elements of several cells, into the form of the symbolic executor. -/
namespace Go.X
open Go Go.Sort Go.Proofs
theorem flat_at {α : Type} {F : α → List C} {k : Nat} (hF : ∀ x, (F x).length = k) : ∀ {d : List α} {t : Nat} (_ : t < d.length * k), ∃ (h : t / k < d.length) (h2 : t % k < (F (d[t / k]'h)).length), (d.flatMap F)[t]? = some ((F (d[t / k]'h))[t % k]'h2)
  | [], t, h => by simp at h
  | x :: r, t, h => by
    have hk : 0 < k := by rcases Nat.eq_zero_or_pos k with h0 | h0; · subst h0; simp at h
                          · exact h0
    by_cases ht : t < k
    · have h1 : t / k = 0 := Nat.div_eq_of_lt ht
      have h2 : t % k = t := Nat.mod_eq_of_lt ht
      refine ⟨by rw [h1]; simp, by simp only [h1, h2, List.getElem_cons_zero, hF]; exact ht, ?_⟩
      simp only [h1, h2, List.getElem_cons_zero]
      rw [List.flatMap_cons, List.getElem?_append_left (by rw [hF]; exact ht), List.getElem?_eq_getElem (by rw [hF]; exact ht)]
    · obtain ⟨u, rfl⟩ : ∃ u, t = u + k := ⟨t - k, by omega⟩
      have h1 : (u + k) / k = u / k + 1 := Nat.add_div_right u hk
      have h2 : (u + k) % k = u % k := Nat.add_mod_right u k
      have hu : u < r.length * k := by simp only [List.length_cons, Nat.add_mul, Nat.one_mul] at h; omega
      obtain ⟨h3, h4, h5⟩ := flat_at hF (d := r) (t := u) hu
      refine ⟨by rw [h1]; simpa using h3, by simp only [h1, h2, List.getElem_cons_succ]; exact h4, ?_⟩
      simp only [h1, h2, List.getElem_cons_succ]
      rw [List.flatMap_cons, List.getElem?_append_right (by rw [hF]; omega), hF, Nat.add_sub_cancel, h5]
/-- The kit's encoding of an element. -/
abbrev encF {α : Type} (F : α → List C) : α → List Value := fun x => (F x).map C.enc
theorem flatK_list {α : Type} [Inhabited α] {F : α → List C} {k : Nat} (hF : ∀ x, (F x).length = k) (d : List α) : (flatK (encF F) k d.toArray).toList = (d.flatMap F).map C.enc := by
  have hlen : (d.flatMap F).length = d.length * k := flat_len hF d
  apply List.ext_getElem?
  intro t
  by_cases ht : t < d.length * k
  · obtain ⟨h1, h2, h3⟩ := flat_at hF ht
    rw [List.getElem?_map, h3]
    have h4 := get_flatK (encF F) k d.toArray t (by simpa using ht)
    rw [getElem!_pos _ t (by simpa using ht)] at h4
    rw [Array.getElem?_toList, Array.getElem?_eq_getElem (by simpa using ht), h4]
    rw [getElem!_pos d.toArray (t / k) (by simpa using h1)]
    simp only [List.getElem_toArray, Option.map_some]
    rw [getElem!_pos _ (t % k) (by simpa using h2)]
    simp
  · rw [List.getElem?_eq_none (by simp; omega), List.getElem?_eq_none (by rw [List.length_map, hlen]; omega)]
theorem holdsK_of_row {α : Type} [Inhabited α] {F : α → List C} {k : Nat} (hF : ∀ x, (F x).length = k) {w : World} {g ety c : Nat} {d : List α} (h : RowIn w.heap[g]? ety k d.length c (d.flatMap F)) : HoldsK (encF F) k w g 0 d.toArray := by
  obtain ⟨cur, lo, hi, ho, hn, hc, hs, hfr, hl, ht⟩ := h
  intro j hj
  rw [size_flatK] at hj
  have hj' : j < d.length * k := by simpa using hj
  have hcur : j < cur.size := by
    have := Nat.mul_le_mul_right k hn
    omega
  have h1 : cur[j]? = some ((flatK (encF F) k d.toArray)[j]!) := by
    have h2 : (cur.toList.take (d.length * k))[j]? = some (cur[j]'hcur) := by
      rw [List.getElem?_take, if_pos hj', Array.getElem?_toList, Array.getElem?_eq_getElem hcur]
    rw [ht, ← flatK_list hF d, Array.getElem?_toList, Array.getElem?_eq_getElem (by simpa using hj)] at h2
    rw [Array.getElem?_eq_getElem hcur, getElem!_pos _ j (by simpa using hj)]
    exact h2.symm
  refine ⟨?_, ?_⟩
  · simp only [World.cell?, ho, Nat.zero_add]
    rw [h1]; rfl
  · simp only [World.frozen?, ho, Nat.zero_add, Bool.and_eq_false_iff, decide_eq_false_iff_not]
    omega
theorem row_sorted {α : Type} [Inhabited α] {F : α → List C} {k : Nat} (hF : ∀ x, (F x).length = k) {w : World} {g ety c m : Nat} {d d' : List α} {os : Array Obj} (hl : d'.length = d.length) (h : RowIn w.heap[g]? ety k d.length c (d.flatMap F)) (hg : g < w.heap.size) :
    RowIn (sortWorldK (encF F) k w g 0 m d'.toArray os).heap[g]? ety k d'.length c (d'.flatMap F) := by
  obtain ⟨cur, lo, hi, ho, hn, hc, hs, hfr, hcl, ht⟩ := h
  have hsz : g < (putRowK (encF F) k (Sort.ahead w m) g 0 d'.toArray).heap.size := by
    show g < (mapBlock (Sort.ahead w m) g _).heap.size
    simp only [mapBlock, Array.size_modify]
    exact hg
  have hget : (sortWorldK (encF F) k w g 0 m d'.toArray os).heap[g]? = some (.cells (putCells id 0 (flatK (encF F) k d'.toArray) cur) ety (lo, hi)) := by
    unfold sortWorldK
    rw [heap_grow_old _ _ hsz]
    show (mapBlock (Sort.ahead w m) g _).heap[g]? = _
    simp only [mapBlock, Array.getElem?_modify, if_true]
    rw [show (Sort.ahead w m).heap[g]? = w.heap[g]? from rfl, ho]
    rfl
  rw [hget]
  refine ⟨_, lo, hi, rfl, by omega, hc, by simp [putCells, hs], by simpa [putCells] using hfr, by rw [flat_len hF], ?_⟩
  rw [← flatK_list hF d']
  have hle := Nat.mul_le_mul_right k hn
  apply List.ext_getElem?
  intro t
  by_cases h1 : t < d'.length * k
  · rw [List.getElem?_take, if_pos h1, Array.getElem?_toList, Array.getElem?_toList]
    have h2 : t < cur.size := by rw [hl] at h1; omega
    simp only [putCells, Array.getElem?_mapIdx, Array.getElem?_eq_getElem h2, Option.map_some, size_flatK, List.size_toArray, Nat.zero_le, true_and, Nat.zero_add, h1, if_true, Nat.sub_zero, id]
    rw [getElem!_pos _ t (by simpa using h1), Array.getElem?_eq_getElem (by simpa using h1)]
  · rw [List.getElem?_take, if_neg h1, List.getElem?_eq_none (by simp; omega)]
theorem sorted_other {α : Type} [Inhabited α] {enc : α → List Value} {k : Nat} {w : World} {g m b : Nat} {d : Array α} {os : Array Obj} (hb : b < w.heap.size) (hn : b ≠ g) : (sortWorldK enc k w g 0 m d os).heap[b]? = w.heap[b]? := by
  have hsz : b < (putRowK enc k (Sort.ahead w m) g 0 d).heap.size := by
    show b < (mapBlock (Sort.ahead w m) g _).heap.size
    simp only [mapBlock, Array.size_modify]
    exact hb
  unfold sortWorldK
  rw [heap_grow_old _ _ hsz]
  show (mapBlock (Sort.ahead w m) g _).heap[b]? = _
  simp only [mapBlock, Array.getElem?_modify]
  rw [if_neg (fun h => hn h.symm)]
  rfl
theorem perm_whole {α : Type} [Inhabited α] {d d' : Array α} (h : PermIn 0 d.size d d') : d'.toList.Perm d.toList := by
  obtain ⟨h1, _, h3⟩ := h
  rw [show d.size = d'.size from h1.symm] at h3
  rw [Array.extract_size] at h3
  rwa [h1, Array.extract_size] at h3
theorem pair_sorted {α : Type} [Inhabited α] {lt : α → α → Bool} {d : Array α} (h : SortedIn lt 0 d.size d) : d.toList.Pairwise fun x y => lt y x = false := by
  rw [List.pairwise_iff_getElem]
  intro i j hi hj hij
  have := h i j (Nat.zero_le _) hij (by simpa using hj)
  rw [getElem!_pos d j (by simpa using hj), getElem!_pos d i (by simpa using hi)] at this
  simpa using this
/-- slices.SortFunc. -/
theorem fn_sort {P : Program} {α : Type} [Inhabited α] {fS g : FuncId} {ety k : Nat} {F : α → List C} {lt : α → α → Bool} (hF : ∀ x, (F x).length = k) (hF1 : ∀ x, oneAll (F x))
    (hn : FnS P fS [.c (.sl none 0 0), .c (.fn g [])] [] [] (fun v L D => v = .t0 ∧ L = [] ∧ D = []))
    (hsort : ∀ (blk cap : Nat) (d : Array α) (w : World), HoldsK (encF F) k w blk 0 d → blk < w.heap.size → d.size < 4611686018427387904 → Calls P fS #[.slice (some ⟨blk, 0, none⟩) d.size cap, .func (.func g) #[] #[]] w fun e w' => e = .returned (.tuple #[]) ∧ ∃ d' n os, PermIn 0 d.size d d' ∧ SortedIn lt 0 d.size d' ∧ w' = sortWorldK (encF F) k w blk 0 n d' os)
    (a : Option Addr) (c : Nat) (l : List α) (hl : l.length < 4611686018427387904) :
    FnS P fS [.c (.sl a l.length c), .c (.fn g [])] [.row ety k a l.length c (l.flatMap F)] [] (fun v L D => ∃ l' : List α, l'.Perm l ∧ l'.Pairwise (fun x y => lt y x = false) ∧ v = .t0 ∧ L = [.row ety k a l.length c (l'.flatMap F)] ∧ D = []) := by
  refine ⟨hn.en, fun w m hh => ?_⟩
  rcases hh.ok.1.2 with ⟨ha, hn0, hc0, hcs⟩ | ⟨b, ha, hrow⟩
  · subst ha hc0
    have hl0 : l = [] := List.eq_nil_of_length_eq_zero hn0
    subst hl0
    refine (hn.run w m ⟨by simp [fps], trivial, fun b o hb => ⟨(hh.im b o hb).1, by simp [fps]⟩, trivial⟩).mono ?_
    rintro e w' ⟨v, L', D', m', he, ⟨rfl, rfl, rfl⟩, h1, h2⟩
    refine ⟨.t0, _, [], m', he, ⟨[], .refl _, .nil, rfl, rfl, rfl⟩, ⟨by simp [fps, Chunk.fp], ⟨⟨fun x hx => by simp at hx, .inl ⟨rfl, rfl, rfl, rfl⟩⟩, trivial⟩, fun b o hb => ⟨(h1.im b o hb).1, by simp [fps, Chunk.fp]⟩, trivial⟩, ⟨h2.size, fun b hb hx => h2.same b hb (by simp [fps]), fun b hb => by simp [fps, Chunk.fp] at hb, h2.im, fun b o ho => ?_, h2.kept⟩⟩
    rcases h2.new b o ho with h3 | h3 | h3
    · exact .inl h3
    · simp [fps] at h3
    · exact .inr (.inr h3)
  · subst ha
    have hb : b < w.heap.size := mem_fps_lt hh.ok b (by simp [fps, Chunk.fp])
    refine (hsort b c l.toArray w (holdsK_of_row hF hrow) hb (by simpa using hl)).mono ?_
    rintro e w' ⟨he, d', n, os, hp, hs, rfl⟩
    have hlen : d'.toList.length = l.length := by have := hp.1; simpa using this
    have hperm := perm_whole hp
    have hsd : SortedIn lt 0 d'.size d' := by rw [hp.1]; exact hs
    have hrow' := row_sorted hF (m := n) (d' := d'.toList) (os := os) hlen hrow hb
    rw [show d'.toList.toArray = d' from by simp, hlen] at hrow'
    have hsize : w.heap.size ≤ (sortWorldK (encF F) k w b 0 n d' os).heap.size := by
      unfold sortWorldK
      rw [size_grow]
      show w.heap.size ≤ (mapBlock (Sort.ahead w n) b _).heap.size + _
      simp only [mapBlock, Array.size_modify]
      exact Nat.le_add_right _ _
    refine ⟨.t0, _, [], m, by rw [he]; rfl, ⟨d'.toList, by simpa using hperm, pair_sorted hsd, rfl, rfl, rfl⟩, ⟨by simp [fps, Chunk.fp], ⟨⟨fun x hx => ?_, .inr ⟨b, rfl, hrow'⟩⟩, trivial⟩, fun q o hq => ?_, trivial⟩, ⟨hsize, fun q hq hx => ?_, fun q hq => .inl hq, fun _ _ h => h, fun _ _ h => .inl h, ⟨rfl, rfl, hsize, fun e => absurd e (by decide), fun e => absurd e (by decide)⟩⟩⟩
    · obtain ⟨y, _, hy⟩ := List.mem_flatMap.1 hx
      exact hF1 y x hy
    · obtain ⟨h1, h2⟩ := hh.im q o hq
      have hne : q ≠ b := fun h => h2 (by simp [fps, Chunk.fp, h])
      refine ⟨?_, by simpa [fps, Chunk.fp] using h2⟩
      rw [sorted_other (Array.getElem?_eq_some_iff.1 h1).1 hne]; exact h1
    · exact sorted_other hq (fun h => hx (by simp [fps, Chunk.fp, h]))
end Go.X

/- This text holds the layings of the kit's contract of slices.SortFunc at this program (its plain mode). -/
namespace Go.Proofs
open Go.Shelf
def Tryz.sortF_Hit_ren : Go.Shelf.Ren := ⟨fun | 6 => 49 | 15 => 88 | 14 => 89 | 28 => 128 | 29 => 129 | 20 => 130 | 21 => 131 | 22 => 132 | 23 => 133 | 24 => 134 | 25 => 135 | 26 => 136 | 27 => 137 | 46 => 169 | 47 => 164 | 48 => 165 | 49 => 170 | 50 => 171 | 57 => 188 | n => n, fun | 22 => 53 | 24 => 52 | 25 => 111 | 3 => 3 | 39 => 122 | 0 => 0 | 53 => 184 | 55 => 119 | 4 => 4 | 46 => 178 | 45 => 177 | 50 => 106 | 5 => 5 | 9 => 9 | 66 => 218 | 70 => 222 | 76 => 234 | 77 => 173 | n => n, fun | n => n⟩
theorem Tryz.sortF_Hit : Go.Proofs.SlLaysF0.n6 Tryz.prog Tryz.sortF_Hit_ren := {
  mixed := by kernel_rfl
  f6 := ⟨Tryz.f49.name, by decide, Tryz.func49.trans (congrArg some (by kernel_rfl))⟩
  f14 := ⟨Tryz.f89.name, by decide, Tryz.func89.trans (congrArg some (by kernel_rfl))⟩
  f15 := Tryz.func88.trans (congrArg some (by kernel_rfl))
  f20 := ⟨Tryz.f130.name, by decide, Tryz.func130.trans (congrArg some (by kernel_rfl))⟩
  f21 := ⟨Tryz.f131.name, by decide, Tryz.func131.trans (congrArg some (by kernel_rfl))⟩
  f22 := ⟨Tryz.f132.name, by decide, Tryz.func132.trans (congrArg some (by kernel_rfl))⟩
  f23 := ⟨Tryz.f133.name, by decide, Tryz.func133.trans (congrArg some (by kernel_rfl))⟩
  f24 := ⟨Tryz.f134.name, by decide, Tryz.func134.trans (congrArg some (by kernel_rfl))⟩
  f25 := ⟨Tryz.f135.name, by decide, Tryz.func135.trans (congrArg some (by kernel_rfl))⟩
  f26 := ⟨Tryz.f136.name, by decide, Tryz.func136.trans (congrArg some (by kernel_rfl))⟩
  f27 := ⟨Tryz.f137.name, by decide, Tryz.func137.trans (congrArg some (by kernel_rfl))⟩
  f28 := Tryz.func128.trans (congrArg some (by kernel_rfl))
  f29 := Tryz.func129.trans (congrArg some (by kernel_rfl))
  f46 := ⟨Tryz.f169.name, by decide, Tryz.func169.trans (congrArg some (by kernel_rfl))⟩
  f47 := Tryz.func164.trans (congrArg some (by kernel_rfl))
  f48 := Tryz.func165.trans (congrArg some (by kernel_rfl))
  f49 := ⟨Tryz.f170.name, by decide, Tryz.func170.trans (congrArg some (by kernel_rfl))⟩
  f50 := ⟨Tryz.f171.name, by decide, Tryz.func171.trans (congrArg some (by kernel_rfl))⟩
  f57 := ⟨Tryz.f188.name, by decide, Tryz.func188.trans (congrArg some (by kernel_rfl))⟩
  t0 := Tryz.underlying0
  a0 := Tryz.isAgg0
  z0 := Tryz.sizeOf0
  v0 := Tryz.zeroValue0
  t3 := Tryz.underlying3
  a3 := Tryz.isAgg3
  z3 := Tryz.sizeOf3
  v3 := Tryz.zeroValue3
  t4 := Tryz.underlying4
  a4 := Tryz.isAgg4
  z4 := Tryz.sizeOf4
  v4 := Tryz.zeroValue4
  t5 := Tryz.underlying5
  a5 := Tryz.isAgg5
  z5 := Tryz.sizeOf5
  v5 := Tryz.zeroValue5
  t9 := Tryz.underlying9
  a9 := Tryz.isAgg9
  z9 := Tryz.sizeOf9
  v9 := Tryz.zeroValue9
  t22 := Tryz.underlying53
  a22 := Tryz.isAgg53
  z22 := Tryz.sizeOf53
  v22 := Tryz.zeroValue53
  t25 := Tryz.underlying111
  a25 := Tryz.isAgg111
  z25 := Tryz.sizeOf111
  v25 := Tryz.zeroValue111
  t39 := Tryz.underlying122
  a39 := Tryz.isAgg122
  z39 := Tryz.sizeOf122
  v39 := Tryz.zeroValue122
  t45 := Tryz.underlying177
  a45 := Tryz.isAgg177
  z45 := Tryz.sizeOf177
  v45 := Tryz.zeroValue177
  t46 := Tryz.underlying178
  a46 := Tryz.isAgg178
  z46 := Tryz.sizeOf178
  v46 := Tryz.zeroValue178
  t50 := Tryz.underlying106
  a50 := Tryz.isAgg106
  z50 := Tryz.sizeOf106
  v50 := Tryz.zeroValue106
  t53 := Tryz.underlying184
  a53 := Tryz.isAgg184
  z53 := Tryz.sizeOf184
  v53 := Tryz.zeroValue184
  t55 := Tryz.underlying119
  a55 := Tryz.isAgg119
  z55 := Tryz.sizeOf119
  v55 := Tryz.zeroValue119
  t66 := Tryz.underlying218
  a66 := Tryz.isAgg218
  z66 := Tryz.sizeOf218
  v66 := Tryz.zeroValue218
  t70 := Tryz.underlying222
  a70 := Tryz.isAgg222
  z70 := Tryz.sizeOf222
  v70 := Tryz.zeroValue222
  t76 := Tryz.underlying234
  a76 := Tryz.isAgg234
  z76 := Tryz.sizeOf234
  v76 := Tryz.zeroValue234
  t77 := Tryz.underlying173
  a77 := Tryz.isAgg173
  z77 := Tryz.sizeOf173
  v77 := Tryz.zeroValue173 }
def Tryz.sortF_WordRow_ren : Go.Shelf.Ren := ⟨fun | 6 => 92 | 15 => 88 | 14 => 139 | 28 => 128 | 29 => 129 | 20 => 173 | 21 => 174 | 22 => 175 | 23 => 176 | 24 => 177 | 25 => 178 | 26 => 179 | 27 => 180 | 46 => 189 | 47 => 164 | 48 => 165 | 49 => 190 | 50 => 191 | 57 => 195 | n => n, fun | 22 => 22 | 24 => 60 | 25 => 154 | 3 => 3 | 39 => 122 | 0 => 0 | 53 => 184 | 55 => 119 | 4 => 4 | 46 => 178 | 45 => 177 | 50 => 106 | 5 => 5 | 9 => 9 | 66 => 218 | 70 => 222 | 76 => 234 | 77 => 173 | n => n, fun | n => n⟩
theorem Tryz.sortF_WordRow : Go.Proofs.SlLaysF0.n6 Tryz.prog Tryz.sortF_WordRow_ren := {
  mixed := by kernel_rfl
  f6 := ⟨Tryz.f92.name, by decide, Tryz.func92.trans (congrArg some (by kernel_rfl))⟩
  f14 := ⟨Tryz.f139.name, by decide, Tryz.func139.trans (congrArg some (by kernel_rfl))⟩
  f15 := Tryz.func88.trans (congrArg some (by kernel_rfl))
  f20 := ⟨Tryz.f173.name, by decide, Tryz.func173.trans (congrArg some (by kernel_rfl))⟩
  f21 := ⟨Tryz.f174.name, by decide, Tryz.func174.trans (congrArg some (by kernel_rfl))⟩
  f22 := ⟨Tryz.f175.name, by decide, Tryz.func175.trans (congrArg some (by kernel_rfl))⟩
  f23 := ⟨Tryz.f176.name, by decide, Tryz.func176.trans (congrArg some (by kernel_rfl))⟩
  f24 := ⟨Tryz.f177.name, by decide, Tryz.func177.trans (congrArg some (by kernel_rfl))⟩
  f25 := ⟨Tryz.f178.name, by decide, Tryz.func178.trans (congrArg some (by kernel_rfl))⟩
  f26 := ⟨Tryz.f179.name, by decide, Tryz.func179.trans (congrArg some (by kernel_rfl))⟩
  f27 := ⟨Tryz.f180.name, by decide, Tryz.func180.trans (congrArg some (by kernel_rfl))⟩
  f28 := Tryz.func128.trans (congrArg some (by kernel_rfl))
  f29 := Tryz.func129.trans (congrArg some (by kernel_rfl))
  f46 := ⟨Tryz.f189.name, by decide, Tryz.func189.trans (congrArg some (by kernel_rfl))⟩
  f47 := Tryz.func164.trans (congrArg some (by kernel_rfl))
  f48 := Tryz.func165.trans (congrArg some (by kernel_rfl))
  f49 := ⟨Tryz.f190.name, by decide, Tryz.func190.trans (congrArg some (by kernel_rfl))⟩
  f50 := ⟨Tryz.f191.name, by decide, Tryz.func191.trans (congrArg some (by kernel_rfl))⟩
  f57 := ⟨Tryz.f195.name, by decide, Tryz.func195.trans (congrArg some (by kernel_rfl))⟩
  t0 := Tryz.underlying0
  a0 := Tryz.isAgg0
  z0 := Tryz.sizeOf0
  v0 := Tryz.zeroValue0
  t3 := Tryz.underlying3
  a3 := Tryz.isAgg3
  z3 := Tryz.sizeOf3
  v3 := Tryz.zeroValue3
  t4 := Tryz.underlying4
  a4 := Tryz.isAgg4
  z4 := Tryz.sizeOf4
  v4 := Tryz.zeroValue4
  t5 := Tryz.underlying5
  a5 := Tryz.isAgg5
  z5 := Tryz.sizeOf5
  v5 := Tryz.zeroValue5
  t9 := Tryz.underlying9
  a9 := Tryz.isAgg9
  z9 := Tryz.sizeOf9
  v9 := Tryz.zeroValue9
  t22 := Tryz.underlying22
  a22 := Tryz.isAgg22
  z22 := Tryz.sizeOf22
  v22 := Tryz.zeroValue22
  t25 := Tryz.underlying154
  a25 := Tryz.isAgg154
  z25 := Tryz.sizeOf154
  v25 := Tryz.zeroValue154
  t39 := Tryz.underlying122
  a39 := Tryz.isAgg122
  z39 := Tryz.sizeOf122
  v39 := Tryz.zeroValue122
  t45 := Tryz.underlying177
  a45 := Tryz.isAgg177
  z45 := Tryz.sizeOf177
  v45 := Tryz.zeroValue177
  t46 := Tryz.underlying178
  a46 := Tryz.isAgg178
  z46 := Tryz.sizeOf178
  v46 := Tryz.zeroValue178
  t50 := Tryz.underlying106
  a50 := Tryz.isAgg106
  z50 := Tryz.sizeOf106
  v50 := Tryz.zeroValue106
  t53 := Tryz.underlying184
  a53 := Tryz.isAgg184
  z53 := Tryz.sizeOf184
  v53 := Tryz.zeroValue184
  t55 := Tryz.underlying119
  a55 := Tryz.isAgg119
  z55 := Tryz.sizeOf119
  v55 := Tryz.zeroValue119
  t66 := Tryz.underlying218
  a66 := Tryz.isAgg218
  z66 := Tryz.sizeOf218
  v66 := Tryz.zeroValue218
  t70 := Tryz.underlying222
  a70 := Tryz.isAgg222
  z70 := Tryz.sizeOf222
  v70 := Tryz.zeroValue222
  t76 := Tryz.underlying234
  a76 := Tryz.isAgg234
  z76 := Tryz.sizeOf234
  v76 := Tryz.zeroValue234
  t77 := Tryz.underlying173
  a77 := Tryz.isAgg173
  z77 := Tryz.sizeOf173
  v77 := Tryz.zeroValue173 }
end Go.Proofs
