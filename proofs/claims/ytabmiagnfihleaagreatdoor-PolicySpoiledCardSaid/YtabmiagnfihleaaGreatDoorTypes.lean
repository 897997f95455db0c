/- This text holds the table of the program's types that the proofs use, and proves that it agrees with the program. -/
import Derived.Test.YtabmiagnfihleaaGreatDoorDraw
import Derived.Test.YtabmiagnfihleaaGreatDoorProg
set_option linter.all false

namespace Go.Proofs
open Go Go.X
set_option maxRecDepth 100000

def Tryz.tyT : Ty := [
  (2, { d := .int .i64, size := 1, bytes := 8, zero := .c (.i .i64 0) }),
  (3, { d := .int .i64, size := 1, bytes := 8, zero := .c (.i .i64 0) }),
  (4, { d := .bool, size := 1, bytes := 1, zero := .c (.b false) }),
  (5, { d := .int .u8, size := 1, bytes := 1, zero := .c (.i .u8 0) }),
  (9, { d := .str, size := 1, bytes := 16, zero := .c (.s []) }),
  (12, { d := .int .u64, size := 1, bytes := 8, zero := .c (.i .u64 0) }),
  (21, { d := .int .i32, size := 1, bytes := 4, zero := .c (.i .i32 0) }),
  (22, { d := .sl 3, size := 1, bytes := 24, zero := .c (.sl none 0 0) }),
  (23, { d := .sl 35, size := 1, bytes := 24, zero := .c (.sl none 0 0) }),
  (24, { d := .sl 42, size := 1, bytes := 24, zero := .c (.sl none 0 0) }),
  (25, { d := .sl 45, size := 1, bytes := 24, zero := .c (.sl none 0 0) }),
  (26, { d := .st [(0, 23), (1, 24), (2, 25)], size := 3, bytes := 72, zero := .agg [.sl none 0 0, .sl none 0 0, .sl none 0 0] }),
  (27, { d := .st [(0, 23), (1, 24), (2, 25)], size := 3, bytes := 72, zero := .agg [.sl none 0 0, .sl none 0 0, .sl none 0 0] }),
  (28, { d := .ptr 51, size := 1, bytes := 8, zero := .c (.raw (.pointer none)) }),
  (32, { d := .ptr 35, size := 1, bytes := 8, zero := .c (.raw (.pointer none)) }),
  (33, { d := .sl 9, size := 1, bytes := 24, zero := .c (.sl none 0 0) }),
  (34, { d := .st [(0, 9), (1, 33)], size := 2, bytes := 40, zero := .agg [.s [], .sl none 0 0] }),
  (35, { d := .st [(0, 9), (1, 33)], size := 2, bytes := 40, zero := .agg [.s [], .sl none 0 0] }),
  (36, { d := .ptr 42, size := 1, bytes := 8, zero := .c (.raw (.pointer none)) }),
  (37, { d := .st [(0, 3), (1, 9)], size := 2, bytes := 24, zero := .agg [.i .i64 0, .s []] }),
  (38, { d := .st [(0, 3), (1, 9)], size := 2, bytes := 24, zero := .agg [.i .i64 0, .s []] }),
  (39, { d := .st [(0, 3), (1, 38)], size := 3, bytes := 32, zero := .agg [.i .i64 0, .i .i64 0, .s []] }),
  (40, { d := .st [(0, 3), (1, 38)], size := 3, bytes := 32, zero := .agg [.i .i64 0, .i .i64 0, .s []] }),
  (41, { d := .st [(0, 4), (1, 3), (2, 9), (3, 40)], size := 6, bytes := 64, zero := .agg [.b false, .i .i64 0, .s [], .i .i64 0, .i .i64 0, .s []] }),
  (42, { d := .st [(0, 4), (1, 3), (2, 9), (3, 40)], size := 6, bytes := 64, zero := .agg [.b false, .i .i64 0, .s [], .i .i64 0, .i .i64 0, .s []] }),
  (43, { d := .ptr 45, size := 1, bytes := 8, zero := .c (.raw (.pointer none)) }),
  (44, { d := .st [(0, 4), (1, 9), (2, 38), (4, 9)], size := 5, bytes := 64, zero := .agg [.b false, .s [], .i .i64 0, .s [], .s []] }),
  (45, { d := .st [(0, 4), (1, 9), (2, 38), (4, 9)], size := 5, bytes := 64, zero := .agg [.b false, .s [], .i .i64 0, .s [], .s []] }),
  (46, { d := .int .u64, size := 1, bytes := 8, zero := .c (.i .u64 0) }),
  (47, { d := .int .i64, size := 1, bytes := 8, zero := .c (.i .i64 0) }),
  (50, { d := .st [(0, 22), (1, 3)], size := 2, bytes := 32, zero := .agg [.sl none 0 0, .i .i64 0] }),
  (51, { d := .st [(0, 22), (1, 3)], size := 2, bytes := 32, zero := .agg [.sl none 0 0, .i .i64 0] }),
  (68, { d := .ptr 27, size := 1, bytes := 8, zero := .c (.raw (.pointer none)) }),
  (95, { d := .ptr 91, size := 1, bytes := 8, zero := .c (.raw (.pointer none)) }),
  (107, { d := .arr 6 9, size := 6, bytes := 96, zero := .agg [.s [], .s [], .s [], .s [], .s [], .s []] }),
  (117, { d := .sl 119, size := 1, bytes := 24, zero := .c (.sl none 0 0) }),
  (118, { d := .st [(0, 3), (1, 3)], size := 2, bytes := 16, zero := .agg [.i .i64 0, .i .i64 0] }),
  (119, { d := .st [(0, 3), (1, 3)], size := 2, bytes := 16, zero := .agg [.i .i64 0, .i .i64 0] }),
  (121, { d := .sl 5, size := 1, bytes := 24, zero := .c (.sl none 0 0) }),
  (125, { d := .st [(0, 5), (1, 5)], size := 2, bytes := 2, zero := .agg [.i .u8 0, .i .u8 0] }),
  (126, { d := .st [(0, 5), (1, 5)], size := 2, bytes := 2, zero := .agg [.i .u8 0, .i .u8 0] }),
  (127, { d := .arr 16 126, size := 32, bytes := 32, zero := .agg [.i .u8 0, .i .u8 0, .i .u8 0, .i .u8 0, .i .u8 0, .i .u8 0, .i .u8 0, .i .u8 0, .i .u8 0, .i .u8 0, .i .u8 0, .i .u8 0, .i .u8 0, .i .u8 0, .i .u8 0, .i .u8 0, .i .u8 0, .i .u8 0, .i .u8 0, .i .u8 0, .i .u8 0, .i .u8 0, .i .u8 0, .i .u8 0, .i .u8 0, .i .u8 0, .i .u8 0, .i .u8 0, .i .u8 0, .i .u8 0, .i .u8 0, .i .u8 0] }),
  (128, { d := .int .u32, size := 1, bytes := 4, zero := .c (.i .u32 0) }),
  (131, { d := .ptr 133, size := 1, bytes := 8, zero := .c (.raw (.pointer none)) }),
  (132, { d := .st [(0, 131), (1, 121)], size := 2, bytes := 32, zero := .agg [.raw (.pointer none), .sl none 0 0] }),
  (133, { d := .st [(0, 131), (1, 121)], size := 2, bytes := 32, zero := .agg [.raw (.pointer none), .sl none 0 0] }),
  (139, { d := .ptr 5, size := 1, bytes := 8, zero := .c (.raw (.pointer none)) })]

theorem tyok2 : TyI.ok Tryz.prog 2 { d := .int .i64, size := 1, bytes := 8, zero := .c (.i .i64 0) } := ⟨by kernel_rfl, by kernel_rfl, .inr rfl, (by show Program.underlying _ _ = _; kernel_rfl)⟩
theorem tyok3 : TyI.ok Tryz.prog 3 { d := .int .i64, size := 1, bytes := 8, zero := .c (.i .i64 0) } := ⟨by kernel_rfl, by kernel_rfl, .inr rfl, (by show Program.underlying _ _ = _; kernel_rfl)⟩
theorem tyok4 : TyI.ok Tryz.prog 4 { d := .bool, size := 1, bytes := 1, zero := .c (.b false) } := ⟨by kernel_rfl, by kernel_rfl, .inr rfl, (by show Program.underlying _ _ = _; kernel_rfl)⟩
theorem tyok5 : TyI.ok Tryz.prog 5 { d := .int .u8, size := 1, bytes := 1, zero := .c (.i .u8 0) } := ⟨by kernel_rfl, by kernel_rfl, .inr rfl, (by show Program.underlying _ _ = _; kernel_rfl)⟩
theorem tyok9 : TyI.ok Tryz.prog 9 { d := .str, size := 1, bytes := 16, zero := .c (.s []) } := ⟨by kernel_rfl, by kernel_rfl, .inr rfl, (by show Program.underlying _ _ = _; kernel_rfl)⟩
theorem tyok12 : TyI.ok Tryz.prog 12 { d := .int .u64, size := 1, bytes := 8, zero := .c (.i .u64 0) } := ⟨by kernel_rfl, by kernel_rfl, .inr rfl, (by show Program.underlying _ _ = _; kernel_rfl)⟩
theorem tyok21 : TyI.ok Tryz.prog 21 { d := .int .i32, size := 1, bytes := 4, zero := .c (.i .i32 0) } := ⟨by kernel_rfl, by kernel_rfl, .inr rfl, (by show Program.underlying _ _ = _; kernel_rfl)⟩
theorem tyok22 : TyI.ok Tryz.prog 22 { d := .sl 3, size := 1, bytes := 24, zero := .c (.sl none 0 0) } := ⟨by kernel_rfl, by kernel_rfl, .inr rfl, (by show Program.underlying _ _ = _; kernel_rfl)⟩
theorem tyok23 : TyI.ok Tryz.prog 23 { d := .sl 35, size := 1, bytes := 24, zero := .c (.sl none 0 0) } := ⟨by kernel_rfl, by kernel_rfl, .inr rfl, (by show Program.underlying _ _ = _; kernel_rfl)⟩
theorem tyok24 : TyI.ok Tryz.prog 24 { d := .sl 42, size := 1, bytes := 24, zero := .c (.sl none 0 0) } := ⟨by kernel_rfl, by kernel_rfl, .inr rfl, (by show Program.underlying _ _ = _; kernel_rfl)⟩
theorem tyok25 : TyI.ok Tryz.prog 25 { d := .sl 45, size := 1, bytes := 24, zero := .c (.sl none 0 0) } := ⟨by kernel_rfl, by kernel_rfl, .inr rfl, (by show Program.underlying _ _ = _; kernel_rfl)⟩
theorem tyok26 : TyI.ok Tryz.prog 26 { d := .st [(0, 23), (1, 24), (2, 25)], size := 3, bytes := 72, zero := .agg [.sl none 0 0, .sl none 0 0, .sl none 0 0] } := ⟨by kernel_rfl, by kernel_rfl, .inl rfl, ⟨by kernel_rfl, by kernel_rfl, by kernel_rfl, by kernel_rfl, by kernel_rfl⟩⟩
theorem tyok27 : TyI.ok Tryz.prog 27 { d := .st [(0, 23), (1, 24), (2, 25)], size := 3, bytes := 72, zero := .agg [.sl none 0 0, .sl none 0 0, .sl none 0 0] } := ⟨by kernel_rfl, by kernel_rfl, .inl rfl, ⟨by kernel_rfl, by kernel_rfl, by kernel_rfl, by kernel_rfl, by kernel_rfl⟩⟩
theorem tyok28 : TyI.ok Tryz.prog 28 { d := .ptr 51, size := 1, bytes := 8, zero := .c (.raw (.pointer none)) } := ⟨by kernel_rfl, by kernel_rfl, .inr rfl, (by show Program.underlying _ _ = _; kernel_rfl)⟩
theorem tyok32 : TyI.ok Tryz.prog 32 { d := .ptr 35, size := 1, bytes := 8, zero := .c (.raw (.pointer none)) } := ⟨by kernel_rfl, by kernel_rfl, .inr rfl, (by show Program.underlying _ _ = _; kernel_rfl)⟩
theorem tyok33 : TyI.ok Tryz.prog 33 { d := .sl 9, size := 1, bytes := 24, zero := .c (.sl none 0 0) } := ⟨by kernel_rfl, by kernel_rfl, .inr rfl, (by show Program.underlying _ _ = _; kernel_rfl)⟩
theorem tyok34 : TyI.ok Tryz.prog 34 { d := .st [(0, 9), (1, 33)], size := 2, bytes := 40, zero := .agg [.s [], .sl none 0 0] } := ⟨by kernel_rfl, by kernel_rfl, .inl rfl, ⟨by kernel_rfl, by kernel_rfl, by kernel_rfl, by kernel_rfl, by kernel_rfl⟩⟩
theorem tyok35 : TyI.ok Tryz.prog 35 { d := .st [(0, 9), (1, 33)], size := 2, bytes := 40, zero := .agg [.s [], .sl none 0 0] } := ⟨by kernel_rfl, by kernel_rfl, .inl rfl, ⟨by kernel_rfl, by kernel_rfl, by kernel_rfl, by kernel_rfl, by kernel_rfl⟩⟩
theorem tyok36 : TyI.ok Tryz.prog 36 { d := .ptr 42, size := 1, bytes := 8, zero := .c (.raw (.pointer none)) } := ⟨by kernel_rfl, by kernel_rfl, .inr rfl, (by show Program.underlying _ _ = _; kernel_rfl)⟩
theorem tyok37 : TyI.ok Tryz.prog 37 { d := .st [(0, 3), (1, 9)], size := 2, bytes := 24, zero := .agg [.i .i64 0, .s []] } := ⟨by kernel_rfl, by kernel_rfl, .inl rfl, ⟨by kernel_rfl, by kernel_rfl, by kernel_rfl, by kernel_rfl, by kernel_rfl⟩⟩
theorem tyok38 : TyI.ok Tryz.prog 38 { d := .st [(0, 3), (1, 9)], size := 2, bytes := 24, zero := .agg [.i .i64 0, .s []] } := ⟨by kernel_rfl, by kernel_rfl, .inl rfl, ⟨by kernel_rfl, by kernel_rfl, by kernel_rfl, by kernel_rfl, by kernel_rfl⟩⟩
theorem tyok39 : TyI.ok Tryz.prog 39 { d := .st [(0, 3), (1, 38)], size := 3, bytes := 32, zero := .agg [.i .i64 0, .i .i64 0, .s []] } := ⟨by kernel_rfl, by kernel_rfl, .inl rfl, ⟨by kernel_rfl, by kernel_rfl, by kernel_rfl, by kernel_rfl, by kernel_rfl⟩⟩
theorem tyok40 : TyI.ok Tryz.prog 40 { d := .st [(0, 3), (1, 38)], size := 3, bytes := 32, zero := .agg [.i .i64 0, .i .i64 0, .s []] } := ⟨by kernel_rfl, by kernel_rfl, .inl rfl, ⟨by kernel_rfl, by kernel_rfl, by kernel_rfl, by kernel_rfl, by kernel_rfl⟩⟩
theorem tyok41 : TyI.ok Tryz.prog 41 { d := .st [(0, 4), (1, 3), (2, 9), (3, 40)], size := 6, bytes := 64, zero := .agg [.b false, .i .i64 0, .s [], .i .i64 0, .i .i64 0, .s []] } := ⟨by kernel_rfl, by kernel_rfl, .inl rfl, ⟨by kernel_rfl, by kernel_rfl, by kernel_rfl, by kernel_rfl, by kernel_rfl⟩⟩
theorem tyok42 : TyI.ok Tryz.prog 42 { d := .st [(0, 4), (1, 3), (2, 9), (3, 40)], size := 6, bytes := 64, zero := .agg [.b false, .i .i64 0, .s [], .i .i64 0, .i .i64 0, .s []] } := ⟨by kernel_rfl, by kernel_rfl, .inl rfl, ⟨by kernel_rfl, by kernel_rfl, by kernel_rfl, by kernel_rfl, by kernel_rfl⟩⟩
theorem tyok43 : TyI.ok Tryz.prog 43 { d := .ptr 45, size := 1, bytes := 8, zero := .c (.raw (.pointer none)) } := ⟨by kernel_rfl, by kernel_rfl, .inr rfl, (by show Program.underlying _ _ = _; kernel_rfl)⟩
theorem tyok44 : TyI.ok Tryz.prog 44 { d := .st [(0, 4), (1, 9), (2, 38), (4, 9)], size := 5, bytes := 64, zero := .agg [.b false, .s [], .i .i64 0, .s [], .s []] } := ⟨by kernel_rfl, by kernel_rfl, .inl rfl, ⟨by kernel_rfl, by kernel_rfl, by kernel_rfl, by kernel_rfl, by kernel_rfl⟩⟩
theorem tyok45 : TyI.ok Tryz.prog 45 { d := .st [(0, 4), (1, 9), (2, 38), (4, 9)], size := 5, bytes := 64, zero := .agg [.b false, .s [], .i .i64 0, .s [], .s []] } := ⟨by kernel_rfl, by kernel_rfl, .inl rfl, ⟨by kernel_rfl, by kernel_rfl, by kernel_rfl, by kernel_rfl, by kernel_rfl⟩⟩
theorem tyok46 : TyI.ok Tryz.prog 46 { d := .int .u64, size := 1, bytes := 8, zero := .c (.i .u64 0) } := ⟨by kernel_rfl, by kernel_rfl, .inr rfl, (by show Program.underlying _ _ = _; kernel_rfl)⟩
theorem tyok47 : TyI.ok Tryz.prog 47 { d := .int .i64, size := 1, bytes := 8, zero := .c (.i .i64 0) } := ⟨by kernel_rfl, by kernel_rfl, .inr rfl, (by show Program.underlying _ _ = _; kernel_rfl)⟩
theorem tyok50 : TyI.ok Tryz.prog 50 { d := .st [(0, 22), (1, 3)], size := 2, bytes := 32, zero := .agg [.sl none 0 0, .i .i64 0] } := ⟨by kernel_rfl, by kernel_rfl, .inl rfl, ⟨by kernel_rfl, by kernel_rfl, by kernel_rfl, by kernel_rfl, by kernel_rfl⟩⟩
theorem tyok51 : TyI.ok Tryz.prog 51 { d := .st [(0, 22), (1, 3)], size := 2, bytes := 32, zero := .agg [.sl none 0 0, .i .i64 0] } := ⟨by kernel_rfl, by kernel_rfl, .inl rfl, ⟨by kernel_rfl, by kernel_rfl, by kernel_rfl, by kernel_rfl, by kernel_rfl⟩⟩
theorem tyok68 : TyI.ok Tryz.prog 68 { d := .ptr 27, size := 1, bytes := 8, zero := .c (.raw (.pointer none)) } := ⟨by kernel_rfl, by kernel_rfl, .inr rfl, (by show Program.underlying _ _ = _; kernel_rfl)⟩
theorem tyok95 : TyI.ok Tryz.prog 95 { d := .ptr 91, size := 1, bytes := 8, zero := .c (.raw (.pointer none)) } := ⟨by kernel_rfl, by kernel_rfl, .inr rfl, (by show Program.underlying _ _ = _; kernel_rfl)⟩
theorem tyok107 : TyI.ok Tryz.prog 107 { d := .arr 6 9, size := 6, bytes := 96, zero := .agg [.s [], .s [], .s [], .s [], .s [], .s []] } := ⟨by kernel_rfl, by kernel_rfl, .inl rfl, (by show Program.underlying _ _ = _; kernel_rfl)⟩
theorem tyok117 : TyI.ok Tryz.prog 117 { d := .sl 119, size := 1, bytes := 24, zero := .c (.sl none 0 0) } := ⟨by kernel_rfl, by kernel_rfl, .inr rfl, (by show Program.underlying _ _ = _; kernel_rfl)⟩
theorem tyok118 : TyI.ok Tryz.prog 118 { d := .st [(0, 3), (1, 3)], size := 2, bytes := 16, zero := .agg [.i .i64 0, .i .i64 0] } := ⟨by kernel_rfl, by kernel_rfl, .inl rfl, ⟨by kernel_rfl, by kernel_rfl, by kernel_rfl, by kernel_rfl, by kernel_rfl⟩⟩
theorem tyok119 : TyI.ok Tryz.prog 119 { d := .st [(0, 3), (1, 3)], size := 2, bytes := 16, zero := .agg [.i .i64 0, .i .i64 0] } := ⟨by kernel_rfl, by kernel_rfl, .inl rfl, ⟨by kernel_rfl, by kernel_rfl, by kernel_rfl, by kernel_rfl, by kernel_rfl⟩⟩
theorem tyok121 : TyI.ok Tryz.prog 121 { d := .sl 5, size := 1, bytes := 24, zero := .c (.sl none 0 0) } := ⟨by kernel_rfl, by kernel_rfl, .inr rfl, (by show Program.underlying _ _ = _; kernel_rfl)⟩
theorem tyok125 : TyI.ok Tryz.prog 125 { d := .st [(0, 5), (1, 5)], size := 2, bytes := 2, zero := .agg [.i .u8 0, .i .u8 0] } := ⟨by kernel_rfl, by kernel_rfl, .inl rfl, ⟨by kernel_rfl, by kernel_rfl, by kernel_rfl, by kernel_rfl, by kernel_rfl⟩⟩
theorem tyok126 : TyI.ok Tryz.prog 126 { d := .st [(0, 5), (1, 5)], size := 2, bytes := 2, zero := .agg [.i .u8 0, .i .u8 0] } := ⟨by kernel_rfl, by kernel_rfl, .inl rfl, ⟨by kernel_rfl, by kernel_rfl, by kernel_rfl, by kernel_rfl, by kernel_rfl⟩⟩
theorem tyok127 : TyI.ok Tryz.prog 127 { d := .arr 16 126, size := 32, bytes := 32, zero := .agg [.i .u8 0, .i .u8 0, .i .u8 0, .i .u8 0, .i .u8 0, .i .u8 0, .i .u8 0, .i .u8 0, .i .u8 0, .i .u8 0, .i .u8 0, .i .u8 0, .i .u8 0, .i .u8 0, .i .u8 0, .i .u8 0, .i .u8 0, .i .u8 0, .i .u8 0, .i .u8 0, .i .u8 0, .i .u8 0, .i .u8 0, .i .u8 0, .i .u8 0, .i .u8 0, .i .u8 0, .i .u8 0, .i .u8 0, .i .u8 0, .i .u8 0, .i .u8 0] } := ⟨by kernel_rfl, by kernel_rfl, .inl rfl, (by show Program.underlying _ _ = _; kernel_rfl)⟩
theorem tyok128 : TyI.ok Tryz.prog 128 { d := .int .u32, size := 1, bytes := 4, zero := .c (.i .u32 0) } := ⟨by kernel_rfl, by kernel_rfl, .inr rfl, (by show Program.underlying _ _ = _; kernel_rfl)⟩
theorem tyok131 : TyI.ok Tryz.prog 131 { d := .ptr 133, size := 1, bytes := 8, zero := .c (.raw (.pointer none)) } := ⟨by kernel_rfl, by kernel_rfl, .inr rfl, (by show Program.underlying _ _ = _; kernel_rfl)⟩
theorem tyok132 : TyI.ok Tryz.prog 132 { d := .st [(0, 131), (1, 121)], size := 2, bytes := 32, zero := .agg [.raw (.pointer none), .sl none 0 0] } := ⟨by kernel_rfl, by kernel_rfl, .inl rfl, ⟨by kernel_rfl, by kernel_rfl, by kernel_rfl, by kernel_rfl, by kernel_rfl⟩⟩
theorem tyok133 : TyI.ok Tryz.prog 133 { d := .st [(0, 131), (1, 121)], size := 2, bytes := 32, zero := .agg [.raw (.pointer none), .sl none 0 0] } := ⟨by kernel_rfl, by kernel_rfl, .inl rfl, ⟨by kernel_rfl, by kernel_rfl, by kernel_rfl, by kernel_rfl, by kernel_rfl⟩⟩
theorem tyok139 : TyI.ok Tryz.prog 139 { d := .ptr 5, size := 1, bytes := 8, zero := .c (.raw (.pointer none)) } := ⟨by kernel_rfl, by kernel_rfl, .inr rfl, (by show Program.underlying _ _ = _; kernel_rfl)⟩

theorem Tryz.tyOK : TyOK Tryz.prog Tryz.tyT := tyOK_of_all ⟨tyok2, tyok3, tyok4, tyok5, tyok9, tyok12, tyok21, tyok22, tyok23, tyok24, tyok25, tyok26, tyok27, tyok28, tyok32, tyok33, tyok34, tyok35, tyok36, tyok37, tyok38, tyok39, tyok40, tyok41, tyok42, tyok43, tyok44, tyok45, tyok46, tyok47, tyok50, tyok51, tyok68, tyok95, tyok107, tyok117, tyok118, tyok119, tyok121, tyok125, tyok126, tyok127, tyok128, tyok131, tyok132, tyok133, tyok139, trivial⟩

end Go.Proofs
