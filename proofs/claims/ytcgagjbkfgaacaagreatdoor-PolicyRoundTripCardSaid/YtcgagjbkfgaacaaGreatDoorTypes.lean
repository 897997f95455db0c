/- This text holds the table of the program's types that the proofs use, and proves that it agrees with the program. -/
import Derived.Test.YtcgagjbkfgaacaaGreatDoorDraw
import Derived.Test.YtcgagjbkfgaacaaGreatDoorProg
set_option linter.all false

namespace Go.Proofs
open Go Go.X
set_option maxRecDepth 100000

def Tryz.tyT : Ty := [
  (2, { d := .int .i64, size := 1, bytes := 8, zero := .c (.i .i64 0) }),
  (3, { d := .int .i64, size := 1, bytes := 8, zero := .c (.i .i64 0) }),
  (4, { d := .bool, size := 1, bytes := 1, zero := .c (.b false) }),
  (5, { d := .int .u8, size := 1, bytes := 1, zero := .c (.i .u8 0) }),
  (9, { d := .str, size := 1, bytes := 16, zero := .c (.s []) }),
  (12, { d := .int .u64, size := 1, bytes := 8, zero := .c (.i .u64 0) }),
  (21, { d := .int .i32, size := 1, bytes := 4, zero := .c (.i .i32 0) }),
  (23, { d := .sl 43, size := 1, bytes := 24, zero := .c (.sl none 0 0) }),
  (24, { d := .sl 50, size := 1, bytes := 24, zero := .c (.sl none 0 0) }),
  (25, { d := .sl 53, size := 1, bytes := 24, zero := .c (.sl none 0 0) }),
  (26, { d := .st [(0, 23), (1, 24), (2, 25)], size := 3, bytes := 72, zero := .agg [.sl none 0 0, .sl none 0 0, .sl none 0 0] }),
  (27, { d := .st [(0, 23), (1, 24), (2, 25)], size := 3, bytes := 72, zero := .agg [.sl none 0 0, .sl none 0 0, .sl none 0 0] }),
  (28, { d := .int .i64, size := 1, bytes := 8, zero := .c (.i .i64 0) }),
  (33, { d := .sl 3, size := 1, bytes := 24, zero := .c (.sl none 0 0) }),
  (34, { d := .ptr 67, size := 1, bytes := 8, zero := .c (.raw (.pointer none)) }),
  (38, { d := .sl 9, size := 1, bytes := 24, zero := .c (.sl none 0 0) }),
  (41, { d := .ptr 43, size := 1, bytes := 8, zero := .c (.raw (.pointer none)) }),
  (42, { d := .st [(0, 9), (1, 38)], size := 2, bytes := 40, zero := .agg [.s [], .sl none 0 0] }),
  (43, { d := .st [(0, 9), (1, 38)], size := 2, bytes := 40, zero := .agg [.s [], .sl none 0 0] }),
  (44, { d := .ptr 50, size := 1, bytes := 8, zero := .c (.raw (.pointer none)) }),
  (45, { d := .st [(0, 3), (1, 9)], size := 2, bytes := 24, zero := .agg [.i .i64 0, .s []] }),
  (46, { d := .st [(0, 3), (1, 9)], size := 2, bytes := 24, zero := .agg [.i .i64 0, .s []] }),
  (47, { d := .st [(0, 3), (1, 46)], size := 3, bytes := 32, zero := .agg [.i .i64 0, .i .i64 0, .s []] }),
  (48, { d := .st [(0, 3), (1, 46)], size := 3, bytes := 32, zero := .agg [.i .i64 0, .i .i64 0, .s []] }),
  (49, { d := .st [(0, 4), (1, 3), (2, 9), (3, 48)], size := 6, bytes := 64, zero := .agg [.b false, .i .i64 0, .s [], .i .i64 0, .i .i64 0, .s []] }),
  (50, { d := .st [(0, 4), (1, 3), (2, 9), (3, 48)], size := 6, bytes := 64, zero := .agg [.b false, .i .i64 0, .s [], .i .i64 0, .i .i64 0, .s []] }),
  (51, { d := .ptr 53, size := 1, bytes := 8, zero := .c (.raw (.pointer none)) }),
  (52, { d := .st [(0, 4), (1, 9), (2, 46), (4, 9)], size := 5, bytes := 64, zero := .agg [.b false, .s [], .i .i64 0, .s [], .s []] }),
  (53, { d := .st [(0, 4), (1, 9), (2, 46), (4, 9)], size := 5, bytes := 64, zero := .agg [.b false, .s [], .i .i64 0, .s [], .s []] }),
  (54, { d := .int .u64, size := 1, bytes := 8, zero := .c (.i .u64 0) }),
  (62, { d := .ptr 27, size := 1, bytes := 8, zero := .c (.raw (.pointer none)) }),
  (66, { d := .st [(0, 33), (1, 3)], size := 2, bytes := 32, zero := .agg [.sl none 0 0, .i .i64 0] }),
  (67, { d := .st [(0, 33), (1, 3)], size := 2, bytes := 32, zero := .agg [.sl none 0 0, .i .i64 0] }),
  (77, { d := .ptr 80, size := 1, bytes := 8, zero := .c (.raw (.pointer none)) }),
  (78, { d := .sl 5, size := 1, bytes := 24, zero := .c (.sl none 0 0) }),
  (79, { d := .st [(0, 77), (1, 78)], size := 2, bytes := 32, zero := .agg [.raw (.pointer none), .sl none 0 0] }),
  (80, { d := .st [(0, 77), (1, 78)], size := 2, bytes := 32, zero := .agg [.raw (.pointer none), .sl none 0 0] }),
  (111, { d := .arr 6 9, size := 6, bytes := 96, zero := .agg [.s [], .s [], .s [], .s [], .s [], .s []] }),
  (113, { d := .ptr 5, size := 1, bytes := 8, zero := .c (.raw (.pointer none)) }),
  (132, { d := .ptr 128, size := 1, bytes := 8, zero := .c (.raw (.pointer none)) }),
  (141, { d := .sl 143, size := 1, bytes := 24, zero := .c (.sl none 0 0) }),
  (142, { d := .st [(0, 3), (1, 3)], size := 2, bytes := 16, zero := .agg [.i .i64 0, .i .i64 0] }),
  (143, { d := .st [(0, 3), (1, 3)], size := 2, bytes := 16, zero := .agg [.i .i64 0, .i .i64 0] }),
  (150, { d := .st [(0, 5), (1, 5)], size := 2, bytes := 2, zero := .agg [.i .u8 0, .i .u8 0] }),
  (151, { d := .st [(0, 5), (1, 5)], size := 2, bytes := 2, zero := .agg [.i .u8 0, .i .u8 0] }),
  (152, { d := .arr 16 151, size := 32, bytes := 32, zero := .agg [.i .u8 0, .i .u8 0, .i .u8 0, .i .u8 0, .i .u8 0, .i .u8 0, .i .u8 0, .i .u8 0, .i .u8 0, .i .u8 0, .i .u8 0, .i .u8 0, .i .u8 0, .i .u8 0, .i .u8 0, .i .u8 0, .i .u8 0, .i .u8 0, .i .u8 0, .i .u8 0, .i .u8 0, .i .u8 0, .i .u8 0, .i .u8 0, .i .u8 0, .i .u8 0, .i .u8 0, .i .u8 0, .i .u8 0, .i .u8 0, .i .u8 0, .i .u8 0] }),
  (153, { d := .int .u32, size := 1, bytes := 4, zero := .c (.i .u32 0) })]

theorem tyok2 : TyI.ok Tryz.prog 2 { d := .int .i64, size := 1, bytes := 8, zero := .c (.i .i64 0) } := ⟨by kernel_rfl, by kernel_rfl, .inr rfl, (by show Program.underlying _ _ = _; kernel_rfl)⟩
theorem tyok3 : TyI.ok Tryz.prog 3 { d := .int .i64, size := 1, bytes := 8, zero := .c (.i .i64 0) } := ⟨by kernel_rfl, by kernel_rfl, .inr rfl, (by show Program.underlying _ _ = _; kernel_rfl)⟩
theorem tyok4 : TyI.ok Tryz.prog 4 { d := .bool, size := 1, bytes := 1, zero := .c (.b false) } := ⟨by kernel_rfl, by kernel_rfl, .inr rfl, (by show Program.underlying _ _ = _; kernel_rfl)⟩
theorem tyok5 : TyI.ok Tryz.prog 5 { d := .int .u8, size := 1, bytes := 1, zero := .c (.i .u8 0) } := ⟨by kernel_rfl, by kernel_rfl, .inr rfl, (by show Program.underlying _ _ = _; kernel_rfl)⟩
theorem tyok9 : TyI.ok Tryz.prog 9 { d := .str, size := 1, bytes := 16, zero := .c (.s []) } := ⟨by kernel_rfl, by kernel_rfl, .inr rfl, (by show Program.underlying _ _ = _; kernel_rfl)⟩
theorem tyok12 : TyI.ok Tryz.prog 12 { d := .int .u64, size := 1, bytes := 8, zero := .c (.i .u64 0) } := ⟨by kernel_rfl, by kernel_rfl, .inr rfl, (by show Program.underlying _ _ = _; kernel_rfl)⟩
theorem tyok21 : TyI.ok Tryz.prog 21 { d := .int .i32, size := 1, bytes := 4, zero := .c (.i .i32 0) } := ⟨by kernel_rfl, by kernel_rfl, .inr rfl, (by show Program.underlying _ _ = _; kernel_rfl)⟩
theorem tyok23 : TyI.ok Tryz.prog 23 { d := .sl 43, size := 1, bytes := 24, zero := .c (.sl none 0 0) } := ⟨by kernel_rfl, by kernel_rfl, .inr rfl, (by show Program.underlying _ _ = _; kernel_rfl)⟩
theorem tyok24 : TyI.ok Tryz.prog 24 { d := .sl 50, size := 1, bytes := 24, zero := .c (.sl none 0 0) } := ⟨by kernel_rfl, by kernel_rfl, .inr rfl, (by show Program.underlying _ _ = _; kernel_rfl)⟩
theorem tyok25 : TyI.ok Tryz.prog 25 { d := .sl 53, size := 1, bytes := 24, zero := .c (.sl none 0 0) } := ⟨by kernel_rfl, by kernel_rfl, .inr rfl, (by show Program.underlying _ _ = _; kernel_rfl)⟩
theorem tyok26 : TyI.ok Tryz.prog 26 { d := .st [(0, 23), (1, 24), (2, 25)], size := 3, bytes := 72, zero := .agg [.sl none 0 0, .sl none 0 0, .sl none 0 0] } := ⟨by kernel_rfl, by kernel_rfl, .inl rfl, ⟨by kernel_rfl, by kernel_rfl, by kernel_rfl, by kernel_rfl, by kernel_rfl⟩⟩
theorem tyok27 : TyI.ok Tryz.prog 27 { d := .st [(0, 23), (1, 24), (2, 25)], size := 3, bytes := 72, zero := .agg [.sl none 0 0, .sl none 0 0, .sl none 0 0] } := ⟨by kernel_rfl, by kernel_rfl, .inl rfl, ⟨by kernel_rfl, by kernel_rfl, by kernel_rfl, by kernel_rfl, by kernel_rfl⟩⟩
theorem tyok28 : TyI.ok Tryz.prog 28 { d := .int .i64, size := 1, bytes := 8, zero := .c (.i .i64 0) } := ⟨by kernel_rfl, by kernel_rfl, .inr rfl, (by show Program.underlying _ _ = _; kernel_rfl)⟩
theorem tyok33 : TyI.ok Tryz.prog 33 { d := .sl 3, size := 1, bytes := 24, zero := .c (.sl none 0 0) } := ⟨by kernel_rfl, by kernel_rfl, .inr rfl, (by show Program.underlying _ _ = _; kernel_rfl)⟩
theorem tyok34 : TyI.ok Tryz.prog 34 { d := .ptr 67, size := 1, bytes := 8, zero := .c (.raw (.pointer none)) } := ⟨by kernel_rfl, by kernel_rfl, .inr rfl, (by show Program.underlying _ _ = _; kernel_rfl)⟩
theorem tyok38 : TyI.ok Tryz.prog 38 { d := .sl 9, size := 1, bytes := 24, zero := .c (.sl none 0 0) } := ⟨by kernel_rfl, by kernel_rfl, .inr rfl, (by show Program.underlying _ _ = _; kernel_rfl)⟩
theorem tyok41 : TyI.ok Tryz.prog 41 { d := .ptr 43, size := 1, bytes := 8, zero := .c (.raw (.pointer none)) } := ⟨by kernel_rfl, by kernel_rfl, .inr rfl, (by show Program.underlying _ _ = _; kernel_rfl)⟩
theorem tyok42 : TyI.ok Tryz.prog 42 { d := .st [(0, 9), (1, 38)], size := 2, bytes := 40, zero := .agg [.s [], .sl none 0 0] } := ⟨by kernel_rfl, by kernel_rfl, .inl rfl, ⟨by kernel_rfl, by kernel_rfl, by kernel_rfl, by kernel_rfl, by kernel_rfl⟩⟩
theorem tyok43 : TyI.ok Tryz.prog 43 { d := .st [(0, 9), (1, 38)], size := 2, bytes := 40, zero := .agg [.s [], .sl none 0 0] } := ⟨by kernel_rfl, by kernel_rfl, .inl rfl, ⟨by kernel_rfl, by kernel_rfl, by kernel_rfl, by kernel_rfl, by kernel_rfl⟩⟩
theorem tyok44 : TyI.ok Tryz.prog 44 { d := .ptr 50, size := 1, bytes := 8, zero := .c (.raw (.pointer none)) } := ⟨by kernel_rfl, by kernel_rfl, .inr rfl, (by show Program.underlying _ _ = _; kernel_rfl)⟩
theorem tyok45 : TyI.ok Tryz.prog 45 { d := .st [(0, 3), (1, 9)], size := 2, bytes := 24, zero := .agg [.i .i64 0, .s []] } := ⟨by kernel_rfl, by kernel_rfl, .inl rfl, ⟨by kernel_rfl, by kernel_rfl, by kernel_rfl, by kernel_rfl, by kernel_rfl⟩⟩
theorem tyok46 : TyI.ok Tryz.prog 46 { d := .st [(0, 3), (1, 9)], size := 2, bytes := 24, zero := .agg [.i .i64 0, .s []] } := ⟨by kernel_rfl, by kernel_rfl, .inl rfl, ⟨by kernel_rfl, by kernel_rfl, by kernel_rfl, by kernel_rfl, by kernel_rfl⟩⟩
theorem tyok47 : TyI.ok Tryz.prog 47 { d := .st [(0, 3), (1, 46)], size := 3, bytes := 32, zero := .agg [.i .i64 0, .i .i64 0, .s []] } := ⟨by kernel_rfl, by kernel_rfl, .inl rfl, ⟨by kernel_rfl, by kernel_rfl, by kernel_rfl, by kernel_rfl, by kernel_rfl⟩⟩
theorem tyok48 : TyI.ok Tryz.prog 48 { d := .st [(0, 3), (1, 46)], size := 3, bytes := 32, zero := .agg [.i .i64 0, .i .i64 0, .s []] } := ⟨by kernel_rfl, by kernel_rfl, .inl rfl, ⟨by kernel_rfl, by kernel_rfl, by kernel_rfl, by kernel_rfl, by kernel_rfl⟩⟩
theorem tyok49 : TyI.ok Tryz.prog 49 { d := .st [(0, 4), (1, 3), (2, 9), (3, 48)], size := 6, bytes := 64, zero := .agg [.b false, .i .i64 0, .s [], .i .i64 0, .i .i64 0, .s []] } := ⟨by kernel_rfl, by kernel_rfl, .inl rfl, ⟨by kernel_rfl, by kernel_rfl, by kernel_rfl, by kernel_rfl, by kernel_rfl⟩⟩
theorem tyok50 : TyI.ok Tryz.prog 50 { d := .st [(0, 4), (1, 3), (2, 9), (3, 48)], size := 6, bytes := 64, zero := .agg [.b false, .i .i64 0, .s [], .i .i64 0, .i .i64 0, .s []] } := ⟨by kernel_rfl, by kernel_rfl, .inl rfl, ⟨by kernel_rfl, by kernel_rfl, by kernel_rfl, by kernel_rfl, by kernel_rfl⟩⟩
theorem tyok51 : TyI.ok Tryz.prog 51 { d := .ptr 53, size := 1, bytes := 8, zero := .c (.raw (.pointer none)) } := ⟨by kernel_rfl, by kernel_rfl, .inr rfl, (by show Program.underlying _ _ = _; kernel_rfl)⟩
theorem tyok52 : TyI.ok Tryz.prog 52 { d := .st [(0, 4), (1, 9), (2, 46), (4, 9)], size := 5, bytes := 64, zero := .agg [.b false, .s [], .i .i64 0, .s [], .s []] } := ⟨by kernel_rfl, by kernel_rfl, .inl rfl, ⟨by kernel_rfl, by kernel_rfl, by kernel_rfl, by kernel_rfl, by kernel_rfl⟩⟩
theorem tyok53 : TyI.ok Tryz.prog 53 { d := .st [(0, 4), (1, 9), (2, 46), (4, 9)], size := 5, bytes := 64, zero := .agg [.b false, .s [], .i .i64 0, .s [], .s []] } := ⟨by kernel_rfl, by kernel_rfl, .inl rfl, ⟨by kernel_rfl, by kernel_rfl, by kernel_rfl, by kernel_rfl, by kernel_rfl⟩⟩
theorem tyok54 : TyI.ok Tryz.prog 54 { d := .int .u64, size := 1, bytes := 8, zero := .c (.i .u64 0) } := ⟨by kernel_rfl, by kernel_rfl, .inr rfl, (by show Program.underlying _ _ = _; kernel_rfl)⟩
theorem tyok62 : TyI.ok Tryz.prog 62 { d := .ptr 27, size := 1, bytes := 8, zero := .c (.raw (.pointer none)) } := ⟨by kernel_rfl, by kernel_rfl, .inr rfl, (by show Program.underlying _ _ = _; kernel_rfl)⟩
theorem tyok66 : TyI.ok Tryz.prog 66 { d := .st [(0, 33), (1, 3)], size := 2, bytes := 32, zero := .agg [.sl none 0 0, .i .i64 0] } := ⟨by kernel_rfl, by kernel_rfl, .inl rfl, ⟨by kernel_rfl, by kernel_rfl, by kernel_rfl, by kernel_rfl, by kernel_rfl⟩⟩
theorem tyok67 : TyI.ok Tryz.prog 67 { d := .st [(0, 33), (1, 3)], size := 2, bytes := 32, zero := .agg [.sl none 0 0, .i .i64 0] } := ⟨by kernel_rfl, by kernel_rfl, .inl rfl, ⟨by kernel_rfl, by kernel_rfl, by kernel_rfl, by kernel_rfl, by kernel_rfl⟩⟩
theorem tyok77 : TyI.ok Tryz.prog 77 { d := .ptr 80, size := 1, bytes := 8, zero := .c (.raw (.pointer none)) } := ⟨by kernel_rfl, by kernel_rfl, .inr rfl, (by show Program.underlying _ _ = _; kernel_rfl)⟩
theorem tyok78 : TyI.ok Tryz.prog 78 { d := .sl 5, size := 1, bytes := 24, zero := .c (.sl none 0 0) } := ⟨by kernel_rfl, by kernel_rfl, .inr rfl, (by show Program.underlying _ _ = _; kernel_rfl)⟩
theorem tyok79 : TyI.ok Tryz.prog 79 { d := .st [(0, 77), (1, 78)], size := 2, bytes := 32, zero := .agg [.raw (.pointer none), .sl none 0 0] } := ⟨by kernel_rfl, by kernel_rfl, .inl rfl, ⟨by kernel_rfl, by kernel_rfl, by kernel_rfl, by kernel_rfl, by kernel_rfl⟩⟩
theorem tyok80 : TyI.ok Tryz.prog 80 { d := .st [(0, 77), (1, 78)], size := 2, bytes := 32, zero := .agg [.raw (.pointer none), .sl none 0 0] } := ⟨by kernel_rfl, by kernel_rfl, .inl rfl, ⟨by kernel_rfl, by kernel_rfl, by kernel_rfl, by kernel_rfl, by kernel_rfl⟩⟩
theorem tyok111 : TyI.ok Tryz.prog 111 { d := .arr 6 9, size := 6, bytes := 96, zero := .agg [.s [], .s [], .s [], .s [], .s [], .s []] } := ⟨by kernel_rfl, by kernel_rfl, .inl rfl, (by show Program.underlying _ _ = _; kernel_rfl)⟩
theorem tyok113 : TyI.ok Tryz.prog 113 { d := .ptr 5, size := 1, bytes := 8, zero := .c (.raw (.pointer none)) } := ⟨by kernel_rfl, by kernel_rfl, .inr rfl, (by show Program.underlying _ _ = _; kernel_rfl)⟩
theorem tyok132 : TyI.ok Tryz.prog 132 { d := .ptr 128, size := 1, bytes := 8, zero := .c (.raw (.pointer none)) } := ⟨by kernel_rfl, by kernel_rfl, .inr rfl, (by show Program.underlying _ _ = _; kernel_rfl)⟩
theorem tyok141 : TyI.ok Tryz.prog 141 { d := .sl 143, size := 1, bytes := 24, zero := .c (.sl none 0 0) } := ⟨by kernel_rfl, by kernel_rfl, .inr rfl, (by show Program.underlying _ _ = _; kernel_rfl)⟩
theorem tyok142 : TyI.ok Tryz.prog 142 { d := .st [(0, 3), (1, 3)], size := 2, bytes := 16, zero := .agg [.i .i64 0, .i .i64 0] } := ⟨by kernel_rfl, by kernel_rfl, .inl rfl, ⟨by kernel_rfl, by kernel_rfl, by kernel_rfl, by kernel_rfl, by kernel_rfl⟩⟩
theorem tyok143 : TyI.ok Tryz.prog 143 { d := .st [(0, 3), (1, 3)], size := 2, bytes := 16, zero := .agg [.i .i64 0, .i .i64 0] } := ⟨by kernel_rfl, by kernel_rfl, .inl rfl, ⟨by kernel_rfl, by kernel_rfl, by kernel_rfl, by kernel_rfl, by kernel_rfl⟩⟩
theorem tyok150 : TyI.ok Tryz.prog 150 { d := .st [(0, 5), (1, 5)], size := 2, bytes := 2, zero := .agg [.i .u8 0, .i .u8 0] } := ⟨by kernel_rfl, by kernel_rfl, .inl rfl, ⟨by kernel_rfl, by kernel_rfl, by kernel_rfl, by kernel_rfl, by kernel_rfl⟩⟩
theorem tyok151 : TyI.ok Tryz.prog 151 { d := .st [(0, 5), (1, 5)], size := 2, bytes := 2, zero := .agg [.i .u8 0, .i .u8 0] } := ⟨by kernel_rfl, by kernel_rfl, .inl rfl, ⟨by kernel_rfl, by kernel_rfl, by kernel_rfl, by kernel_rfl, by kernel_rfl⟩⟩
theorem tyok152 : TyI.ok Tryz.prog 152 { d := .arr 16 151, size := 32, bytes := 32, zero := .agg [.i .u8 0, .i .u8 0, .i .u8 0, .i .u8 0, .i .u8 0, .i .u8 0, .i .u8 0, .i .u8 0, .i .u8 0, .i .u8 0, .i .u8 0, .i .u8 0, .i .u8 0, .i .u8 0, .i .u8 0, .i .u8 0, .i .u8 0, .i .u8 0, .i .u8 0, .i .u8 0, .i .u8 0, .i .u8 0, .i .u8 0, .i .u8 0, .i .u8 0, .i .u8 0, .i .u8 0, .i .u8 0, .i .u8 0, .i .u8 0, .i .u8 0, .i .u8 0] } := ⟨by kernel_rfl, by kernel_rfl, .inl rfl, (by show Program.underlying _ _ = _; kernel_rfl)⟩
theorem tyok153 : TyI.ok Tryz.prog 153 { d := .int .u32, size := 1, bytes := 4, zero := .c (.i .u32 0) } := ⟨by kernel_rfl, by kernel_rfl, .inr rfl, (by show Program.underlying _ _ = _; kernel_rfl)⟩

theorem Tryz.tyOK : TyOK Tryz.prog Tryz.tyT := tyOK_of_all ⟨tyok2, tyok3, tyok4, tyok5, tyok9, tyok12, tyok21, tyok23, tyok24, tyok25, tyok26, tyok27, tyok28, tyok33, tyok34, tyok38, tyok41, tyok42, tyok43, tyok44, tyok45, tyok46, tyok47, tyok48, tyok49, tyok50, tyok51, tyok52, tyok53, tyok54, tyok62, tyok66, tyok67, tyok77, tyok78, tyok79, tyok80, tyok111, tyok113, tyok132, tyok141, tyok142, tyok143, tyok150, tyok151, tyok152, tyok153, trivial⟩

end Go.Proofs
