/- This text holds the table of the program's types that the proofs use, and proves that it agrees with the program. -/
import Derived.Test.YtcgagjbkfgaacaaDoorDraw
import Derived.Test.YtcgagjbkfgaacaaDoorProg
set_option linter.all false

namespace Go.Proofs
open Go Go.X
set_option maxRecDepth 100000

def Tryd.tyT : Ty := [
  (2, { d := .int .i64, size := 1, bytes := 8, zero := .c (.i .i64 0) }),
  (3, { d := .int .i64, size := 1, bytes := 8, zero := .c (.i .i64 0) }),
  (4, { d := .bool, size := 1, bytes := 1, zero := .c (.b false) }),
  (5, { d := .int .u8, size := 1, bytes := 1, zero := .c (.i .u8 0) }),
  (9, { d := .str, size := 1, bytes := 16, zero := .c (.s []) }),
  (12, { d := .int .u64, size := 1, bytes := 8, zero := .c (.i .u64 0) }),
  (21, { d := .int .i32, size := 1, bytes := 4, zero := .c (.i .i32 0) }),
  (24, { d := .sl 53, size := 1, bytes := 24, zero := .c (.sl none 0 0) }),
  (25, { d := .sl 45, size := 1, bytes := 24, zero := .c (.sl none 0 0) }),
  (26, { d := .sl 35, size := 1, bytes := 24, zero := .c (.sl none 0 0) }),
  (27, { d := .st [(0, 24), (1, 25), (2, 26)], size := 3, bytes := 72, zero := .agg [.sl none 0 0, .sl none 0 0, .sl none 0 0] }),
  (28, { d := .st [(0, 24), (1, 25), (2, 26)], size := 3, bytes := 72, zero := .agg [.sl none 0 0, .sl none 0 0, .sl none 0 0] }),
  (29, { d := .int .i64, size := 1, bytes := 8, zero := .c (.i .i64 0) }),
  (32, { d := .st [(0, 3), (1, 9)], size := 2, bytes := 24, zero := .agg [.i .i64 0, .s []] }),
  (33, { d := .st [(0, 3), (1, 9)], size := 2, bytes := 24, zero := .agg [.i .i64 0, .s []] }),
  (34, { d := .st [(0, 4), (1, 9), (2, 33), (4, 9)], size := 5, bytes := 64, zero := .agg [.b false, .s [], .i .i64 0, .s [], .s []] }),
  (35, { d := .st [(0, 4), (1, 9), (2, 33), (4, 9)], size := 5, bytes := 64, zero := .agg [.b false, .s [], .i .i64 0, .s [], .s []] }),
  (37, { d := .sl 9, size := 1, bytes := 24, zero := .c (.sl none 0 0) }),
  (40, { d := .ptr 28, size := 1, bytes := 8, zero := .c (.raw (.pointer none)) }),
  (42, { d := .st [(0, 3), (1, 33)], size := 3, bytes := 32, zero := .agg [.i .i64 0, .i .i64 0, .s []] }),
  (43, { d := .st [(0, 3), (1, 33)], size := 3, bytes := 32, zero := .agg [.i .i64 0, .i .i64 0, .s []] }),
  (44, { d := .st [(0, 4), (1, 3), (2, 9), (3, 43)], size := 6, bytes := 64, zero := .agg [.b false, .i .i64 0, .s [], .i .i64 0, .i .i64 0, .s []] }),
  (45, { d := .st [(0, 4), (1, 3), (2, 9), (3, 43)], size := 6, bytes := 64, zero := .agg [.b false, .i .i64 0, .s [], .i .i64 0, .i .i64 0, .s []] }),
  (52, { d := .st [(0, 9), (1, 37)], size := 2, bytes := 40, zero := .agg [.s [], .sl none 0 0] }),
  (53, { d := .st [(0, 9), (1, 37)], size := 2, bytes := 40, zero := .agg [.s [], .sl none 0 0] }),
  (81, { d := .ptr 77, size := 1, bytes := 8, zero := .c (.raw (.pointer none)) }),
  (89, { d := .sl 91, size := 1, bytes := 24, zero := .c (.sl none 0 0) }),
  (90, { d := .st [(0, 3), (1, 3)], size := 2, bytes := 16, zero := .agg [.i .i64 0, .i .i64 0] }),
  (91, { d := .st [(0, 3), (1, 3)], size := 2, bytes := 16, zero := .agg [.i .i64 0, .i .i64 0] }),
  (94, { d := .sl 5, size := 1, bytes := 24, zero := .c (.sl none 0 0) }),
  (95, { d := .arr 6 9, size := 6, bytes := 96, zero := .agg [.s [], .s [], .s [], .s [], .s [], .s []] }),
  (99, { d := .int .u64, size := 1, bytes := 8, zero := .c (.i .u64 0) }),
  (103, { d := .st [(0, 5), (1, 5)], size := 2, bytes := 2, zero := .agg [.i .u8 0, .i .u8 0] }),
  (104, { d := .st [(0, 5), (1, 5)], size := 2, bytes := 2, zero := .agg [.i .u8 0, .i .u8 0] }),
  (105, { d := .arr 16 104, size := 32, bytes := 32, zero := .agg [.i .u8 0, .i .u8 0, .i .u8 0, .i .u8 0, .i .u8 0, .i .u8 0, .i .u8 0, .i .u8 0, .i .u8 0, .i .u8 0, .i .u8 0, .i .u8 0, .i .u8 0, .i .u8 0, .i .u8 0, .i .u8 0, .i .u8 0, .i .u8 0, .i .u8 0, .i .u8 0, .i .u8 0, .i .u8 0, .i .u8 0, .i .u8 0, .i .u8 0, .i .u8 0, .i .u8 0, .i .u8 0, .i .u8 0, .i .u8 0, .i .u8 0, .i .u8 0] }),
  (106, { d := .int .u32, size := 1, bytes := 4, zero := .c (.i .u32 0) }),
  (109, { d := .ptr 111, size := 1, bytes := 8, zero := .c (.raw (.pointer none)) }),
  (110, { d := .st [(0, 109), (1, 94)], size := 2, bytes := 32, zero := .agg [.raw (.pointer none), .sl none 0 0] }),
  (111, { d := .st [(0, 109), (1, 94)], size := 2, bytes := 32, zero := .agg [.raw (.pointer none), .sl none 0 0] }),
  (118, { d := .ptr 5, size := 1, bytes := 8, zero := .c (.raw (.pointer none)) })]

theorem tyok2 : TyI.ok Tryd.prog 2 { d := .int .i64, size := 1, bytes := 8, zero := .c (.i .i64 0) } := ⟨by kernel_rfl, by kernel_rfl, .inr rfl, (by show Program.underlying _ _ = _; kernel_rfl)⟩
theorem tyok3 : TyI.ok Tryd.prog 3 { d := .int .i64, size := 1, bytes := 8, zero := .c (.i .i64 0) } := ⟨by kernel_rfl, by kernel_rfl, .inr rfl, (by show Program.underlying _ _ = _; kernel_rfl)⟩
theorem tyok4 : TyI.ok Tryd.prog 4 { d := .bool, size := 1, bytes := 1, zero := .c (.b false) } := ⟨by kernel_rfl, by kernel_rfl, .inr rfl, (by show Program.underlying _ _ = _; kernel_rfl)⟩
theorem tyok5 : TyI.ok Tryd.prog 5 { d := .int .u8, size := 1, bytes := 1, zero := .c (.i .u8 0) } := ⟨by kernel_rfl, by kernel_rfl, .inr rfl, (by show Program.underlying _ _ = _; kernel_rfl)⟩
theorem tyok9 : TyI.ok Tryd.prog 9 { d := .str, size := 1, bytes := 16, zero := .c (.s []) } := ⟨by kernel_rfl, by kernel_rfl, .inr rfl, (by show Program.underlying _ _ = _; kernel_rfl)⟩
theorem tyok12 : TyI.ok Tryd.prog 12 { d := .int .u64, size := 1, bytes := 8, zero := .c (.i .u64 0) } := ⟨by kernel_rfl, by kernel_rfl, .inr rfl, (by show Program.underlying _ _ = _; kernel_rfl)⟩
theorem tyok21 : TyI.ok Tryd.prog 21 { d := .int .i32, size := 1, bytes := 4, zero := .c (.i .i32 0) } := ⟨by kernel_rfl, by kernel_rfl, .inr rfl, (by show Program.underlying _ _ = _; kernel_rfl)⟩
theorem tyok24 : TyI.ok Tryd.prog 24 { d := .sl 53, size := 1, bytes := 24, zero := .c (.sl none 0 0) } := ⟨by kernel_rfl, by kernel_rfl, .inr rfl, (by show Program.underlying _ _ = _; kernel_rfl)⟩
theorem tyok25 : TyI.ok Tryd.prog 25 { d := .sl 45, size := 1, bytes := 24, zero := .c (.sl none 0 0) } := ⟨by kernel_rfl, by kernel_rfl, .inr rfl, (by show Program.underlying _ _ = _; kernel_rfl)⟩
theorem tyok26 : TyI.ok Tryd.prog 26 { d := .sl 35, size := 1, bytes := 24, zero := .c (.sl none 0 0) } := ⟨by kernel_rfl, by kernel_rfl, .inr rfl, (by show Program.underlying _ _ = _; kernel_rfl)⟩
theorem tyok27 : TyI.ok Tryd.prog 27 { d := .st [(0, 24), (1, 25), (2, 26)], size := 3, bytes := 72, zero := .agg [.sl none 0 0, .sl none 0 0, .sl none 0 0] } := ⟨by kernel_rfl, by kernel_rfl, .inl rfl, ⟨by kernel_rfl, by kernel_rfl, by kernel_rfl, by kernel_rfl, by kernel_rfl⟩⟩
theorem tyok28 : TyI.ok Tryd.prog 28 { d := .st [(0, 24), (1, 25), (2, 26)], size := 3, bytes := 72, zero := .agg [.sl none 0 0, .sl none 0 0, .sl none 0 0] } := ⟨by kernel_rfl, by kernel_rfl, .inl rfl, ⟨by kernel_rfl, by kernel_rfl, by kernel_rfl, by kernel_rfl, by kernel_rfl⟩⟩
theorem tyok29 : TyI.ok Tryd.prog 29 { d := .int .i64, size := 1, bytes := 8, zero := .c (.i .i64 0) } := ⟨by kernel_rfl, by kernel_rfl, .inr rfl, (by show Program.underlying _ _ = _; kernel_rfl)⟩
theorem tyok32 : TyI.ok Tryd.prog 32 { d := .st [(0, 3), (1, 9)], size := 2, bytes := 24, zero := .agg [.i .i64 0, .s []] } := ⟨by kernel_rfl, by kernel_rfl, .inl rfl, ⟨by kernel_rfl, by kernel_rfl, by kernel_rfl, by kernel_rfl, by kernel_rfl⟩⟩
theorem tyok33 : TyI.ok Tryd.prog 33 { d := .st [(0, 3), (1, 9)], size := 2, bytes := 24, zero := .agg [.i .i64 0, .s []] } := ⟨by kernel_rfl, by kernel_rfl, .inl rfl, ⟨by kernel_rfl, by kernel_rfl, by kernel_rfl, by kernel_rfl, by kernel_rfl⟩⟩
theorem tyok34 : TyI.ok Tryd.prog 34 { d := .st [(0, 4), (1, 9), (2, 33), (4, 9)], size := 5, bytes := 64, zero := .agg [.b false, .s [], .i .i64 0, .s [], .s []] } := ⟨by kernel_rfl, by kernel_rfl, .inl rfl, ⟨by kernel_rfl, by kernel_rfl, by kernel_rfl, by kernel_rfl, by kernel_rfl⟩⟩
theorem tyok35 : TyI.ok Tryd.prog 35 { d := .st [(0, 4), (1, 9), (2, 33), (4, 9)], size := 5, bytes := 64, zero := .agg [.b false, .s [], .i .i64 0, .s [], .s []] } := ⟨by kernel_rfl, by kernel_rfl, .inl rfl, ⟨by kernel_rfl, by kernel_rfl, by kernel_rfl, by kernel_rfl, by kernel_rfl⟩⟩
theorem tyok37 : TyI.ok Tryd.prog 37 { d := .sl 9, size := 1, bytes := 24, zero := .c (.sl none 0 0) } := ⟨by kernel_rfl, by kernel_rfl, .inr rfl, (by show Program.underlying _ _ = _; kernel_rfl)⟩
theorem tyok40 : TyI.ok Tryd.prog 40 { d := .ptr 28, size := 1, bytes := 8, zero := .c (.raw (.pointer none)) } := ⟨by kernel_rfl, by kernel_rfl, .inr rfl, (by show Program.underlying _ _ = _; kernel_rfl)⟩
theorem tyok42 : TyI.ok Tryd.prog 42 { d := .st [(0, 3), (1, 33)], size := 3, bytes := 32, zero := .agg [.i .i64 0, .i .i64 0, .s []] } := ⟨by kernel_rfl, by kernel_rfl, .inl rfl, ⟨by kernel_rfl, by kernel_rfl, by kernel_rfl, by kernel_rfl, by kernel_rfl⟩⟩
theorem tyok43 : TyI.ok Tryd.prog 43 { d := .st [(0, 3), (1, 33)], size := 3, bytes := 32, zero := .agg [.i .i64 0, .i .i64 0, .s []] } := ⟨by kernel_rfl, by kernel_rfl, .inl rfl, ⟨by kernel_rfl, by kernel_rfl, by kernel_rfl, by kernel_rfl, by kernel_rfl⟩⟩
theorem tyok44 : TyI.ok Tryd.prog 44 { d := .st [(0, 4), (1, 3), (2, 9), (3, 43)], size := 6, bytes := 64, zero := .agg [.b false, .i .i64 0, .s [], .i .i64 0, .i .i64 0, .s []] } := ⟨by kernel_rfl, by kernel_rfl, .inl rfl, ⟨by kernel_rfl, by kernel_rfl, by kernel_rfl, by kernel_rfl, by kernel_rfl⟩⟩
theorem tyok45 : TyI.ok Tryd.prog 45 { d := .st [(0, 4), (1, 3), (2, 9), (3, 43)], size := 6, bytes := 64, zero := .agg [.b false, .i .i64 0, .s [], .i .i64 0, .i .i64 0, .s []] } := ⟨by kernel_rfl, by kernel_rfl, .inl rfl, ⟨by kernel_rfl, by kernel_rfl, by kernel_rfl, by kernel_rfl, by kernel_rfl⟩⟩
theorem tyok52 : TyI.ok Tryd.prog 52 { d := .st [(0, 9), (1, 37)], size := 2, bytes := 40, zero := .agg [.s [], .sl none 0 0] } := ⟨by kernel_rfl, by kernel_rfl, .inl rfl, ⟨by kernel_rfl, by kernel_rfl, by kernel_rfl, by kernel_rfl, by kernel_rfl⟩⟩
theorem tyok53 : TyI.ok Tryd.prog 53 { d := .st [(0, 9), (1, 37)], size := 2, bytes := 40, zero := .agg [.s [], .sl none 0 0] } := ⟨by kernel_rfl, by kernel_rfl, .inl rfl, ⟨by kernel_rfl, by kernel_rfl, by kernel_rfl, by kernel_rfl, by kernel_rfl⟩⟩
theorem tyok81 : TyI.ok Tryd.prog 81 { d := .ptr 77, size := 1, bytes := 8, zero := .c (.raw (.pointer none)) } := ⟨by kernel_rfl, by kernel_rfl, .inr rfl, (by show Program.underlying _ _ = _; kernel_rfl)⟩
theorem tyok89 : TyI.ok Tryd.prog 89 { d := .sl 91, size := 1, bytes := 24, zero := .c (.sl none 0 0) } := ⟨by kernel_rfl, by kernel_rfl, .inr rfl, (by show Program.underlying _ _ = _; kernel_rfl)⟩
theorem tyok90 : TyI.ok Tryd.prog 90 { d := .st [(0, 3), (1, 3)], size := 2, bytes := 16, zero := .agg [.i .i64 0, .i .i64 0] } := ⟨by kernel_rfl, by kernel_rfl, .inl rfl, ⟨by kernel_rfl, by kernel_rfl, by kernel_rfl, by kernel_rfl, by kernel_rfl⟩⟩
theorem tyok91 : TyI.ok Tryd.prog 91 { d := .st [(0, 3), (1, 3)], size := 2, bytes := 16, zero := .agg [.i .i64 0, .i .i64 0] } := ⟨by kernel_rfl, by kernel_rfl, .inl rfl, ⟨by kernel_rfl, by kernel_rfl, by kernel_rfl, by kernel_rfl, by kernel_rfl⟩⟩
theorem tyok94 : TyI.ok Tryd.prog 94 { d := .sl 5, size := 1, bytes := 24, zero := .c (.sl none 0 0) } := ⟨by kernel_rfl, by kernel_rfl, .inr rfl, (by show Program.underlying _ _ = _; kernel_rfl)⟩
theorem tyok95 : TyI.ok Tryd.prog 95 { d := .arr 6 9, size := 6, bytes := 96, zero := .agg [.s [], .s [], .s [], .s [], .s [], .s []] } := ⟨by kernel_rfl, by kernel_rfl, .inl rfl, (by show Program.underlying _ _ = _; kernel_rfl)⟩
theorem tyok99 : TyI.ok Tryd.prog 99 { d := .int .u64, size := 1, bytes := 8, zero := .c (.i .u64 0) } := ⟨by kernel_rfl, by kernel_rfl, .inr rfl, (by show Program.underlying _ _ = _; kernel_rfl)⟩
theorem tyok103 : TyI.ok Tryd.prog 103 { d := .st [(0, 5), (1, 5)], size := 2, bytes := 2, zero := .agg [.i .u8 0, .i .u8 0] } := ⟨by kernel_rfl, by kernel_rfl, .inl rfl, ⟨by kernel_rfl, by kernel_rfl, by kernel_rfl, by kernel_rfl, by kernel_rfl⟩⟩
theorem tyok104 : TyI.ok Tryd.prog 104 { d := .st [(0, 5), (1, 5)], size := 2, bytes := 2, zero := .agg [.i .u8 0, .i .u8 0] } := ⟨by kernel_rfl, by kernel_rfl, .inl rfl, ⟨by kernel_rfl, by kernel_rfl, by kernel_rfl, by kernel_rfl, by kernel_rfl⟩⟩
theorem tyok105 : TyI.ok Tryd.prog 105 { d := .arr 16 104, size := 32, bytes := 32, zero := .agg [.i .u8 0, .i .u8 0, .i .u8 0, .i .u8 0, .i .u8 0, .i .u8 0, .i .u8 0, .i .u8 0, .i .u8 0, .i .u8 0, .i .u8 0, .i .u8 0, .i .u8 0, .i .u8 0, .i .u8 0, .i .u8 0, .i .u8 0, .i .u8 0, .i .u8 0, .i .u8 0, .i .u8 0, .i .u8 0, .i .u8 0, .i .u8 0, .i .u8 0, .i .u8 0, .i .u8 0, .i .u8 0, .i .u8 0, .i .u8 0, .i .u8 0, .i .u8 0] } := ⟨by kernel_rfl, by kernel_rfl, .inl rfl, (by show Program.underlying _ _ = _; kernel_rfl)⟩
theorem tyok106 : TyI.ok Tryd.prog 106 { d := .int .u32, size := 1, bytes := 4, zero := .c (.i .u32 0) } := ⟨by kernel_rfl, by kernel_rfl, .inr rfl, (by show Program.underlying _ _ = _; kernel_rfl)⟩
theorem tyok109 : TyI.ok Tryd.prog 109 { d := .ptr 111, size := 1, bytes := 8, zero := .c (.raw (.pointer none)) } := ⟨by kernel_rfl, by kernel_rfl, .inr rfl, (by show Program.underlying _ _ = _; kernel_rfl)⟩
theorem tyok110 : TyI.ok Tryd.prog 110 { d := .st [(0, 109), (1, 94)], size := 2, bytes := 32, zero := .agg [.raw (.pointer none), .sl none 0 0] } := ⟨by kernel_rfl, by kernel_rfl, .inl rfl, ⟨by kernel_rfl, by kernel_rfl, by kernel_rfl, by kernel_rfl, by kernel_rfl⟩⟩
theorem tyok111 : TyI.ok Tryd.prog 111 { d := .st [(0, 109), (1, 94)], size := 2, bytes := 32, zero := .agg [.raw (.pointer none), .sl none 0 0] } := ⟨by kernel_rfl, by kernel_rfl, .inl rfl, ⟨by kernel_rfl, by kernel_rfl, by kernel_rfl, by kernel_rfl, by kernel_rfl⟩⟩
theorem tyok118 : TyI.ok Tryd.prog 118 { d := .ptr 5, size := 1, bytes := 8, zero := .c (.raw (.pointer none)) } := ⟨by kernel_rfl, by kernel_rfl, .inr rfl, (by show Program.underlying _ _ = _; kernel_rfl)⟩

theorem Tryd.tyOK : TyOK Tryd.prog Tryd.tyT := tyOK_of_all ⟨tyok2, tyok3, tyok4, tyok5, tyok9, tyok12, tyok21, tyok24, tyok25, tyok26, tyok27, tyok28, tyok29, tyok32, tyok33, tyok34, tyok35, tyok37, tyok40, tyok42, tyok43, tyok44, tyok45, tyok52, tyok53, tyok81, tyok89, tyok90, tyok91, tyok94, tyok95, tyok99, tyok103, tyok104, tyok105, tyok106, tyok109, tyok110, tyok111, tyok118, trivial⟩

end Go.Proofs
