/- This text holds the table of the program's types that the proofs use, and proves that it agrees with the program. -/
import Derived.Test.YtcnbkappedemeaaYDraw
import Derived.Test.YtcnbkappedemeaaProg
set_option linter.all false

namespace Go.Y
open Go Go.Proofs
set_option maxRecDepth 100000

def Try.tyT : Ty := [
  (2, { d := .int .i64, size := 1, bytes := 8, zero := .c (.i .i64 0) }),
  (3, { d := .int .i64, size := 1, bytes := 8, zero := .c (.i .i64 0) }),
  (4, { d := .bool, size := 1, bytes := 1, zero := .c (.b false) }),
  (5, { d := .int .u8, size := 1, bytes := 1, zero := .c (.i .u8 0) }),
  (9, { d := .str, size := 1, bytes := 16, zero := .c (.s []) }),
  (12, { d := .int .u64, size := 1, bytes := 8, zero := .c (.i .u64 0) }),
  (21, { d := .int .i32, size := 1, bytes := 4, zero := .c (.i .i32 0) }),
  (22, { d := .sl 3, size := 1, bytes := 24, zero := .c (.sl none 0 0) }),
  (25, { d := .ptr 64, size := 1, bytes := 8, zero := .c (.raw (.pointer none)) }),
  (28, { d := .sl 9, size := 1, bytes := 24, zero := .c (.sl none 0 0) }),
  (31, { d := .sl 39, size := 1, bytes := 24, zero := .c (.sl none 0 0) }),
  (32, { d := .st [(0, 3), (1, 9)], size := 2, bytes := 24, zero := .agg [.i .i64 0, .s []] }),
  (33, { d := .st [(0, 3), (1, 9)], size := 2, bytes := 24, zero := .agg [.i .i64 0, .s []] }),
  (34, { d := .sl 33, size := 1, bytes := 24, zero := .c (.sl none 0 0) }),
  (38, { d := .st [(0, 9), (1, 33), (3, 3)], size := 4, bytes := 48, zero := .agg [.s [], .i .i64 0, .s [], .i .i64 0] }),
  (39, { d := .st [(0, 9), (1, 33), (3, 3)], size := 4, bytes := 48, zero := .agg [.s [], .i .i64 0, .s [], .i .i64 0] }),
  (44, { d := .st [(0, 33), (2, 9), (3, 3)], size := 4, bytes := 48, zero := .agg [.i .i64 0, .s [], .s [], .i .i64 0] }),
  (45, { d := .st [(0, 33), (2, 9), (3, 3)], size := 4, bytes := 48, zero := .agg [.i .i64 0, .s [], .s [], .i .i64 0] }),
  (46, { d := .sl 45, size := 1, bytes := 24, zero := .c (.sl none 0 0) }),
  (47, { d := .sl 150, size := 1, bytes := 24, zero := .c (.sl none 0 0) }),
  (48, { d := .sl 154, size := 1, bytes := 24, zero := .c (.sl none 0 0) }),
  (49, { d := .sl 156, size := 1, bytes := 24, zero := .c (.sl none 0 0) }),
  (50, { d := .st [(0, 47), (1, 48), (2, 49)], size := 3, bytes := 72, zero := .agg [.sl none 0 0, .sl none 0 0, .sl none 0 0] }),
  (51, { d := .st [(0, 47), (1, 48), (2, 49)], size := 3, bytes := 72, zero := .agg [.sl none 0 0, .sl none 0 0, .sl none 0 0] }),
  (52, { d := .sl 162, size := 1, bytes := 24, zero := .c (.sl none 0 0) }),
  (53, { d := .st [(0, 46), (1, 51), (4, 28), (5, 3), (6, 52)], size := 7, bytes := 152, zero := .agg [.sl none 0 0, .sl none 0 0, .sl none 0 0, .sl none 0 0, .sl none 0 0, .i .i64 0, .sl none 0 0] }),
  (54, { d := .st [(0, 46), (1, 51), (4, 28), (5, 3), (6, 52)], size := 7, bytes := 152, zero := .agg [.sl none 0 0, .sl none 0 0, .sl none 0 0, .sl none 0 0, .sl none 0 0, .i .i64 0, .sl none 0 0] }),
  (56, { d := .st [(0, 33), (2, 3)], size := 3, bytes := 32, zero := .agg [.i .i64 0, .s [], .i .i64 0] }),
  (57, { d := .st [(0, 33), (2, 3)], size := 3, bytes := 32, zero := .agg [.i .i64 0, .s [], .i .i64 0] }),
  (58, { d := .sl 57, size := 1, bytes := 24, zero := .c (.sl none 0 0) }),
  (61, { d := .arr 3 9, size := 3, bytes := 48, zero := .agg [.s [], .s [], .s []] }),
  (62, { d := .int .u64, size := 1, bytes := 8, zero := .c (.i .u64 0) }),
  (63, { d := .st [(0, 22), (1, 3), (2, 62)], size := 3, bytes := 40, zero := .agg [.sl none 0 0, .i .i64 0, .i .u64 0] }),
  (64, { d := .st [(0, 22), (1, 3), (2, 62)], size := 3, bytes := 40, zero := .agg [.sl none 0 0, .i .i64 0, .i .u64 0] }),
  (65, { d := .int .u64, size := 1, bytes := 8, zero := .c (.i .u64 0) }),
  (68, { d := .sl 5, size := 1, bytes := 24, zero := .c (.sl none 0 0) }),
  (73, { d := .arr 5 9, size := 5, bytes := 80, zero := .agg [.s [], .s [], .s [], .s [], .s []] }),
  (75, { d := .mp 9 3, size := 1, bytes := 8, zero := .c (.raw (.map none)) }),
  (78, { d := .mp 80 3, size := 1, bytes := 8, zero := .c (.raw (.map none)) }),
  (79, { d := .st [(0, 9), (1, 33)], size := 3, bytes := 40, zero := .agg [.s [], .i .i64 0, .s []] }),
  (80, { d := .st [(0, 9), (1, 33)], size := 3, bytes := 40, zero := .agg [.s [], .i .i64 0, .s []] }),
  (82, { d := .mp 33 4, size := 1, bytes := 8, zero := .c (.raw (.map none)) }),
  (87, { d := .arr 28 9, size := 28, bytes := 448, zero := .agg [.s [], .s [], .s [], .s [], .s [], .s [], .s [], .s [], .s [], .s [], .s [], .s [], .s [], .s [], .s [], .s [], .s [], .s [], .s [], .s [], .s [], .s [], .s [], .s [], .s [], .s [], .s [], .s []] }),
  (98, { d := .int .i64, size := 1, bytes := 8, zero := .c (.i .i64 0) }),
  (106, { d := .int .u32, size := 1, bytes := 4, zero := .c (.i .u32 0) }),
  (118, { d := .int .u64, size := 1, bytes := 8, zero := .c (.i .u64 0) }),
  (122, { d := .ptr 3, size := 1, bytes := 8, zero := .c (.raw (.pointer none)) }),
  (129, { d := .ptr 118, size := 1, bytes := 8, zero := .c (.raw (.pointer none)) }),
  (144, { d := .ptr 5, size := 1, bytes := 8, zero := .c (.raw (.pointer none)) }),
  (149, { d := .st [(0, 9), (1, 28)], size := 2, bytes := 40, zero := .agg [.s [], .sl none 0 0] }),
  (150, { d := .st [(0, 9), (1, 28)], size := 2, bytes := 40, zero := .agg [.s [], .sl none 0 0] }),
  (151, { d := .st [(0, 3), (1, 33)], size := 3, bytes := 32, zero := .agg [.i .i64 0, .i .i64 0, .s []] }),
  (152, { d := .st [(0, 3), (1, 33)], size := 3, bytes := 32, zero := .agg [.i .i64 0, .i .i64 0, .s []] }),
  (153, { d := .st [(0, 4), (1, 3), (2, 9), (3, 152)], size := 6, bytes := 64, zero := .agg [.b false, .i .i64 0, .s [], .i .i64 0, .i .i64 0, .s []] }),
  (154, { d := .st [(0, 4), (1, 3), (2, 9), (3, 152)], size := 6, bytes := 64, zero := .agg [.b false, .i .i64 0, .s [], .i .i64 0, .i .i64 0, .s []] }),
  (155, { d := .st [(0, 4), (1, 9), (2, 33), (4, 9)], size := 5, bytes := 64, zero := .agg [.b false, .s [], .i .i64 0, .s [], .s []] }),
  (156, { d := .st [(0, 4), (1, 9), (2, 33), (4, 9)], size := 5, bytes := 64, zero := .agg [.b false, .s [], .i .i64 0, .s [], .s []] }),
  (157, { d := .st [(0, 3), (1, 33), (3, 3)], size := 4, bytes := 40, zero := .agg [.i .i64 0, .i .i64 0, .s [], .i .i64 0] }),
  (158, { d := .st [(0, 3), (1, 33), (3, 3)], size := 4, bytes := 40, zero := .agg [.i .i64 0, .i .i64 0, .s [], .i .i64 0] }),
  (159, { d := .st [(0, 4), (1, 9), (2, 3)], size := 3, bytes := 32, zero := .agg [.b false, .s [], .i .i64 0] }),
  (160, { d := .st [(0, 4), (1, 9), (2, 3)], size := 3, bytes := 32, zero := .agg [.b false, .s [], .i .i64 0] }),
  (161, { d := .st [(0, 158), (4, 160)], size := 7, bytes := 72, zero := .agg [.i .i64 0, .i .i64 0, .s [], .i .i64 0, .b false, .s [], .i .i64 0] }),
  (162, { d := .st [(0, 158), (4, 160)], size := 7, bytes := 72, zero := .agg [.i .i64 0, .i .i64 0, .s [], .i .i64 0, .b false, .s [], .i .i64 0] })]

theorem tyok2 : TyI.ok Try.prog 2 { d := .int .i64, size := 1, bytes := 8, zero := .c (.i .i64 0) } := ⟨by kernel_rfl, by kernel_rfl, .inr rfl, (by show Program.underlying _ _ = _; kernel_rfl)⟩
theorem tyok3 : TyI.ok Try.prog 3 { d := .int .i64, size := 1, bytes := 8, zero := .c (.i .i64 0) } := ⟨by kernel_rfl, by kernel_rfl, .inr rfl, (by show Program.underlying _ _ = _; kernel_rfl)⟩
theorem tyok4 : TyI.ok Try.prog 4 { d := .bool, size := 1, bytes := 1, zero := .c (.b false) } := ⟨by kernel_rfl, by kernel_rfl, .inr rfl, (by show Program.underlying _ _ = _; kernel_rfl)⟩
theorem tyok5 : TyI.ok Try.prog 5 { d := .int .u8, size := 1, bytes := 1, zero := .c (.i .u8 0) } := ⟨by kernel_rfl, by kernel_rfl, .inr rfl, (by show Program.underlying _ _ = _; kernel_rfl)⟩
theorem tyok9 : TyI.ok Try.prog 9 { d := .str, size := 1, bytes := 16, zero := .c (.s []) } := ⟨by kernel_rfl, by kernel_rfl, .inr rfl, (by show Program.underlying _ _ = _; kernel_rfl)⟩
theorem tyok12 : TyI.ok Try.prog 12 { d := .int .u64, size := 1, bytes := 8, zero := .c (.i .u64 0) } := ⟨by kernel_rfl, by kernel_rfl, .inr rfl, (by show Program.underlying _ _ = _; kernel_rfl)⟩
theorem tyok21 : TyI.ok Try.prog 21 { d := .int .i32, size := 1, bytes := 4, zero := .c (.i .i32 0) } := ⟨by kernel_rfl, by kernel_rfl, .inr rfl, (by show Program.underlying _ _ = _; kernel_rfl)⟩
theorem tyok22 : TyI.ok Try.prog 22 { d := .sl 3, size := 1, bytes := 24, zero := .c (.sl none 0 0) } := ⟨by kernel_rfl, by kernel_rfl, .inr rfl, (by show Program.underlying _ _ = _; kernel_rfl)⟩
theorem tyok25 : TyI.ok Try.prog 25 { d := .ptr 64, size := 1, bytes := 8, zero := .c (.raw (.pointer none)) } := ⟨by kernel_rfl, by kernel_rfl, .inr rfl, (by show Program.underlying _ _ = _; kernel_rfl)⟩
theorem tyok28 : TyI.ok Try.prog 28 { d := .sl 9, size := 1, bytes := 24, zero := .c (.sl none 0 0) } := ⟨by kernel_rfl, by kernel_rfl, .inr rfl, (by show Program.underlying _ _ = _; kernel_rfl)⟩
theorem tyok31 : TyI.ok Try.prog 31 { d := .sl 39, size := 1, bytes := 24, zero := .c (.sl none 0 0) } := ⟨by kernel_rfl, by kernel_rfl, .inr rfl, (by show Program.underlying _ _ = _; kernel_rfl)⟩
theorem tyok32 : TyI.ok Try.prog 32 { d := .st [(0, 3), (1, 9)], size := 2, bytes := 24, zero := .agg [.i .i64 0, .s []] } := ⟨by kernel_rfl, by kernel_rfl, .inl rfl, ⟨by kernel_rfl, by kernel_rfl, by kernel_rfl, by kernel_rfl, by kernel_rfl⟩⟩
theorem tyok33 : TyI.ok Try.prog 33 { d := .st [(0, 3), (1, 9)], size := 2, bytes := 24, zero := .agg [.i .i64 0, .s []] } := ⟨by kernel_rfl, by kernel_rfl, .inl rfl, ⟨by kernel_rfl, by kernel_rfl, by kernel_rfl, by kernel_rfl, by kernel_rfl⟩⟩
theorem tyok34 : TyI.ok Try.prog 34 { d := .sl 33, size := 1, bytes := 24, zero := .c (.sl none 0 0) } := ⟨by kernel_rfl, by kernel_rfl, .inr rfl, (by show Program.underlying _ _ = _; kernel_rfl)⟩
theorem tyok38 : TyI.ok Try.prog 38 { d := .st [(0, 9), (1, 33), (3, 3)], size := 4, bytes := 48, zero := .agg [.s [], .i .i64 0, .s [], .i .i64 0] } := ⟨by kernel_rfl, by kernel_rfl, .inl rfl, ⟨by kernel_rfl, by kernel_rfl, by kernel_rfl, by kernel_rfl, by kernel_rfl⟩⟩
theorem tyok39 : TyI.ok Try.prog 39 { d := .st [(0, 9), (1, 33), (3, 3)], size := 4, bytes := 48, zero := .agg [.s [], .i .i64 0, .s [], .i .i64 0] } := ⟨by kernel_rfl, by kernel_rfl, .inl rfl, ⟨by kernel_rfl, by kernel_rfl, by kernel_rfl, by kernel_rfl, by kernel_rfl⟩⟩
theorem tyok44 : TyI.ok Try.prog 44 { d := .st [(0, 33), (2, 9), (3, 3)], size := 4, bytes := 48, zero := .agg [.i .i64 0, .s [], .s [], .i .i64 0] } := ⟨by kernel_rfl, by kernel_rfl, .inl rfl, ⟨by kernel_rfl, by kernel_rfl, by kernel_rfl, by kernel_rfl, by kernel_rfl⟩⟩
theorem tyok45 : TyI.ok Try.prog 45 { d := .st [(0, 33), (2, 9), (3, 3)], size := 4, bytes := 48, zero := .agg [.i .i64 0, .s [], .s [], .i .i64 0] } := ⟨by kernel_rfl, by kernel_rfl, .inl rfl, ⟨by kernel_rfl, by kernel_rfl, by kernel_rfl, by kernel_rfl, by kernel_rfl⟩⟩
theorem tyok46 : TyI.ok Try.prog 46 { d := .sl 45, size := 1, bytes := 24, zero := .c (.sl none 0 0) } := ⟨by kernel_rfl, by kernel_rfl, .inr rfl, (by show Program.underlying _ _ = _; kernel_rfl)⟩
theorem tyok47 : TyI.ok Try.prog 47 { d := .sl 150, size := 1, bytes := 24, zero := .c (.sl none 0 0) } := ⟨by kernel_rfl, by kernel_rfl, .inr rfl, (by show Program.underlying _ _ = _; kernel_rfl)⟩
theorem tyok48 : TyI.ok Try.prog 48 { d := .sl 154, size := 1, bytes := 24, zero := .c (.sl none 0 0) } := ⟨by kernel_rfl, by kernel_rfl, .inr rfl, (by show Program.underlying _ _ = _; kernel_rfl)⟩
theorem tyok49 : TyI.ok Try.prog 49 { d := .sl 156, size := 1, bytes := 24, zero := .c (.sl none 0 0) } := ⟨by kernel_rfl, by kernel_rfl, .inr rfl, (by show Program.underlying _ _ = _; kernel_rfl)⟩
theorem tyok50 : TyI.ok Try.prog 50 { d := .st [(0, 47), (1, 48), (2, 49)], size := 3, bytes := 72, zero := .agg [.sl none 0 0, .sl none 0 0, .sl none 0 0] } := ⟨by kernel_rfl, by kernel_rfl, .inl rfl, ⟨by kernel_rfl, by kernel_rfl, by kernel_rfl, by kernel_rfl, by kernel_rfl⟩⟩
theorem tyok51 : TyI.ok Try.prog 51 { d := .st [(0, 47), (1, 48), (2, 49)], size := 3, bytes := 72, zero := .agg [.sl none 0 0, .sl none 0 0, .sl none 0 0] } := ⟨by kernel_rfl, by kernel_rfl, .inl rfl, ⟨by kernel_rfl, by kernel_rfl, by kernel_rfl, by kernel_rfl, by kernel_rfl⟩⟩
theorem tyok52 : TyI.ok Try.prog 52 { d := .sl 162, size := 1, bytes := 24, zero := .c (.sl none 0 0) } := ⟨by kernel_rfl, by kernel_rfl, .inr rfl, (by show Program.underlying _ _ = _; kernel_rfl)⟩
theorem tyok53 : TyI.ok Try.prog 53 { d := .st [(0, 46), (1, 51), (4, 28), (5, 3), (6, 52)], size := 7, bytes := 152, zero := .agg [.sl none 0 0, .sl none 0 0, .sl none 0 0, .sl none 0 0, .sl none 0 0, .i .i64 0, .sl none 0 0] } := ⟨by kernel_rfl, by kernel_rfl, .inl rfl, ⟨by kernel_rfl, by kernel_rfl, by kernel_rfl, by kernel_rfl, by kernel_rfl⟩⟩
theorem tyok54 : TyI.ok Try.prog 54 { d := .st [(0, 46), (1, 51), (4, 28), (5, 3), (6, 52)], size := 7, bytes := 152, zero := .agg [.sl none 0 0, .sl none 0 0, .sl none 0 0, .sl none 0 0, .sl none 0 0, .i .i64 0, .sl none 0 0] } := ⟨by kernel_rfl, by kernel_rfl, .inl rfl, ⟨by kernel_rfl, by kernel_rfl, by kernel_rfl, by kernel_rfl, by kernel_rfl⟩⟩
theorem tyok56 : TyI.ok Try.prog 56 { d := .st [(0, 33), (2, 3)], size := 3, bytes := 32, zero := .agg [.i .i64 0, .s [], .i .i64 0] } := ⟨by kernel_rfl, by kernel_rfl, .inl rfl, ⟨by kernel_rfl, by kernel_rfl, by kernel_rfl, by kernel_rfl, by kernel_rfl⟩⟩
theorem tyok57 : TyI.ok Try.prog 57 { d := .st [(0, 33), (2, 3)], size := 3, bytes := 32, zero := .agg [.i .i64 0, .s [], .i .i64 0] } := ⟨by kernel_rfl, by kernel_rfl, .inl rfl, ⟨by kernel_rfl, by kernel_rfl, by kernel_rfl, by kernel_rfl, by kernel_rfl⟩⟩
theorem tyok58 : TyI.ok Try.prog 58 { d := .sl 57, size := 1, bytes := 24, zero := .c (.sl none 0 0) } := ⟨by kernel_rfl, by kernel_rfl, .inr rfl, (by show Program.underlying _ _ = _; kernel_rfl)⟩
theorem tyok61 : TyI.ok Try.prog 61 { d := .arr 3 9, size := 3, bytes := 48, zero := .agg [.s [], .s [], .s []] } := ⟨by kernel_rfl, by kernel_rfl, .inl rfl, (by show Program.underlying _ _ = _; kernel_rfl)⟩
theorem tyok62 : TyI.ok Try.prog 62 { d := .int .u64, size := 1, bytes := 8, zero := .c (.i .u64 0) } := ⟨by kernel_rfl, by kernel_rfl, .inr rfl, (by show Program.underlying _ _ = _; kernel_rfl)⟩
theorem tyok63 : TyI.ok Try.prog 63 { d := .st [(0, 22), (1, 3), (2, 62)], size := 3, bytes := 40, zero := .agg [.sl none 0 0, .i .i64 0, .i .u64 0] } := ⟨by kernel_rfl, by kernel_rfl, .inl rfl, ⟨by kernel_rfl, by kernel_rfl, by kernel_rfl, by kernel_rfl, by kernel_rfl⟩⟩
theorem tyok64 : TyI.ok Try.prog 64 { d := .st [(0, 22), (1, 3), (2, 62)], size := 3, bytes := 40, zero := .agg [.sl none 0 0, .i .i64 0, .i .u64 0] } := ⟨by kernel_rfl, by kernel_rfl, .inl rfl, ⟨by kernel_rfl, by kernel_rfl, by kernel_rfl, by kernel_rfl, by kernel_rfl⟩⟩
theorem tyok65 : TyI.ok Try.prog 65 { d := .int .u64, size := 1, bytes := 8, zero := .c (.i .u64 0) } := ⟨by kernel_rfl, by kernel_rfl, .inr rfl, (by show Program.underlying _ _ = _; kernel_rfl)⟩
theorem tyok68 : TyI.ok Try.prog 68 { d := .sl 5, size := 1, bytes := 24, zero := .c (.sl none 0 0) } := ⟨by kernel_rfl, by kernel_rfl, .inr rfl, (by show Program.underlying _ _ = _; kernel_rfl)⟩
theorem tyok73 : TyI.ok Try.prog 73 { d := .arr 5 9, size := 5, bytes := 80, zero := .agg [.s [], .s [], .s [], .s [], .s []] } := ⟨by kernel_rfl, by kernel_rfl, .inl rfl, (by show Program.underlying _ _ = _; kernel_rfl)⟩
theorem tyok75 : TyI.ok Try.prog 75 { d := .mp 9 3, size := 1, bytes := 8, zero := .c (.raw (.map none)) } := ⟨by kernel_rfl, by kernel_rfl, .inr rfl, (by show Program.underlying _ _ = _; kernel_rfl)⟩
theorem tyok78 : TyI.ok Try.prog 78 { d := .mp 80 3, size := 1, bytes := 8, zero := .c (.raw (.map none)) } := ⟨by kernel_rfl, by kernel_rfl, .inr rfl, (by show Program.underlying _ _ = _; kernel_rfl)⟩
theorem tyok79 : TyI.ok Try.prog 79 { d := .st [(0, 9), (1, 33)], size := 3, bytes := 40, zero := .agg [.s [], .i .i64 0, .s []] } := ⟨by kernel_rfl, by kernel_rfl, .inl rfl, ⟨by kernel_rfl, by kernel_rfl, by kernel_rfl, by kernel_rfl, by kernel_rfl⟩⟩
theorem tyok80 : TyI.ok Try.prog 80 { d := .st [(0, 9), (1, 33)], size := 3, bytes := 40, zero := .agg [.s [], .i .i64 0, .s []] } := ⟨by kernel_rfl, by kernel_rfl, .inl rfl, ⟨by kernel_rfl, by kernel_rfl, by kernel_rfl, by kernel_rfl, by kernel_rfl⟩⟩
theorem tyok82 : TyI.ok Try.prog 82 { d := .mp 33 4, size := 1, bytes := 8, zero := .c (.raw (.map none)) } := ⟨by kernel_rfl, by kernel_rfl, .inr rfl, (by show Program.underlying _ _ = _; kernel_rfl)⟩
theorem tyok87 : TyI.ok Try.prog 87 { d := .arr 28 9, size := 28, bytes := 448, zero := .agg [.s [], .s [], .s [], .s [], .s [], .s [], .s [], .s [], .s [], .s [], .s [], .s [], .s [], .s [], .s [], .s [], .s [], .s [], .s [], .s [], .s [], .s [], .s [], .s [], .s [], .s [], .s [], .s []] } := ⟨by kernel_rfl, by kernel_rfl, .inl rfl, (by show Program.underlying _ _ = _; kernel_rfl)⟩
theorem tyok98 : TyI.ok Try.prog 98 { d := .int .i64, size := 1, bytes := 8, zero := .c (.i .i64 0) } := ⟨by kernel_rfl, by kernel_rfl, .inr rfl, (by show Program.underlying _ _ = _; kernel_rfl)⟩
theorem tyok106 : TyI.ok Try.prog 106 { d := .int .u32, size := 1, bytes := 4, zero := .c (.i .u32 0) } := ⟨by kernel_rfl, by kernel_rfl, .inr rfl, (by show Program.underlying _ _ = _; kernel_rfl)⟩
theorem tyok118 : TyI.ok Try.prog 118 { d := .int .u64, size := 1, bytes := 8, zero := .c (.i .u64 0) } := ⟨by kernel_rfl, by kernel_rfl, .inr rfl, (by show Program.underlying _ _ = _; kernel_rfl)⟩
theorem tyok122 : TyI.ok Try.prog 122 { d := .ptr 3, size := 1, bytes := 8, zero := .c (.raw (.pointer none)) } := ⟨by kernel_rfl, by kernel_rfl, .inr rfl, (by show Program.underlying _ _ = _; kernel_rfl)⟩
theorem tyok129 : TyI.ok Try.prog 129 { d := .ptr 118, size := 1, bytes := 8, zero := .c (.raw (.pointer none)) } := ⟨by kernel_rfl, by kernel_rfl, .inr rfl, (by show Program.underlying _ _ = _; kernel_rfl)⟩
theorem tyok144 : TyI.ok Try.prog 144 { d := .ptr 5, size := 1, bytes := 8, zero := .c (.raw (.pointer none)) } := ⟨by kernel_rfl, by kernel_rfl, .inr rfl, (by show Program.underlying _ _ = _; kernel_rfl)⟩
theorem tyok149 : TyI.ok Try.prog 149 { d := .st [(0, 9), (1, 28)], size := 2, bytes := 40, zero := .agg [.s [], .sl none 0 0] } := ⟨by kernel_rfl, by kernel_rfl, .inl rfl, ⟨by kernel_rfl, by kernel_rfl, by kernel_rfl, by kernel_rfl, by kernel_rfl⟩⟩
theorem tyok150 : TyI.ok Try.prog 150 { d := .st [(0, 9), (1, 28)], size := 2, bytes := 40, zero := .agg [.s [], .sl none 0 0] } := ⟨by kernel_rfl, by kernel_rfl, .inl rfl, ⟨by kernel_rfl, by kernel_rfl, by kernel_rfl, by kernel_rfl, by kernel_rfl⟩⟩
theorem tyok151 : TyI.ok Try.prog 151 { d := .st [(0, 3), (1, 33)], size := 3, bytes := 32, zero := .agg [.i .i64 0, .i .i64 0, .s []] } := ⟨by kernel_rfl, by kernel_rfl, .inl rfl, ⟨by kernel_rfl, by kernel_rfl, by kernel_rfl, by kernel_rfl, by kernel_rfl⟩⟩
theorem tyok152 : TyI.ok Try.prog 152 { d := .st [(0, 3), (1, 33)], size := 3, bytes := 32, zero := .agg [.i .i64 0, .i .i64 0, .s []] } := ⟨by kernel_rfl, by kernel_rfl, .inl rfl, ⟨by kernel_rfl, by kernel_rfl, by kernel_rfl, by kernel_rfl, by kernel_rfl⟩⟩
theorem tyok153 : TyI.ok Try.prog 153 { d := .st [(0, 4), (1, 3), (2, 9), (3, 152)], size := 6, bytes := 64, zero := .agg [.b false, .i .i64 0, .s [], .i .i64 0, .i .i64 0, .s []] } := ⟨by kernel_rfl, by kernel_rfl, .inl rfl, ⟨by kernel_rfl, by kernel_rfl, by kernel_rfl, by kernel_rfl, by kernel_rfl⟩⟩
theorem tyok154 : TyI.ok Try.prog 154 { d := .st [(0, 4), (1, 3), (2, 9), (3, 152)], size := 6, bytes := 64, zero := .agg [.b false, .i .i64 0, .s [], .i .i64 0, .i .i64 0, .s []] } := ⟨by kernel_rfl, by kernel_rfl, .inl rfl, ⟨by kernel_rfl, by kernel_rfl, by kernel_rfl, by kernel_rfl, by kernel_rfl⟩⟩
theorem tyok155 : TyI.ok Try.prog 155 { d := .st [(0, 4), (1, 9), (2, 33), (4, 9)], size := 5, bytes := 64, zero := .agg [.b false, .s [], .i .i64 0, .s [], .s []] } := ⟨by kernel_rfl, by kernel_rfl, .inl rfl, ⟨by kernel_rfl, by kernel_rfl, by kernel_rfl, by kernel_rfl, by kernel_rfl⟩⟩
theorem tyok156 : TyI.ok Try.prog 156 { d := .st [(0, 4), (1, 9), (2, 33), (4, 9)], size := 5, bytes := 64, zero := .agg [.b false, .s [], .i .i64 0, .s [], .s []] } := ⟨by kernel_rfl, by kernel_rfl, .inl rfl, ⟨by kernel_rfl, by kernel_rfl, by kernel_rfl, by kernel_rfl, by kernel_rfl⟩⟩
theorem tyok157 : TyI.ok Try.prog 157 { d := .st [(0, 3), (1, 33), (3, 3)], size := 4, bytes := 40, zero := .agg [.i .i64 0, .i .i64 0, .s [], .i .i64 0] } := ⟨by kernel_rfl, by kernel_rfl, .inl rfl, ⟨by kernel_rfl, by kernel_rfl, by kernel_rfl, by kernel_rfl, by kernel_rfl⟩⟩
theorem tyok158 : TyI.ok Try.prog 158 { d := .st [(0, 3), (1, 33), (3, 3)], size := 4, bytes := 40, zero := .agg [.i .i64 0, .i .i64 0, .s [], .i .i64 0] } := ⟨by kernel_rfl, by kernel_rfl, .inl rfl, ⟨by kernel_rfl, by kernel_rfl, by kernel_rfl, by kernel_rfl, by kernel_rfl⟩⟩
theorem tyok159 : TyI.ok Try.prog 159 { d := .st [(0, 4), (1, 9), (2, 3)], size := 3, bytes := 32, zero := .agg [.b false, .s [], .i .i64 0] } := ⟨by kernel_rfl, by kernel_rfl, .inl rfl, ⟨by kernel_rfl, by kernel_rfl, by kernel_rfl, by kernel_rfl, by kernel_rfl⟩⟩
theorem tyok160 : TyI.ok Try.prog 160 { d := .st [(0, 4), (1, 9), (2, 3)], size := 3, bytes := 32, zero := .agg [.b false, .s [], .i .i64 0] } := ⟨by kernel_rfl, by kernel_rfl, .inl rfl, ⟨by kernel_rfl, by kernel_rfl, by kernel_rfl, by kernel_rfl, by kernel_rfl⟩⟩
theorem tyok161 : TyI.ok Try.prog 161 { d := .st [(0, 158), (4, 160)], size := 7, bytes := 72, zero := .agg [.i .i64 0, .i .i64 0, .s [], .i .i64 0, .b false, .s [], .i .i64 0] } := ⟨by kernel_rfl, by kernel_rfl, .inl rfl, ⟨by kernel_rfl, by kernel_rfl, by kernel_rfl, by kernel_rfl, by kernel_rfl⟩⟩
theorem tyok162 : TyI.ok Try.prog 162 { d := .st [(0, 158), (4, 160)], size := 7, bytes := 72, zero := .agg [.i .i64 0, .i .i64 0, .s [], .i .i64 0, .b false, .s [], .i .i64 0] } := ⟨by kernel_rfl, by kernel_rfl, .inl rfl, ⟨by kernel_rfl, by kernel_rfl, by kernel_rfl, by kernel_rfl, by kernel_rfl⟩⟩

theorem Try.tyOK : TyOK Try.prog Try.tyT := tyOK_of_all ⟨tyok2, tyok3, tyok4, tyok5, tyok9, tyok12, tyok21, tyok22, tyok25, tyok28, tyok31, tyok32, tyok33, tyok34, tyok38, tyok39, tyok44, tyok45, tyok46, tyok47, tyok48, tyok49, tyok50, tyok51, tyok52, tyok53, tyok54, tyok56, tyok57, tyok58, tyok61, tyok62, tyok63, tyok64, tyok65, tyok68, tyok73, tyok75, tyok78, tyok79, tyok80, tyok82, tyok87, tyok98, tyok106, tyok118, tyok122, tyok129, tyok144, tyok149, tyok150, tyok151, tyok152, tyok153, tyok154, tyok155, tyok156, tyok157, tyok158, tyok159, tyok160, tyok161, tyok162, trivial⟩

end Go.Y
