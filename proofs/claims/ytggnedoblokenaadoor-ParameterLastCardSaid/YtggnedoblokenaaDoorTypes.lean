/- This text holds the table of the program's types that the proofs use, and proves that it agrees with the program. -/
import Derived.Test.YtggnedoblokenaaDoorDraw
import Derived.Test.YtggnedoblokenaaDoorProg
set_option linter.all false

namespace Go.Proofs
open Go Go.X
set_option maxRecDepth 100000

def Tryd.tyT : Ty := [
  (2, { d := .int .i64, size := 1, bytes := 8, zero := .c (.i .i64 0) }),
  (3, { d := .int .i64, size := 1, bytes := 8, zero := .c (.i .i64 0) }),
  (4, { d := .bool, size := 1, bytes := 1, zero := .c (.b false) }),
  (5, { d := .int .u8, size := 1, bytes := 1, zero := .c (.i .u8 0) }),
  (9, { d := .str, size := 1, bytes := 16, zero := .c (.s []) }),
  (12, { d := .int .u64, size := 1, bytes := 8, zero := .c (.i .u64 0) }),
  (21, { d := .int .i32, size := 1, bytes := 4, zero := .c (.i .i32 0) }),
  (22, { d := .sl 36, size := 1, bytes := 24, zero := .c (.sl none 0 0) }),
  (25, { d := .sl 33, size := 1, bytes := 24, zero := .c (.sl none 0 0) }),
  (26, { d := .int .i64, size := 1, bytes := 8, zero := .c (.i .i64 0) }),
  (30, { d := .sl 9, size := 1, bytes := 24, zero := .c (.sl none 0 0) }),
  (32, { d := .st [(0, 9), (1, 9)], size := 2, bytes := 32, zero := .agg [.s [], .s []] }),
  (33, { d := .st [(0, 9), (1, 9)], size := 2, bytes := 32, zero := .agg [.s [], .s []] }),
  (35, { d := .st [(0, 4), (1, 9), (2, 9)], size := 3, bytes := 40, zero := .agg [.b false, .s [], .s []] }),
  (36, { d := .st [(0, 4), (1, 9), (2, 9)], size := 3, bytes := 40, zero := .agg [.b false, .s [], .s []] }),
  (44, { d := .mp 9 9, size := 1, bytes := 8, zero := .c (.raw (.map none)) }),
  (51, { d := .sl 5, size := 1, bytes := 24, zero := .c (.sl none 0 0) }),
  (61, { d := .ptr 57, size := 1, bytes := 8, zero := .c (.raw (.pointer none)) }),
  (66, { d := .int .u64, size := 1, bytes := 8, zero := .c (.i .u64 0) }),
  (70, { d := .arr 24 5, size := 24, bytes := 24, zero := .agg [.i .u8 0, .i .u8 0, .i .u8 0, .i .u8 0, .i .u8 0, .i .u8 0, .i .u8 0, .i .u8 0, .i .u8 0, .i .u8 0, .i .u8 0, .i .u8 0, .i .u8 0, .i .u8 0, .i .u8 0, .i .u8 0, .i .u8 0, .i .u8 0, .i .u8 0, .i .u8 0, .i .u8 0, .i .u8 0, .i .u8 0, .i .u8 0] }),
  (71, { d := .int .u64, size := 1, bytes := 8, zero := .c (.i .u64 0) }),
  (77, { d := .int .i64, size := 1, bytes := 8, zero := .c (.i .i64 0) }),
  (86, { d := .int .u32, size := 1, bytes := 4, zero := .c (.i .u32 0) }),
  (90, { d := .arr 20 71, size := 20, bytes := 160, zero := .agg [.i .u64 0, .i .u64 0, .i .u64 0, .i .u64 0, .i .u64 0, .i .u64 0, .i .u64 0, .i .u64 0, .i .u64 0, .i .u64 0, .i .u64 0, .i .u64 0, .i .u64 0, .i .u64 0, .i .u64 0, .i .u64 0, .i .u64 0, .i .u64 0, .i .u64 0, .i .u64 0] }),
  (93, { d := .int .u64, size := 1, bytes := 8, zero := .c (.i .u64 0) }),
  (97, { d := .ptr 3, size := 1, bytes := 8, zero := .c (.raw (.pointer none)) }),
  (100, { d := .st [(0, 5), (1, 5)], size := 2, bytes := 2, zero := .agg [.i .u8 0, .i .u8 0] }),
  (101, { d := .st [(0, 5), (1, 5)], size := 2, bytes := 2, zero := .agg [.i .u8 0, .i .u8 0] }),
  (102, { d := .arr 16 101, size := 32, bytes := 32, zero := .agg [.i .u8 0, .i .u8 0, .i .u8 0, .i .u8 0, .i .u8 0, .i .u8 0, .i .u8 0, .i .u8 0, .i .u8 0, .i .u8 0, .i .u8 0, .i .u8 0, .i .u8 0, .i .u8 0, .i .u8 0, .i .u8 0, .i .u8 0, .i .u8 0, .i .u8 0, .i .u8 0, .i .u8 0, .i .u8 0, .i .u8 0, .i .u8 0, .i .u8 0, .i .u8 0, .i .u8 0, .i .u8 0, .i .u8 0, .i .u8 0, .i .u8 0, .i .u8 0] }),
  (106, { d := .ptr 93, size := 1, bytes := 8, zero := .c (.raw (.pointer none)) }),
  (109, { d := .arr 32 5, size := 32, bytes := 32, zero := .agg [.i .u8 0, .i .u8 0, .i .u8 0, .i .u8 0, .i .u8 0, .i .u8 0, .i .u8 0, .i .u8 0, .i .u8 0, .i .u8 0, .i .u8 0, .i .u8 0, .i .u8 0, .i .u8 0, .i .u8 0, .i .u8 0, .i .u8 0, .i .u8 0, .i .u8 0, .i .u8 0, .i .u8 0, .i .u8 0, .i .u8 0, .i .u8 0, .i .u8 0, .i .u8 0, .i .u8 0, .i .u8 0, .i .u8 0, .i .u8 0, .i .u8 0, .i .u8 0] }),
  (110, { d := .arr 64 5, size := 64, bytes := 64, zero := .agg [.i .u8 0, .i .u8 0, .i .u8 0, .i .u8 0, .i .u8 0, .i .u8 0, .i .u8 0, .i .u8 0, .i .u8 0, .i .u8 0, .i .u8 0, .i .u8 0, .i .u8 0, .i .u8 0, .i .u8 0, .i .u8 0, .i .u8 0, .i .u8 0, .i .u8 0, .i .u8 0, .i .u8 0, .i .u8 0, .i .u8 0, .i .u8 0, .i .u8 0, .i .u8 0, .i .u8 0, .i .u8 0, .i .u8 0, .i .u8 0, .i .u8 0, .i .u8 0, .i .u8 0, .i .u8 0, .i .u8 0, .i .u8 0, .i .u8 0, .i .u8 0, .i .u8 0, .i .u8 0, .i .u8 0, .i .u8 0, .i .u8 0, .i .u8 0, .i .u8 0, .i .u8 0, .i .u8 0, .i .u8 0, .i .u8 0, .i .u8 0, .i .u8 0, .i .u8 0, .i .u8 0, .i .u8 0, .i .u8 0, .i .u8 0, .i .u8 0, .i .u8 0, .i .u8 0, .i .u8 0, .i .u8 0, .i .u8 0, .i .u8 0, .i .u8 0] }),
  (121, { d := .ptr 5, size := 1, bytes := 8, zero := .c (.raw (.pointer none)) })]

theorem tyok2 : TyI.ok Tryd.prog 2 { d := .int .i64, size := 1, bytes := 8, zero := .c (.i .i64 0) } := ⟨by kernel_rfl, by kernel_rfl, .inr rfl, (by show Program.underlying _ _ = _; kernel_rfl)⟩
theorem tyok3 : TyI.ok Tryd.prog 3 { d := .int .i64, size := 1, bytes := 8, zero := .c (.i .i64 0) } := ⟨by kernel_rfl, by kernel_rfl, .inr rfl, (by show Program.underlying _ _ = _; kernel_rfl)⟩
theorem tyok4 : TyI.ok Tryd.prog 4 { d := .bool, size := 1, bytes := 1, zero := .c (.b false) } := ⟨by kernel_rfl, by kernel_rfl, .inr rfl, (by show Program.underlying _ _ = _; kernel_rfl)⟩
theorem tyok5 : TyI.ok Tryd.prog 5 { d := .int .u8, size := 1, bytes := 1, zero := .c (.i .u8 0) } := ⟨by kernel_rfl, by kernel_rfl, .inr rfl, (by show Program.underlying _ _ = _; kernel_rfl)⟩
theorem tyok9 : TyI.ok Tryd.prog 9 { d := .str, size := 1, bytes := 16, zero := .c (.s []) } := ⟨by kernel_rfl, by kernel_rfl, .inr rfl, (by show Program.underlying _ _ = _; kernel_rfl)⟩
theorem tyok12 : TyI.ok Tryd.prog 12 { d := .int .u64, size := 1, bytes := 8, zero := .c (.i .u64 0) } := ⟨by kernel_rfl, by kernel_rfl, .inr rfl, (by show Program.underlying _ _ = _; kernel_rfl)⟩
theorem tyok21 : TyI.ok Tryd.prog 21 { d := .int .i32, size := 1, bytes := 4, zero := .c (.i .i32 0) } := ⟨by kernel_rfl, by kernel_rfl, .inr rfl, (by show Program.underlying _ _ = _; kernel_rfl)⟩
theorem tyok22 : TyI.ok Tryd.prog 22 { d := .sl 36, size := 1, bytes := 24, zero := .c (.sl none 0 0) } := ⟨by kernel_rfl, by kernel_rfl, .inr rfl, (by show Program.underlying _ _ = _; kernel_rfl)⟩
theorem tyok25 : TyI.ok Tryd.prog 25 { d := .sl 33, size := 1, bytes := 24, zero := .c (.sl none 0 0) } := ⟨by kernel_rfl, by kernel_rfl, .inr rfl, (by show Program.underlying _ _ = _; kernel_rfl)⟩
theorem tyok26 : TyI.ok Tryd.prog 26 { d := .int .i64, size := 1, bytes := 8, zero := .c (.i .i64 0) } := ⟨by kernel_rfl, by kernel_rfl, .inr rfl, (by show Program.underlying _ _ = _; kernel_rfl)⟩
theorem tyok30 : TyI.ok Tryd.prog 30 { d := .sl 9, size := 1, bytes := 24, zero := .c (.sl none 0 0) } := ⟨by kernel_rfl, by kernel_rfl, .inr rfl, (by show Program.underlying _ _ = _; kernel_rfl)⟩
theorem tyok32 : TyI.ok Tryd.prog 32 { d := .st [(0, 9), (1, 9)], size := 2, bytes := 32, zero := .agg [.s [], .s []] } := ⟨by kernel_rfl, by kernel_rfl, .inl rfl, ⟨by kernel_rfl, by kernel_rfl, by kernel_rfl, by kernel_rfl, by kernel_rfl⟩⟩
theorem tyok33 : TyI.ok Tryd.prog 33 { d := .st [(0, 9), (1, 9)], size := 2, bytes := 32, zero := .agg [.s [], .s []] } := ⟨by kernel_rfl, by kernel_rfl, .inl rfl, ⟨by kernel_rfl, by kernel_rfl, by kernel_rfl, by kernel_rfl, by kernel_rfl⟩⟩
theorem tyok35 : TyI.ok Tryd.prog 35 { d := .st [(0, 4), (1, 9), (2, 9)], size := 3, bytes := 40, zero := .agg [.b false, .s [], .s []] } := ⟨by kernel_rfl, by kernel_rfl, .inl rfl, ⟨by kernel_rfl, by kernel_rfl, by kernel_rfl, by kernel_rfl, by kernel_rfl⟩⟩
theorem tyok36 : TyI.ok Tryd.prog 36 { d := .st [(0, 4), (1, 9), (2, 9)], size := 3, bytes := 40, zero := .agg [.b false, .s [], .s []] } := ⟨by kernel_rfl, by kernel_rfl, .inl rfl, ⟨by kernel_rfl, by kernel_rfl, by kernel_rfl, by kernel_rfl, by kernel_rfl⟩⟩
theorem tyok44 : TyI.ok Tryd.prog 44 { d := .mp 9 9, size := 1, bytes := 8, zero := .c (.raw (.map none)) } := ⟨by kernel_rfl, by kernel_rfl, .inr rfl, (by show Program.underlying _ _ = _; kernel_rfl)⟩
theorem tyok51 : TyI.ok Tryd.prog 51 { d := .sl 5, size := 1, bytes := 24, zero := .c (.sl none 0 0) } := ⟨by kernel_rfl, by kernel_rfl, .inr rfl, (by show Program.underlying _ _ = _; kernel_rfl)⟩
theorem tyok61 : TyI.ok Tryd.prog 61 { d := .ptr 57, size := 1, bytes := 8, zero := .c (.raw (.pointer none)) } := ⟨by kernel_rfl, by kernel_rfl, .inr rfl, (by show Program.underlying _ _ = _; kernel_rfl)⟩
theorem tyok66 : TyI.ok Tryd.prog 66 { d := .int .u64, size := 1, bytes := 8, zero := .c (.i .u64 0) } := ⟨by kernel_rfl, by kernel_rfl, .inr rfl, (by show Program.underlying _ _ = _; kernel_rfl)⟩
theorem tyok70 : TyI.ok Tryd.prog 70 { d := .arr 24 5, size := 24, bytes := 24, zero := .agg [.i .u8 0, .i .u8 0, .i .u8 0, .i .u8 0, .i .u8 0, .i .u8 0, .i .u8 0, .i .u8 0, .i .u8 0, .i .u8 0, .i .u8 0, .i .u8 0, .i .u8 0, .i .u8 0, .i .u8 0, .i .u8 0, .i .u8 0, .i .u8 0, .i .u8 0, .i .u8 0, .i .u8 0, .i .u8 0, .i .u8 0, .i .u8 0] } := ⟨by kernel_rfl, by kernel_rfl, .inl rfl, (by show Program.underlying _ _ = _; kernel_rfl)⟩
theorem tyok71 : TyI.ok Tryd.prog 71 { d := .int .u64, size := 1, bytes := 8, zero := .c (.i .u64 0) } := ⟨by kernel_rfl, by kernel_rfl, .inr rfl, (by show Program.underlying _ _ = _; kernel_rfl)⟩
theorem tyok77 : TyI.ok Tryd.prog 77 { d := .int .i64, size := 1, bytes := 8, zero := .c (.i .i64 0) } := ⟨by kernel_rfl, by kernel_rfl, .inr rfl, (by show Program.underlying _ _ = _; kernel_rfl)⟩
theorem tyok86 : TyI.ok Tryd.prog 86 { d := .int .u32, size := 1, bytes := 4, zero := .c (.i .u32 0) } := ⟨by kernel_rfl, by kernel_rfl, .inr rfl, (by show Program.underlying _ _ = _; kernel_rfl)⟩
theorem tyok90 : TyI.ok Tryd.prog 90 { d := .arr 20 71, size := 20, bytes := 160, zero := .agg [.i .u64 0, .i .u64 0, .i .u64 0, .i .u64 0, .i .u64 0, .i .u64 0, .i .u64 0, .i .u64 0, .i .u64 0, .i .u64 0, .i .u64 0, .i .u64 0, .i .u64 0, .i .u64 0, .i .u64 0, .i .u64 0, .i .u64 0, .i .u64 0, .i .u64 0, .i .u64 0] } := ⟨by kernel_rfl, by kernel_rfl, .inl rfl, (by show Program.underlying _ _ = _; kernel_rfl)⟩
theorem tyok93 : TyI.ok Tryd.prog 93 { d := .int .u64, size := 1, bytes := 8, zero := .c (.i .u64 0) } := ⟨by kernel_rfl, by kernel_rfl, .inr rfl, (by show Program.underlying _ _ = _; kernel_rfl)⟩
theorem tyok97 : TyI.ok Tryd.prog 97 { d := .ptr 3, size := 1, bytes := 8, zero := .c (.raw (.pointer none)) } := ⟨by kernel_rfl, by kernel_rfl, .inr rfl, (by show Program.underlying _ _ = _; kernel_rfl)⟩
theorem tyok100 : TyI.ok Tryd.prog 100 { d := .st [(0, 5), (1, 5)], size := 2, bytes := 2, zero := .agg [.i .u8 0, .i .u8 0] } := ⟨by kernel_rfl, by kernel_rfl, .inl rfl, ⟨by kernel_rfl, by kernel_rfl, by kernel_rfl, by kernel_rfl, by kernel_rfl⟩⟩
theorem tyok101 : TyI.ok Tryd.prog 101 { d := .st [(0, 5), (1, 5)], size := 2, bytes := 2, zero := .agg [.i .u8 0, .i .u8 0] } := ⟨by kernel_rfl, by kernel_rfl, .inl rfl, ⟨by kernel_rfl, by kernel_rfl, by kernel_rfl, by kernel_rfl, by kernel_rfl⟩⟩
theorem tyok102 : TyI.ok Tryd.prog 102 { d := .arr 16 101, size := 32, bytes := 32, zero := .agg [.i .u8 0, .i .u8 0, .i .u8 0, .i .u8 0, .i .u8 0, .i .u8 0, .i .u8 0, .i .u8 0, .i .u8 0, .i .u8 0, .i .u8 0, .i .u8 0, .i .u8 0, .i .u8 0, .i .u8 0, .i .u8 0, .i .u8 0, .i .u8 0, .i .u8 0, .i .u8 0, .i .u8 0, .i .u8 0, .i .u8 0, .i .u8 0, .i .u8 0, .i .u8 0, .i .u8 0, .i .u8 0, .i .u8 0, .i .u8 0, .i .u8 0, .i .u8 0] } := ⟨by kernel_rfl, by kernel_rfl, .inl rfl, (by show Program.underlying _ _ = _; kernel_rfl)⟩
theorem tyok106 : TyI.ok Tryd.prog 106 { d := .ptr 93, size := 1, bytes := 8, zero := .c (.raw (.pointer none)) } := ⟨by kernel_rfl, by kernel_rfl, .inr rfl, (by show Program.underlying _ _ = _; kernel_rfl)⟩
theorem tyok109 : TyI.ok Tryd.prog 109 { d := .arr 32 5, size := 32, bytes := 32, zero := .agg [.i .u8 0, .i .u8 0, .i .u8 0, .i .u8 0, .i .u8 0, .i .u8 0, .i .u8 0, .i .u8 0, .i .u8 0, .i .u8 0, .i .u8 0, .i .u8 0, .i .u8 0, .i .u8 0, .i .u8 0, .i .u8 0, .i .u8 0, .i .u8 0, .i .u8 0, .i .u8 0, .i .u8 0, .i .u8 0, .i .u8 0, .i .u8 0, .i .u8 0, .i .u8 0, .i .u8 0, .i .u8 0, .i .u8 0, .i .u8 0, .i .u8 0, .i .u8 0] } := ⟨by kernel_rfl, by kernel_rfl, .inl rfl, (by show Program.underlying _ _ = _; kernel_rfl)⟩
theorem tyok110 : TyI.ok Tryd.prog 110 { d := .arr 64 5, size := 64, bytes := 64, zero := .agg [.i .u8 0, .i .u8 0, .i .u8 0, .i .u8 0, .i .u8 0, .i .u8 0, .i .u8 0, .i .u8 0, .i .u8 0, .i .u8 0, .i .u8 0, .i .u8 0, .i .u8 0, .i .u8 0, .i .u8 0, .i .u8 0, .i .u8 0, .i .u8 0, .i .u8 0, .i .u8 0, .i .u8 0, .i .u8 0, .i .u8 0, .i .u8 0, .i .u8 0, .i .u8 0, .i .u8 0, .i .u8 0, .i .u8 0, .i .u8 0, .i .u8 0, .i .u8 0, .i .u8 0, .i .u8 0, .i .u8 0, .i .u8 0, .i .u8 0, .i .u8 0, .i .u8 0, .i .u8 0, .i .u8 0, .i .u8 0, .i .u8 0, .i .u8 0, .i .u8 0, .i .u8 0, .i .u8 0, .i .u8 0, .i .u8 0, .i .u8 0, .i .u8 0, .i .u8 0, .i .u8 0, .i .u8 0, .i .u8 0, .i .u8 0, .i .u8 0, .i .u8 0, .i .u8 0, .i .u8 0, .i .u8 0, .i .u8 0, .i .u8 0, .i .u8 0] } := ⟨by kernel_rfl, by kernel_rfl, .inl rfl, (by show Program.underlying _ _ = _; kernel_rfl)⟩
theorem tyok121 : TyI.ok Tryd.prog 121 { d := .ptr 5, size := 1, bytes := 8, zero := .c (.raw (.pointer none)) } := ⟨by kernel_rfl, by kernel_rfl, .inr rfl, (by show Program.underlying _ _ = _; kernel_rfl)⟩

theorem Tryd.tyOK : TyOK Tryd.prog Tryd.tyT := tyOK_of_all ⟨tyok2, tyok3, tyok4, tyok5, tyok9, tyok12, tyok21, tyok22, tyok25, tyok26, tyok30, tyok32, tyok33, tyok35, tyok36, tyok44, tyok51, tyok61, tyok66, tyok70, tyok71, tyok77, tyok86, tyok90, tyok93, tyok97, tyok100, tyok101, tyok102, tyok106, tyok109, tyok110, tyok121, trivial⟩

end Go.Proofs
