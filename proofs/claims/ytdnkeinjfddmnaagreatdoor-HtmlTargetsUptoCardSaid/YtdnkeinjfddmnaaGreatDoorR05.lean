/- This text holds the table of the program's types that the proofs use, and proves that it agrees with the program. · This text holds what all rows of this seat share: a world in which the listed tables lie, and closed facts of the program. · This text opens arguments of the type Title. · This text defines documents (trees of blocks and elements), their cells, and what it means that memory holds one. · This text holds plain facts on lists of bytes, with no program in sight: what the library's string functions compute when the separator is one byte. -/
import Derived.Test.YtdnkeinjfddmnaaGreatDoorR04
import Derived.Test.YtdnkeinjfddmnaaGreatDoorProg
import Derived.Test.YtdnkeinjfddmnaaGreatDoorCards
import Derived.Test.YtdnkeinjfddmnaaGreatDoorTie
import Derived.Lib.LaidTab
import Derived.Lib.Replace
import Derived.Lib.Join
import Derived.Lib.TrimByte
import Derived.Lib.Small
set_option linter.all false

namespace Go.Proofs
open Go Go.X
set_option maxRecDepth 100000

def Tryz.tyT : Ty := [
  (2, { d := .int .i64, size := 1, bytes := 8, zero := .c (.i .i64 0) }),
  (3, { d := .int .i64, size := 1, bytes := 8, zero := .c (.i .i64 0) }),
  (4, { d := .bool, size := 1, bytes := 1, zero := .c (.b false) }),
  (5, { d := .int .u8, size := 1, bytes := 1, zero := .c (.i .u8 0) }),
  (9, { d := .str, size := 1, bytes := 16, zero := .c (.s []) }),
  (12, { d := .int .u64, size := 1, bytes := 8, zero := .c (.i .u64 0) }),
  (20, { d := .ifc, size := 1, bytes := 16, zero := .c (.raw .nilIface) }),
  (21, { d := .int .i32, size := 1, bytes := 4, zero := .c (.i .i32 0) }),
  (22, { d := .st [(0, 3), (1, 9)], size := 2, bytes := 24, zero := .agg [.i .i64 0, .s []] }),
  (23, { d := .st [(0, 3), (1, 9)], size := 2, bytes := 24, zero := .agg [.i .i64 0, .s []] }),
  (24, { d := .sl 3, size := 1, bytes := 24, zero := .c (.sl none 0 0) }),
  (26, { d := .ptr 57, size := 1, bytes := 8, zero := .c (.raw (.pointer none)) }),
  (32, { d := .sl 81, size := 1, bytes := 24, zero := .c (.sl none 0 0) }),
  (33, { d := .sl 23, size := 1, bytes := 24, zero := .c (.sl none 0 0) }),
  (39, { d := .sl 42, size := 1, bytes := 24, zero := .c (.sl none 0 0) }),
  (41, { d := .st [(0, 3), (1, 9), (2, 9), (3, 9)], size := 4, bytes := 56, zero := .agg [.i .i64 0, .s [], .s [], .s []] }),
  (42, { d := .st [(0, 3), (1, 9), (2, 9), (3, 9)], size := 4, bytes := 56, zero := .agg [.i .i64 0, .s [], .s [], .s []] }),
  (43, { d := .sl 89, size := 1, bytes := 24, zero := .c (.sl none 0 0) }),
  (56, { d := .st [(0, 24), (1, 3)], size := 2, bytes := 32, zero := .agg [.sl none 0 0, .i .i64 0] }),
  (57, { d := .st [(0, 24), (1, 3)], size := 2, bytes := 32, zero := .agg [.sl none 0 0, .i .i64 0] }),
  (60, { d := .sl 9, size := 1, bytes := 24, zero := .c (.sl none 0 0) }),
  (61, { d := .ptr 130, size := 1, bytes := 8, zero := .c (.raw (.pointer none)) }),
  (63, { d := .ptr 66, size := 1, bytes := 8, zero := .c (.raw (.pointer none)) }),
  (64, { d := .sl 5, size := 1, bytes := 24, zero := .c (.sl none 0 0) }),
  (65, { d := .st [(0, 63), (1, 64)], size := 2, bytes := 32, zero := .agg [.raw (.pointer none), .sl none 0 0] }),
  (66, { d := .st [(0, 63), (1, 64)], size := 2, bytes := 32, zero := .agg [.raw (.pointer none), .sl none 0 0] }),
  (67, { d := .ifc, size := 1, bytes := 16, zero := .c (.raw .nilIface) }),
  (68, { d := .ifc, size := 1, bytes := 16, zero := .c (.raw .nilIface) }),
  (74, { d := .int .u64, size := 1, bytes := 8, zero := .c (.i .u64 0) }),
  (79, { d := .sl 102, size := 1, bytes := 24, zero := .c (.sl none 0 0) }),
  (80, { d := .st [(0, 3), (1, 3), (2, 9), (3, 79), (4, 32)], size := 5, bytes := 80, zero := .agg [.i .i64 0, .i .i64 0, .s [], .sl none 0 0, .sl none 0 0] }),
  (81, { d := .st [(0, 3), (1, 3), (2, 9), (3, 79), (4, 32)], size := 5, bytes := 80, zero := .agg [.i .i64 0, .i .i64 0, .s [], .sl none 0 0, .sl none 0 0] }),
  (83, { d := .ptr 87, size := 1, bytes := 8, zero := .c (.raw (.pointer none)) }),
  (84, { d := .mp 23 4, size := 1, bytes := 8, zero := .c (.raw (.map none)) }),
  (86, { d := .st [(0, 66), (2, 84), (3, 24), (4, 3), (5, 39), (6, 3)], size := 7, bytes := 104, zero := .agg [.raw (.pointer none), .sl none 0 0, .raw (.map none), .sl none 0 0, .i .i64 0, .sl none 0 0, .i .i64 0] }),
  (87, { d := .st [(0, 66), (2, 84), (3, 24), (4, 3), (5, 39), (6, 3)], size := 7, bytes := 104, zero := .agg [.raw (.pointer none), .sl none 0 0, .raw (.map none), .sl none 0 0, .i .i64 0, .sl none 0 0, .i .i64 0] }),
  (88, { d := .st [(0, 9), (1, 79), (2, 24)], size := 3, bytes := 64, zero := .agg [.s [], .sl none 0 0, .sl none 0 0] }),
  (89, { d := .st [(0, 9), (1, 79), (2, 24)], size := 3, bytes := 64, zero := .agg [.s [], .sl none 0 0, .sl none 0 0] }),
  (92, { d := .ptr 94, size := 1, bytes := 8, zero := .c (.raw (.pointer none)) }),
  (93, { d := .st [(0, 33), (1, 24), (2, 3), (3, 39), (4, 3), (5, 4)], size := 6, bytes := 96, zero := .agg [.sl none 0 0, .sl none 0 0, .i .i64 0, .sl none 0 0, .i .i64 0, .b false] }),
  (94, { d := .st [(0, 33), (1, 24), (2, 3), (3, 39), (4, 3), (5, 4)], size := 6, bytes := 96, zero := .agg [.sl none 0 0, .sl none 0 0, .i .i64 0, .sl none 0 0, .i .i64 0, .b false] }),
  (97, { d := .mp 9 4, size := 1, bytes := 8, zero := .c (.raw (.map none)) }),
  (98, { d := .mp 3 3, size := 1, bytes := 8, zero := .c (.raw (.map none)) }),
  (100, { d := .mp 9 3, size := 1, bytes := 8, zero := .c (.raw (.map none)) }),
  (101, { d := .st [(0, 3), (1, 9), (2, 23), (4, 9), (5, 79)], size := 6, bytes := 88, zero := .agg [.i .i64 0, .s [], .i .i64 0, .s [], .s [], .sl none 0 0] }),
  (102, { d := .st [(0, 3), (1, 9), (2, 23), (4, 9), (5, 79)], size := 6, bytes := 88, zero := .agg [.i .i64 0, .s [], .i .i64 0, .s [], .s [], .sl none 0 0] }),
  (104, { d := .ptr 89, size := 1, bytes := 8, zero := .c (.raw (.pointer none)) }),
  (118, { d := .int .u32, size := 1, bytes := 4, zero := .c (.i .u32 0) }),
  (119, { d := .so [(0, 117), (0, 118)], size := 1, bytes := 4, zero := .agg [.i .u32 0] }),
  (120, { d := .so [(0, 117), (0, 118)], size := 1, bytes := 4, zero := .agg [.i .u32 0] }),
  (122, { d := .st [(0, 21), (1, 118)], size := 2, bytes := 8, zero := .agg [.i .i32 0, .i .u32 0] }),
  (123, { d := .so [(0, 116), (0, 122)], size := 2, bytes := 8, zero := .agg [.i .i32 0, .i .u32 0] }),
  (124, { d := .so [(0, 116), (0, 122)], size := 2, bytes := 8, zero := .agg [.i .i32 0, .i .u32 0] }),
  (125, { d := .so [(0, 116), (0, 120), (1, 124)], size := 3, bytes := 12, zero := .agg [.i .u32 0, .i .i32 0, .i .u32 0] }),
  (126, { d := .so [(0, 116), (0, 120), (1, 124)], size := 3, bytes := 12, zero := .agg [.i .u32 0, .i .i32 0, .i .u32 0] }),
  (127, { d := .ifc, size := 1, bytes := 16, zero := .c (.raw .nilIface) }),
  (128, { d := .ifc, size := 1, bytes := 16, zero := .c (.raw .nilIface) }),
  (129, { d := .so [(0, 126), (3, 128), (4, 60)], size := 5, bytes := 56, zero := .agg [.i .u32 0, .i .i32 0, .i .u32 0, .raw .nilIface, .sl none 0 0] }),
  (130, { d := .so [(0, 126), (3, 128), (4, 60)], size := 5, bytes := 56, zero := .agg [.i .u32 0, .i .i32 0, .i .u32 0, .raw .nilIface, .sl none 0 0] }),
  (132, { d := .arr 6 9, size := 6, bytes := 96, zero := .agg [.s [], .s [], .s [], .s [], .s [], .s []] }),
  (134, { d := .ptr 5, size := 1, bytes := 8, zero := .c (.raw (.pointer none)) }),
  (160, { d := .ptr 126, size := 1, bytes := 8, zero := .c (.raw (.pointer none)) }),
  (162, { d := .up, size := 1, bytes := 8, zero := .c (.raw (.pointer none)) }),
  (173, { d := .ptr 147, size := 1, bytes := 8, zero := .c (.raw (.pointer none)) }),
  (176, { d := .int .i64, size := 1, bytes := 8, zero := .c (.i .i64 0) }),
  (184, { d := .int .u64, size := 1, bytes := 8, zero := .c (.i .u64 0) }),
  (186, { d := .ptr 120, size := 1, bytes := 8, zero := .c (.raw (.pointer none)) }),
  (188, { d := .ptr 118, size := 1, bytes := 8, zero := .c (.raw (.pointer none)) }),
  (190, { d := .ptr 229, size := 1, bytes := 8, zero := .c (.raw (.pointer none)) }),
  (192, { d := .ptr 235, size := 1, bytes := 8, zero := .c (.raw (.pointer none)) }),
  (196, { d := .ptr 195, size := 1, bytes := 8, zero := .c (.raw (.pointer none)) }),
  (197, { d := .arr 256 64, size := 256, bytes := 6144, zero := .agg [.sl none 0 0, .sl none 0 0, .sl none 0 0, .sl none 0 0, .sl none 0 0, .sl none 0 0, .sl none 0 0, .sl none 0 0, .sl none 0 0, .sl none 0 0, .sl none 0 0, .sl none 0 0, .sl none 0 0, .sl none 0 0, .sl none 0 0, .sl none 0 0, .sl none 0 0, .sl none 0 0, .sl none 0 0, .sl none 0 0, .sl none 0 0, .sl none 0 0, .sl none 0 0, .sl none 0 0, .sl none 0 0, .sl none 0 0, .sl none 0 0, .sl none 0 0, .sl none 0 0, .sl none 0 0, .sl none 0 0, .sl none 0 0, .sl none 0 0, .sl none 0 0, .sl none 0 0, .sl none 0 0, .sl none 0 0, .sl none 0 0, .sl none 0 0, .sl none 0 0, .sl none 0 0, .sl none 0 0, .sl none 0 0, .sl none 0 0, .sl none 0 0, .sl none 0 0, .sl none 0 0, .sl none 0 0, .sl none 0 0, .sl none 0 0, .sl none 0 0, .sl none 0 0, .sl none 0 0, .sl none 0 0, .sl none 0 0, .sl none 0 0, .sl none 0 0, .sl none 0 0, .sl none 0 0, .sl none 0 0, .sl none 0 0, .sl none 0 0, .sl none 0 0, .sl none 0 0, .sl none 0 0, .sl none 0 0, .sl none 0 0, .sl none 0 0, .sl none 0 0, .sl none 0 0, .sl none 0 0, .sl none 0 0, .sl none 0 0, .sl none 0 0, .sl none 0 0, .sl none 0 0, .sl none 0 0, .sl none 0 0, .sl none 0 0, .sl none 0 0, .sl none 0 0, .sl none 0 0, .sl none 0 0, .sl none 0 0, .sl none 0 0, .sl none 0 0, .sl none 0 0, .sl none 0 0, .sl none 0 0, .sl none 0 0, .sl none 0 0, .sl none 0 0, .sl none 0 0, .sl none 0 0, .sl none 0 0, .sl none 0 0, .sl none 0 0, .sl none 0 0, .sl none 0 0, .sl none 0 0, .sl none 0 0, .sl none 0 0, .sl none 0 0, .sl none 0 0, .sl none 0 0, .sl none 0 0, .sl none 0 0, .sl none 0 0, .sl none 0 0, .sl none 0 0, .sl none 0 0, .sl none 0 0, .sl none 0 0, .sl none 0 0, .sl none 0 0, .sl none 0 0, .sl none 0 0, .sl none 0 0, .sl none 0 0, .sl none 0 0, .sl none 0 0, .sl none 0 0, .sl none 0 0, .sl none 0 0, .sl none 0 0, .sl none 0 0, .sl none 0 0, .sl none 0 0, .sl none 0 0, .sl none 0 0, .sl none 0 0, .sl none 0 0, .sl none 0 0, .sl none 0 0, .sl none 0 0, .sl none 0 0, .sl none 0 0, .sl none 0 0, .sl none 0 0, .sl none 0 0, .sl none 0 0, .sl none 0 0, .sl none 0 0, .sl none 0 0, .sl none 0 0, .sl none 0 0, .sl none 0 0, .sl none 0 0, .sl none 0 0, .sl none 0 0, .sl none 0 0, .sl none 0 0, .sl none 0 0, .sl none 0 0, .sl none 0 0, .sl none 0 0, .sl none 0 0, .sl none 0 0, .sl none 0 0, .sl none 0 0, .sl none 0 0, .sl none 0 0, .sl none 0 0, .sl none 0 0, .sl none 0 0, .sl none 0 0, .sl none 0 0, .sl none 0 0, .sl none 0 0, .sl none 0 0, .sl none 0 0, .sl none 0 0, .sl none 0 0, .sl none 0 0, .sl none 0 0, .sl none 0 0, .sl none 0 0, .sl none 0 0, .sl none 0 0, .sl none 0 0, .sl none 0 0, .sl none 0 0, .sl none 0 0, .sl none 0 0, .sl none 0 0, .sl none 0 0, .sl none 0 0, .sl none 0 0, .sl none 0 0, .sl none 0 0, .sl none 0 0, .sl none 0 0, .sl none 0 0, .sl none 0 0, .sl none 0 0, .sl none 0 0, .sl none 0 0, .sl none 0 0, .sl none 0 0, .sl none 0 0, .sl none 0 0, .sl none 0 0, .sl none 0 0, .sl none 0 0, .sl none 0 0, .sl none 0 0, .sl none 0 0, .sl none 0 0, .sl none 0 0, .sl none 0 0, .sl none 0 0, .sl none 0 0, .sl none 0 0, .sl none 0 0, .sl none 0 0, .sl none 0 0, .sl none 0 0, .sl none 0 0, .sl none 0 0, .sl none 0 0, .sl none 0 0, .sl none 0 0, .sl none 0 0, .sl none 0 0, .sl none 0 0, .sl none 0 0, .sl none 0 0, .sl none 0 0, .sl none 0 0, .sl none 0 0, .sl none 0 0, .sl none 0 0, .sl none 0 0, .sl none 0 0, .sl none 0 0, .sl none 0 0, .sl none 0 0, .sl none 0 0, .sl none 0 0, .sl none 0 0, .sl none 0 0, .sl none 0 0, .sl none 0 0, .sl none 0 0, .sl none 0 0, .sl none 0 0, .sl none 0 0, .sl none 0 0, .sl none 0 0, .sl none 0 0, .sl none 0 0, .sl none 0 0, .sl none 0 0, .sl none 0 0, .sl none 0 0, .sl none 0 0] }),
  (199, { d := .st [(0, 197), (256, 60)], size := 257, bytes := 6168, zero := .agg [.sl none 0 0, .sl none 0 0, .sl none 0 0, .sl none 0 0, .sl none 0 0, .sl none 0 0, .sl none 0 0, .sl none 0 0, .sl none 0 0, .sl none 0 0, .sl none 0 0, .sl none 0 0, .sl none 0 0, .sl none 0 0, .sl none 0 0, .sl none 0 0, .sl none 0 0, .sl none 0 0, .sl none 0 0, .sl none 0 0, .sl none 0 0, .sl none 0 0, .sl none 0 0, .sl none 0 0, .sl none 0 0, .sl none 0 0, .sl none 0 0, .sl none 0 0, .sl none 0 0, .sl none 0 0, .sl none 0 0, .sl none 0 0, .sl none 0 0, .sl none 0 0, .sl none 0 0, .sl none 0 0, .sl none 0 0, .sl none 0 0, .sl none 0 0, .sl none 0 0, .sl none 0 0, .sl none 0 0, .sl none 0 0, .sl none 0 0, .sl none 0 0, .sl none 0 0, .sl none 0 0, .sl none 0 0, .sl none 0 0, .sl none 0 0, .sl none 0 0, .sl none 0 0, .sl none 0 0, .sl none 0 0, .sl none 0 0, .sl none 0 0, .sl none 0 0, .sl none 0 0, .sl none 0 0, .sl none 0 0, .sl none 0 0, .sl none 0 0, .sl none 0 0, .sl none 0 0, .sl none 0 0, .sl none 0 0, .sl none 0 0, .sl none 0 0, .sl none 0 0, .sl none 0 0, .sl none 0 0, .sl none 0 0, .sl none 0 0, .sl none 0 0, .sl none 0 0, .sl none 0 0, .sl none 0 0, .sl none 0 0, .sl none 0 0, .sl none 0 0, .sl none 0 0, .sl none 0 0, .sl none 0 0, .sl none 0 0, .sl none 0 0, .sl none 0 0, .sl none 0 0, .sl none 0 0, .sl none 0 0, .sl none 0 0, .sl none 0 0, .sl none 0 0, .sl none 0 0, .sl none 0 0, .sl none 0 0, .sl none 0 0, .sl none 0 0, .sl none 0 0, .sl none 0 0, .sl none 0 0, .sl none 0 0, .sl none 0 0, .sl none 0 0, .sl none 0 0, .sl none 0 0, .sl none 0 0, .sl none 0 0, .sl none 0 0, .sl none 0 0, .sl none 0 0, .sl none 0 0, .sl none 0 0, .sl none 0 0, .sl none 0 0, .sl none 0 0, .sl none 0 0, .sl none 0 0, .sl none 0 0, .sl none 0 0, .sl none 0 0, .sl none 0 0, .sl none 0 0, .sl none 0 0, .sl none 0 0, .sl none 0 0, .sl none 0 0, .sl none 0 0, .sl none 0 0, .sl none 0 0, .sl none 0 0, .sl none 0 0, .sl none 0 0, .sl none 0 0, .sl none 0 0, .sl none 0 0, .sl none 0 0, .sl none 0 0, .sl none 0 0, .sl none 0 0, .sl none 0 0, .sl none 0 0, .sl none 0 0, .sl none 0 0, .sl none 0 0, .sl none 0 0, .sl none 0 0, .sl none 0 0, .sl none 0 0, .sl none 0 0, .sl none 0 0, .sl none 0 0, .sl none 0 0, .sl none 0 0, .sl none 0 0, .sl none 0 0, .sl none 0 0, .sl none 0 0, .sl none 0 0, .sl none 0 0, .sl none 0 0, .sl none 0 0, .sl none 0 0, .sl none 0 0, .sl none 0 0, .sl none 0 0, .sl none 0 0, .sl none 0 0, .sl none 0 0, .sl none 0 0, .sl none 0 0, .sl none 0 0, .sl none 0 0, .sl none 0 0, .sl none 0 0, .sl none 0 0, .sl none 0 0, .sl none 0 0, .sl none 0 0, .sl none 0 0, .sl none 0 0, .sl none 0 0, .sl none 0 0, .sl none 0 0, .sl none 0 0, .sl none 0 0, .sl none 0 0, .sl none 0 0, .sl none 0 0, .sl none 0 0, .sl none 0 0, .sl none 0 0, .sl none 0 0, .sl none 0 0, .sl none 0 0, .sl none 0 0, .sl none 0 0, .sl none 0 0, .sl none 0 0, .sl none 0 0, .sl none 0 0, .sl none 0 0, .sl none 0 0, .sl none 0 0, .sl none 0 0, .sl none 0 0, .sl none 0 0, .sl none 0 0, .sl none 0 0, .sl none 0 0, .sl none 0 0, .sl none 0 0, .sl none 0 0, .sl none 0 0, .sl none 0 0, .sl none 0 0, .sl none 0 0, .sl none 0 0, .sl none 0 0, .sl none 0 0, .sl none 0 0, .sl none 0 0, .sl none 0 0, .sl none 0 0, .sl none 0 0, .sl none 0 0, .sl none 0 0, .sl none 0 0, .sl none 0 0, .sl none 0 0, .sl none 0 0, .sl none 0 0, .sl none 0 0, .sl none 0 0, .sl none 0 0, .sl none 0 0, .sl none 0 0, .sl none 0 0, .sl none 0 0, .sl none 0 0, .sl none 0 0, .sl none 0 0, .sl none 0 0, .sl none 0 0, .sl none 0 0, .sl none 0 0, .sl none 0 0, .sl none 0 0, .sl none 0 0, .sl none 0 0, .sl none 0 0, .sl none 0 0, .sl none 0 0, .sl none 0 0, .sl none 0 0, .sl none 0 0, .sl none 0 0, .sl none 0 0] }),
  (200, { d := .ptr 199, size := 1, bytes := 8, zero := .c (.raw (.pointer none)) }),
  (207, { d := .arr 24 5, size := 24, bytes := 24, zero := .agg [.i .u8 0, .i .u8 0, .i .u8 0, .i .u8 0, .i .u8 0, .i .u8 0, .i .u8 0, .i .u8 0, .i .u8 0, .i .u8 0, .i .u8 0, .i .u8 0, .i .u8 0, .i .u8 0, .i .u8 0, .i .u8 0, .i .u8 0, .i .u8 0, .i .u8 0, .i .u8 0, .i .u8 0, .i .u8 0, .i .u8 0, .i .u8 0] }),
  (213, { d := .int .u64, size := 1, bytes := 8, zero := .c (.i .u64 0) }),
  (217, { d := .ptr 3, size := 1, bytes := 8, zero := .c (.raw (.pointer none)) }),
  (220, { d := .st [(0, 5), (1, 5)], size := 2, bytes := 2, zero := .agg [.i .u8 0, .i .u8 0] }),
  (221, { d := .st [(0, 5), (1, 5)], size := 2, bytes := 2, zero := .agg [.i .u8 0, .i .u8 0] }),
  (222, { d := .arr 16 221, size := 32, bytes := 32, zero := .agg [.i .u8 0, .i .u8 0, .i .u8 0, .i .u8 0, .i .u8 0, .i .u8 0, .i .u8 0, .i .u8 0, .i .u8 0, .i .u8 0, .i .u8 0, .i .u8 0, .i .u8 0, .i .u8 0, .i .u8 0, .i .u8 0, .i .u8 0, .i .u8 0, .i .u8 0, .i .u8 0, .i .u8 0, .i .u8 0, .i .u8 0, .i .u8 0, .i .u8 0, .i .u8 0, .i .u8 0, .i .u8 0, .i .u8 0, .i .u8 0, .i .u8 0, .i .u8 0] }),
  (223, { d := .ptr 124, size := 1, bytes := 8, zero := .c (.raw (.pointer none)) }),
  (226, { d := .ptr 251, size := 1, bytes := 8, zero := .c (.raw (.pointer none)) }),
  (228, { d := .st [(0, 226), (1, 9)], size := 2, bytes := 24, zero := .agg [.raw (.pointer none), .s []] }),
  (229, { d := .st [(0, 226), (1, 9)], size := 2, bytes := 24, zero := .agg [.raw (.pointer none), .s []] }),
  (230, { d := .ptr 233, size := 1, bytes := 8, zero := .c (.raw (.pointer none)) }),
  (231, { d := .sl 230, size := 1, bytes := 24, zero := .c (.sl none 0 0) }),
  (232, { d := .st [(0, 9), (1, 3), (2, 9), (3, 230), (4, 231)], size := 5, bytes := 72, zero := .agg [.s [], .i .i64 0, .s [], .raw (.pointer none), .sl none 0 0] }),
  (233, { d := .st [(0, 9), (1, 3), (2, 9), (3, 230), (4, 231)], size := 5, bytes := 72, zero := .agg [.s [], .i .i64 0, .s [], .raw (.pointer none), .sl none 0 0] }),
  (239, { d := .arr 20 184, size := 20, bytes := 160, zero := .agg [.i .u64 0, .i .u64 0, .i .u64 0, .i .u64 0, .i .u64 0, .i .u64 0, .i .u64 0, .i .u64 0, .i .u64 0, .i .u64 0, .i .u64 0, .i .u64 0, .i .u64 0, .i .u64 0, .i .u64 0, .i .u64 0, .i .u64 0, .i .u64 0, .i .u64 0, .i .u64 0] }),
  (241, { d := .ptr 213, size := 1, bytes := 8, zero := .c (.raw (.pointer none)) }),
  (243, { d := .ptr 122, size := 1, bytes := 8, zero := .c (.raw (.pointer none)) }),
  (245, { d := .ptr 21, size := 1, bytes := 8, zero := .c (.raw (.pointer none)) }),
  (255, { d := .arr 32 5, size := 32, bytes := 32, zero := .agg [.i .u8 0, .i .u8 0, .i .u8 0, .i .u8 0, .i .u8 0, .i .u8 0, .i .u8 0, .i .u8 0, .i .u8 0, .i .u8 0, .i .u8 0, .i .u8 0, .i .u8 0, .i .u8 0, .i .u8 0, .i .u8 0, .i .u8 0, .i .u8 0, .i .u8 0, .i .u8 0, .i .u8 0, .i .u8 0, .i .u8 0, .i .u8 0, .i .u8 0, .i .u8 0, .i .u8 0, .i .u8 0, .i .u8 0, .i .u8 0, .i .u8 0, .i .u8 0] }),
  (256, { d := .arr 64 5, size := 64, bytes := 64, zero := .agg [.i .u8 0, .i .u8 0, .i .u8 0, .i .u8 0, .i .u8 0, .i .u8 0, .i .u8 0, .i .u8 0, .i .u8 0, .i .u8 0, .i .u8 0, .i .u8 0, .i .u8 0, .i .u8 0, .i .u8 0, .i .u8 0, .i .u8 0, .i .u8 0, .i .u8 0, .i .u8 0, .i .u8 0, .i .u8 0, .i .u8 0, .i .u8 0, .i .u8 0, .i .u8 0, .i .u8 0, .i .u8 0, .i .u8 0, .i .u8 0, .i .u8 0, .i .u8 0, .i .u8 0, .i .u8 0, .i .u8 0, .i .u8 0, .i .u8 0, .i .u8 0, .i .u8 0, .i .u8 0, .i .u8 0, .i .u8 0, .i .u8 0, .i .u8 0, .i .u8 0, .i .u8 0, .i .u8 0, .i .u8 0, .i .u8 0, .i .u8 0, .i .u8 0, .i .u8 0, .i .u8 0, .i .u8 0, .i .u8 0, .i .u8 0, .i .u8 0, .i .u8 0, .i .u8 0, .i .u8 0, .i .u8 0, .i .u8 0, .i .u8 0, .i .u8 0] }),
  (270, { d := .sl 5, size := 1, bytes := 24, zero := .c (.sl none 0 0) }),
  (271, { d := .ptr 270, size := 1, bytes := 8, zero := .c (.raw (.pointer none)) }),
  (272, { d := .ifc, size := 1, bytes := 16, zero := .c (.raw .nilIface) }),
  (273, { d := .ifc, size := 1, bytes := 16, zero := .c (.raw .nilIface) }),
  (274, { d := .ifc, size := 1, bytes := 16, zero := .c (.raw .nilIface) }),
  (275, { d := .ifc, size := 1, bytes := 16, zero := .c (.raw .nilIface) }),
  (280, { d := .so [(0, 273)], size := 1, bytes := 16, zero := .agg [.raw .nilIface] }),
  (281, { d := .so [(0, 273)], size := 1, bytes := 16, zero := .agg [.raw .nilIface] })]

theorem tyok2 : TyI.ok Tryz.prog 2 { d := .int .i64, size := 1, bytes := 8, zero := .c (.i .i64 0) } := ⟨by kernel_rfl, by kernel_rfl, .inr rfl, (by show Program.underlying _ _ = _; kernel_rfl)⟩
theorem tyok3 : TyI.ok Tryz.prog 3 { d := .int .i64, size := 1, bytes := 8, zero := .c (.i .i64 0) } := ⟨by kernel_rfl, by kernel_rfl, .inr rfl, (by show Program.underlying _ _ = _; kernel_rfl)⟩
theorem tyok4 : TyI.ok Tryz.prog 4 { d := .bool, size := 1, bytes := 1, zero := .c (.b false) } := ⟨by kernel_rfl, by kernel_rfl, .inr rfl, (by show Program.underlying _ _ = _; kernel_rfl)⟩
theorem tyok5 : TyI.ok Tryz.prog 5 { d := .int .u8, size := 1, bytes := 1, zero := .c (.i .u8 0) } := ⟨by kernel_rfl, by kernel_rfl, .inr rfl, (by show Program.underlying _ _ = _; kernel_rfl)⟩
theorem tyok9 : TyI.ok Tryz.prog 9 { d := .str, size := 1, bytes := 16, zero := .c (.s []) } := ⟨by kernel_rfl, by kernel_rfl, .inr rfl, (by show Program.underlying _ _ = _; kernel_rfl)⟩
theorem tyok12 : TyI.ok Tryz.prog 12 { d := .int .u64, size := 1, bytes := 8, zero := .c (.i .u64 0) } := ⟨by kernel_rfl, by kernel_rfl, .inr rfl, (by show Program.underlying _ _ = _; kernel_rfl)⟩
theorem tyok20 : TyI.ok Tryz.prog 20 { d := .ifc, size := 1, bytes := 16, zero := .c (.raw .nilIface) } := ⟨by kernel_rfl, by kernel_rfl, .inr rfl, ifc_ok (by kernel_rfl)⟩
theorem tyok21 : TyI.ok Tryz.prog 21 { d := .int .i32, size := 1, bytes := 4, zero := .c (.i .i32 0) } := ⟨by kernel_rfl, by kernel_rfl, .inr rfl, (by show Program.underlying _ _ = _; kernel_rfl)⟩
theorem tyok22 : TyI.ok Tryz.prog 22 { d := .st [(0, 3), (1, 9)], size := 2, bytes := 24, zero := .agg [.i .i64 0, .s []] } := ⟨by kernel_rfl, by kernel_rfl, .inl rfl, ⟨by kernel_rfl, by kernel_rfl, by kernel_rfl, by kernel_rfl, by kernel_rfl⟩⟩
theorem tyok23 : TyI.ok Tryz.prog 23 { d := .st [(0, 3), (1, 9)], size := 2, bytes := 24, zero := .agg [.i .i64 0, .s []] } := ⟨by kernel_rfl, by kernel_rfl, .inl rfl, ⟨by kernel_rfl, by kernel_rfl, by kernel_rfl, by kernel_rfl, by kernel_rfl⟩⟩
theorem tyok24 : TyI.ok Tryz.prog 24 { d := .sl 3, size := 1, bytes := 24, zero := .c (.sl none 0 0) } := ⟨by kernel_rfl, by kernel_rfl, .inr rfl, (by show Program.underlying _ _ = _; kernel_rfl)⟩
theorem tyok26 : TyI.ok Tryz.prog 26 { d := .ptr 57, size := 1, bytes := 8, zero := .c (.raw (.pointer none)) } := ⟨by kernel_rfl, by kernel_rfl, .inr rfl, (by show Program.underlying _ _ = _; kernel_rfl)⟩
theorem tyok32 : TyI.ok Tryz.prog 32 { d := .sl 81, size := 1, bytes := 24, zero := .c (.sl none 0 0) } := ⟨by kernel_rfl, by kernel_rfl, .inr rfl, (by show Program.underlying _ _ = _; kernel_rfl)⟩
theorem tyok33 : TyI.ok Tryz.prog 33 { d := .sl 23, size := 1, bytes := 24, zero := .c (.sl none 0 0) } := ⟨by kernel_rfl, by kernel_rfl, .inr rfl, (by show Program.underlying _ _ = _; kernel_rfl)⟩
theorem tyok39 : TyI.ok Tryz.prog 39 { d := .sl 42, size := 1, bytes := 24, zero := .c (.sl none 0 0) } := ⟨by kernel_rfl, by kernel_rfl, .inr rfl, (by show Program.underlying _ _ = _; kernel_rfl)⟩
theorem tyok41 : TyI.ok Tryz.prog 41 { d := .st [(0, 3), (1, 9), (2, 9), (3, 9)], size := 4, bytes := 56, zero := .agg [.i .i64 0, .s [], .s [], .s []] } := ⟨by kernel_rfl, by kernel_rfl, .inl rfl, ⟨by kernel_rfl, by kernel_rfl, by kernel_rfl, by kernel_rfl, by kernel_rfl⟩⟩
theorem tyok42 : TyI.ok Tryz.prog 42 { d := .st [(0, 3), (1, 9), (2, 9), (3, 9)], size := 4, bytes := 56, zero := .agg [.i .i64 0, .s [], .s [], .s []] } := ⟨by kernel_rfl, by kernel_rfl, .inl rfl, ⟨by kernel_rfl, by kernel_rfl, by kernel_rfl, by kernel_rfl, by kernel_rfl⟩⟩
theorem tyok43 : TyI.ok Tryz.prog 43 { d := .sl 89, size := 1, bytes := 24, zero := .c (.sl none 0 0) } := ⟨by kernel_rfl, by kernel_rfl, .inr rfl, (by show Program.underlying _ _ = _; kernel_rfl)⟩
theorem tyok56 : TyI.ok Tryz.prog 56 { d := .st [(0, 24), (1, 3)], size := 2, bytes := 32, zero := .agg [.sl none 0 0, .i .i64 0] } := ⟨by kernel_rfl, by kernel_rfl, .inl rfl, ⟨by kernel_rfl, by kernel_rfl, by kernel_rfl, by kernel_rfl, by kernel_rfl⟩⟩
theorem tyok57 : TyI.ok Tryz.prog 57 { d := .st [(0, 24), (1, 3)], size := 2, bytes := 32, zero := .agg [.sl none 0 0, .i .i64 0] } := ⟨by kernel_rfl, by kernel_rfl, .inl rfl, ⟨by kernel_rfl, by kernel_rfl, by kernel_rfl, by kernel_rfl, by kernel_rfl⟩⟩
theorem tyok60 : TyI.ok Tryz.prog 60 { d := .sl 9, size := 1, bytes := 24, zero := .c (.sl none 0 0) } := ⟨by kernel_rfl, by kernel_rfl, .inr rfl, (by show Program.underlying _ _ = _; kernel_rfl)⟩
theorem tyok61 : TyI.ok Tryz.prog 61 { d := .ptr 130, size := 1, bytes := 8, zero := .c (.raw (.pointer none)) } := ⟨by kernel_rfl, by kernel_rfl, .inr rfl, (by show Program.underlying _ _ = _; kernel_rfl)⟩
theorem tyok63 : TyI.ok Tryz.prog 63 { d := .ptr 66, size := 1, bytes := 8, zero := .c (.raw (.pointer none)) } := ⟨by kernel_rfl, by kernel_rfl, .inr rfl, (by show Program.underlying _ _ = _; kernel_rfl)⟩
theorem tyok64 : TyI.ok Tryz.prog 64 { d := .sl 5, size := 1, bytes := 24, zero := .c (.sl none 0 0) } := ⟨by kernel_rfl, by kernel_rfl, .inr rfl, (by show Program.underlying _ _ = _; kernel_rfl)⟩
theorem tyok65 : TyI.ok Tryz.prog 65 { d := .st [(0, 63), (1, 64)], size := 2, bytes := 32, zero := .agg [.raw (.pointer none), .sl none 0 0] } := ⟨by kernel_rfl, by kernel_rfl, .inl rfl, ⟨by kernel_rfl, by kernel_rfl, by kernel_rfl, by kernel_rfl, by kernel_rfl⟩⟩
theorem tyok66 : TyI.ok Tryz.prog 66 { d := .st [(0, 63), (1, 64)], size := 2, bytes := 32, zero := .agg [.raw (.pointer none), .sl none 0 0] } := ⟨by kernel_rfl, by kernel_rfl, .inl rfl, ⟨by kernel_rfl, by kernel_rfl, by kernel_rfl, by kernel_rfl, by kernel_rfl⟩⟩
theorem tyok67 : TyI.ok Tryz.prog 67 { d := .ifc, size := 1, bytes := 16, zero := .c (.raw .nilIface) } := ⟨by kernel_rfl, by kernel_rfl, .inr rfl, ifc_ok (by kernel_rfl)⟩
theorem tyok68 : TyI.ok Tryz.prog 68 { d := .ifc, size := 1, bytes := 16, zero := .c (.raw .nilIface) } := ⟨by kernel_rfl, by kernel_rfl, .inr rfl, ifc_ok (by kernel_rfl)⟩
theorem tyok74 : TyI.ok Tryz.prog 74 { d := .int .u64, size := 1, bytes := 8, zero := .c (.i .u64 0) } := ⟨by kernel_rfl, by kernel_rfl, .inr rfl, (by show Program.underlying _ _ = _; kernel_rfl)⟩
theorem tyok79 : TyI.ok Tryz.prog 79 { d := .sl 102, size := 1, bytes := 24, zero := .c (.sl none 0 0) } := ⟨by kernel_rfl, by kernel_rfl, .inr rfl, (by show Program.underlying _ _ = _; kernel_rfl)⟩
theorem tyok80 : TyI.ok Tryz.prog 80 { d := .st [(0, 3), (1, 3), (2, 9), (3, 79), (4, 32)], size := 5, bytes := 80, zero := .agg [.i .i64 0, .i .i64 0, .s [], .sl none 0 0, .sl none 0 0] } := ⟨by kernel_rfl, by kernel_rfl, .inl rfl, ⟨by kernel_rfl, by kernel_rfl, by kernel_rfl, by kernel_rfl, by kernel_rfl⟩⟩
theorem tyok81 : TyI.ok Tryz.prog 81 { d := .st [(0, 3), (1, 3), (2, 9), (3, 79), (4, 32)], size := 5, bytes := 80, zero := .agg [.i .i64 0, .i .i64 0, .s [], .sl none 0 0, .sl none 0 0] } := ⟨by kernel_rfl, by kernel_rfl, .inl rfl, ⟨by kernel_rfl, by kernel_rfl, by kernel_rfl, by kernel_rfl, by kernel_rfl⟩⟩
theorem tyok83 : TyI.ok Tryz.prog 83 { d := .ptr 87, size := 1, bytes := 8, zero := .c (.raw (.pointer none)) } := ⟨by kernel_rfl, by kernel_rfl, .inr rfl, (by show Program.underlying _ _ = _; kernel_rfl)⟩
theorem tyok84 : TyI.ok Tryz.prog 84 { d := .mp 23 4, size := 1, bytes := 8, zero := .c (.raw (.map none)) } := ⟨by kernel_rfl, by kernel_rfl, .inr rfl, (by show Program.underlying _ _ = _; kernel_rfl)⟩
theorem tyok86 : TyI.ok Tryz.prog 86 { d := .st [(0, 66), (2, 84), (3, 24), (4, 3), (5, 39), (6, 3)], size := 7, bytes := 104, zero := .agg [.raw (.pointer none), .sl none 0 0, .raw (.map none), .sl none 0 0, .i .i64 0, .sl none 0 0, .i .i64 0] } := ⟨by kernel_rfl, by kernel_rfl, .inl rfl, ⟨by kernel_rfl, by kernel_rfl, by kernel_rfl, by kernel_rfl, by kernel_rfl⟩⟩
theorem tyok87 : TyI.ok Tryz.prog 87 { d := .st [(0, 66), (2, 84), (3, 24), (4, 3), (5, 39), (6, 3)], size := 7, bytes := 104, zero := .agg [.raw (.pointer none), .sl none 0 0, .raw (.map none), .sl none 0 0, .i .i64 0, .sl none 0 0, .i .i64 0] } := ⟨by kernel_rfl, by kernel_rfl, .inl rfl, ⟨by kernel_rfl, by kernel_rfl, by kernel_rfl, by kernel_rfl, by kernel_rfl⟩⟩
theorem tyok88 : TyI.ok Tryz.prog 88 { d := .st [(0, 9), (1, 79), (2, 24)], size := 3, bytes := 64, zero := .agg [.s [], .sl none 0 0, .sl none 0 0] } := ⟨by kernel_rfl, by kernel_rfl, .inl rfl, ⟨by kernel_rfl, by kernel_rfl, by kernel_rfl, by kernel_rfl, by kernel_rfl⟩⟩
theorem tyok89 : TyI.ok Tryz.prog 89 { d := .st [(0, 9), (1, 79), (2, 24)], size := 3, bytes := 64, zero := .agg [.s [], .sl none 0 0, .sl none 0 0] } := ⟨by kernel_rfl, by kernel_rfl, .inl rfl, ⟨by kernel_rfl, by kernel_rfl, by kernel_rfl, by kernel_rfl, by kernel_rfl⟩⟩
theorem tyok92 : TyI.ok Tryz.prog 92 { d := .ptr 94, size := 1, bytes := 8, zero := .c (.raw (.pointer none)) } := ⟨by kernel_rfl, by kernel_rfl, .inr rfl, (by show Program.underlying _ _ = _; kernel_rfl)⟩
theorem tyok93 : TyI.ok Tryz.prog 93 { d := .st [(0, 33), (1, 24), (2, 3), (3, 39), (4, 3), (5, 4)], size := 6, bytes := 96, zero := .agg [.sl none 0 0, .sl none 0 0, .i .i64 0, .sl none 0 0, .i .i64 0, .b false] } := ⟨by kernel_rfl, by kernel_rfl, .inl rfl, ⟨by kernel_rfl, by kernel_rfl, by kernel_rfl, by kernel_rfl, by kernel_rfl⟩⟩
theorem tyok94 : TyI.ok Tryz.prog 94 { d := .st [(0, 33), (1, 24), (2, 3), (3, 39), (4, 3), (5, 4)], size := 6, bytes := 96, zero := .agg [.sl none 0 0, .sl none 0 0, .i .i64 0, .sl none 0 0, .i .i64 0, .b false] } := ⟨by kernel_rfl, by kernel_rfl, .inl rfl, ⟨by kernel_rfl, by kernel_rfl, by kernel_rfl, by kernel_rfl, by kernel_rfl⟩⟩
theorem tyok97 : TyI.ok Tryz.prog 97 { d := .mp 9 4, size := 1, bytes := 8, zero := .c (.raw (.map none)) } := ⟨by kernel_rfl, by kernel_rfl, .inr rfl, (by show Program.underlying _ _ = _; kernel_rfl)⟩
theorem tyok98 : TyI.ok Tryz.prog 98 { d := .mp 3 3, size := 1, bytes := 8, zero := .c (.raw (.map none)) } := ⟨by kernel_rfl, by kernel_rfl, .inr rfl, (by show Program.underlying _ _ = _; kernel_rfl)⟩
theorem tyok100 : TyI.ok Tryz.prog 100 { d := .mp 9 3, size := 1, bytes := 8, zero := .c (.raw (.map none)) } := ⟨by kernel_rfl, by kernel_rfl, .inr rfl, (by show Program.underlying _ _ = _; kernel_rfl)⟩
theorem tyok101 : TyI.ok Tryz.prog 101 { d := .st [(0, 3), (1, 9), (2, 23), (4, 9), (5, 79)], size := 6, bytes := 88, zero := .agg [.i .i64 0, .s [], .i .i64 0, .s [], .s [], .sl none 0 0] } := ⟨by kernel_rfl, by kernel_rfl, .inl rfl, ⟨by kernel_rfl, by kernel_rfl, by kernel_rfl, by kernel_rfl, by kernel_rfl⟩⟩
theorem tyok102 : TyI.ok Tryz.prog 102 { d := .st [(0, 3), (1, 9), (2, 23), (4, 9), (5, 79)], size := 6, bytes := 88, zero := .agg [.i .i64 0, .s [], .i .i64 0, .s [], .s [], .sl none 0 0] } := ⟨by kernel_rfl, by kernel_rfl, .inl rfl, ⟨by kernel_rfl, by kernel_rfl, by kernel_rfl, by kernel_rfl, by kernel_rfl⟩⟩
theorem tyok104 : TyI.ok Tryz.prog 104 { d := .ptr 89, size := 1, bytes := 8, zero := .c (.raw (.pointer none)) } := ⟨by kernel_rfl, by kernel_rfl, .inr rfl, (by show Program.underlying _ _ = _; kernel_rfl)⟩
theorem tyok118 : TyI.ok Tryz.prog 118 { d := .int .u32, size := 1, bytes := 4, zero := .c (.i .u32 0) } := ⟨by kernel_rfl, by kernel_rfl, .inr rfl, (by show Program.underlying _ _ = _; kernel_rfl)⟩
theorem tyok119 : TyI.ok Tryz.prog 119 { d := .so [(0, 117), (0, 118)], size := 1, bytes := 4, zero := .agg [.i .u32 0] } := ⟨by kernel_rfl, by kernel_rfl, .inl rfl, ⟨by kernel_rfl, by kernel_rfl⟩⟩
theorem tyok120 : TyI.ok Tryz.prog 120 { d := .so [(0, 117), (0, 118)], size := 1, bytes := 4, zero := .agg [.i .u32 0] } := ⟨by kernel_rfl, by kernel_rfl, .inl rfl, ⟨by kernel_rfl, by kernel_rfl⟩⟩
theorem tyok122 : TyI.ok Tryz.prog 122 { d := .st [(0, 21), (1, 118)], size := 2, bytes := 8, zero := .agg [.i .i32 0, .i .u32 0] } := ⟨by kernel_rfl, by kernel_rfl, .inl rfl, ⟨by kernel_rfl, by kernel_rfl, by kernel_rfl, by kernel_rfl, by kernel_rfl⟩⟩
theorem tyok123 : TyI.ok Tryz.prog 123 { d := .so [(0, 116), (0, 122)], size := 2, bytes := 8, zero := .agg [.i .i32 0, .i .u32 0] } := ⟨by kernel_rfl, by kernel_rfl, .inl rfl, ⟨by kernel_rfl, by kernel_rfl⟩⟩
theorem tyok124 : TyI.ok Tryz.prog 124 { d := .so [(0, 116), (0, 122)], size := 2, bytes := 8, zero := .agg [.i .i32 0, .i .u32 0] } := ⟨by kernel_rfl, by kernel_rfl, .inl rfl, ⟨by kernel_rfl, by kernel_rfl⟩⟩
theorem tyok125 : TyI.ok Tryz.prog 125 { d := .so [(0, 116), (0, 120), (1, 124)], size := 3, bytes := 12, zero := .agg [.i .u32 0, .i .i32 0, .i .u32 0] } := ⟨by kernel_rfl, by kernel_rfl, .inl rfl, ⟨by kernel_rfl, by kernel_rfl⟩⟩
theorem tyok126 : TyI.ok Tryz.prog 126 { d := .so [(0, 116), (0, 120), (1, 124)], size := 3, bytes := 12, zero := .agg [.i .u32 0, .i .i32 0, .i .u32 0] } := ⟨by kernel_rfl, by kernel_rfl, .inl rfl, ⟨by kernel_rfl, by kernel_rfl⟩⟩
theorem tyok127 : TyI.ok Tryz.prog 127 { d := .ifc, size := 1, bytes := 16, zero := .c (.raw .nilIface) } := ⟨by kernel_rfl, by kernel_rfl, .inr rfl, ifc_ok (by kernel_rfl)⟩
theorem tyok128 : TyI.ok Tryz.prog 128 { d := .ifc, size := 1, bytes := 16, zero := .c (.raw .nilIface) } := ⟨by kernel_rfl, by kernel_rfl, .inr rfl, ifc_ok (by kernel_rfl)⟩
theorem tyok129 : TyI.ok Tryz.prog 129 { d := .so [(0, 126), (3, 128), (4, 60)], size := 5, bytes := 56, zero := .agg [.i .u32 0, .i .i32 0, .i .u32 0, .raw .nilIface, .sl none 0 0] } := ⟨by kernel_rfl, by kernel_rfl, .inl rfl, ⟨by kernel_rfl, by kernel_rfl⟩⟩
theorem tyok130 : TyI.ok Tryz.prog 130 { d := .so [(0, 126), (3, 128), (4, 60)], size := 5, bytes := 56, zero := .agg [.i .u32 0, .i .i32 0, .i .u32 0, .raw .nilIface, .sl none 0 0] } := ⟨by kernel_rfl, by kernel_rfl, .inl rfl, ⟨by kernel_rfl, by kernel_rfl⟩⟩
theorem tyok132 : TyI.ok Tryz.prog 132 { d := .arr 6 9, size := 6, bytes := 96, zero := .agg [.s [], .s [], .s [], .s [], .s [], .s []] } := ⟨by kernel_rfl, by kernel_rfl, .inl rfl, (by show Program.underlying _ _ = _; kernel_rfl)⟩
theorem tyok134 : TyI.ok Tryz.prog 134 { d := .ptr 5, size := 1, bytes := 8, zero := .c (.raw (.pointer none)) } := ⟨by kernel_rfl, by kernel_rfl, .inr rfl, (by show Program.underlying _ _ = _; kernel_rfl)⟩
theorem tyok160 : TyI.ok Tryz.prog 160 { d := .ptr 126, size := 1, bytes := 8, zero := .c (.raw (.pointer none)) } := ⟨by kernel_rfl, by kernel_rfl, .inr rfl, (by show Program.underlying _ _ = _; kernel_rfl)⟩
theorem tyok162 : TyI.ok Tryz.prog 162 { d := .up, size := 1, bytes := 8, zero := .c (.raw (.pointer none)) } := ⟨by kernel_rfl, by kernel_rfl, .inr rfl, (by show Program.underlying _ _ = _; kernel_rfl)⟩
theorem tyok173 : TyI.ok Tryz.prog 173 { d := .ptr 147, size := 1, bytes := 8, zero := .c (.raw (.pointer none)) } := ⟨by kernel_rfl, by kernel_rfl, .inr rfl, (by show Program.underlying _ _ = _; kernel_rfl)⟩
theorem tyok176 : TyI.ok Tryz.prog 176 { d := .int .i64, size := 1, bytes := 8, zero := .c (.i .i64 0) } := ⟨by kernel_rfl, by kernel_rfl, .inr rfl, (by show Program.underlying _ _ = _; kernel_rfl)⟩
theorem tyok184 : TyI.ok Tryz.prog 184 { d := .int .u64, size := 1, bytes := 8, zero := .c (.i .u64 0) } := ⟨by kernel_rfl, by kernel_rfl, .inr rfl, (by show Program.underlying _ _ = _; kernel_rfl)⟩
theorem tyok186 : TyI.ok Tryz.prog 186 { d := .ptr 120, size := 1, bytes := 8, zero := .c (.raw (.pointer none)) } := ⟨by kernel_rfl, by kernel_rfl, .inr rfl, (by show Program.underlying _ _ = _; kernel_rfl)⟩
theorem tyok188 : TyI.ok Tryz.prog 188 { d := .ptr 118, size := 1, bytes := 8, zero := .c (.raw (.pointer none)) } := ⟨by kernel_rfl, by kernel_rfl, .inr rfl, (by show Program.underlying _ _ = _; kernel_rfl)⟩
theorem tyok190 : TyI.ok Tryz.prog 190 { d := .ptr 229, size := 1, bytes := 8, zero := .c (.raw (.pointer none)) } := ⟨by kernel_rfl, by kernel_rfl, .inr rfl, (by show Program.underlying _ _ = _; kernel_rfl)⟩
theorem tyok192 : TyI.ok Tryz.prog 192 { d := .ptr 235, size := 1, bytes := 8, zero := .c (.raw (.pointer none)) } := ⟨by kernel_rfl, by kernel_rfl, .inr rfl, (by show Program.underlying _ _ = _; kernel_rfl)⟩
theorem tyok196 : TyI.ok Tryz.prog 196 { d := .ptr 195, size := 1, bytes := 8, zero := .c (.raw (.pointer none)) } := ⟨by kernel_rfl, by kernel_rfl, .inr rfl, (by show Program.underlying _ _ = _; kernel_rfl)⟩
theorem tyok197 : TyI.ok Tryz.prog 197 { d := .arr 256 64, size := 256, bytes := 6144, zero := .agg [.sl none 0 0, .sl none 0 0, .sl none 0 0, .sl none 0 0, .sl none 0 0, .sl none 0 0, .sl none 0 0, .sl none 0 0, .sl none 0 0, .sl none 0 0, .sl none 0 0, .sl none 0 0, .sl none 0 0, .sl none 0 0, .sl none 0 0, .sl none 0 0, .sl none 0 0, .sl none 0 0, .sl none 0 0, .sl none 0 0, .sl none 0 0, .sl none 0 0, .sl none 0 0, .sl none 0 0, .sl none 0 0, .sl none 0 0, .sl none 0 0, .sl none 0 0, .sl none 0 0, .sl none 0 0, .sl none 0 0, .sl none 0 0, .sl none 0 0, .sl none 0 0, .sl none 0 0, .sl none 0 0, .sl none 0 0, .sl none 0 0, .sl none 0 0, .sl none 0 0, .sl none 0 0, .sl none 0 0, .sl none 0 0, .sl none 0 0, .sl none 0 0, .sl none 0 0, .sl none 0 0, .sl none 0 0, .sl none 0 0, .sl none 0 0, .sl none 0 0, .sl none 0 0, .sl none 0 0, .sl none 0 0, .sl none 0 0, .sl none 0 0, .sl none 0 0, .sl none 0 0, .sl none 0 0, .sl none 0 0, .sl none 0 0, .sl none 0 0, .sl none 0 0, .sl none 0 0, .sl none 0 0, .sl none 0 0, .sl none 0 0, .sl none 0 0, .sl none 0 0, .sl none 0 0, .sl none 0 0, .sl none 0 0, .sl none 0 0, .sl none 0 0, .sl none 0 0, .sl none 0 0, .sl none 0 0, .sl none 0 0, .sl none 0 0, .sl none 0 0, .sl none 0 0, .sl none 0 0, .sl none 0 0, .sl none 0 0, .sl none 0 0, .sl none 0 0, .sl none 0 0, .sl none 0 0, .sl none 0 0, .sl none 0 0, .sl none 0 0, .sl none 0 0, .sl none 0 0, .sl none 0 0, .sl none 0 0, .sl none 0 0, .sl none 0 0, .sl none 0 0, .sl none 0 0, .sl none 0 0, .sl none 0 0, .sl none 0 0, .sl none 0 0, .sl none 0 0, .sl none 0 0, .sl none 0 0, .sl none 0 0, .sl none 0 0, .sl none 0 0, .sl none 0 0, .sl none 0 0, .sl none 0 0, .sl none 0 0, .sl none 0 0, .sl none 0 0, .sl none 0 0, .sl none 0 0, .sl none 0 0, .sl none 0 0, .sl none 0 0, .sl none 0 0, .sl none 0 0, .sl none 0 0, .sl none 0 0, .sl none 0 0, .sl none 0 0, .sl none 0 0, .sl none 0 0, .sl none 0 0, .sl none 0 0, .sl none 0 0, .sl none 0 0, .sl none 0 0, .sl none 0 0, .sl none 0 0, .sl none 0 0, .sl none 0 0, .sl none 0 0, .sl none 0 0, .sl none 0 0, .sl none 0 0, .sl none 0 0, .sl none 0 0, .sl none 0 0, .sl none 0 0, .sl none 0 0, .sl none 0 0, .sl none 0 0, .sl none 0 0, .sl none 0 0, .sl none 0 0, .sl none 0 0, .sl none 0 0, .sl none 0 0, .sl none 0 0, .sl none 0 0, .sl none 0 0, .sl none 0 0, .sl none 0 0, .sl none 0 0, .sl none 0 0, .sl none 0 0, .sl none 0 0, .sl none 0 0, .sl none 0 0, .sl none 0 0, .sl none 0 0, .sl none 0 0, .sl none 0 0, .sl none 0 0, .sl none 0 0, .sl none 0 0, .sl none 0 0, .sl none 0 0, .sl none 0 0, .sl none 0 0, .sl none 0 0, .sl none 0 0, .sl none 0 0, .sl none 0 0, .sl none 0 0, .sl none 0 0, .sl none 0 0, .sl none 0 0, .sl none 0 0, .sl none 0 0, .sl none 0 0, .sl none 0 0, .sl none 0 0, .sl none 0 0, .sl none 0 0, .sl none 0 0, .sl none 0 0, .sl none 0 0, .sl none 0 0, .sl none 0 0, .sl none 0 0, .sl none 0 0, .sl none 0 0, .sl none 0 0, .sl none 0 0, .sl none 0 0, .sl none 0 0, .sl none 0 0, .sl none 0 0, .sl none 0 0, .sl none 0 0, .sl none 0 0, .sl none 0 0, .sl none 0 0, .sl none 0 0, .sl none 0 0, .sl none 0 0, .sl none 0 0, .sl none 0 0, .sl none 0 0, .sl none 0 0, .sl none 0 0, .sl none 0 0, .sl none 0 0, .sl none 0 0, .sl none 0 0, .sl none 0 0, .sl none 0 0, .sl none 0 0, .sl none 0 0, .sl none 0 0, .sl none 0 0, .sl none 0 0, .sl none 0 0, .sl none 0 0, .sl none 0 0, .sl none 0 0, .sl none 0 0, .sl none 0 0, .sl none 0 0, .sl none 0 0, .sl none 0 0, .sl none 0 0, .sl none 0 0, .sl none 0 0, .sl none 0 0, .sl none 0 0, .sl none 0 0, .sl none 0 0, .sl none 0 0, .sl none 0 0, .sl none 0 0, .sl none 0 0, .sl none 0 0, .sl none 0 0, .sl none 0 0, .sl none 0 0, .sl none 0 0, .sl none 0 0, .sl none 0 0] } := ⟨by kernel_rfl, by kernel_rfl, .inl rfl, (by show Program.underlying _ _ = _; kernel_rfl)⟩
theorem tyok199 : TyI.ok Tryz.prog 199 { d := .st [(0, 197), (256, 60)], size := 257, bytes := 6168, zero := .agg [.sl none 0 0, .sl none 0 0, .sl none 0 0, .sl none 0 0, .sl none 0 0, .sl none 0 0, .sl none 0 0, .sl none 0 0, .sl none 0 0, .sl none 0 0, .sl none 0 0, .sl none 0 0, .sl none 0 0, .sl none 0 0, .sl none 0 0, .sl none 0 0, .sl none 0 0, .sl none 0 0, .sl none 0 0, .sl none 0 0, .sl none 0 0, .sl none 0 0, .sl none 0 0, .sl none 0 0, .sl none 0 0, .sl none 0 0, .sl none 0 0, .sl none 0 0, .sl none 0 0, .sl none 0 0, .sl none 0 0, .sl none 0 0, .sl none 0 0, .sl none 0 0, .sl none 0 0, .sl none 0 0, .sl none 0 0, .sl none 0 0, .sl none 0 0, .sl none 0 0, .sl none 0 0, .sl none 0 0, .sl none 0 0, .sl none 0 0, .sl none 0 0, .sl none 0 0, .sl none 0 0, .sl none 0 0, .sl none 0 0, .sl none 0 0, .sl none 0 0, .sl none 0 0, .sl none 0 0, .sl none 0 0, .sl none 0 0, .sl none 0 0, .sl none 0 0, .sl none 0 0, .sl none 0 0, .sl none 0 0, .sl none 0 0, .sl none 0 0, .sl none 0 0, .sl none 0 0, .sl none 0 0, .sl none 0 0, .sl none 0 0, .sl none 0 0, .sl none 0 0, .sl none 0 0, .sl none 0 0, .sl none 0 0, .sl none 0 0, .sl none 0 0, .sl none 0 0, .sl none 0 0, .sl none 0 0, .sl none 0 0, .sl none 0 0, .sl none 0 0, .sl none 0 0, .sl none 0 0, .sl none 0 0, .sl none 0 0, .sl none 0 0, .sl none 0 0, .sl none 0 0, .sl none 0 0, .sl none 0 0, .sl none 0 0, .sl none 0 0, .sl none 0 0, .sl none 0 0, .sl none 0 0, .sl none 0 0, .sl none 0 0, .sl none 0 0, .sl none 0 0, .sl none 0 0, .sl none 0 0, .sl none 0 0, .sl none 0 0, .sl none 0 0, .sl none 0 0, .sl none 0 0, .sl none 0 0, .sl none 0 0, .sl none 0 0, .sl none 0 0, .sl none 0 0, .sl none 0 0, .sl none 0 0, .sl none 0 0, .sl none 0 0, .sl none 0 0, .sl none 0 0, .sl none 0 0, .sl none 0 0, .sl none 0 0, .sl none 0 0, .sl none 0 0, .sl none 0 0, .sl none 0 0, .sl none 0 0, .sl none 0 0, .sl none 0 0, .sl none 0 0, .sl none 0 0, .sl none 0 0, .sl none 0 0, .sl none 0 0, .sl none 0 0, .sl none 0 0, .sl none 0 0, .sl none 0 0, .sl none 0 0, .sl none 0 0, .sl none 0 0, .sl none 0 0, .sl none 0 0, .sl none 0 0, .sl none 0 0, .sl none 0 0, .sl none 0 0, .sl none 0 0, .sl none 0 0, .sl none 0 0, .sl none 0 0, .sl none 0 0, .sl none 0 0, .sl none 0 0, .sl none 0 0, .sl none 0 0, .sl none 0 0, .sl none 0 0, .sl none 0 0, .sl none 0 0, .sl none 0 0, .sl none 0 0, .sl none 0 0, .sl none 0 0, .sl none 0 0, .sl none 0 0, .sl none 0 0, .sl none 0 0, .sl none 0 0, .sl none 0 0, .sl none 0 0, .sl none 0 0, .sl none 0 0, .sl none 0 0, .sl none 0 0, .sl none 0 0, .sl none 0 0, .sl none 0 0, .sl none 0 0, .sl none 0 0, .sl none 0 0, .sl none 0 0, .sl none 0 0, .sl none 0 0, .sl none 0 0, .sl none 0 0, .sl none 0 0, .sl none 0 0, .sl none 0 0, .sl none 0 0, .sl none 0 0, .sl none 0 0, .sl none 0 0, .sl none 0 0, .sl none 0 0, .sl none 0 0, .sl none 0 0, .sl none 0 0, .sl none 0 0, .sl none 0 0, .sl none 0 0, .sl none 0 0, .sl none 0 0, .sl none 0 0, .sl none 0 0, .sl none 0 0, .sl none 0 0, .sl none 0 0, .sl none 0 0, .sl none 0 0, .sl none 0 0, .sl none 0 0, .sl none 0 0, .sl none 0 0, .sl none 0 0, .sl none 0 0, .sl none 0 0, .sl none 0 0, .sl none 0 0, .sl none 0 0, .sl none 0 0, .sl none 0 0, .sl none 0 0, .sl none 0 0, .sl none 0 0, .sl none 0 0, .sl none 0 0, .sl none 0 0, .sl none 0 0, .sl none 0 0, .sl none 0 0, .sl none 0 0, .sl none 0 0, .sl none 0 0, .sl none 0 0, .sl none 0 0, .sl none 0 0, .sl none 0 0, .sl none 0 0, .sl none 0 0, .sl none 0 0, .sl none 0 0, .sl none 0 0, .sl none 0 0, .sl none 0 0, .sl none 0 0, .sl none 0 0, .sl none 0 0, .sl none 0 0, .sl none 0 0, .sl none 0 0, .sl none 0 0, .sl none 0 0, .sl none 0 0, .sl none 0 0, .sl none 0 0, .sl none 0 0, .sl none 0 0, .sl none 0 0, .sl none 0 0] } := ⟨by kernel_rfl, by kernel_rfl, .inl rfl, ⟨by kernel_rfl, by kernel_rfl, by kernel_rfl, by kernel_rfl, by kernel_rfl⟩⟩
theorem tyok200 : TyI.ok Tryz.prog 200 { d := .ptr 199, size := 1, bytes := 8, zero := .c (.raw (.pointer none)) } := ⟨by kernel_rfl, by kernel_rfl, .inr rfl, (by show Program.underlying _ _ = _; kernel_rfl)⟩
theorem tyok207 : TyI.ok Tryz.prog 207 { d := .arr 24 5, size := 24, bytes := 24, zero := .agg [.i .u8 0, .i .u8 0, .i .u8 0, .i .u8 0, .i .u8 0, .i .u8 0, .i .u8 0, .i .u8 0, .i .u8 0, .i .u8 0, .i .u8 0, .i .u8 0, .i .u8 0, .i .u8 0, .i .u8 0, .i .u8 0, .i .u8 0, .i .u8 0, .i .u8 0, .i .u8 0, .i .u8 0, .i .u8 0, .i .u8 0, .i .u8 0] } := ⟨by kernel_rfl, by kernel_rfl, .inl rfl, (by show Program.underlying _ _ = _; kernel_rfl)⟩
theorem tyok213 : TyI.ok Tryz.prog 213 { d := .int .u64, size := 1, bytes := 8, zero := .c (.i .u64 0) } := ⟨by kernel_rfl, by kernel_rfl, .inr rfl, (by show Program.underlying _ _ = _; kernel_rfl)⟩
theorem tyok217 : TyI.ok Tryz.prog 217 { d := .ptr 3, size := 1, bytes := 8, zero := .c (.raw (.pointer none)) } := ⟨by kernel_rfl, by kernel_rfl, .inr rfl, (by show Program.underlying _ _ = _; kernel_rfl)⟩
theorem tyok220 : TyI.ok Tryz.prog 220 { d := .st [(0, 5), (1, 5)], size := 2, bytes := 2, zero := .agg [.i .u8 0, .i .u8 0] } := ⟨by kernel_rfl, by kernel_rfl, .inl rfl, ⟨by kernel_rfl, by kernel_rfl, by kernel_rfl, by kernel_rfl, by kernel_rfl⟩⟩
theorem tyok221 : TyI.ok Tryz.prog 221 { d := .st [(0, 5), (1, 5)], size := 2, bytes := 2, zero := .agg [.i .u8 0, .i .u8 0] } := ⟨by kernel_rfl, by kernel_rfl, .inl rfl, ⟨by kernel_rfl, by kernel_rfl, by kernel_rfl, by kernel_rfl, by kernel_rfl⟩⟩
theorem tyok222 : TyI.ok Tryz.prog 222 { d := .arr 16 221, size := 32, bytes := 32, zero := .agg [.i .u8 0, .i .u8 0, .i .u8 0, .i .u8 0, .i .u8 0, .i .u8 0, .i .u8 0, .i .u8 0, .i .u8 0, .i .u8 0, .i .u8 0, .i .u8 0, .i .u8 0, .i .u8 0, .i .u8 0, .i .u8 0, .i .u8 0, .i .u8 0, .i .u8 0, .i .u8 0, .i .u8 0, .i .u8 0, .i .u8 0, .i .u8 0, .i .u8 0, .i .u8 0, .i .u8 0, .i .u8 0, .i .u8 0, .i .u8 0, .i .u8 0, .i .u8 0] } := ⟨by kernel_rfl, by kernel_rfl, .inl rfl, (by show Program.underlying _ _ = _; kernel_rfl)⟩
theorem tyok223 : TyI.ok Tryz.prog 223 { d := .ptr 124, size := 1, bytes := 8, zero := .c (.raw (.pointer none)) } := ⟨by kernel_rfl, by kernel_rfl, .inr rfl, (by show Program.underlying _ _ = _; kernel_rfl)⟩
theorem tyok226 : TyI.ok Tryz.prog 226 { d := .ptr 251, size := 1, bytes := 8, zero := .c (.raw (.pointer none)) } := ⟨by kernel_rfl, by kernel_rfl, .inr rfl, (by show Program.underlying _ _ = _; kernel_rfl)⟩
theorem tyok228 : TyI.ok Tryz.prog 228 { d := .st [(0, 226), (1, 9)], size := 2, bytes := 24, zero := .agg [.raw (.pointer none), .s []] } := ⟨by kernel_rfl, by kernel_rfl, .inl rfl, ⟨by kernel_rfl, by kernel_rfl, by kernel_rfl, by kernel_rfl, by kernel_rfl⟩⟩
theorem tyok229 : TyI.ok Tryz.prog 229 { d := .st [(0, 226), (1, 9)], size := 2, bytes := 24, zero := .agg [.raw (.pointer none), .s []] } := ⟨by kernel_rfl, by kernel_rfl, .inl rfl, ⟨by kernel_rfl, by kernel_rfl, by kernel_rfl, by kernel_rfl, by kernel_rfl⟩⟩
theorem tyok230 : TyI.ok Tryz.prog 230 { d := .ptr 233, size := 1, bytes := 8, zero := .c (.raw (.pointer none)) } := ⟨by kernel_rfl, by kernel_rfl, .inr rfl, (by show Program.underlying _ _ = _; kernel_rfl)⟩
theorem tyok231 : TyI.ok Tryz.prog 231 { d := .sl 230, size := 1, bytes := 24, zero := .c (.sl none 0 0) } := ⟨by kernel_rfl, by kernel_rfl, .inr rfl, (by show Program.underlying _ _ = _; kernel_rfl)⟩
theorem tyok232 : TyI.ok Tryz.prog 232 { d := .st [(0, 9), (1, 3), (2, 9), (3, 230), (4, 231)], size := 5, bytes := 72, zero := .agg [.s [], .i .i64 0, .s [], .raw (.pointer none), .sl none 0 0] } := ⟨by kernel_rfl, by kernel_rfl, .inl rfl, ⟨by kernel_rfl, by kernel_rfl, by kernel_rfl, by kernel_rfl, by kernel_rfl⟩⟩
theorem tyok233 : TyI.ok Tryz.prog 233 { d := .st [(0, 9), (1, 3), (2, 9), (3, 230), (4, 231)], size := 5, bytes := 72, zero := .agg [.s [], .i .i64 0, .s [], .raw (.pointer none), .sl none 0 0] } := ⟨by kernel_rfl, by kernel_rfl, .inl rfl, ⟨by kernel_rfl, by kernel_rfl, by kernel_rfl, by kernel_rfl, by kernel_rfl⟩⟩
theorem tyok239 : TyI.ok Tryz.prog 239 { d := .arr 20 184, size := 20, bytes := 160, zero := .agg [.i .u64 0, .i .u64 0, .i .u64 0, .i .u64 0, .i .u64 0, .i .u64 0, .i .u64 0, .i .u64 0, .i .u64 0, .i .u64 0, .i .u64 0, .i .u64 0, .i .u64 0, .i .u64 0, .i .u64 0, .i .u64 0, .i .u64 0, .i .u64 0, .i .u64 0, .i .u64 0] } := ⟨by kernel_rfl, by kernel_rfl, .inl rfl, (by show Program.underlying _ _ = _; kernel_rfl)⟩
theorem tyok241 : TyI.ok Tryz.prog 241 { d := .ptr 213, size := 1, bytes := 8, zero := .c (.raw (.pointer none)) } := ⟨by kernel_rfl, by kernel_rfl, .inr rfl, (by show Program.underlying _ _ = _; kernel_rfl)⟩
theorem tyok243 : TyI.ok Tryz.prog 243 { d := .ptr 122, size := 1, bytes := 8, zero := .c (.raw (.pointer none)) } := ⟨by kernel_rfl, by kernel_rfl, .inr rfl, (by show Program.underlying _ _ = _; kernel_rfl)⟩
theorem tyok245 : TyI.ok Tryz.prog 245 { d := .ptr 21, size := 1, bytes := 8, zero := .c (.raw (.pointer none)) } := ⟨by kernel_rfl, by kernel_rfl, .inr rfl, (by show Program.underlying _ _ = _; kernel_rfl)⟩
theorem tyok255 : TyI.ok Tryz.prog 255 { d := .arr 32 5, size := 32, bytes := 32, zero := .agg [.i .u8 0, .i .u8 0, .i .u8 0, .i .u8 0, .i .u8 0, .i .u8 0, .i .u8 0, .i .u8 0, .i .u8 0, .i .u8 0, .i .u8 0, .i .u8 0, .i .u8 0, .i .u8 0, .i .u8 0, .i .u8 0, .i .u8 0, .i .u8 0, .i .u8 0, .i .u8 0, .i .u8 0, .i .u8 0, .i .u8 0, .i .u8 0, .i .u8 0, .i .u8 0, .i .u8 0, .i .u8 0, .i .u8 0, .i .u8 0, .i .u8 0, .i .u8 0] } := ⟨by kernel_rfl, by kernel_rfl, .inl rfl, (by show Program.underlying _ _ = _; kernel_rfl)⟩
theorem tyok256 : TyI.ok Tryz.prog 256 { d := .arr 64 5, size := 64, bytes := 64, zero := .agg [.i .u8 0, .i .u8 0, .i .u8 0, .i .u8 0, .i .u8 0, .i .u8 0, .i .u8 0, .i .u8 0, .i .u8 0, .i .u8 0, .i .u8 0, .i .u8 0, .i .u8 0, .i .u8 0, .i .u8 0, .i .u8 0, .i .u8 0, .i .u8 0, .i .u8 0, .i .u8 0, .i .u8 0, .i .u8 0, .i .u8 0, .i .u8 0, .i .u8 0, .i .u8 0, .i .u8 0, .i .u8 0, .i .u8 0, .i .u8 0, .i .u8 0, .i .u8 0, .i .u8 0, .i .u8 0, .i .u8 0, .i .u8 0, .i .u8 0, .i .u8 0, .i .u8 0, .i .u8 0, .i .u8 0, .i .u8 0, .i .u8 0, .i .u8 0, .i .u8 0, .i .u8 0, .i .u8 0, .i .u8 0, .i .u8 0, .i .u8 0, .i .u8 0, .i .u8 0, .i .u8 0, .i .u8 0, .i .u8 0, .i .u8 0, .i .u8 0, .i .u8 0, .i .u8 0, .i .u8 0, .i .u8 0, .i .u8 0, .i .u8 0, .i .u8 0] } := ⟨by kernel_rfl, by kernel_rfl, .inl rfl, (by show Program.underlying _ _ = _; kernel_rfl)⟩
theorem tyok270 : TyI.ok Tryz.prog 270 { d := .sl 5, size := 1, bytes := 24, zero := .c (.sl none 0 0) } := ⟨by kernel_rfl, by kernel_rfl, .inr rfl, (by show Program.underlying _ _ = _; kernel_rfl)⟩
theorem tyok271 : TyI.ok Tryz.prog 271 { d := .ptr 270, size := 1, bytes := 8, zero := .c (.raw (.pointer none)) } := ⟨by kernel_rfl, by kernel_rfl, .inr rfl, (by show Program.underlying _ _ = _; kernel_rfl)⟩
theorem tyok272 : TyI.ok Tryz.prog 272 { d := .ifc, size := 1, bytes := 16, zero := .c (.raw .nilIface) } := ⟨by kernel_rfl, by kernel_rfl, .inr rfl, ifc_ok (by kernel_rfl)⟩
theorem tyok273 : TyI.ok Tryz.prog 273 { d := .ifc, size := 1, bytes := 16, zero := .c (.raw .nilIface) } := ⟨by kernel_rfl, by kernel_rfl, .inr rfl, ifc_ok (by kernel_rfl)⟩
theorem tyok274 : TyI.ok Tryz.prog 274 { d := .ifc, size := 1, bytes := 16, zero := .c (.raw .nilIface) } := ⟨by kernel_rfl, by kernel_rfl, .inr rfl, ifc_ok (by kernel_rfl)⟩
theorem tyok275 : TyI.ok Tryz.prog 275 { d := .ifc, size := 1, bytes := 16, zero := .c (.raw .nilIface) } := ⟨by kernel_rfl, by kernel_rfl, .inr rfl, ifc_ok (by kernel_rfl)⟩
theorem tyok280 : TyI.ok Tryz.prog 280 { d := .so [(0, 273)], size := 1, bytes := 16, zero := .agg [.raw .nilIface] } := ⟨by kernel_rfl, by kernel_rfl, .inl rfl, ⟨by kernel_rfl, by kernel_rfl⟩⟩
theorem tyok281 : TyI.ok Tryz.prog 281 { d := .so [(0, 273)], size := 1, bytes := 16, zero := .agg [.raw .nilIface] } := ⟨by kernel_rfl, by kernel_rfl, .inl rfl, ⟨by kernel_rfl, by kernel_rfl⟩⟩

theorem Tryz.tyOK : TyOK Tryz.prog Tryz.tyT := tyOK_of_all ⟨tyok2, tyok3, tyok4, tyok5, tyok9, tyok12, tyok20, tyok21, tyok22, tyok23, tyok24, tyok26, tyok32, tyok33, tyok39, tyok41, tyok42, tyok43, tyok56, tyok57, tyok60, tyok61, tyok63, tyok64, tyok65, tyok66, tyok67, tyok68, tyok74, tyok79, tyok80, tyok81, tyok83, tyok84, tyok86, tyok87, tyok88, tyok89, tyok92, tyok93, tyok94, tyok97, tyok98, tyok100, tyok101, tyok102, tyok104, tyok118, tyok119, tyok120, tyok122, tyok123, tyok124, tyok125, tyok126, tyok127, tyok128, tyok129, tyok130, tyok132, tyok134, tyok160, tyok162, tyok173, tyok176, tyok184, tyok186, tyok188, tyok190, tyok192, tyok196, tyok197, tyok199, tyok200, tyok207, tyok213, tyok217, tyok220, tyok221, tyok222, tyok223, tyok226, tyok228, tyok229, tyok230, tyok231, tyok232, tyok233, tyok239, tyok241, tyok243, tyok245, tyok255, tyok256, tyok270, tyok271, tyok272, tyok273, tyok274, tyok275, tyok280, tyok281, trivial⟩

end Go.Proofs

namespace Go.Proofs.YtdnkeinjfddmnaaGreatDoor
open Go Go.X Go.ChangeShapes Go.WideShapes Go.ChangeAt Go.RowKit
set_option maxRecDepth 100000

theorem own : ownKnob Tryz.prog.godebug = none := by kernel_rfl
theorem laidOut : laidOutB Tryz.prog = true := by kernel_rfl
theorem no_looks : true = Tryz.pinned.checked.prog.looks [] := by kernel_rfl

noncomputable def cellsOfZ (l : List Nat) : Array Value := (l.map fun n : Nat => Value.int .u8 (Int.ofNat n)).toArray
noncomputable def setCells (cs : Array Value) : Obj → Obj
  | .cells _ t fr => .cells cs t fr
  | o => o
noncomputable def tabPow10 (h : Array Obj) : Array Obj := h.modify 3 (setCells (([1, 10, 100, 1000, 10000, 100000, 1000000, 10000000, 100000000, 1000000000, 10000000000, 100000000000, 1000000000000, 10000000000000, 100000000000000, 1000000000000000, 10000000000000000, 100000000000000000, 1000000000000000000, 10000000000000000000] : List Nat).map fun n : Nat => Value.int .u64 (Int.ofNat n)).toArray)
noncomputable def tabDb32 (h : Array Obj) : Array Obj := h.modify 4 (setCells (cellsOfZ [0, 1, 28, 2, 29, 14, 24, 3, 30, 22, 20, 15, 25, 17, 4, 8, 31, 27, 13, 23, 21, 19, 16, 7, 26, 12, 18, 6, 11, 5, 10, 9]))
noncomputable def tabDb64 (h : Array Obj) : Array Obj := h.modify 5 (setCells (cellsOfZ [0, 1, 56, 2, 57, 49, 28, 3, 61, 58, 42, 50, 38, 29, 17, 4, 62, 47, 59, 36, 45, 43, 51, 22, 53, 39, 33, 30, 24, 18, 12, 5, 63, 55, 48, 27, 60, 41, 37, 16, 46, 35, 44, 21, 52, 32, 23, 11, 54, 26, 40, 15, 34, 20, 31, 10, 25, 14, 19, 9, 13, 8, 7, 6]))
noncomputable def tabRules (h : Array Obj) : Array Obj := h
/-- A world for the witnesses: the settled one, the two tables holding what their initialisers lay. -/
noncomputable def laidWorld (os : Os) : World :=
  { World.holding Tryz.prog os ⟨#[], #[], []⟩ with
    heap := tabRules (tabDb64 (tabDb32 (tabPow10 (((World.holding Tryz.prog os ⟨#[], #[], []⟩).heap.modify 1 (setCells (cellsOfZ Go.Pinned.utf8FirstZ))).modify 2 (setCells (cellsOfZ [128, 191, 160, 191, 128, 159, 144, 191, 128, 143, 0, 0, 0, 0, 0, 0, 0, 0, 0, 0, 0, 0, 0, 0, 0, 0, 0, 0, 0, 0, 0, 0])))))) }

theorem world_vars (os : Os) (args : Array Value) : ((laidWorld os).forCall (fun _ _ => 0) ⟨#[], args, []⟩).variablesB Tryz.checked.prog = true := by kernel_rfl
theorem world_rest (os : Os) (args : Array Value) : (((laidWorld os).forCall (fun _ _ => 0) ⟨#[], args, []⟩).heap.toList.drop Tryz.checked.prog.globals.size).take ((begin Tryz.checked.prog (fun _ _ => 0) default).world.heap.size - Tryz.checked.prog.globals.size) =
    (begin Tryz.checked.prog (fun _ _ => 0) default).world.heap.toList.drop Tryz.checked.prog.globals.size := by kernel_rfl
theorem laid_met (os : Os) (args : Array Value) : laidMet Tryz.prog Rows.htmlTextsRow.laid ((laidWorld os).forCall (fun _ _ => 0) ⟨#[], args, []⟩).memory :=
  laidMet_of_run' 8 (by kernel_rfl) (by kernel_rfl)

theorem maxLen_fact {W : World} (h : W.ShapedOpen Tryz.prog) : allD (fun b => W.heap[b]?) [gInt 0] :=
  ⟨gInt_of_shape (t := 3) h (of_decide_eq_true (by kernel_rfl)) (by kernel_rfl) (by kernel_rfl) (by kernel_rfl) Tryz.underlying3, trivial⟩

theorem okTy {t : Nat} {i : TyI} (h : find Tryz.tyT t = some i) : i.ok Tryz.prog t := Tryz.tyOK t i h
end Go.Proofs.YtdnkeinjfddmnaaGreatDoor

namespace Go.Proofs.YtdnkeinjfddmnaaGreatDoor
open Go Go.X
set_option maxRecDepth 100000

theorem open_title {w : World} : OpenS Tryz.prog w 23 (fun g : Int × List UInt8 × Unit => [.i .i64 g.1] ++ ([.s g.2.1] ++ [])) (fun g => inR .i64 g.1 ∧ g.2.1.length ≤ maxLen ∧ True) :=
  openS_struct (okTy (t := 23) rfl).2.2.2 (cellsOf_ty (okTy (t := 23) rfl))
    (openF_cons (cellsOf_ty (okTy (t := 3) rfl)) (openS_int Tryz.underlying3) (openF_cons (cellsOf_ty (okTy (t := 9) rfl)) (openS_str Tryz.underlying9) openF_nil (by decide)) (by decide))
end Go.Proofs.YtdnkeinjfddmnaaGreatDoor

namespace Go.Proofs
open Go Go.X
set_option maxRecDepth 100000

/-- An element: kind, text, target, anchor, where its kids lie, its kids. -/
inductive Inl where
  | mk (kind : Int) (text : List UInt8) (sp : Int) (name anchor : List UInt8) (ka : Option Addr) (kc : Nat) (kids : List Inl)
namespace Inl
def kind : Inl → Int | .mk k _ _ _ _ _ _ _ => k
def text : Inl → List UInt8 | .mk _ t _ _ _ _ _ _ => t
def sp : Inl → Int | .mk _ _ s _ _ _ _ _ => s
def name : Inl → List UInt8 | .mk _ _ _ n _ _ _ _ => n
def anchor : Inl → List UInt8 | .mk _ _ _ _ a _ _ _ => a
def ka : Inl → Option Addr | .mk _ _ _ _ _ a _ _ => a
def kc : Inl → Nat | .mk _ _ _ _ _ _ c _ => c
def kids : Inl → List Inl | .mk _ _ _ _ _ _ _ l => l
def cells (x : Inl) : List C := [.i .i64 x.kind, .s x.text, .i .i64 x.sp, .s x.name, .s x.anchor, .sl x.ka x.kids.length x.kc]
end Inl
/-- A block: kind, level, text, its elements, its kids, and where they lie. -/
inductive Blk where
  | mk (kind level : Int) (text : List UInt8) (ia : Option Addr) (ic : Nat) (inl : List Inl) (ka : Option Addr) (kc : Nat) (kids : List Blk)
namespace Blk
def kind : Blk → Int | .mk k _ _ _ _ _ _ _ _ => k
def level : Blk → Int | .mk _ v _ _ _ _ _ _ _ => v
def text : Blk → List UInt8 | .mk _ _ t _ _ _ _ _ _ => t
def ia : Blk → Option Addr | .mk _ _ _ a _ _ _ _ _ => a
def ic : Blk → Nat | .mk _ _ _ _ c _ _ _ _ => c
def inl : Blk → List Inl | .mk _ _ _ _ _ l _ _ _ => l
def ka : Blk → Option Addr | .mk _ _ _ _ _ _ a _ _ => a
def kc : Blk → Nat | .mk _ _ _ _ _ _ _ c _ => c
def kids : Blk → List Blk | .mk _ _ _ _ _ _ _ _ l => l
def cells (x : Blk) : List C := [.i .i64 x.kind, .i .i64 x.level, .s x.text, .sl x.ia x.inl.length x.ic, .sl x.ka x.kids.length x.kc]
end Blk

def inlC (l : List Inl) : List C := l.flatMap Inl.cells
def blkC (l : List Blk) : List C := l.flatMap Blk.cells
theorem inlC_len (l : List Inl) : (inlC l).length = l.length * 6 := flat_len (F := Inl.cells) (z := 6) (fun _ => rfl) l
theorem blkC_len (l : List Blk) : (blkC l).length = l.length * 5 := flat_len (F := Blk.cells) (z := 5) (fun _ => rfl) l
theorem inlC_get {l : List Inl} {i : Nat} (h : i < l.length) {o k : Nat} (hk : o + k ≤ 6) : ((inlC l).drop (i * 6 + o)).take k = (l[i].cells.drop o).take k := flat_get (F := Inl.cells) (z := 6) (fun _ => rfl) h hk
theorem blkC_get {l : List Blk} {i : Nat} (h : i < l.length) {o k : Nat} (hk : o + k ≤ 5) : ((blkC l).drop (i * 5 + o)).take k = (l[i].cells.drop o).take k := flat_get (F := Blk.cells) (z := 5) (fun _ => rfl) h hk

mutual
def Inl.lies (m : Im) : Inl → Prop
  | .mk _ _ _ _ _ ka _ kids => SlF m 102 6 ka kids.length (inlC kids) ∧ inlsLie m kids
def inlsLie (m : Im) : List Inl → Prop
  | [] => True
  | x :: r => x.lies m ∧ inlsLie m r
end
mutual
def Blk.lies (m : Im) : Blk → Prop
  | .mk _ _ _ ia _ inl ka _ kids => (SlF m 102 6 ia inl.length (inlC inl) ∧ inlsLie m inl) ∧ SlF m 81 5 ka kids.length (blkC kids) ∧ blksLie m kids
def blksLie (m : Im) : List Blk → Prop
  | [] => True
  | x :: r => x.lies m ∧ blksLie m r
end

theorem slF_mono {m m' : Im} (hm : ∀ b o, m b = some o → m' b = some o) {e z n : Nat} {a : Option Addr} {cs : List C} (h : SlF m e z a n cs) : SlF m' e z a n cs := (slFact e z a n cs).mono m m' hm h
mutual
theorem Inl.lies_mono {m m' : Im} (hm : ∀ b o, m b = some o → m' b = some o) : ∀ x : Inl, x.lies m → x.lies m'
  | .mk _ _ _ _ _ _ _ kids, h => by unfold Inl.lies at h ⊢; exact ⟨slF_mono hm h.1, inlsLie_mono hm kids h.2⟩
theorem inlsLie_mono {m m' : Im} (hm : ∀ b o, m b = some o → m' b = some o) : ∀ l : List Inl, inlsLie m l → inlsLie m' l
  | [], _ => by unfold inlsLie; trivial
  | x :: r, h => by unfold inlsLie at h ⊢; exact ⟨Inl.lies_mono hm x h.1, inlsLie_mono hm r h.2⟩
end
mutual
theorem Blk.lies_mono {m m' : Im} (hm : ∀ b o, m b = some o → m' b = some o) : ∀ x : Blk, x.lies m → x.lies m'
  | .mk _ _ _ _ _ inl _ _ kids, h => by unfold Blk.lies at h ⊢; exact ⟨⟨slF_mono hm h.1.1, inlsLie_mono hm inl h.1.2⟩, slF_mono hm h.2.1, blksLie_mono hm kids h.2.2⟩
theorem blksLie_mono {m m' : Im} (hm : ∀ b o, m b = some o → m' b = some o) : ∀ l : List Blk, blksLie m l → blksLie m' l
  | [], _ => by unfold blksLie; trivial
  | x :: r, h => by unfold blksLie at h ⊢; exact ⟨Blk.lies_mono hm x h.1, blksLie_mono hm r h.2⟩
end

/-- Memory holds a list of elements, and all below it. -/
def inlF (a : Option Addr) (l : List Inl) : Fact := ⟨fun m => SlF m 102 6 a l.length (inlC l) ∧ inlsLie m l, fun _ _ hm h => ⟨slF_mono hm h.1, inlsLie_mono hm l h.2⟩⟩
/-- Memory holds a list of blocks, and all below it. -/
def blkF (a : Option Addr) (l : List Blk) : Fact := ⟨fun m => SlF m 81 5 a l.length (blkC l) ∧ blksLie m l, fun _ _ hm h => ⟨slF_mono hm h.1, blksLie_mono hm l h.2⟩⟩

theorem inlsLie_mem {m : Im} : ∀ {l : List Inl} {x : Inl}, inlsLie m l → x ∈ l → x.lies m
  | y :: r, x, h, hx => by
    unfold inlsLie at h
    rcases List.mem_cons.1 hx with rfl | hx
    · exact h.1
    · exact inlsLie_mem h.2 hx
  | [], _, _, hx => by cases hx
theorem inlsLie_append {m : Im} : ∀ {l k : List Inl}, inlsLie m (l ++ k) ↔ inlsLie m l ∧ inlsLie m k
  | [], k => by simp [inlsLie]
  | x :: r, k => by simp only [List.cons_append, inlsLie, inlsLie_append (l := r), and_assoc]
theorem blksLie_mem {m : Im} : ∀ {l : List Blk} {x : Blk}, blksLie m l → x ∈ l → x.lies m
  | y :: r, x, h, hx => by
    unfold blksLie at h
    rcases List.mem_cons.1 hx with rfl | hx
    · exact h.1
    · exact blksLie_mem h.2 hx
  | [], _, _, hx => by cases hx
theorem blksLie_append {m : Im} : ∀ {l k : List Blk}, blksLie m (l ++ k) ↔ blksLie m l ∧ blksLie m k
  | [], k => by simp [blksLie]
  | x :: r, k => by simp only [List.cons_append, blksLie, blksLie_append (l := r), and_assoc]
theorem Inl.lies_kids {m : Im} {x : Inl} (h : x.lies m) : (inlF x.ka x.kids).p m := by cases x; unfold Inl.lies at h; exact h
theorem Blk.lies_inl {m : Im} {x : Blk} (h : x.lies m) : (inlF x.ia x.inl).p m := by cases x; unfold Blk.lies at h; exact h.1
theorem Blk.lies_kids {m : Im} {x : Blk} (h : x.lies m) : (blkF x.ka x.kids).p m := by cases x; unfold Blk.lies at h; exact h.2

/-- What is known of an element's kids, and of a block's elements and kids. -/
theorem inl_kids {a : Option Addr} {l : List Inl} {i : Nat} (h : i < l.length) : ∀ m, allD m [inlF a l] → allD m [inlF l[i].ka l[i].kids] := fun _ hm => ⟨Inl.lies_kids (inlsLie_mem hm.1.2 (List.getElem_mem h)), trivial⟩
theorem blk_inl {a : Option Addr} {l : List Blk} {i : Nat} (h : i < l.length) : ∀ m, allD m [blkF a l] → allD m [inlF l[i].ia l[i].inl] := fun _ hm => ⟨Blk.lies_inl (blksLie_mem hm.1.2 (List.getElem_mem h)), trivial⟩
theorem blk_kids {a : Option Addr} {l : List Blk} {i : Nat} (h : i < l.length) : ∀ m, allD m [blkF a l] → allD m [blkF l[i].ka l[i].kids] := fun _ hm => ⟨Blk.lies_kids (blksLie_mem hm.1.2 (List.getElem_mem h)), trivial⟩

theorem inl_reads {a : Option Addr} {l : List Inl} {L : List Chunk} {D : List Fact} (h : ∀ m, allD m D → allD m [inlF a l]) : Reads L D 102 6 a l.length (inlC l) := .inr fun m hm => (h m hm).1.1
theorem blk_reads {a : Option Addr} {l : List Blk} {L : List Chunk} {D : List Fact} (h : ∀ m, allD m D → allD m [blkF a l]) : Reads L D 81 5 a l.length (blkC l) := .inr fun m hm => (h m hm).1.1

/-! ### How many nodes there are, and how much text -/
mutual
def Inl.nodes : Inl → Nat
  | .mk _ _ _ _ _ _ _ kids => 1 + inlNodes kids
def inlNodes : List Inl → Nat
  | [] => 0
  | x :: r => x.nodes + inlNodes r
end
mutual
def Blk.nodes : Blk → Nat
  | .mk _ _ _ _ _ inl _ _ kids => 1 + inlNodes inl + blkNodes kids
def blkNodes : List Blk → Nat
  | [] => 0
  | x :: r => x.nodes + blkNodes r
end
theorem Inl.nodes_eq (x : Inl) : x.nodes = 1 + inlNodes x.kids := by cases x; rw [Inl.nodes]; rfl
theorem Blk.nodes_eq (x : Blk) : x.nodes = 1 + inlNodes x.inl + blkNodes x.kids := by cases x; rw [Blk.nodes]; rfl
theorem inlNodes_append : ∀ (l k : List Inl), inlNodes (l ++ k) = inlNodes l + inlNodes k
  | [], k => by simp [inlNodes]
  | x :: r, k => by simp only [List.cons_append, inlNodes, inlNodes_append r k]; omega
theorem blkNodes_append : ∀ (l k : List Blk), blkNodes (l ++ k) = blkNodes l + blkNodes k
  | [], k => by simp [blkNodes]
  | x :: r, k => by simp only [List.cons_append, blkNodes, blkNodes_append r k]; omega
theorem inlNodes_succ {l : List Inl} {i : Nat} (h : i < l.length) : inlNodes (l.take (i + 1)) = inlNodes (l.take i) + (1 + inlNodes l[i].kids) := by
  rw [List.take_succ_eq_append_getElem h, inlNodes_append]
  simp only [inlNodes, Inl.nodes_eq]; omega
theorem blkNodes_succ {l : List Blk} {i : Nat} (h : i < l.length) : blkNodes (l.take (i + 1)) = blkNodes (l.take i) + (1 + inlNodes l[i].inl + blkNodes l[i].kids) := by
  rw [List.take_succ_eq_append_getElem h, blkNodes_append]
  simp only [blkNodes, Blk.nodes_eq]; omega
theorem inlNodes_take_le (l : List Inl) (i : Nat) : inlNodes (l.take i) ≤ inlNodes l := by
  have := inlNodes_append (l.take i) (l.drop i)
  rw [List.take_append_drop] at this; omega
theorem blkNodes_take_le (l : List Blk) (i : Nat) : blkNodes (l.take i) ≤ blkNodes l := by
  have := blkNodes_append (l.take i) (l.drop i)
  rw [List.take_append_drop] at this; omega
theorem inlNodes_len : ∀ l : List Inl, l.length ≤ inlNodes l
  | [] => Nat.le_refl _
  | x :: r => by
    have := inlNodes_len r
    simp only [inlNodes, Inl.nodes_eq, List.length_cons]; omega
theorem blkNodes_len : ∀ l : List Blk, l.length ≤ blkNodes l
  | [] => Nat.le_refl _
  | x :: r => by
    have := blkNodes_len r
    simp only [blkNodes, Blk.nodes_eq, List.length_cons]; omega
theorem inlNodes_kid {l : List Inl} {i : Nat} (h : i < l.length) : inlNodes l[i].kids < inlNodes l := by
  have := inlNodes_succ h
  have := inlNodes_take_le l (i + 1)
  omega
theorem blkNodes_kid {l : List Blk} {i : Nat} (h : i < l.length) : blkNodes l[i].kids + inlNodes l[i].inl < blkNodes l := by
  have := blkNodes_succ h
  have := blkNodes_take_le l (i + 1)
  omega

end Go.Proofs

namespace Go.X
open Go.Lib

/-- Before the first c, behind it, and whether there is one. -/
def cutAt (c : UInt8) : List UInt8 → List UInt8 × List UInt8 × Bool
  | [] => ([], [], false)
  | x :: r => if x = c then ([], r, true) else (x :: (cutAt c r).1, (cutAt c r).2.1, (cutAt c r).2.2)

/-- The pieces between the bytes c. -/
def splitOn (c : UInt8) : List UInt8 → List (List UInt8)
  | [] => [[]]
  | x :: r => if x = c then [] :: splitOn c r else (x :: (splitOn c r).headD []) :: (splitOn c r).tail

theorem splitOn_ne (c : UInt8) (l : List UInt8) : splitOn c l ≠ [] := by
  cases l with
  | nil => simp [splitOn]
  | cons x r => simp only [splitOn]; split <;> simp

theorem splitOn_eq (c : UInt8) (l : List UInt8) : splitOn c l = (splitOn c l).headD [] :: (splitOn c l).tail := by
  have := splitOn_ne c l
  cases h : splitOn c l with
  | nil => exact absurd h this
  | cons a b => rfl

theorem index_nil (c : UInt8) : index [] [c] = -1 := by simp [index]
theorem index_same (c : UInt8) (l : List UInt8) : index (c :: l) [c] = 0 := by simp [index, List.isPrefixOf]
theorem index_other {b c : UInt8} (h : b ≠ c) (l : List UInt8) : index (b :: l) [c] = if index l [c] = -1 then -1 else index l [c] + 1 := by
  have hp : ([c] : List UInt8).isPrefixOf (b :: l) = false := by simp [List.isPrefixOf, Ne.symm h]
  rw [index, hp]; simp

theorem cut_one (c : UInt8) : ∀ l : List UInt8, cut l [c] = cutAt c l
  | [] => by simp [cut, cutAt, index_nil]
  | x :: r => by
    have ih := cut_one c r
    by_cases h : x = c
    · subst h; simp [cut, cutAt, index_same]
    · have hge := index_ge r [c]
      simp only [cutAt, if_neg h, ← ih]
      by_cases hm : index r [c] = -1
      · simp [cut, index_other h, hm]
      · obtain ⟨i, hi⟩ : ∃ i : Nat, index r [c] = i := ⟨(index r [c]).toNat, by omega⟩
        have h1 : index (x :: r) [c] = ((i + 1 : Nat) : Int) := by rw [index_other h, if_neg hm, hi]; omega
        have h2 : (0 : Int) ≤ ((i + 1 : Nat) : Int) := by omega
        have h3 : (0 : Int) ≤ ((i : Nat) : Int) := by omega
        simp only [cut, h1, hi, if_pos h2, if_pos h3, Int.toNat_natCast, List.take_succ_cons, List.length_singleton]
        simp [List.drop_succ_cons]

theorem splitK_one (c : UInt8) : ∀ l : List UInt8, splitK [c] 0 (count l [c]) l = splitOn c l
  | [] => by rw [count_miss (index_nil c)]; simp [splitK, splitOn]
  | x :: r => by
    have ih := splitK_one c r
    by_cases h : x = c
    · subst h
      rw [count_cons_eq, Nat.add_comm, splitK, index_same]
      simp [splitOn, ih]
    · rw [count_cons_ne _ _ _ h]
      have e := splitOn_eq c r
      simp only [splitOn, if_neg h]
      cases hk : count r [c] with
      | zero =>
        rw [hk] at ih
        simp only [splitK] at ih ⊢
        rw [← ih]
        rfl
      | succ k =>
        rw [hk] at ih
        have hge := index_ge r [c]
        by_cases hm : index r [c] = -1
        · rw [splitK, if_pos (by simp [hm])] at ih
          rw [splitK, index_other h, hm, ← ih]
          simp
        · obtain ⟨i, hi⟩ : ∃ i : Nat, index r [c] = i := ⟨(index r [c]).toNat, by omega⟩
          have h1 : index (x :: r) [c] = ((i + 1 : Nat) : Int) := by rw [index_other h, if_neg hm, hi]; omega
          rw [splitK, hi, if_neg (by simp)] at ih
          rw [splitK, h1, if_neg (by simp; omega), ← ih]
          simp

theorem replaceAll_one (a b : UInt8) (hab : a ≠ b) (l : List UInt8) : replaceAll l [a] [b] = l.map fun x => if x = a then b else x := by
  have key : ∀ l : List UInt8, replaceK [a] [b] (count l [a]) l = l.map fun x => if x = a then b else x := by
    intro l
    induction l with
    | nil => rw [count_miss (index_nil a)]; simp [replaceK]
    | cons x r ih =>
      by_cases h : x = a
      · subst h
        rw [count_cons_eq, Nat.add_comm, replaceK, index_same]
        simp [ih]
      · rw [count_cons_ne _ _ _ h]
        simp only [List.map_cons, if_neg h]
        cases hk : count r [a] with
        | zero => rw [hk] at ih; simp only [replaceK] at ih ⊢; rw [← ih]
        | succ k =>
          rw [hk] at ih
          have hge := index_ge r [a]
          by_cases hm : index r [a] = -1
          · rw [replaceK, if_pos (by simp [hm])] at ih
            rw [replaceK, index_other h, hm, ← ih]
            simp
          · obtain ⟨i, hi⟩ : ∃ i : Nat, index r [a] = i := ⟨(index r [a]).toNat, by omega⟩
            have h1 : index (x :: r) [a] = ((i + 1 : Nat) : Int) := by rw [index_other h, if_neg hm, hi]; omega
            rw [replaceK, hi, if_neg (by simp)] at ih
            rw [replaceK, h1, if_neg (by simp; omega), ← ih]
            simp
  unfold replaceAll replace
  rw [if_neg (by simp [hab])]
  have : replaceNum l [a] (-1) = count l [a] := by simp [replaceNum]
  rw [this, key]

/-- The pieces with the byte c between them. -/
def joinOn (c : UInt8) : List (List UInt8) → List UInt8
  | [] => []
  | [x] => x
  | x :: y :: r => x ++ c :: joinOn c (y :: r)

theorem join_one_byte (c : UInt8) : ∀ xs : List (List UInt8), join xs [c] = joinOn c xs
  | [] => rfl
  | [x] => by rw [join_one, joinOn]
  | x :: y :: r => by
    have ih := join_one_byte c (y :: r)
    rw [join_cons] at ih ⊢
    rw [joinOn, ← ih]
    simp [joinTail]

theorem join_splitOn (c : UInt8) : ∀ l : List UInt8, joinOn c (splitOn c l) = l
  | [] => rfl
  | x :: r => by
    have ih := join_splitOn c r
    have e := splitOn_eq c r
    by_cases h : x = c
    · subst h
      simp only [splitOn, if_true]
      rw [e] at ih ⊢
      simp only [joinOn, ih, List.nil_append]
    · simp only [splitOn, if_neg h]
      rw [e] at ih
      cases ht : (splitOn c r).tail with
      | nil => rw [ht] at ih; simp only [joinOn] at ih ⊢; rw [ih]
      | cons y t => rw [ht] at ih; simp only [joinOn, List.cons_append] at ih ⊢; rw [ih]

theorem splitOn_length_le (c : UInt8) : ∀ l : List UInt8, (splitOn c l).length ≤ l.length + 1
  | [] => by simp [splitOn]
  | x :: r => by
    have ih := splitOn_length_le c r
    simp only [splitOn]
    split
    · simp; omega
    · simp; omega

theorem mem_splitOn_le (c : UInt8) : ∀ (l p : List UInt8), p ∈ splitOn c l → p.length ≤ l.length
  | [], p, h => by simp [splitOn] at h; simp [h]
  | x :: r, p, h => by
    have ih := mem_splitOn_le c r
    have hh : ((splitOn c r).headD []).length ≤ r.length := by
      have := ih ((splitOn c r).headD []) (by rw [splitOn_eq c r]; simp)
      exact this
    simp only [splitOn] at h
    split at h
    · rcases List.mem_cons.1 h with rfl | h
      · simp
      · have := ih p h; simp; omega
    · rcases List.mem_cons.1 h with rfl | h
      · simp only [List.length_cons]; omega
      · have := ih p (List.mem_of_mem_tail h); simp; omega

/-! ### A list that is turned from the left -/

section
variable {α : Type} {A B : List α} {i : Nat}
theorem mix_len (hA : A.length = B.length) : (A.take i ++ B.drop i).length = B.length := by simp; omega
theorem mix_drop (hA : A.length = B.length) (h : i < B.length) : (A.take i ++ B.drop i).drop i = B[i] :: B.drop (i + 1) := by
  rw [List.drop_left' (by simp; omega), List.drop_eq_getElem_cons h]
theorem mix_get (hA : A.length = B.length) (h : i < B.length) (h' : i < (A.take i ++ B.drop i).length) : (A.take i ++ B.drop i)[i] = B[i] := by
  rw [List.getElem_append_right (by simp; omega)]
  simp [Nat.min_eq_left (by omega : i ≤ A.length)]
theorem mix_set (hA : A.length = B.length) (h : i < A.length) : (A.take i ++ B.drop i).set i A[i] = A.take (i + 1) ++ B.drop (i + 1) := by
  have hl : (A.take i).length = i := by simp; omega
  rw [List.set_append_right _ _ (by omega), List.take_succ_eq_append_getElem h, List.append_assoc, hl, Nat.sub_self, List.drop_eq_getElem_cons (l := B) (i := i) (by omega)]
  rfl
theorem mix_all (hi : i = B.length) (hA : A.length = B.length) : A.take i ++ B.drop i = A := by
  subst hi; simp [← hA]
end

theorem joinOn_length_le (c : UInt8) (m : Nat) : ∀ xs : List (List UInt8), (∀ p ∈ xs, p.length ≤ m) → (joinOn c xs).length ≤ xs.length * (m + 1)
  | [], _ => by simp [joinOn]
  | [x], h => by have := h x (by simp); simp [joinOn]; omega
  | x :: y :: r, h => by
    have h1 := h x (by simp)
    have h2 := joinOn_length_le c m (y :: r) (fun p hp => h p (by simp [hp]))
    have e : (x :: y :: r).length * (m + 1) = (m + 1) + (y :: r).length * (m + 1) := by rw [List.length_cons (a := x), Nat.add_mul]; omega
    rw [e, joinOn, List.length_append, List.length_cons]
    omega

theorem joinOn_le (c : UInt8) : ∀ xs ys : List (List UInt8), xs.length = ys.length → (∀ (i : Nat) (h : i < xs.length) (h' : i < ys.length), xs[i].length ≤ ys[i].length) → (joinOn c xs).length ≤ (joinOn c ys).length
  | [], [], _, _ => Nat.le_refl _
  | [x], [y], _, h => by have := h 0 (by simp) (by simp); simpa [joinOn] using this
  | x :: x' :: r, y :: y' :: q, hl, h => by
    have h0 := h 0 (by simp) (by simp)
    have ih := joinOn_le c (x' :: r) (y' :: q) (by simpa using hl) (fun i h1 h2 => h (i + 1) (by simpa using h1) (by simpa using h2))
    simp only [List.getElem_cons_zero] at h0
    simp only [joinOn, List.length_append, List.length_cons]
    omega
  | [], _ :: _, hl, _ => by simp at hl
  | _ :: _, [], hl, _ => by simp at hl
  | [_], _ :: _ :: _, hl, _ => by simp at hl
  | _ :: _ :: _, [_], hl, _ => by simp at hl

end Go.X
