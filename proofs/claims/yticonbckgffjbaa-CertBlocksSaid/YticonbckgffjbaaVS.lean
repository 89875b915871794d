/- The pure forms of the functions. -/
import Derived.Test.YticonbckgffjbaaVX2
import Derived.Test.YticonbckgffjbaaProg
import Derived.KernelRfl
set_option linter.unusedVariables false
set_option linter.unusedSimpArgs false
namespace Go.Proofs.Yticonbckgffjbaa.V15
open Go.Proofs Go.Proofs.Yticonbckgffjbaa.VX
def tab : Tab :=
 [(1, ⟨.other, 1, 8, [.nilf], none, false⟩),
  (2, ⟨.int .i64, 1, 8, [.int .i64 0], some [.int .i64], true⟩),
  (3, ⟨.int .i64, 1, 8, [.int .i64 0], some [.int .i64], true⟩),
  (4, ⟨.bool, 1, 1, [.kb false], some [.bool], true⟩),
  (5, ⟨.int .u8, 1, 1, [.int .u8 0], some [.int .u8], true⟩),
  (6, ⟨.int .u8, 1, 1, [.int .u8 0], some [.int .u8], true⟩),
  (7, ⟨.struct [(2, 0, 1, false), (3, 1, 1, false), (4, 2, 1, false), (6, 3, 1, false)], 4, 24, [.int .i64 0, .int .i64 0, .kb false, .int .u8 0], some [.int .i64, .int .i64, .bool, .int .u8], true⟩),
  (8, ⟨.struct [(2, 0, 1, false), (3, 1, 1, false), (4, 2, 1, false), (6, 3, 1, false)], 4, 24, [.int .i64 0, .int .i64 0, .kb false, .int .u8 0], some [.int .i64, .int .i64, .bool, .int .u8], true⟩),
  (9, ⟨.str, 1, 16, [.str .empty], some [.str], true⟩),
  (10, ⟨.str, 1, 16, [.str .empty], some [.str], true⟩),
  (11, ⟨.str, 1, 16, [.str .empty], some [.str], true⟩),
  (12, ⟨.int .u64, 1, 8, [.int .u64 0], some [.int .u64], true⟩),
  (13, ⟨.struct [(9, 0, 1, false), (12, 1, 1, false)], 2, 24, [.str .empty, .int .u64 0], some [.str, .int .u64], false⟩),
  (14, ⟨.struct [(9, 0, 1, false), (12, 1, 1, false)], 2, 24, [.str .empty, .int .u64 0], some [.str, .int .u64], false⟩),
  (15, ⟨.ptr 133, 1, 8, [.nilp], none, false⟩),
  (16, ⟨.ptr 136, 1, 8, [.nilp], none, false⟩),
  (17, ⟨.ptr 145, 1, 8, [.nilp], none, false⟩),
  (18, ⟨.struct [(17, 0, 1, false)], 1, 8, [.nilp], none, false⟩),
  (19, ⟨.struct [(17, 0, 1, false)], 1, 8, [.nilp], none, false⟩),
  (20, ⟨.other, 1, 16, [.nili], none, false⟩),
  (21, ⟨.int .i32, 1, 4, [.int .i32 0], some [.int .i32], true⟩),
  (22, ⟨.struct [(3, 0, 1, false), (3, 1, 1, false), (3, 2, 1, false)], 3, 24, [.int .i64 0, .int .i64 0, .int .i64 0], some [.int .i64, .int .i64, .int .i64], true⟩),
  (23, ⟨.struct [(3, 0, 1, false), (3, 1, 1, false), (3, 2, 1, false)], 3, 24, [.int .i64 0, .int .i64 0, .int .i64 0], some [.int .i64, .int .i64, .int .i64], true⟩),
  (24, ⟨.slice 70, 1, 24, [.nils], some [.sl 70], false⟩),
  (25, ⟨.struct [(23, 0, 3, false), (3, 3, 1, false), (3, 4, 1, false), (24, 5, 1, false), (3, 6, 1, false)], 7, 72, [.int .i64 0, .int .i64 0, .int .i64 0, .int .i64 0, .int .i64 0, .nils, .int .i64 0], some [.int .i64, .int .i64, .int .i64, .int .i64, .int .i64, .sl 70, .int .i64], false⟩),
  (26, ⟨.struct [(23, 0, 3, false), (3, 3, 1, false), (3, 4, 1, false), (24, 5, 1, false), (3, 6, 1, false)], 7, 72, [.int .i64 0, .int .i64 0, .int .i64 0, .int .i64 0, .int .i64 0, .nils, .int .i64 0], some [.int .i64, .int .i64, .int .i64, .int .i64, .int .i64, .sl 70, .int .i64], false⟩),
  (27, ⟨.slice 59, 1, 24, [.nils], some [.sl 59], false⟩),
  (28, ⟨.slice 56, 1, 24, [.nils], some [.sl 56], false⟩),
  (29, ⟨.struct [(27, 0, 1, false), (28, 1, 1, false)], 2, 48, [.nils, .nils], some [.sl 59, .sl 56], false⟩),
  (30, ⟨.struct [(27, 0, 1, false), (28, 1, 1, false)], 2, 48, [.nils, .nils], some [.sl 59, .sl 56], false⟩),
  (31, ⟨.struct [(26, 0, 7, false), (30, 7, 2, false)], 9, 120, [.int .i64 0, .int .i64 0, .int .i64 0, .int .i64 0, .int .i64 0, .nils, .int .i64 0, .nils, .nils], some [.int .i64, .int .i64, .int .i64, .int .i64, .int .i64, .sl 70, .int .i64, .sl 59, .sl 56], false⟩),
  (32, ⟨.struct [(26, 0, 7, false), (30, 7, 2, false)], 9, 120, [.int .i64 0, .int .i64 0, .int .i64 0, .int .i64 0, .int .i64 0, .nils, .int .i64 0, .nils, .nils], some [.int .i64, .int .i64, .int .i64, .int .i64, .int .i64, .sl 70, .int .i64, .sl 59, .sl 56], false⟩),
  (33, ⟨.other, 1, 8, [.nilf], none, false⟩),
  (34, ⟨.other, 1, 8, [.nilf], none, false⟩),
  (35, ⟨.struct [(3, 0, 1, false), (3, 1, 1, false), (3, 2, 1, false), (3, 3, 1, false), (3, 4, 1, false), (3, 5, 1, false), (3, 6, 1, false), (3, 7, 1, false), (3, 8, 1, false)], 9, 72, [.int .i64 0, .int .i64 0, .int .i64 0, .int .i64 0, .int .i64 0, .int .i64 0, .int .i64 0, .int .i64 0, .int .i64 0], some [.int .i64, .int .i64, .int .i64, .int .i64, .int .i64, .int .i64, .int .i64, .int .i64, .int .i64], true⟩),
  (36, ⟨.struct [(3, 0, 1, false), (3, 1, 1, false), (3, 2, 1, false), (3, 3, 1, false), (3, 4, 1, false), (3, 5, 1, false), (3, 6, 1, false), (3, 7, 1, false), (3, 8, 1, false)], 9, 72, [.int .i64 0, .int .i64 0, .int .i64 0, .int .i64 0, .int .i64 0, .int .i64 0, .int .i64 0, .int .i64 0, .int .i64 0], some [.int .i64, .int .i64, .int .i64, .int .i64, .int .i64, .int .i64, .int .i64, .int .i64, .int .i64], true⟩),
  (37, ⟨.int .i64, 1, 8, [.int .i64 0], some [.int .i64], true⟩),
  (38, ⟨.struct [(37, 0, 1, false), (3, 1, 1, false), (3, 2, 1, false)], 3, 24, [.int .i64 0, .int .i64 0, .int .i64 0], some [.int .i64, .int .i64, .int .i64], true⟩),
  (39, ⟨.struct [(37, 0, 1, false), (3, 1, 1, false), (3, 2, 1, false)], 3, 24, [.int .i64 0, .int .i64 0, .int .i64 0], some [.int .i64, .int .i64, .int .i64], true⟩),
  (41, ⟨.other, 1, 8, [.nilf], none, false⟩),
  (42, ⟨.other, 1, 8, [.nilf], none, false⟩),
  (43, ⟨.other, 1, 8, [.nilf], none, false⟩),
  (44, ⟨.other, 1, 8, [.nilf], none, false⟩),
  (45, ⟨.other, 1, 8, [.nilf], none, false⟩),
  (46, ⟨.other, 1, 8, [.nilf], none, false⟩),
  (48, ⟨.other, 1, 8, [.nilf], none, false⟩),
  (50, ⟨.other, 1, 8, [.nilf], none, false⟩),
  (51, ⟨.other, 1, 8, [.nilf], none, false⟩),
  (52, ⟨.struct [(32, 0, 9, false), (3, 9, 1, false), (3, 10, 1, false), (3, 11, 1, false)], 12, 144, [.int .i64 0, .int .i64 0, .int .i64 0, .int .i64 0, .int .i64 0, .nils, .int .i64 0, .nils, .nils, .int .i64 0, .int .i64 0, .int .i64 0], some [.int .i64, .int .i64, .int .i64, .int .i64, .int .i64, .sl 70, .int .i64, .sl 59, .sl 56, .int .i64, .int .i64, .int .i64], false⟩),
  (53, ⟨.struct [(32, 0, 9, false), (3, 9, 1, false), (3, 10, 1, false), (3, 11, 1, false)], 12, 144, [.int .i64 0, .int .i64 0, .int .i64 0, .int .i64 0, .int .i64 0, .nils, .int .i64 0, .nils, .nils, .int .i64 0, .int .i64 0, .int .i64 0], some [.int .i64, .int .i64, .int .i64, .int .i64, .int .i64, .sl 70, .int .i64, .sl 59, .sl 56, .int .i64, .int .i64, .int .i64], false⟩),
  (55, ⟨.other, 1, 8, [.nilf], none, false⟩),
  (56, ⟨.slice 61, 1, 24, [.nils], some [.sl 61], false⟩),
  (57, ⟨.ptr 61, 1, 8, [.nilp], none, false⟩),
  (58, ⟨.struct [(2, 0, 1, false), (2, 1, 1, false)], 2, 16, [.int .i64 0, .int .i64 0], some [.int .i64, .int .i64], true⟩),
  (59, ⟨.struct [(2, 0, 1, false), (2, 1, 1, false)], 2, 16, [.int .i64 0, .int .i64 0], some [.int .i64, .int .i64], true⟩),
  (60, ⟨.struct [(3, 0, 1, false), (3, 1, 1, false), (59, 2, 2, false), (59, 4, 2, false)], 6, 48, [.int .i64 0, .int .i64 0, .int .i64 0, .int .i64 0, .int .i64 0, .int .i64 0], some [.int .i64, .int .i64, .int .i64, .int .i64, .int .i64, .int .i64], true⟩),
  (61, ⟨.struct [(3, 0, 1, false), (3, 1, 1, false), (59, 2, 2, false), (59, 4, 2, false)], 6, 48, [.int .i64 0, .int .i64 0, .int .i64 0, .int .i64 0, .int .i64 0, .int .i64 0], some [.int .i64, .int .i64, .int .i64, .int .i64, .int .i64, .int .i64], true⟩),
  (62, ⟨.other, 1, 8, [.nilf], none, false⟩),
  (63, ⟨.struct [(3, 0, 1, false), (3, 1, 1, false), (3, 2, 1, false), (3, 3, 1, false), (3, 4, 1, false), (3, 5, 1, false), (3, 6, 1, false), (3, 7, 1, false)], 8, 64, [.int .i64 0, .int .i64 0, .int .i64 0, .int .i64 0, .int .i64 0, .int .i64 0, .int .i64 0, .int .i64 0], some [.int .i64, .int .i64, .int .i64, .int .i64, .int .i64, .int .i64, .int .i64, .int .i64], true⟩),
  (64, ⟨.struct [(3, 0, 1, false), (3, 1, 1, false), (3, 2, 1, false), (3, 3, 1, false), (3, 4, 1, false), (3, 5, 1, false), (3, 6, 1, false), (3, 7, 1, false)], 8, 64, [.int .i64 0, .int .i64 0, .int .i64 0, .int .i64 0, .int .i64 0, .int .i64 0, .int .i64 0, .int .i64 0], some [.int .i64, .int .i64, .int .i64, .int .i64, .int .i64, .int .i64, .int .i64, .int .i64], true⟩),
  (65, ⟨.slice 100, 1, 24, [.nils], some [.sl 100], false⟩),
  (66, ⟨.slice 21, 1, 24, [.nils], some [.sl 21], false⟩),
  (67, ⟨.struct [(3, 0, 1, false), (3, 1, 1, false)], 2, 16, [.int .i64 0, .int .i64 0], some [.int .i64, .int .i64], true⟩),
  (68, ⟨.struct [(3, 0, 1, false), (3, 1, 1, false)], 2, 16, [.int .i64 0, .int .i64 0], some [.int .i64, .int .i64], true⟩),
  (69, ⟨.struct [(3, 0, 1, false), (3, 1, 1, false), (3, 2, 1, false), (3, 3, 1, false), (64, 4, 8, false), (65, 12, 1, false), (66, 13, 1, false), (68, 14, 2, false), (68, 16, 2, false), (3, 18, 1, false), (3, 19, 1, false), (3, 20, 1, false), (3, 21, 1, false)], 22, 208, [.int .i64 0, .int .i64 0, .int .i64 0, .int .i64 0, .int .i64 0, .int .i64 0, .int .i64 0, .int .i64 0, .int .i64 0, .int .i64 0, .int .i64 0, .int .i64 0, .nils, .nils, .int .i64 0, .int .i64 0, .int .i64 0, .int .i64 0, .int .i64 0, .int .i64 0, .int .i64 0, .int .i64 0], some [.int .i64, .int .i64, .int .i64, .int .i64, .int .i64, .int .i64, .int .i64, .int .i64, .int .i64, .int .i64, .int .i64, .int .i64, .sl 100, .sl 21, .int .i64, .int .i64, .int .i64, .int .i64, .int .i64, .int .i64, .int .i64, .int .i64], false⟩),
  (70, ⟨.struct [(3, 0, 1, false), (3, 1, 1, false), (3, 2, 1, false), (3, 3, 1, false), (64, 4, 8, false), (65, 12, 1, false), (66, 13, 1, false), (68, 14, 2, false), (68, 16, 2, false), (3, 18, 1, false), (3, 19, 1, false), (3, 20, 1, false), (3, 21, 1, false)], 22, 208, [.int .i64 0, .int .i64 0, .int .i64 0, .int .i64 0, .int .i64 0, .int .i64 0, .int .i64 0, .int .i64 0, .int .i64 0, .int .i64 0, .int .i64 0, .int .i64 0, .nils, .nils, .int .i64 0, .int .i64 0, .int .i64 0, .int .i64 0, .int .i64 0, .int .i64 0, .int .i64 0, .int .i64 0], some [.int .i64, .int .i64, .int .i64, .int .i64, .int .i64, .int .i64, .int .i64, .int .i64, .int .i64, .int .i64, .int .i64, .int .i64, .sl 100, .sl 21, .int .i64, .int .i64, .int .i64, .int .i64, .int .i64, .int .i64, .int .i64, .int .i64], false⟩),
  (71, ⟨.other, 1, 8, [.nilf], none, false⟩),
  (73, ⟨.other, 1, 8, [.nilf], none, false⟩),
  (74, ⟨.struct [(70, 0, 22, false), (23, 22, 3, false), (23, 25, 3, false)], 28, 256, [.int .i64 0, .int .i64 0, .int .i64 0, .int .i64 0, .int .i64 0, .int .i64 0, .int .i64 0, .int .i64 0, .int .i64 0, .int .i64 0, .int .i64 0, .int .i64 0, .nils, .nils, .int .i64 0, .int .i64 0, .int .i64 0, .int .i64 0, .int .i64 0, .int .i64 0, .int .i64 0, .int .i64 0, .int .i64 0, .int .i64 0, .int .i64 0, .int .i64 0, .int .i64 0, .int .i64 0], some [.int .i64, .int .i64, .int .i64, .int .i64, .int .i64, .int .i64, .int .i64, .int .i64, .int .i64, .int .i64, .int .i64, .int .i64, .sl 100, .sl 21, .int .i64, .int .i64, .int .i64, .int .i64, .int .i64, .int .i64, .int .i64, .int .i64, .int .i64, .int .i64, .int .i64, .int .i64, .int .i64, .int .i64], false⟩),
  (75, ⟨.struct [(70, 0, 22, false), (23, 22, 3, false), (23, 25, 3, false)], 28, 256, [.int .i64 0, .int .i64 0, .int .i64 0, .int .i64 0, .int .i64 0, .int .i64 0, .int .i64 0, .int .i64 0, .int .i64 0, .int .i64 0, .int .i64 0, .int .i64 0, .nils, .nils, .int .i64 0, .int .i64 0, .int .i64 0, .int .i64 0, .int .i64 0, .int .i64 0, .int .i64 0, .int .i64 0, .int .i64 0, .int .i64 0, .int .i64 0, .int .i64 0, .int .i64 0, .int .i64 0], some [.int .i64, .int .i64, .int .i64, .int .i64, .int .i64, .int .i64, .int .i64, .int .i64, .int .i64, .int .i64, .int .i64, .int .i64, .sl 100, .sl 21, .int .i64, .int .i64, .int .i64, .int .i64, .int .i64, .int .i64, .int .i64, .int .i64, .int .i64, .int .i64, .int .i64, .int .i64, .int .i64, .int .i64], false⟩),
  (77, ⟨.other, 1, 8, [.nilf], none, false⟩),
  (78, ⟨.other, 1, 8, [.nilf], none, false⟩),
  (79, ⟨.other, 1, 8, [.nilf], none, false⟩),
  (80, ⟨.other, 1, 8, [.nilf], none, false⟩),
  (81, ⟨.slice 23, 1, 24, [.nils], some [.sl 23], false⟩),
  (83, ⟨.other, 1, 8, [.nilf], none, false⟩),
  (84, ⟨.other, 1, 8, [.nilf], none, false⟩),
  (85, ⟨.other, 1, 8, [.nilf], none, false⟩),
  (86, ⟨.other, 1, 8, [.nilf], none, false⟩),
  (87, ⟨.other, 1, 8, [.nilf], none, false⟩),
  (88, ⟨.other, 1, 8, [.nilf], none, false⟩),
  (89, ⟨.other, 1, 8, [.nilf], none, false⟩),
  (90, ⟨.other, 1, 8, [.nilf], none, false⟩),
  (91, ⟨.other, 1, 8, [.nilf], none, false⟩),
  (92, ⟨.other, 1, 8, [.nilf], none, false⟩),
  (94, ⟨.other, 1, 8, [.nilf], none, false⟩),
  (95, ⟨.struct [(70, 0, 22, false), (23, 22, 3, false), (23, 25, 3, false), (3, 28, 1, false)], 29, 264, [.int .i64 0, .int .i64 0, .int .i64 0, .int .i64 0, .int .i64 0, .int .i64 0, .int .i64 0, .int .i64 0, .int .i64 0, .int .i64 0, .int .i64 0, .int .i64 0, .nils, .nils, .int .i64 0, .int .i64 0, .int .i64 0, .int .i64 0, .int .i64 0, .int .i64 0, .int .i64 0, .int .i64 0, .int .i64 0, .int .i64 0, .int .i64 0, .int .i64 0, .int .i64 0, .int .i64 0, .int .i64 0], some [.int .i64, .int .i64, .int .i64, .int .i64, .int .i64, .int .i64, .int .i64, .int .i64, .int .i64, .int .i64, .int .i64, .int .i64, .sl 100, .sl 21, .int .i64, .int .i64, .int .i64, .int .i64, .int .i64, .int .i64, .int .i64, .int .i64, .int .i64, .int .i64, .int .i64, .int .i64, .int .i64, .int .i64, .int .i64], false⟩),
  (96, ⟨.struct [(70, 0, 22, false), (23, 22, 3, false), (23, 25, 3, false), (3, 28, 1, false)], 29, 264, [.int .i64 0, .int .i64 0, .int .i64 0, .int .i64 0, .int .i64 0, .int .i64 0, .int .i64 0, .int .i64 0, .int .i64 0, .int .i64 0, .int .i64 0, .int .i64 0, .nils, .nils, .int .i64 0, .int .i64 0, .int .i64 0, .int .i64 0, .int .i64 0, .int .i64 0, .int .i64 0, .int .i64 0, .int .i64 0, .int .i64 0, .int .i64 0, .int .i64 0, .int .i64 0, .int .i64 0, .int .i64 0], some [.int .i64, .int .i64, .int .i64, .int .i64, .int .i64, .int .i64, .int .i64, .int .i64, .int .i64, .int .i64, .int .i64, .int .i64, .sl 100, .sl 21, .int .i64, .int .i64, .int .i64, .int .i64, .int .i64, .int .i64, .int .i64, .int .i64, .int .i64, .int .i64, .int .i64, .int .i64, .int .i64, .int .i64, .int .i64], false⟩),
  (98, ⟨.other, 1, 8, [.nilf], none, false⟩),
  (99, ⟨.other, 1, 8, [.nilf], none, false⟩),
  (100, ⟨.int .i16, 1, 2, [.int .i16 0], some [.int .i16], true⟩),
  (101, ⟨.other, 1, 8, [.nilf], none, false⟩),
  (102, ⟨.other, 1, 8, [.nilf], none, false⟩),
  (103, ⟨.other, 1, 8, [.nilf], none, false⟩),
  (105, ⟨.other, 1, 8, [.nilf], none, false⟩),
  (106, ⟨.other, 1, 8, [.nilf], none, false⟩),
  (108, ⟨.other, 1, 8, [.nilf], none, false⟩),
  (109, ⟨.other, 1, 8, [.nilf], none, false⟩),
  (110, ⟨.arr 3 3, 3, 24, [.int .i64 0, .int .i64 0, .int .i64 0], some [.int .i64, .int .i64, .int .i64], false⟩),
  (111, ⟨.slice 3, 1, 24, [.nils], some [.sl 3], false⟩),
  (112, ⟨.struct [(4, 0, 1, false), (4, 1, 1, false), (4, 2, 1, false), (4, 3, 1, false), (4, 4, 1, false), (4, 5, 1, false), (4, 6, 1, false), (4, 7, 1, false)], 8, 8, [.kb false, .kb false, .kb false, .kb false, .kb false, .kb false, .kb false, .kb false], some [.bool, .bool, .bool, .bool, .bool, .bool, .bool, .bool], true⟩),
  (113, ⟨.struct [(4, 0, 1, false), (4, 1, 1, false), (4, 2, 1, false), (4, 3, 1, false), (4, 4, 1, false), (4, 5, 1, false), (4, 6, 1, false), (4, 7, 1, false)], 8, 8, [.kb false, .kb false, .kb false, .kb false, .kb false, .kb false, .kb false, .kb false], some [.bool, .bool, .bool, .bool, .bool, .bool, .bool, .bool], true⟩),
  (115, ⟨.other, 1, 8, [.nilf], none, false⟩),
  (116, ⟨.other, 1, 8, [.nilf], none, false⟩),
  (117, ⟨.other, 1, 8, [.nilf], none, false⟩),
  (119, ⟨.other, 1, 8, [.nilf], none, false⟩),
  (120, ⟨.other, 1, 8, [.nilf], none, false⟩),
  (121, ⟨.other, 1, 8, [.nilf], none, false⟩),
  (122, ⟨.other, 1, 8, [.nilf], none, false⟩),
  (124, ⟨.other, 1, 8, [.nilf], none, false⟩),
  (126, ⟨.other, 1, 8, [.nilf], none, false⟩),
  (127, ⟨.other, 1, 8, [.nilf], none, false⟩),
  (128, ⟨.other, 1, 8, [.nilf], none, false⟩),
  (129, ⟨.other, 1, 8, [.nilf], none, false⟩),
  (130, ⟨.other, 1, 8, [.nilf], none, false⟩),
  (131, ⟨.other, 1, 8, [.nilf], none, false⟩),
  (132, ⟨.struct [(17, 0, 1, false), (17, 1, 1, false), (17, 2, 1, false), (9, 3, 1, false)], 4, 40, [.nilp, .nilp, .nilp, .str .empty], none, false⟩),
  (133, ⟨.struct [(17, 0, 1, false), (17, 1, 1, false), (17, 2, 1, false), (9, 3, 1, false)], 4, 40, [.nilp, .nilp, .nilp, .str .empty], none, false⟩),
  (134, ⟨.arr 0 16, 0, 0, [], none, false⟩),
  (135, ⟨.struct [(134, 0, 0, true)], 0, 0, [], none, false⟩),
  (136, ⟨.struct [(134, 0, 0, true)], 0, 0, [], none, false⟩),
  (137, ⟨.int .u32, 1, 4, [.int .u32 0], some [.int .u32], true⟩),
  (138, ⟨.int .u8, 1, 1, [.int .u8 0], some [.int .u8], true⟩),
  (139, ⟨.int .u8, 1, 1, [.int .u8 0], some [.int .u8], true⟩),
  (140, ⟨.other, 1, 8, [.nilf], none, false⟩),
  (141, ⟨.ptr 5, 1, 8, [.nilp], none, false⟩),
  (142, ⟨.int .i32, 1, 4, [.int .i32 0], some [.int .i32], true⟩),
  (143, ⟨.int .i32, 1, 4, [.int .i32 0], some [.int .i32], true⟩),
  (144, ⟨.struct [(12, 0, 1, false), (12, 1, 1, false), (137, 2, 1, false), (138, 3, 1, false), (5, 4, 1, false), (5, 5, 1, false), (139, 6, 1, false), (140, 7, 1, false), (141, 8, 1, false), (142, 9, 1, false), (143, 10, 1, false)], 11, 48, [.int .u64 0, .int .u64 0, .int .u32 0, .int .u8 0, .int .u8 0, .int .u8 0, .int .u8 0, .nilf, .nilp, .int .i32 0, .int .i32 0], none, false⟩),
  (145, ⟨.struct [(12, 0, 1, false), (12, 1, 1, false), (137, 2, 1, false), (138, 3, 1, false), (5, 4, 1, false), (5, 5, 1, false), (139, 6, 1, false), (140, 7, 1, false), (141, 8, 1, false), (142, 9, 1, false), (143, 10, 1, false)], 11, 48, [.int .u64 0, .int .u64 0, .int .u32 0, .int .u8 0, .int .u8 0, .int .u8 0, .int .u8 0, .nilf, .nilp, .int .i32 0, .int .i32 0], none, false⟩),
  (146, ⟨.other, 1, 8, [.nilf], none, false⟩),
  (147, ⟨.other, 1, 8, [.nilp], none, false⟩)]
def mv : FuncId → List Nat := mvOf []
def bodyOf (f : Option Func) : Code := match f with | some x => (match x.body with | some c => c | none => .skip) | none => .skip
theorem tab_ok : tabOK Try.prog tab = true := by kernel_rfl
theorem mixed_ : Try.prog.follows .mixedOrders = true := by kernel_rfl
end Go.Proofs.Yticonbckgffjbaa.V15

set_option linter.unusedVariables false
namespace Go.Proofs.Yticonbckgffjbaa.VX
/-- spillway/spillwaylaw15.one -/
def g_law15_one : W (Int × Int × Int × Int × Int × Int × Bool × Rws × Bool × Rws × Bool × Rws) :=
 W.ret (1, 1, 2, 0, 10, 1, false, [[I 1, I 0, I 0, I 1, I 0, I 0, I 0, I 0, I 0, I 0, I 0, I 0, AV.sl false 0 [[I 3], [I (-2)]], AV.sl false 0 [[I 1]], I 1, I 0, I 0, I 0, I 0, I 0, I (-128), I 127]], false, [[I 0, I 10], [I (-19), I 31]], false, [[AV.sl false 0 [[I 16, I 2, I (-20), I 30, I (-19), I 31]]]])

/-- spillway/shape.Elems -/
def g_shape_Elems (a0 : Int) (a1 : Int) (a2 : Int) : W (Int × Int) :=
 W.ite (decide (a0 < 1) || decide (1024 < a0)) (W.ret (0, 50))
 (W.ite (decide (a1 < 1) || decide (1024 < a1)) (W.ret (0, 50))
 (W.ite (decide (a2 < 1) || decide (1024 < a2)) (W.ret (0, 50))
 (W.ite (decide (16384 < IntKind.i64.wrap (IntKind.i64.wrap (IntKind.i64.wrap (1 * a0) * a1) * a2))) (W.ret (0, 50))
 (W.ret (IntKind.i64.wrap (IntKind.i64.wrap (IntKind.i64.wrap (1 * a0) * a1) * a2), 0)))))

/-- spillway/model.byte8 -/
def g_model_byte8 (a0 : Bool) (a1 : Rws) : W (Bool) :=
 W.bind (W.loop (σ := Int) (ε := (Unit) ⊕ (Unit)) (fun v0 =>
 W.ite (decide (v0 < (↑(List.length a1) : Int))) (W.need (0 ≤ v0 ∧ v0 < (↑(List.length a1) : Int)) <|
 W.ite (decide (ri a1 v0.toNat 0 < -128) || decide (127 < ri a1 v0.toNat 0)) (W.ret (Sum.inr (Sum.inl ())))
 (W.ret (Sum.inl (IntKind.i64.wrap (v0 + 1)))))
 (W.ret (Sum.inr (Sum.inr ())))) 0)
 (W.sum (fun v1 =>
 W.ret false) (fun v2 =>
 W.ret true))

/-- spillway/model.of -/
def g_model_of (a0 : Int) : W (Bool × Bool × Bool × Bool × Bool × Bool × Bool × Bool × Bool) :=
 W.ite (a0 == 1) (W.ret (false, true, false, false, true, true, false, false, true))
 (W.ite (a0 == 2) (W.ret (false, true, true, true, true, true, false, true, true))
 (W.ite (a0 == 3) (W.ret (false, false, true, true, true, true, false, true, true))
 (W.bind (α := Bool) (W.ite (a0 == 4) (W.ret (a0 == 4))
 (W.ret (a0 == 5)))
 fun v0 =>
 W.ite (v0) (W.ret (false, false, true, false, false, false, false, false, true))
 (W.ite (a0 == 6) (W.ret (true, false, false, false, false, true, true, false, true))
 (W.ite (a0 == 7) (W.ret (false, false, false, false, false, true, false, false, true))
 (W.ite (a0 == 8) (W.ret (false, false, false, false, false, false, false, false, true))
 (W.ret (false, false, false, false, false, false, false, false, false))))))))

/-- spillway/model.bare -/
def g_model_bare (a0 : Int) (a1 : Int) (a2 : Int) (a3 : Int) (a4 : Int) (a5 : Int) (a6 : Int) (a7 : Int) (a8 : Int) (a9 : Int) (a10 : Int) (a11 : Int) (a12 : Bool) (a13 : Rws) (a14 : Bool) (a15 : Rws) (a16 : Int) (a17 : Int) (a18 : Int) (a19 : Int) (a20 : Int) (a21 : Int) (a22 : Int) (a23 : Int) (a24 : Bool) (a25 : Bool) (a26 : Bool) (a27 : Bool) (a28 : Bool) (a29 : Bool) (a30 : Bool) (a31 : Bool) : W (Int × Int × Int × Int × Int × Int × Int × Int × Int × Int × Int × Int × Bool × Rws × Bool × Rws × Int × Int × Int × Int × Int × Int × Int × Int) :=
 W.bind (α := Int) (W.ite (a24) (W.ret 0)
 (W.ret a2))
 fun v0 =>
 W.bind (α := Int) (W.ite (a25) (W.ret 0)
 (W.ret a3))
 fun v1 =>
 W.bind (α := Int × Int × Int × Int) (W.ite (a26) (W.ret (0, 0, 0, 0))
 (W.ret (a4, a5, a6, a7)))
 fun v2 =>
 W.bind (α := Int × Int × Int × Int × Int × Int × Int × Int) (W.ite (a27) (W.ret (0, 0, 0, 0, 0, 0, 0, 0))
 (W.ret (v2.fst, v2.snd.fst, v2.snd.snd.fst, v2.snd.snd.snd, a8, a9, a10, a11)))
 fun v3 =>
 W.bind (α := Bool × Rws × Bool × Rws) (W.ite (a28) (W.ret (true, [], true, []))
 (W.ret (a12, a13, a14, a15)))
 fun v4 =>
 W.bind (α := Int × Int × Int) (W.ite (a29) (W.ret (0, 0, 0))
 (W.ret (a16, a17, a20)))
 fun v5 =>
 W.bind (α := Int × Int) (W.ite (a30) (W.ret (0, 0))
 (W.ret (a18, a19)))
 fun v6 =>
 W.bind (α := Int) (W.ite (a31) (W.ret 0)
 (W.ret a21))
 fun v7 =>
 W.ret (0, 0, v0, v1, v3.fst, v3.snd.fst, v3.snd.snd.fst, v3.snd.snd.snd.fst, v3.snd.snd.snd.snd.fst, v3.snd.snd.snd.snd.snd.fst, v3.snd.snd.snd.snd.snd.snd.fst, v3.snd.snd.snd.snd.snd.snd.snd, v4.fst, v4.snd.fst, v4.snd.snd.fst, v4.snd.snd.snd, v5.fst, v5.snd.fst, v6.fst, v6.snd, v5.snd.snd, v7, 0, 0)

/-- spillway/model.empty -/
def g_model_empty (a0 : Int) (a1 : Int) (a2 : Int) (a3 : Int) (a4 : Int) (a5 : Int) (a6 : Int) (a7 : Int) (a8 : Int) (a9 : Int) (a10 : Int) (a11 : Int) (a12 : Bool) (a13 : Rws) (a14 : Bool) (a15 : Rws) (a16 : Int) (a17 : Int) (a18 : Int) (a19 : Int) (a20 : Int) (a21 : Int) (a22 : Int) (a23 : Int) : W (Bool) :=
 W.ret (a0 == 0 && a1 == 0 && a2 == 0 && a3 == 0 && (a4 == 0 && (a5 == 0 && (a6 == 0 && (a7 == 0 && (a8 == 0 && (a9 == 0 && (a10 == 0 && a11 == 0))))))) && (↑(List.length a13) : Int) == 0 && (↑(List.length a15) : Int) == 0 && (a16 == 0 && a17 == 0) && (a18 == 0 && a19 == 0) && a20 == 0 && a21 == 0 && a22 == 0 && a23 == 0)

/-- spillway/window.within -/
def g_window_within (a0 : Int) (a1 : Int) (a2 : Int) : W (Bool) :=
 W.ret (decide (a1 ≤ a0) && decide (a0 ≤ a2))

/-- spillway/window.side -/
def g_window_side (a0 : Int) (a1 : Int) (a2 : Int) (a3 : Int) : W (Bool) :=
 W.bind (α := Bool) (W.bind (g_window_within (a0) (1) (32)) fun v0 =>
 W.ite (v0) (W.bind (g_window_within (a1) (1) (32)) fun v1 =>
 W.ite (v1) (W.bind (g_window_within (a2) (0) (IntKind.i64.wrap (a0 - 1))) fun v2 =>
 W.ite (v2) (W.bind (g_window_within (a3) (0) (IntKind.i64.wrap (a0 - 1))) fun v3 =>
 W.ret v3)
 (W.ret false))
 (W.ret false))
 (W.ret false))
 fun v4 =>
 W.ret v4

/-- spillway/window.Valid -/
def g_window_Valid (a0 : Int) (a1 : Int) (a2 : Int) (a3 : Int) (a4 : Int) (a5 : Int) (a6 : Int) (a7 : Int) : W (Bool) :=
 W.bind (α := Bool) (W.bind (g_window_side (a0) (a2) (a4) (a6)) fun v0 =>
 W.ite (v0) (W.bind (g_window_side (a1) (a3) (a5) (a7)) fun v1 =>
 W.ret v1)
 (W.ret false))
 fun v2 =>
 W.ret v2

/-- spillway/window.Out -/
def g_window_Out (a0 : Int) (a1 : Int) (a2 : Int) (a3 : Int) (a4 : Int) (a5 : Int) (a6 : Int) (a7 : Int) (a8 : Int) (a9 : Int) (a10 : Int) : W (Int × Int × Int) :=
 W.bind (g_shape_Elems (a0) (a1) (a2)) fun v0 =>
 W.ite (v0.snd != 0) (W.ret (0, 0, v0.snd))
 (W.bind (g_window_Valid (a3) (a4) (a5) (a6) (a7) (a8) (a9) (a10)) fun v1 =>
 W.ite (!v1) (W.ret (0, 0, 60))
 (W.ite (decide (IntKind.i64.wrap (IntKind.i64.wrap (IntKind.i64.wrap (a0 + a7) + a9) - a3) < 0) || decide (IntKind.i64.wrap (IntKind.i64.wrap (IntKind.i64.wrap (a1 + a8) + a10) - a4) < 0)) (W.ret (0, 0, 60))
 (W.need (a5 ≠ 0) <|
 W.need (a6 ≠ 0) <|
 W.ret (IntKind.i64.wrap (IntKind.i64.wrap ((IntKind.i64.wrap (IntKind.i64.wrap (IntKind.i64.wrap (a0 + a7) + a9) - a3)).tdiv a5) + 1), IntKind.i64.wrap (IntKind.i64.wrap ((IntKind.i64.wrap (IntKind.i64.wrap (IntKind.i64.wrap (a1 + a8) + a10) - a4)).tdiv a6) + 1), 0))))

/-- spillway/model.makes -/
def g_model_makes (a0 : Int) (a1 : Int) (a2 : Int) (a3 : Int) (a4 : Int) (a5 : Int) (a6 : Int) (a7 : Int) (a8 : Int) (a9 : Int) (a10 : Int) (a11 : Int) (a12 : Bool) (a13 : Rws) (a14 : Bool) (a15 : Rws) (a16 : Int) (a17 : Int) (a18 : Int) (a19 : Int) (a20 : Int) (a21 : Int) (a22 : Int) (a23 : Int) (a24 : Int) (a25 : Int) (a26 : Int) : W (Int × Int × Int × Int × Int × Int) :=
 W.bind (g_model_of (a0)) fun v0 =>
 W.bind (α := (Int × Int × Int) ⊕ (Int × Int × Int × Int × Int × Int)) (W.ite (v0.snd.snd.fst) (W.bind (g_window_Out (a24) (a25) (a26) (a4) (a5) (a6) (a7) (a8) (a9) (a10) (a11)) fun v1 =>
 W.ite (v1.snd.snd != 0) (W.ret (Sum.inr (0, 0, 0, 0, 0, v1.snd.snd)))
 (W.ret (Sum.inl (IntKind.i64.wrap (a4 * a5), v1.fst, v1.snd.fst))))
 (W.ret (Sum.inl (1, a24, a25))))
 (W.els fun v2 =>
 W.bind (α := Int × Int × Int × Int × Int) (W.ite (a0 == 1) (W.ret (IntKind.i64.wrap (IntKind.i64.wrap (a24 * a25) * a26), IntKind.i64.wrap (IntKind.i64.wrap (a24 * a25) * a26), 1, 1, a3))
 (W.ite (a0 == 2) (W.ret (IntKind.i64.wrap (v2.fst * a26), IntKind.i64.wrap (v2.fst * a26), v2.snd.fst, v2.snd.snd, a3))
 (W.bind (α := Bool) (W.ite (a0 == 3) (W.ret (a0 == 3))
 (W.ret (a0 == 4)))
 fun v3 =>
 W.ite (v3) (W.ret (v2.fst, v2.fst, v2.snd.fst, v2.snd.snd, a26))
 (W.ret (v2.fst, 0, v2.snd.fst, v2.snd.snd, a26)))))
 fun v4 =>
 W.ret (v4.snd.snd.fst, v4.snd.snd.snd.fst, v4.snd.snd.snd.snd, v4.snd.fst, IntKind.i64.wrap (IntKind.i64.wrap (IntKind.i64.wrap (v4.snd.snd.fst * v4.snd.snd.snd.fst) * v4.snd.snd.snd.snd) * v4.fst), 0))

/-- spillway/fixq.Valid -/
def g_fixq_Valid (a0 : Int) (a1 : Int) : W (Bool) :=
 W.ret (decide (0 < a0) && decide (a0 < 2147483648) && decide (0 ≤ a1) && decide (a1 ≤ 62))

/-- spillway/model.op -/
def g_model_op (a0 : Int) (a1 : Int) (a2 : Int) (a3 : Int) (a4 : Int) (a5 : Int) (a6 : Int) (a7 : Int) (a8 : Int) (a9 : Int) (a10 : Int) (a11 : Int) (a12 : Bool) (a13 : Rws) (a14 : Bool) (a15 : Rws) (a16 : Int) (a17 : Int) (a18 : Int) (a19 : Int) (a20 : Int) (a21 : Int) (a22 : Int) (a23 : Int) (a24 : Bool) (a25 : Rws) : W (Int × Int × Int × Int × Int) :=
 W.bind (g_model_of (a0)) fun v0 =>
 W.ite (!v0.snd.snd.snd.snd.snd.snd.snd.snd) (W.ret (0, 0, 0, 0, 81))
 (W.ite (decide (a1 < 0) || decide ((↑(List.length a25) : Int) ≤ a1) || v0.fst && (decide (a2 < 0) || decide ((↑(List.length a25) : Int) ≤ a2))) (W.ret (0, 0, 0, 0, 82))
 (W.bind (g_model_bare (a0) (a1) (a2) (a3) (a4) (a5) (a6) (a7) (a8) (a9) (a10) (a11) (a12) (a13) (a14) (a15) (a16) (a17) (a18) (a19) (a20) (a21) (a22) (a23) (v0.fst) (v0.snd.fst) (v0.snd.snd.fst) (v0.snd.snd.snd.fst) (v0.snd.snd.snd.snd.fst) (v0.snd.snd.snd.snd.snd.fst) (v0.snd.snd.snd.snd.snd.snd.fst) (v0.snd.snd.snd.snd.snd.snd.snd.fst)) fun v1 =>
 W.bind (g_model_empty (v1.fst) (v1.snd.fst) (v1.snd.snd.fst) (v1.snd.snd.snd.fst) (v1.snd.snd.snd.snd.fst) (v1.snd.snd.snd.snd.snd.fst) (v1.snd.snd.snd.snd.snd.snd.fst) (v1.snd.snd.snd.snd.snd.snd.snd.fst) (v1.snd.snd.snd.snd.snd.snd.snd.snd.fst) (v1.snd.snd.snd.snd.snd.snd.snd.snd.snd.fst) (v1.snd.snd.snd.snd.snd.snd.snd.snd.snd.snd.fst) (v1.snd.snd.snd.snd.snd.snd.snd.snd.snd.snd.snd.fst) (v1.snd.snd.snd.snd.snd.snd.snd.snd.snd.snd.snd.snd.fst) (v1.snd.snd.snd.snd.snd.snd.snd.snd.snd.snd.snd.snd.snd.fst) (v1.snd.snd.snd.snd.snd.snd.snd.snd.snd.snd.snd.snd.snd.snd.fst) (v1.snd.snd.snd.snd.snd.snd.snd.snd.snd.snd.snd.snd.snd.snd.snd.fst) (v1.snd.snd.snd.snd.snd.snd.snd.snd.snd.snd.snd.snd.snd.snd.snd.snd.fst) (v1.snd.snd.snd.snd.snd.snd.snd.snd.snd.snd.snd.snd.snd.snd.snd.snd.snd.fst) (v1.snd.snd.snd.snd.snd.snd.snd.snd.snd.snd.snd.snd.snd.snd.snd.snd.snd.snd.fst) (v1.snd.snd.snd.snd.snd.snd.snd.snd.snd.snd.snd.snd.snd.snd.snd.snd.snd.snd.snd.fst) (v1.snd.snd.snd.snd.snd.snd.snd.snd.snd.snd.snd.snd.snd.snd.snd.snd.snd.snd.snd.snd.fst) (v1.snd.snd.snd.snd.snd.snd.snd.snd.snd.snd.snd.snd.snd.snd.snd.snd.snd.snd.snd.snd.snd.fst) (v1.snd.snd.snd.snd.snd.snd.snd.snd.snd.snd.snd.snd.snd.snd.snd.snd.snd.snd.snd.snd.snd.snd.fst) (v1.snd.snd.snd.snd.snd.snd.snd.snd.snd.snd.snd.snd.snd.snd.snd.snd.snd.snd.snd.snd.snd.snd.snd)) fun v2 =>
 W.ite (!v2) (W.ret (0, 0, 0, 0, 83))
 (W.ite (v0.snd.fst && (decide (a3 < 1) || decide (1024 < a3))) (W.ret (0, 0, 0, 0, 2))
 (W.need (0 ≤ a1 ∧ a1 < (↑(List.length a25) : Int)) <|
 W.bind (g_model_makes (a0) (a1) (a2) (a3) (a4) (a5) (a6) (a7) (a8) (a9) (a10) (a11) (a12) (a13) (a14) (a15) (a16) (a17) (a18) (a19) (a20) (a21) (a22) (a23) (ri a25 a1.toNat 0) (ri a25 a1.toNat 1) (ri a25 a1.toNat 2)) fun v3 =>
 W.ite (v3.snd.snd.snd.snd.snd != 0) (W.ret (0, 0, 0, 0, v3.snd.snd.snd.snd.snd))
 (W.bind (g_shape_Elems (v3.fst) (v3.snd.fst) (v3.snd.snd.fst)) fun v4 =>
 W.need (v0.fst = true ∧ (v4.snd != 0) = false ∧ True → 0 ≤ a2 ∧ a2 < (↑(List.length a25) : Int)) <|
 W.ite (v4.snd != 0 || v0.fst && !(ri a25 a2.toNat 0 == ri a25 a1.toNat 0 && (ri a25 a2.toNat 1 == ri a25 a1.toNat 1 && ri a25 a2.toNat 2 == ri a25 a1.toNat 2))) (W.ret (0, 0, 0, 0, 50))
 (W.bind (α := Int) (W.ite (v0.snd.snd.snd.snd.fst) (W.ret v3.snd.snd.fst)
 (W.ret 0))
 fun v5 =>
 W.ite (decide (512 < v3.snd.snd.snd.fst)) (W.ret (0, 0, 0, 0, 84))
 (W.ite ((↑(List.length a13) : Int) != IntKind.i64.wrap (v5 * v3.snd.snd.snd.fst) || (↑(List.length a15) : Int) != v5) (W.ret (0, 0, 0, 0, 70))
 (W.bind (α := Bool) (W.ite (v0.snd.snd.snd.snd.snd.fst) (W.bind (g_fixq_Valid (a16) (a17)) fun v6 =>
 W.ite (!v6) (W.ret true)
 (W.ite (v0.snd.snd.snd.snd.snd.snd.fst) (W.bind (g_fixq_Valid (a18) (a19)) fun v7 =>
 W.ret !v7)
 (W.ret false)))
 (W.ite (v0.snd.snd.snd.snd.snd.snd.fst) (W.bind (g_fixq_Valid (a18) (a19)) fun v8 =>
 W.ret !v8)
 (W.ret false)))
 fun v9 =>
 W.ite (v9) (W.ret (0, 0, 0, 0, 20))
 (W.bind (g_model_byte8 (false) ([[I a22], [I a23], [I a20], [I a21]])) fun v10 =>
 W.ite (!v10 || decide (a23 < a22)) (W.ret (0, 0, 0, 0, 85))
 (W.ret (v3.fst, v3.snd.fst, v3.snd.snd.fst, v3.snd.snd.snd.snd.fst, 0)))))))))))

/-- spillway/model.whole -/
def g_model_whole (a0 : Int) (a1 : Int) (a2 : Int) (a3 : Int) (a4 : Int) (a5 : Bool) (a6 : Rws) (a7 : Int) : W (Int × Int × Int × Int × Bool × Rws) :=
 W.bind (g_shape_Elems (a0) (a1) (a2)) fun v0 =>
 W.ite (v0.snd != 0) (W.ret (0, v0.snd, 0, 0, true, []))
 (W.bind (g_model_byte8 (false) ([[I a3], [I a4]])) fun v1 =>
 W.ite (!v1 || decide (a4 < a3)) (W.ret (0, 85, 0, 0, true, []))
 (W.ite (decide (64 < (↑(List.length a6) : Int))) (W.ret (0, 80, 0, 0, true, []))
 (W.ite (decide (a7 < 0) || decide ((↑(List.length a6) : Int) < a7)) (W.ret (0, 3, 0, 0, true, []))
 (W.bind (W.loop (σ := Int × Int × Rws) (ε := (Int × Int) ⊕ (Int × Rws)) (fun v2 =>
 W.ite (decide (v2.snd.fst < (↑(List.length a6) : Int))) (W.need (0 ≤ v2.snd.fst ∧ v2.snd.fst < (↑(List.length a6) : Int)) <|
 W.bind (g_model_op (ri a6 v2.snd.fst.toNat 0) (ri a6 v2.snd.fst.toNat 1) (ri a6 v2.snd.fst.toNat 2) (ri a6 v2.snd.fst.toNat 3) (ri a6 v2.snd.fst.toNat 4) (ri a6 v2.snd.fst.toNat 5) (ri a6 v2.snd.fst.toNat 6) (ri a6 v2.snd.fst.toNat 7) (ri a6 v2.snd.fst.toNat 8) (ri a6 v2.snd.fst.toNat 9) (ri a6 v2.snd.fst.toNat 10) (ri a6 v2.snd.fst.toNat 11) (rn a6 v2.snd.fst.toNat 12) (rr a6 v2.snd.fst.toNat 12) (rn a6 v2.snd.fst.toNat 13) (rr a6 v2.snd.fst.toNat 13) (ri a6 v2.snd.fst.toNat 14) (ri a6 v2.snd.fst.toNat 15) (ri a6 v2.snd.fst.toNat 16) (ri a6 v2.snd.fst.toNat 17) (ri a6 v2.snd.fst.toNat 18) (ri a6 v2.snd.fst.toNat 19) (ri a6 v2.snd.fst.toNat 20) (ri a6 v2.snd.fst.toNat 21) (false) (v2.snd.snd)) fun v3 =>
 W.bind (α := Int) (W.ite (v3.snd.snd.snd.snd == 0 && decide (131072 < IntKind.i64.wrap (v2.fst + v3.snd.snd.snd.fst))) (W.ret 86)
 (W.ret v3.snd.snd.snd.snd))
 fun v4 =>
 W.ite (v4 != 0) (W.ret (Sum.inr (Sum.inl (v4, IntKind.i64.wrap (v2.snd.fst + 1)))))
 (W.need ((List.length v2.snd.snd + 1) * 24 ≤ 140737488355328) <|
 W.ret (Sum.inl (IntKind.i64.wrap (v2.fst + v3.snd.snd.snd.fst), IntKind.i64.wrap (v2.snd.fst + 1), v2.snd.snd ++ [[I v3.fst, I v3.snd.fst, I v3.snd.snd.fst]]))))
 (W.ret (Sum.inr (Sum.inr (v2.fst, v2.snd.snd))))) (0, 0, [[I a0, I a1, I a2]]))
 (W.sum (fun v5 =>
 W.ret (0, v5.fst, v5.snd, 0, true, [])) (fun v6 =>
 W.ret (v6.fst, 0, 0, 0, false, v6.snd)))))))

/-- spillway/model.Shapes -/
def g_model_Shapes (a0 : Int) (a1 : Int) (a2 : Int) (a3 : Int) (a4 : Int) (a5 : Bool) (a6 : Rws) (a7 : Int) : W (Int × Int × Int × Bool × Rws) :=
 W.bind (g_model_whole (a0) (a1) (a2) (a3) (a4) (a5) (a6) (a7)) fun v0 =>
 W.ret (v0.snd.fst, v0.snd.snd.fst, v0.snd.snd.snd.fst, v0.snd.snd.snd.snd.fst, v0.snd.snd.snd.snd.snd)

/-- spillway/span.Valid -/
def g_span_Valid (a0 : Int) (a1 : Int) : W (Bool) :=
 W.ret (decide (a0 ≤ a1))

/-- spillway/span.Holds -/
def g_span_Holds (a0 : Int) (a1 : Int) (a2 : Int) (a3 : Int) : W (Bool) :=
 W.bind (g_span_Valid (a2) (a3)) fun v0 =>
 W.ret (v0 && decide (a0 ≤ a2) && decide (a3 ≤ a1))

/-- spillway/cert.values -/
def g_cert_values (a0 : Int) (a1 : Int) : W (Bool) :=
 W.bind (g_span_Holds (-128) (127) (a0) (a1)) fun v0 =>
 W.ret v0

/-- spillway/cert.Form$1 -/
def g_cert_Form_1 (a0 : Int) (a1 : Int) : W (Bool) :=
 W.bind (g_cert_values (a0) (a1)) fun v0 =>
 W.ret !v0

/-- slices.IndexFunc[[]spillway/api.Span,spillway/api.Span] -/
def g_slices_IndexFunc___api_Span_api_Span___cert_Form_1 (a0 : Bool) (a1 : Rws) : W (Int) :=
 W.bind (W.loop (σ := Int) (ε := (Int) ⊕ (Unit)) (fun v0 =>
 W.ite (decide (v0 < (↑(List.length a1) : Int))) (W.need (0 ≤ v0 ∧ v0 < (↑(List.length a1) : Int)) <|
 W.bind (g_cert_Form_1 (ri a1 v0.toNat 0) (ri a1 v0.toNat 1)) fun v1 =>
 W.ite (v1) (W.ret (Sum.inr (Sum.inl v0)))
 (W.ret (Sum.inl (IntKind.i64.wrap (v0 + 1)))))
 (W.ret (Sum.inr (Sum.inr ())))) 0)
 (W.sum (fun v2 =>
 W.ret v2) (fun v3 =>
 W.ret (-1)))

/-- spillway/model.Reduces -/
def g_model_Reduces (a0 : Int) : W (Bool) :=
 W.bind (α := Bool) (W.ite (a0 == 1) (W.ret (a0 == 1))
 (W.ite (a0 == 2) (W.ret (a0 == 2))
 (W.ite (a0 == 3) (W.ret (a0 == 3))
 (W.ret (a0 == 4)))))
 fun v0 =>
 W.ite (v0) (W.ret true)
 (W.ret false)

/-- spillway/cert.Form -/
def g_cert_Form (a0 : Int) (a1 : Int) (a2 : Int) (a3 : Int) (a4 : Int) (a5 : Bool) (a6 : Rws) (a7 : Int) (a8 : Bool) (a9 : Rws) (a10 : Bool) (a11 : Rws) : W (Int × Int × Int) :=
 W.bind (g_model_Shapes (a0) (a1) (a2) (a3) (a4) (a5) (a6) (a7)) fun v0 =>
 W.ite (v0.fst != 0) (W.ret (v0.fst, v0.snd.fst, v0.snd.snd.fst))
 (W.ite ((↑(List.length a9) : Int) != (↑(List.length v0.snd.snd.snd.snd) : Int) || IntKind.i64.wrap ((↑(List.length a11) : Int) + 1) != (↑(List.length v0.snd.snd.snd.snd) : Int)) (W.ret (70, 0, 0))
 (W.bind (g_slices_IndexFunc___api_Span_api_Span___cert_Form_1 (a8) (a9)) fun v1 =>
 W.ite (decide (0 ≤ v1)) (W.ret (30, v1, 0))
 (W.bind (W.loop (σ := Int) (ε := (Int × Int × Int) ⊕ (Unit)) (fun v2 =>
 W.ite (decide (v2 < (↑(List.length a11) : Int))) (W.need (0 ≤ v2 ∧ v2 < (↑(List.length a11) : Int)) <|
 W.bind (α := Int × Bool) (W.need (0 ≤ v2 ∧ v2 < (↑(List.length a6) : Int)) <|
 W.bind (g_model_Reduces (ri a6 v2.toNat 0)) fun v3 =>
 W.ite (v3) (W.need (0 ≤ IntKind.i64.wrap (v2 + 1) ∧ IntKind.i64.wrap (v2 + 1) < (↑(List.length v0.snd.snd.snd.snd) : Int)) <|
 W.ret (ri v0.snd.snd.snd.snd (IntKind.i64.wrap (v2 + 1)).toNat 2, v3))
 (W.ret (0, v3)))
 fun v4 =>
 W.ite ((↑(List.length (rr a11 v2.toNat 0)) : Int) != v4.fst) (W.ret (Sum.inr (Sum.inl (70, IntKind.i64.wrap (v2 + 1), 0))))
 (W.bind (W.loop (σ := Int) (ε := (Int) ⊕ (Int × Bool)) (fun v5 =>
 W.ite (decide (v5 < (↑(List.length (rr a11 v2.toNat 0)) : Int))) (W.need (0 ≤ v5 ∧ v5 < (↑(List.length (rr a11 v2.toNat 0)) : Int)) <|
 W.bind (α := Bool × Bool × Bool × Bool) (W.bind (g_span_Valid (ri (rr a11 v2.toNat 0) v5.toNat 2) (ri (rr a11 v2.toNat 0) v5.toNat 3)) fun v6 =>
 W.ite (!v6) (W.ret (v6, !v6, true, true))
 (W.bind (g_span_Valid (ri (rr a11 v2.toNat 0) v5.toNat 4) (ri (rr a11 v2.toNat 0) v5.toNat 5)) fun v7 =>
 W.ret (v6, !v6, false, !v7)))
 fun v8 =>
 W.ite (v8.snd.snd.snd) (W.ret (Sum.inr (Sum.inl (IntKind.i64.wrap (v5 + 1)))))
 (W.ret (Sum.inl (IntKind.i64.wrap (v5 + 1)))))
 (W.ret (Sum.inr (Sum.inr (v5, decide (v5 < (↑(List.length (rr a11 v2.toNat 0)) : Int))))))) 0)
 (W.sum (fun v9 =>
 W.ret (Sum.inr (Sum.inl (30, IntKind.i64.wrap (v2 + 1), v9)))) (fun v10 =>
 W.ret (Sum.inl (IntKind.i64.wrap (v2 + 1)))))))
 (W.ret (Sum.inr (Sum.inr ())))) 0)
 (W.sum (fun v11 =>
 W.ret (v11.fst, v11.snd.fst, v11.snd.snd)) (fun v12 =>
 W.ret (0, 0, 0))))))

/-- spillway/terms.find -/
def g_terms_find (a0 : Int) (a1 : Int) (a2 : Int) (a3 : Int) (a4 : Int) (a5 : Bool) (a6 : Rws) (a7 : Int) (a8 : Int) : W (Int × Int × Int × Int × Int × Int × Int × Int × Int × Int × Int × Int × Bool × Rws × Bool × Rws × Int × Int × Int × Int × Int × Int × Int × Int × Int × Int × Int × Int × Int × Int × Int × Int) :=
 W.bind (g_model_Shapes (a0) (a1) (a2) (a3) (a4) (a5) (a6) (a7)) fun v0 =>
 W.ite (v0.fst != 0) (W.ret (0, 0, 0, 0, 0, 0, 0, 0, 0, 0, 0, 0, true, [], true, [], 0, 0, 0, 0, 0, 0, 0, 0, 0, 0, 0, 0, 0, 0, 0, v0.fst))
 (W.ite (decide (a8 < 1) || decide ((↑(List.length a6) : Int) < a8)) (W.ret (0, 0, 0, 0, 0, 0, 0, 0, 0, 0, 0, 0, true, [], true, [], 0, 0, 0, 0, 0, 0, 0, 0, 0, 0, 0, 0, 0, 0, 0, 3))
 (W.need (0 ≤ IntKind.i64.wrap (a8 - 1) ∧ IntKind.i64.wrap (a8 - 1) < (↑(List.length a6) : Int)) <|
 W.bind (g_model_Reduces (ri a6 (IntKind.i64.wrap (a8 - 1)).toNat 0)) fun v1 =>
 W.ite (!v1) (W.ret (0, 0, 0, 0, 0, 0, 0, 0, 0, 0, 0, 0, true, [], true, [], 0, 0, 0, 0, 0, 0, 0, 0, 0, 0, 0, 0, 0, 0, 0, 81))
 (W.need (0 ≤ IntKind.i64.wrap (a8 - 1) ∧ IntKind.i64.wrap (a8 - 1) < (↑(List.length a6) : Int)) <|
 W.need (0 ≤ a8 ∧ a8 < (↑(List.length v0.snd.snd.snd.snd) : Int)) <|
 W.need (0 ≤ ri a6 (IntKind.i64.wrap (a8 - 1)).toNat 1 ∧ ri a6 (IntKind.i64.wrap (a8 - 1)).toNat 1 < (↑(List.length v0.snd.snd.snd.snd) : Int)) <|
 W.bind (α := Int) (W.ite (ri a6 (IntKind.i64.wrap (a8 - 1)).toNat 0 == 1) (W.ret (IntKind.i64.wrap (IntKind.i64.wrap (ri v0.snd.snd.snd.snd (ri a6 (IntKind.i64.wrap (a8 - 1)).toNat 1).toNat 0 * ri v0.snd.snd.snd.snd (ri a6 (IntKind.i64.wrap (a8 - 1)).toNat 1).toNat 1) * ri v0.snd.snd.snd.snd (ri a6 (IntKind.i64.wrap (a8 - 1)).toNat 1).toNat 2)))
 (W.ite (ri a6 (IntKind.i64.wrap (a8 - 1)).toNat 0 == 2) (W.ret (IntKind.i64.wrap (IntKind.i64.wrap (ri a6 (IntKind.i64.wrap (a8 - 1)).toNat 4 * ri a6 (IntKind.i64.wrap (a8 - 1)).toNat 5) * ri v0.snd.snd.snd.snd (ri a6 (IntKind.i64.wrap (a8 - 1)).toNat 1).toNat 2)))
 (W.ret (IntKind.i64.wrap (ri a6 (IntKind.i64.wrap (a8 - 1)).toNat 4 * ri a6 (IntKind.i64.wrap (a8 - 1)).toNat 5)))))
 fun v2 =>
 W.ret (ri a6 (IntKind.i64.wrap (a8 - 1)).toNat 0, ri a6 (IntKind.i64.wrap (a8 - 1)).toNat 1, ri a6 (IntKind.i64.wrap (a8 - 1)).toNat 2, ri a6 (IntKind.i64.wrap (a8 - 1)).toNat 3, ri a6 (IntKind.i64.wrap (a8 - 1)).toNat 4, ri a6 (IntKind.i64.wrap (a8 - 1)).toNat 5, ri a6 (IntKind.i64.wrap (a8 - 1)).toNat 6, ri a6 (IntKind.i64.wrap (a8 - 1)).toNat 7, ri a6 (IntKind.i64.wrap (a8 - 1)).toNat 8, ri a6 (IntKind.i64.wrap (a8 - 1)).toNat 9, ri a6 (IntKind.i64.wrap (a8 - 1)).toNat 10, ri a6 (IntKind.i64.wrap (a8 - 1)).toNat 11, rn a6 (IntKind.i64.wrap (a8 - 1)).toNat 12, rr a6 (IntKind.i64.wrap (a8 - 1)).toNat 12, rn a6 (IntKind.i64.wrap (a8 - 1)).toNat 13, rr a6 (IntKind.i64.wrap (a8 - 1)).toNat 13, ri a6 (IntKind.i64.wrap (a8 - 1)).toNat 14, ri a6 (IntKind.i64.wrap (a8 - 1)).toNat 15, ri a6 (IntKind.i64.wrap (a8 - 1)).toNat 16, ri a6 (IntKind.i64.wrap (a8 - 1)).toNat 17, ri a6 (IntKind.i64.wrap (a8 - 1)).toNat 18, ri a6 (IntKind.i64.wrap (a8 - 1)).toNat 19, ri a6 (IntKind.i64.wrap (a8 - 1)).toNat 20, ri a6 (IntKind.i64.wrap (a8 - 1)).toNat 21, ri v0.snd.snd.snd.snd (ri a6 (IntKind.i64.wrap (a8 - 1)).toNat 1).toNat 0, ri v0.snd.snd.snd.snd (ri a6 (IntKind.i64.wrap (a8 - 1)).toNat 1).toNat 1, ri v0.snd.snd.snd.snd (ri a6 (IntKind.i64.wrap (a8 - 1)).toNat 1).toNat 2, ri v0.snd.snd.snd.snd a8.toNat 0, ri v0.snd.snd.snd.snd a8.toNat 1, ri v0.snd.snd.snd.snd a8.toNat 2, v2, 0))))

/-- spillway/terms.Length -/
def g_terms_Length (a0 : Int) (a1 : Int) (a2 : Int) (a3 : Int) (a4 : Int) (a5 : Bool) (a6 : Rws) (a7 : Int) (a8 : Int) : W (Int × Int) :=
 W.bind (g_terms_find (a0) (a1) (a2) (a3) (a4) (a5) (a6) (a7) (a8)) fun v0 =>
 W.ret (v0.snd.snd.snd.snd.snd.snd.snd.snd.snd.snd.snd.snd.snd.snd.snd.snd.snd.snd.snd.snd.snd.snd.snd.snd.snd.snd.snd.snd.snd.snd.fst, v0.snd.snd.snd.snd.snd.snd.snd.snd.snd.snd.snd.snd.snd.snd.snd.snd.snd.snd.snd.snd.snd.snd.snd.snd.snd.snd.snd.snd.snd.snd.snd)

/-- spillway/terms.Positions -/
def g_terms_Positions (a0 : Int) (a1 : Int) (a2 : Int) (a3 : Int) (a4 : Int) (a5 : Bool) (a6 : Rws) (a7 : Int) (a8 : Int) : W (Int × Int) :=
 W.bind (g_terms_find (a0) (a1) (a2) (a3) (a4) (a5) (a6) (a7) (a8)) fun v0 =>
 W.ret (IntKind.i64.wrap (v0.snd.snd.snd.snd.snd.snd.snd.snd.snd.snd.snd.snd.snd.snd.snd.snd.snd.snd.snd.snd.snd.snd.snd.snd.snd.snd.snd.fst * v0.snd.snd.snd.snd.snd.snd.snd.snd.snd.snd.snd.snd.snd.snd.snd.snd.snd.snd.snd.snd.snd.snd.snd.snd.snd.snd.snd.snd.fst), v0.snd.snd.snd.snd.snd.snd.snd.snd.snd.snd.snd.snd.snd.snd.snd.snd.snd.snd.snd.snd.snd.snd.snd.snd.snd.snd.snd.snd.snd.snd.snd)

/-- spillway/cert.Blocks -/
def g_cert_Blocks (a0 : Int) (a1 : Int) : W (Int × Int) :=
 W.ite (decide (a1 < 1) || decide (a0 < a1)) (W.ret (0, 151))
 (W.need (a1 ≠ 0) <|
 W.ret (IntKind.i64.wrap (IntKind.i64.wrap ((IntKind.i64.wrap (a0 - 1)).tdiv a1) + 1), 0))

/-- spillway/cert.one -/
def g_cert_one (a0 : Int) (a1 : Int) (a2 : Int) (a3 : Int) (a4 : Int) (a5 : Int) (a6 : Int) : W (Int × Int × Int × Int × Int × Int × Int × Int × Int × Int) :=
 W.bind (g_cert_Blocks (a6) (a1)) fun v0 =>
 W.ite (a0 != 16 && a0 != 32) (W.ret (0, 0, 0, 0, 0, 0, 0, 0, 0, 150))
 (W.ite (v0.snd != 0 || a0 == 32 && v0.fst != 1) (W.ret (0, 0, 0, 0, 0, 0, 0, 0, 0, 151))
 (W.ite (a0 == 32) (W.ret (0, 0, a6, a6, 0, 0, 0, 0, 0, 0))
 (W.ret (a6, a6, 0, v0.fst, 0, 0, 0, 0, 0, 0))))

/-- spillway/cert.Cost -/
def g_cert_Cost (a0 : Int) (a1 : Int) (a2 : Int) (a3 : Int) (a4 : Int) (a5 : Bool) (a6 : Rws) (a7 : Int) (a8 : Bool) (a9 : Rws) (a10 : Bool) (a11 : Rws) : W (Int × Int × Int × Int × Int × Int × Int × Int × Int × Int × Int × Int) :=
 W.bind (g_cert_Form (a0) (a1) (a2) (a3) (a4) (a5) (a6) (a7) (a8) (a9) (a10) (a11)) fun v0 =>
 W.ite (v0.fst != 0) (W.ret (0, 0, 0, 0, 0, 0, 0, 0, 0, v0.fst, v0.snd.fst, v0.snd.snd))
 (W.bind (W.loop (σ := Int × Int × Int × Int × Int) (ε := (Int × Int × Int) ⊕ (Int × Int × Int × Int)) (fun v1 =>
 W.ite (decide (v1.fst < (↑(List.length a11) : Int))) (W.need (0 ≤ v1.fst ∧ v1.fst < (↑(List.length a11) : Int)) <|
 W.bind (g_terms_Length (a0) (a1) (a2) (a3) (a4) (a5) (a6) (a7) (IntKind.i64.wrap (v1.fst + 1))) fun v2 =>
 W.bind (g_terms_Positions (a0) (a1) (a2) (a3) (a4) (a5) (a6) (a7) (IntKind.i64.wrap (v1.fst + 1))) fun v3 =>
 W.bind (W.loop (σ := Int × Int × Int × Int × Int) (ε := (Int × Int) ⊕ (Int × Bool × Int × Int × Int × Int)) (fun v4 =>
 W.ite (decide (v4.fst < (↑(List.length (rr a11 v1.fst.toNat 0)) : Int))) (W.need (0 ≤ v4.fst ∧ v4.fst < (↑(List.length (rr a11 v1.fst.toNat 0)) : Int)) <|
 W.bind (g_cert_one (ri (rr a11 v1.fst.toNat 0) v4.fst.toNat 0) (ri (rr a11 v1.fst.toNat 0) v4.fst.toNat 1) (ri (rr a11 v1.fst.toNat 0) v4.fst.toNat 2) (ri (rr a11 v1.fst.toNat 0) v4.fst.toNat 3) (ri (rr a11 v1.fst.toNat 0) v4.fst.toNat 4) (ri (rr a11 v1.fst.toNat 0) v4.fst.toNat 5) (v2.fst)) fun v5 =>
 W.ite (v5.snd.snd.snd.snd.snd.snd.snd.snd.snd != 0) (W.ret (Sum.inr (Sum.inl (v5.snd.snd.snd.snd.snd.snd.snd.snd.snd, IntKind.i64.wrap (v4.fst + 1)))))
 (W.ret (Sum.inl (IntKind.i64.wrap (v4.fst + 1), IntKind.i64.wrap (v4.snd.fst + IntKind.i64.wrap (v3.fst * v5.fst)), IntKind.i64.wrap (v4.snd.snd.fst + IntKind.i64.wrap (v3.fst * v5.snd.fst)), IntKind.i64.wrap (v4.snd.snd.snd.fst + IntKind.i64.wrap (v3.fst * v5.snd.snd.fst)), IntKind.i64.wrap (v4.snd.snd.snd.snd + IntKind.i64.wrap (v3.fst * v5.snd.snd.snd.fst))))))
 (W.ret (Sum.inr (Sum.inr (v4.fst, decide (v4.fst < (↑(List.length (rr a11 v1.fst.toNat 0)) : Int)), v4.snd.fst, v4.snd.snd.fst, v4.snd.snd.snd.fst, v4.snd.snd.snd.snd))))) (0, v1.snd.fst, v1.snd.snd.fst, v1.snd.snd.snd.fst, v1.snd.snd.snd.snd))
 (W.sum (fun v6 =>
 W.ret (Sum.inr (Sum.inl (v6.fst, IntKind.i64.wrap (v1.fst + 1), v6.snd)))) (fun v7 =>
 W.ret (Sum.inl (IntKind.i64.wrap (v1.fst + 1), v7.snd.snd.fst, v7.snd.snd.snd.fst, v7.snd.snd.snd.snd.fst, v7.snd.snd.snd.snd.snd)))))
 (W.ret (Sum.inr (Sum.inr (v1.snd.fst, v1.snd.snd.fst, v1.snd.snd.snd.fst, v1.snd.snd.snd.snd))))) (0, 0, 0, 0, 0))
 (W.sum (fun v8 =>
 W.ret (0, 0, 0, 0, 0, 0, 0, 0, 0, v8.fst, v8.snd.fst, v8.snd.snd)) (fun v9 =>
 W.ret (v9.fst, v9.snd.fst, v9.snd.snd.fst, v9.snd.snd.snd, 0, 0, 0, 0, 0, 0, 0, 0))))

/-- slices.Equal[[]spillway/api.Span,spillway/api.Span] -/
def g_slices_Equal___api_Span_api_Span_ (a0 : Bool) (a1 : Rws) (a2 : Bool) (a3 : Rws) : W (Bool) :=
 W.ite ((↑(List.length a1) : Int) != (↑(List.length a3) : Int)) (W.ret false)
 (W.bind (W.loop (σ := Int) (ε := (Unit) ⊕ (Unit)) (fun v0 =>
 W.ite (decide (v0 < (↑(List.length a1) : Int))) (W.need (0 ≤ v0 ∧ v0 < (↑(List.length a1) : Int)) <|
 W.need (0 ≤ v0 ∧ v0 < (↑(List.length a3) : Int)) <|
 W.ite (!(ri a1 v0.toNat 0 == ri a3 v0.toNat 0 && ri a1 v0.toNat 1 == ri a3 v0.toNat 1)) (W.ret (Sum.inr (Sum.inl ())))
 (W.ret (Sum.inl (IntKind.i64.wrap (v0 + 1)))))
 (W.ret (Sum.inr (Sum.inr ())))) 0)
 (W.sum (fun v1 =>
 W.ret false) (fun v2 =>
 W.ret true)))

/-- slices.Equal[[]spillway/api.Chan,spillway/api.Chan] -/
def g_slices_Equal___api_Chan_api_Chan_ (a0 : Bool) (a1 : Rws) (a2 : Bool) (a3 : Rws) : W (Bool) :=
 W.ite ((↑(List.length a1) : Int) != (↑(List.length a3) : Int)) (W.ret false)
 (W.bind (W.loop (σ := Int) (ε := (Unit) ⊕ (Unit)) (fun v0 =>
 W.ite (decide (v0 < (↑(List.length a1) : Int))) (W.need (0 ≤ v0 ∧ v0 < (↑(List.length a1) : Int)) <|
 W.need (0 ≤ v0 ∧ v0 < (↑(List.length a3) : Int)) <|
 W.ite (!(ri a1 v0.toNat 0 == ri a3 v0.toNat 0 && (ri a1 v0.toNat 1 == ri a3 v0.toNat 1 && (ri a1 v0.toNat 2 == ri a3 v0.toNat 2 && (ri a1 v0.toNat 3 == ri a3 v0.toNat 3 && (ri a1 v0.toNat 4 == ri a3 v0.toNat 4 && ri a1 v0.toNat 5 == ri a3 v0.toNat 5)))))) (W.ret (Sum.inr (Sum.inl ())))
 (W.ret (Sum.inl (IntKind.i64.wrap (v0 + 1)))))
 (W.ret (Sum.inr (Sum.inr ())))) 0)
 (W.sum (fun v1 =>
 W.ret false) (fun v2 =>
 W.ret true)))

/-- slices.EqualFunc[[][]spillway/api.Chan,[][]spillway/api.Chan,[]spillway/api.Chan,[]spillway/api.Chan] -/
def g_slices_EqualFunc_____api_Chan_____api_Chan___api_Chan___api_Chan___slices_Equal___api_Chan_api_Chan_ (a0 : Bool) (a1 : Rws) (a2 : Bool) (a3 : Rws) : W (Bool) :=
 W.ite ((↑(List.length a1) : Int) != (↑(List.length a3) : Int)) (W.ret false)
 (W.bind (W.loop (σ := Int) (ε := (Unit) ⊕ (Unit)) (fun v0 =>
 W.ite (decide (v0 < (↑(List.length a1) : Int))) (W.need (0 ≤ v0 ∧ v0 < (↑(List.length a1) : Int)) <|
 W.need (0 ≤ v0 ∧ v0 < (↑(List.length a3) : Int)) <|
 W.bind (g_slices_Equal___api_Chan_api_Chan_ (rn a1 v0.toNat 0) (rr a1 v0.toNat 0) (rn a3 v0.toNat 0) (rr a3 v0.toNat 0)) fun v1 =>
 W.ite (!v1) (W.ret (Sum.inr (Sum.inl ())))
 (W.ret (Sum.inl (IntKind.i64.wrap (v0 + 1)))))
 (W.ret (Sum.inr (Sum.inr ())))) 0)
 (W.sum (fun v2 =>
 W.ret false) (fun v3 =>
 W.ret true)))

/-- spillway/cert.Same -/
def g_cert_Same (a0 : Bool) (a1 : Rws) (a2 : Bool) (a3 : Rws) (a4 : Bool) (a5 : Rws) (a6 : Bool) (a7 : Rws) : W (Bool) :=
 W.bind (α := Bool) (W.bind (g_slices_Equal___api_Span_api_Span_ (a0) (a1) (a4) (a5)) fun v0 =>
 W.ite (v0) (W.bind (g_slices_EqualFunc_____api_Chan_____api_Chan___api_Chan___api_Chan___slices_Equal___api_Chan_api_Chan_ (a2) (a3) (a6) (a7)) fun v1 =>
 W.ret v1)
 (W.ret false))
 fun v2 =>
 W.ret v2

/-- spillway/spillwaylaw15.fixed -/
def g_law15_fixed : W (Bool) :=
 W.bind (g_law15_one ) fun v0 =>
 W.bind (g_cert_Cost (v0.fst) (v0.snd.fst) (v0.snd.snd.fst) (v0.snd.snd.snd.fst) (v0.snd.snd.snd.snd.fst) (v0.snd.snd.snd.snd.snd.snd.fst) (v0.snd.snd.snd.snd.snd.snd.snd.fst) (v0.snd.snd.snd.snd.snd.fst) (v0.snd.snd.snd.snd.snd.snd.snd.snd.fst) (v0.snd.snd.snd.snd.snd.snd.snd.snd.snd.fst) (v0.snd.snd.snd.snd.snd.snd.snd.snd.snd.snd.fst) (v0.snd.snd.snd.snd.snd.snd.snd.snd.snd.snd.snd)) fun v1 =>
 W.bind (g_cert_Blocks (7) (3)) fun v2 =>
 W.bind (g_law15_one ) fun v3 =>
 W.need ((0 : Int) ≤ (1 : Int) ∧ (1 : Int) < (↑(List.length v3.snd.snd.snd.snd.snd.snd.snd.snd.snd.fst) : Int)) <|
 W.bind (α := Bool) (W.ite (v1.fst == 2 && (v1.snd.fst == 2 && (v1.snd.snd.fst == 0 && (v1.snd.snd.snd.fst == 1 && (v1.snd.snd.snd.snd.fst == 0 && (v1.snd.snd.snd.snd.snd.fst == 0 && (v1.snd.snd.snd.snd.snd.snd.fst == 0 && (v1.snd.snd.snd.snd.snd.snd.snd.fst == 0 && v1.snd.snd.snd.snd.snd.snd.snd.snd.fst == 0))))))) && (v1.snd.snd.snd.snd.snd.snd.snd.snd.snd.fst == 0 && (v1.snd.snd.snd.snd.snd.snd.snd.snd.snd.snd.fst == 0 && v1.snd.snd.snd.snd.snd.snd.snd.snd.snd.snd.snd == 0)) && v2.fst == 3 && v2.snd == 0) (W.bind (g_cert_Form (v0.fst) (v0.snd.fst) (v0.snd.snd.fst) (v0.snd.snd.snd.fst) (v0.snd.snd.snd.snd.fst) (v0.snd.snd.snd.snd.snd.snd.fst) (v0.snd.snd.snd.snd.snd.snd.snd.fst) (v0.snd.snd.snd.snd.snd.fst) (v0.snd.snd.snd.snd.snd.snd.snd.snd.fst) (v0.snd.snd.snd.snd.snd.snd.snd.snd.snd.fst) (v0.snd.snd.snd.snd.snd.snd.snd.snd.snd.snd.fst) (v0.snd.snd.snd.snd.snd.snd.snd.snd.snd.snd.snd)) fun v4 =>
 W.ite (v4.fst == 0 && (v4.snd.fst == 0 && v4.snd.snd == 0)) (W.bind (g_cert_Form (v3.fst) (v3.snd.fst) (v3.snd.snd.fst) (v3.snd.snd.snd.fst) (v3.snd.snd.snd.snd.fst) (v3.snd.snd.snd.snd.snd.snd.fst) (v3.snd.snd.snd.snd.snd.snd.snd.fst) (v3.snd.snd.snd.snd.snd.fst) (v3.snd.snd.snd.snd.snd.snd.snd.snd.fst) (List.set v3.snd.snd.snd.snd.snd.snd.snd.snd.snd.fst 1 [I (ri v3.snd.snd.snd.snd.snd.snd.snd.snd.snd.fst 1 0), I 200]) (v3.snd.snd.snd.snd.snd.snd.snd.snd.snd.snd.fst) (v3.snd.snd.snd.snd.snd.snd.snd.snd.snd.snd.snd)) fun v5 =>
 W.ite (v5.fst == 30 && (v5.snd.fst == 1 && v5.snd.snd == 0)) (W.bind (g_law15_one ) fun v6 =>
 W.bind (g_cert_Same (v0.snd.snd.snd.snd.snd.snd.snd.snd.fst) (v0.snd.snd.snd.snd.snd.snd.snd.snd.snd.fst) (v0.snd.snd.snd.snd.snd.snd.snd.snd.snd.snd.fst) (v0.snd.snd.snd.snd.snd.snd.snd.snd.snd.snd.snd) (v6.snd.snd.snd.snd.snd.snd.snd.snd.fst) (v6.snd.snd.snd.snd.snd.snd.snd.snd.snd.fst) (v6.snd.snd.snd.snd.snd.snd.snd.snd.snd.snd.fst) (v6.snd.snd.snd.snd.snd.snd.snd.snd.snd.snd.snd)) fun v7 =>
 W.ite (v7) (W.bind (g_cert_Same (v0.snd.snd.snd.snd.snd.snd.snd.snd.fst) (v0.snd.snd.snd.snd.snd.snd.snd.snd.snd.fst) (v0.snd.snd.snd.snd.snd.snd.snd.snd.snd.snd.fst) (v0.snd.snd.snd.snd.snd.snd.snd.snd.snd.snd.snd) (v3.snd.snd.snd.snd.snd.snd.snd.snd.fst) (List.set v3.snd.snd.snd.snd.snd.snd.snd.snd.snd.fst 1 [I (ri v3.snd.snd.snd.snd.snd.snd.snd.snd.snd.fst 1 0), I 200]) (v3.snd.snd.snd.snd.snd.snd.snd.snd.snd.snd.fst) (v3.snd.snd.snd.snd.snd.snd.snd.snd.snd.snd.snd)) fun v8 =>
 W.ret !v8)
 (W.ret false))
 (W.ret false))
 (W.ret false))
 (W.ret false))
 fun v9 =>
 W.ret v9

/-- spillway/spillwayref15.Same -/
def g_ref15_Same (a0 : Bool) (a1 : Rws) (a2 : Bool) (a3 : Rws) (a4 : Bool) (a5 : Rws) (a6 : Bool) (a7 : Rws) : W (Bool) :=
 W.ite ((↑(List.length a1) : Int) != (↑(List.length a5) : Int) || (↑(List.length a3) : Int) != (↑(List.length a7) : Int)) (W.ret false)
 (W.bind (W.loop (σ := Int) (ε := (Unit) ⊕ (Unit)) (fun v0 =>
 W.ite (decide (v0 < (↑(List.length a1) : Int))) (W.need (0 ≤ v0 ∧ v0 < (↑(List.length a1) : Int)) <|
 W.need (0 ≤ v0 ∧ v0 < (↑(List.length a5) : Int)) <|
 W.ite (!(ri a1 v0.toNat 0 == ri a5 v0.toNat 0 && ri a1 v0.toNat 1 == ri a5 v0.toNat 1)) (W.ret (Sum.inr (Sum.inl ())))
 (W.ret (Sum.inl (IntKind.i64.wrap (v0 + 1)))))
 (W.ret (Sum.inr (Sum.inr ())))) 0)
 (W.sum (fun v1 =>
 W.ret false) (fun v2 =>
 W.bind (W.loop (σ := Int) (ε := (Unit) ⊕ (Unit)) (fun v3 =>
 W.ite (decide (v3 < (↑(List.length a3) : Int))) (W.need (0 ≤ v3 ∧ v3 < (↑(List.length a3) : Int)) <|
 W.need (0 ≤ v3 ∧ v3 < (↑(List.length a7) : Int)) <|
 W.ite ((↑(List.length (rr a3 v3.toNat 0)) : Int) != (↑(List.length (rr a7 v3.toNat 0)) : Int)) (W.ret (Sum.inr (Sum.inl ())))
 (W.need (0 ≤ v3 ∧ v3 < (↑(List.length a3) : Int)) <|
 W.bind (W.loop (σ := Int) (ε := (Unit) ⊕ (Int × Bool)) (fun v4 =>
 W.ite (decide (v4 < (↑(List.length (rr a3 v3.toNat 0)) : Int))) (W.need (0 ≤ v3 ∧ v3 < (↑(List.length a3) : Int)) <|
 W.need (0 ≤ v4 ∧ v4 < (↑(List.length (rr a3 v3.toNat 0)) : Int)) <|
 W.need (0 ≤ v3 ∧ v3 < (↑(List.length a7) : Int)) <|
 W.need (0 ≤ v4 ∧ v4 < (↑(List.length (rr a7 v3.toNat 0)) : Int)) <|
 W.ite (!(ri (rr a3 v3.toNat 0) v4.toNat 0 == ri (rr a7 v3.toNat 0) v4.toNat 0 && (ri (rr a3 v3.toNat 0) v4.toNat 1 == ri (rr a7 v3.toNat 0) v4.toNat 1 && (ri (rr a3 v3.toNat 0) v4.toNat 2 == ri (rr a7 v3.toNat 0) v4.toNat 2 && (ri (rr a3 v3.toNat 0) v4.toNat 3 == ri (rr a7 v3.toNat 0) v4.toNat 3 && (ri (rr a3 v3.toNat 0) v4.toNat 4 == ri (rr a7 v3.toNat 0) v4.toNat 4 && ri (rr a3 v3.toNat 0) v4.toNat 5 == ri (rr a7 v3.toNat 0) v4.toNat 5)))))) (W.ret (Sum.inr (Sum.inl ())))
 (W.ret (Sum.inl (IntKind.i64.wrap (v4 + 1)))))
 (W.ret (Sum.inr (Sum.inr (v4, decide (v4 < (↑(List.length (rr a3 v3.toNat 0)) : Int))))))) 0)
 (W.sum (fun v5 =>
 W.ret (Sum.inr (Sum.inl ()))) (fun v6 =>
 W.ret (Sum.inl (IntKind.i64.wrap (v3 + 1)))))))
 (W.ret (Sum.inr (Sum.inr ())))) 0)
 (W.sum (fun v7 =>
 W.ret false) (fun v8 =>
 W.ret true)))))

/-- spillway/spillwayref15.Copy -/
def g_ref15_Copy (a0 : Bool) (a1 : Rws) (a2 : Bool) (a3 : Rws) : W (Bool × Rws × Bool × Rws) :=
 W.bind (W.loop (σ := Int × Bool × Rws) (ε := Bool × Rws) (fun v0 =>
 W.ite (decide (v0.fst < (↑(List.length a3) : Int))) (W.need (0 ≤ v0.fst ∧ v0.fst < (↑(List.length a3) : Int)) <|
 W.need ((0 + List.length (rr a3 v0.fst.toNat 0)) * 48 ≤ 140737488355328) <|
 W.need ((List.length v0.snd.snd + 1) * 24 ≤ 140737488355328) <|
 W.ret (Sum.inl (IntKind.i64.wrap (v0.fst + 1), v0.snd.fst && false, v0.snd.snd ++ [[AV.sl false 0 (rr a3 v0.fst.toNat 0)]])))
 (W.ret (Sum.inr (v0.snd.fst, v0.snd.snd)))) (0, true, []))
 (fun v1 =>
 W.need ((0 + List.length a1) * 16 ≤ 140737488355328) <|
 W.ret (false, a1, v1.fst, v1.snd))

/-- spillway/spillwaylaw15.CertSames -/
def g_law15_CertSames (a0 : Bool) (a1 : Rws) (a2 : Bool) (a3 : Rws) (a4 : Bool) (a5 : Rws) (a6 : Bool) (a7 : Rws) : W (Bool) :=
 W.bind (α := Bool) (W.bind (g_law15_fixed ) fun v0 =>
 W.ite (v0) (W.bind (g_cert_Same (a0) (a1) (a2) (a3) (a4) (a5) (a6) (a7)) fun v1 =>
 W.bind (g_ref15_Same (a0) (a1) (a2) (a3) (a4) (a5) (a6) (a7)) fun v2 =>
 W.ite (v1 == v2) (W.bind (g_cert_Same (a4) (a5) (a6) (a7) (a0) (a1) (a2) (a3)) fun v3 =>
 W.bind (g_cert_Same (a0) (a1) (a2) (a3) (a4) (a5) (a6) (a7)) fun v4 =>
 W.ite (v3 == v4) (W.bind (g_ref15_Copy (a0) (a1) (a2) (a3)) fun v5 =>
 W.bind (g_cert_Same (a0) (a1) (a2) (a3) (v5.fst) (v5.snd.fst) (v5.snd.snd.fst) (v5.snd.snd.snd)) fun v6 =>
 W.ret v6)
 (W.ret false))
 (W.ret false))
 (W.ret false))
 fun v7 =>
 W.ret v7

/-- spillway/spillwayref15.Blocks -/
def g_ref15_Blocks (a0 : Int) (a1 : Int) : W (Int × Int) :=
 W.ite (decide (a1 < 1) || decide (a0 < a1)) (W.ret (0, 151))
 (W.need (a1 ≠ 0) <|
 W.bind (α := Int) (W.need (a1 ≠ 0) <|
 W.ite (decide (0 < a0.tmod a1)) (W.ret (IntKind.i64.wrap (IntKind.i64.wrap (a0.tdiv a1) + 1)))
 (W.ret (IntKind.i64.wrap (a0.tdiv a1))))
 fun v0 =>
 W.ret (v0, 0))

/-- spillway/spillwaylaw15.CertBlocks -/
def g_law15_CertBlocks (a0 : Int) (a1 : Int) : W (Bool) :=
 W.bind (g_cert_Blocks (a0) (a1)) fun v0 =>
 W.bind (g_ref15_Blocks (a0) (a1)) fun v1 =>
 W.bind (g_law15_fixed ) fun v2 =>
 W.ite (!v2 || v0.fst != v1.fst || v0.snd != v1.snd) (W.ret false)
 (W.ite (v0.snd != 0 || decide (1073741824 < a0)) (W.ret true)
 (W.ret (decide (a0 ≤ IntKind.i64.wrap (v0.fst * a1)) && decide (IntKind.i64.wrap (IntKind.i64.wrap (v0.fst - 1) * a1) < a0))))
end Go.Proofs.Yticonbckgffjbaa.VX
