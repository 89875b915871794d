/- The pure forms of the functions. -/
import Derived.Test.YtalchibbmkhkpaaVX2
import Derived.Test.YtalchibbmkhkpaaProg
import Derived.KernelRfl
import Derived.Test.YtalchibbmkhkpaaVX3
set_option linter.unusedVariables false
set_option linter.unusedSimpArgs false
namespace Go.Proofs.Ytalchibbmkhkpaa.V24
open Go.Proofs Go.Proofs.Ytalchibbmkhkpaa.VX
def tab : Tab :=
 [(1, ⟨.other, 1, 8, [.nilf], none, false⟩),
  (2, ⟨.int .i64, 1, 8, [.int .i64 0], some [.int .i64], true⟩),
  (3, ⟨.int .i64, 1, 8, [.int .i64 0], some [.int .i64], true⟩),
  (4, ⟨.bool, 1, 1, [.kb false], some [.bool], true⟩),
  (5, ⟨.int .u8, 1, 1, [.int .u8 0], some [.int .u8], true⟩),
  (6, ⟨.int .u8, 1, 1, [.int .u8 0], some [.int .u8], true⟩),
  (7, ⟨.struct [(2, 0, 1, false), (3, 1, 1, false), (4, 2, 1, false), (6, 3, 1, false)], 4, 24, [.int .i64 0, .int .i64 0, .kb false, .int .u8 0], some [.int .i64, .int .i64, .bool, .int .u8], true⟩),
  (8, ⟨.struct [(2, 0, 1, false), (3, 1, 1, false), (4, 2, 1, false), (6, 3, 1, false)], 4, 24, [.int .i64 0, .int .i64 0, .kb false, .int .u8 0], some [.int .i64, .int .i64, .bool, .int .u8], true⟩),
  (9, ⟨.str, 1, 16, [.str .empty], some [.str], true⟩),
  (10, ⟨.str, 1, 16, [.str .empty], some [.str], true⟩),
  (11, ⟨.str, 1, 16, [.str .empty], some [.str], true⟩),
  (12, ⟨.int .u64, 1, 8, [.int .u64 0], some [.int .u64], true⟩),
  (13, ⟨.struct [(9, 0, 1, false), (12, 1, 1, false)], 2, 24, [.str .empty, .int .u64 0], some [.str, .int .u64], false⟩),
  (14, ⟨.struct [(9, 0, 1, false), (12, 1, 1, false)], 2, 24, [.str .empty, .int .u64 0], some [.str, .int .u64], false⟩),
  (15, ⟨.ptr 200, 1, 8, [.nilp], none, false⟩),
  (16, ⟨.ptr 203, 1, 8, [.nilp], none, false⟩),
  (17, ⟨.ptr 213, 1, 8, [.nilp], none, false⟩),
  (18, ⟨.struct [(17, 0, 1, false)], 1, 8, [.nilp], none, false⟩),
  (19, ⟨.struct [(17, 0, 1, false)], 1, 8, [.nilp], none, false⟩),
  (20, ⟨.other, 1, 16, [.nili], none, false⟩),
  (21, ⟨.int .i32, 1, 4, [.int .i32 0], some [.int .i32], true⟩),
  (22, ⟨.struct [(3, 0, 1, false), (3, 1, 1, false), (3, 2, 1, false)], 3, 24, [.int .i64 0, .int .i64 0, .int .i64 0], some [.int .i64, .int .i64, .int .i64], true⟩),
  (23, ⟨.struct [(3, 0, 1, false), (3, 1, 1, false), (3, 2, 1, false)], 3, 24, [.int .i64 0, .int .i64 0, .int .i64 0], some [.int .i64, .int .i64, .int .i64], true⟩),
  (24, ⟨.slice 47, 1, 24, [.nils], some [.sl 47], false⟩),
  (25, ⟨.struct [(23, 0, 3, false), (3, 3, 1, false), (3, 4, 1, false), (24, 5, 1, false), (3, 6, 1, false)], 7, 72, [.int .i64 0, .int .i64 0, .int .i64 0, .int .i64 0, .int .i64 0, .nils, .int .i64 0], some [.int .i64, .int .i64, .int .i64, .int .i64, .int .i64, .sl 47, .int .i64], false⟩),
  (26, ⟨.struct [(23, 0, 3, false), (3, 3, 1, false), (3, 4, 1, false), (24, 5, 1, false), (3, 6, 1, false)], 7, 72, [.int .i64 0, .int .i64 0, .int .i64 0, .int .i64 0, .int .i64 0, .nils, .int .i64 0], some [.int .i64, .int .i64, .int .i64, .int .i64, .int .i64, .sl 47, .int .i64], false⟩),
  (27, ⟨.other, 1, 8, [.nilf], none, false⟩),
  (28, ⟨.slice 4, 1, 24, [.nils], some [.sl 4], false⟩),
  (29, ⟨.int .i64, 1, 8, [.int .i64 0], some [.int .i64], true⟩),
  (30, ⟨.struct [(29, 0, 1, false), (3, 1, 1, false), (3, 2, 1, false)], 3, 24, [.int .i64 0, .int .i64 0, .int .i64 0], some [.int .i64, .int .i64, .int .i64], true⟩),
  (31, ⟨.struct [(29, 0, 1, false), (3, 1, 1, false), (3, 2, 1, false)], 3, 24, [.int .i64 0, .int .i64 0, .int .i64 0], some [.int .i64, .int .i64, .int .i64], true⟩),
  (33, ⟨.other, 1, 8, [.nilf], none, false⟩),
  (35, ⟨.other, 1, 8, [.nilf], none, false⟩),
  (36, ⟨.other, 1, 8, [.nilf], none, false⟩),
  (37, ⟨.other, 1, 8, [.nilf], none, false⟩),
  (38, ⟨.other, 1, 8, [.nilf], none, false⟩),
  (39, ⟨.other, 1, 8, [.nilf], none, false⟩),
  (40, ⟨.struct [(3, 0, 1, false), (3, 1, 1, false), (3, 2, 1, false), (3, 3, 1, false), (3, 4, 1, false), (3, 5, 1, false), (3, 6, 1, false), (3, 7, 1, false)], 8, 64, [.int .i64 0, .int .i64 0, .int .i64 0, .int .i64 0, .int .i64 0, .int .i64 0, .int .i64 0, .int .i64 0], some [.int .i64, .int .i64, .int .i64, .int .i64, .int .i64, .int .i64, .int .i64, .int .i64], true⟩),
  (41, ⟨.struct [(3, 0, 1, false), (3, 1, 1, false), (3, 2, 1, false), (3, 3, 1, false), (3, 4, 1, false), (3, 5, 1, false), (3, 6, 1, false), (3, 7, 1, false)], 8, 64, [.int .i64 0, .int .i64 0, .int .i64 0, .int .i64 0, .int .i64 0, .int .i64 0, .int .i64 0, .int .i64 0], some [.int .i64, .int .i64, .int .i64, .int .i64, .int .i64, .int .i64, .int .i64, .int .i64], true⟩),
  (42, ⟨.slice 48, 1, 24, [.nils], some [.sl 48], false⟩),
  (43, ⟨.slice 21, 1, 24, [.nils], some [.sl 21], false⟩),
  (44, ⟨.struct [(3, 0, 1, false), (3, 1, 1, false)], 2, 16, [.int .i64 0, .int .i64 0], some [.int .i64, .int .i64], true⟩),
  (45, ⟨.struct [(3, 0, 1, false), (3, 1, 1, false)], 2, 16, [.int .i64 0, .int .i64 0], some [.int .i64, .int .i64], true⟩),
  (46, ⟨.struct [(3, 0, 1, false), (3, 1, 1, false), (3, 2, 1, false), (3, 3, 1, false), (41, 4, 8, false), (42, 12, 1, false), (43, 13, 1, false), (45, 14, 2, false), (45, 16, 2, false), (3, 18, 1, false), (3, 19, 1, false), (3, 20, 1, false), (3, 21, 1, false)], 22, 208, [.int .i64 0, .int .i64 0, .int .i64 0, .int .i64 0, .int .i64 0, .int .i64 0, .int .i64 0, .int .i64 0, .int .i64 0, .int .i64 0, .int .i64 0, .int .i64 0, .nils, .nils, .int .i64 0, .int .i64 0, .int .i64 0, .int .i64 0, .int .i64 0, .int .i64 0, .int .i64 0, .int .i64 0], some [.int .i64, .int .i64, .int .i64, .int .i64, .int .i64, .int .i64, .int .i64, .int .i64, .int .i64, .int .i64, .int .i64, .int .i64, .sl 48, .sl 21, .int .i64, .int .i64, .int .i64, .int .i64, .int .i64, .int .i64, .int .i64, .int .i64], false⟩),
  (47, ⟨.struct [(3, 0, 1, false), (3, 1, 1, false), (3, 2, 1, false), (3, 3, 1, false), (41, 4, 8, false), (42, 12, 1, false), (43, 13, 1, false), (45, 14, 2, false), (45, 16, 2, false), (3, 18, 1, false), (3, 19, 1, false), (3, 20, 1, false), (3, 21, 1, false)], 22, 208, [.int .i64 0, .int .i64 0, .int .i64 0, .int .i64 0, .int .i64 0, .int .i64 0, .int .i64 0, .int .i64 0, .int .i64 0, .int .i64 0, .int .i64 0, .int .i64 0, .nils, .nils, .int .i64 0, .int .i64 0, .int .i64 0, .int .i64 0, .int .i64 0, .int .i64 0, .int .i64 0, .int .i64 0], some [.int .i64, .int .i64, .int .i64, .int .i64, .int .i64, .int .i64, .int .i64, .int .i64, .int .i64, .int .i64, .int .i64, .int .i64, .sl 48, .sl 21, .int .i64, .int .i64, .int .i64, .int .i64, .int .i64, .int .i64, .int .i64, .int .i64], false⟩),
  (48, ⟨.int .i16, 1, 2, [.int .i16 0], some [.int .i16], true⟩),
  (49, ⟨.other, 1, 8, [.nilf], none, false⟩),
  (51, ⟨.other, 1, 8, [.nilf], none, false⟩),
  (52, ⟨.slice 81, 1, 24, [.nils], some [.sl 81], false⟩),
  (54, ⟨.other, 1, 8, [.nilf], none, false⟩),
  (55, ⟨.other, 1, 8, [.nilf], none, false⟩),
  (56, ⟨.other, 1, 8, [.nilf], none, false⟩),
  (57, ⟨.slice 64, 1, 24, [.nils], some [.sl 64], false⟩),
  (58, ⟨.slice 91, 1, 24, [.nils], some [.sl 91], false⟩),
  (59, ⟨.struct [(57, 0, 1, false), (58, 1, 1, false)], 2, 48, [.nils, .nils], some [.sl 64, .sl 91], false⟩),
  (60, ⟨.struct [(57, 0, 1, false), (58, 1, 1, false)], 2, 48, [.nils, .nils], some [.sl 64, .sl 91], false⟩),
  (62, ⟨.other, 1, 8, [.nilf], none, false⟩),
  (63, ⟨.struct [(2, 0, 1, false), (2, 1, 1, false)], 2, 16, [.int .i64 0, .int .i64 0], some [.int .i64, .int .i64], true⟩),
  (64, ⟨.struct [(2, 0, 1, false), (2, 1, 1, false)], 2, 16, [.int .i64 0, .int .i64 0], some [.int .i64, .int .i64], true⟩),
  (65, ⟨.slice 3, 1, 24, [.nils], some [.sl 3], false⟩),
  (66, ⟨.slice 69, 1, 24, [.nils], some [.sl 69], false⟩),
  (67, ⟨.other, 1, 8, [.nilf], none, false⟩),
  (68, ⟨.ptr 47, 1, 8, [.nilp], none, false⟩),
  (69, ⟨.ptr 3, 1, 8, [.nilp], none, false⟩),
  (70, ⟨.other, 1, 8, [.nilf], none, false⟩),
  (71, ⟨.other, 1, 8, [.nilf], none, false⟩),
  (72, ⟨.other, 1, 8, [.nilf], none, false⟩),
  (73, ⟨.other, 1, 8, [.nilf], none, false⟩),
  (74, ⟨.other, 1, 8, [.nilf], none, false⟩),
  (75, ⟨.slice 23, 1, 24, [.nils], some [.sl 23], false⟩),
  (77, ⟨.other, 1, 8, [.nilf], none, false⟩),
  (78, ⟨.slice 52, 1, 24, [.nils], some [.sl 52], false⟩),
  (80, ⟨.other, 1, 8, [.nilf], none, false⟩),
  (81, ⟨.int .i8, 1, 1, [.int .i8 0], some [.int .i8], true⟩),
  (83, ⟨.other, 1, 8, [.nilf], none, false⟩),
  (84, ⟨.other, 1, 8, [.nilf], none, false⟩),
  (86, ⟨.other, 1, 8, [.nilf], none, false⟩),
  (87, ⟨.struct [(3, 0, 1, false), (3, 1, 1, false), (64, 2, 2, false), (64, 4, 2, false)], 6, 48, [.int .i64 0, .int .i64 0, .int .i64 0, .int .i64 0, .int .i64 0, .int .i64 0], some [.int .i64, .int .i64, .int .i64, .int .i64, .int .i64, .int .i64], true⟩),
  (88, ⟨.struct [(3, 0, 1, false), (3, 1, 1, false), (64, 2, 2, false), (64, 4, 2, false)], 6, 48, [.int .i64 0, .int .i64 0, .int .i64 0, .int .i64 0, .int .i64 0, .int .i64 0], some [.int .i64, .int .i64, .int .i64, .int .i64, .int .i64, .int .i64], true⟩),
  (90, ⟨.other, 1, 8, [.nilf], none, false⟩),
  (91, ⟨.slice 88, 1, 24, [.nils], some [.sl 88], false⟩),
  (92, ⟨.other, 1, 8, [.nilf], none, false⟩),
  (93, ⟨.other, 1, 8, [.nilf], none, false⟩),
  (95, ⟨.other, 1, 8, [.nilf], none, false⟩),
  (97, ⟨.other, 1, 8, [.nilf], none, false⟩),
  (98, ⟨.other, 1, 8, [.nilf], none, false⟩),
  (99, ⟨.other, 1, 8, [.nilf], none, false⟩),
  (100, ⟨.other, 1, 8, [.nilf], none, false⟩),
  (101, ⟨.other, 1, 8, [.nilf], none, false⟩),
  (102, ⟨.other, 1, 8, [.nilf], none, false⟩),
  (103, ⟨.other, 1, 8, [.nilf], none, false⟩),
  (105, ⟨.other, 1, 8, [.nilf], none, false⟩),
  (106, ⟨.struct [(47, 0, 22, false), (23, 22, 3, false), (23, 25, 3, false), (3, 28, 1, false)], 29, 264, [.int .i64 0, .int .i64 0, .int .i64 0, .int .i64 0, .int .i64 0, .int .i64 0, .int .i64 0, .int .i64 0, .int .i64 0, .int .i64 0, .int .i64 0, .int .i64 0, .nils, .nils, .int .i64 0, .int .i64 0, .int .i64 0, .int .i64 0, .int .i64 0, .int .i64 0, .int .i64 0, .int .i64 0, .int .i64 0, .int .i64 0, .int .i64 0, .int .i64 0, .int .i64 0, .int .i64 0, .int .i64 0], some [.int .i64, .int .i64, .int .i64, .int .i64, .int .i64, .int .i64, .int .i64, .int .i64, .int .i64, .int .i64, .int .i64, .int .i64, .sl 48, .sl 21, .int .i64, .int .i64, .int .i64, .int .i64, .int .i64, .int .i64, .int .i64, .int .i64, .int .i64, .int .i64, .int .i64, .int .i64, .int .i64, .int .i64, .int .i64], false⟩),
  (107, ⟨.struct [(47, 0, 22, false), (23, 22, 3, false), (23, 25, 3, false), (3, 28, 1, false)], 29, 264, [.int .i64 0, .int .i64 0, .int .i64 0, .int .i64 0, .int .i64 0, .int .i64 0, .int .i64 0, .int .i64 0, .int .i64 0, .int .i64 0, .int .i64 0, .int .i64 0, .nils, .nils, .int .i64 0, .int .i64 0, .int .i64 0, .int .i64 0, .int .i64 0, .int .i64 0, .int .i64 0, .int .i64 0, .int .i64 0, .int .i64 0, .int .i64 0, .int .i64 0, .int .i64 0, .int .i64 0, .int .i64 0], some [.int .i64, .int .i64, .int .i64, .int .i64, .int .i64, .int .i64, .int .i64, .int .i64, .int .i64, .int .i64, .int .i64, .int .i64, .sl 48, .sl 21, .int .i64, .int .i64, .int .i64, .int .i64, .int .i64, .int .i64, .int .i64, .int .i64, .int .i64, .int .i64, .int .i64, .int .i64, .int .i64, .int .i64, .int .i64], false⟩),
  (109, ⟨.other, 1, 8, [.nilf], none, false⟩),
  (110, ⟨.other, 1, 8, [.nilf], none, false⟩),
  (111, ⟨.other, 1, 8, [.nilf], none, false⟩),
  (112, ⟨.other, 1, 8, [.nilf], none, false⟩),
  (113, ⟨.other, 1, 8, [.nilf], none, false⟩),
  (114, ⟨.other, 1, 8, [.nilf], none, false⟩),
  (115, ⟨.other, 1, 8, [.nilf], none, false⟩),
  (117, ⟨.other, 1, 8, [.nilf], none, false⟩),
  (118, ⟨.other, 1, 8, [.nilf], none, false⟩),
  (119, ⟨.arr 3 3, 3, 24, [.int .i64 0, .int .i64 0, .int .i64 0], some [.int .i64, .int .i64, .int .i64], false⟩),
  (120, ⟨.struct [(4, 0, 1, false), (4, 1, 1, false), (4, 2, 1, false), (4, 3, 1, false), (4, 4, 1, false), (4, 5, 1, false), (4, 6, 1, false), (4, 7, 1, false)], 8, 8, [.kb false, .kb false, .kb false, .kb false, .kb false, .kb false, .kb false, .kb false], some [.bool, .bool, .bool, .bool, .bool, .bool, .bool, .bool], true⟩),
  (121, ⟨.struct [(4, 0, 1, false), (4, 1, 1, false), (4, 2, 1, false), (4, 3, 1, false), (4, 4, 1, false), (4, 5, 1, false), (4, 6, 1, false), (4, 7, 1, false)], 8, 8, [.kb false, .kb false, .kb false, .kb false, .kb false, .kb false, .kb false, .kb false], some [.bool, .bool, .bool, .bool, .bool, .bool, .bool, .bool], true⟩),
  (123, ⟨.other, 1, 8, [.nilf], none, false⟩),
  (124, ⟨.other, 1, 8, [.nilf], none, false⟩),
  (125, ⟨.other, 1, 8, [.nilf], none, false⟩),
  (127, ⟨.other, 1, 8, [.nilf], none, false⟩),
  (128, ⟨.other, 1, 8, [.nilf], none, false⟩),
  (129, ⟨.other, 1, 8, [.nilf], none, false⟩),
  (130, ⟨.slice 2, 1, 24, [.nils], some [.sl 2], false⟩),
  (131, ⟨.other, 1, 8, [.nilf], none, false⟩),
  (133, ⟨.other, 1, 8, [.nilf], none, false⟩),
  (134, ⟨.other, 1, 8, [.nilf], none, false⟩),
  (135, ⟨.other, 1, 8, [.nilf], none, false⟩),
  (136, ⟨.other, 1, 8, [.nilf], none, false⟩),
  (137, ⟨.other, 1, 8, [.nilf], none, false⟩),
  (138, ⟨.other, 1, 8, [.nilf], none, false⟩),
  (139, ⟨.other, 1, 8, [.nilf], none, false⟩),
  (140, ⟨.other, 1, 8, [.nilf], none, false⟩),
  (141, ⟨.other, 1, 8, [.nilf], none, false⟩),
  (142, ⟨.other, 1, 8, [.nilf], none, false⟩),
  (143, ⟨.struct [(64, 0, 2, false), (4, 2, 1, false)], 3, 24, [.int .i64 0, .int .i64 0, .kb false], some [.int .i64, .int .i64, .bool], true⟩),
  (144, ⟨.struct [(64, 0, 2, false), (4, 2, 1, false)], 3, 24, [.int .i64 0, .int .i64 0, .kb false], some [.int .i64, .int .i64, .bool], true⟩),
  (145, ⟨.other, 1, 8, [.nilf], none, false⟩),
  (146, ⟨.other, 1, 8, [.nilf], none, false⟩),
  (147, ⟨.other, 1, 8, [.nilf], none, false⟩),
  (148, ⟨.other, 1, 8, [.nilf], none, false⟩),
  (149, ⟨.other, 1, 8, [.nilf], none, false⟩),
  (150, ⟨.other, 1, 8, [.nilf], none, false⟩),
  (151, ⟨.other, 1, 8, [.nilf], none, false⟩),
  (152, ⟨.other, 1, 8, [.nilf], none, false⟩),
  (153, ⟨.other, 1, 8, [.nilf], none, false⟩),
  (154, ⟨.other, 1, 8, [.nilf], none, false⟩),
  (156, ⟨.other, 1, 8, [.nilf], none, false⟩),
  (157, ⟨.other, 1, 8, [.nilf], none, false⟩),
  (159, ⟨.other, 1, 8, [.nilf], none, false⟩),
  (160, ⟨.slice 178, 1, 24, [.nils], some [.sl 178], false⟩),
  (162, ⟨.other, 1, 8, [.nilf], none, false⟩),
  (163, ⟨.other, 1, 8, [.nilf], none, false⟩),
  (164, ⟨.int .u64, 1, 8, [.int .u64 0], some [.int .u64], true⟩),
  (166, ⟨.other, 1, 8, [.nilf], none, false⟩),
  (167, ⟨.other, 1, 8, [.nilf], none, false⟩),
  (169, ⟨.other, 1, 8, [.nilf], none, false⟩),
  (170, ⟨.other, 1, 8, [.nilf], none, false⟩),
  (171, ⟨.other, 1, 8, [.nilf], none, false⟩),
  (172, ⟨.other, 1, 8, [.nilf], none, false⟩),
  (173, ⟨.other, 1, 8, [.nilf], none, false⟩),
  (174, ⟨.other, 1, 8, [.nilf], none, false⟩),
  (175, ⟨.other, 1, 8, [.nilf], none, false⟩),
  (176, ⟨.other, 1, 8, [.nilf], none, false⟩),
  (177, ⟨.struct [(3, 0, 1, false), (3, 1, 1, false)], 2, 16, [.int .i64 0, .int .i64 0], some [.int .i64, .int .i64], true⟩),
  (178, ⟨.struct [(3, 0, 1, false), (3, 1, 1, false)], 2, 16, [.int .i64 0, .int .i64 0], some [.int .i64, .int .i64], true⟩),
  (179, ⟨.other, 1, 8, [.nilf], none, false⟩),
  (180, ⟨.ptr 144, 1, 8, [.nilp], none, false⟩),
  (181, ⟨.other, 1, 8, [.nilf], none, false⟩),
  (183, ⟨.other, 1, 8, [.nilf], none, false⟩),
  (184, ⟨.other, 1, 8, [.nilf], none, false⟩),
  (185, ⟨.other, 1, 8, [.nilf], none, false⟩),
  (186, ⟨.int .u64, 1, 8, [.int .u64 0], some [.int .u64], true⟩),
  (187, ⟨.other, 1, 16, [.nili], none, false⟩),
  (188, ⟨.other, 1, 16, [.nili], none, false⟩),
  (189, ⟨.other, 1, 8, [.nilf], none, false⟩),
  (190, ⟨.other, 1, 8, [.nilf], none, false⟩),
  (191, ⟨.other, 1, 8, [.nilf], none, false⟩),
  (192, ⟨.other, 1, 8, [.nilf], none, false⟩),
  (193, ⟨.other, 1, 8, [.nilf], none, false⟩),
  (194, ⟨.other, 1, 8, [.nilf], none, false⟩),
  (195, ⟨.other, 1, 8, [.nilf], none, false⟩),
  (196, ⟨.other, 1, 8, [.nilf], none, false⟩),
  (197, ⟨.ptr 215, 1, 8, [.nilp], none, false⟩),
  (198, ⟨.other, 1, 8, [.nilf], none, false⟩),
  (199, ⟨.struct [(17, 0, 1, false), (17, 1, 1, false), (17, 2, 1, false), (9, 3, 1, false)], 4, 40, [.nilp, .nilp, .nilp, .str .empty], none, false⟩),
  (200, ⟨.struct [(17, 0, 1, false), (17, 1, 1, false), (17, 2, 1, false), (9, 3, 1, false)], 4, 40, [.nilp, .nilp, .nilp, .str .empty], none, false⟩),
  (201, ⟨.arr 0 16, 0, 0, [], none, false⟩),
  (202, ⟨.struct [(201, 0, 0, true)], 0, 0, [], none, false⟩),
  (203, ⟨.struct [(201, 0, 0, true)], 0, 0, [], none, false⟩),
  (204, ⟨.other, 1, 8, [.nilf], none, false⟩),
  (205, ⟨.int .u32, 1, 4, [.int .u32 0], some [.int .u32], true⟩),
  (206, ⟨.int .u8, 1, 1, [.int .u8 0], some [.int .u8], true⟩),
  (207, ⟨.int .u8, 1, 1, [.int .u8 0], some [.int .u8], true⟩),
  (208, ⟨.other, 1, 8, [.nilf], none, false⟩),
  (209, ⟨.ptr 5, 1, 8, [.nilp], none, false⟩),
  (210, ⟨.int .i32, 1, 4, [.int .i32 0], some [.int .i32], true⟩),
  (211, ⟨.int .i32, 1, 4, [.int .i32 0], some [.int .i32], true⟩),
  (212, ⟨.struct [(12, 0, 1, false), (12, 1, 1, false), (205, 2, 1, false), (206, 3, 1, false), (5, 4, 1, false), (5, 5, 1, false), (207, 6, 1, false), (208, 7, 1, false), (209, 8, 1, false), (210, 9, 1, false), (211, 10, 1, false)], 11, 48, [.int .u64 0, .int .u64 0, .int .u32 0, .int .u8 0, .int .u8 0, .int .u8 0, .int .u8 0, .nilf, .nilp, .int .i32 0, .int .i32 0], none, false⟩),
  (213, ⟨.struct [(12, 0, 1, false), (12, 1, 1, false), (205, 2, 1, false), (206, 3, 1, false), (5, 4, 1, false), (5, 5, 1, false), (207, 6, 1, false), (208, 7, 1, false), (209, 8, 1, false), (210, 9, 1, false), (211, 10, 1, false)], 11, 48, [.int .u64 0, .int .u64 0, .int .u32 0, .int .u8 0, .int .u8 0, .int .u8 0, .int .u8 0, .nilf, .nilp, .int .i32 0, .int .i32 0], none, false⟩),
  (214, ⟨.struct [(9, 0, 1, false)], 1, 16, [.str .empty], some [.str], true⟩),
  (215, ⟨.struct [(9, 0, 1, false)], 1, 16, [.str .empty], some [.str], true⟩),
  (216, ⟨.other, 1, 8, [.nilp], none, false⟩)]
def mv : FuncId → List Nat := mvOf []
theorem tab_ok : tabOK Try.prog tab = true := by kernel_rfl
theorem mixed_ : Try.prog.follows .mixedOrders = true := by kernel_rfl
end Go.Proofs.Ytalchibbmkhkpaa.V24

set_option linter.unusedVariables false
namespace Go.Proofs.Ytalchibbmkhkpaa.VX
def g_law24_three : W (Int × Int × Int × Int × Int × Int × Bool × Rws) :=
 W.ret (1, 1, 1, -9, 9, 3, false, [[I 8, I 0, I 0, I 0, I 0, I 0, I 0, I 0, I 0, I 0, I 0, I 0, AV.sl true 0 [], AV.sl true 0 [], I 0, I 0, I 0, I 0, I 0, I 0, I (-5), I 5], [I 8, I 0, I 0, I 0, I 0, I 0, I 0, I 0, I 0, I 0, I 0, I 0, AV.sl true 0 [], AV.sl true 0 [], I 0, I 0, I 0, I 0, I 0, I 0, I (-5), I 5], [I 6, I 1, I 1, I 0, I 0, I 0, I 0, I 0, I 0, I 0, I 0, I 0, AV.sl true 0 [], AV.sl true 0 [], I 1, I 0, I 1, I 0, I 0, I 0, I (-128), I 127]])
def g_shape_Elems (a0 : Int) (a1 : Int) (a2 : Int) : W (Int × Int) :=
 W.ite (decide (a0 < 1) || decide (1024 < a0)) (W.ret (0, 50))
 (W.ite (decide (a1 < 1) || decide (1024 < a1)) (W.ret (0, 50))
 (W.ite (decide (a2 < 1) || decide (1024 < a2)) (W.ret (0, 50))
 (W.ite (decide (16384 < IntKind.i64.wrap (IntKind.i64.wrap (IntKind.i64.wrap (1 * a0) * a1) * a2))) (W.ret (0, 50))
 (W.ret (IntKind.i64.wrap (IntKind.i64.wrap (IntKind.i64.wrap (1 * a0) * a1) * a2), 0)))))
def g_model_byte8 (a0 : Bool) (a1 : Rws) : W (Bool) :=
 W.bind (W.loop (σ := Int) (ε := (Unit) ⊕ (Unit)) (fun v0 =>
 W.ite (decide (v0 < (↑(List.length a1) : Int))) (W.need (0 ≤ v0 ∧ v0 < (↑(List.length a1) : Int)) <|
 W.ite (decide (ri a1 v0.toNat 0 < -128) || decide (127 < ri a1 v0.toNat 0)) (W.ret (Sum.inr (Sum.inl ())))
 (W.ret (Sum.inl (IntKind.i64.wrap (v0 + 1)))))
 (W.ret (Sum.inr (Sum.inr ())))) 0)
 (W.sum (fun v1 =>
 W.ret false) (fun v2 =>
 W.ret true))
def g_model_of (a0 : Int) : W (Bool × Bool × Bool × Bool × Bool × Bool × Bool × Bool × Bool) :=
 W.ite (a0 == 1) (W.ret (false, true, false, false, true, true, false, false, true))
 (W.ite (a0 == 2) (W.ret (false, true, true, true, true, true, false, true, true))
 (W.ite (a0 == 3) (W.ret (false, false, true, true, true, true, false, true, true))
 (W.bind (α := Bool) (W.ite (a0 == 4) (W.ret (a0 == 4))
 (W.ret (a0 == 5)))
 fun v0 =>
 W.ite (v0) (W.ret (false, false, true, false, false, false, false, false, true))
 (W.ite (a0 == 6) (W.ret (true, false, false, false, false, true, true, false, true))
 (W.ite (a0 == 7) (W.ret (false, false, false, false, false, true, false, false, true))
 (W.ite (a0 == 8) (W.ret (false, false, false, false, false, false, false, false, true))
 (W.ret (false, false, false, false, false, false, false, false, false))))))))
def g_model_bare (a0 : Int) (a1 : Int) (a2 : Int) (a3 : Int) (a4 : Int) (a5 : Int) (a6 : Int) (a7 : Int) (a8 : Int) (a9 : Int) (a10 : Int) (a11 : Int) (a12 : Bool) (a13 : Rws) (a14 : Bool) (a15 : Rws) (a16 : Int) (a17 : Int) (a18 : Int) (a19 : Int) (a20 : Int) (a21 : Int) (a22 : Int) (a23 : Int) (a24 : Bool) (a25 : Bool) (a26 : Bool) (a27 : Bool) (a28 : Bool) (a29 : Bool) (a30 : Bool) (a31 : Bool) : W (Int × Int × Int × Int × Int × Int × Int × Int × Int × Int × Int × Int × Bool × Rws × Bool × Rws × Int × Int × Int × Int × Int × Int × Int × Int) :=
 W.bind (α := Int) (W.ite (a24) (W.ret 0)
 (W.ret a2))
 fun v0 =>
 W.bind (α := Int) (W.ite (a25) (W.ret 0)
 (W.ret a3))
 fun v1 =>
 W.bind (α := Int × Int × Int × Int) (W.ite (a26) (W.ret (0, 0, 0, 0))
 (W.ret (a4, a5, a6, a7)))
 fun v2 =>
 W.bind (α := Int × Int × Int × Int × Int × Int × Int × Int) (W.ite (a27) (W.ret (0, 0, 0, 0, 0, 0, 0, 0))
 (W.ret (v2.fst, v2.snd.fst, v2.snd.snd.fst, v2.snd.snd.snd, a8, a9, a10, a11)))
 fun v3 =>
 W.bind (α := Bool × Rws × Bool × Rws) (W.ite (a28) (W.ret (true, [], true, []))
 (W.ret (a12, a13, a14, a15)))
 fun v4 =>
 W.bind (α := Int × Int × Int) (W.ite (a29) (W.ret (0, 0, 0))
 (W.ret (a16, a17, a20)))
 fun v5 =>
 W.bind (α := Int × Int) (W.ite (a30) (W.ret (0, 0))
 (W.ret (a18, a19)))
 fun v6 =>
 W.bind (α := Int) (W.ite (a31) (W.ret 0)
 (W.ret a21))
 fun v7 =>
 W.ret (0, 0, v0, v1, v3.fst, v3.snd.fst, v3.snd.snd.fst, v3.snd.snd.snd.fst, v3.snd.snd.snd.snd.fst, v3.snd.snd.snd.snd.snd.fst, v3.snd.snd.snd.snd.snd.snd.fst, v3.snd.snd.snd.snd.snd.snd.snd, v4.fst, v4.snd.fst, v4.snd.snd.fst, v4.snd.snd.snd, v5.fst, v5.snd.fst, v6.fst, v6.snd, v5.snd.snd, v7, 0, 0)
def g_model_empty (a0 : Int) (a1 : Int) (a2 : Int) (a3 : Int) (a4 : Int) (a5 : Int) (a6 : Int) (a7 : Int) (a8 : Int) (a9 : Int) (a10 : Int) (a11 : Int) (a12 : Bool) (a13 : Rws) (a14 : Bool) (a15 : Rws) (a16 : Int) (a17 : Int) (a18 : Int) (a19 : Int) (a20 : Int) (a21 : Int) (a22 : Int) (a23 : Int) : W (Bool) :=
 W.ret (a0 == 0 && a1 == 0 && a2 == 0 && a3 == 0 && (a4 == 0 && (a5 == 0 && (a6 == 0 && (a7 == 0 && (a8 == 0 && (a9 == 0 && (a10 == 0 && a11 == 0))))))) && (↑(List.length a13) : Int) == 0 && (↑(List.length a15) : Int) == 0 && (a16 == 0 && a17 == 0) && (a18 == 0 && a19 == 0) && a20 == 0 && a21 == 0 && a22 == 0 && a23 == 0)
def g_window_within (a0 : Int) (a1 : Int) (a2 : Int) : W (Bool) :=
 W.ret (decide (a1 ≤ a0) && decide (a0 ≤ a2))
def g_window_side (a0 : Int) (a1 : Int) (a2 : Int) (a3 : Int) : W (Bool) :=
 W.bind (α := Bool) (W.bind (g_window_within (a0) (1) (32)) fun v0 =>
 W.ite (v0) (W.bind (g_window_within (a1) (1) (32)) fun v1 =>
 W.ite (v1) (W.bind (g_window_within (a2) (0) (IntKind.i64.wrap (a0 - 1))) fun v2 =>
 W.ite (v2) (W.bind (g_window_within (a3) (0) (IntKind.i64.wrap (a0 - 1))) fun v3 =>
 W.ret v3)
 (W.ret false))
 (W.ret false))
 (W.ret false))
 fun v4 =>
 W.ret v4
def g_window_Valid (a0 : Int) (a1 : Int) (a2 : Int) (a3 : Int) (a4 : Int) (a5 : Int) (a6 : Int) (a7 : Int) : W (Bool) :=
 W.bind (α := Bool) (W.bind (g_window_side (a0) (a2) (a4) (a6)) fun v0 =>
 W.ite (v0) (W.bind (g_window_side (a1) (a3) (a5) (a7)) fun v1 =>
 W.ret v1)
 (W.ret false))
 fun v2 =>
 W.ret v2
def g_window_Out (a0 : Int) (a1 : Int) (a2 : Int) (a3 : Int) (a4 : Int) (a5 : Int) (a6 : Int) (a7 : Int) (a8 : Int) (a9 : Int) (a10 : Int) : W (Int × Int × Int) :=
 W.bind (g_shape_Elems (a0) (a1) (a2)) fun v0 =>
 W.ite (v0.snd != 0) (W.ret (0, 0, v0.snd))
 (W.bind (g_window_Valid (a3) (a4) (a5) (a6) (a7) (a8) (a9) (a10)) fun v1 =>
 W.ite (!v1) (W.ret (0, 0, 60))
 (W.ite (decide (IntKind.i64.wrap (IntKind.i64.wrap (IntKind.i64.wrap (a0 + a7) + a9) - a3) < 0) || decide (IntKind.i64.wrap (IntKind.i64.wrap (IntKind.i64.wrap (a1 + a8) + a10) - a4) < 0)) (W.ret (0, 0, 60))
 (W.need (a5 ≠ 0) <|
 W.need (a6 ≠ 0) <|
 W.ret (IntKind.i64.wrap (IntKind.i64.wrap ((IntKind.i64.wrap (IntKind.i64.wrap (IntKind.i64.wrap (a0 + a7) + a9) - a3)).tdiv a5) + 1), IntKind.i64.wrap (IntKind.i64.wrap ((IntKind.i64.wrap (IntKind.i64.wrap (IntKind.i64.wrap (a1 + a8) + a10) - a4)).tdiv a6) + 1), 0))))
def g_model_makes (a0 : Int) (a1 : Int) (a2 : Int) (a3 : Int) (a4 : Int) (a5 : Int) (a6 : Int) (a7 : Int) (a8 : Int) (a9 : Int) (a10 : Int) (a11 : Int) (a12 : Bool) (a13 : Rws) (a14 : Bool) (a15 : Rws) (a16 : Int) (a17 : Int) (a18 : Int) (a19 : Int) (a20 : Int) (a21 : Int) (a22 : Int) (a23 : Int) (a24 : Int) (a25 : Int) (a26 : Int) : W (Int × Int × Int × Int × Int × Int) :=
 W.bind (g_model_of (a0)) fun v0 =>
 W.bind (α := (Int × Int × Int) ⊕ (Int × Int × Int × Int × Int × Int)) (W.ite (v0.snd.snd.fst) (W.bind (g_window_Out (a24) (a25) (a26) (a4) (a5) (a6) (a7) (a8) (a9) (a10) (a11)) fun v1 =>
 W.ite (v1.snd.snd != 0) (W.ret (Sum.inr (0, 0, 0, 0, 0, v1.snd.snd)))
 (W.ret (Sum.inl (IntKind.i64.wrap (a4 * a5), v1.fst, v1.snd.fst))))
 (W.ret (Sum.inl (1, a24, a25))))
 (W.els fun v2 =>
 W.bind (α := Int × Int × Int × Int × Int) (W.ite (a0 == 1) (W.ret (IntKind.i64.wrap (IntKind.i64.wrap (a24 * a25) * a26), IntKind.i64.wrap (IntKind.i64.wrap (a24 * a25) * a26), 1, 1, a3))
 (W.ite (a0 == 2) (W.ret (IntKind.i64.wrap (v2.fst * a26), IntKind.i64.wrap (v2.fst * a26), v2.snd.fst, v2.snd.snd, a3))
 (W.bind (α := Bool) (W.ite (a0 == 3) (W.ret (a0 == 3))
 (W.ret (a0 == 4)))
 fun v3 =>
 W.ite (v3) (W.ret (v2.fst, v2.fst, v2.snd.fst, v2.snd.snd, a26))
 (W.ret (v2.fst, 0, v2.snd.fst, v2.snd.snd, a26)))))
 fun v4 =>
 W.ret (v4.snd.snd.fst, v4.snd.snd.snd.fst, v4.snd.snd.snd.snd, v4.snd.fst, IntKind.i64.wrap (IntKind.i64.wrap (IntKind.i64.wrap (v4.snd.snd.fst * v4.snd.snd.snd.fst) * v4.snd.snd.snd.snd) * v4.fst), 0))
def g_fixq_Valid (a0 : Int) (a1 : Int) : W (Bool) :=
 W.ret (decide (0 < a0) && decide (a0 < 2147483648) && decide (0 ≤ a1) && decide (a1 ≤ 62))
def g_model_op (a0 : Int) (a1 : Int) (a2 : Int) (a3 : Int) (a4 : Int) (a5 : Int) (a6 : Int) (a7 : Int) (a8 : Int) (a9 : Int) (a10 : Int) (a11 : Int) (a12 : Bool) (a13 : Rws) (a14 : Bool) (a15 : Rws) (a16 : Int) (a17 : Int) (a18 : Int) (a19 : Int) (a20 : Int) (a21 : Int) (a22 : Int) (a23 : Int) (a24 : Bool) (a25 : Rws) : W (Int × Int × Int × Int × Int) :=
 W.bind (g_model_of (a0)) fun v0 =>
 W.ite (!v0.snd.snd.snd.snd.snd.snd.snd.snd) (W.ret (0, 0, 0, 0, 81))
 (W.ite (decide (a1 < 0) || decide ((↑(List.length a25) : Int) ≤ a1) || v0.fst && (decide (a2 < 0) || decide ((↑(List.length a25) : Int) ≤ a2))) (W.ret (0, 0, 0, 0, 82))
 (W.bind (g_model_bare (a0) (a1) (a2) (a3) (a4) (a5) (a6) (a7) (a8) (a9) (a10) (a11) (a12) (a13) (a14) (a15) (a16) (a17) (a18) (a19) (a20) (a21) (a22) (a23) (v0.fst) (v0.snd.fst) (v0.snd.snd.fst) (v0.snd.snd.snd.fst) (v0.snd.snd.snd.snd.fst) (v0.snd.snd.snd.snd.snd.fst) (v0.snd.snd.snd.snd.snd.snd.fst) (v0.snd.snd.snd.snd.snd.snd.snd.fst)) fun v1 =>
 W.bind (g_model_empty (v1.fst) (v1.snd.fst) (v1.snd.snd.fst) (v1.snd.snd.snd.fst) (v1.snd.snd.snd.snd.fst) (v1.snd.snd.snd.snd.snd.fst) (v1.snd.snd.snd.snd.snd.snd.fst) (v1.snd.snd.snd.snd.snd.snd.snd.fst) (v1.snd.snd.snd.snd.snd.snd.snd.snd.fst) (v1.snd.snd.snd.snd.snd.snd.snd.snd.snd.fst) (v1.snd.snd.snd.snd.snd.snd.snd.snd.snd.snd.fst) (v1.snd.snd.snd.snd.snd.snd.snd.snd.snd.snd.snd.fst) (v1.snd.snd.snd.snd.snd.snd.snd.snd.snd.snd.snd.snd.fst) (v1.snd.snd.snd.snd.snd.snd.snd.snd.snd.snd.snd.snd.snd.fst) (v1.snd.snd.snd.snd.snd.snd.snd.snd.snd.snd.snd.snd.snd.snd.fst) (v1.snd.snd.snd.snd.snd.snd.snd.snd.snd.snd.snd.snd.snd.snd.snd.fst) (v1.snd.snd.snd.snd.snd.snd.snd.snd.snd.snd.snd.snd.snd.snd.snd.snd.fst) (v1.snd.snd.snd.snd.snd.snd.snd.snd.snd.snd.snd.snd.snd.snd.snd.snd.snd.fst) (v1.snd.snd.snd.snd.snd.snd.snd.snd.snd.snd.snd.snd.snd.snd.snd.snd.snd.snd.fst) (v1.snd.snd.snd.snd.snd.snd.snd.snd.snd.snd.snd.snd.snd.snd.snd.snd.snd.snd.snd.fst) (v1.snd.snd.snd.snd.snd.snd.snd.snd.snd.snd.snd.snd.snd.snd.snd.snd.snd.snd.snd.snd.fst) (v1.snd.snd.snd.snd.snd.snd.snd.snd.snd.snd.snd.snd.snd.snd.snd.snd.snd.snd.snd.snd.snd.fst) (v1.snd.snd.snd.snd.snd.snd.snd.snd.snd.snd.snd.snd.snd.snd.snd.snd.snd.snd.snd.snd.snd.snd.fst) (v1.snd.snd.snd.snd.snd.snd.snd.snd.snd.snd.snd.snd.snd.snd.snd.snd.snd.snd.snd.snd.snd.snd.snd)) fun v2 =>
 W.ite (!v2) (W.ret (0, 0, 0, 0, 83))
 (W.ite (v0.snd.fst && (decide (a3 < 1) || decide (1024 < a3))) (W.ret (0, 0, 0, 0, 2))
 (W.need (0 ≤ a1 ∧ a1 < (↑(List.length a25) : Int)) <|
 W.bind (g_model_makes (a0) (a1) (a2) (a3) (a4) (a5) (a6) (a7) (a8) (a9) (a10) (a11) (a12) (a13) (a14) (a15) (a16) (a17) (a18) (a19) (a20) (a21) (a22) (a23) (ri a25 a1.toNat 0) (ri a25 a1.toNat 1) (ri a25 a1.toNat 2)) fun v3 =>
 W.ite (v3.snd.snd.snd.snd.snd != 0) (W.ret (0, 0, 0, 0, v3.snd.snd.snd.snd.snd))
 (W.bind (g_shape_Elems (v3.fst) (v3.snd.fst) (v3.snd.snd.fst)) fun v4 =>
 W.need (v0.fst = true ∧ (v4.snd != 0) = false ∧ True → 0 ≤ a2 ∧ a2 < (↑(List.length a25) : Int)) <|
 W.ite (v4.snd != 0 || v0.fst && !(ri a25 a2.toNat 0 == ri a25 a1.toNat 0 && (ri a25 a2.toNat 1 == ri a25 a1.toNat 1 && ri a25 a2.toNat 2 == ri a25 a1.toNat 2))) (W.ret (0, 0, 0, 0, 50))
 (W.bind (α := Int) (W.ite (v0.snd.snd.snd.snd.fst) (W.ret v3.snd.snd.fst)
 (W.ret 0))
 fun v5 =>
 W.ite (decide (512 < v3.snd.snd.snd.fst)) (W.ret (0, 0, 0, 0, 84))
 (W.ite ((↑(List.length a13) : Int) != IntKind.i64.wrap (v5 * v3.snd.snd.snd.fst) || (↑(List.length a15) : Int) != v5) (W.ret (0, 0, 0, 0, 70))
 (W.bind (α := Bool) (W.ite (v0.snd.snd.snd.snd.snd.fst) (W.bind (g_fixq_Valid (a16) (a17)) fun v6 =>
 W.ite (!v6) (W.ret true)
 (W.ite (v0.snd.snd.snd.snd.snd.snd.fst) (W.bind (g_fixq_Valid (a18) (a19)) fun v7 =>
 W.ret !v7)
 (W.ret false)))
 (W.ite (v0.snd.snd.snd.snd.snd.snd.fst) (W.bind (g_fixq_Valid (a18) (a19)) fun v8 =>
 W.ret !v8)
 (W.ret false)))
 fun v9 =>
 W.ite (v9) (W.ret (0, 0, 0, 0, 20))
 (W.bind (g_model_byte8 (false) ([[I a22], [I a23], [I a20], [I a21]])) fun v10 =>
 W.ite (!v10 || decide (a23 < a22)) (W.ret (0, 0, 0, 0, 85))
 (W.ret (v3.fst, v3.snd.fst, v3.snd.snd.fst, v3.snd.snd.snd.snd.fst, 0)))))))))))
def g_model_whole (a0 : Int) (a1 : Int) (a2 : Int) (a3 : Int) (a4 : Int) (a5 : Bool) (a6 : Rws) (a7 : Int) : W (Int × Int × Int × Int × Bool × Rws) :=
 W.bind (g_shape_Elems (a0) (a1) (a2)) fun v0 =>
 W.ite (v0.snd != 0) (W.ret (0, v0.snd, 0, 0, true, []))
 (W.bind (g_model_byte8 (false) ([[I a3], [I a4]])) fun v1 =>
 W.ite (!v1 || decide (a4 < a3)) (W.ret (0, 85, 0, 0, true, []))
 (W.ite (decide (64 < (↑(List.length a6) : Int))) (W.ret (0, 80, 0, 0, true, []))
 (W.ite (decide (a7 < 0) || decide ((↑(List.length a6) : Int) < a7)) (W.ret (0, 3, 0, 0, true, []))
 (W.bind (W.loop (σ := Int × Int × Rws) (ε := (Int × Int) ⊕ (Int × Rws)) (fun v2 =>
 W.ite (decide (v2.snd.fst < (↑(List.length a6) : Int))) (W.need (0 ≤ v2.snd.fst ∧ v2.snd.fst < (↑(List.length a6) : Int)) <|
 W.bind (g_model_op (ri a6 v2.snd.fst.toNat 0) (ri a6 v2.snd.fst.toNat 1) (ri a6 v2.snd.fst.toNat 2) (ri a6 v2.snd.fst.toNat 3) (ri a6 v2.snd.fst.toNat 4) (ri a6 v2.snd.fst.toNat 5) (ri a6 v2.snd.fst.toNat 6) (ri a6 v2.snd.fst.toNat 7) (ri a6 v2.snd.fst.toNat 8) (ri a6 v2.snd.fst.toNat 9) (ri a6 v2.snd.fst.toNat 10) (ri a6 v2.snd.fst.toNat 11) (rn a6 v2.snd.fst.toNat 12) (rr a6 v2.snd.fst.toNat 12) (rn a6 v2.snd.fst.toNat 13) (rr a6 v2.snd.fst.toNat 13) (ri a6 v2.snd.fst.toNat 14) (ri a6 v2.snd.fst.toNat 15) (ri a6 v2.snd.fst.toNat 16) (ri a6 v2.snd.fst.toNat 17) (ri a6 v2.snd.fst.toNat 18) (ri a6 v2.snd.fst.toNat 19) (ri a6 v2.snd.fst.toNat 20) (ri a6 v2.snd.fst.toNat 21) (false) (v2.snd.snd)) fun v3 =>
 W.bind (α := Int) (W.ite (v3.snd.snd.snd.snd == 0 && decide (131072 < IntKind.i64.wrap (v2.fst + v3.snd.snd.snd.fst))) (W.ret 86)
 (W.ret v3.snd.snd.snd.snd))
 fun v4 =>
 W.ite (v4 != 0) (W.ret (Sum.inr (Sum.inl (v4, IntKind.i64.wrap (v2.snd.fst + 1)))))
 (W.need ((List.length v2.snd.snd + 1) * 24 ≤ 140737488355328) <|
 W.ret (Sum.inl (IntKind.i64.wrap (v2.fst + v3.snd.snd.snd.fst), IntKind.i64.wrap (v2.snd.fst + 1), v2.snd.snd ++ [[I v3.fst, I v3.snd.fst, I v3.snd.snd.fst]]))))
 (W.ret (Sum.inr (Sum.inr (v2.fst, v2.snd.snd))))) (0, 0, [[I a0, I a1, I a2]]))
 (W.sum (fun v5 =>
 W.ret (0, v5.fst, v5.snd, 0, true, [])) (fun v6 =>
 W.ret (v6.fst, 0, 0, 0, false, v6.snd)))))))
def g_model_Check (a0 : Int) (a1 : Int) (a2 : Int) (a3 : Int) (a4 : Int) (a5 : Bool) (a6 : Rws) (a7 : Int) : W (Int × Int × Int) :=
 W.bind (g_model_whole (a0) (a1) (a2) (a3) (a4) (a5) (a6) (a7)) fun v0 =>
 W.ret (v0.snd.fst, v0.snd.snd.fst, v0.snd.snd.snd.fst)
def g_trim_reads_q (a0 : Rws) (a1 : Nat) : W ((Unit) ⊕ (Unit)) :=
 W.ite (ri a0 a1 0 == 6) (W.ret (Sum.inl ()))
 (W.ret (Sum.inr ()))
def g_trim_Live (a0 : Int) (a1 : Int) (a2 : Int) (a3 : Int) (a4 : Int) (a5 : Bool) (a6 : Rws) (a7 : Int) : W (Int × Int × Int × Bool × Rws) :=
 W.bind (g_model_Check (a0) (a1) (a2) (a3) (a4) (a5) (a6) (a7)) fun v0 =>
 W.ite (v0.fst != 0) (W.ret (v0.fst, v0.snd.fst, v0.snd.snd, true, []))
 (W.need (0 ≤ IntKind.i64.wrap ((↑(List.length a6) : Int) + 1) ∧ IntKind.i64.wrap ((↑(List.length a6) : Int) + 1) ≤ IntKind.i64.wrap ((↑(List.length a6) : Int) + 1) ∧ IntKind.i64.wrap ((↑(List.length a6) : Int) + 1) * 1 ≤ 140737488355328 ∧ IntKind.i64.wrap ((↑(List.length a6) : Int) + 1) ≤ 9223372036854775807) <|
 W.bind (W.loop (σ := Nat × Rws × Rws) (ε := Rws) (fun v1 =>
 W.ite (decide (0 < (↑v1.fst : Int))) (W.need (0 ≤ IntKind.i64.wrap ((↑v1.fst : Int) - 1) ∧ IntKind.i64.wrap ((↑v1.fst : Int) - 1) < (↑v1.fst : Int)) <|
 W.need ((0 : Int) ≤ (0 : Int) ∧ (0 : Int) ≤ IntKind.i64.wrap ((↑v1.fst : Int) - (1 : Int)) ∧ IntKind.i64.wrap ((↑v1.fst : Int) - (1 : Int)) ≤ (↑v1.fst : Int)) <|
 W.need (0 ≤ ri v1.snd.snd (0 + (IntKind.i64.wrap ((↑v1.fst : Int) - 1)).toNat) 0 ∧ ri v1.snd.snd (0 + (IntKind.i64.wrap ((↑v1.fst : Int) - 1)).toNat) 0 < (↑(List.length v1.snd.fst) : Int)) <|
 W.ite (rb v1.snd.fst (ri v1.snd.snd (0 + (IntKind.i64.wrap ((↑v1.fst : Int) - 1)).toNat) 0).toNat 0) (W.ret (Sum.inl ((IntKind.i64.wrap ((↑v1.fst : Int) - 1) - 0).toNat, v1.snd.fst, v1.snd.snd)))
 (W.need (0 ≤ ri v1.snd.snd (0 + (IntKind.i64.wrap ((↑v1.fst : Int) - 1)).toNat) 0 ∧ ri v1.snd.snd (0 + (IntKind.i64.wrap ((↑v1.fst : Int) - 1)).toNat) 0 < (↑(List.length v1.snd.fst) : Int)) <|
 W.ite (decide (0 < ri v1.snd.snd (0 + (IntKind.i64.wrap ((↑v1.fst : Int) - 1)).toNat) 0)) (W.need (0 ≤ IntKind.i64.wrap (ri v1.snd.snd (0 + (IntKind.i64.wrap ((↑v1.fst : Int) - 1)).toNat) 0 - 1) ∧ IntKind.i64.wrap (ri v1.snd.snd (0 + (IntKind.i64.wrap ((↑v1.fst : Int) - 1)).toNat) 0 - 1) < (↑(List.length a6) : Int)) <|
 W.bind (g_trim_reads_q (a6) ((IntKind.i64.wrap (ri v1.snd.snd (0 + (IntKind.i64.wrap ((↑v1.fst : Int) - 1)).toNat) 0 - 1)).toNat)) (W.sum (fun v2 =>
 W.need (((IntKind.i64.wrap ((↑v1.fst : Int) - 1) - 0).toNat + 1) * 8 ≤ 140737488355328) <|
 W.need (((List.take (IntKind.i64.wrap ((↑v1.fst : Int) - 1) - 0).toNat v1.snd.snd ++ [[I (ri a6 (IntKind.i64.wrap (ri v1.snd.snd (0 + (IntKind.i64.wrap ((↑v1.fst : Int) - 1)).toNat) 0 - 1)).toNat 1)]]).length + 1) * 8 ≤ 140737488355328) <|
 W.ret (Sum.inl ((List.take (IntKind.i64.wrap ((↑v1.fst : Int) - 1) - 0).toNat v1.snd.snd ++ [[I (ri a6 (IntKind.i64.wrap (ri v1.snd.snd (0 + (IntKind.i64.wrap ((↑v1.fst : Int) - 1)).toNat) 0 - 1)).toNat 1)]] ++ [[I (ri a6 (IntKind.i64.wrap (ri v1.snd.snd (0 + (IntKind.i64.wrap ((↑v1.fst : Int) - 1)).toNat) 0 - 1)).toNat 2)]]).length, List.set v1.snd.fst (ri v1.snd.snd (0 + (IntKind.i64.wrap ((↑v1.fst : Int) - 1)).toNat) 0).toNat [B true], List.take (IntKind.i64.wrap ((↑v1.fst : Int) - 1) - 0).toNat v1.snd.snd ++ [[I (ri a6 (IntKind.i64.wrap (ri v1.snd.snd (0 + (IntKind.i64.wrap ((↑v1.fst : Int) - 1)).toNat) 0 - 1)).toNat 1)]] ++ [[I (ri a6 (IntKind.i64.wrap (ri v1.snd.snd (0 + (IntKind.i64.wrap ((↑v1.fst : Int) - 1)).toNat) 0 - 1)).toNat 2)]]))) (fun v3 =>
 W.need (((IntKind.i64.wrap ((↑v1.fst : Int) - 1) - 0).toNat + 1) * 8 ≤ 140737488355328) <|
 W.ret (Sum.inl ((List.take (IntKind.i64.wrap ((↑v1.fst : Int) - 1) - 0).toNat v1.snd.snd ++ [[I (ri a6 (IntKind.i64.wrap (ri v1.snd.snd (0 + (IntKind.i64.wrap ((↑v1.fst : Int) - 1)).toNat) 0 - 1)).toNat 1)]]).length, List.set v1.snd.fst (ri v1.snd.snd (0 + (IntKind.i64.wrap ((↑v1.fst : Int) - 1)).toNat) 0).toNat [B true], List.take (IntKind.i64.wrap ((↑v1.fst : Int) - 1) - 0).toNat v1.snd.snd ++ [[I (ri a6 (IntKind.i64.wrap (ri v1.snd.snd (0 + (IntKind.i64.wrap ((↑v1.fst : Int) - 1)).toNat) 0 - 1)).toNat 1)]])))))
 (W.ret (Sum.inl ((IntKind.i64.wrap ((↑v1.fst : Int) - 1) - 0).toNat, List.set v1.snd.fst (ri v1.snd.snd (0 + (IntKind.i64.wrap ((↑v1.fst : Int) - 1)).toNat) 0).toNat [B true], v1.snd.snd)))))
 (W.ret (Sum.inr v1.snd.fst))) ([[I a7]].length, List.replicate (IntKind.i64.wrap ((↑(List.length a6) : Int) + 1)).toNat [B false], [[I a7]]))
 (fun v4 =>
 W.ret (0, 0, 0, false, v4)))
def g_trim_reads_p (a0 : Int) (a1 : Int) (a2 : Int) (a3 : Int) (a4 : Int) (a5 : Int) (a6 : Int) (a7 : Int) (a8 : Int) (a9 : Int) (a10 : Int) (a11 : Int) (a12 : Bool) (a13 : Rws) (a14 : Bool) (a15 : Rws) (a16 : Int) (a17 : Int) (a18 : Int) (a19 : Int) (a20 : Int) (a21 : Int) (a22 : Int) (a23 : Int) : W ((Unit) ⊕ (Unit)) :=
 W.ite (a0 == 6) (W.ret (Sum.inl ()))
 (W.ret (Sum.inr ()))
def g_slices_Clone___int16_int16_ (a0 : Bool) (a1 : Rws) : W (Bool × Rws) :=
 W.ite (a0) (W.ret (true, []))
 (W.need ((0 + List.length a1) * 2 ≤ 140737488355328) <|
 W.ret (false, a1))
def g_slices_Clone___int32_int32_ (a0 : Bool) (a1 : Rws) : W (Bool × Rws) :=
 W.ite (a0) (W.ret (true, []))
 (W.need ((0 + List.length a1) * 4 ≤ 140737488355328) <|
 W.ret (false, a1))
def g_trim_Trim (a0 : Int) (a1 : Int) (a2 : Int) (a3 : Int) (a4 : Int) (a5 : Bool) (a6 : Rws) (a7 : Int) : W (Int × Int × Int × Int × Int × Int × Int × Int × Int × Bool × Rws) :=
 W.bind (g_trim_Live (a0) (a1) (a2) (a3) (a4) (a5) (a6) (a7)) fun v0 =>
 W.ite (v0.fst != 0) (W.ret (0, 0, 0, 0, 0, 0, v0.fst, v0.snd.fst, v0.snd.snd.fst, true, []))
 (W.need (0 ≤ (↑(List.length v0.snd.snd.snd.snd) : Int) ∧ (↑(List.length v0.snd.snd.snd.snd) : Int) ≤ (↑(List.length v0.snd.snd.snd.snd) : Int) ∧ (↑(List.length v0.snd.snd.snd.snd) : Int) * 8 ≤ 140737488355328 ∧ (↑(List.length v0.snd.snd.snd.snd) : Int) ≤ 9223372036854775807) <|
 W.bind (W.loop (σ := Int × Rws × Bool × Rws) (ε := Rws × Bool × Rws) (fun v1 =>
 W.ite (decide (v1.fst < (↑(List.length a6) : Int))) (W.bind (α := Rws × Int × Int × Bool × Rws × Bool × Rws × Bool × Rws) (W.need (0 ≤ v1.fst ∧ v1.fst < (↑(List.length a6) : Int)) <|
 W.need (0 ≤ IntKind.i64.wrap (v1.fst + 1) ∧ IntKind.i64.wrap (v1.fst + 1) < (↑(List.length v0.snd.snd.snd.snd) : Int)) <|
 W.ite (!rb v0.snd.snd.snd.snd (IntKind.i64.wrap (v1.fst + 1)).toNat 0) (W.ret (v1.snd.fst, ri a6 v1.fst.toNat 1, ri a6 v1.fst.toNat 2, rn a6 v1.fst.toNat 12, rr a6 v1.fst.toNat 12, rn a6 v1.fst.toNat 13, rr a6 v1.fst.toNat 13, v1.snd.snd.fst, v1.snd.snd.snd))
 (W.bind (α := Int × Int × Int × Nat × Int × Int × Int) (W.bind (g_trim_reads_p (ri a6 v1.fst.toNat 0) (ri a6 v1.fst.toNat 1) (ri a6 v1.fst.toNat 2) (ri a6 v1.fst.toNat 3) (ri a6 v1.fst.toNat 4) (ri a6 v1.fst.toNat 5) (ri a6 v1.fst.toNat 6) (ri a6 v1.fst.toNat 7) (ri a6 v1.fst.toNat 8) (ri a6 v1.fst.toNat 9) (ri a6 v1.fst.toNat 10) (ri a6 v1.fst.toNat 11) (rn a6 v1.fst.toNat 12) (rr a6 v1.fst.toNat 12) (rn a6 v1.fst.toNat 13) (rr a6 v1.fst.toNat 13) (ri a6 v1.fst.toNat 14) (ri a6 v1.fst.toNat 15) (ri a6 v1.fst.toNat 16) (ri a6 v1.fst.toNat 17) (ri a6 v1.fst.toNat 18) (ri a6 v1.fst.toNat 19) (ri a6 v1.fst.toNat 20) (ri a6 v1.fst.toNat 21)) (W.sum (fun v2 =>
 W.need (0 ≤ ri a6 v1.fst.toNat 1 ∧ ri a6 v1.fst.toNat 1 < (↑(List.length v1.snd.fst) : Int)) <|
 W.need (0 ≤ ri a6 v1.fst.toNat 2 ∧ ri a6 v1.fst.toNat 2 < (↑(List.length v1.snd.fst) : Int)) <|
 W.ret (2, 2, ri a6 v1.fst.toNat 2, (ri a6 v1.fst.toNat 2).toNat, ri v1.snd.fst (ri a6 v1.fst.toNat 2).toNat 0, 2, ri v1.snd.fst (ri a6 v1.fst.toNat 2).toNat 0)) (fun v3 =>
 W.need (0 ≤ ri a6 v1.fst.toNat 1 ∧ ri a6 v1.fst.toNat 1 < (↑(List.length v1.snd.fst) : Int)) <|
 W.ret (1, 1, ri a6 v1.fst.toNat 1, (ri a6 v1.fst.toNat 1).toNat, ri v1.snd.fst (ri a6 v1.fst.toNat 1).toNat 0, 1, ri a6 v1.fst.toNat 2))))
 fun v4 =>
 W.bind (g_slices_Clone___int16_int16_ (rn a6 v1.fst.toNat 12) (rr a6 v1.fst.toNat 12)) fun v5 =>
 W.bind (g_slices_Clone___int32_int32_ (rn a6 v1.fst.toNat 13) (rr a6 v1.fst.toNat 13)) fun v6 =>
 W.need ((List.length v1.snd.snd.snd + 1) * 208 ≤ 140737488355328) <|
 W.need (0 ≤ IntKind.i64.wrap (v1.fst + 1) ∧ IntKind.i64.wrap (v1.fst + 1) < (↑(List.length v1.snd.fst) : Int)) <|
 W.ret (List.set v1.snd.fst (IntKind.i64.wrap (v1.fst + 1)).toNat [I (↑(v1.snd.snd.snd ++ [[I (ri a6 v1.fst.toNat 0), I (ri v1.snd.fst (ri a6 v1.fst.toNat 1).toNat 0), I v4.snd.snd.snd.snd.snd.snd, I (ri a6 v1.fst.toNat 3), I (ri a6 v1.fst.toNat 4), I (ri a6 v1.fst.toNat 5), I (ri a6 v1.fst.toNat 6), I (ri a6 v1.fst.toNat 7), I (ri a6 v1.fst.toNat 8), I (ri a6 v1.fst.toNat 9), I (ri a6 v1.fst.toNat 10), I (ri a6 v1.fst.toNat 11), AV.sl v5.fst 0 v5.snd, AV.sl v6.fst 0 v6.snd, I (ri a6 v1.fst.toNat 14), I (ri a6 v1.fst.toNat 15), I (ri a6 v1.fst.toNat 16), I (ri a6 v1.fst.toNat 17), I (ri a6 v1.fst.toNat 18), I (ri a6 v1.fst.toNat 19), I (ri a6 v1.fst.toNat 20), I (ri a6 v1.fst.toNat 21)]]).length : Int)], ri v1.snd.fst (ri a6 v1.fst.toNat 1).toNat 0, v4.snd.snd.snd.snd.snd.snd, v5.fst, v5.snd, v6.fst, v6.snd, v1.snd.snd.fst && false, v1.snd.snd.snd ++ [[I (ri a6 v1.fst.toNat 0), I (ri v1.snd.fst (ri a6 v1.fst.toNat 1).toNat 0), I v4.snd.snd.snd.snd.snd.snd, I (ri a6 v1.fst.toNat 3), I (ri a6 v1.fst.toNat 4), I (ri a6 v1.fst.toNat 5), I (ri a6 v1.fst.toNat 6), I (ri a6 v1.fst.toNat 7), I (ri a6 v1.fst.toNat 8), I (ri a6 v1.fst.toNat 9), I (ri a6 v1.fst.toNat 10), I (ri a6 v1.fst.toNat 11), AV.sl v5.fst 0 v5.snd, AV.sl v6.fst 0 v6.snd, I (ri a6 v1.fst.toNat 14), I (ri a6 v1.fst.toNat 15), I (ri a6 v1.fst.toNat 16), I (ri a6 v1.fst.toNat 17), I (ri a6 v1.fst.toNat 18), I (ri a6 v1.fst.toNat 19), I (ri a6 v1.fst.toNat 20), I (ri a6 v1.fst.toNat 21)]])))
 fun v7 =>
 W.ret (Sum.inl (IntKind.i64.wrap (v1.fst + 1), v7.fst, v7.snd.snd.snd.snd.snd.snd.snd.fst, v7.snd.snd.snd.snd.snd.snd.snd.snd)))
 (W.ret (Sum.inr (v1.snd.fst, v1.snd.snd.fst, v1.snd.snd.snd)))) (0, List.replicate (↑(List.length v0.snd.snd.snd.snd) : Int).toNat [I 0], true, []))
 (fun v8 =>
 W.need (0 ≤ a7 ∧ a7 < (↑(List.length v8.fst) : Int)) <|
 W.ret (a0, a1, a2, a3, a4, ri v8.fst a7.toNat 0, 0, 0, 0, v8.snd.fst, v8.snd.snd)))
def g_ref24_Same (a0 : Bool) (a1 : Rws) (a2 : Bool) (a3 : Rws) : W (Bool) :=
 W.ite ((↑(List.length a1) : Int) != (↑(List.length a3) : Int)) (W.ret false)
 (W.bind (W.loop (σ := Int) (ε := (Unit) ⊕ (Unit)) (fun v0 =>
 W.ite (decide (v0 < (↑(List.length a1) : Int))) (W.need (0 ≤ v0 ∧ v0 < (↑(List.length a1) : Int)) <|
 W.need (0 ≤ v0 ∧ v0 < (↑(List.length a3) : Int)) <|
 W.ite (!rb a1 v0.toNat 0 == rb a3 v0.toNat 0) (W.ret (Sum.inr (Sum.inl ())))
 (W.ret (Sum.inl (IntKind.i64.wrap (v0 + 1)))))
 (W.ret (Sum.inr (Sum.inr ())))) 0)
 (W.sum (fun v1 =>
 W.ret false) (fun v2 =>
 W.ret true)))
def g_law24_fixed : W (Bool) :=
 W.bind (g_law24_three ) fun v0 =>
 W.bind (g_trim_Live (v0.fst) (v0.snd.fst) (v0.snd.snd.fst) (v0.snd.snd.snd.fst) (v0.snd.snd.snd.snd.fst) (v0.snd.snd.snd.snd.snd.snd.fst) (v0.snd.snd.snd.snd.snd.snd.snd) (v0.snd.snd.snd.snd.snd.fst)) fun v1 =>
 W.bind (g_law24_three ) fun v2 =>
 W.bind (g_trim_Trim (v2.fst) (v2.snd.fst) (v2.snd.snd.fst) (v2.snd.snd.snd.fst) (v2.snd.snd.snd.snd.fst) (v2.snd.snd.snd.snd.snd.snd.fst) (v2.snd.snd.snd.snd.snd.snd.snd) (v2.snd.snd.snd.snd.snd.fst)) fun v3 =>
 W.bind (g_ref24_Same (v1.snd.snd.snd.fst) (v1.snd.snd.snd.snd) (false) ([[B true], [B true], [B false], [B true]])) fun v4 =>
 W.need ((v4 && (v1.fst == (0 : Int) && (v1.snd.fst == (0 : Int) && v1.snd.snd.fst == (0 : Int))) && (v3.snd.snd.snd.snd.snd.snd.fst == (0 : Int) && (v3.snd.snd.snd.snd.snd.snd.snd.fst == (0 : Int) && v3.snd.snd.snd.snd.snd.snd.snd.snd.fst == (0 : Int))) && (↑(List.length v3.snd.snd.snd.snd.snd.snd.snd.snd.snd.snd) : Int) == (2 : Int) && v3.snd.snd.snd.snd.snd.fst == (2 : Int)) = true ∧ True → (0 : Int) ≤ (1 : Int) ∧ (1 : Int) < (↑(List.length v3.snd.snd.snd.snd.snd.snd.snd.snd.snd.snd) : Int)) <|
 W.need ((v4 && (v1.fst == (0 : Int) && (v1.snd.fst == (0 : Int) && v1.snd.snd.fst == (0 : Int))) && (v3.snd.snd.snd.snd.snd.snd.fst == (0 : Int) && (v3.snd.snd.snd.snd.snd.snd.snd.fst == (0 : Int) && v3.snd.snd.snd.snd.snd.snd.snd.snd.fst == (0 : Int))) && (↑(List.length v3.snd.snd.snd.snd.snd.snd.snd.snd.snd.snd) : Int) == (2 : Int) && v3.snd.snd.snd.snd.snd.fst == (2 : Int) && ri v3.snd.snd.snd.snd.snd.snd.snd.snd.snd.snd (1 : Nat) (1 : Nat) == (1 : Int)) = true ∧ True → (0 : Int) ≤ (1 : Int) ∧ (1 : Int) < (↑(List.length v3.snd.snd.snd.snd.snd.snd.snd.snd.snd.snd) : Int)) <|
 W.ret (v4 && (v1.fst == 0 && (v1.snd.fst == 0 && v1.snd.snd.fst == 0)) && (v3.snd.snd.snd.snd.snd.snd.fst == 0 && (v3.snd.snd.snd.snd.snd.snd.snd.fst == 0 && v3.snd.snd.snd.snd.snd.snd.snd.snd.fst == 0)) && (↑(List.length v3.snd.snd.snd.snd.snd.snd.snd.snd.snd.snd) : Int) == 2 && v3.snd.snd.snd.snd.snd.fst == 2 && ri v3.snd.snd.snd.snd.snd.snd.snd.snd.snd.snd 1 1 == 1 && ri v3.snd.snd.snd.snd.snd.snd.snd.snd.snd.snd 1 2 == 1)
def g_model_Shapes (a0 : Int) (a1 : Int) (a2 : Int) (a3 : Int) (a4 : Int) (a5 : Bool) (a6 : Rws) (a7 : Int) : W (Int × Int × Int × Bool × Rws) :=
 W.bind (g_model_whole (a0) (a1) (a2) (a3) (a4) (a5) (a6) (a7)) fun v0 =>
 W.ret (v0.snd.fst, v0.snd.snd.fst, v0.snd.snd.snd.fst, v0.snd.snd.snd.snd.fst, v0.snd.snd.snd.snd.snd)
def g_plain_Tensors_1_p (a0 : Int) (a1 : Int) (a2 : Int) (a3 : Int) (a4 : Int) (a5 : Int) (a6 : Bool) (a7 : Rws) (a8 : Int) : W (Bool) :=
 W.ret (decide (IntKind.i64.wrap a0 < a4) || decide (a5 < IntKind.i64.wrap a0))
def g_slices_IndexFunc___int8_int8___plain_Tensors_1 (a0 : Bool) (a1 : Rws) (a2 : Int) (a3 : Int) (a4 : Int) (a5 : Int) (a6 : Int) (a7 : Bool) (a8 : Rws) (a9 : Int) : W (Int) :=
 W.bind (W.loop (σ := Int) (ε := (Int) ⊕ (Unit)) (fun v0 =>
 W.ite (decide (v0 < (↑(List.length a1) : Int))) (W.need (0 ≤ v0 ∧ v0 < (↑(List.length a1) : Int)) <|
 W.bind (g_plain_Tensors_1_p (ri a1 v0.toNat 0) (a2) (a3) (a4) (a5) (a6) (a7) (a8) (a9)) fun v1 =>
 W.ite (v1) (W.ret (Sum.inr (Sum.inl v0)))
 (W.ret (Sum.inl (IntKind.i64.wrap (v0 + 1)))))
 (W.ret (Sum.inr (Sum.inr ())))) 0)
 (W.sum (fun v2 =>
 W.ret v2) (fun v3 =>
 W.ret (-1)))
def g_slices_ContainsFunc___int8_int8___plain_Tensors_1 (a0 : Bool) (a1 : Rws) (a2 : Int) (a3 : Int) (a4 : Int) (a5 : Int) (a6 : Int) (a7 : Bool) (a8 : Rws) (a9 : Int) : W (Bool) :=
 W.bind (g_slices_IndexFunc___int8_int8___plain_Tensors_1 (a0) (a1) (a2) (a3) (a4) (a5) (a6) (a7) (a8) (a9)) fun v0 =>
 W.ret (decide (0 ≤ v0))
def g_slices_Clone___int8_int8_ (a0 : Bool) (a1 : Rws) : W (Bool × Rws) :=
 W.ite (a0) (W.ret (true, []))
 (W.need ((0 + List.length a1) * 1 ≤ 140737488355328) <|
 W.ret (false, a1))
def g_model_Reduces (a0 : Int) : W (Bool) :=
 W.bind (α := Bool) (W.ite (a0 == 1) (W.ret (a0 == 1))
 (W.ite (a0 == 2) (W.ret (a0 == 2))
 (W.ite (a0 == 3) (W.ret (a0 == 3))
 (W.ret (a0 == 4)))))
 fun v0 =>
 W.ite (v0) (W.ret true)
 (W.ret false)
def g_terms_find (a0 : Int) (a1 : Int) (a2 : Int) (a3 : Int) (a4 : Int) (a5 : Bool) (a6 : Rws) (a7 : Int) (a8 : Int) : W (Int × Int × Int × Int × Int × Int × Int × Int × Int × Int × Int × Int × Bool × Rws × Bool × Rws × Int × Int × Int × Int × Int × Int × Int × Int × Int × Int × Int × Int × Int × Int × Int × Int) :=
 W.bind (g_model_Shapes (a0) (a1) (a2) (a3) (a4) (a5) (a6) (a7)) fun v0 =>
 W.ite (v0.fst != 0) (W.ret (0, 0, 0, 0, 0, 0, 0, 0, 0, 0, 0, 0, true, [], true, [], 0, 0, 0, 0, 0, 0, 0, 0, 0, 0, 0, 0, 0, 0, 0, v0.fst))
 (W.ite (decide (a8 < 1) || decide ((↑(List.length a6) : Int) < a8)) (W.ret (0, 0, 0, 0, 0, 0, 0, 0, 0, 0, 0, 0, true, [], true, [], 0, 0, 0, 0, 0, 0, 0, 0, 0, 0, 0, 0, 0, 0, 0, 3))
 (W.need (0 ≤ IntKind.i64.wrap (a8 - 1) ∧ IntKind.i64.wrap (a8 - 1) < (↑(List.length a6) : Int)) <|
 W.bind (g_model_Reduces (ri a6 (IntKind.i64.wrap (a8 - 1)).toNat 0)) fun v1 =>
 W.ite (!v1) (W.ret (0, 0, 0, 0, 0, 0, 0, 0, 0, 0, 0, 0, true, [], true, [], 0, 0, 0, 0, 0, 0, 0, 0, 0, 0, 0, 0, 0, 0, 0, 81))
 (W.need (0 ≤ IntKind.i64.wrap (a8 - 1) ∧ IntKind.i64.wrap (a8 - 1) < (↑(List.length a6) : Int)) <|
 W.need (0 ≤ a8 ∧ a8 < (↑(List.length v0.snd.snd.snd.snd) : Int)) <|
 W.need (0 ≤ ri a6 (IntKind.i64.wrap (a8 - 1)).toNat 1 ∧ ri a6 (IntKind.i64.wrap (a8 - 1)).toNat 1 < (↑(List.length v0.snd.snd.snd.snd) : Int)) <|
 W.bind (α := Int) (W.ite (ri a6 (IntKind.i64.wrap (a8 - 1)).toNat 0 == 1) (W.ret (IntKind.i64.wrap (IntKind.i64.wrap (ri v0.snd.snd.snd.snd (ri a6 (IntKind.i64.wrap (a8 - 1)).toNat 1).toNat 0 * ri v0.snd.snd.snd.snd (ri a6 (IntKind.i64.wrap (a8 - 1)).toNat 1).toNat 1) * ri v0.snd.snd.snd.snd (ri a6 (IntKind.i64.wrap (a8 - 1)).toNat 1).toNat 2)))
 (W.ite (ri a6 (IntKind.i64.wrap (a8 - 1)).toNat 0 == 2) (W.ret (IntKind.i64.wrap (IntKind.i64.wrap (ri a6 (IntKind.i64.wrap (a8 - 1)).toNat 4 * ri a6 (IntKind.i64.wrap (a8 - 1)).toNat 5) * ri v0.snd.snd.snd.snd (ri a6 (IntKind.i64.wrap (a8 - 1)).toNat 1).toNat 2)))
 (W.ret (IntKind.i64.wrap (ri a6 (IntKind.i64.wrap (a8 - 1)).toNat 4 * ri a6 (IntKind.i64.wrap (a8 - 1)).toNat 5)))))
 fun v2 =>
 W.ret (ri a6 (IntKind.i64.wrap (a8 - 1)).toNat 0, ri a6 (IntKind.i64.wrap (a8 - 1)).toNat 1, ri a6 (IntKind.i64.wrap (a8 - 1)).toNat 2, ri a6 (IntKind.i64.wrap (a8 - 1)).toNat 3, ri a6 (IntKind.i64.wrap (a8 - 1)).toNat 4, ri a6 (IntKind.i64.wrap (a8 - 1)).toNat 5, ri a6 (IntKind.i64.wrap (a8 - 1)).toNat 6, ri a6 (IntKind.i64.wrap (a8 - 1)).toNat 7, ri a6 (IntKind.i64.wrap (a8 - 1)).toNat 8, ri a6 (IntKind.i64.wrap (a8 - 1)).toNat 9, ri a6 (IntKind.i64.wrap (a8 - 1)).toNat 10, ri a6 (IntKind.i64.wrap (a8 - 1)).toNat 11, rn a6 (IntKind.i64.wrap (a8 - 1)).toNat 12, rr a6 (IntKind.i64.wrap (a8 - 1)).toNat 12, rn a6 (IntKind.i64.wrap (a8 - 1)).toNat 13, rr a6 (IntKind.i64.wrap (a8 - 1)).toNat 13, ri a6 (IntKind.i64.wrap (a8 - 1)).toNat 14, ri a6 (IntKind.i64.wrap (a8 - 1)).toNat 15, ri a6 (IntKind.i64.wrap (a8 - 1)).toNat 16, ri a6 (IntKind.i64.wrap (a8 - 1)).toNat 17, ri a6 (IntKind.i64.wrap (a8 - 1)).toNat 18, ri a6 (IntKind.i64.wrap (a8 - 1)).toNat 19, ri a6 (IntKind.i64.wrap (a8 - 1)).toNat 20, ri a6 (IntKind.i64.wrap (a8 - 1)).toNat 21, ri v0.snd.snd.snd.snd (ri a6 (IntKind.i64.wrap (a8 - 1)).toNat 1).toNat 0, ri v0.snd.snd.snd.snd (ri a6 (IntKind.i64.wrap (a8 - 1)).toNat 1).toNat 1, ri v0.snd.snd.snd.snd (ri a6 (IntKind.i64.wrap (a8 - 1)).toNat 1).toNat 2, ri v0.snd.snd.snd.snd a8.toNat 0, ri v0.snd.snd.snd.snd a8.toNat 1, ri v0.snd.snd.snd.snd a8.toNat 2, v2, 0))))
def g_terms_Length (a0 : Int) (a1 : Int) (a2 : Int) (a3 : Int) (a4 : Int) (a5 : Bool) (a6 : Rws) (a7 : Int) (a8 : Int) : W (Int × Int) :=
 W.bind (g_terms_find (a0) (a1) (a2) (a3) (a4) (a5) (a6) (a7) (a8)) fun v0 =>
 W.ret (v0.snd.snd.snd.snd.snd.snd.snd.snd.snd.snd.snd.snd.snd.snd.snd.snd.snd.snd.snd.snd.snd.snd.snd.snd.snd.snd.snd.snd.snd.snd.fst, v0.snd.snd.snd.snd.snd.snd.snd.snd.snd.snd.snd.snd.snd.snd.snd.snd.snd.snd.snd.snd.snd.snd.snd.snd.snd.snd.snd.snd.snd.snd.snd)
def g_terms_Channels (a0 : Int) (a1 : Int) (a2 : Int) (a3 : Int) (a4 : Int) (a5 : Bool) (a6 : Rws) (a7 : Int) (a8 : Int) : W (Int × Int) :=
 W.bind (g_terms_find (a0) (a1) (a2) (a3) (a4) (a5) (a6) (a7) (a8)) fun v0 =>
 W.ret (v0.snd.snd.snd.snd.snd.snd.snd.snd.snd.snd.snd.snd.snd.snd.snd.snd.snd.snd.snd.snd.snd.snd.snd.snd.snd.snd.snd.snd.snd.fst, v0.snd.snd.snd.snd.snd.snd.snd.snd.snd.snd.snd.snd.snd.snd.snd.snd.snd.snd.snd.snd.snd.snd.snd.snd.snd.snd.snd.snd.snd.snd.snd)
def g_terms_Positions (a0 : Int) (a1 : Int) (a2 : Int) (a3 : Int) (a4 : Int) (a5 : Bool) (a6 : Rws) (a7 : Int) (a8 : Int) : W (Int × Int) :=
 W.bind (g_terms_find (a0) (a1) (a2) (a3) (a4) (a5) (a6) (a7) (a8)) fun v0 =>
 W.ret (IntKind.i64.wrap (v0.snd.snd.snd.snd.snd.snd.snd.snd.snd.snd.snd.snd.snd.snd.snd.snd.snd.snd.snd.snd.snd.snd.snd.snd.snd.snd.snd.fst * v0.snd.snd.snd.snd.snd.snd.snd.snd.snd.snd.snd.snd.snd.snd.snd.snd.snd.snd.snd.snd.snd.snd.snd.snd.snd.snd.snd.snd.fst), v0.snd.snd.snd.snd.snd.snd.snd.snd.snd.snd.snd.snd.snd.snd.snd.snd.snd.snd.snd.snd.snd.snd.snd.snd.snd.snd.snd.snd.snd.snd.snd)
def g_window_Taps (a0 : Int) (a1 : Int) (a2 : Int) (a3 : Int) (a4 : Int) (a5 : Int) (a6 : Int) (a7 : Int) (a8 : Int) (a9 : Int) (a10 : Int) (a11 : Int) : W ((Unit) ⊕ (Int × Int × Int × Int × Int × Int × Int × Int × Int × Int × Int × Int × Int)) :=
 W.bind (g_window_Out (a0) (a1) (a2) (a3) (a4) (a5) (a6) (a7) (a8) (a9) (a10)) fun v0 =>
 W.ite (v0.snd.snd != 0 || decide (a11 < 0) || decide (IntKind.i64.wrap (v0.fst * v0.snd.fst) ≤ a11)) (W.ret (Sum.inl ()))
 (W.need (v0.snd.fst ≠ 0) <|
 W.need (v0.snd.fst ≠ 0) <|
 W.ret (Sum.inr (a3, a4, a5, a6, a7, a8, a9, a10, IntKind.i64.wrap (IntKind.i64.wrap (IntKind.i64.wrap (a11.tdiv v0.snd.fst) * a5) - a7), IntKind.i64.wrap (IntKind.i64.wrap (a11.tmod v0.snd.fst * a6) - a8), a0, a1, a2)))
def g_window_Taps_2_n (a0 : Int) (a1 : Int) (a2 : Int) (a3 : Int) (a4 : Int) (a5 : Int) (a6 : Int) (a7 : Int) (a8 : Int) (a9 : Int) (a10 : Int) (a11 : Int) (a12 : Int) : Int := IntKind.i64.wrap (a0 * a1)
def g_window_Taps_2 (i : Int) (a0 : Int) (a1 : Int) (a2 : Int) (a3 : Int) (a4 : Int) (a5 : Int) (a6 : Int) (a7 : Int) (a8 : Int) (a9 : Int) (a10 : Int) (a11 : Int) (a12 : Int) : W (Int × Int) :=
 W.need (a1 ≠ 0) <|
 W.need (a1 ≠ 0) <|
 W.bind (α := Bool) (W.bind (g_window_within (IntKind.i64.wrap (a8 + IntKind.i64.wrap (i.tdiv a1))) (0) (IntKind.i64.wrap (a10 - 1))) fun v0 =>
 W.ite (v0) (W.bind (g_window_within (IntKind.i64.wrap (a9 + i.tmod a1)) (0) (IntKind.i64.wrap (a11 - 1))) fun v1 =>
 W.ret v1)
 (W.ret false))
 fun v2 =>
 W.ite (v2) (W.ret (i, IntKind.i64.wrap (IntKind.i64.wrap (IntKind.i64.wrap (a8 + IntKind.i64.wrap (i.tdiv a1)) * a11) + IntKind.i64.wrap (a9 + i.tmod a1))))
 (W.ret (i, -1))
def g__terms_site__places (a0 : Int) (a1 : Int) (a2 : Int) (a3 : Int) (a4 : Int) (a5 : Int) (a6 : Int) (a7 : Int) (a8 : Int) (a9 : Int) (a10 : Int) (a11 : Int) (a12 : Bool) (a13 : Rws) (a14 : Bool) (a15 : Rws) (a16 : Int) (a17 : Int) (a18 : Int) (a19 : Int) (a20 : Int) (a21 : Int) (a22 : Int) (a23 : Int) (a24 : Int) (a25 : Int) (a26 : Int) (a27 : Int) (a28 : Int) (a29 : Int) (a30 : Int) (a31 : Int) (a32 : Int) : W (Bool × Rws) :=
 W.ite (a0 == 1) (W.bind (W.loop (σ := Int × Bool × Rws) (ε := Bool × Rws) (fun v0 =>
 W.ite (decide (v0.fst < a30)) (W.need ((List.length v0.snd.snd + 1) * 8 ≤ 140737488355328) <|
 W.ret (Sum.inl (IntKind.i64.wrap (v0.fst + 1), v0.snd.fst && false, v0.snd.snd ++ [[I v0.fst]])))
 (W.ret (Sum.inr (v0.snd.fst, v0.snd.snd)))) (0, true, []))
 (fun v1 =>
 W.ret (v1.fst, v1.snd)))
 (W.bind (α := Int × Int) (W.ite (a0 == 2) (W.ret (0, IntKind.i64.wrap (a26 - 1)))
 (W.ret (IntKind.i64.wrap (a31 - 1), IntKind.i64.wrap (a31 - 1))))
 fun v2 =>
 W.bind (α := Bool × Rws) (W.bind (g_window_Taps (a24) (a25) (a26) (a4) (a5) (a6) (a7) (a8) (a9) (a10) (a11) (a32)) (W.sum (fun v3 =>
 W.bind (W.each (τ := Unit) (σ := Unit) (fun v5 v4 =>
 W.fail) ([] : List (W Unit)) ())
 fun v6 =>
 W.ret (true, [])) (fun v7 =>
 W.need (0 ≤ g_window_Taps_2_n (v7.fst) (v7.snd.fst) (v7.snd.snd.fst) (v7.snd.snd.snd.fst) (v7.snd.snd.snd.snd.fst) (v7.snd.snd.snd.snd.snd.fst) (v7.snd.snd.snd.snd.snd.snd.fst) (v7.snd.snd.snd.snd.snd.snd.snd.fst) (v7.snd.snd.snd.snd.snd.snd.snd.snd.fst) (v7.snd.snd.snd.snd.snd.snd.snd.snd.snd.fst) (v7.snd.snd.snd.snd.snd.snd.snd.snd.snd.snd.fst) (v7.snd.snd.snd.snd.snd.snd.snd.snd.snd.snd.snd.fst) (v7.snd.snd.snd.snd.snd.snd.snd.snd.snd.snd.snd.snd) ∧ g_window_Taps_2_n (v7.fst) (v7.snd.fst) (v7.snd.snd.fst) (v7.snd.snd.snd.fst) (v7.snd.snd.snd.snd.fst) (v7.snd.snd.snd.snd.snd.fst) (v7.snd.snd.snd.snd.snd.snd.fst) (v7.snd.snd.snd.snd.snd.snd.snd.fst) (v7.snd.snd.snd.snd.snd.snd.snd.snd.fst) (v7.snd.snd.snd.snd.snd.snd.snd.snd.snd.fst) (v7.snd.snd.snd.snd.snd.snd.snd.snd.snd.snd.fst) (v7.snd.snd.snd.snd.snd.snd.snd.snd.snd.snd.snd.fst) (v7.snd.snd.snd.snd.snd.snd.snd.snd.snd.snd.snd.snd) ≤ 9223372036854775807) <|
 W.bind (W.each (τ := Int × Int) (σ := Bool × Rws) (fun v9 v8 =>
 W.bind (W.loop (σ := Int × Bool × Rws) (ε := Int × Int × Bool × Bool × Rws) (fun v10 =>
 W.ite (decide (v10.fst ≤ v2.snd)) (W.bind (α := Rws) (W.ite (decide (v9.snd < 0)) (W.need ((List.length v10.snd.snd + 1) * 8 ≤ 140737488355328) <|
 W.ret (v10.snd.snd ++ [[I (-1)]]))
 (W.need ((List.length v10.snd.snd + 1) * 8 ≤ 140737488355328) <|
 W.ret (v10.snd.snd ++ [[I (IntKind.i64.wrap (IntKind.i64.wrap (v9.snd * a26) + v10.fst))]])))
 fun v11 =>
 W.ret (Sum.inl (IntKind.i64.wrap (v10.fst + 1), v10.snd.fst && false, v11)))
 (W.ret (Sum.inr (v10.fst, v10.fst, decide (v10.fst ≤ v2.snd), v10.snd.fst, v10.snd.snd)))) (v2.fst, v8.fst, v8.snd))
 (fun v12 =>
 W.ret (v12.snd.snd.snd.fst, v12.snd.snd.snd.snd))) ((List.range (g_window_Taps_2_n (v7.fst) (v7.snd.fst) (v7.snd.snd.fst) (v7.snd.snd.snd.fst) (v7.snd.snd.snd.snd.fst) (v7.snd.snd.snd.snd.snd.fst) (v7.snd.snd.snd.snd.snd.snd.fst) (v7.snd.snd.snd.snd.snd.snd.snd.fst) (v7.snd.snd.snd.snd.snd.snd.snd.snd.fst) (v7.snd.snd.snd.snd.snd.snd.snd.snd.snd.fst) (v7.snd.snd.snd.snd.snd.snd.snd.snd.snd.snd.fst) (v7.snd.snd.snd.snd.snd.snd.snd.snd.snd.snd.snd.fst) (v7.snd.snd.snd.snd.snd.snd.snd.snd.snd.snd.snd.snd)).toNat).map fun (k : Nat) => g_window_Taps_2 (k : Int) (v7.fst) (v7.snd.fst) (v7.snd.snd.fst) (v7.snd.snd.snd.fst) (v7.snd.snd.snd.snd.fst) (v7.snd.snd.snd.snd.snd.fst) (v7.snd.snd.snd.snd.snd.snd.fst) (v7.snd.snd.snd.snd.snd.snd.snd.fst) (v7.snd.snd.snd.snd.snd.snd.snd.snd.fst) (v7.snd.snd.snd.snd.snd.snd.snd.snd.snd.fst) (v7.snd.snd.snd.snd.snd.snd.snd.snd.snd.snd.fst) (v7.snd.snd.snd.snd.snd.snd.snd.snd.snd.snd.snd.fst) (v7.snd.snd.snd.snd.snd.snd.snd.snd.snd.snd.snd.snd)) (true, []))
 fun v13 =>
 W.ret (v13.fst, v13.snd))))
 fun v14 =>
 W.ret (v14.fst, v14.snd))
def g_terms_Of (a0 : Int) (a1 : Int) (a2 : Int) (a3 : Int) (a4 : Int) (a5 : Bool) (a6 : Rws) (a7 : Int) (a8 : Int) (a9 : Int) (a10 : Int) : W (Int × Int × Bool × Rws) :=
 W.bind (g_terms_find (a0) (a1) (a2) (a3) (a4) (a5) (a6) (a7) (a8)) fun v0 =>
 W.ite (v0.snd.snd.snd.snd.snd.snd.snd.snd.snd.snd.snd.snd.snd.snd.snd.snd.snd.snd.snd.snd.snd.snd.snd.snd.snd.snd.snd.snd.snd.snd.snd != 0) (W.ret (0, v0.snd.snd.snd.snd.snd.snd.snd.snd.snd.snd.snd.snd.snd.snd.snd.snd.snd.snd.snd.snd.snd.snd.snd.snd.snd.snd.snd.snd.snd.snd.snd, true, []))
 (W.ite (decide (a9 < 1) || decide (v0.snd.snd.snd.snd.snd.snd.snd.snd.snd.snd.snd.snd.snd.snd.snd.snd.snd.snd.snd.snd.snd.snd.snd.snd.snd.snd.snd.snd.snd.fst < a9) || decide (a10 < 0) || decide (IntKind.i64.wrap (v0.snd.snd.snd.snd.snd.snd.snd.snd.snd.snd.snd.snd.snd.snd.snd.snd.snd.snd.snd.snd.snd.snd.snd.snd.snd.snd.snd.fst * v0.snd.snd.snd.snd.snd.snd.snd.snd.snd.snd.snd.snd.snd.snd.snd.snd.snd.snd.snd.snd.snd.snd.snd.snd.snd.snd.snd.snd.fst) ≤ a10)) (W.ret (0, 3, true, []))
 (W.need (0 ≤ v0.snd.snd.snd.snd.snd.snd.snd.snd.snd.snd.snd.snd.snd.snd.snd.snd.snd.snd.snd.snd.snd.snd.snd.snd.snd.snd.snd.snd.snd.snd.fst ∧ v0.snd.snd.snd.snd.snd.snd.snd.snd.snd.snd.snd.snd.snd.snd.snd.snd.snd.snd.snd.snd.snd.snd.snd.snd.snd.snd.snd.snd.snd.snd.fst ≤ v0.snd.snd.snd.snd.snd.snd.snd.snd.snd.snd.snd.snd.snd.snd.snd.snd.snd.snd.snd.snd.snd.snd.snd.snd.snd.snd.snd.snd.snd.snd.fst ∧ v0.snd.snd.snd.snd.snd.snd.snd.snd.snd.snd.snd.snd.snd.snd.snd.snd.snd.snd.snd.snd.snd.snd.snd.snd.snd.snd.snd.snd.snd.snd.fst * 16 ≤ 140737488355328 ∧ v0.snd.snd.snd.snd.snd.snd.snd.snd.snd.snd.snd.snd.snd.snd.snd.snd.snd.snd.snd.snd.snd.snd.snd.snd.snd.snd.snd.snd.snd.snd.fst ≤ 9223372036854775807) <|
 W.bind (g__terms_site__places (v0.fst) (v0.snd.fst) (v0.snd.snd.fst) (v0.snd.snd.snd.fst) (v0.snd.snd.snd.snd.fst) (v0.snd.snd.snd.snd.snd.fst) (v0.snd.snd.snd.snd.snd.snd.fst) (v0.snd.snd.snd.snd.snd.snd.snd.fst) (v0.snd.snd.snd.snd.snd.snd.snd.snd.fst) (v0.snd.snd.snd.snd.snd.snd.snd.snd.snd.fst) (v0.snd.snd.snd.snd.snd.snd.snd.snd.snd.snd.fst) (v0.snd.snd.snd.snd.snd.snd.snd.snd.snd.snd.snd.fst) (v0.snd.snd.snd.snd.snd.snd.snd.snd.snd.snd.snd.snd.fst) (v0.snd.snd.snd.snd.snd.snd.snd.snd.snd.snd.snd.snd.snd.fst) (v0.snd.snd.snd.snd.snd.snd.snd.snd.snd.snd.snd.snd.snd.snd.fst) (v0.snd.snd.snd.snd.snd.snd.snd.snd.snd.snd.snd.snd.snd.snd.snd.fst) (v0.snd.snd.snd.snd.snd.snd.snd.snd.snd.snd.snd.snd.snd.snd.snd.snd.fst) (v0.snd.snd.snd.snd.snd.snd.snd.snd.snd.snd.snd.snd.snd.snd.snd.snd.snd.fst) (v0.snd.snd.snd.snd.snd.snd.snd.snd.snd.snd.snd.snd.snd.snd.snd.snd.snd.snd.fst) (v0.snd.snd.snd.snd.snd.snd.snd.snd.snd.snd.snd.snd.snd.snd.snd.snd.snd.snd.snd.fst) (v0.snd.snd.snd.snd.snd.snd.snd.snd.snd.snd.snd.snd.snd.snd.snd.snd.snd.snd.snd.snd.fst) (v0.snd.snd.snd.snd.snd.snd.snd.snd.snd.snd.snd.snd.snd.snd.snd.snd.snd.snd.snd.snd.snd.fst) (v0.snd.snd.snd.snd.snd.snd.snd.snd.snd.snd.snd.snd.snd.snd.snd.snd.snd.snd.snd.snd.snd.snd.fst) (v0.snd.snd.snd.snd.snd.snd.snd.snd.snd.snd.snd.snd.snd.snd.snd.snd.snd.snd.snd.snd.snd.snd.snd.fst) (v0.snd.snd.snd.snd.snd.snd.snd.snd.snd.snd.snd.snd.snd.snd.snd.snd.snd.snd.snd.snd.snd.snd.snd.snd.fst) (v0.snd.snd.snd.snd.snd.snd.snd.snd.snd.snd.snd.snd.snd.snd.snd.snd.snd.snd.snd.snd.snd.snd.snd.snd.snd.fst) (v0.snd.snd.snd.snd.snd.snd.snd.snd.snd.snd.snd.snd.snd.snd.snd.snd.snd.snd.snd.snd.snd.snd.snd.snd.snd.snd.fst) (v0.snd.snd.snd.snd.snd.snd.snd.snd.snd.snd.snd.snd.snd.snd.snd.snd.snd.snd.snd.snd.snd.snd.snd.snd.snd.snd.snd.fst) (v0.snd.snd.snd.snd.snd.snd.snd.snd.snd.snd.snd.snd.snd.snd.snd.snd.snd.snd.snd.snd.snd.snd.snd.snd.snd.snd.snd.snd.fst) (v0.snd.snd.snd.snd.snd.snd.snd.snd.snd.snd.snd.snd.snd.snd.snd.snd.snd.snd.snd.snd.snd.snd.snd.snd.snd.snd.snd.snd.snd.fst) (v0.snd.snd.snd.snd.snd.snd.snd.snd.snd.snd.snd.snd.snd.snd.snd.snd.snd.snd.snd.snd.snd.snd.snd.snd.snd.snd.snd.snd.snd.snd.fst) (a9) (a10)) fun v1 =>
 W.bind (W.loop (σ := Int × Rws) (ε := Rws) (fun v2 =>
 W.ite (decide (v2.fst < (↑(List.length v1.snd) : Int))) (W.need (0 ≤ v2.fst ∧ v2.fst < (↑(List.length v1.snd) : Int)) <|
 W.need (0 ≤ v2.fst ∧ v2.fst < (↑(List.length v2.snd) : Int)) <|
 W.ret (Sum.inl (IntKind.i64.wrap (v2.fst + 1), List.set v2.snd v2.fst.toNat [I 1, I (ri v1.snd v2.fst.toNat 0)])))
 (W.ret (Sum.inr v2.snd))) (0, List.replicate v0.snd.snd.snd.snd.snd.snd.snd.snd.snd.snd.snd.snd.snd.snd.snd.snd.snd.snd.snd.snd.snd.snd.snd.snd.snd.snd.snd.snd.snd.snd.fst.toNat [I 0, I 0]))
 (fun v3 =>
 W.bind (α := Int × Rws) (W.ite (v0.fst != 4) (W.need (0 ≤ IntKind.i64.wrap (a9 - 1) ∧ IntKind.i64.wrap (a9 - 1) < (↑(List.length v0.snd.snd.snd.snd.snd.snd.snd.snd.snd.snd.snd.snd.snd.snd.snd.fst) : Int)) <|
 W.need (0 ≤ IntKind.i64.wrap (IntKind.i64.wrap (a9 - 1) * v0.snd.snd.snd.snd.snd.snd.snd.snd.snd.snd.snd.snd.snd.snd.snd.snd.snd.snd.snd.snd.snd.snd.snd.snd.snd.snd.snd.snd.snd.snd.fst) ∧ IntKind.i64.wrap (IntKind.i64.wrap (a9 - 1) * v0.snd.snd.snd.snd.snd.snd.snd.snd.snd.snd.snd.snd.snd.snd.snd.snd.snd.snd.snd.snd.snd.snd.snd.snd.snd.snd.snd.snd.snd.snd.fst) ≤ IntKind.i64.wrap (a9 * v0.snd.snd.snd.snd.snd.snd.snd.snd.snd.snd.snd.snd.snd.snd.snd.snd.snd.snd.snd.snd.snd.snd.snd.snd.snd.snd.snd.snd.snd.snd.fst) ∧ IntKind.i64.wrap (a9 * v0.snd.snd.snd.snd.snd.snd.snd.snd.snd.snd.snd.snd.snd.snd.snd.snd.snd.snd.snd.snd.snd.snd.snd.snd.snd.snd.snd.snd.snd.snd.fst) ≤ (↑(List.length v0.snd.snd.snd.snd.snd.snd.snd.snd.snd.snd.snd.snd.snd.fst) : Int)) <|
 W.bind (W.loop (σ := Int × Rws) (ε := Rws) (fun v4 =>
 W.ite (decide (v4.fst < (↑(List.take (IntKind.i64.wrap (a9 * v0.snd.snd.snd.snd.snd.snd.snd.snd.snd.snd.snd.snd.snd.snd.snd.snd.snd.snd.snd.snd.snd.snd.snd.snd.snd.snd.snd.snd.snd.snd.fst) - IntKind.i64.wrap (IntKind.i64.wrap (a9 - 1) * v0.snd.snd.snd.snd.snd.snd.snd.snd.snd.snd.snd.snd.snd.snd.snd.snd.snd.snd.snd.snd.snd.snd.snd.snd.snd.snd.snd.snd.snd.snd.fst)).toNat (List.drop (IntKind.i64.wrap (IntKind.i64.wrap (a9 - 1) * v0.snd.snd.snd.snd.snd.snd.snd.snd.snd.snd.snd.snd.snd.snd.snd.snd.snd.snd.snd.snd.snd.snd.snd.snd.snd.snd.snd.snd.snd.snd.fst)).toNat v0.snd.snd.snd.snd.snd.snd.snd.snd.snd.snd.snd.snd.snd.fst)).length : Int))) (W.need (0 ≤ v4.fst ∧ v4.fst < (↑(List.take (IntKind.i64.wrap (a9 * v0.snd.snd.snd.snd.snd.snd.snd.snd.snd.snd.snd.snd.snd.snd.snd.snd.snd.snd.snd.snd.snd.snd.snd.snd.snd.snd.snd.snd.snd.snd.fst) - IntKind.i64.wrap (IntKind.i64.wrap (a9 - 1) * v0.snd.snd.snd.snd.snd.snd.snd.snd.snd.snd.snd.snd.snd.snd.snd.snd.snd.snd.snd.snd.snd.snd.snd.snd.snd.snd.snd.snd.snd.snd.fst)).toNat (List.drop (IntKind.i64.wrap (IntKind.i64.wrap (a9 - 1) * v0.snd.snd.snd.snd.snd.snd.snd.snd.snd.snd.snd.snd.snd.snd.snd.snd.snd.snd.snd.snd.snd.snd.snd.snd.snd.snd.snd.snd.snd.snd.fst)).toNat v0.snd.snd.snd.snd.snd.snd.snd.snd.snd.snd.snd.snd.snd.fst)).length : Int)) <|
 W.need (0 ≤ v4.fst ∧ v4.fst < (↑(List.length v4.snd) : Int)) <|
 W.ret (Sum.inl (IntKind.i64.wrap (v4.fst + 1), List.set v4.snd v4.fst.toNat [I (IntKind.i64.wrap (ri (List.take (IntKind.i64.wrap (a9 * v0.snd.snd.snd.snd.snd.snd.snd.snd.snd.snd.snd.snd.snd.snd.snd.snd.snd.snd.snd.snd.snd.snd.snd.snd.snd.snd.snd.snd.snd.snd.fst) - IntKind.i64.wrap (IntKind.i64.wrap (a9 - 1) * v0.snd.snd.snd.snd.snd.snd.snd.snd.snd.snd.snd.snd.snd.snd.snd.snd.snd.snd.snd.snd.snd.snd.snd.snd.snd.snd.snd.snd.snd.snd.fst)).toNat (List.drop (IntKind.i64.wrap (IntKind.i64.wrap (a9 - 1) * v0.snd.snd.snd.snd.snd.snd.snd.snd.snd.snd.snd.snd.snd.snd.snd.snd.snd.snd.snd.snd.snd.snd.snd.snd.snd.snd.snd.snd.snd.snd.fst)).toNat v0.snd.snd.snd.snd.snd.snd.snd.snd.snd.snd.snd.snd.snd.fst)) v4.fst.toNat 0)), I (ri v4.snd v4.fst.toNat 1)])))
 (W.ret (Sum.inr v4.snd))) (0, v3))
 (fun v5 =>
 W.ret (IntKind.i64.wrap (ri v0.snd.snd.snd.snd.snd.snd.snd.snd.snd.snd.snd.snd.snd.snd.snd.fst (IntKind.i64.wrap (a9 - 1)).toNat 0), v5)))
 (W.ret (0, v3)))
 fun v6 =>
 W.ret (v6.fst, 0, false, v6.snd))))
def g_plain_sum (a0 : Int) (a1 : Bool) (a2 : Rws) (a3 : Bool) (a4 : Rws) (a5 : Int) : W (Int) :=
 W.bind (W.loop (σ := Int × Int) (ε := Int) (fun v0 =>
 W.ite (decide (v0.snd < (↑(List.length a2) : Int))) (W.need (0 ≤ v0.snd ∧ v0.snd < (↑(List.length a2) : Int)) <|
 W.bind (α := Int) (W.ite (decide (0 ≤ ri a2 v0.snd.toNat 1)) (W.need (0 ≤ ri a2 v0.snd.toNat 1 ∧ ri a2 v0.snd.toNat 1 < (↑(List.length a4) : Int)) <|
 W.ret (IntKind.i64.wrap (ri a4 (ri a2 v0.snd.toNat 1).toNat 0)))
 (W.ret a5))
 fun v1 =>
 W.ret (Sum.inl (IntKind.i64.wrap (v0.fst + IntKind.i64.wrap (ri a2 v0.snd.toNat 0 * v1)), IntKind.i64.wrap (v0.snd + 1))))
 (W.ret (Sum.inr v0.fst))) (a0, 0))
 (fun v2 =>
 W.ret v2)
def g_plain_sums (a0 : Int) (a1 : Int) (a2 : Int) (a3 : Int) (a4 : Int) (a5 : Bool) (a6 : Rws) (a7 : Int) (a8 : Int) (a9 : Bool) (a10 : Rws) : W (Bool × Rws) :=
 W.bind (g_terms_Channels (a0) (a1) (a2) (a3) (a4) (a5) (a6) (a7) (a8)) fun v0 =>
 W.bind (g_terms_Positions (a0) (a1) (a2) (a3) (a4) (a5) (a6) (a7) (a8)) fun v1 =>
 W.need ((0 : Int) ≤ (0 : Int) ∧ (0 : Int) ≤ IntKind.i64.wrap (v1.fst * v0.fst) ∧ IntKind.i64.wrap (v1.fst * v0.fst) * (8 : Int) ≤ (140737488355328 : Int) ∧ IntKind.i64.wrap (v1.fst * v0.fst) ≤ (9223372036854775807 : Int)) <|
 W.bind (W.loop (σ := Int × Rws) (ε := Rws) (fun v2 =>
 W.ite (decide (v2.fst < v1.fst)) (W.bind (W.loop (σ := Int × Rws) (ε := Int × Bool × Rws) (fun v3 =>
 W.ite (decide (v3.fst < v0.fst)) (W.bind (g_terms_Of (a0) (a1) (a2) (a3) (a4) (a5) (a6) (a7) (a8) (IntKind.i64.wrap (v3.fst + 1)) (v2.fst)) fun v4 =>
 W.need (0 ≤ IntKind.i64.wrap (a8 - 1) ∧ IntKind.i64.wrap (a8 - 1) < (↑(List.length a6) : Int)) <|
 W.bind (g_plain_sum (v4.fst) (v4.snd.snd.fst) (v4.snd.snd.snd) (a9) (a10) (ri a6 (IntKind.i64.wrap (a8 - 1)).toNat 19)) fun v5 =>
 W.need ((List.length v3.snd + 1) * 8 ≤ 140737488355328) <|
 W.ret (Sum.inl (IntKind.i64.wrap (v3.fst + 1), v3.snd ++ [[I v5]])))
 (W.ret (Sum.inr (v3.fst, decide (v3.fst < v0.fst), v3.snd)))) (0, v2.snd))
 (fun v6 =>
 W.ret (Sum.inl (IntKind.i64.wrap (v2.fst + 1), v6.snd.snd))))
 (W.ret (Sum.inr v2.snd))) (0, []))
 (fun v7 =>
 W.ret (false, v7))
def g_fixq_magnitude (a0 : Int) : W (Int × Bool) :=
 W.ite (decide (a0 < 0)) (W.ret (IntKind.u64.wrap (IntKind.i64.wrap (0 - a0)), true))
 (W.ret (IntKind.u64.wrap a0, false))
def g_fixq_signed (a0 : Int) (a1 : Bool) : W (Int) :=
 W.ite (a1) (W.ret (IntKind.i64.wrap (IntKind.u64.wrap (0 - a0))))
 (W.ret (IntKind.i64.wrap a0))
def g_fixq_Shift (a0 : Int) (a1 : Int) : W (Int × Int) :=
 W.ite (decide (a1 < 0) || decide (62 < a1)) (W.ret (0, 20))
 (W.bind (g_fixq_magnitude (a0)) fun v0 =>
 W.need (0 ≤ IntKind.u64.wrap a1) <|
 W.bind (α := Int) (W.ite (decide (0 < a1)) (W.need (0 ≤ IntKind.u64.wrap (IntKind.i64.wrap (a1 - 1))) <|
 W.ret (IntKind.u64.wrap (v0.fst.fdiv (2 ^ min (IntKind.u64.wrap a1).toNat 64) + ibits BinOp.and IntKind.u64 (v0.fst.fdiv (2 ^ min (IntKind.u64.wrap (IntKind.i64.wrap (a1 - 1))).toNat 64)) 1)))
 (W.ret (v0.fst.fdiv (2 ^ min (IntKind.u64.wrap a1).toNat 64))))
 fun v1 =>
 W.bind (g_fixq_signed (v1) (v0.snd)) fun v2 =>
 W.ret (v2, 0))
def g_fixq_Apply (a0 : Int) (a1 : Int) (a2 : Int) : W (Int × Int) :=
 W.bind (g_fixq_Valid (a1) (a2)) fun v0 =>
 W.ite (!v0) (W.ret (0, 20))
 (W.bind (g_fixq_magnitude (a0)) fun v1 =>
 W.ite (decide (4294967296 < v1.fst)) (W.ret (0, 10))
 (W.bind (g_fixq_Shift (IntKind.i64.wrap (IntKind.u64.wrap (v1.fst * IntKind.u64.wrap a1))) (a2)) fun v2 =>
 W.bind (g_fixq_signed (IntKind.u64.wrap v2.fst) (v1.snd)) fun v3 =>
 W.ret (v3, v2.snd)))
def g_math_bits_Mul64 (a0 : Int) (a1 : Int) : W (Int × Int) :=
 W.ret (IntKind.u64.wrap (IntKind.u64.wrap (IntKind.u64.wrap (a0.fdiv 4294967296 * a1.fdiv 4294967296) + (IntKind.u64.wrap (IntKind.u64.wrap (a0.fdiv 4294967296 * ibits BinOp.and IntKind.u64 a1 4294967295) + (IntKind.u64.wrap (ibits BinOp.and IntKind.u64 a0 4294967295 * ibits BinOp.and IntKind.u64 a1 4294967295)).fdiv 4294967296)).fdiv 4294967296) + (IntKind.u64.wrap (ibits BinOp.and IntKind.u64 (IntKind.u64.wrap (IntKind.u64.wrap (a0.fdiv 4294967296 * ibits BinOp.and IntKind.u64 a1 4294967295) + (IntKind.u64.wrap (ibits BinOp.and IntKind.u64 a0 4294967295 * ibits BinOp.and IntKind.u64 a1 4294967295)).fdiv 4294967296)) 4294967295 + IntKind.u64.wrap (ibits BinOp.and IntKind.u64 a0 4294967295 * a1.fdiv 4294967296))).fdiv 4294967296), IntKind.u64.wrap (a0 * a1))
def g_math_bits_Len64 (a0 : Int) : W (Int) :=
 W.bind (α := Int × Int) (W.ite (decide (4294967296 ≤ a0)) (W.ret (a0.fdiv 4294967296, 32))
 (W.ret (a0, 0)))
 fun v0 =>
 W.bind (α := Int × Int) (W.ite (decide (65536 ≤ v0.fst)) (W.ret (v0.fst.fdiv 65536, IntKind.i64.wrap (v0.snd + 16)))
 (W.ret (v0.fst, v0.snd)))
 fun v1 =>
 W.bind (α := Int × Int) (W.ite (decide (256 ≤ v1.fst)) (W.ret (v1.fst.fdiv 256, IntKind.i64.wrap (v1.snd + 8)))
 (W.ret (v1.fst, v1.snd)))
 fun v2 =>
 W.need (0 ≤ IntKind.u8.wrap v2.fst ∧ IntKind.u8.wrap v2.fst < 256) <|
 W.ret (IntKind.i64.wrap (v2.snd + IntKind.i64.wrap (byteAt (bs [0, 1, 2, 2, 3, 3, 3, 3, 4, 4, 4, 4, 4, 4, 4, 4, 5, 5, 5, 5, 5, 5, 5, 5, 5, 5, 5, 5, 5, 5, 5, 5, 6, 6, 6, 6, 6, 6, 6, 6, 6, 6, 6, 6, 6, 6, 6, 6, 6, 6, 6, 6, 6, 6, 6, 6, 6, 6, 6, 6, 6, 6, 6, 6, 7, 7, 7, 7, 7, 7, 7, 7, 7, 7, 7, 7, 7, 7, 7, 7, 7, 7, 7, 7, 7, 7, 7, 7, 7, 7, 7, 7, 7, 7, 7, 7, 7, 7, 7, 7, 7, 7, 7, 7, 7, 7, 7, 7, 7, 7, 7, 7, 7, 7, 7, 7, 7, 7, 7, 7, 7, 7, 7, 7, 7, 7, 7, 7, 8, 8, 8, 8, 8, 8, 8, 8, 8, 8, 8, 8, 8, 8, 8, 8, 8, 8, 8, 8, 8, 8, 8, 8, 8, 8, 8, 8, 8, 8, 8, 8, 8, 8, 8, 8, 8, 8, 8, 8, 8, 8, 8, 8, 8, 8, 8, 8, 8, 8, 8, 8, 8, 8, 8, 8, 8, 8, 8, 8, 8, 8, 8, 8, 8, 8, 8, 8, 8, 8, 8, 8, 8, 8, 8, 8, 8, 8, 8, 8, 8, 8, 8, 8, 8, 8, 8, 8, 8, 8, 8, 8, 8, 8, 8, 8, 8, 8, 8, 8, 8, 8, 8, 8, 8, 8, 8, 8, 8, 8, 8, 8, 8, 8, 8, 8, 8, 8, 8, 8, 8, 8, 8, 8, 8, 8, 8, 8]) (IntKind.u8.wrap v2.fst).toNat)))
def g_math_bits_LeadingZeros64 (a0 : Int) : W (Int) :=
 W.bind (g_math_bits_Len64 (a0)) fun v0 =>
 W.ret (IntKind.i64.wrap (64 - v0))
def g_math_bits_Div64 (a0 : Int) (a1 : Int) (a2 : Int) : W (Int × Int) :=
 W.ite (a2 == 0) (W.need (False) <|
 W.need (False) <|
 W.fail)
 (W.ite (decide (a2 ≤ a0)) (W.need (False) <|
 W.need (False) <|
 W.fail)
 (W.ite (a0 == 0) (W.need (a2 ≠ 0) <|
 W.need (a2 ≠ 0) <|
 W.ret (IntKind.u64.wrap (a1.tdiv a2), a1.tmod a2))
 (W.bind (g_math_bits_LeadingZeros64 (a2)) fun v0 =>
 W.need (0 ≤ IntKind.u64.wrap v0) <|
 W.need (0 ≤ IntKind.u64.wrap v0) <|
 W.need (0 ≤ IntKind.u64.wrap (64 - IntKind.u64.wrap v0)) <|
 W.need (0 ≤ IntKind.u64.wrap v0) <|
 W.need ((IntKind.u64.wrap (a2 * 2 ^ min (IntKind.u64.wrap v0).toNat 64)).fdiv 4294967296 ≠ 0) <|
 W.bind (W.loop (σ := Int × Int) (ε := Int × Int) (fun v1 =>
 W.ite (decide (4294967296 ≤ v1.fst) || decide (IntKind.u64.wrap (IntKind.u64.wrap (4294967296 * v1.snd) + (IntKind.u64.wrap (a1 * 2 ^ min (IntKind.u64.wrap v0).toNat 64)).fdiv 4294967296) < IntKind.u64.wrap (v1.fst * ibits BinOp.and IntKind.u64 (IntKind.u64.wrap (a2 * 2 ^ min (IntKind.u64.wrap v0).toNat 64)) 4294967295))) (W.ite (decide (4294967296 ≤ IntKind.u64.wrap (v1.snd + (IntKind.u64.wrap (a2 * 2 ^ min (IntKind.u64.wrap v0).toNat 64)).fdiv 4294967296))) (W.ret (Sum.inr (IntKind.u64.wrap (v1.fst - 1), IntKind.u64.wrap (v1.snd + (IntKind.u64.wrap (a2 * 2 ^ min (IntKind.u64.wrap v0).toNat 64)).fdiv 4294967296))))
 (W.ret (Sum.inl (IntKind.u64.wrap (v1.fst - 1), IntKind.u64.wrap (v1.snd + (IntKind.u64.wrap (a2 * 2 ^ min (IntKind.u64.wrap v0).toNat 64)).fdiv 4294967296)))))
 (W.ret (Sum.inr (v1.fst, v1.snd)))) (IntKind.u64.wrap ((ibits BinOp.or IntKind.u64 (IntKind.u64.wrap (a0 * 2 ^ min (IntKind.u64.wrap v0).toNat 64)) (a1.fdiv (2 ^ min (IntKind.u64.wrap (64 - IntKind.u64.wrap v0)).toNat 64))).tdiv ((IntKind.u64.wrap (a2 * 2 ^ min (IntKind.u64.wrap v0).toNat 64)).fdiv 4294967296)), IntKind.u64.wrap (ibits BinOp.or IntKind.u64 (IntKind.u64.wrap (a0 * 2 ^ min (IntKind.u64.wrap v0).toNat 64)) (a1.fdiv (2 ^ min (IntKind.u64.wrap (64 - IntKind.u64.wrap v0)).toNat 64)) - IntKind.u64.wrap (IntKind.u64.wrap ((ibits BinOp.or IntKind.u64 (IntKind.u64.wrap (a0 * 2 ^ min (IntKind.u64.wrap v0).toNat 64)) (a1.fdiv (2 ^ min (IntKind.u64.wrap (64 - IntKind.u64.wrap v0)).toNat 64))).tdiv ((IntKind.u64.wrap (a2 * 2 ^ min (IntKind.u64.wrap v0).toNat 64)).fdiv 4294967296)) * (IntKind.u64.wrap (a2 * 2 ^ min (IntKind.u64.wrap v0).toNat 64)).fdiv 4294967296))))
 (fun v2 =>
 W.need ((IntKind.u64.wrap (a2 * 2 ^ min (IntKind.u64.wrap v0).toNat 64)).fdiv 4294967296 ≠ 0) <|
 W.bind (W.loop (σ := Int × Int) (ε := Int) (fun v3 =>
 W.ite (decide (4294967296 ≤ v3.snd) || decide (IntKind.u64.wrap (IntKind.u64.wrap (4294967296 * v3.fst) + ibits BinOp.and IntKind.u64 (IntKind.u64.wrap (a1 * 2 ^ min (IntKind.u64.wrap v0).toNat 64)) 4294967295) < IntKind.u64.wrap (v3.snd * ibits BinOp.and IntKind.u64 (IntKind.u64.wrap (a2 * 2 ^ min (IntKind.u64.wrap v0).toNat 64)) 4294967295))) (W.ite (decide (4294967296 ≤ IntKind.u64.wrap (v3.fst + (IntKind.u64.wrap (a2 * 2 ^ min (IntKind.u64.wrap v0).toNat 64)).fdiv 4294967296))) (W.ret (Sum.inr (IntKind.u64.wrap (v3.snd - 1))))
 (W.ret (Sum.inl (IntKind.u64.wrap (v3.fst + (IntKind.u64.wrap (a2 * 2 ^ min (IntKind.u64.wrap v0).toNat 64)).fdiv 4294967296), IntKind.u64.wrap (v3.snd - 1)))))
 (W.ret (Sum.inr v3.snd))) (IntKind.u64.wrap (IntKind.u64.wrap (IntKind.u64.wrap (IntKind.u64.wrap (ibits BinOp.or IntKind.u64 (IntKind.u64.wrap (a0 * 2 ^ min (IntKind.u64.wrap v0).toNat 64)) (a1.fdiv (2 ^ min (IntKind.u64.wrap (64 - IntKind.u64.wrap v0)).toNat 64)) * 4294967296) + (IntKind.u64.wrap (a1 * 2 ^ min (IntKind.u64.wrap v0).toNat 64)).fdiv 4294967296) - IntKind.u64.wrap (v2.fst * IntKind.u64.wrap (a2 * 2 ^ min (IntKind.u64.wrap v0).toNat 64))) - IntKind.u64.wrap (IntKind.u64.wrap ((IntKind.u64.wrap (IntKind.u64.wrap (IntKind.u64.wrap (ibits BinOp.or IntKind.u64 (IntKind.u64.wrap (a0 * 2 ^ min (IntKind.u64.wrap v0).toNat 64)) (a1.fdiv (2 ^ min (IntKind.u64.wrap (64 - IntKind.u64.wrap v0)).toNat 64)) * 4294967296) + (IntKind.u64.wrap (a1 * 2 ^ min (IntKind.u64.wrap v0).toNat 64)).fdiv 4294967296) - IntKind.u64.wrap (v2.fst * IntKind.u64.wrap (a2 * 2 ^ min (IntKind.u64.wrap v0).toNat 64)))).tdiv ((IntKind.u64.wrap (a2 * 2 ^ min (IntKind.u64.wrap v0).toNat 64)).fdiv 4294967296)) * (IntKind.u64.wrap (a2 * 2 ^ min (IntKind.u64.wrap v0).toNat 64)).fdiv 4294967296)), IntKind.u64.wrap ((IntKind.u64.wrap (IntKind.u64.wrap (IntKind.u64.wrap (ibits BinOp.or IntKind.u64 (IntKind.u64.wrap (a0 * 2 ^ min (IntKind.u64.wrap v0).toNat 64)) (a1.fdiv (2 ^ min (IntKind.u64.wrap (64 - IntKind.u64.wrap v0)).toNat 64)) * 4294967296) + (IntKind.u64.wrap (a1 * 2 ^ min (IntKind.u64.wrap v0).toNat 64)).fdiv 4294967296) - IntKind.u64.wrap (v2.fst * IntKind.u64.wrap (a2 * 2 ^ min (IntKind.u64.wrap v0).toNat 64)))).tdiv ((IntKind.u64.wrap (a2 * 2 ^ min (IntKind.u64.wrap v0).toNat 64)).fdiv 4294967296))))
 (fun v4 =>
 W.need (0 ≤ IntKind.u64.wrap v0) <|
 W.ret (IntKind.u64.wrap (IntKind.u64.wrap (v2.fst * 4294967296) + v4), (IntKind.u64.wrap (IntKind.u64.wrap (IntKind.u64.wrap (IntKind.u64.wrap (IntKind.u64.wrap (IntKind.u64.wrap (ibits BinOp.or IntKind.u64 (IntKind.u64.wrap (a0 * 2 ^ min (IntKind.u64.wrap v0).toNat 64)) (a1.fdiv (2 ^ min (IntKind.u64.wrap (64 - IntKind.u64.wrap v0)).toNat 64)) * 4294967296) + (IntKind.u64.wrap (a1 * 2 ^ min (IntKind.u64.wrap v0).toNat 64)).fdiv 4294967296) - IntKind.u64.wrap (v2.fst * IntKind.u64.wrap (a2 * 2 ^ min (IntKind.u64.wrap v0).toNat 64))) * 4294967296) + ibits BinOp.and IntKind.u64 (IntKind.u64.wrap (a1 * 2 ^ min (IntKind.u64.wrap v0).toNat 64)) 4294967295) - IntKind.u64.wrap (v4 * IntKind.u64.wrap (a2 * 2 ^ min (IntKind.u64.wrap v0).toNat 64)))).fdiv (2 ^ min (IntKind.u64.wrap v0).toNat 64)))))))
def g_fixq_Mean (a0 : Int) (a1 : Int) : W (Int × Int) :=
 W.ite (decide (a1 < 1)) (W.ret (0, 2))
 (W.bind (g_fixq_magnitude (a0)) fun v0 =>
 W.bind (g_math_bits_Mul64 (v0.fst) (2)) fun v1 =>
 W.bind (g_math_bits_Add64 (v1.snd) (IntKind.u64.wrap a1) (0)) fun v2 =>
 W.need (IntKind.u64.wrap a1 ≠ 0) <|
 W.bind (g_math_bits_Div64 ((IntKind.u64.wrap (v1.fst + v2.snd)).tmod (IntKind.u64.wrap a1)) (v2.fst) (IntKind.u64.wrap a1)) fun v3 =>
 W.ite (decide (IntKind.u64.wrap a1 ≤ IntKind.u64.wrap (v1.fst + v2.snd))) (W.bind (g_fixq_signed (v0.fst) (v0.snd)) fun v4 =>
 W.ret (v4, 0))
 (W.bind (g_fixq_signed (IntKind.u64.wrap (v3.fst.tdiv 2)) (v0.snd)) fun v5 =>
 W.ret (v5, 0)))
def g_num_Fits_int8_ (a0 : Int) : W (Bool) :=
 W.ret (IntKind.i64.wrap (IntKind.i8.wrap a0) == a0)
def g_num_Fits_int16_ (a0 : Int) : W (Bool) :=
 W.ret (IntKind.i64.wrap (IntKind.i16.wrap a0) == a0)
def g_num_Sat_int16_ (a0 : Int) : W (Int) :=
 W.bind (g_num_Fits_int16_ (a0)) fun v0 =>
 W.ite (v0) (W.ret (IntKind.i16.wrap a0))
 (W.ite (decide (a0 < 0)) (W.ret (-32768))
 (W.ret 32767))
def g_num_Clamp (a0 : Int) (a1 : Int) (a2 : Int) : W (Int) :=
 W.ite (decide (a2 < a0)) (W.ret a2)
 (W.ite (decide (a0 < a1)) (W.ret a1)
 (W.ret a0))
def g_fixq_Finish (a0 : Int) (a1 : Int) (a2 : Int) (a3 : Int) : W (Int × Int) :=
 W.bind (α := Bool) (W.ite (decide (a2 < -128) || decide (127 < a3) || decide (a3 < a2)) (W.ret true)
 (W.bind (g_num_Fits_int8_ (a1)) fun v0 =>
 W.ret !v0))
 fun v1 =>
 W.ite (v1) (W.ret (0, 85))
 (W.bind (g_num_Sat_int16_ (a0)) fun v2 =>
 W.bind (g_num_Clamp (IntKind.i64.wrap (IntKind.i64.wrap v2 + a1)) (a2) (a3)) fun v3 =>
 W.ret (v3, 0))
def g_plain_home (a0 : Int) (a1 : Int) (a2 : Int) (a3 : Int) (a4 : Int) (a5 : Int) (a6 : Int) (a7 : Int) (a8 : Int) (a9 : Int) (a10 : Int) (a11 : Int) (a12 : Bool) (a13 : Rws) (a14 : Bool) (a15 : Rws) (a16 : Int) (a17 : Int) (a18 : Int) (a19 : Int) (a20 : Int) (a21 : Int) (a22 : Int) (a23 : Int) (a24 : Int) : W (Int) :=
 W.bind (g_fixq_Finish (a24) (a20) (a22) (a23)) fun v0 =>
 W.ret (IntKind.i8.wrap v0.fst)
def g_plain_reduce (a0 : Int) (a1 : Int) (a2 : Int) (a3 : Int) (a4 : Int) (a5 : Bool) (a6 : Rws) (a7 : Int) (a8 : Int) (a9 : Bool) (a10 : Rws) : W (Bool × Rws) :=
 W.need (0 ≤ IntKind.i64.wrap (a8 - 1) ∧ IntKind.i64.wrap (a8 - 1) < (↑(List.length a6) : Int)) <|
 W.bind (g_terms_Length (a0) (a1) (a2) (a3) (a4) (a5) (a6) (a7) (a8)) fun v0 =>
 W.bind (g_plain_sums (a0) (a1) (a2) (a3) (a4) (a5) (a6) (a7) (a8) (a9) (a10)) fun v1 =>
 W.need (0 ≤ (↑(List.length v1.snd) : Int) ∧ (↑(List.length v1.snd) : Int) ≤ (↑(List.length v1.snd) : Int) ∧ (↑(List.length v1.snd) : Int) * 1 ≤ 140737488355328 ∧ (↑(List.length v1.snd) : Int) ≤ 9223372036854775807) <|
 W.bind (W.loop (σ := Int × Rws) (ε := Rws) (fun v2 =>
 W.ite (decide (v2.fst < (↑(List.length v1.snd) : Int))) (W.need (0 ≤ v2.fst ∧ v2.fst < (↑(List.length v1.snd) : Int)) <|
 W.bind (g_fixq_Apply (ri v1.snd v2.fst.toNat 0) (ri a6 (IntKind.i64.wrap (a8 - 1)).toNat 14) (ri a6 (IntKind.i64.wrap (a8 - 1)).toNat 15)) fun v3 =>
 W.bind (α := Int) (W.ite (ri a6 (IntKind.i64.wrap (a8 - 1)).toNat 0 == 4) (W.bind (g_fixq_Mean (ri v1.snd v2.fst.toNat 0) (v0.fst)) fun v4 =>
 W.ret v4.fst)
 (W.ret v3.fst))
 fun v5 =>
 W.bind (g_plain_home (ri a6 (IntKind.i64.wrap (a8 - 1)).toNat 0) (ri a6 (IntKind.i64.wrap (a8 - 1)).toNat 1) (ri a6 (IntKind.i64.wrap (a8 - 1)).toNat 2) (ri a6 (IntKind.i64.wrap (a8 - 1)).toNat 3) (ri a6 (IntKind.i64.wrap (a8 - 1)).toNat 4) (ri a6 (IntKind.i64.wrap (a8 - 1)).toNat 5) (ri a6 (IntKind.i64.wrap (a8 - 1)).toNat 6) (ri a6 (IntKind.i64.wrap (a8 - 1)).toNat 7) (ri a6 (IntKind.i64.wrap (a8 - 1)).toNat 8) (ri a6 (IntKind.i64.wrap (a8 - 1)).toNat 9) (ri a6 (IntKind.i64.wrap (a8 - 1)).toNat 10) (ri a6 (IntKind.i64.wrap (a8 - 1)).toNat 11) (rn a6 (IntKind.i64.wrap (a8 - 1)).toNat 12) (rr a6 (IntKind.i64.wrap (a8 - 1)).toNat 12) (rn a6 (IntKind.i64.wrap (a8 - 1)).toNat 13) (rr a6 (IntKind.i64.wrap (a8 - 1)).toNat 13) (ri a6 (IntKind.i64.wrap (a8 - 1)).toNat 14) (ri a6 (IntKind.i64.wrap (a8 - 1)).toNat 15) (ri a6 (IntKind.i64.wrap (a8 - 1)).toNat 16) (ri a6 (IntKind.i64.wrap (a8 - 1)).toNat 17) (ri a6 (IntKind.i64.wrap (a8 - 1)).toNat 18) (ri a6 (IntKind.i64.wrap (a8 - 1)).toNat 19) (ri a6 (IntKind.i64.wrap (a8 - 1)).toNat 20) (ri a6 (IntKind.i64.wrap (a8 - 1)).toNat 21) (v5)) fun v6 =>
 W.need (0 ≤ v2.fst ∧ v2.fst < (↑(List.length v2.snd) : Int)) <|
 W.ret (Sum.inl (IntKind.i64.wrap (v2.fst + 1), List.set v2.snd v2.fst.toNat [I v6])))
 (W.ret (Sum.inr v2.snd))) (0, List.replicate (↑(List.length v1.snd) : Int).toNat [I 0]))
 (fun v7 =>
 W.ret (false, v7))
def g_window_Positions (a0 : Int) (a1 : Int) (a2 : Int) (a3 : Int) (a4 : Int) (a5 : Int) (a6 : Int) (a7 : Int) (a8 : Int) (a9 : Int) (a10 : Int) : W (Int × Int) :=
 W.bind (g_window_Out (a0) (a1) (a2) (a3) (a4) (a5) (a6) (a7) (a8) (a9) (a10)) fun v0 =>
 W.ret (v0.fst, v0.snd.fst)
def g_plain_greatest (a0 : Int) (a1 : Int) (a2 : Int) (a3 : Int) (a4 : Int) (a5 : Int) (a6 : Int) (a7 : Int) (a8 : Int) (a9 : Int) (a10 : Int) (a11 : Int) (a12 : Bool) (a13 : Rws) (a14 : Bool) (a15 : Rws) (a16 : Int) (a17 : Int) (a18 : Int) (a19 : Int) (a20 : Int) (a21 : Int) (a22 : Int) (a23 : Int) (a24 : Int) (a25 : Int) (a26 : Int) (a27 : Bool) (a28 : Rws) : W (Bool × Rws) :=
 W.bind (g_window_Positions (a24) (a25) (a26) (a4) (a5) (a6) (a7) (a8) (a9) (a10) (a11)) fun v0 =>
 W.need (posOK (v0.fst) (v0.snd)) <|
 W.bind (W.each (τ := Int × Int) (σ := Int × Bool × Rws) (fun v2 v1 =>
 W.bind (W.loop (σ := Int × Bool × Rws) (ε := Int × Bool × Bool × Rws) (fun v3 =>
 W.ite (decide (v3.fst < a26)) (W.bind (α := Int) (W.bind (g_window_Taps (a24) (a25) (a26) (a4) (a5) (a6) (a7) (a8) (a9) (a10) (a11) (v1.fst)) (W.sum (fun v4 =>
 W.bind (W.each (τ := Unit) (σ := Unit) (fun v6 v5 =>
 W.fail) ([] : List (W Unit)) ())
 fun v7 =>
 W.ret (-128)) (fun v8 =>
 W.need (0 ≤ g_window_Taps_2_n (v8.fst) (v8.snd.fst) (v8.snd.snd.fst) (v8.snd.snd.snd.fst) (v8.snd.snd.snd.snd.fst) (v8.snd.snd.snd.snd.snd.fst) (v8.snd.snd.snd.snd.snd.snd.fst) (v8.snd.snd.snd.snd.snd.snd.snd.fst) (v8.snd.snd.snd.snd.snd.snd.snd.snd.fst) (v8.snd.snd.snd.snd.snd.snd.snd.snd.snd.fst) (v8.snd.snd.snd.snd.snd.snd.snd.snd.snd.snd.fst) (v8.snd.snd.snd.snd.snd.snd.snd.snd.snd.snd.snd.fst) (v8.snd.snd.snd.snd.snd.snd.snd.snd.snd.snd.snd.snd) ∧ g_window_Taps_2_n (v8.fst) (v8.snd.fst) (v8.snd.snd.fst) (v8.snd.snd.snd.fst) (v8.snd.snd.snd.snd.fst) (v8.snd.snd.snd.snd.snd.fst) (v8.snd.snd.snd.snd.snd.snd.fst) (v8.snd.snd.snd.snd.snd.snd.snd.fst) (v8.snd.snd.snd.snd.snd.snd.snd.snd.fst) (v8.snd.snd.snd.snd.snd.snd.snd.snd.snd.fst) (v8.snd.snd.snd.snd.snd.snd.snd.snd.snd.snd.fst) (v8.snd.snd.snd.snd.snd.snd.snd.snd.snd.snd.snd.fst) (v8.snd.snd.snd.snd.snd.snd.snd.snd.snd.snd.snd.snd) ≤ 9223372036854775807) <|
 W.bind (W.each (τ := Int × Int) (σ := Int) (fun v10 v9 =>
 W.need (0 ≤ IntKind.i64.wrap (IntKind.i64.wrap (v10.snd * a26) + v3.fst) ∧ IntKind.i64.wrap (IntKind.i64.wrap (v10.snd * a26) + v3.fst) < (↑(List.length a28) : Int)) <|
 W.ret (imin true v9 (ri a28 (IntKind.i64.wrap (IntKind.i64.wrap (v10.snd * a26) + v3.fst)).toNat 0))) ((List.range (g_window_Taps_2_n (v8.fst) (v8.snd.fst) (v8.snd.snd.fst) (v8.snd.snd.snd.fst) (v8.snd.snd.snd.snd.fst) (v8.snd.snd.snd.snd.snd.fst) (v8.snd.snd.snd.snd.snd.snd.fst) (v8.snd.snd.snd.snd.snd.snd.snd.fst) (v8.snd.snd.snd.snd.snd.snd.snd.snd.fst) (v8.snd.snd.snd.snd.snd.snd.snd.snd.snd.fst) (v8.snd.snd.snd.snd.snd.snd.snd.snd.snd.snd.fst) (v8.snd.snd.snd.snd.snd.snd.snd.snd.snd.snd.snd.fst) (v8.snd.snd.snd.snd.snd.snd.snd.snd.snd.snd.snd.snd)).toNat).map fun (k : Nat) => g_window_Taps_2 (k : Int) (v8.fst) (v8.snd.fst) (v8.snd.snd.fst) (v8.snd.snd.snd.fst) (v8.snd.snd.snd.snd.fst) (v8.snd.snd.snd.snd.snd.fst) (v8.snd.snd.snd.snd.snd.snd.fst) (v8.snd.snd.snd.snd.snd.snd.snd.fst) (v8.snd.snd.snd.snd.snd.snd.snd.snd.fst) (v8.snd.snd.snd.snd.snd.snd.snd.snd.snd.fst) (v8.snd.snd.snd.snd.snd.snd.snd.snd.snd.snd.fst) (v8.snd.snd.snd.snd.snd.snd.snd.snd.snd.snd.snd.fst) (v8.snd.snd.snd.snd.snd.snd.snd.snd.snd.snd.snd.snd)) (-128))
 fun v11 =>
 W.ret v11)))
 fun v12 =>
 W.bind (g_plain_home (a0) (a1) (a2) (a3) (a4) (a5) (a6) (a7) (a8) (a9) (a10) (a11) (a12) (a13) (a14) (a15) (a16) (a17) (a18) (a19) (a20) (a21) (a22) (a23) (IntKind.i64.wrap v12)) fun v13 =>
 W.need ((List.length v3.snd.snd + 1) * 1 ≤ 140737488355328) <|
 W.ret (Sum.inl (IntKind.i64.wrap (v3.fst + 1), v3.snd.fst && false, v3.snd.snd ++ [[I v13]])))
 (W.ret (Sum.inr (v3.fst, decide (v3.fst < a26), v3.snd.fst, v3.snd.snd)))) (0, v1.snd.fst, v1.snd.snd))
 (fun v14 =>
 W.ret (IntKind.i64.wrap (v1.fst + 1), v14.snd.snd.fst, v14.snd.snd.snd))) (posW (v0.fst) (v0.snd)) (0, true, []))
 fun v15 =>
 W.ret (v15.snd.fst, v15.snd.snd)
def g_plain_each (a0 : Int) (a1 : Int) (a2 : Int) (a3 : Int) (a4 : Int) (a5 : Int) (a6 : Int) (a7 : Int) (a8 : Int) (a9 : Int) (a10 : Int) (a11 : Int) (a12 : Bool) (a13 : Rws) (a14 : Bool) (a15 : Rws) (a16 : Int) (a17 : Int) (a18 : Int) (a19 : Int) (a20 : Int) (a21 : Int) (a22 : Int) (a23 : Int) (a24 : Bool) (a25 : Rws) (a26 : Bool) (a27 : Rws) : W (Bool × Rws) :=
 W.need (0 ≤ (↑(List.length a25) : Int) ∧ (↑(List.length a25) : Int) ≤ (↑(List.length a25) : Int) ∧ (↑(List.length a25) : Int) * 1 ≤ 140737488355328 ∧ (↑(List.length a25) : Int) ≤ 9223372036854775807) <|
 W.bind (W.loop (σ := Int × Rws) (ε := Rws) (fun v0 =>
 W.ite (decide (v0.fst < (↑(List.length a25) : Int))) (W.need (0 ≤ v0.fst ∧ v0.fst < (↑(List.length a25) : Int)) <|
 W.bind (α := Int) (W.ite (a0 != 8) (W.bind (g_fixq_Apply (IntKind.i64.wrap (ri a25 v0.fst.toNat 0)) (a16) (a17)) fun v1 =>
 W.ret v1.fst)
 (W.ret (IntKind.i64.wrap (ri a25 v0.fst.toNat 0))))
 fun v2 =>
 W.bind (α := Int) (W.ite (a0 == 6) (W.need (0 ≤ v0.fst ∧ v0.fst < (↑(List.length a27) : Int)) <|
 W.bind (g_fixq_Apply (IntKind.i64.wrap (ri a27 v0.fst.toNat 0)) (a18) (a19)) fun v3 =>
 W.ret (IntKind.i64.wrap (v2 + v3.fst)))
 (W.ret v2))
 fun v4 =>
 W.bind (g_plain_home (a0) (a1) (a2) (a3) (a4) (a5) (a6) (a7) (a8) (a9) (a10) (a11) (a12) (a13) (a14) (a15) (a16) (a17) (a18) (a19) (a20) (a21) (a22) (a23) (v4)) fun v5 =>
 W.need (0 ≤ v0.fst ∧ v0.fst < (↑(List.length v0.snd) : Int)) <|
 W.ret (Sum.inl (IntKind.i64.wrap (v0.fst + 1), List.set v0.snd v0.fst.toNat [I v5])))
 (W.ret (Sum.inr v0.snd))) (0, List.replicate (↑(List.length a25) : Int).toNat [I 0]))
 (fun v6 =>
 W.ret (false, v6))
def g_plain_Tensors (a0 : Int) (a1 : Int) (a2 : Int) (a3 : Int) (a4 : Int) (a5 : Bool) (a6 : Rws) (a7 : Int) (a8 : Bool) (a9 : Rws) : W (Int × Int × Int × Bool × Rws) :=
 W.bind (g_model_Shapes (a0) (a1) (a2) (a3) (a4) (a5) (a6) (a7)) fun v0 =>
 W.ite (v0.fst != 0) (W.ret (v0.fst, v0.snd.fst, v0.snd.snd.fst, true, []))
 (W.bind (α := Bool) (W.ite ((↑(List.length a9) : Int) != IntKind.i64.wrap (IntKind.i64.wrap (a0 * a1) * a2)) (W.ret true)
 (W.bind (g_slices_ContainsFunc___int8_int8___plain_Tensors_1 (a8) (a9) (a0) (a1) (a2) (a3) (a4) (a5) (a6) (a7)) fun v1 =>
 W.ret v1))
 fun v2 =>
 W.ite (v2) (W.ret (220, 0, 0, true, []))
 (W.bind (g_slices_Clone___int8_int8_ (a8) (a9)) fun v3 =>
 W.bind (W.loop (σ := Int × Rws) (ε := Rws) (fun v4 =>
 W.ite (decide (v4.fst < (↑(List.length a6) : Int))) (W.need (0 ≤ v4.fst ∧ v4.fst < (↑(List.length a6) : Int)) <|
 W.bind (α := Bool × Bool × Bool × Rws) (W.bind (g_model_Reduces (ri a6 v4.fst.toNat 0)) fun v5 =>
 W.ite (v5) (W.need (0 ≤ ri a6 v4.fst.toNat 1 ∧ ri a6 v4.fst.toNat 1 < (↑(List.length v4.snd) : Int)) <|
 W.bind (g_plain_reduce (a0) (a1) (a2) (a3) (a4) (a5) (a6) (a7) (IntKind.i64.wrap (v4.fst + 1)) (rn v4.snd (ri a6 v4.fst.toNat 1).toNat 0) (rr v4.snd (ri a6 v4.fst.toNat 1).toNat 0)) fun v6 =>
 W.ret (v5, v5, v6.fst, v6.snd))
 (W.ite (ri a6 v4.fst.toNat 0 == 5) (W.need (0 ≤ ri a6 v4.fst.toNat 1 ∧ ri a6 v4.fst.toNat 1 < (↑(List.length v0.snd.snd.snd.snd) : Int)) <|
 W.need (0 ≤ ri a6 v4.fst.toNat 1 ∧ ri a6 v4.fst.toNat 1 < (↑(List.length v4.snd) : Int)) <|
 W.bind (g_plain_greatest (ri a6 v4.fst.toNat 0) (ri a6 v4.fst.toNat 1) (ri a6 v4.fst.toNat 2) (ri a6 v4.fst.toNat 3) (ri a6 v4.fst.toNat 4) (ri a6 v4.fst.toNat 5) (ri a6 v4.fst.toNat 6) (ri a6 v4.fst.toNat 7) (ri a6 v4.fst.toNat 8) (ri a6 v4.fst.toNat 9) (ri a6 v4.fst.toNat 10) (ri a6 v4.fst.toNat 11) (rn a6 v4.fst.toNat 12) (rr a6 v4.fst.toNat 12) (rn a6 v4.fst.toNat 13) (rr a6 v4.fst.toNat 13) (ri a6 v4.fst.toNat 14) (ri a6 v4.fst.toNat 15) (ri a6 v4.fst.toNat 16) (ri a6 v4.fst.toNat 17) (ri a6 v4.fst.toNat 18) (ri a6 v4.fst.toNat 19) (ri a6 v4.fst.toNat 20) (ri a6 v4.fst.toNat 21) (ri v0.snd.snd.snd.snd (ri a6 v4.fst.toNat 1).toNat 0) (ri v0.snd.snd.snd.snd (ri a6 v4.fst.toNat 1).toNat 1) (ri v0.snd.snd.snd.snd (ri a6 v4.fst.toNat 1).toNat 2) (rn v4.snd (ri a6 v4.fst.toNat 1).toNat 0) (rr v4.snd (ri a6 v4.fst.toNat 1).toNat 0)) fun v7 =>
 W.ret (v5, v5, v7.fst, v7.snd))
 (W.need (0 ≤ ri a6 v4.fst.toNat 1 ∧ ri a6 v4.fst.toNat 1 < (↑(List.length v4.snd) : Int)) <|
 W.need (0 ≤ ri a6 v4.fst.toNat 2 ∧ ri a6 v4.fst.toNat 2 < (↑(List.length v4.snd) : Int)) <|
 W.bind (g_plain_each (ri a6 v4.fst.toNat 0) (ri a6 v4.fst.toNat 1) (ri a6 v4.fst.toNat 2) (ri a6 v4.fst.toNat 3) (ri a6 v4.fst.toNat 4) (ri a6 v4.fst.toNat 5) (ri a6 v4.fst.toNat 6) (ri a6 v4.fst.toNat 7) (ri a6 v4.fst.toNat 8) (ri a6 v4.fst.toNat 9) (ri a6 v4.fst.toNat 10) (ri a6 v4.fst.toNat 11) (rn a6 v4.fst.toNat 12) (rr a6 v4.fst.toNat 12) (rn a6 v4.fst.toNat 13) (rr a6 v4.fst.toNat 13) (ri a6 v4.fst.toNat 14) (ri a6 v4.fst.toNat 15) (ri a6 v4.fst.toNat 16) (ri a6 v4.fst.toNat 17) (ri a6 v4.fst.toNat 18) (ri a6 v4.fst.toNat 19) (ri a6 v4.fst.toNat 20) (ri a6 v4.fst.toNat 21) (rn v4.snd (ri a6 v4.fst.toNat 1).toNat 0) (rr v4.snd (ri a6 v4.fst.toNat 1).toNat 0) (rn v4.snd (ri a6 v4.fst.toNat 2).toNat 0) (rr v4.snd (ri a6 v4.fst.toNat 2).toNat 0)) fun v8 =>
 W.ret (v5, v5, v8.fst, v8.snd))))
 fun v9 =>
 W.need ((List.length v4.snd + 1) * 24 ≤ 140737488355328) <|
 W.ret (Sum.inl (IntKind.i64.wrap (v4.fst + 1), v4.snd ++ [[AV.sl v9.snd.snd.fst 0 v9.snd.snd.snd]])))
 (W.ret (Sum.inr v4.snd))) (0, [[AV.sl v3.fst 0 v3.snd]]))
 (fun v10 =>
 W.ret (0, 0, 0, false, v10))))
def g_plain_Eval (a0 : Int) (a1 : Int) (a2 : Int) (a3 : Int) (a4 : Int) (a5 : Bool) (a6 : Rws) (a7 : Int) (a8 : Bool) (a9 : Rws) : W (Bool × Rws × Int × Int × Int) :=
 W.bind (g_plain_Tensors (a0) (a1) (a2) (a3) (a4) (a5) (a6) (a7) (a8) (a9)) fun v0 =>
 W.ite (v0.fst != 0) (W.ret (true, [], v0.fst, v0.snd.fst, v0.snd.snd.fst))
 (W.need (0 ≤ a7 ∧ a7 < (↑(List.length v0.snd.snd.snd.snd) : Int)) <|
 W.ret (rn v0.snd.snd.snd.snd a7.toNat 0, rr v0.snd.snd.snd.snd a7.toNat 0, v0.fst, v0.snd.fst, v0.snd.snd.fst))
def g_ref11_Same (a0 : Bool) (a1 : Rws) (a2 : Bool) (a3 : Rws) : W (Bool) :=
 W.ite ((↑(List.length a1) : Int) != (↑(List.length a3) : Int)) (W.ret false)
 (W.bind (W.loop (σ := Int) (ε := (Unit) ⊕ (Unit)) (fun v0 =>
 W.ite (decide (v0 < (↑(List.length a1) : Int))) (W.need (0 ≤ v0 ∧ v0 < (↑(List.length a1) : Int)) <|
 W.need (0 ≤ v0 ∧ v0 < (↑(List.length a3) : Int)) <|
 W.ite (ri a1 v0.toNat 0 != ri a3 v0.toNat 0) (W.ret (Sum.inr (Sum.inl ())))
 (W.ret (Sum.inl (IntKind.i64.wrap (v0 + 1)))))
 (W.ret (Sum.inr (Sum.inr ())))) 0)
 (W.sum (fun v1 =>
 W.ret false) (fun v2 =>
 W.ret true)))
def g_law24_TrimSame (a0 : Int) (a1 : Int) (a2 : Int) (a3 : Int) (a4 : Int) (a5 : Bool) (a6 : Rws) (a7 : Int) (a8 : Bool) (a9 : Rws) : W (Bool) :=
 W.bind (g_law24_fixed ) fun v0 =>
 W.ite (!v0) (W.ret false)
 (W.bind (g_trim_Trim (a0) (a1) (a2) (a3) (a4) (a5) (a6) (a7)) fun v1 =>
 W.bind (g_plain_Eval (a0) (a1) (a2) (a3) (a4) (a5) (a6) (a7) (a8) (a9)) fun v2 =>
 W.ite (v1.snd.snd.snd.snd.snd.snd.fst != 0) (W.ret (v2.snd.snd.fst == v1.snd.snd.snd.snd.snd.snd.fst && (v2.snd.snd.snd.fst == v1.snd.snd.snd.snd.snd.snd.snd.fst && v2.snd.snd.snd.snd == v1.snd.snd.snd.snd.snd.snd.snd.snd.fst)))
 (W.bind (g_plain_Eval (v1.fst) (v1.snd.fst) (v1.snd.snd.fst) (v1.snd.snd.snd.fst) (v1.snd.snd.snd.snd.fst) (v1.snd.snd.snd.snd.snd.snd.snd.snd.snd.fst) (v1.snd.snd.snd.snd.snd.snd.snd.snd.snd.snd) (v1.snd.snd.snd.snd.snd.fst) (a8) (a9)) fun v3 =>
 W.bind (α := Bool) (W.ite (v2.snd.snd.fst == v3.snd.snd.fst && (v2.snd.snd.snd.fst == v3.snd.snd.snd.fst && v2.snd.snd.snd.snd == v3.snd.snd.snd.snd)) (W.bind (g_ref11_Same (v2.fst) (v2.snd.fst) (v3.fst) (v3.snd.fst)) fun v4 =>
 W.ret v4)
 (W.ret false))
 fun v5 =>
 W.ret v5))
end Go.Proofs.Ytalchibbmkhkpaa.VX
