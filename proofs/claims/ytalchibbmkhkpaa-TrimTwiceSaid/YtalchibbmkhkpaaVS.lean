/- The pure forms of the functions. -/
import Derived.Test.YtalchibbmkhkpaaVX2
import Derived.Test.YtalchibbmkhkpaaProg
import Derived.KernelRfl
set_option linter.unusedVariables false
set_option linter.unusedSimpArgs false
namespace Go.Proofs.Ytalchibbmkhkpaa.V24
open Go.Proofs Go.Proofs.Ytalchibbmkhkpaa.VX
def tab : Tab :=
 [(1, ⟨.other, 1, 8, [.nilf], none, false⟩),
  (2, ⟨.int .i64, 1, 8, [.int .i64 0], some [.int .i64], true⟩),
  (3, ⟨.int .i64, 1, 8, [.int .i64 0], some [.int .i64], true⟩),
  (4, ⟨.bool, 1, 1, [.kb false], some [.bool], true⟩),
  (5, ⟨.int .u8, 1, 1, [.int .u8 0], some [.int .u8], true⟩),
  (6, ⟨.int .u8, 1, 1, [.int .u8 0], some [.int .u8], true⟩),
  (7, ⟨.struct [(2, 0, 1, false), (3, 1, 1, false), (4, 2, 1, false), (6, 3, 1, false)], 4, 24, [.int .i64 0, .int .i64 0, .kb false, .int .u8 0], some [.int .i64, .int .i64, .bool, .int .u8], true⟩),
  (8, ⟨.struct [(2, 0, 1, false), (3, 1, 1, false), (4, 2, 1, false), (6, 3, 1, false)], 4, 24, [.int .i64 0, .int .i64 0, .kb false, .int .u8 0], some [.int .i64, .int .i64, .bool, .int .u8], true⟩),
  (9, ⟨.str, 1, 16, [.str .empty], some [.str], true⟩),
  (10, ⟨.str, 1, 16, [.str .empty], some [.str], true⟩),
  (11, ⟨.str, 1, 16, [.str .empty], some [.str], true⟩),
  (12, ⟨.int .u64, 1, 8, [.int .u64 0], some [.int .u64], true⟩),
  (13, ⟨.struct [(9, 0, 1, false), (12, 1, 1, false)], 2, 24, [.str .empty, .int .u64 0], some [.str, .int .u64], false⟩),
  (14, ⟨.struct [(9, 0, 1, false), (12, 1, 1, false)], 2, 24, [.str .empty, .int .u64 0], some [.str, .int .u64], false⟩),
  (15, ⟨.ptr 200, 1, 8, [.nilp], none, false⟩),
  (16, ⟨.ptr 203, 1, 8, [.nilp], none, false⟩),
  (17, ⟨.ptr 213, 1, 8, [.nilp], none, false⟩),
  (18, ⟨.struct [(17, 0, 1, false)], 1, 8, [.nilp], none, false⟩),
  (19, ⟨.struct [(17, 0, 1, false)], 1, 8, [.nilp], none, false⟩),
  (20, ⟨.other, 1, 16, [.nili], none, false⟩),
  (21, ⟨.int .i32, 1, 4, [.int .i32 0], some [.int .i32], true⟩),
  (22, ⟨.struct [(3, 0, 1, false), (3, 1, 1, false), (3, 2, 1, false)], 3, 24, [.int .i64 0, .int .i64 0, .int .i64 0], some [.int .i64, .int .i64, .int .i64], true⟩),
  (23, ⟨.struct [(3, 0, 1, false), (3, 1, 1, false), (3, 2, 1, false)], 3, 24, [.int .i64 0, .int .i64 0, .int .i64 0], some [.int .i64, .int .i64, .int .i64], true⟩),
  (24, ⟨.slice 47, 1, 24, [.nils], some [.sl 47], false⟩),
  (25, ⟨.struct [(23, 0, 3, false), (3, 3, 1, false), (3, 4, 1, false), (24, 5, 1, false), (3, 6, 1, false)], 7, 72, [.int .i64 0, .int .i64 0, .int .i64 0, .int .i64 0, .int .i64 0, .nils, .int .i64 0], some [.int .i64, .int .i64, .int .i64, .int .i64, .int .i64, .sl 47, .int .i64], false⟩),
  (26, ⟨.struct [(23, 0, 3, false), (3, 3, 1, false), (3, 4, 1, false), (24, 5, 1, false), (3, 6, 1, false)], 7, 72, [.int .i64 0, .int .i64 0, .int .i64 0, .int .i64 0, .int .i64 0, .nils, .int .i64 0], some [.int .i64, .int .i64, .int .i64, .int .i64, .int .i64, .sl 47, .int .i64], false⟩),
  (27, ⟨.other, 1, 8, [.nilf], none, false⟩),
  (28, ⟨.slice 4, 1, 24, [.nils], some [.sl 4], false⟩),
  (29, ⟨.int .i64, 1, 8, [.int .i64 0], some [.int .i64], true⟩),
  (30, ⟨.struct [(29, 0, 1, false), (3, 1, 1, false), (3, 2, 1, false)], 3, 24, [.int .i64 0, .int .i64 0, .int .i64 0], some [.int .i64, .int .i64, .int .i64], true⟩),
  (31, ⟨.struct [(29, 0, 1, false), (3, 1, 1, false), (3, 2, 1, false)], 3, 24, [.int .i64 0, .int .i64 0, .int .i64 0], some [.int .i64, .int .i64, .int .i64], true⟩),
  (33, ⟨.other, 1, 8, [.nilf], none, false⟩),
  (35, ⟨.other, 1, 8, [.nilf], none, false⟩),
  (36, ⟨.other, 1, 8, [.nilf], none, false⟩),
  (37, ⟨.other, 1, 8, [.nilf], none, false⟩),
  (38, ⟨.other, 1, 8, [.nilf], none, false⟩),
  (39, ⟨.other, 1, 8, [.nilf], none, false⟩),
  (40, ⟨.struct [(3, 0, 1, false), (3, 1, 1, false), (3, 2, 1, false), (3, 3, 1, false), (3, 4, 1, false), (3, 5, 1, false), (3, 6, 1, false), (3, 7, 1, false)], 8, 64, [.int .i64 0, .int .i64 0, .int .i64 0, .int .i64 0, .int .i64 0, .int .i64 0, .int .i64 0, .int .i64 0], some [.int .i64, .int .i64, .int .i64, .int .i64, .int .i64, .int .i64, .int .i64, .int .i64], true⟩),
  (41, ⟨.struct [(3, 0, 1, false), (3, 1, 1, false), (3, 2, 1, false), (3, 3, 1, false), (3, 4, 1, false), (3, 5, 1, false), (3, 6, 1, false), (3, 7, 1, false)], 8, 64, [.int .i64 0, .int .i64 0, .int .i64 0, .int .i64 0, .int .i64 0, .int .i64 0, .int .i64 0, .int .i64 0], some [.int .i64, .int .i64, .int .i64, .int .i64, .int .i64, .int .i64, .int .i64, .int .i64], true⟩),
  (42, ⟨.slice 48, 1, 24, [.nils], some [.sl 48], false⟩),
  (43, ⟨.slice 21, 1, 24, [.nils], some [.sl 21], false⟩),
  (44, ⟨.struct [(3, 0, 1, false), (3, 1, 1, false)], 2, 16, [.int .i64 0, .int .i64 0], some [.int .i64, .int .i64], true⟩),
  (45, ⟨.struct [(3, 0, 1, false), (3, 1, 1, false)], 2, 16, [.int .i64 0, .int .i64 0], some [.int .i64, .int .i64], true⟩),
  (46, ⟨.struct [(3, 0, 1, false), (3, 1, 1, false), (3, 2, 1, false), (3, 3, 1, false), (41, 4, 8, false), (42, 12, 1, false), (43, 13, 1, false), (45, 14, 2, false), (45, 16, 2, false), (3, 18, 1, false), (3, 19, 1, false), (3, 20, 1, false), (3, 21, 1, false)], 22, 208, [.int .i64 0, .int .i64 0, .int .i64 0, .int .i64 0, .int .i64 0, .int .i64 0, .int .i64 0, .int .i64 0, .int .i64 0, .int .i64 0, .int .i64 0, .int .i64 0, .nils, .nils, .int .i64 0, .int .i64 0, .int .i64 0, .int .i64 0, .int .i64 0, .int .i64 0, .int .i64 0, .int .i64 0], some [.int .i64, .int .i64, .int .i64, .int .i64, .int .i64, .int .i64, .int .i64, .int .i64, .int .i64, .int .i64, .int .i64, .int .i64, .sl 48, .sl 21, .int .i64, .int .i64, .int .i64, .int .i64, .int .i64, .int .i64, .int .i64, .int .i64], false⟩),
  (47, ⟨.struct [(3, 0, 1, false), (3, 1, 1, false), (3, 2, 1, false), (3, 3, 1, false), (41, 4, 8, false), (42, 12, 1, false), (43, 13, 1, false), (45, 14, 2, false), (45, 16, 2, false), (3, 18, 1, false), (3, 19, 1, false), (3, 20, 1, false), (3, 21, 1, false)], 22, 208, [.int .i64 0, .int .i64 0, .int .i64 0, .int .i64 0, .int .i64 0, .int .i64 0, .int .i64 0, .int .i64 0, .int .i64 0, .int .i64 0, .int .i64 0, .int .i64 0, .nils, .nils, .int .i64 0, .int .i64 0, .int .i64 0, .int .i64 0, .int .i64 0, .int .i64 0, .int .i64 0, .int .i64 0], some [.int .i64, .int .i64, .int .i64, .int .i64, .int .i64, .int .i64, .int .i64, .int .i64, .int .i64, .int .i64, .int .i64, .int .i64, .sl 48, .sl 21, .int .i64, .int .i64, .int .i64, .int .i64, .int .i64, .int .i64, .int .i64, .int .i64], false⟩),
  (48, ⟨.int .i16, 1, 2, [.int .i16 0], some [.int .i16], true⟩),
  (49, ⟨.other, 1, 8, [.nilf], none, false⟩),
  (51, ⟨.other, 1, 8, [.nilf], none, false⟩),
  (52, ⟨.slice 81, 1, 24, [.nils], some [.sl 81], false⟩),
  (54, ⟨.other, 1, 8, [.nilf], none, false⟩),
  (55, ⟨.other, 1, 8, [.nilf], none, false⟩),
  (56, ⟨.other, 1, 8, [.nilf], none, false⟩),
  (57, ⟨.slice 64, 1, 24, [.nils], some [.sl 64], false⟩),
  (58, ⟨.slice 91, 1, 24, [.nils], some [.sl 91], false⟩),
  (59, ⟨.struct [(57, 0, 1, false), (58, 1, 1, false)], 2, 48, [.nils, .nils], some [.sl 64, .sl 91], false⟩),
  (60, ⟨.struct [(57, 0, 1, false), (58, 1, 1, false)], 2, 48, [.nils, .nils], some [.sl 64, .sl 91], false⟩),
  (62, ⟨.other, 1, 8, [.nilf], none, false⟩),
  (63, ⟨.struct [(2, 0, 1, false), (2, 1, 1, false)], 2, 16, [.int .i64 0, .int .i64 0], some [.int .i64, .int .i64], true⟩),
  (64, ⟨.struct [(2, 0, 1, false), (2, 1, 1, false)], 2, 16, [.int .i64 0, .int .i64 0], some [.int .i64, .int .i64], true⟩),
  (65, ⟨.slice 3, 1, 24, [.nils], some [.sl 3], false⟩),
  (66, ⟨.slice 69, 1, 24, [.nils], some [.sl 69], false⟩),
  (67, ⟨.other, 1, 8, [.nilf], none, false⟩),
  (68, ⟨.ptr 47, 1, 8, [.nilp], none, false⟩),
  (69, ⟨.ptr 3, 1, 8, [.nilp], none, false⟩),
  (70, ⟨.other, 1, 8, [.nilf], none, false⟩),
  (71, ⟨.other, 1, 8, [.nilf], none, false⟩),
  (72, ⟨.other, 1, 8, [.nilf], none, false⟩),
  (73, ⟨.other, 1, 8, [.nilf], none, false⟩),
  (74, ⟨.other, 1, 8, [.nilf], none, false⟩),
  (75, ⟨.slice 23, 1, 24, [.nils], some [.sl 23], false⟩),
  (77, ⟨.other, 1, 8, [.nilf], none, false⟩),
  (78, ⟨.slice 52, 1, 24, [.nils], some [.sl 52], false⟩),
  (80, ⟨.other, 1, 8, [.nilf], none, false⟩),
  (81, ⟨.int .i8, 1, 1, [.int .i8 0], some [.int .i8], true⟩),
  (83, ⟨.other, 1, 8, [.nilf], none, false⟩),
  (84, ⟨.other, 1, 8, [.nilf], none, false⟩),
  (86, ⟨.other, 1, 8, [.nilf], none, false⟩),
  (87, ⟨.struct [(3, 0, 1, false), (3, 1, 1, false), (64, 2, 2, false), (64, 4, 2, false)], 6, 48, [.int .i64 0, .int .i64 0, .int .i64 0, .int .i64 0, .int .i64 0, .int .i64 0], some [.int .i64, .int .i64, .int .i64, .int .i64, .int .i64, .int .i64], true⟩),
  (88, ⟨.struct [(3, 0, 1, false), (3, 1, 1, false), (64, 2, 2, false), (64, 4, 2, false)], 6, 48, [.int .i64 0, .int .i64 0, .int .i64 0, .int .i64 0, .int .i64 0, .int .i64 0], some [.int .i64, .int .i64, .int .i64, .int .i64, .int .i64, .int .i64], true⟩),
  (90, ⟨.other, 1, 8, [.nilf], none, false⟩),
  (91, ⟨.slice 88, 1, 24, [.nils], some [.sl 88], false⟩),
  (92, ⟨.other, 1, 8, [.nilf], none, false⟩),
  (93, ⟨.other, 1, 8, [.nilf], none, false⟩),
  (95, ⟨.other, 1, 8, [.nilf], none, false⟩),
  (97, ⟨.other, 1, 8, [.nilf], none, false⟩),
  (98, ⟨.other, 1, 8, [.nilf], none, false⟩),
  (99, ⟨.other, 1, 8, [.nilf], none, false⟩),
  (100, ⟨.other, 1, 8, [.nilf], none, false⟩),
  (101, ⟨.other, 1, 8, [.nilf], none, false⟩),
  (102, ⟨.other, 1, 8, [.nilf], none, false⟩),
  (103, ⟨.other, 1, 8, [.nilf], none, false⟩),
  (105, ⟨.other, 1, 8, [.nilf], none, false⟩),
  (106, ⟨.struct [(47, 0, 22, false), (23, 22, 3, false), (23, 25, 3, false), (3, 28, 1, false)], 29, 264, [.int .i64 0, .int .i64 0, .int .i64 0, .int .i64 0, .int .i64 0, .int .i64 0, .int .i64 0, .int .i64 0, .int .i64 0, .int .i64 0, .int .i64 0, .int .i64 0, .nils, .nils, .int .i64 0, .int .i64 0, .int .i64 0, .int .i64 0, .int .i64 0, .int .i64 0, .int .i64 0, .int .i64 0, .int .i64 0, .int .i64 0, .int .i64 0, .int .i64 0, .int .i64 0, .int .i64 0, .int .i64 0], some [.int .i64, .int .i64, .int .i64, .int .i64, .int .i64, .int .i64, .int .i64, .int .i64, .int .i64, .int .i64, .int .i64, .int .i64, .sl 48, .sl 21, .int .i64, .int .i64, .int .i64, .int .i64, .int .i64, .int .i64, .int .i64, .int .i64, .int .i64, .int .i64, .int .i64, .int .i64, .int .i64, .int .i64, .int .i64], false⟩),
  (107, ⟨.struct [(47, 0, 22, false), (23, 22, 3, false), (23, 25, 3, false), (3, 28, 1, false)], 29, 264, [.int .i64 0, .int .i64 0, .int .i64 0, .int .i64 0, .int .i64 0, .int .i64 0, .int .i64 0, .int .i64 0, .int .i64 0, .int .i64 0, .int .i64 0, .int .i64 0, .nils, .nils, .int .i64 0, .int .i64 0, .int .i64 0, .int .i64 0, .int .i64 0, .int .i64 0, .int .i64 0, .int .i64 0, .int .i64 0, .int .i64 0, .int .i64 0, .int .i64 0, .int .i64 0, .int .i64 0, .int .i64 0], some [.int .i64, .int .i64, .int .i64, .int .i64, .int .i64, .int .i64, .int .i64, .int .i64, .int .i64, .int .i64, .int .i64, .int .i64, .sl 48, .sl 21, .int .i64, .int .i64, .int .i64, .int .i64, .int .i64, .int .i64, .int .i64, .int .i64, .int .i64, .int .i64, .int .i64, .int .i64, .int .i64, .int .i64, .int .i64], false⟩),
  (109, ⟨.other, 1, 8, [.nilf], none, false⟩),
  (110, ⟨.other, 1, 8, [.nilf], none, false⟩),
  (111, ⟨.other, 1, 8, [.nilf], none, false⟩),
  (112, ⟨.other, 1, 8, [.nilf], none, false⟩),
  (113, ⟨.other, 1, 8, [.nilf], none, false⟩),
  (114, ⟨.other, 1, 8, [.nilf], none, false⟩),
  (115, ⟨.other, 1, 8, [.nilf], none, false⟩),
  (117, ⟨.other, 1, 8, [.nilf], none, false⟩),
  (118, ⟨.other, 1, 8, [.nilf], none, false⟩),
  (119, ⟨.arr 3 3, 3, 24, [.int .i64 0, .int .i64 0, .int .i64 0], some [.int .i64, .int .i64, .int .i64], false⟩),
  (120, ⟨.struct [(4, 0, 1, false), (4, 1, 1, false), (4, 2, 1, false), (4, 3, 1, false), (4, 4, 1, false), (4, 5, 1, false), (4, 6, 1, false), (4, 7, 1, false)], 8, 8, [.kb false, .kb false, .kb false, .kb false, .kb false, .kb false, .kb false, .kb false], some [.bool, .bool, .bool, .bool, .bool, .bool, .bool, .bool], true⟩),
  (121, ⟨.struct [(4, 0, 1, false), (4, 1, 1, false), (4, 2, 1, false), (4, 3, 1, false), (4, 4, 1, false), (4, 5, 1, false), (4, 6, 1, false), (4, 7, 1, false)], 8, 8, [.kb false, .kb false, .kb false, .kb false, .kb false, .kb false, .kb false, .kb false], some [.bool, .bool, .bool, .bool, .bool, .bool, .bool, .bool], true⟩),
  (123, ⟨.other, 1, 8, [.nilf], none, false⟩),
  (124, ⟨.other, 1, 8, [.nilf], none, false⟩),
  (125, ⟨.other, 1, 8, [.nilf], none, false⟩),
  (127, ⟨.other, 1, 8, [.nilf], none, false⟩),
  (128, ⟨.other, 1, 8, [.nilf], none, false⟩),
  (129, ⟨.other, 1, 8, [.nilf], none, false⟩),
  (130, ⟨.slice 2, 1, 24, [.nils], some [.sl 2], false⟩),
  (131, ⟨.other, 1, 8, [.nilf], none, false⟩),
  (133, ⟨.other, 1, 8, [.nilf], none, false⟩),
  (134, ⟨.other, 1, 8, [.nilf], none, false⟩),
  (135, ⟨.other, 1, 8, [.nilf], none, false⟩),
  (136, ⟨.other, 1, 8, [.nilf], none, false⟩),
  (137, ⟨.other, 1, 8, [.nilf], none, false⟩),
  (138, ⟨.other, 1, 8, [.nilf], none, false⟩),
  (139, ⟨.other, 1, 8, [.nilf], none, false⟩),
  (140, ⟨.other, 1, 8, [.nilf], none, false⟩),
  (141, ⟨.other, 1, 8, [.nilf], none, false⟩),
  (142, ⟨.other, 1, 8, [.nilf], none, false⟩),
  (143, ⟨.struct [(64, 0, 2, false), (4, 2, 1, false)], 3, 24, [.int .i64 0, .int .i64 0, .kb false], some [.int .i64, .int .i64, .bool], true⟩),
  (144, ⟨.struct [(64, 0, 2, false), (4, 2, 1, false)], 3, 24, [.int .i64 0, .int .i64 0, .kb false], some [.int .i64, .int .i64, .bool], true⟩),
  (145, ⟨.other, 1, 8, [.nilf], none, false⟩),
  (146, ⟨.other, 1, 8, [.nilf], none, false⟩),
  (147, ⟨.other, 1, 8, [.nilf], none, false⟩),
  (148, ⟨.other, 1, 8, [.nilf], none, false⟩),
  (149, ⟨.other, 1, 8, [.nilf], none, false⟩),
  (150, ⟨.other, 1, 8, [.nilf], none, false⟩),
  (151, ⟨.other, 1, 8, [.nilf], none, false⟩),
  (152, ⟨.other, 1, 8, [.nilf], none, false⟩),
  (153, ⟨.other, 1, 8, [.nilf], none, false⟩),
  (154, ⟨.other, 1, 8, [.nilf], none, false⟩),
  (156, ⟨.other, 1, 8, [.nilf], none, false⟩),
  (157, ⟨.other, 1, 8, [.nilf], none, false⟩),
  (159, ⟨.other, 1, 8, [.nilf], none, false⟩),
  (160, ⟨.slice 178, 1, 24, [.nils], some [.sl 178], false⟩),
  (162, ⟨.other, 1, 8, [.nilf], none, false⟩),
  (163, ⟨.other, 1, 8, [.nilf], none, false⟩),
  (164, ⟨.int .u64, 1, 8, [.int .u64 0], some [.int .u64], true⟩),
  (166, ⟨.other, 1, 8, [.nilf], none, false⟩),
  (167, ⟨.other, 1, 8, [.nilf], none, false⟩),
  (169, ⟨.other, 1, 8, [.nilf], none, false⟩),
  (170, ⟨.other, 1, 8, [.nilf], none, false⟩),
  (171, ⟨.other, 1, 8, [.nilf], none, false⟩),
  (172, ⟨.other, 1, 8, [.nilf], none, false⟩),
  (173, ⟨.other, 1, 8, [.nilf], none, false⟩),
  (174, ⟨.other, 1, 8, [.nilf], none, false⟩),
  (175, ⟨.other, 1, 8, [.nilf], none, false⟩),
  (176, ⟨.other, 1, 8, [.nilf], none, false⟩),
  (177, ⟨.struct [(3, 0, 1, false), (3, 1, 1, false)], 2, 16, [.int .i64 0, .int .i64 0], some [.int .i64, .int .i64], true⟩),
  (178, ⟨.struct [(3, 0, 1, false), (3, 1, 1, false)], 2, 16, [.int .i64 0, .int .i64 0], some [.int .i64, .int .i64], true⟩),
  (179, ⟨.other, 1, 8, [.nilf], none, false⟩),
  (180, ⟨.ptr 144, 1, 8, [.nilp], none, false⟩),
  (181, ⟨.other, 1, 8, [.nilf], none, false⟩),
  (183, ⟨.other, 1, 8, [.nilf], none, false⟩),
  (184, ⟨.other, 1, 8, [.nilf], none, false⟩),
  (185, ⟨.other, 1, 8, [.nilf], none, false⟩),
  (186, ⟨.int .u64, 1, 8, [.int .u64 0], some [.int .u64], true⟩),
  (187, ⟨.other, 1, 16, [.nili], none, false⟩),
  (188, ⟨.other, 1, 16, [.nili], none, false⟩),
  (189, ⟨.other, 1, 8, [.nilf], none, false⟩),
  (190, ⟨.other, 1, 8, [.nilf], none, false⟩),
  (191, ⟨.other, 1, 8, [.nilf], none, false⟩),
  (192, ⟨.other, 1, 8, [.nilf], none, false⟩),
  (193, ⟨.other, 1, 8, [.nilf], none, false⟩),
  (194, ⟨.other, 1, 8, [.nilf], none, false⟩),
  (195, ⟨.other, 1, 8, [.nilf], none, false⟩),
  (196, ⟨.other, 1, 8, [.nilf], none, false⟩),
  (197, ⟨.ptr 215, 1, 8, [.nilp], none, false⟩),
  (198, ⟨.other, 1, 8, [.nilf], none, false⟩),
  (199, ⟨.struct [(17, 0, 1, false), (17, 1, 1, false), (17, 2, 1, false), (9, 3, 1, false)], 4, 40, [.nilp, .nilp, .nilp, .str .empty], none, false⟩),
  (200, ⟨.struct [(17, 0, 1, false), (17, 1, 1, false), (17, 2, 1, false), (9, 3, 1, false)], 4, 40, [.nilp, .nilp, .nilp, .str .empty], none, false⟩),
  (201, ⟨.arr 0 16, 0, 0, [], none, false⟩),
  (202, ⟨.struct [(201, 0, 0, true)], 0, 0, [], none, false⟩),
  (203, ⟨.struct [(201, 0, 0, true)], 0, 0, [], none, false⟩),
  (204, ⟨.other, 1, 8, [.nilf], none, false⟩),
  (205, ⟨.int .u32, 1, 4, [.int .u32 0], some [.int .u32], true⟩),
  (206, ⟨.int .u8, 1, 1, [.int .u8 0], some [.int .u8], true⟩),
  (207, ⟨.int .u8, 1, 1, [.int .u8 0], some [.int .u8], true⟩),
  (208, ⟨.other, 1, 8, [.nilf], none, false⟩),
  (209, ⟨.ptr 5, 1, 8, [.nilp], none, false⟩),
  (210, ⟨.int .i32, 1, 4, [.int .i32 0], some [.int .i32], true⟩),
  (211, ⟨.int .i32, 1, 4, [.int .i32 0], some [.int .i32], true⟩),
  (212, ⟨.struct [(12, 0, 1, false), (12, 1, 1, false), (205, 2, 1, false), (206, 3, 1, false), (5, 4, 1, false), (5, 5, 1, false), (207, 6, 1, false), (208, 7, 1, false), (209, 8, 1, false), (210, 9, 1, false), (211, 10, 1, false)], 11, 48, [.int .u64 0, .int .u64 0, .int .u32 0, .int .u8 0, .int .u8 0, .int .u8 0, .int .u8 0, .nilf, .nilp, .int .i32 0, .int .i32 0], none, false⟩),
  (213, ⟨.struct [(12, 0, 1, false), (12, 1, 1, false), (205, 2, 1, false), (206, 3, 1, false), (5, 4, 1, false), (5, 5, 1, false), (207, 6, 1, false), (208, 7, 1, false), (209, 8, 1, false), (210, 9, 1, false), (211, 10, 1, false)], 11, 48, [.int .u64 0, .int .u64 0, .int .u32 0, .int .u8 0, .int .u8 0, .int .u8 0, .int .u8 0, .nilf, .nilp, .int .i32 0, .int .i32 0], none, false⟩),
  (214, ⟨.struct [(9, 0, 1, false)], 1, 16, [.str .empty], some [.str], true⟩),
  (215, ⟨.struct [(9, 0, 1, false)], 1, 16, [.str .empty], some [.str], true⟩),
  (216, ⟨.other, 1, 8, [.nilp], none, false⟩)]
def mv : FuncId → List Nat := mvOf []
def bodyOf (f : Option Func) : Code := match f with | some x => (match x.body with | some c => c | none => .skip) | none => .skip
theorem tab_ok : tabOK Try.prog tab = true := by kernel_rfl
theorem mixed_ : Try.prog.follows .mixedOrders = true := by kernel_rfl
end Go.Proofs.Ytalchibbmkhkpaa.V24

set_option linter.unusedVariables false
namespace Go.Proofs.Ytalchibbmkhkpaa.VX
/-- spillway/spillwayref08.Copy -/
def g_ref08_Copy (a0 : Int) (a1 : Int) (a2 : Int) (a3 : Int) (a4 : Int) (a5 : Bool) (a6 : Rws) (a7 : Int) : W (Int × Int × Int × Int × Int × Int × Bool × Rws) :=
 W.bind (W.loop (σ := Int × Bool × Rws) (ε := Bool × Rws) (fun v0 =>
 W.ite (decide (v0.fst < (↑(List.length a6) : Int))) (W.need (0 ≤ v0.fst ∧ v0.fst < (↑(List.length a6) : Int)) <|
 W.need ((0 + List.length (rr a6 v0.fst.toNat 12)) * 2 ≤ 140737488355328) <|
 W.need ((0 + List.length (rr a6 v0.fst.toNat 13)) * 4 ≤ 140737488355328) <|
 W.need ((List.length v0.snd.snd + 1) * 208 ≤ 140737488355328) <|
 W.ret (Sum.inl (IntKind.i64.wrap (v0.fst + 1), v0.snd.fst && false, v0.snd.snd ++ [[I (ri a6 v0.fst.toNat 0), I (ri a6 v0.fst.toNat 1), I (ri a6 v0.fst.toNat 2), I (ri a6 v0.fst.toNat 3), I (ri a6 v0.fst.toNat 4), I (ri a6 v0.fst.toNat 5), I (ri a6 v0.fst.toNat 6), I (ri a6 v0.fst.toNat 7), I (ri a6 v0.fst.toNat 8), I (ri a6 v0.fst.toNat 9), I (ri a6 v0.fst.toNat 10), I (ri a6 v0.fst.toNat 11), AV.sl false 0 (rr a6 v0.fst.toNat 12), AV.sl false 0 (rr a6 v0.fst.toNat 13), I (ri a6 v0.fst.toNat 14), I (ri a6 v0.fst.toNat 15), I (ri a6 v0.fst.toNat 16), I (ri a6 v0.fst.toNat 17), I (ri a6 v0.fst.toNat 18), I (ri a6 v0.fst.toNat 19), I (ri a6 v0.fst.toNat 20), I (ri a6 v0.fst.toNat 21)]])))
 (W.ret (Sum.inr (v0.snd.fst, v0.snd.snd)))) (0, true, []))
 (fun v1 =>
 W.ret (a0, a1, a2, a3, a4, a7, v1.fst, v1.snd))

/-- spillway/shape.Elems -/
def g_shape_Elems (a0 : Int) (a1 : Int) (a2 : Int) : W (Int × Int) :=
 W.ite (decide (a0 < 1) || decide (1024 < a0)) (W.ret (0, 50))
 (W.ite (decide (a1 < 1) || decide (1024 < a1)) (W.ret (0, 50))
 (W.ite (decide (a2 < 1) || decide (1024 < a2)) (W.ret (0, 50))
 (W.ite (decide (16384 < IntKind.i64.wrap (IntKind.i64.wrap (IntKind.i64.wrap (1 * a0) * a1) * a2))) (W.ret (0, 50))
 (W.ret (IntKind.i64.wrap (IntKind.i64.wrap (IntKind.i64.wrap (1 * a0) * a1) * a2), 0)))))

/-- spillway/model.byte8 -/
def g_model_byte8 (a0 : Bool) (a1 : Rws) : W (Bool) :=
 W.bind (W.loop (σ := Int) (ε := (Unit) ⊕ (Unit)) (fun v0 =>
 W.ite (decide (v0 < (↑(List.length a1) : Int))) (W.need (0 ≤ v0 ∧ v0 < (↑(List.length a1) : Int)) <|
 W.ite (decide (ri a1 v0.toNat 0 < -128) || decide (127 < ri a1 v0.toNat 0)) (W.ret (Sum.inr (Sum.inl ())))
 (W.ret (Sum.inl (IntKind.i64.wrap (v0 + 1)))))
 (W.ret (Sum.inr (Sum.inr ())))) 0)
 (W.sum (fun v1 =>
 W.ret false) (fun v2 =>
 W.ret true))

/-- spillway/model.of -/
def g_model_of (a0 : Int) : W (Bool × Bool × Bool × Bool × Bool × Bool × Bool × Bool × Bool) :=
 W.ite (a0 == 1) (W.ret (false, true, false, false, true, true, false, false, true))
 (W.ite (a0 == 2) (W.ret (false, true, true, true, true, true, false, true, true))
 (W.ite (a0 == 3) (W.ret (false, false, true, true, true, true, false, true, true))
 (W.bind (α := Bool) (W.ite (a0 == 4) (W.ret (a0 == 4))
 (W.ret (a0 == 5)))
 fun v0 =>
 W.ite (v0) (W.ret (false, false, true, false, false, false, false, false, true))
 (W.ite (a0 == 6) (W.ret (true, false, false, false, false, true, true, false, true))
 (W.ite (a0 == 7) (W.ret (false, false, false, false, false, true, false, false, true))
 (W.ite (a0 == 8) (W.ret (false, false, false, false, false, false, false, false, true))
 (W.ret (false, false, false, false, false, false, false, false, false))))))))

/-- spillway/model.bare -/
def g_model_bare (a0 : Int) (a1 : Int) (a2 : Int) (a3 : Int) (a4 : Int) (a5 : Int) (a6 : Int) (a7 : Int) (a8 : Int) (a9 : Int) (a10 : Int) (a11 : Int) (a12 : Bool) (a13 : Rws) (a14 : Bool) (a15 : Rws) (a16 : Int) (a17 : Int) (a18 : Int) (a19 : Int) (a20 : Int) (a21 : Int) (a22 : Int) (a23 : Int) (a24 : Bool) (a25 : Bool) (a26 : Bool) (a27 : Bool) (a28 : Bool) (a29 : Bool) (a30 : Bool) (a31 : Bool) : W (Int × Int × Int × Int × Int × Int × Int × Int × Int × Int × Int × Int × Bool × Rws × Bool × Rws × Int × Int × Int × Int × Int × Int × Int × Int) :=
 W.bind (α := Int) (W.ite (a24) (W.ret 0)
 (W.ret a2))
 fun v0 =>
 W.bind (α := Int) (W.ite (a25) (W.ret 0)
 (W.ret a3))
 fun v1 =>
 W.bind (α := Int × Int × Int × Int) (W.ite (a26) (W.ret (0, 0, 0, 0))
 (W.ret (a4, a5, a6, a7)))
 fun v2 =>
 W.bind (α := Int × Int × Int × Int × Int × Int × Int × Int) (W.ite (a27) (W.ret (0, 0, 0, 0, 0, 0, 0, 0))
 (W.ret (v2.fst, v2.snd.fst, v2.snd.snd.fst, v2.snd.snd.snd, a8, a9, a10, a11)))
 fun v3 =>
 W.bind (α := Bool × Rws × Bool × Rws) (W.ite (a28) (W.ret (true, [], true, []))
 (W.ret (a12, a13, a14, a15)))
 fun v4 =>
 W.bind (α := Int × Int × Int) (W.ite (a29) (W.ret (0, 0, 0))
 (W.ret (a16, a17, a20)))
 fun v5 =>
 W.bind (α := Int × Int) (W.ite (a30) (W.ret (0, 0))
 (W.ret (a18, a19)))
 fun v6 =>
 W.bind (α := Int) (W.ite (a31) (W.ret 0)
 (W.ret a21))
 fun v7 =>
 W.ret (0, 0, v0, v1, v3.fst, v3.snd.fst, v3.snd.snd.fst, v3.snd.snd.snd.fst, v3.snd.snd.snd.snd.fst, v3.snd.snd.snd.snd.snd.fst, v3.snd.snd.snd.snd.snd.snd.fst, v3.snd.snd.snd.snd.snd.snd.snd, v4.fst, v4.snd.fst, v4.snd.snd.fst, v4.snd.snd.snd, v5.fst, v5.snd.fst, v6.fst, v6.snd, v5.snd.snd, v7, 0, 0)

/-- spillway/model.empty -/
def g_model_empty (a0 : Int) (a1 : Int) (a2 : Int) (a3 : Int) (a4 : Int) (a5 : Int) (a6 : Int) (a7 : Int) (a8 : Int) (a9 : Int) (a10 : Int) (a11 : Int) (a12 : Bool) (a13 : Rws) (a14 : Bool) (a15 : Rws) (a16 : Int) (a17 : Int) (a18 : Int) (a19 : Int) (a20 : Int) (a21 : Int) (a22 : Int) (a23 : Int) : W (Bool) :=
 W.ret (a0 == 0 && a1 == 0 && a2 == 0 && a3 == 0 && (a4 == 0 && (a5 == 0 && (a6 == 0 && (a7 == 0 && (a8 == 0 && (a9 == 0 && (a10 == 0 && a11 == 0))))))) && (↑(List.length a13) : Int) == 0 && (↑(List.length a15) : Int) == 0 && (a16 == 0 && a17 == 0) && (a18 == 0 && a19 == 0) && a20 == 0 && a21 == 0 && a22 == 0 && a23 == 0)

/-- spillway/window.within -/
def g_window_within (a0 : Int) (a1 : Int) (a2 : Int) : W (Bool) :=
 W.ret (decide (a1 ≤ a0) && decide (a0 ≤ a2))

/-- spillway/window.side -/
def g_window_side (a0 : Int) (a1 : Int) (a2 : Int) (a3 : Int) : W (Bool) :=
 W.bind (α := Bool) (W.bind (g_window_within (a0) (1) (32)) fun v0 =>
 W.ite (v0) (W.bind (g_window_within (a1) (1) (32)) fun v1 =>
 W.ite (v1) (W.bind (g_window_within (a2) (0) (IntKind.i64.wrap (a0 - 1))) fun v2 =>
 W.ite (v2) (W.bind (g_window_within (a3) (0) (IntKind.i64.wrap (a0 - 1))) fun v3 =>
 W.ret v3)
 (W.ret false))
 (W.ret false))
 (W.ret false))
 fun v4 =>
 W.ret v4

/-- spillway/window.Valid -/
def g_window_Valid (a0 : Int) (a1 : Int) (a2 : Int) (a3 : Int) (a4 : Int) (a5 : Int) (a6 : Int) (a7 : Int) : W (Bool) :=
 W.bind (α := Bool) (W.bind (g_window_side (a0) (a2) (a4) (a6)) fun v0 =>
 W.ite (v0) (W.bind (g_window_side (a1) (a3) (a5) (a7)) fun v1 =>
 W.ret v1)
 (W.ret false))
 fun v2 =>
 W.ret v2

/-- spillway/window.Out -/
def g_window_Out (a0 : Int) (a1 : Int) (a2 : Int) (a3 : Int) (a4 : Int) (a5 : Int) (a6 : Int) (a7 : Int) (a8 : Int) (a9 : Int) (a10 : Int) : W (Int × Int × Int) :=
 W.bind (g_shape_Elems (a0) (a1) (a2)) fun v0 =>
 W.ite (v0.snd != 0) (W.ret (0, 0, v0.snd))
 (W.bind (g_window_Valid (a3) (a4) (a5) (a6) (a7) (a8) (a9) (a10)) fun v1 =>
 W.ite (!v1) (W.ret (0, 0, 60))
 (W.ite (decide (IntKind.i64.wrap (IntKind.i64.wrap (IntKind.i64.wrap (a0 + a7) + a9) - a3) < 0) || decide (IntKind.i64.wrap (IntKind.i64.wrap (IntKind.i64.wrap (a1 + a8) + a10) - a4) < 0)) (W.ret (0, 0, 60))
 (W.need (a5 ≠ 0) <|
 W.need (a6 ≠ 0) <|
 W.ret (IntKind.i64.wrap (IntKind.i64.wrap ((IntKind.i64.wrap (IntKind.i64.wrap (IntKind.i64.wrap (a0 + a7) + a9) - a3)).tdiv a5) + 1), IntKind.i64.wrap (IntKind.i64.wrap ((IntKind.i64.wrap (IntKind.i64.wrap (IntKind.i64.wrap (a1 + a8) + a10) - a4)).tdiv a6) + 1), 0))))

/-- spillway/model.makes -/
def g_model_makes (a0 : Int) (a1 : Int) (a2 : Int) (a3 : Int) (a4 : Int) (a5 : Int) (a6 : Int) (a7 : Int) (a8 : Int) (a9 : Int) (a10 : Int) (a11 : Int) (a12 : Bool) (a13 : Rws) (a14 : Bool) (a15 : Rws) (a16 : Int) (a17 : Int) (a18 : Int) (a19 : Int) (a20 : Int) (a21 : Int) (a22 : Int) (a23 : Int) (a24 : Int) (a25 : Int) (a26 : Int) : W (Int × Int × Int × Int × Int × Int) :=
 W.bind (g_model_of (a0)) fun v0 =>
 W.bind (α := (Int × Int × Int) ⊕ (Int × Int × Int × Int × Int × Int)) (W.ite (v0.snd.snd.fst) (W.bind (g_window_Out (a24) (a25) (a26) (a4) (a5) (a6) (a7) (a8) (a9) (a10) (a11)) fun v1 =>
 W.ite (v1.snd.snd != 0) (W.ret (Sum.inr (0, 0, 0, 0, 0, v1.snd.snd)))
 (W.ret (Sum.inl (IntKind.i64.wrap (a4 * a5), v1.fst, v1.snd.fst))))
 (W.ret (Sum.inl (1, a24, a25))))
 (W.els fun v2 =>
 W.bind (α := Int × Int × Int × Int × Int) (W.ite (a0 == 1) (W.ret (IntKind.i64.wrap (IntKind.i64.wrap (a24 * a25) * a26), IntKind.i64.wrap (IntKind.i64.wrap (a24 * a25) * a26), 1, 1, a3))
 (W.ite (a0 == 2) (W.ret (IntKind.i64.wrap (v2.fst * a26), IntKind.i64.wrap (v2.fst * a26), v2.snd.fst, v2.snd.snd, a3))
 (W.bind (α := Bool) (W.ite (a0 == 3) (W.ret (a0 == 3))
 (W.ret (a0 == 4)))
 fun v3 =>
 W.ite (v3) (W.ret (v2.fst, v2.fst, v2.snd.fst, v2.snd.snd, a26))
 (W.ret (v2.fst, 0, v2.snd.fst, v2.snd.snd, a26)))))
 fun v4 =>
 W.ret (v4.snd.snd.fst, v4.snd.snd.snd.fst, v4.snd.snd.snd.snd, v4.snd.fst, IntKind.i64.wrap (IntKind.i64.wrap (IntKind.i64.wrap (v4.snd.snd.fst * v4.snd.snd.snd.fst) * v4.snd.snd.snd.snd) * v4.fst), 0))

/-- spillway/fixq.Valid -/
def g_fixq_Valid (a0 : Int) (a1 : Int) : W (Bool) :=
 W.ret (decide (0 < a0) && decide (a0 < 2147483648) && decide (0 ≤ a1) && decide (a1 ≤ 62))

/-- spillway/model.op -/
def g_model_op (a0 : Int) (a1 : Int) (a2 : Int) (a3 : Int) (a4 : Int) (a5 : Int) (a6 : Int) (a7 : Int) (a8 : Int) (a9 : Int) (a10 : Int) (a11 : Int) (a12 : Bool) (a13 : Rws) (a14 : Bool) (a15 : Rws) (a16 : Int) (a17 : Int) (a18 : Int) (a19 : Int) (a20 : Int) (a21 : Int) (a22 : Int) (a23 : Int) (a24 : Bool) (a25 : Rws) : W (Int × Int × Int × Int × Int) :=
 W.bind (g_model_of (a0)) fun v0 =>
 W.ite (!v0.snd.snd.snd.snd.snd.snd.snd.snd) (W.ret (0, 0, 0, 0, 81))
 (W.ite (decide (a1 < 0) || decide ((↑(List.length a25) : Int) ≤ a1) || v0.fst && (decide (a2 < 0) || decide ((↑(List.length a25) : Int) ≤ a2))) (W.ret (0, 0, 0, 0, 82))
 (W.bind (g_model_bare (a0) (a1) (a2) (a3) (a4) (a5) (a6) (a7) (a8) (a9) (a10) (a11) (a12) (a13) (a14) (a15) (a16) (a17) (a18) (a19) (a20) (a21) (a22) (a23) (v0.fst) (v0.snd.fst) (v0.snd.snd.fst) (v0.snd.snd.snd.fst) (v0.snd.snd.snd.snd.fst) (v0.snd.snd.snd.snd.snd.fst) (v0.snd.snd.snd.snd.snd.snd.fst) (v0.snd.snd.snd.snd.snd.snd.snd.fst)) fun v1 =>
 W.bind (g_model_empty (v1.fst) (v1.snd.fst) (v1.snd.snd.fst) (v1.snd.snd.snd.fst) (v1.snd.snd.snd.snd.fst) (v1.snd.snd.snd.snd.snd.fst) (v1.snd.snd.snd.snd.snd.snd.fst) (v1.snd.snd.snd.snd.snd.snd.snd.fst) (v1.snd.snd.snd.snd.snd.snd.snd.snd.fst) (v1.snd.snd.snd.snd.snd.snd.snd.snd.snd.fst) (v1.snd.snd.snd.snd.snd.snd.snd.snd.snd.snd.fst) (v1.snd.snd.snd.snd.snd.snd.snd.snd.snd.snd.snd.fst) (v1.snd.snd.snd.snd.snd.snd.snd.snd.snd.snd.snd.snd.fst) (v1.snd.snd.snd.snd.snd.snd.snd.snd.snd.snd.snd.snd.snd.fst) (v1.snd.snd.snd.snd.snd.snd.snd.snd.snd.snd.snd.snd.snd.snd.fst) (v1.snd.snd.snd.snd.snd.snd.snd.snd.snd.snd.snd.snd.snd.snd.snd.fst) (v1.snd.snd.snd.snd.snd.snd.snd.snd.snd.snd.snd.snd.snd.snd.snd.snd.fst) (v1.snd.snd.snd.snd.snd.snd.snd.snd.snd.snd.snd.snd.snd.snd.snd.snd.snd.fst) (v1.snd.snd.snd.snd.snd.snd.snd.snd.snd.snd.snd.snd.snd.snd.snd.snd.snd.snd.fst) (v1.snd.snd.snd.snd.snd.snd.snd.snd.snd.snd.snd.snd.snd.snd.snd.snd.snd.snd.snd.fst) (v1.snd.snd.snd.snd.snd.snd.snd.snd.snd.snd.snd.snd.snd.snd.snd.snd.snd.snd.snd.snd.fst) (v1.snd.snd.snd.snd.snd.snd.snd.snd.snd.snd.snd.snd.snd.snd.snd.snd.snd.snd.snd.snd.snd.fst) (v1.snd.snd.snd.snd.snd.snd.snd.snd.snd.snd.snd.snd.snd.snd.snd.snd.snd.snd.snd.snd.snd.snd.fst) (v1.snd.snd.snd.snd.snd.snd.snd.snd.snd.snd.snd.snd.snd.snd.snd.snd.snd.snd.snd.snd.snd.snd.snd)) fun v2 =>
 W.ite (!v2) (W.ret (0, 0, 0, 0, 83))
 (W.ite (v0.snd.fst && (decide (a3 < 1) || decide (1024 < a3))) (W.ret (0, 0, 0, 0, 2))
 (W.need (0 ≤ a1 ∧ a1 < (↑(List.length a25) : Int)) <|
 W.bind (g_model_makes (a0) (a1) (a2) (a3) (a4) (a5) (a6) (a7) (a8) (a9) (a10) (a11) (a12) (a13) (a14) (a15) (a16) (a17) (a18) (a19) (a20) (a21) (a22) (a23) (ri a25 a1.toNat 0) (ri a25 a1.toNat 1) (ri a25 a1.toNat 2)) fun v3 =>
 W.ite (v3.snd.snd.snd.snd.snd != 0) (W.ret (0, 0, 0, 0, v3.snd.snd.snd.snd.snd))
 (W.bind (g_shape_Elems (v3.fst) (v3.snd.fst) (v3.snd.snd.fst)) fun v4 =>
 W.need (v0.fst = true ∧ (v4.snd != 0) = false ∧ True → 0 ≤ a2 ∧ a2 < (↑(List.length a25) : Int)) <|
 W.ite (v4.snd != 0 || v0.fst && !(ri a25 a2.toNat 0 == ri a25 a1.toNat 0 && (ri a25 a2.toNat 1 == ri a25 a1.toNat 1 && ri a25 a2.toNat 2 == ri a25 a1.toNat 2))) (W.ret (0, 0, 0, 0, 50))
 (W.bind (α := Int) (W.ite (v0.snd.snd.snd.snd.fst) (W.ret v3.snd.snd.fst)
 (W.ret 0))
 fun v5 =>
 W.ite (decide (512 < v3.snd.snd.snd.fst)) (W.ret (0, 0, 0, 0, 84))
 (W.ite ((↑(List.length a13) : Int) != IntKind.i64.wrap (v5 * v3.snd.snd.snd.fst) || (↑(List.length a15) : Int) != v5) (W.ret (0, 0, 0, 0, 70))
 (W.bind (α := Bool) (W.ite (v0.snd.snd.snd.snd.snd.fst) (W.bind (g_fixq_Valid (a16) (a17)) fun v6 =>
 W.ite (!v6) (W.ret true)
 (W.ite (v0.snd.snd.snd.snd.snd.snd.fst) (W.bind (g_fixq_Valid (a18) (a19)) fun v7 =>
 W.ret !v7)
 (W.ret false)))
 (W.ite (v0.snd.snd.snd.snd.snd.snd.fst) (W.bind (g_fixq_Valid (a18) (a19)) fun v8 =>
 W.ret !v8)
 (W.ret false)))
 fun v9 =>
 W.ite (v9) (W.ret (0, 0, 0, 0, 20))
 (W.bind (g_model_byte8 (false) ([[I a22], [I a23], [I a20], [I a21]])) fun v10 =>
 W.ite (!v10 || decide (a23 < a22)) (W.ret (0, 0, 0, 0, 85))
 (W.ret (v3.fst, v3.snd.fst, v3.snd.snd.fst, v3.snd.snd.snd.snd.fst, 0)))))))))))

/-- spillway/model.whole -/
def g_model_whole (a0 : Int) (a1 : Int) (a2 : Int) (a3 : Int) (a4 : Int) (a5 : Bool) (a6 : Rws) (a7 : Int) : W (Int × Int × Int × Int × Bool × Rws) :=
 W.bind (g_shape_Elems (a0) (a1) (a2)) fun v0 =>
 W.ite (v0.snd != 0) (W.ret (0, v0.snd, 0, 0, true, []))
 (W.bind (g_model_byte8 (false) ([[I a3], [I a4]])) fun v1 =>
 W.ite (!v1 || decide (a4 < a3)) (W.ret (0, 85, 0, 0, true, []))
 (W.ite (decide (64 < (↑(List.length a6) : Int))) (W.ret (0, 80, 0, 0, true, []))
 (W.ite (decide (a7 < 0) || decide ((↑(List.length a6) : Int) < a7)) (W.ret (0, 3, 0, 0, true, []))
 (W.bind (W.loop (σ := Int × Int × Rws) (ε := (Int × Int × Int × Rws) ⊕ (Int × Rws)) (fun v2 =>
 W.ite (decide (v2.snd.fst < (↑(List.length a6) : Int))) (W.need (0 ≤ v2.snd.fst ∧ v2.snd.fst < (↑(List.length a6) : Int)) <|
 W.bind (g_model_op (ri a6 v2.snd.fst.toNat 0) (ri a6 v2.snd.fst.toNat 1) (ri a6 v2.snd.fst.toNat 2) (ri a6 v2.snd.fst.toNat 3) (ri a6 v2.snd.fst.toNat 4) (ri a6 v2.snd.fst.toNat 5) (ri a6 v2.snd.fst.toNat 6) (ri a6 v2.snd.fst.toNat 7) (ri a6 v2.snd.fst.toNat 8) (ri a6 v2.snd.fst.toNat 9) (ri a6 v2.snd.fst.toNat 10) (ri a6 v2.snd.fst.toNat 11) (rn a6 v2.snd.fst.toNat 12) (rr a6 v2.snd.fst.toNat 12) (rn a6 v2.snd.fst.toNat 13) (rr a6 v2.snd.fst.toNat 13) (ri a6 v2.snd.fst.toNat 14) (ri a6 v2.snd.fst.toNat 15) (ri a6 v2.snd.fst.toNat 16) (ri a6 v2.snd.fst.toNat 17) (ri a6 v2.snd.fst.toNat 18) (ri a6 v2.snd.fst.toNat 19) (ri a6 v2.snd.fst.toNat 20) (ri a6 v2.snd.fst.toNat 21) (false) (v2.snd.snd)) fun v3 =>
 W.bind (α := Int) (W.ite (v3.snd.snd.snd.snd == 0 && decide (131072 < IntKind.i64.wrap (v2.fst + v3.snd.snd.snd.fst))) (W.ret 86)
 (W.ret v3.snd.snd.snd.snd))
 fun v4 =>
 W.ite (v4 != 0) (W.ret (Sum.inr (Sum.inl (IntKind.i64.wrap (v2.fst + v3.snd.snd.snd.fst), v4, IntKind.i64.wrap (v2.snd.fst + 1), v2.snd.snd))))
 (W.need ((List.length v2.snd.snd + 1) * 24 ≤ 140737488355328) <|
 W.ret (Sum.inl (IntKind.i64.wrap (v2.fst + v3.snd.snd.snd.fst), IntKind.i64.wrap (v2.snd.fst + 1), v2.snd.snd ++ [[I v3.fst, I v3.snd.fst, I v3.snd.snd.fst]]))))
 (W.ret (Sum.inr (Sum.inr (v2.fst, v2.snd.snd))))) (0, 0, [[I a0, I a1, I a2]]))
 (W.sum (fun v5 =>
 W.ret (0, v5.snd.fst, v5.snd.snd.fst, 0, true, [])) (fun v6 =>
 W.ret (v6.fst, 0, 0, 0, false, v6.snd)))))))

/-- spillway/model.Check -/
def g_model_Check (a0 : Int) (a1 : Int) (a2 : Int) (a3 : Int) (a4 : Int) (a5 : Bool) (a6 : Rws) (a7 : Int) : W (Int × Int × Int) :=
 W.bind (g_model_whole (a0) (a1) (a2) (a3) (a4) (a5) (a6) (a7)) fun v0 =>
 W.ret (v0.snd.fst, v0.snd.snd.fst, v0.snd.snd.snd.fst)

/-- spillway/trim.reads -/
def g_trim_reads_q (a0 : Rws) (a1 : Nat) : W ((Unit) ⊕ (Unit)) :=
 W.ite (ri a0 a1 0 == 6) (W.ret (Sum.inl ()))
 (W.ret (Sum.inr ()))

/-- spillway/trim.Live -/
def g_trim_Live (a0 : Int) (a1 : Int) (a2 : Int) (a3 : Int) (a4 : Int) (a5 : Bool) (a6 : Rws) (a7 : Int) : W (Int × Int × Int × Bool × Rws) :=
 W.bind (g_model_Check (a0) (a1) (a2) (a3) (a4) (a5) (a6) (a7)) fun v0 =>
 W.ite (v0.fst != 0) (W.ret (v0.fst, v0.snd.fst, v0.snd.snd, true, []))
 (W.need (0 ≤ IntKind.i64.wrap ((↑(List.length a6) : Int) + 1) ∧ IntKind.i64.wrap ((↑(List.length a6) : Int) + 1) ≤ IntKind.i64.wrap ((↑(List.length a6) : Int) + 1) ∧ IntKind.i64.wrap ((↑(List.length a6) : Int) + 1) * 1 ≤ 140737488355328 ∧ IntKind.i64.wrap ((↑(List.length a6) : Int) + 1) ≤ 9223372036854775807) <|
 W.bind (W.loop (σ := Nat × Rws × Rws) (ε := Rws) (fun v1 =>
 W.ite (decide (0 < (↑v1.fst : Int))) (W.need (0 ≤ IntKind.i64.wrap ((↑v1.fst : Int) - 1) ∧ IntKind.i64.wrap ((↑v1.fst : Int) - 1) < (↑v1.fst : Int)) <|
 W.need ((0 : Int) ≤ (0 : Int) ∧ (0 : Int) ≤ IntKind.i64.wrap ((↑v1.fst : Int) - (1 : Int)) ∧ IntKind.i64.wrap ((↑v1.fst : Int) - (1 : Int)) ≤ (↑v1.fst : Int)) <|
 W.need (0 ≤ ri v1.snd.snd (0 + (IntKind.i64.wrap ((↑v1.fst : Int) - 1)).toNat) 0 ∧ ri v1.snd.snd (0 + (IntKind.i64.wrap ((↑v1.fst : Int) - 1)).toNat) 0 < (↑(List.length v1.snd.fst) : Int)) <|
 W.ite (rb v1.snd.fst (ri v1.snd.snd (0 + (IntKind.i64.wrap ((↑v1.fst : Int) - 1)).toNat) 0).toNat 0) (W.ret (Sum.inl ((IntKind.i64.wrap ((↑v1.fst : Int) - 1) - 0).toNat, v1.snd.fst, v1.snd.snd)))
 (W.need (0 ≤ ri v1.snd.snd (0 + (IntKind.i64.wrap ((↑v1.fst : Int) - 1)).toNat) 0 ∧ ri v1.snd.snd (0 + (IntKind.i64.wrap ((↑v1.fst : Int) - 1)).toNat) 0 < (↑(List.length v1.snd.fst) : Int)) <|
 W.ite (decide (0 < ri v1.snd.snd (0 + (IntKind.i64.wrap ((↑v1.fst : Int) - 1)).toNat) 0)) (W.need (0 ≤ IntKind.i64.wrap (ri v1.snd.snd (0 + (IntKind.i64.wrap ((↑v1.fst : Int) - 1)).toNat) 0 - 1) ∧ IntKind.i64.wrap (ri v1.snd.snd (0 + (IntKind.i64.wrap ((↑v1.fst : Int) - 1)).toNat) 0 - 1) < (↑(List.length a6) : Int)) <|
 W.bind (g_trim_reads_q (a6) ((IntKind.i64.wrap (ri v1.snd.snd (0 + (IntKind.i64.wrap ((↑v1.fst : Int) - 1)).toNat) 0 - 1)).toNat)) (W.sum (fun v2 =>
 W.need (((IntKind.i64.wrap ((↑v1.fst : Int) - 1) - 0).toNat + 1) * 8 ≤ 140737488355328) <|
 W.need (((List.take (IntKind.i64.wrap ((↑v1.fst : Int) - 1) - 0).toNat v1.snd.snd ++ [[I (ri a6 (IntKind.i64.wrap (ri v1.snd.snd (0 + (IntKind.i64.wrap ((↑v1.fst : Int) - 1)).toNat) 0 - 1)).toNat 1)]]).length + 1) * 8 ≤ 140737488355328) <|
 W.ret (Sum.inl ((List.take (IntKind.i64.wrap ((↑v1.fst : Int) - 1) - 0).toNat v1.snd.snd ++ [[I (ri a6 (IntKind.i64.wrap (ri v1.snd.snd (0 + (IntKind.i64.wrap ((↑v1.fst : Int) - 1)).toNat) 0 - 1)).toNat 1)]] ++ [[I (ri a6 (IntKind.i64.wrap (ri v1.snd.snd (0 + (IntKind.i64.wrap ((↑v1.fst : Int) - 1)).toNat) 0 - 1)).toNat 2)]]).length, List.set v1.snd.fst (ri v1.snd.snd (0 + (IntKind.i64.wrap ((↑v1.fst : Int) - 1)).toNat) 0).toNat [B true], List.take (IntKind.i64.wrap ((↑v1.fst : Int) - 1) - 0).toNat v1.snd.snd ++ [[I (ri a6 (IntKind.i64.wrap (ri v1.snd.snd (0 + (IntKind.i64.wrap ((↑v1.fst : Int) - 1)).toNat) 0 - 1)).toNat 1)]] ++ [[I (ri a6 (IntKind.i64.wrap (ri v1.snd.snd (0 + (IntKind.i64.wrap ((↑v1.fst : Int) - 1)).toNat) 0 - 1)).toNat 2)]]))) (fun v3 =>
 W.need (((IntKind.i64.wrap ((↑v1.fst : Int) - 1) - 0).toNat + 1) * 8 ≤ 140737488355328) <|
 W.ret (Sum.inl ((List.take (IntKind.i64.wrap ((↑v1.fst : Int) - 1) - 0).toNat v1.snd.snd ++ [[I (ri a6 (IntKind.i64.wrap (ri v1.snd.snd (0 + (IntKind.i64.wrap ((↑v1.fst : Int) - 1)).toNat) 0 - 1)).toNat 1)]]).length, List.set v1.snd.fst (ri v1.snd.snd (0 + (IntKind.i64.wrap ((↑v1.fst : Int) - 1)).toNat) 0).toNat [B true], List.take (IntKind.i64.wrap ((↑v1.fst : Int) - 1) - 0).toNat v1.snd.snd ++ [[I (ri a6 (IntKind.i64.wrap (ri v1.snd.snd (0 + (IntKind.i64.wrap ((↑v1.fst : Int) - 1)).toNat) 0 - 1)).toNat 1)]])))))
 (W.ret (Sum.inl ((IntKind.i64.wrap ((↑v1.fst : Int) - 1) - 0).toNat, List.set v1.snd.fst (ri v1.snd.snd (0 + (IntKind.i64.wrap ((↑v1.fst : Int) - 1)).toNat) 0).toNat [B true], v1.snd.snd)))))
 (W.ret (Sum.inr v1.snd.fst))) ([[I a7]].length, List.replicate (IntKind.i64.wrap ((↑(List.length a6) : Int) + 1)).toNat [B false], [[I a7]]))
 (fun v4 =>
 W.ret (0, 0, 0, false, v4)))

/-- spillway/trim.reads -/
def g_trim_reads_p (a0 : Int) (a1 : Int) (a2 : Int) (a3 : Int) (a4 : Int) (a5 : Int) (a6 : Int) (a7 : Int) (a8 : Int) (a9 : Int) (a10 : Int) (a11 : Int) (a12 : Bool) (a13 : Rws) (a14 : Bool) (a15 : Rws) (a16 : Int) (a17 : Int) (a18 : Int) (a19 : Int) (a20 : Int) (a21 : Int) (a22 : Int) (a23 : Int) : W ((Unit) ⊕ (Unit)) :=
 W.ite (a0 == 6) (W.ret (Sum.inl ()))
 (W.ret (Sum.inr ()))

/-- slices.Clone[[]int16,int16] -/
def g_slices_Clone___int16_int16_ (a0 : Bool) (a1 : Rws) : W (Bool × Rws) :=
 W.ite (a0) (W.ret (true, []))
 (W.need ((0 + List.length a1) * 2 ≤ 140737488355328) <|
 W.ret (false, a1))

/-- slices.Clone[[]int32,int32] -/
def g_slices_Clone___int32_int32_ (a0 : Bool) (a1 : Rws) : W (Bool × Rws) :=
 W.ite (a0) (W.ret (true, []))
 (W.need ((0 + List.length a1) * 4 ≤ 140737488355328) <|
 W.ret (false, a1))

/-- spillway/trim.Trim -/
def g_trim_Trim (a0 : Int) (a1 : Int) (a2 : Int) (a3 : Int) (a4 : Int) (a5 : Bool) (a6 : Rws) (a7 : Int) : W (Int × Int × Int × Int × Int × Int × Int × Int × Int × Bool × Rws) :=
 W.bind (g_trim_Live (a0) (a1) (a2) (a3) (a4) (a5) (a6) (a7)) fun v0 =>
 W.ite (v0.fst != 0) (W.ret (0, 0, 0, 0, 0, 0, v0.fst, v0.snd.fst, v0.snd.snd.fst, true, []))
 (W.need (0 ≤ (↑(List.length v0.snd.snd.snd.snd) : Int) ∧ (↑(List.length v0.snd.snd.snd.snd) : Int) ≤ (↑(List.length v0.snd.snd.snd.snd) : Int) ∧ (↑(List.length v0.snd.snd.snd.snd) : Int) * 8 ≤ 140737488355328 ∧ (↑(List.length v0.snd.snd.snd.snd) : Int) ≤ 9223372036854775807) <|
 W.bind (W.loop (σ := Int × Rws × Bool × Rws) (ε := Rws × Bool × Rws) (fun v1 =>
 W.ite (decide (v1.fst < (↑(List.length a6) : Int))) (W.bind (α := Rws × Int × Int × Bool × Rws × Bool × Rws × Bool × Rws) (W.need (0 ≤ v1.fst ∧ v1.fst < (↑(List.length a6) : Int)) <|
 W.need (0 ≤ IntKind.i64.wrap (v1.fst + 1) ∧ IntKind.i64.wrap (v1.fst + 1) < (↑(List.length v0.snd.snd.snd.snd) : Int)) <|
 W.ite (!rb v0.snd.snd.snd.snd (IntKind.i64.wrap (v1.fst + 1)).toNat 0) (W.ret (v1.snd.fst, ri a6 v1.fst.toNat 1, ri a6 v1.fst.toNat 2, rn a6 v1.fst.toNat 12, rr a6 v1.fst.toNat 12, rn a6 v1.fst.toNat 13, rr a6 v1.fst.toNat 13, v1.snd.snd.fst, v1.snd.snd.snd))
 (W.bind (α := Int × Int × Int × Nat × Int × Int × Int) (W.bind (g_trim_reads_p (ri a6 v1.fst.toNat 0) (ri a6 v1.fst.toNat 1) (ri a6 v1.fst.toNat 2) (ri a6 v1.fst.toNat 3) (ri a6 v1.fst.toNat 4) (ri a6 v1.fst.toNat 5) (ri a6 v1.fst.toNat 6) (ri a6 v1.fst.toNat 7) (ri a6 v1.fst.toNat 8) (ri a6 v1.fst.toNat 9) (ri a6 v1.fst.toNat 10) (ri a6 v1.fst.toNat 11) (rn a6 v1.fst.toNat 12) (rr a6 v1.fst.toNat 12) (rn a6 v1.fst.toNat 13) (rr a6 v1.fst.toNat 13) (ri a6 v1.fst.toNat 14) (ri a6 v1.fst.toNat 15) (ri a6 v1.fst.toNat 16) (ri a6 v1.fst.toNat 17) (ri a6 v1.fst.toNat 18) (ri a6 v1.fst.toNat 19) (ri a6 v1.fst.toNat 20) (ri a6 v1.fst.toNat 21)) (W.sum (fun v2 =>
 W.need (0 ≤ ri a6 v1.fst.toNat 1 ∧ ri a6 v1.fst.toNat 1 < (↑(List.length v1.snd.fst) : Int)) <|
 W.need (0 ≤ ri a6 v1.fst.toNat 2 ∧ ri a6 v1.fst.toNat 2 < (↑(List.length v1.snd.fst) : Int)) <|
 W.ret (2, 2, ri a6 v1.fst.toNat 2, (ri a6 v1.fst.toNat 2).toNat, ri v1.snd.fst (ri a6 v1.fst.toNat 2).toNat 0, 2, ri v1.snd.fst (ri a6 v1.fst.toNat 2).toNat 0)) (fun v3 =>
 W.need (0 ≤ ri a6 v1.fst.toNat 1 ∧ ri a6 v1.fst.toNat 1 < (↑(List.length v1.snd.fst) : Int)) <|
 W.ret (1, 1, ri a6 v1.fst.toNat 1, (ri a6 v1.fst.toNat 1).toNat, ri v1.snd.fst (ri a6 v1.fst.toNat 1).toNat 0, 1, ri a6 v1.fst.toNat 2))))
 fun v4 =>
 W.bind (g_slices_Clone___int16_int16_ (rn a6 v1.fst.toNat 12) (rr a6 v1.fst.toNat 12)) fun v5 =>
 W.bind (g_slices_Clone___int32_int32_ (rn a6 v1.fst.toNat 13) (rr a6 v1.fst.toNat 13)) fun v6 =>
 W.need ((List.length v1.snd.snd.snd + 1) * 208 ≤ 140737488355328) <|
 W.need (0 ≤ IntKind.i64.wrap (v1.fst + 1) ∧ IntKind.i64.wrap (v1.fst + 1) < (↑(List.length v1.snd.fst) : Int)) <|
 W.ret (List.set v1.snd.fst (IntKind.i64.wrap (v1.fst + 1)).toNat [I (↑(v1.snd.snd.snd ++ [[I (ri a6 v1.fst.toNat 0), I (ri v1.snd.fst (ri a6 v1.fst.toNat 1).toNat 0), I v4.snd.snd.snd.snd.snd.snd, I (ri a6 v1.fst.toNat 3), I (ri a6 v1.fst.toNat 4), I (ri a6 v1.fst.toNat 5), I (ri a6 v1.fst.toNat 6), I (ri a6 v1.fst.toNat 7), I (ri a6 v1.fst.toNat 8), I (ri a6 v1.fst.toNat 9), I (ri a6 v1.fst.toNat 10), I (ri a6 v1.fst.toNat 11), AV.sl v5.fst 0 v5.snd, AV.sl v6.fst 0 v6.snd, I (ri a6 v1.fst.toNat 14), I (ri a6 v1.fst.toNat 15), I (ri a6 v1.fst.toNat 16), I (ri a6 v1.fst.toNat 17), I (ri a6 v1.fst.toNat 18), I (ri a6 v1.fst.toNat 19), I (ri a6 v1.fst.toNat 20), I (ri a6 v1.fst.toNat 21)]]).length : Int)], ri v1.snd.fst (ri a6 v1.fst.toNat 1).toNat 0, v4.snd.snd.snd.snd.snd.snd, v5.fst, v5.snd, v6.fst, v6.snd, v1.snd.snd.fst && false, v1.snd.snd.snd ++ [[I (ri a6 v1.fst.toNat 0), I (ri v1.snd.fst (ri a6 v1.fst.toNat 1).toNat 0), I v4.snd.snd.snd.snd.snd.snd, I (ri a6 v1.fst.toNat 3), I (ri a6 v1.fst.toNat 4), I (ri a6 v1.fst.toNat 5), I (ri a6 v1.fst.toNat 6), I (ri a6 v1.fst.toNat 7), I (ri a6 v1.fst.toNat 8), I (ri a6 v1.fst.toNat 9), I (ri a6 v1.fst.toNat 10), I (ri a6 v1.fst.toNat 11), AV.sl v5.fst 0 v5.snd, AV.sl v6.fst 0 v6.snd, I (ri a6 v1.fst.toNat 14), I (ri a6 v1.fst.toNat 15), I (ri a6 v1.fst.toNat 16), I (ri a6 v1.fst.toNat 17), I (ri a6 v1.fst.toNat 18), I (ri a6 v1.fst.toNat 19), I (ri a6 v1.fst.toNat 20), I (ri a6 v1.fst.toNat 21)]])))
 fun v7 =>
 W.ret (Sum.inl (IntKind.i64.wrap (v1.fst + 1), v7.fst, v7.snd.snd.snd.snd.snd.snd.snd.fst, v7.snd.snd.snd.snd.snd.snd.snd.snd)))
 (W.ret (Sum.inr (v1.snd.fst, v1.snd.snd.fst, v1.snd.snd.snd)))) (0, List.replicate (↑(List.length v0.snd.snd.snd.snd) : Int).toNat [I 0], true, []))
 (fun v8 =>
 W.need (0 ≤ a7 ∧ a7 < (↑(List.length v8.fst) : Int)) <|
 W.ret (a0, a1, a2, a3, a4, ri v8.fst a7.toNat 0, 0, 0, 0, v8.snd.fst, v8.snd.snd)))

/-- spillway/spillwayref05.dim -/
def g_ref05_dim (a0 : Int) : W (Bool) :=
 W.ret (decide (1 ≤ a0) && decide (a0 ≤ 1024))

/-- spillway/spillwayref05.Valid -/
def g_ref05_Valid (a0 : Int) (a1 : Int) (a2 : Int) : W (Bool) :=
 W.bind (α := Bool) (W.bind (g_ref05_dim (a0)) fun v0 =>
 W.ite (v0) (W.bind (g_ref05_dim (a1)) fun v1 =>
 W.ite (v1) (W.bind (g_ref05_dim (a2)) fun v2 =>
 W.ret (v2 && decide (IntKind.i64.wrap (IntKind.i64.wrap (a0 * a1) * a2) ≤ 16384)))
 (W.ret false))
 (W.ret false))
 fun v3 =>
 W.ret v3

/-- spillway/spillwayref08.values -/
def g_ref08_values (a0 : Int) : W (Bool) :=
 W.ret (decide (-128 ≤ a0) && decide (a0 ≤ 127))

/-- spillway/spillwayref08.Weighs -/
def g_ref08_Weighs (a0 : Int) : W (Bool) :=
 W.ret (decide (1 ≤ a0) && decide (a0 ≤ 3))

/-- spillway/spillwayref08.Scales -/
def g_ref08_Scales (a0 : Int) : W (Bool) :=
 W.ret (decide (1 ≤ a0) && decide (a0 ≤ 3) || a0 == 6 || a0 == 7)

/-- spillway/spillwayref08.Slides -/
def g_ref08_Slides (a0 : Int) : W (Bool) :=
 W.ret (decide (2 ≤ a0) && decide (a0 ≤ 5))

/-- spillway/spillwayref08.spare -/
def g_ref08_spare (a0 : Int) (a1 : Int) (a2 : Int) (a3 : Int) (a4 : Int) (a5 : Int) (a6 : Int) (a7 : Int) (a8 : Int) (a9 : Int) (a10 : Int) (a11 : Int) (a12 : Bool) (a13 : Rws) (a14 : Bool) (a15 : Rws) (a16 : Int) (a17 : Int) (a18 : Int) (a19 : Int) (a20 : Int) (a21 : Int) (a22 : Int) (a23 : Int) : W (Bool) :=
 W.ite (a0 != 6 && (a2 != 0 || !(a18 == 0 && a19 == 0))) (W.ret false)
 (W.bind (α := Bool) (W.ite (decide (2 < a0) && a3 != 0) (W.ret true)
 (W.bind (g_ref08_Weighs (a0)) fun v0 =>
 W.ite (!v0 && decide (0 < IntKind.i64.wrap ((↑(List.length a13) : Int) + (↑(List.length a15) : Int)))) (W.ret true)
 (W.bind (g_ref08_Scales (a0)) fun v1 =>
 W.ret (!v1 && (!(a16 == 0 && a17 == 0) || a20 != 0)))))
 fun v2 =>
 W.ite (v2) (W.ret false)
 (W.bind (g_ref08_Slides (a0)) fun v3 =>
 W.ite (!v3 && !(a4 == 0 && (a5 == 0 && (a6 == 0 && (a7 == 0 && (a8 == 0 && (a9 == 0 && (a10 == 0 && a11 == 0))))))) || a0 != 2 && a0 != 3 && a21 != 0) (W.ret false)
 (W.ret (a0 != 4 && a0 != 5 || a8 == 0 && a9 == 0 && a10 == 0 && a11 == 0))))

/-- spillway/spillwayref06.in -/
def g_ref06_in (a0 : Int) (a1 : Int) (a2 : Int) : W (Bool) :=
 W.ret (decide (a1 ≤ a0) && decide (a0 ≤ a2))

/-- spillway/spillwayref06.Valid -/
def g_ref06_Valid (a0 : Int) (a1 : Int) (a2 : Int) (a3 : Int) (a4 : Int) (a5 : Int) (a6 : Int) (a7 : Int) : W (Bool) :=
 W.bind (α := Bool) (W.bind (g_ref06_in (a0) (1) (32)) fun v0 =>
 W.ite (v0) (W.bind (g_ref06_in (a1) (1) (32)) fun v1 =>
 W.ite (v1) (W.bind (g_ref06_in (a2) (1) (32)) fun v2 =>
 W.ite (v2) (W.bind (g_ref06_in (a3) (1) (32)) fun v3 =>
 W.ite (v3) (W.bind (g_ref06_in (a4) (0) (IntKind.i64.wrap (a0 - 1))) fun v4 =>
 W.ite (v4) (W.bind (g_ref06_in (a6) (0) (IntKind.i64.wrap (a0 - 1))) fun v5 =>
 W.ite (v5) (W.bind (g_ref06_in (a5) (0) (IntKind.i64.wrap (a1 - 1))) fun v6 =>
 W.ite (v6) (W.bind (g_ref06_in (a7) (0) (IntKind.i64.wrap (a1 - 1))) fun v7 =>
 W.ret v7)
 (W.ret false))
 (W.ret false))
 (W.ret false))
 (W.ret false))
 (W.ret false))
 (W.ret false))
 (W.ret false))
 fun v8 =>
 W.ret v8

/-- spillway/spillwayref06.count -/
def g_ref06_count (a0 : Int) (a1 : Int) (a2 : Int) : W (Int) :=
 W.bind (W.loop (σ := Int × Int) (ε := Int) (fun v0 =>
 W.ite (decide (IntKind.i64.wrap (v0.snd + a1) ≤ a0)) (W.ret (Sum.inl (IntKind.i64.wrap (v0.fst + 1), IntKind.i64.wrap (v0.snd + a2))))
 (W.ret (Sum.inr v0.fst))) (0, 0))
 (fun v1 =>
 W.ret v1)

/-- spillway/spillwayref06.Out -/
def g_ref06_Out (a0 : Int) (a1 : Int) (a2 : Int) (a3 : Int) (a4 : Int) (a5 : Int) (a6 : Int) (a7 : Int) (a8 : Int) (a9 : Int) (a10 : Int) : W (Int × Int × Int) :=
 W.bind (g_ref05_Valid (a0) (a1) (a2)) fun v0 =>
 W.ite (!v0) (W.ret (0, 0, 50))
 (W.bind (g_ref06_Valid (a3) (a4) (a5) (a6) (a7) (a8) (a9) (a10)) fun v1 =>
 W.ite (!v1) (W.ret (0, 0, 60))
 (W.bind (g_ref06_count (IntKind.i64.wrap (IntKind.i64.wrap (a0 + a7) + a9)) (a3) (a5)) fun v2 =>
 W.bind (g_ref06_count (IntKind.i64.wrap (IntKind.i64.wrap (a1 + a8) + a10)) (a4) (a6)) fun v3 =>
 W.ite (v2 == 0 || v3 == 0) (W.ret (0, 0, 60))
 (W.ret (v2, v3, 0))))

/-- spillway/spillwayref08.Makes -/
def g_ref08_Makes (a0 : Int) (a1 : Int) (a2 : Int) (a3 : Int) (a4 : Int) (a5 : Int) (a6 : Int) (a7 : Int) (a8 : Int) (a9 : Int) (a10 : Int) (a11 : Int) (a12 : Bool) (a13 : Rws) (a14 : Bool) (a15 : Rws) (a16 : Int) (a17 : Int) (a18 : Int) (a19 : Int) (a20 : Int) (a21 : Int) (a22 : Int) (a23 : Int) (a24 : Int) (a25 : Int) (a26 : Int) : W (Int × Int × Int × Int) :=
 W.bind (α := Int × Int × Int) (W.ite (a0 == 1) (W.ret (1, 1, a3))
 (W.ret (a24, a25, a26)))
 fun v0 =>
 W.bind (α := (Int × Int × Int) ⊕ (Int × Int × Int × Int)) (W.bind (g_ref08_Slides (a0)) fun v1 =>
 W.ite (v1) (W.bind (g_ref06_Out (a24) (a25) (a26) (a4) (a5) (a6) (a7) (a8) (a9) (a10) (a11)) fun v2 =>
 W.ite (v2.snd.snd != 0) (W.ret (Sum.inr (0, 0, 0, v2.snd.snd)))
 (W.ite (a0 == 2) (W.ret (Sum.inl (v2.fst, v2.snd.fst, a3)))
 (W.ret (Sum.inl (v2.fst, v2.snd.fst, v0.snd.snd)))))
 (W.ret (Sum.inl (v0.fst, v0.snd.fst, v0.snd.snd))))
 (W.els fun v3 =>
 W.ret (v3.fst, v3.snd.fst, v3.snd.snd, 0))

/-- spillway/spillwayref08.Reduces -/
def g_ref08_Reduces (a0 : Int) : W (Bool) :=
 W.ret (decide (1 ≤ a0) && decide (a0 ≤ 4))

/-- spillway/spillwayref08.Length -/
def g_ref08_Length (a0 : Int) (a1 : Int) (a2 : Int) (a3 : Int) (a4 : Int) (a5 : Int) (a6 : Int) (a7 : Int) (a8 : Int) (a9 : Int) (a10 : Int) (a11 : Int) (a12 : Bool) (a13 : Rws) (a14 : Bool) (a15 : Rws) (a16 : Int) (a17 : Int) (a18 : Int) (a19 : Int) (a20 : Int) (a21 : Int) (a22 : Int) (a23 : Int) (a24 : Int) (a25 : Int) (a26 : Int) : W (Int) :=
 W.ite (a0 == 1) (W.ret (IntKind.i64.wrap (IntKind.i64.wrap (a24 * a25) * a26)))
 (W.ite (a0 == 2) (W.ret (IntKind.i64.wrap (IntKind.i64.wrap (a4 * a5) * a26)))
 (W.ret (IntKind.i64.wrap (a4 * a5))))

/-- spillway/spillwayref08.Lists -/
def g_ref08_Lists (a0 : Int) (a1 : Int) (a2 : Int) (a3 : Int) (a4 : Int) (a5 : Int) (a6 : Int) (a7 : Int) (a8 : Int) (a9 : Int) (a10 : Int) (a11 : Int) (a12 : Bool) (a13 : Rws) (a14 : Bool) (a15 : Rws) (a16 : Int) (a17 : Int) (a18 : Int) (a19 : Int) (a20 : Int) (a21 : Int) (a22 : Int) (a23 : Int) (a24 : Int) (a25 : Int) (a26 : Int) : W (Int × Int) :=
 W.bind (α := Bool) (W.ite (a0 == 1) (W.ret (a0 == 1))
 (W.ret (a0 == 2)))
 fun v0 =>
 W.ite (v0) (W.bind (g_ref08_Length (a0) (a1) (a2) (a3) (a4) (a5) (a6) (a7) (a8) (a9) (a10) (a11) (a12) (a13) (a14) (a15) (a16) (a17) (a18) (a19) (a20) (a21) (a22) (a23) (a24) (a25) (a26)) fun v1 =>
 W.ret (IntKind.i64.wrap (a3 * v1), a3))
 (W.ite (a0 == 3) (W.bind (g_ref08_Length (a0) (a1) (a2) (a3) (a4) (a5) (a6) (a7) (a8) (a9) (a10) (a11) (a12) (a13) (a14) (a15) (a16) (a17) (a18) (a19) (a20) (a21) (a22) (a23) (a24) (a25) (a26)) fun v2 =>
 W.ret (IntKind.i64.wrap (a26 * v2), a26))
 (W.ret (0, 0)))

/-- spillway/spillwayref02.Valid -/
def g_ref02_Valid (a0 : Int) (a1 : Int) : W (Bool) :=
 W.ret (decide (1 ≤ a0) && decide (a0 ≤ 2147483647) && decide (0 ≤ a1) && decide (a1 ≤ 62))

/-- spillway/spillwayref08.one -/
def g_ref08_one (a0 : Int) (a1 : Int) (a2 : Int) (a3 : Int) (a4 : Int) (a5 : Int) (a6 : Int) (a7 : Int) (a8 : Int) (a9 : Int) (a10 : Int) (a11 : Int) (a12 : Bool) (a13 : Rws) (a14 : Bool) (a15 : Rws) (a16 : Int) (a17 : Int) (a18 : Int) (a19 : Int) (a20 : Int) (a21 : Int) (a22 : Int) (a23 : Int) (a24 : Int) (a25 : Bool) (a26 : Rws) : W (Int × Int × Int × Int) :=
 W.ite (decide (a0 < 1) || decide (8 < a0)) (W.ret (0, 0, 0, 81))
 (W.ite (decide (a1 < 0) || decide (a24 ≤ a1) || a0 == 6 && (decide (a2 < 0) || decide (a24 ≤ a2))) (W.ret (0, 0, 0, 82))
 (W.bind (g_ref08_spare (a0) (a1) (a2) (a3) (a4) (a5) (a6) (a7) (a8) (a9) (a10) (a11) (a12) (a13) (a14) (a15) (a16) (a17) (a18) (a19) (a20) (a21) (a22) (a23)) fun v0 =>
 W.ite (!v0) (W.ret (0, 0, 0, 83))
 (W.ite (decide (a0 ≤ 2) && (decide (a3 < 1) || decide (1024 < a3))) (W.ret (0, 0, 0, 2))
 (W.need (0 ≤ a1 ∧ a1 < (↑(List.length a26) : Int)) <|
 W.bind (g_ref08_Makes (a0) (a1) (a2) (a3) (a4) (a5) (a6) (a7) (a8) (a9) (a10) (a11) (a12) (a13) (a14) (a15) (a16) (a17) (a18) (a19) (a20) (a21) (a22) (a23) (ri a26 a1.toNat 0) (ri a26 a1.toNat 1) (ri a26 a1.toNat 2)) fun v1 =>
 W.ite (v1.snd.snd.snd != 0) (W.ret (0, 0, 0, v1.snd.snd.snd))
 (W.bind (α := Bool) (W.need ((a0 == 6) = true ∧ True → 0 ≤ a2 ∧ a2 < (↑(List.length a26) : Int)) <|
 W.ite (a0 == 6 && !(ri a26 a2.toNat 0 == ri a26 a1.toNat 0 && (ri a26 a2.toNat 1 == ri a26 a1.toNat 1 && ri a26 a2.toNat 2 == ri a26 a1.toNat 2))) (W.ret true)
 (W.bind (g_ref05_Valid (v1.fst) (v1.snd.fst) (v1.snd.snd.fst)) fun v2 =>
 W.ret !v2))
 fun v3 =>
 W.ite (v3) (W.ret (0, 0, 0, 50))
 (W.bind (α := Bool) (W.bind (g_ref08_Reduces (a0)) fun v4 =>
 W.ite (v4) (W.bind (g_ref08_Length (a0) (a1) (a2) (a3) (a4) (a5) (a6) (a7) (a8) (a9) (a10) (a11) (a12) (a13) (a14) (a15) (a16) (a17) (a18) (a19) (a20) (a21) (a22) (a23) (ri a26 a1.toNat 0) (ri a26 a1.toNat 1) (ri a26 a1.toNat 2)) fun v5 =>
 W.ret (decide (512 < v5)))
 (W.ret false))
 fun v6 =>
 W.ite (v6) (W.ret (0, 0, 0, 84))
 (W.bind (g_ref08_Lists (a0) (a1) (a2) (a3) (a4) (a5) (a6) (a7) (a8) (a9) (a10) (a11) (a12) (a13) (a14) (a15) (a16) (a17) (a18) (a19) (a20) (a21) (a22) (a23) (ri a26 a1.toNat 0) (ri a26 a1.toNat 1) (ri a26 a1.toNat 2)) fun v7 =>
 W.ite ((↑(List.length a13) : Int) != v7.fst || (↑(List.length a15) : Int) != v7.snd) (W.ret (0, 0, 0, 70))
 (W.bind (α := Bool) (W.bind (g_ref08_Scales (a0)) fun v8 =>
 W.ite (v8) (W.bind (g_ref02_Valid (a16) (a17)) fun v9 =>
 W.ite (!v9) (W.ret true)
 (W.ite (a0 == 6) (W.bind (g_ref02_Valid (a18) (a19)) fun v10 =>
 W.ret !v10)
 (W.ret false)))
 (W.ite (a0 == 6) (W.bind (g_ref02_Valid (a18) (a19)) fun v11 =>
 W.ret !v11)
 (W.ret false)))
 fun v12 =>
 W.ite (v12) (W.ret (0, 0, 0, 20))
 (W.bind (α := Bool) (W.bind (g_ref08_values (a22)) fun v13 =>
 W.ite (!v13) (W.ret true)
 (W.bind (g_ref08_values (a23)) fun v14 =>
 W.ite (!v14 || decide (a23 < a22)) (W.ret true)
 (W.bind (g_ref08_values (a20)) fun v15 =>
 W.ite (!v15) (W.ret true)
 (W.bind (g_ref08_values (a21)) fun v16 =>
 W.ret !v16))))
 fun v17 =>
 W.ite (v17) (W.ret (0, 0, 0, 85))
 (W.ret (v1.fst, v1.snd.fst, v1.snd.snd.fst, 0)))))))))))

/-- spillway/spillwayref08.Labour -/
def g_ref08_Labour (a0 : Int) (a1 : Int) (a2 : Int) (a3 : Int) (a4 : Int) (a5 : Int) (a6 : Int) (a7 : Int) (a8 : Int) (a9 : Int) (a10 : Int) (a11 : Int) (a12 : Bool) (a13 : Rws) (a14 : Bool) (a15 : Rws) (a16 : Int) (a17 : Int) (a18 : Int) (a19 : Int) (a20 : Int) (a21 : Int) (a22 : Int) (a23 : Int) (a24 : Int) (a25 : Int) (a26 : Int) (a27 : Int) (a28 : Int) (a29 : Int) : W (Int) :=
 W.bind (g_ref08_Reduces (a0)) fun v0 =>
 W.ite (v0) (W.bind (g_ref08_Length (a0) (a1) (a2) (a3) (a4) (a5) (a6) (a7) (a8) (a9) (a10) (a11) (a12) (a13) (a14) (a15) (a16) (a17) (a18) (a19) (a20) (a21) (a22) (a23) (a24) (a25) (a26)) fun v1 =>
 W.ret (IntKind.i64.wrap (IntKind.i64.wrap (IntKind.i64.wrap (a27 * a28) * a29) * v1)))
 (W.ite (a0 == 5) (W.ret (IntKind.i64.wrap (IntKind.i64.wrap (IntKind.i64.wrap (IntKind.i64.wrap (a27 * a28) * a29) * a4) * a5)))
 (W.ret (IntKind.i64.wrap (IntKind.i64.wrap (a27 * a28) * a29))))

/-- spillway/spillwayref08.Look -/
def g_ref08_Look (a0 : Int) (a1 : Int) (a2 : Int) (a3 : Int) (a4 : Int) (a5 : Bool) (a6 : Rws) (a7 : Int) : W (Int × Int × Int × Int × Bool × Rws) :=
 W.bind (α := Int) (W.bind (g_ref05_Valid (a0) (a1) (a2)) fun v0 =>
 W.ite (!v0) (W.ret 50)
 (W.bind (α := Bool) (W.bind (g_ref08_values (a3)) fun v1 =>
 W.ite (!v1) (W.ret true)
 (W.bind (g_ref08_values (a4)) fun v2 =>
 W.ret (!v2 || decide (a4 < a3))))
 fun v3 =>
 W.ite (v3) (W.ret 85)
 (W.ite (decide (64 < (↑(List.length a6) : Int))) (W.ret 80)
 (W.ite (decide (a7 < 0) || decide ((↑(List.length a6) : Int) < a7)) (W.ret 3)
 (W.ret 0)))))
 fun v4 =>
 W.ite (v4 != 0) (W.ret (0, v4, 0, 0, true, []))
 (W.bind (W.loop (σ := Int × Int × Rws) (ε := (Int × Int × Int × Rws) ⊕ (Int × Rws)) (fun v5 =>
 W.ite (decide (v5.snd.fst < (↑(List.length a6) : Int))) (W.need (0 ≤ v5.snd.fst ∧ v5.snd.fst < (↑(List.length a6) : Int)) <|
 W.bind (g_ref08_one (ri a6 v5.snd.fst.toNat 0) (ri a6 v5.snd.fst.toNat 1) (ri a6 v5.snd.fst.toNat 2) (ri a6 v5.snd.fst.toNat 3) (ri a6 v5.snd.fst.toNat 4) (ri a6 v5.snd.fst.toNat 5) (ri a6 v5.snd.fst.toNat 6) (ri a6 v5.snd.fst.toNat 7) (ri a6 v5.snd.fst.toNat 8) (ri a6 v5.snd.fst.toNat 9) (ri a6 v5.snd.fst.toNat 10) (ri a6 v5.snd.fst.toNat 11) (rn a6 v5.snd.fst.toNat 12) (rr a6 v5.snd.fst.toNat 12) (rn a6 v5.snd.fst.toNat 13) (rr a6 v5.snd.fst.toNat 13) (ri a6 v5.snd.fst.toNat 14) (ri a6 v5.snd.fst.toNat 15) (ri a6 v5.snd.fst.toNat 16) (ri a6 v5.snd.fst.toNat 17) (ri a6 v5.snd.fst.toNat 18) (ri a6 v5.snd.fst.toNat 19) (ri a6 v5.snd.fst.toNat 20) (ri a6 v5.snd.fst.toNat 21) (IntKind.i64.wrap (v5.snd.fst + 1)) (false) (v5.snd.snd)) fun v6 =>
 W.ite (v6.snd.snd.snd != 0) (W.ret (Sum.inr (Sum.inl (v5.fst, v6.snd.snd.snd, IntKind.i64.wrap (v5.snd.fst + 1), v5.snd.snd))))
 (W.need (0 ≤ ri a6 v5.snd.fst.toNat 1 ∧ ri a6 v5.snd.fst.toNat 1 < (↑(List.length v5.snd.snd) : Int)) <|
 W.bind (g_ref08_Labour (ri a6 v5.snd.fst.toNat 0) (ri a6 v5.snd.fst.toNat 1) (ri a6 v5.snd.fst.toNat 2) (ri a6 v5.snd.fst.toNat 3) (ri a6 v5.snd.fst.toNat 4) (ri a6 v5.snd.fst.toNat 5) (ri a6 v5.snd.fst.toNat 6) (ri a6 v5.snd.fst.toNat 7) (ri a6 v5.snd.fst.toNat 8) (ri a6 v5.snd.fst.toNat 9) (ri a6 v5.snd.fst.toNat 10) (ri a6 v5.snd.fst.toNat 11) (rn a6 v5.snd.fst.toNat 12) (rr a6 v5.snd.fst.toNat 12) (rn a6 v5.snd.fst.toNat 13) (rr a6 v5.snd.fst.toNat 13) (ri a6 v5.snd.fst.toNat 14) (ri a6 v5.snd.fst.toNat 15) (ri a6 v5.snd.fst.toNat 16) (ri a6 v5.snd.fst.toNat 17) (ri a6 v5.snd.fst.toNat 18) (ri a6 v5.snd.fst.toNat 19) (ri a6 v5.snd.fst.toNat 20) (ri a6 v5.snd.fst.toNat 21) (ri v5.snd.snd (ri a6 v5.snd.fst.toNat 1).toNat 0) (ri v5.snd.snd (ri a6 v5.snd.fst.toNat 1).toNat 1) (ri v5.snd.snd (ri a6 v5.snd.fst.toNat 1).toNat 2) (v6.fst) (v6.snd.fst) (v6.snd.snd.fst)) fun v7 =>
 W.ite (decide (131072 < IntKind.i64.wrap (v5.fst + v7))) (W.ret (Sum.inr (Sum.inl (IntKind.i64.wrap (v5.fst + v7), 86, IntKind.i64.wrap (v5.snd.fst + 1), v5.snd.snd))))
 (W.need ((List.length v5.snd.snd + 1) * 24 ≤ 140737488355328) <|
 W.ret (Sum.inl (IntKind.i64.wrap (v5.fst + v7), IntKind.i64.wrap (v5.snd.fst + 1), v5.snd.snd ++ [[I v6.fst, I v6.snd.fst, I v6.snd.snd.fst]])))))
 (W.ret (Sum.inr (Sum.inr (v5.fst, v5.snd.snd))))) (0, 0, [[I a0, I a1, I a2]]))
 (W.sum (fun v8 =>
 W.ret (0, v8.snd.fst, v8.snd.snd.fst, 0, true, [])) (fun v9 =>
 W.ret (v9.fst, 0, 0, 0, false, v9.snd))))

/-- spillway/spillwayref08.Check -/
def g_ref08_Check (a0 : Int) (a1 : Int) (a2 : Int) (a3 : Int) (a4 : Int) (a5 : Bool) (a6 : Rws) (a7 : Int) : W (Int × Int × Int) :=
 W.bind (g_ref08_Look (a0) (a1) (a2) (a3) (a4) (a5) (a6) (a7)) fun v0 =>
 W.ret (v0.snd.fst, v0.snd.snd.fst, v0.snd.snd.snd.fst)

/-- spillway/spillwayref24.needs -/
def g_ref24_needs (a0 : Int) (a1 : Int) (a2 : Int) (a3 : Int) (a4 : Int) (a5 : Bool) (a6 : Rws) (a7 : Int) (a8 : Int) (a9 : Int) : W (Bool) :=
 W.need (0 ≤ IntKind.i64.wrap ((↑(List.length a6) : Int) + 1) ∧ IntKind.i64.wrap ((↑(List.length a6) : Int) + 1) ≤ IntKind.i64.wrap ((↑(List.length a6) : Int) + 1) ∧ IntKind.i64.wrap ((↑(List.length a6) : Int) + 1) * 1 ≤ 140737488355328 ∧ IntKind.i64.wrap ((↑(List.length a6) : Int) + 1) ≤ 9223372036854775807) <|
 W.need (0 ≤ a9 ∧ a9 < (↑(List.replicate (IntKind.i64.wrap ((↑(List.length a6) : Int) + 1)).toNat [B false]).length : Int)) <|
 W.bind (W.loop (σ := Int × Rws) (ε := Rws) (fun v0 =>
 W.ite (decide (0 < v0.fst)) (W.bind (α := Rws) (W.need (0 ≤ v0.fst ∧ v0.fst < (↑(List.length v0.snd) : Int)) <|
 W.ite (rb v0.snd v0.fst.toNat 0) (W.need (0 ≤ IntKind.i64.wrap (v0.fst - 1) ∧ IntKind.i64.wrap (v0.fst - 1) < (↑(List.length a6) : Int)) <|
 W.need (0 ≤ ri a6 (IntKind.i64.wrap (v0.fst - 1)).toNat 1 ∧ ri a6 (IntKind.i64.wrap (v0.fst - 1)).toNat 1 < (↑(List.length v0.snd) : Int)) <|
 W.ite (ri a6 (IntKind.i64.wrap (v0.fst - 1)).toNat 0 == 6) (W.need (0 ≤ ri a6 (IntKind.i64.wrap (v0.fst - 1)).toNat 2 ∧ ri a6 (IntKind.i64.wrap (v0.fst - 1)).toNat 2 < (↑(List.set v0.snd (ri a6 (IntKind.i64.wrap (v0.fst - 1)).toNat 1).toNat [B true]).length : Int)) <|
 W.ret ((List.set v0.snd (ri a6 (IntKind.i64.wrap (v0.fst - 1)).toNat 1).toNat [B true]).set (ri a6 (IntKind.i64.wrap (v0.fst - 1)).toNat 2).toNat [B true]))
 (W.ret (List.set v0.snd (ri a6 (IntKind.i64.wrap (v0.fst - 1)).toNat 1).toNat [B true])))
 (W.ret v0.snd))
 fun v1 =>
 W.ret (Sum.inl (IntKind.i64.wrap (v0.fst - 1), v1)))
 (W.ret (Sum.inr v0.snd))) ((↑(List.length a6) : Int), (List.replicate (IntKind.i64.wrap ((↑(List.length a6) : Int) + 1)).toNat [B false]).set a9.toNat [B true]))
 (fun v2 =>
 W.need (0 ≤ a8 ∧ a8 < (↑(List.length v2) : Int)) <|
 W.ret (rb v2 a8.toNat 0))

/-- spillway/spillwayref24.Live -/
def g_ref24_Live (a0 : Int) (a1 : Int) (a2 : Int) (a3 : Int) (a4 : Int) (a5 : Bool) (a6 : Rws) (a7 : Int) : W (Int × Int × Int × Bool × Rws) :=
 W.bind (g_ref08_Check (a0) (a1) (a2) (a3) (a4) (a5) (a6) (a7)) fun v0 =>
 W.ite (v0.fst != 0) (W.ret (v0.fst, v0.snd.fst, v0.snd.snd, true, []))
 (W.bind (W.loop (σ := Int × Bool × Rws) (ε := Bool × Rws) (fun v1 =>
 W.ite (decide (v1.fst ≤ (↑(List.length a6) : Int))) (W.bind (g_ref24_needs (a0) (a1) (a2) (a3) (a4) (a5) (a6) (a7) (v1.fst) (a7)) fun v2 =>
 W.need ((List.length v1.snd.snd + 1) * 1 ≤ 140737488355328) <|
 W.ret (Sum.inl (IntKind.i64.wrap (v1.fst + 1), v1.snd.fst && false, v1.snd.snd ++ [[B v2]])))
 (W.ret (Sum.inr (v1.snd.fst, v1.snd.snd)))) (0, true, []))
 (fun v3 =>
 W.ret (0, 0, 0, v3.fst, v3.snd)))

/-- spillway/spillwayref24.Trim -/
def g_ref24_Trim (a0 : Int) (a1 : Int) (a2 : Int) (a3 : Int) (a4 : Int) (a5 : Bool) (a6 : Rws) (a7 : Int) : W (Int × Int × Int × Int × Int × Int × Int × Int × Int × Bool × Rws) :=
 W.bind (g_ref24_Live (a0) (a1) (a2) (a3) (a4) (a5) (a6) (a7)) fun v0 =>
 W.ite (v0.fst != 0) (W.ret (0, 0, 0, 0, 0, 0, v0.fst, v0.snd.fst, v0.snd.snd.fst, true, []))
 (W.bind (g_ref08_Copy (a0) (a1) (a2) (a3) (a4) (a5) (a6) (a7)) fun v1 =>
 W.need (0 ≤ (↑(List.length v0.snd.snd.snd.snd) : Int) ∧ (↑(List.length v0.snd.snd.snd.snd) : Int) ≤ (↑(List.length v0.snd.snd.snd.snd) : Int) ∧ (↑(List.length v0.snd.snd.snd.snd) : Int) * 8 ≤ 140737488355328 ∧ (↑(List.length v0.snd.snd.snd.snd) : Int) ≤ 9223372036854775807) <|
 W.bind (W.loop (σ := Int × Rws × Bool × Rws) (ε := Rws × Bool × Rws) (fun v2 =>
 W.ite (decide (v2.fst < (↑(List.length v1.snd.snd.snd.snd.snd.snd.snd) : Int))) (W.bind (α := Rws × Bool × Rws × Int × Int) (W.need (0 ≤ v2.fst ∧ v2.fst < (↑(List.length v1.snd.snd.snd.snd.snd.snd.snd) : Int)) <|
 W.need (0 ≤ IntKind.i64.wrap (v2.fst + 1) ∧ IntKind.i64.wrap (v2.fst + 1) < (↑(List.length v0.snd.snd.snd.snd) : Int)) <|
 W.ite (!rb v0.snd.snd.snd.snd (IntKind.i64.wrap (v2.fst + 1)).toNat 0) (W.ret (v2.snd.fst, v2.snd.snd.fst, v2.snd.snd.snd, ri v1.snd.snd.snd.snd.snd.snd.snd v2.fst.toNat 1, ri v1.snd.snd.snd.snd.snd.snd.snd v2.fst.toNat 2))
 (W.need (0 ≤ ri v1.snd.snd.snd.snd.snd.snd.snd v2.fst.toNat 1 ∧ ri v1.snd.snd.snd.snd.snd.snd.snd v2.fst.toNat 1 < (↑(List.length v2.snd.fst) : Int)) <|
 W.bind (α := Int) (W.ite (ri v1.snd.snd.snd.snd.snd.snd.snd v2.fst.toNat 0 == 6) (W.need (0 ≤ ri v1.snd.snd.snd.snd.snd.snd.snd v2.fst.toNat 2 ∧ ri v1.snd.snd.snd.snd.snd.snd.snd v2.fst.toNat 2 < (↑(List.length v2.snd.fst) : Int)) <|
 W.ret (ri v2.snd.fst (ri v1.snd.snd.snd.snd.snd.snd.snd v2.fst.toNat 2).toNat 0))
 (W.ret (ri v1.snd.snd.snd.snd.snd.snd.snd v2.fst.toNat 2)))
 fun v3 =>
 W.need ((List.length v2.snd.snd.snd + 1) * 208 ≤ 140737488355328) <|
 W.need (0 ≤ IntKind.i64.wrap (v2.fst + 1) ∧ IntKind.i64.wrap (v2.fst + 1) < (↑(List.length v2.snd.fst) : Int)) <|
 W.ret (List.set v2.snd.fst (IntKind.i64.wrap (v2.fst + 1)).toNat [I (↑(v2.snd.snd.snd ++ [[I (ri v1.snd.snd.snd.snd.snd.snd.snd v2.fst.toNat 0), I (ri v2.snd.fst (ri v1.snd.snd.snd.snd.snd.snd.snd v2.fst.toNat 1).toNat 0), I v3, I (ri v1.snd.snd.snd.snd.snd.snd.snd v2.fst.toNat 3), I (ri v1.snd.snd.snd.snd.snd.snd.snd v2.fst.toNat 4), I (ri v1.snd.snd.snd.snd.snd.snd.snd v2.fst.toNat 5), I (ri v1.snd.snd.snd.snd.snd.snd.snd v2.fst.toNat 6), I (ri v1.snd.snd.snd.snd.snd.snd.snd v2.fst.toNat 7), I (ri v1.snd.snd.snd.snd.snd.snd.snd v2.fst.toNat 8), I (ri v1.snd.snd.snd.snd.snd.snd.snd v2.fst.toNat 9), I (ri v1.snd.snd.snd.snd.snd.snd.snd v2.fst.toNat 10), I (ri v1.snd.snd.snd.snd.snd.snd.snd v2.fst.toNat 11), AV.sl (rn v1.snd.snd.snd.snd.snd.snd.snd v2.fst.toNat 12) 0 (rr v1.snd.snd.snd.snd.snd.snd.snd v2.fst.toNat 12), AV.sl (rn v1.snd.snd.snd.snd.snd.snd.snd v2.fst.toNat 13) 0 (rr v1.snd.snd.snd.snd.snd.snd.snd v2.fst.toNat 13), I (ri v1.snd.snd.snd.snd.snd.snd.snd v2.fst.toNat 14), I (ri v1.snd.snd.snd.snd.snd.snd.snd v2.fst.toNat 15), I (ri v1.snd.snd.snd.snd.snd.snd.snd v2.fst.toNat 16), I (ri v1.snd.snd.snd.snd.snd.snd.snd v2.fst.toNat 17), I (ri v1.snd.snd.snd.snd.snd.snd.snd v2.fst.toNat 18), I (ri v1.snd.snd.snd.snd.snd.snd.snd v2.fst.toNat 19), I (ri v1.snd.snd.snd.snd.snd.snd.snd v2.fst.toNat 20), I (ri v1.snd.snd.snd.snd.snd.snd.snd v2.fst.toNat 21)]]).length : Int)], v2.snd.snd.fst && false, v2.snd.snd.snd ++ [[I (ri v1.snd.snd.snd.snd.snd.snd.snd v2.fst.toNat 0), I (ri v2.snd.fst (ri v1.snd.snd.snd.snd.snd.snd.snd v2.fst.toNat 1).toNat 0), I v3, I (ri v1.snd.snd.snd.snd.snd.snd.snd v2.fst.toNat 3), I (ri v1.snd.snd.snd.snd.snd.snd.snd v2.fst.toNat 4), I (ri v1.snd.snd.snd.snd.snd.snd.snd v2.fst.toNat 5), I (ri v1.snd.snd.snd.snd.snd.snd.snd v2.fst.toNat 6), I (ri v1.snd.snd.snd.snd.snd.snd.snd v2.fst.toNat 7), I (ri v1.snd.snd.snd.snd.snd.snd.snd v2.fst.toNat 8), I (ri v1.snd.snd.snd.snd.snd.snd.snd v2.fst.toNat 9), I (ri v1.snd.snd.snd.snd.snd.snd.snd v2.fst.toNat 10), I (ri v1.snd.snd.snd.snd.snd.snd.snd v2.fst.toNat 11), AV.sl (rn v1.snd.snd.snd.snd.snd.snd.snd v2.fst.toNat 12) 0 (rr v1.snd.snd.snd.snd.snd.snd.snd v2.fst.toNat 12), AV.sl (rn v1.snd.snd.snd.snd.snd.snd.snd v2.fst.toNat 13) 0 (rr v1.snd.snd.snd.snd.snd.snd.snd v2.fst.toNat 13), I (ri v1.snd.snd.snd.snd.snd.snd.snd v2.fst.toNat 14), I (ri v1.snd.snd.snd.snd.snd.snd.snd v2.fst.toNat 15), I (ri v1.snd.snd.snd.snd.snd.snd.snd v2.fst.toNat 16), I (ri v1.snd.snd.snd.snd.snd.snd.snd v2.fst.toNat 17), I (ri v1.snd.snd.snd.snd.snd.snd.snd v2.fst.toNat 18), I (ri v1.snd.snd.snd.snd.snd.snd.snd v2.fst.toNat 19), I (ri v1.snd.snd.snd.snd.snd.snd.snd v2.fst.toNat 20), I (ri v1.snd.snd.snd.snd.snd.snd.snd v2.fst.toNat 21)]], ri v2.snd.fst (ri v1.snd.snd.snd.snd.snd.snd.snd v2.fst.toNat 1).toNat 0, v3)))
 fun v4 =>
 W.ret (Sum.inl (IntKind.i64.wrap (v2.fst + 1), v4.fst, v4.snd.fst, v4.snd.snd.fst)))
 (W.ret (Sum.inr (v2.snd.fst, v2.snd.snd.fst, v2.snd.snd.snd)))) (0, List.replicate (↑(List.length v0.snd.snd.snd.snd) : Int).toNat [I 0], true, []))
 (fun v5 =>
 W.need (0 ≤ a7 ∧ a7 < (↑(List.length v5.fst) : Int)) <|
 W.ret (v1.fst, v1.snd.fst, v1.snd.snd.fst, v1.snd.snd.snd.fst, v1.snd.snd.snd.snd.fst, ri v5.fst a7.toNat 0, 0, 0, 0, v5.snd.fst, v5.snd.snd)))

/-- spillway/spillwaylaw24.three -/
def g_law24_three : W (Int × Int × Int × Int × Int × Int × Bool × Rws) :=
 W.ret (1, 1, 1, -9, 9, 3, false, [[I 8, I 0, I 0, I 0, I 0, I 0, I 0, I 0, I 0, I 0, I 0, I 0, AV.sl true 0 [], AV.sl true 0 [], I 0, I 0, I 0, I 0, I 0, I 0, I (-5), I 5], [I 8, I 0, I 0, I 0, I 0, I 0, I 0, I 0, I 0, I 0, I 0, I 0, AV.sl true 0 [], AV.sl true 0 [], I 0, I 0, I 0, I 0, I 0, I 0, I (-5), I 5], [I 6, I 1, I 1, I 0, I 0, I 0, I 0, I 0, I 0, I 0, I 0, I 0, AV.sl true 0 [], AV.sl true 0 [], I 1, I 0, I 1, I 0, I 0, I 0, I (-128), I 127]])

/-- spillway/spillwayref24.Same -/
def g_ref24_Same (a0 : Bool) (a1 : Rws) (a2 : Bool) (a3 : Rws) : W (Bool) :=
 W.ite ((↑(List.length a1) : Int) != (↑(List.length a3) : Int)) (W.ret false)
 (W.bind (W.loop (σ := Int) (ε := (Unit) ⊕ (Unit)) (fun v0 =>
 W.ite (decide (v0 < (↑(List.length a1) : Int))) (W.need (0 ≤ v0 ∧ v0 < (↑(List.length a1) : Int)) <|
 W.need (0 ≤ v0 ∧ v0 < (↑(List.length a3) : Int)) <|
 W.ite (!rb a1 v0.toNat 0 == rb a3 v0.toNat 0) (W.ret (Sum.inr (Sum.inl ())))
 (W.ret (Sum.inl (IntKind.i64.wrap (v0 + 1)))))
 (W.ret (Sum.inr (Sum.inr ())))) 0)
 (W.sum (fun v1 =>
 W.ret false) (fun v2 =>
 W.ret true)))

/-- spillway/spillwaylaw24.fixed -/
def g_law24_fixed : W (Bool) :=
 W.bind (g_law24_three ) fun v0 =>
 W.bind (g_trim_Live (v0.fst) (v0.snd.fst) (v0.snd.snd.fst) (v0.snd.snd.snd.fst) (v0.snd.snd.snd.snd.fst) (v0.snd.snd.snd.snd.snd.snd.fst) (v0.snd.snd.snd.snd.snd.snd.snd) (v0.snd.snd.snd.snd.snd.fst)) fun v1 =>
 W.bind (g_law24_three ) fun v2 =>
 W.bind (g_trim_Trim (v2.fst) (v2.snd.fst) (v2.snd.snd.fst) (v2.snd.snd.snd.fst) (v2.snd.snd.snd.snd.fst) (v2.snd.snd.snd.snd.snd.snd.fst) (v2.snd.snd.snd.snd.snd.snd.snd) (v2.snd.snd.snd.snd.snd.fst)) fun v3 =>
 W.bind (g_ref24_Same (v1.snd.snd.snd.fst) (v1.snd.snd.snd.snd) (false) ([[B true], [B true], [B false], [B true]])) fun v4 =>
 W.need ((v4 && (v1.fst == (0 : Int) && (v1.snd.fst == (0 : Int) && v1.snd.snd.fst == (0 : Int))) && (v3.snd.snd.snd.snd.snd.snd.fst == (0 : Int) && (v3.snd.snd.snd.snd.snd.snd.snd.fst == (0 : Int) && v3.snd.snd.snd.snd.snd.snd.snd.snd.fst == (0 : Int))) && (↑(List.length v3.snd.snd.snd.snd.snd.snd.snd.snd.snd.snd) : Int) == (2 : Int) && v3.snd.snd.snd.snd.snd.fst == (2 : Int)) = true ∧ True → (0 : Int) ≤ (1 : Int) ∧ (1 : Int) < (↑(List.length v3.snd.snd.snd.snd.snd.snd.snd.snd.snd.snd) : Int)) <|
 W.need ((v4 && (v1.fst == (0 : Int) && (v1.snd.fst == (0 : Int) && v1.snd.snd.fst == (0 : Int))) && (v3.snd.snd.snd.snd.snd.snd.fst == (0 : Int) && (v3.snd.snd.snd.snd.snd.snd.snd.fst == (0 : Int) && v3.snd.snd.snd.snd.snd.snd.snd.snd.fst == (0 : Int))) && (↑(List.length v3.snd.snd.snd.snd.snd.snd.snd.snd.snd.snd) : Int) == (2 : Int) && v3.snd.snd.snd.snd.snd.fst == (2 : Int) && ri v3.snd.snd.snd.snd.snd.snd.snd.snd.snd.snd (1 : Nat) (1 : Nat) == (1 : Int)) = true ∧ True → (0 : Int) ≤ (1 : Int) ∧ (1 : Int) < (↑(List.length v3.snd.snd.snd.snd.snd.snd.snd.snd.snd.snd) : Int)) <|
 W.ret (v4 && (v1.fst == 0 && (v1.snd.fst == 0 && v1.snd.snd.fst == 0)) && (v3.snd.snd.snd.snd.snd.snd.fst == 0 && (v3.snd.snd.snd.snd.snd.snd.snd.fst == 0 && v3.snd.snd.snd.snd.snd.snd.snd.snd.fst == 0)) && (↑(List.length v3.snd.snd.snd.snd.snd.snd.snd.snd.snd.snd) : Int) == 2 && v3.snd.snd.snd.snd.snd.fst == 2 && ri v3.snd.snd.snd.snd.snd.snd.snd.snd.snd.snd 1 1 == 1 && ri v3.snd.snd.snd.snd.snd.snd.snd.snd.snd.snd 1 2 == 1)

/-- spillway/spillwayref08.SameOp -/
def g_ref08_SameOp (a0 : Int) (a1 : Int) (a2 : Int) (a3 : Int) (a4 : Int) (a5 : Int) (a6 : Int) (a7 : Int) (a8 : Int) (a9 : Int) (a10 : Int) (a11 : Int) (a12 : Bool) (a13 : Rws) (a14 : Bool) (a15 : Rws) (a16 : Int) (a17 : Int) (a18 : Int) (a19 : Int) (a20 : Int) (a21 : Int) (a22 : Int) (a23 : Int) (a24 : Int) (a25 : Int) (a26 : Int) (a27 : Int) (a28 : Int) (a29 : Int) (a30 : Int) (a31 : Int) (a32 : Int) (a33 : Int) (a34 : Int) (a35 : Int) (a36 : Bool) (a37 : Rws) (a38 : Bool) (a39 : Rws) (a40 : Int) (a41 : Int) (a42 : Int) (a43 : Int) (a44 : Int) (a45 : Int) (a46 : Int) (a47 : Int) : W (Bool) :=
 W.ite (a0 != a24 || a1 != a25 || a2 != a26 || a3 != a27 || !(a4 == a28 && (a5 == a29 && (a6 == a30 && (a7 == a31 && (a8 == a32 && (a9 == a33 && (a10 == a34 && a11 == a35))))))) || !(a16 == a40 && a17 == a41) || !(a18 == a42 && a19 == a43) || a20 != a44 || a21 != a45 || a22 != a46 || a23 != a47) (W.ret false)
 (W.ite ((↑(List.length a13) : Int) != (↑(List.length a37) : Int) || (↑(List.length a15) : Int) != (↑(List.length a39) : Int)) (W.ret false)
 (W.bind (W.loop (σ := Int) (ε := (Unit) ⊕ (Unit)) (fun v0 =>
 W.ite (decide (v0 < (↑(List.length a13) : Int))) (W.need (0 ≤ v0 ∧ v0 < (↑(List.length a13) : Int)) <|
 W.need (0 ≤ v0 ∧ v0 < (↑(List.length a37) : Int)) <|
 W.ite (ri a13 v0.toNat 0 != ri a37 v0.toNat 0) (W.ret (Sum.inr (Sum.inl ())))
 (W.ret (Sum.inl (IntKind.i64.wrap (v0 + 1)))))
 (W.ret (Sum.inr (Sum.inr ())))) 0)
 (W.sum (fun v1 =>
 W.ret false) (fun v2 =>
 W.bind (W.loop (σ := Int) (ε := (Unit) ⊕ (Unit)) (fun v3 =>
 W.ite (decide (v3 < (↑(List.length a15) : Int))) (W.need (0 ≤ v3 ∧ v3 < (↑(List.length a15) : Int)) <|
 W.need (0 ≤ v3 ∧ v3 < (↑(List.length a39) : Int)) <|
 W.ite (ri a15 v3.toNat 0 != ri a39 v3.toNat 0) (W.ret (Sum.inr (Sum.inl ())))
 (W.ret (Sum.inl (IntKind.i64.wrap (v3 + 1)))))
 (W.ret (Sum.inr (Sum.inr ())))) 0)
 (W.sum (fun v4 =>
 W.ret false) (fun v5 =>
 W.ret true))))))

/-- spillway/spillwayref08.Same -/
def g_ref08_Same (a0 : Int) (a1 : Int) (a2 : Int) (a3 : Int) (a4 : Int) (a5 : Bool) (a6 : Rws) (a7 : Int) (a8 : Int) (a9 : Int) (a10 : Int) (a11 : Int) (a12 : Int) (a13 : Bool) (a14 : Rws) (a15 : Int) : W (Bool) :=
 W.ite (!(a0 == a8 && (a1 == a9 && a2 == a10)) || a3 != a11 || a4 != a12 || a7 != a15 || (↑(List.length a6) : Int) != (↑(List.length a14) : Int)) (W.ret false)
 (W.bind (W.loop (σ := Int) (ε := (Unit) ⊕ (Unit)) (fun v0 =>
 W.ite (decide (v0 < (↑(List.length a6) : Int))) (W.need (0 ≤ v0 ∧ v0 < (↑(List.length a6) : Int)) <|
 W.need (0 ≤ v0 ∧ v0 < (↑(List.length a14) : Int)) <|
 W.bind (g_ref08_SameOp (ri a6 v0.toNat 0) (ri a6 v0.toNat 1) (ri a6 v0.toNat 2) (ri a6 v0.toNat 3) (ri a6 v0.toNat 4) (ri a6 v0.toNat 5) (ri a6 v0.toNat 6) (ri a6 v0.toNat 7) (ri a6 v0.toNat 8) (ri a6 v0.toNat 9) (ri a6 v0.toNat 10) (ri a6 v0.toNat 11) (rn a6 v0.toNat 12) (rr a6 v0.toNat 12) (rn a6 v0.toNat 13) (rr a6 v0.toNat 13) (ri a6 v0.toNat 14) (ri a6 v0.toNat 15) (ri a6 v0.toNat 16) (ri a6 v0.toNat 17) (ri a6 v0.toNat 18) (ri a6 v0.toNat 19) (ri a6 v0.toNat 20) (ri a6 v0.toNat 21) (ri a14 v0.toNat 0) (ri a14 v0.toNat 1) (ri a14 v0.toNat 2) (ri a14 v0.toNat 3) (ri a14 v0.toNat 4) (ri a14 v0.toNat 5) (ri a14 v0.toNat 6) (ri a14 v0.toNat 7) (ri a14 v0.toNat 8) (ri a14 v0.toNat 9) (ri a14 v0.toNat 10) (ri a14 v0.toNat 11) (rn a14 v0.toNat 12) (rr a14 v0.toNat 12) (rn a14 v0.toNat 13) (rr a14 v0.toNat 13) (ri a14 v0.toNat 14) (ri a14 v0.toNat 15) (ri a14 v0.toNat 16) (ri a14 v0.toNat 17) (ri a14 v0.toNat 18) (ri a14 v0.toNat 19) (ri a14 v0.toNat 20) (ri a14 v0.toNat 21)) fun v1 =>
 W.ite (!v1) (W.ret (Sum.inr (Sum.inl ())))
 (W.ret (Sum.inl (IntKind.i64.wrap (v0 + 1)))))
 (W.ret (Sum.inr (Sum.inr ())))) 0)
 (W.sum (fun v2 =>
 W.ret false) (fun v3 =>
 W.ret true)))

/-- spillway/spillwaylaw24.TrimTrims -/
def g_law24_TrimTrims (a0 : Int) (a1 : Int) (a2 : Int) (a3 : Int) (a4 : Int) (a5 : Bool) (a6 : Rws) (a7 : Int) : W (Bool) :=
 W.bind (g_ref08_Copy (a0) (a1) (a2) (a3) (a4) (a5) (a6) (a7)) fun v0 =>
 W.bind (g_trim_Live (a0) (a1) (a2) (a3) (a4) (a5) (a6) (a7)) fun v1 =>
 W.bind (g_trim_Trim (a0) (a1) (a2) (a3) (a4) (a5) (a6) (a7)) fun v2 =>
 W.bind (g_ref24_Live (v0.fst) (v0.snd.fst) (v0.snd.snd.fst) (v0.snd.snd.snd.fst) (v0.snd.snd.snd.snd.fst) (v0.snd.snd.snd.snd.snd.snd.fst) (v0.snd.snd.snd.snd.snd.snd.snd) (v0.snd.snd.snd.snd.snd.fst)) fun v3 =>
 W.bind (g_ref24_Trim (v0.fst) (v0.snd.fst) (v0.snd.snd.fst) (v0.snd.snd.snd.fst) (v0.snd.snd.snd.snd.fst) (v0.snd.snd.snd.snd.snd.snd.fst) (v0.snd.snd.snd.snd.snd.snd.snd) (v0.snd.snd.snd.snd.snd.fst)) fun v4 =>
 W.bind (α := Bool) (W.bind (g_law24_fixed ) fun v5 =>
 W.ite (v5 && (v1.fst == v3.fst && (v1.snd.fst == v3.snd.fst && v1.snd.snd.fst == v3.snd.snd.fst)) && (v2.snd.snd.snd.snd.snd.snd.fst == v4.snd.snd.snd.snd.snd.snd.fst && (v2.snd.snd.snd.snd.snd.snd.snd.fst == v4.snd.snd.snd.snd.snd.snd.snd.fst && v2.snd.snd.snd.snd.snd.snd.snd.snd.fst == v4.snd.snd.snd.snd.snd.snd.snd.snd.fst))) (W.bind (g_ref24_Same (v1.snd.snd.snd.fst) (v1.snd.snd.snd.snd) (v3.snd.snd.snd.fst) (v3.snd.snd.snd.snd)) fun v6 =>
 W.ite (v6) (W.bind (g_ref08_Same (v2.fst) (v2.snd.fst) (v2.snd.snd.fst) (v2.snd.snd.snd.fst) (v2.snd.snd.snd.snd.fst) (v2.snd.snd.snd.snd.snd.snd.snd.snd.snd.fst) (v2.snd.snd.snd.snd.snd.snd.snd.snd.snd.snd) (v2.snd.snd.snd.snd.snd.fst) (v4.fst) (v4.snd.fst) (v4.snd.snd.fst) (v4.snd.snd.snd.fst) (v4.snd.snd.snd.snd.fst) (v4.snd.snd.snd.snd.snd.snd.snd.snd.snd.fst) (v4.snd.snd.snd.snd.snd.snd.snd.snd.snd.snd) (v4.snd.snd.snd.snd.snd.fst)) fun v7 =>
 W.ite (v7) (W.bind (g_ref08_Same (a0) (a1) (a2) (a3) (a4) (a5) (a6) (a7) (v0.fst) (v0.snd.fst) (v0.snd.snd.fst) (v0.snd.snd.snd.fst) (v0.snd.snd.snd.snd.fst) (v0.snd.snd.snd.snd.snd.snd.fst) (v0.snd.snd.snd.snd.snd.snd.snd) (v0.snd.snd.snd.snd.snd.fst)) fun v8 =>
 W.ret v8)
 (W.ret false))
 (W.ret false))
 (W.ret false))
 fun v9 =>
 W.ret v9

/-- spillway/model.Work -/
def g_model_Work (a0 : Int) (a1 : Int) (a2 : Int) (a3 : Int) (a4 : Int) (a5 : Bool) (a6 : Rws) (a7 : Int) : W (Int × Int × Int × Int) :=
 W.bind (g_model_whole (a0) (a1) (a2) (a3) (a4) (a5) (a6) (a7)) fun v0 =>
 W.ret (v0.fst, v0.snd.fst, v0.snd.snd.fst, v0.snd.snd.snd.fst)

/-- spillway/spillwaylaw24.TrimTwice -/
def g_law24_TrimTwice (a0 : Int) (a1 : Int) (a2 : Int) (a3 : Int) (a4 : Int) (a5 : Bool) (a6 : Rws) (a7 : Int) : W (Bool) :=
 W.bind (g_law24_fixed ) fun v0 =>
 W.ite (!v0) (W.ret false)
 (W.bind (g_trim_Live (a0) (a1) (a2) (a3) (a4) (a5) (a6) (a7)) fun v1 =>
 W.bind (g_trim_Trim (a0) (a1) (a2) (a3) (a4) (a5) (a6) (a7)) fun v2 =>
 W.ite (!(v1.fst == v2.snd.snd.snd.snd.snd.snd.fst && (v1.snd.fst == v2.snd.snd.snd.snd.snd.snd.snd.fst && v1.snd.snd.fst == v2.snd.snd.snd.snd.snd.snd.snd.snd.fst)) || v1.fst != 0) (W.bind (α := Bool) (W.ite (v1.fst == v2.snd.snd.snd.snd.snd.snd.fst && (v1.snd.fst == v2.snd.snd.snd.snd.snd.snd.snd.fst && v1.snd.snd.fst == v2.snd.snd.snd.snd.snd.snd.snd.snd.fst)) (W.bind (g_model_Check (a0) (a1) (a2) (a3) (a4) (a5) (a6) (a7)) fun v3 =>
 W.ret (v1.fst == v3.fst && (v1.snd.fst == v3.snd.fst && v1.snd.snd.fst == v3.snd.snd) && (↑(List.length v1.snd.snd.snd.snd) : Int) == 0))
 (W.ret false))
 fun v4 =>
 W.ret v4)
 (W.bind (g_model_Work (a0) (a1) (a2) (a3) (a4) (a5) (a6) (a7)) fun v5 =>
 W.bind (g_model_Work (v2.fst) (v2.snd.fst) (v2.snd.snd.fst) (v2.snd.snd.snd.fst) (v2.snd.snd.snd.snd.fst) (v2.snd.snd.snd.snd.snd.snd.snd.snd.snd.fst) (v2.snd.snd.snd.snd.snd.snd.snd.snd.snd.snd) (v2.snd.snd.snd.snd.snd.fst)) fun v6 =>
 W.bind (g_trim_Live (v2.fst) (v2.snd.fst) (v2.snd.snd.fst) (v2.snd.snd.snd.fst) (v2.snd.snd.snd.snd.fst) (v2.snd.snd.snd.snd.snd.snd.snd.snd.snd.fst) (v2.snd.snd.snd.snd.snd.snd.snd.snd.snd.snd) (v2.snd.snd.snd.snd.snd.fst)) fun v7 =>
 W.bind (g_trim_Trim (v2.fst) (v2.snd.fst) (v2.snd.snd.fst) (v2.snd.snd.snd.fst) (v2.snd.snd.snd.snd.fst) (v2.snd.snd.snd.snd.snd.snd.snd.snd.snd.fst) (v2.snd.snd.snd.snd.snd.snd.snd.snd.snd.snd) (v2.snd.snd.snd.snd.snd.fst)) fun v8 =>
 W.bind (α := Bool) (W.ite (v6.snd.fst != 0 || v7.fst != 0 || v8.snd.snd.snd.snd.snd.snd.fst != 0 || decide (v5.fst < v6.fst)) (W.ret true)
 (W.bind (g_ref08_Same (v2.fst) (v2.snd.fst) (v2.snd.snd.fst) (v2.snd.snd.snd.fst) (v2.snd.snd.snd.snd.fst) (v2.snd.snd.snd.snd.snd.snd.snd.snd.snd.fst) (v2.snd.snd.snd.snd.snd.snd.snd.snd.snd.snd) (v2.snd.snd.snd.snd.snd.fst) (v8.fst) (v8.snd.fst) (v8.snd.snd.fst) (v8.snd.snd.snd.fst) (v8.snd.snd.snd.snd.fst) (v8.snd.snd.snd.snd.snd.snd.snd.snd.snd.fst) (v8.snd.snd.snd.snd.snd.snd.snd.snd.snd.snd) (v8.snd.snd.snd.snd.snd.fst)) fun v9 =>
 W.ret (!v9 || (↑(List.length v7.snd.snd.snd.snd) : Int) != IntKind.i64.wrap ((↑(List.length v2.snd.snd.snd.snd.snd.snd.snd.snd.snd.snd) : Int) + 1) || (↑(List.length v1.snd.snd.snd.snd) : Int) != IntKind.i64.wrap ((↑(List.length a6) : Int) + 1))))
 fun v10 =>
 W.ite (v10) (W.ret false)
 (W.need ((0 : Int) ≤ (1 : Int) ∧ (1 : Int) ≤ (↑(List.length v1.snd.snd.snd.snd) : Int) ∧ (↑(List.length v1.snd.snd.snd.snd) : Int) ≤ (↑(List.length v1.snd.snd.snd.snd) : Int)) <|
 W.bind (W.loop (σ := Int × Int) (ε := Int) (fun v11 =>
 W.ite (decide (v11.snd < (↑((↑(List.length v1.snd.snd.snd.snd) : Int) - 1).toNat : Int))) (W.bind (α := Int) (W.need (0 ≤ v11.snd ∧ v11.snd < (↑((↑(List.length v1.snd.snd.snd.snd) : Int) - 1).toNat : Int)) <|
 W.ite (rb v1.snd.snd.snd.snd (1 + v11.snd.toNat) 0) (W.ret (IntKind.i64.wrap (v11.fst + 1)))
 (W.ret v11.fst))
 fun v12 =>
 W.ret (Sum.inl (v12, IntKind.i64.wrap (v11.snd + 1))))
 (W.ret (Sum.inr v11.fst))) (0, 0))
 (fun v13 =>
 W.need ((0 : Int) ≤ (1 : Int) ∧ (1 : Int) ≤ (↑(List.length v7.snd.snd.snd.snd) : Int) ∧ (↑(List.length v7.snd.snd.snd.snd) : Int) ≤ (↑(List.length v7.snd.snd.snd.snd) : Int)) <|
 W.bind (W.loop (σ := Int) (ε := (Unit) ⊕ (Unit)) (fun v14 =>
 W.ite (decide (v14 < (↑((↑(List.length v7.snd.snd.snd.snd) : Int) - 1).toNat : Int))) (W.need (0 ≤ v14 ∧ v14 < (↑((↑(List.length v7.snd.snd.snd.snd) : Int) - 1).toNat : Int)) <|
 W.ite (!rb v7.snd.snd.snd.snd (1 + v14.toNat) 0) (W.ret (Sum.inr (Sum.inl ())))
 (W.ret (Sum.inl (IntKind.i64.wrap (v14 + 1)))))
 (W.ret (Sum.inr (Sum.inr ())))) 0)
 (W.sum (fun v15 =>
 W.ret false) (fun v16 =>
 W.need ((v13 == (↑(List.length v2.snd.snd.snd.snd.snd.snd.snd.snd.snd.snd) : Int)) = true ∧ True → 0 ≤ a7 ∧ a7 < (↑(List.length v1.snd.snd.snd.snd) : Int)) <|
 W.ret (v13 == (↑(List.length v2.snd.snd.snd.snd.snd.snd.snd.snd.snd.snd) : Int) && rb v1.snd.snd.snd.snd a7.toNat 0)))))))
end Go.Proofs.Ytalchibbmkhkpaa.VX
