/- The pure forms of the functions. -/
import Derived.Test.YtpoakneeceaooaaVX2
import Derived.Test.YtpoakneeceaooaaProg
import Derived.KernelRfl
set_option linter.unusedVariables false
set_option linter.unusedSimpArgs false
namespace Go.Proofs.Ytpoakneeceaooaa.V09
open Go.Proofs Go.Proofs.Ytpoakneeceaooaa.VX
def tab : Tab :=
 [(1, ⟨.other, 1, 8, [.nilf], none, false⟩),
  (2, ⟨.int .i64, 1, 8, [.int .i64 0], some [.int .i64], true⟩),
  (3, ⟨.int .i64, 1, 8, [.int .i64 0], some [.int .i64], true⟩),
  (4, ⟨.bool, 1, 1, [.kb false], some [.bool], true⟩),
  (5, ⟨.int .u8, 1, 1, [.int .u8 0], some [.int .u8], true⟩),
  (6, ⟨.int .u8, 1, 1, [.int .u8 0], some [.int .u8], true⟩),
  (7, ⟨.struct [(2, 0, 1, false), (3, 1, 1, false), (4, 2, 1, false), (6, 3, 1, false)], 4, 24, [.int .i64 0, .int .i64 0, .kb false, .int .u8 0], some [.int .i64, .int .i64, .bool, .int .u8], true⟩),
  (8, ⟨.struct [(2, 0, 1, false), (3, 1, 1, false), (4, 2, 1, false), (6, 3, 1, false)], 4, 24, [.int .i64 0, .int .i64 0, .kb false, .int .u8 0], some [.int .i64, .int .i64, .bool, .int .u8], true⟩),
  (9, ⟨.str, 1, 16, [.str .empty], some [.str], true⟩),
  (10, ⟨.str, 1, 16, [.str .empty], some [.str], true⟩),
  (11, ⟨.str, 1, 16, [.str .empty], some [.str], true⟩),
  (12, ⟨.int .u64, 1, 8, [.int .u64 0], some [.int .u64], true⟩),
  (13, ⟨.struct [(9, 0, 1, false), (12, 1, 1, false)], 2, 24, [.str .empty, .int .u64 0], some [.str, .int .u64], false⟩),
  (14, ⟨.struct [(9, 0, 1, false), (12, 1, 1, false)], 2, 24, [.str .empty, .int .u64 0], some [.str, .int .u64], false⟩),
  (15, ⟨.ptr 153, 1, 8, [.nilp], none, false⟩),
  (16, ⟨.ptr 156, 1, 8, [.nilp], none, false⟩),
  (17, ⟨.ptr 165, 1, 8, [.nilp], none, false⟩),
  (18, ⟨.struct [(17, 0, 1, false)], 1, 8, [.nilp], none, false⟩),
  (19, ⟨.struct [(17, 0, 1, false)], 1, 8, [.nilp], none, false⟩),
  (20, ⟨.other, 1, 16, [.nili], none, false⟩),
  (21, ⟨.int .i32, 1, 4, [.int .i32 0], some [.int .i32], true⟩),
  (22, ⟨.struct [(3, 0, 1, false), (3, 1, 1, false), (3, 2, 1, false)], 3, 24, [.int .i64 0, .int .i64 0, .int .i64 0], some [.int .i64, .int .i64, .int .i64], true⟩),
  (23, ⟨.struct [(3, 0, 1, false), (3, 1, 1, false), (3, 2, 1, false)], 3, 24, [.int .i64 0, .int .i64 0, .int .i64 0], some [.int .i64, .int .i64, .int .i64], true⟩),
  (24, ⟨.slice 50, 1, 24, [.nils], some [.sl 50], false⟩),
  (25, ⟨.struct [(23, 0, 3, false), (3, 3, 1, false), (3, 4, 1, false), (24, 5, 1, false), (3, 6, 1, false)], 7, 72, [.int .i64 0, .int .i64 0, .int .i64 0, .int .i64 0, .int .i64 0, .nils, .int .i64 0], some [.int .i64, .int .i64, .int .i64, .int .i64, .int .i64, .sl 50, .int .i64], false⟩),
  (26, ⟨.struct [(23, 0, 3, false), (3, 3, 1, false), (3, 4, 1, false), (24, 5, 1, false), (3, 6, 1, false)], 7, 72, [.int .i64 0, .int .i64 0, .int .i64 0, .int .i64 0, .int .i64 0, .nils, .int .i64 0], some [.int .i64, .int .i64, .int .i64, .int .i64, .int .i64, .sl 50, .int .i64], false⟩),
  (27, ⟨.other, 1, 8, [.nilf], none, false⟩),
  (28, ⟨.slice 5, 1, 24, [.nils], some [.sl 5], false⟩),
  (29, ⟨.int .i64, 1, 8, [.int .i64 0], some [.int .i64], true⟩),
  (30, ⟨.struct [(29, 0, 1, false), (3, 1, 1, false), (3, 2, 1, false)], 3, 24, [.int .i64 0, .int .i64 0, .int .i64 0], some [.int .i64, .int .i64, .int .i64], true⟩),
  (31, ⟨.struct [(29, 0, 1, false), (3, 1, 1, false), (3, 2, 1, false)], 3, 24, [.int .i64 0, .int .i64 0, .int .i64 0], some [.int .i64, .int .i64, .int .i64], true⟩),
  (33, ⟨.other, 1, 8, [.nilf], none, false⟩),
  (34, ⟨.other, 1, 8, [.nilf], none, false⟩),
  (35, ⟨.other, 1, 8, [.nilf], none, false⟩),
  (36, ⟨.other, 1, 8, [.nilf], none, false⟩),
  (37, ⟨.other, 1, 8, [.nilf], none, false⟩),
  (39, ⟨.other, 1, 8, [.nilf], none, false⟩),
  (40, ⟨.other, 1, 8, [.nilf], none, false⟩),
  (41, ⟨.int .u64, 1, 8, [.int .u64 0], some [.int .u64], true⟩),
  (42, ⟨.other, 1, 8, [.nilf], none, false⟩),
  (43, ⟨.struct [(3, 0, 1, false), (3, 1, 1, false), (3, 2, 1, false), (3, 3, 1, false), (3, 4, 1, false), (3, 5, 1, false), (3, 6, 1, false), (3, 7, 1, false)], 8, 64, [.int .i64 0, .int .i64 0, .int .i64 0, .int .i64 0, .int .i64 0, .int .i64 0, .int .i64 0, .int .i64 0], some [.int .i64, .int .i64, .int .i64, .int .i64, .int .i64, .int .i64, .int .i64, .int .i64], true⟩),
  (44, ⟨.struct [(3, 0, 1, false), (3, 1, 1, false), (3, 2, 1, false), (3, 3, 1, false), (3, 4, 1, false), (3, 5, 1, false), (3, 6, 1, false), (3, 7, 1, false)], 8, 64, [.int .i64 0, .int .i64 0, .int .i64 0, .int .i64 0, .int .i64 0, .int .i64 0, .int .i64 0, .int .i64 0], some [.int .i64, .int .i64, .int .i64, .int .i64, .int .i64, .int .i64, .int .i64, .int .i64], true⟩),
  (45, ⟨.slice 51, 1, 24, [.nils], some [.sl 51], false⟩),
  (46, ⟨.slice 21, 1, 24, [.nils], some [.sl 21], false⟩),
  (47, ⟨.struct [(3, 0, 1, false), (3, 1, 1, false)], 2, 16, [.int .i64 0, .int .i64 0], some [.int .i64, .int .i64], true⟩),
  (48, ⟨.struct [(3, 0, 1, false), (3, 1, 1, false)], 2, 16, [.int .i64 0, .int .i64 0], some [.int .i64, .int .i64], true⟩),
  (49, ⟨.struct [(3, 0, 1, false), (3, 1, 1, false), (3, 2, 1, false), (3, 3, 1, false), (44, 4, 8, false), (45, 12, 1, false), (46, 13, 1, false), (48, 14, 2, false), (48, 16, 2, false), (3, 18, 1, false), (3, 19, 1, false), (3, 20, 1, false), (3, 21, 1, false)], 22, 208, [.int .i64 0, .int .i64 0, .int .i64 0, .int .i64 0, .int .i64 0, .int .i64 0, .int .i64 0, .int .i64 0, .int .i64 0, .int .i64 0, .int .i64 0, .int .i64 0, .nils, .nils, .int .i64 0, .int .i64 0, .int .i64 0, .int .i64 0, .int .i64 0, .int .i64 0, .int .i64 0, .int .i64 0], some [.int .i64, .int .i64, .int .i64, .int .i64, .int .i64, .int .i64, .int .i64, .int .i64, .int .i64, .int .i64, .int .i64, .int .i64, .sl 51, .sl 21, .int .i64, .int .i64, .int .i64, .int .i64, .int .i64, .int .i64, .int .i64, .int .i64], false⟩),
  (50, ⟨.struct [(3, 0, 1, false), (3, 1, 1, false), (3, 2, 1, false), (3, 3, 1, false), (44, 4, 8, false), (45, 12, 1, false), (46, 13, 1, false), (48, 14, 2, false), (48, 16, 2, false), (3, 18, 1, false), (3, 19, 1, false), (3, 20, 1, false), (3, 21, 1, false)], 22, 208, [.int .i64 0, .int .i64 0, .int .i64 0, .int .i64 0, .int .i64 0, .int .i64 0, .int .i64 0, .int .i64 0, .int .i64 0, .int .i64 0, .int .i64 0, .int .i64 0, .nils, .nils, .int .i64 0, .int .i64 0, .int .i64 0, .int .i64 0, .int .i64 0, .int .i64 0, .int .i64 0, .int .i64 0], some [.int .i64, .int .i64, .int .i64, .int .i64, .int .i64, .int .i64, .int .i64, .int .i64, .int .i64, .int .i64, .int .i64, .int .i64, .sl 51, .sl 21, .int .i64, .int .i64, .int .i64, .int .i64, .int .i64, .int .i64, .int .i64, .int .i64], false⟩),
  (51, ⟨.int .i16, 1, 2, [.int .i16 0], some [.int .i16], true⟩),
  (52, ⟨.other, 1, 8, [.nilf], none, false⟩),
  (53, ⟨.other, 1, 8, [.nilf], none, false⟩),
  (54, ⟨.int .u64, 1, 8, [.int .u64 0], some [.int .u64], true⟩),
  (55, ⟨.other, 1, 8, [.nilf], none, false⟩),
  (56, ⟨.other, 1, 8, [.nilf], none, false⟩),
  (57, ⟨.slice 60, 1, 24, [.nils], some [.sl 60], false⟩),
  (58, ⟨.other, 1, 8, [.nilf], none, false⟩),
  (59, ⟨.ptr 50, 1, 8, [.nilp], none, false⟩),
  (60, ⟨.ptr 3, 1, 8, [.nilp], none, false⟩),
  (61, ⟨.other, 1, 8, [.nilf], none, false⟩),
  (62, ⟨.other, 1, 8, [.nilf], none, false⟩),
  (64, ⟨.other, 1, 8, [.nilf], none, false⟩),
  (65, ⟨.other, 1, 8, [.nilf], none, false⟩),
  (66, ⟨.struct [(31, 0, 3, false)], 3, 24, [.int .i64 0, .int .i64 0, .int .i64 0], some [.int .i64, .int .i64, .int .i64], true⟩),
  (67, ⟨.struct [(31, 0, 3, false)], 3, 24, [.int .i64 0, .int .i64 0, .int .i64 0], some [.int .i64, .int .i64, .int .i64], true⟩),
  (69, ⟨.ptr 72, 1, 8, [.nilp], none, false⟩),
  (70, ⟨.ptr 98, 1, 8, [.nilp], none, false⟩),
  (71, ⟨.struct [(70, 0, 1, false), (3, 1, 1, false)], 2, 16, [.nilp, .int .i64 0], none, false⟩),
  (72, ⟨.struct [(70, 0, 1, false), (3, 1, 1, false)], 2, 16, [.nilp, .int .i64 0], none, false⟩),
  (73, ⟨.other, 1, 8, [.nilf], none, false⟩),
  (74, ⟨.other, 1, 8, [.nilf], none, false⟩),
  (75, ⟨.other, 1, 8, [.nilf], none, false⟩),
  (76, ⟨.other, 1, 8, [.nilf], none, false⟩),
  (77, ⟨.other, 1, 8, [.nilf], none, false⟩),
  (78, ⟨.other, 1, 8, [.nilf], none, false⟩),
  (80, ⟨.other, 1, 8, [.nilf], none, false⟩),
  (81, ⟨.ptr 85, 1, 8, [.nilp], none, false⟩),
  (82, ⟨.struct [(28, 0, 1, false), (3, 1, 1, false)], 2, 32, [.nils, .int .i64 0], some [.sl 5, .int .i64], false⟩),
  (83, ⟨.struct [(28, 0, 1, false), (3, 1, 1, false)], 2, 32, [.nils, .int .i64 0], some [.sl 5, .int .i64], false⟩),
  (84, ⟨.struct [(83, 0, 2, false), (3, 2, 1, false), (31, 3, 3, false)], 6, 64, [.nils, .int .i64 0, .int .i64 0, .int .i64 0, .int .i64 0, .int .i64 0], some [.sl 5, .int .i64, .int .i64, .int .i64, .int .i64, .int .i64], false⟩),
  (85, ⟨.struct [(83, 0, 2, false), (3, 2, 1, false), (31, 3, 3, false)], 6, 64, [.nils, .int .i64 0, .int .i64 0, .int .i64 0, .int .i64 0, .int .i64 0], some [.sl 5, .int .i64, .int .i64, .int .i64, .int .i64, .int .i64], false⟩),
  (86, ⟨.slice 23, 1, 24, [.nils], some [.sl 23], false⟩),
  (88, ⟨.other, 1, 8, [.nilf], none, false⟩),
  (89, ⟨.other, 1, 8, [.nilf], none, false⟩),
  (90, ⟨.ptr 44, 1, 8, [.nilp], none, false⟩),
  (91, ⟨.other, 1, 8, [.nilf], none, false⟩),
  (92, ⟨.slice 3, 1, 24, [.nils], some [.sl 3], false⟩),
  (93, ⟨.ptr 96, 1, 8, [.nilp], none, false⟩),
  (94, ⟨.other, 1, 8, [.nilf], none, false⟩),
  (95, ⟨.struct [(28, 0, 1, false), (3, 1, 1, false)], 2, 32, [.nils, .int .i64 0], some [.sl 5, .int .i64], false⟩),
  (96, ⟨.struct [(28, 0, 1, false), (3, 1, 1, false)], 2, 32, [.nils, .int .i64 0], some [.sl 5, .int .i64], false⟩),
  (97, ⟨.struct [(93, 0, 1, false), (29, 1, 1, false)], 2, 16, [.nilp, .int .i64 0], none, false⟩),
  (98, ⟨.struct [(93, 0, 1, false), (29, 1, 1, false)], 2, 16, [.nilp, .int .i64 0], none, false⟩),
  (99, ⟨.other, 1, 8, [.nilf], none, false⟩),
  (100, ⟨.other, 1, 8, [.nilf], none, false⟩),
  (101, ⟨.other, 1, 8, [.nilf], none, false⟩),
  (102, ⟨.other, 1, 8, [.nilf], none, false⟩),
  (103, ⟨.other, 1, 8, [.nilf], none, false⟩),
  (104, ⟨.other, 1, 8, [.nilf], none, false⟩),
  (105, ⟨.ptr 83, 1, 8, [.nilp], none, false⟩),
  (107, ⟨.other, 1, 8, [.nilf], none, false⟩),
  (108, ⟨.other, 1, 8, [.nilf], none, false⟩),
  (110, ⟨.other, 1, 8, [.nilf], none, false⟩),
  (111, ⟨.slice 28, 1, 24, [.nils], some [.sl 28], false⟩),
  (112, ⟨.other, 1, 8, [.nilf], none, false⟩),
  (113, ⟨.other, 1, 8, [.nilf], none, false⟩),
  (114, ⟨.other, 1, 8, [.nilf], none, false⟩),
  (116, ⟨.other, 1, 8, [.nilf], none, false⟩),
  (117, ⟨.other, 1, 8, [.nilf], none, false⟩),
  (118, ⟨.other, 1, 8, [.nilf], none, false⟩),
  (119, ⟨.other, 1, 8, [.nilf], none, false⟩),
  (120, ⟨.other, 1, 8, [.nilf], none, false⟩),
  (122, ⟨.other, 1, 8, [.nilf], none, false⟩),
  (123, ⟨.other, 1, 8, [.nilf], none, false⟩),
  (124, ⟨.arr 3 3, 3, 24, [.int .i64 0, .int .i64 0, .int .i64 0], some [.int .i64, .int .i64, .int .i64], false⟩),
  (125, ⟨.struct [(4, 0, 1, false), (4, 1, 1, false), (4, 2, 1, false), (4, 3, 1, false), (4, 4, 1, false), (4, 5, 1, false), (4, 6, 1, false), (4, 7, 1, false)], 8, 8, [.kb false, .kb false, .kb false, .kb false, .kb false, .kb false, .kb false, .kb false], some [.bool, .bool, .bool, .bool, .bool, .bool, .bool, .bool], true⟩),
  (126, ⟨.struct [(4, 0, 1, false), (4, 1, 1, false), (4, 2, 1, false), (4, 3, 1, false), (4, 4, 1, false), (4, 5, 1, false), (4, 6, 1, false), (4, 7, 1, false)], 8, 8, [.kb false, .kb false, .kb false, .kb false, .kb false, .kb false, .kb false, .kb false], some [.bool, .bool, .bool, .bool, .bool, .bool, .bool, .bool], true⟩),
  (128, ⟨.other, 1, 8, [.nilf], none, false⟩),
  (129, ⟨.other, 1, 8, [.nilf], none, false⟩),
  (130, ⟨.other, 1, 8, [.nilf], none, false⟩),
  (132, ⟨.other, 1, 8, [.nilf], none, false⟩),
  (133, ⟨.other, 1, 8, [.nilf], none, false⟩),
  (134, ⟨.other, 1, 8, [.nilf], none, false⟩),
  (135, ⟨.other, 1, 8, [.nilf], none, false⟩),
  (137, ⟨.other, 1, 8, [.nilf], none, false⟩),
  (138, ⟨.other, 1, 8, [.nilf], none, false⟩),
  (139, ⟨.other, 1, 8, [.nilf], none, false⟩),
  (141, ⟨.other, 1, 8, [.nilf], none, false⟩),
  (143, ⟨.other, 1, 8, [.nilf], none, false⟩),
  (145, ⟨.other, 1, 8, [.nilf], none, false⟩),
  (146, ⟨.other, 1, 8, [.nilf], none, false⟩),
  (147, ⟨.other, 1, 8, [.nilf], none, false⟩),
  (148, ⟨.other, 1, 8, [.nilf], none, false⟩),
  (149, ⟨.other, 1, 8, [.nilf], none, false⟩),
  (150, ⟨.other, 1, 8, [.nilf], none, false⟩),
  (151, ⟨.other, 1, 8, [.nilf], none, false⟩),
  (152, ⟨.struct [(17, 0, 1, false), (17, 1, 1, false), (17, 2, 1, false), (9, 3, 1, false)], 4, 40, [.nilp, .nilp, .nilp, .str .empty], none, false⟩),
  (153, ⟨.struct [(17, 0, 1, false), (17, 1, 1, false), (17, 2, 1, false), (9, 3, 1, false)], 4, 40, [.nilp, .nilp, .nilp, .str .empty], none, false⟩),
  (154, ⟨.arr 0 16, 0, 0, [], none, false⟩),
  (155, ⟨.struct [(154, 0, 0, true)], 0, 0, [], none, false⟩),
  (156, ⟨.struct [(154, 0, 0, true)], 0, 0, [], none, false⟩),
  (157, ⟨.int .u32, 1, 4, [.int .u32 0], some [.int .u32], true⟩),
  (158, ⟨.int .u8, 1, 1, [.int .u8 0], some [.int .u8], true⟩),
  (159, ⟨.int .u8, 1, 1, [.int .u8 0], some [.int .u8], true⟩),
  (160, ⟨.other, 1, 8, [.nilf], none, false⟩),
  (161, ⟨.ptr 5, 1, 8, [.nilp], none, false⟩),
  (162, ⟨.int .i32, 1, 4, [.int .i32 0], some [.int .i32], true⟩),
  (163, ⟨.int .i32, 1, 4, [.int .i32 0], some [.int .i32], true⟩),
  (164, ⟨.struct [(12, 0, 1, false), (12, 1, 1, false), (157, 2, 1, false), (158, 3, 1, false), (5, 4, 1, false), (5, 5, 1, false), (159, 6, 1, false), (160, 7, 1, false), (161, 8, 1, false), (162, 9, 1, false), (163, 10, 1, false)], 11, 48, [.int .u64 0, .int .u64 0, .int .u32 0, .int .u8 0, .int .u8 0, .int .u8 0, .int .u8 0, .nilf, .nilp, .int .i32 0, .int .i32 0], none, false⟩),
  (165, ⟨.struct [(12, 0, 1, false), (12, 1, 1, false), (157, 2, 1, false), (158, 3, 1, false), (5, 4, 1, false), (5, 5, 1, false), (159, 6, 1, false), (160, 7, 1, false), (161, 8, 1, false), (162, 9, 1, false), (163, 10, 1, false)], 11, 48, [.int .u64 0, .int .u64 0, .int .u32 0, .int .u8 0, .int .u8 0, .int .u8 0, .int .u8 0, .nilf, .nilp, .int .i32 0, .int .i32 0], none, false⟩),
  (166, ⟨.other, 1, 8, [.nilp], none, false⟩)]
def mv : FuncId → List Nat := mvOf [(48, [0]), (49, [0])]
def bodyOf (f : Option Func) : Code := match f with | some x => (match x.body with | some c => c | none => .skip) | none => .skip
theorem tab_ok : tabOK Try.prog tab = true := by kernel_rfl
theorem mixed_ : Try.prog.follows .mixedOrders = true := by kernel_rfl
end Go.Proofs.Ytpoakneeceaooaa.V09

set_option linter.unusedVariables false
namespace Go.Proofs.Ytpoakneeceaooaa.VX
/-- spillway/spillwayref08.Copy -/
def g_ref08_Copy (a0 : Int) (a1 : Int) (a2 : Int) (a3 : Int) (a4 : Int) (a5 : Bool) (a6 : Rws) (a7 : Int) : W (Int × Int × Int × Int × Int × Int × Bool × Rws) :=
 W.bind (W.loop (σ := Int × Bool × Rws) (ε := Bool × Rws) (fun v0 =>
 W.ite (decide (v0.fst < (↑(List.length a6) : Int))) (W.need (0 ≤ v0.fst ∧ v0.fst < (↑(List.length a6) : Int)) <|
 W.need ((0 + List.length (rr a6 v0.fst.toNat 12)) * 2 ≤ 140737488355328) <|
 W.need ((0 + List.length (rr a6 v0.fst.toNat 13)) * 4 ≤ 140737488355328) <|
 W.need ((List.length v0.snd.snd + 1) * 208 ≤ 140737488355328) <|
 W.ret (Sum.inl (IntKind.i64.wrap (v0.fst + 1), v0.snd.fst && false, v0.snd.snd ++ [[I (ri a6 v0.fst.toNat 0), I (ri a6 v0.fst.toNat 1), I (ri a6 v0.fst.toNat 2), I (ri a6 v0.fst.toNat 3), I (ri a6 v0.fst.toNat 4), I (ri a6 v0.fst.toNat 5), I (ri a6 v0.fst.toNat 6), I (ri a6 v0.fst.toNat 7), I (ri a6 v0.fst.toNat 8), I (ri a6 v0.fst.toNat 9), I (ri a6 v0.fst.toNat 10), I (ri a6 v0.fst.toNat 11), AV.sl false 0 (rr a6 v0.fst.toNat 12), AV.sl false 0 (rr a6 v0.fst.toNat 13), I (ri a6 v0.fst.toNat 14), I (ri a6 v0.fst.toNat 15), I (ri a6 v0.fst.toNat 16), I (ri a6 v0.fst.toNat 17), I (ri a6 v0.fst.toNat 18), I (ri a6 v0.fst.toNat 19), I (ri a6 v0.fst.toNat 20), I (ri a6 v0.fst.toNat 21)]])))
 (W.ret (Sum.inr (v0.snd.fst, v0.snd.snd)))) (0, true, []))
 (fun v1 =>
 W.ret (a0, a1, a2, a3, a4, a7, v1.fst, v1.snd))

/-- spillway/shape.Elems -/
def g_shape_Elems (a0 : Int) (a1 : Int) (a2 : Int) : W (Int × Int) :=
 W.ite (decide (a0 < 1) || decide (1024 < a0)) (W.ret (0, 50))
 (W.ite (decide (a1 < 1) || decide (1024 < a1)) (W.ret (0, 50))
 (W.ite (decide (a2 < 1) || decide (1024 < a2)) (W.ret (0, 50))
 (W.ite (decide (16384 < IntKind.i64.wrap (IntKind.i64.wrap (IntKind.i64.wrap (1 * a0) * a1) * a2))) (W.ret (0, 50))
 (W.ret (IntKind.i64.wrap (IntKind.i64.wrap (IntKind.i64.wrap (1 * a0) * a1) * a2), 0)))))

/-- spillway/model.byte8 -/
def g_model_byte8 (a0 : Bool) (a1 : Rws) : W (Bool) :=
 W.bind (W.loop (σ := Int) (ε := (Unit) ⊕ (Unit)) (fun v0 =>
 W.ite (decide (v0 < (↑(List.length a1) : Int))) (W.need (0 ≤ v0 ∧ v0 < (↑(List.length a1) : Int)) <|
 W.ite (decide (ri a1 v0.toNat 0 < -128) || decide (127 < ri a1 v0.toNat 0)) (W.ret (Sum.inr (Sum.inl ())))
 (W.ret (Sum.inl (IntKind.i64.wrap (v0 + 1)))))
 (W.ret (Sum.inr (Sum.inr ())))) 0)
 (W.sum (fun v1 =>
 W.ret false) (fun v2 =>
 W.ret true))

/-- spillway/model.of -/
def g_model_of (a0 : Int) : W (Bool × Bool × Bool × Bool × Bool × Bool × Bool × Bool × Bool) :=
 W.ite (a0 == 1) (W.ret (false, true, false, false, true, true, false, false, true))
 (W.ite (a0 == 2) (W.ret (false, true, true, true, true, true, false, true, true))
 (W.ite (a0 == 3) (W.ret (false, false, true, true, true, true, false, true, true))
 (W.bind (α := Bool) (W.ite (a0 == 4) (W.ret (a0 == 4))
 (W.ret (a0 == 5)))
 fun v0 =>
 W.ite (v0) (W.ret (false, false, true, false, false, false, false, false, true))
 (W.ite (a0 == 6) (W.ret (true, false, false, false, false, true, true, false, true))
 (W.ite (a0 == 7) (W.ret (false, false, false, false, false, true, false, false, true))
 (W.ite (a0 == 8) (W.ret (false, false, false, false, false, false, false, false, true))
 (W.ret (false, false, false, false, false, false, false, false, false))))))))

/-- spillway/model.bare -/
def g_model_bare (a0 : Int) (a1 : Int) (a2 : Int) (a3 : Int) (a4 : Int) (a5 : Int) (a6 : Int) (a7 : Int) (a8 : Int) (a9 : Int) (a10 : Int) (a11 : Int) (a12 : Bool) (a13 : Rws) (a14 : Bool) (a15 : Rws) (a16 : Int) (a17 : Int) (a18 : Int) (a19 : Int) (a20 : Int) (a21 : Int) (a22 : Int) (a23 : Int) (a24 : Bool) (a25 : Bool) (a26 : Bool) (a27 : Bool) (a28 : Bool) (a29 : Bool) (a30 : Bool) (a31 : Bool) : W (Int × Int × Int × Int × Int × Int × Int × Int × Int × Int × Int × Int × Bool × Rws × Bool × Rws × Int × Int × Int × Int × Int × Int × Int × Int) :=
 W.bind (α := Int) (W.ite (a24) (W.ret 0)
 (W.ret a2))
 fun v0 =>
 W.bind (α := Int) (W.ite (a25) (W.ret 0)
 (W.ret a3))
 fun v1 =>
 W.bind (α := Int × Int × Int × Int) (W.ite (a26) (W.ret (0, 0, 0, 0))
 (W.ret (a4, a5, a6, a7)))
 fun v2 =>
 W.bind (α := Int × Int × Int × Int × Int × Int × Int × Int) (W.ite (a27) (W.ret (0, 0, 0, 0, 0, 0, 0, 0))
 (W.ret (v2.fst, v2.snd.fst, v2.snd.snd.fst, v2.snd.snd.snd, a8, a9, a10, a11)))
 fun v3 =>
 W.bind (α := Bool × Rws × Bool × Rws) (W.ite (a28) (W.ret (true, [], true, []))
 (W.ret (a12, a13, a14, a15)))
 fun v4 =>
 W.bind (α := Int × Int × Int) (W.ite (a29) (W.ret (0, 0, 0))
 (W.ret (a16, a17, a20)))
 fun v5 =>
 W.bind (α := Int × Int) (W.ite (a30) (W.ret (0, 0))
 (W.ret (a18, a19)))
 fun v6 =>
 W.bind (α := Int) (W.ite (a31) (W.ret 0)
 (W.ret a21))
 fun v7 =>
 W.ret (0, 0, v0, v1, v3.fst, v3.snd.fst, v3.snd.snd.fst, v3.snd.snd.snd.fst, v3.snd.snd.snd.snd.fst, v3.snd.snd.snd.snd.snd.fst, v3.snd.snd.snd.snd.snd.snd.fst, v3.snd.snd.snd.snd.snd.snd.snd, v4.fst, v4.snd.fst, v4.snd.snd.fst, v4.snd.snd.snd, v5.fst, v5.snd.fst, v6.fst, v6.snd, v5.snd.snd, v7, 0, 0)

/-- spillway/model.empty -/
def g_model_empty (a0 : Int) (a1 : Int) (a2 : Int) (a3 : Int) (a4 : Int) (a5 : Int) (a6 : Int) (a7 : Int) (a8 : Int) (a9 : Int) (a10 : Int) (a11 : Int) (a12 : Bool) (a13 : Rws) (a14 : Bool) (a15 : Rws) (a16 : Int) (a17 : Int) (a18 : Int) (a19 : Int) (a20 : Int) (a21 : Int) (a22 : Int) (a23 : Int) : W (Bool) :=
 W.ret (a0 == 0 && a1 == 0 && a2 == 0 && a3 == 0 && (a4 == 0 && (a5 == 0 && (a6 == 0 && (a7 == 0 && (a8 == 0 && (a9 == 0 && (a10 == 0 && a11 == 0))))))) && (↑(List.length a13) : Int) == 0 && (↑(List.length a15) : Int) == 0 && (a16 == 0 && a17 == 0) && (a18 == 0 && a19 == 0) && a20 == 0 && a21 == 0 && a22 == 0 && a23 == 0)

/-- spillway/window.within -/
def g_window_within (a0 : Int) (a1 : Int) (a2 : Int) : W (Bool) :=
 W.ret (decide (a1 ≤ a0) && decide (a0 ≤ a2))

/-- spillway/window.side -/
def g_window_side (a0 : Int) (a1 : Int) (a2 : Int) (a3 : Int) : W (Bool) :=
 W.bind (α := Bool) (W.bind (g_window_within (a0) (1) (32)) fun v0 =>
 W.ite (v0) (W.bind (g_window_within (a1) (1) (32)) fun v1 =>
 W.ite (v1) (W.bind (g_window_within (a2) (0) (IntKind.i64.wrap (a0 - 1))) fun v2 =>
 W.ite (v2) (W.bind (g_window_within (a3) (0) (IntKind.i64.wrap (a0 - 1))) fun v3 =>
 W.ret v3)
 (W.ret false))
 (W.ret false))
 (W.ret false))
 fun v4 =>
 W.ret v4

/-- spillway/window.Valid -/
def g_window_Valid (a0 : Int) (a1 : Int) (a2 : Int) (a3 : Int) (a4 : Int) (a5 : Int) (a6 : Int) (a7 : Int) : W (Bool) :=
 W.bind (α := Bool) (W.bind (g_window_side (a0) (a2) (a4) (a6)) fun v0 =>
 W.ite (v0) (W.bind (g_window_side (a1) (a3) (a5) (a7)) fun v1 =>
 W.ret v1)
 (W.ret false))
 fun v2 =>
 W.ret v2

/-- spillway/window.Out -/
def g_window_Out (a0 : Int) (a1 : Int) (a2 : Int) (a3 : Int) (a4 : Int) (a5 : Int) (a6 : Int) (a7 : Int) (a8 : Int) (a9 : Int) (a10 : Int) : W (Int × Int × Int) :=
 W.bind (g_shape_Elems (a0) (a1) (a2)) fun v0 =>
 W.ite (v0.snd != 0) (W.ret (0, 0, v0.snd))
 (W.bind (g_window_Valid (a3) (a4) (a5) (a6) (a7) (a8) (a9) (a10)) fun v1 =>
 W.ite (!v1) (W.ret (0, 0, 60))
 (W.ite (decide (IntKind.i64.wrap (IntKind.i64.wrap (IntKind.i64.wrap (a0 + a7) + a9) - a3) < 0) || decide (IntKind.i64.wrap (IntKind.i64.wrap (IntKind.i64.wrap (a1 + a8) + a10) - a4) < 0)) (W.ret (0, 0, 60))
 (W.need (a5 ≠ 0) <|
 W.need (a6 ≠ 0) <|
 W.ret (IntKind.i64.wrap (IntKind.i64.wrap ((IntKind.i64.wrap (IntKind.i64.wrap (IntKind.i64.wrap (a0 + a7) + a9) - a3)).tdiv a5) + 1), IntKind.i64.wrap (IntKind.i64.wrap ((IntKind.i64.wrap (IntKind.i64.wrap (IntKind.i64.wrap (a1 + a8) + a10) - a4)).tdiv a6) + 1), 0))))

/-- spillway/model.makes -/
def g_model_makes (a0 : Int) (a1 : Int) (a2 : Int) (a3 : Int) (a4 : Int) (a5 : Int) (a6 : Int) (a7 : Int) (a8 : Int) (a9 : Int) (a10 : Int) (a11 : Int) (a12 : Bool) (a13 : Rws) (a14 : Bool) (a15 : Rws) (a16 : Int) (a17 : Int) (a18 : Int) (a19 : Int) (a20 : Int) (a21 : Int) (a22 : Int) (a23 : Int) (a24 : Int) (a25 : Int) (a26 : Int) : W (Int × Int × Int × Int × Int × Int) :=
 W.bind (g_model_of (a0)) fun v0 =>
 W.bind (α := (Int × Int × Int) ⊕ (Int × Int × Int × Int × Int × Int)) (W.ite (v0.snd.snd.fst) (W.bind (g_window_Out (a24) (a25) (a26) (a4) (a5) (a6) (a7) (a8) (a9) (a10) (a11)) fun v1 =>
 W.ite (v1.snd.snd != 0) (W.ret (Sum.inr (0, 0, 0, 0, 0, v1.snd.snd)))
 (W.ret (Sum.inl (IntKind.i64.wrap (a4 * a5), v1.fst, v1.snd.fst))))
 (W.ret (Sum.inl (1, a24, a25))))
 (W.els fun v2 =>
 W.bind (α := Int × Int × Int × Int × Int) (W.ite (a0 == 1) (W.ret (IntKind.i64.wrap (IntKind.i64.wrap (a24 * a25) * a26), IntKind.i64.wrap (IntKind.i64.wrap (a24 * a25) * a26), 1, 1, a3))
 (W.ite (a0 == 2) (W.ret (IntKind.i64.wrap (v2.fst * a26), IntKind.i64.wrap (v2.fst * a26), v2.snd.fst, v2.snd.snd, a3))
 (W.bind (α := Bool) (W.ite (a0 == 3) (W.ret (a0 == 3))
 (W.ret (a0 == 4)))
 fun v3 =>
 W.ite (v3) (W.ret (v2.fst, v2.fst, v2.snd.fst, v2.snd.snd, a26))
 (W.ret (v2.fst, 0, v2.snd.fst, v2.snd.snd, a26)))))
 fun v4 =>
 W.ret (v4.snd.snd.fst, v4.snd.snd.snd.fst, v4.snd.snd.snd.snd, v4.snd.fst, IntKind.i64.wrap (IntKind.i64.wrap (IntKind.i64.wrap (v4.snd.snd.fst * v4.snd.snd.snd.fst) * v4.snd.snd.snd.snd) * v4.fst), 0))

/-- spillway/fixq.Valid -/
def g_fixq_Valid (a0 : Int) (a1 : Int) : W (Bool) :=
 W.ret (decide (0 < a0) && decide (a0 < 2147483648) && decide (0 ≤ a1) && decide (a1 ≤ 62))

/-- spillway/model.op -/
def g_model_op (a0 : Int) (a1 : Int) (a2 : Int) (a3 : Int) (a4 : Int) (a5 : Int) (a6 : Int) (a7 : Int) (a8 : Int) (a9 : Int) (a10 : Int) (a11 : Int) (a12 : Bool) (a13 : Rws) (a14 : Bool) (a15 : Rws) (a16 : Int) (a17 : Int) (a18 : Int) (a19 : Int) (a20 : Int) (a21 : Int) (a22 : Int) (a23 : Int) (a24 : Bool) (a25 : Rws) : W (Int × Int × Int × Int × Int) :=
 W.bind (g_model_of (a0)) fun v0 =>
 W.ite (!v0.snd.snd.snd.snd.snd.snd.snd.snd) (W.ret (0, 0, 0, 0, 81))
 (W.ite (decide (a1 < 0) || decide ((↑(List.length a25) : Int) ≤ a1) || v0.fst && (decide (a2 < 0) || decide ((↑(List.length a25) : Int) ≤ a2))) (W.ret (0, 0, 0, 0, 82))
 (W.bind (g_model_bare (a0) (a1) (a2) (a3) (a4) (a5) (a6) (a7) (a8) (a9) (a10) (a11) (a12) (a13) (a14) (a15) (a16) (a17) (a18) (a19) (a20) (a21) (a22) (a23) (v0.fst) (v0.snd.fst) (v0.snd.snd.fst) (v0.snd.snd.snd.fst) (v0.snd.snd.snd.snd.fst) (v0.snd.snd.snd.snd.snd.fst) (v0.snd.snd.snd.snd.snd.snd.fst) (v0.snd.snd.snd.snd.snd.snd.snd.fst)) fun v1 =>
 W.bind (g_model_empty (v1.fst) (v1.snd.fst) (v1.snd.snd.fst) (v1.snd.snd.snd.fst) (v1.snd.snd.snd.snd.fst) (v1.snd.snd.snd.snd.snd.fst) (v1.snd.snd.snd.snd.snd.snd.fst) (v1.snd.snd.snd.snd.snd.snd.snd.fst) (v1.snd.snd.snd.snd.snd.snd.snd.snd.fst) (v1.snd.snd.snd.snd.snd.snd.snd.snd.snd.fst) (v1.snd.snd.snd.snd.snd.snd.snd.snd.snd.snd.fst) (v1.snd.snd.snd.snd.snd.snd.snd.snd.snd.snd.snd.fst) (v1.snd.snd.snd.snd.snd.snd.snd.snd.snd.snd.snd.snd.fst) (v1.snd.snd.snd.snd.snd.snd.snd.snd.snd.snd.snd.snd.snd.fst) (v1.snd.snd.snd.snd.snd.snd.snd.snd.snd.snd.snd.snd.snd.snd.fst) (v1.snd.snd.snd.snd.snd.snd.snd.snd.snd.snd.snd.snd.snd.snd.snd.fst) (v1.snd.snd.snd.snd.snd.snd.snd.snd.snd.snd.snd.snd.snd.snd.snd.snd.fst) (v1.snd.snd.snd.snd.snd.snd.snd.snd.snd.snd.snd.snd.snd.snd.snd.snd.snd.fst) (v1.snd.snd.snd.snd.snd.snd.snd.snd.snd.snd.snd.snd.snd.snd.snd.snd.snd.snd.fst) (v1.snd.snd.snd.snd.snd.snd.snd.snd.snd.snd.snd.snd.snd.snd.snd.snd.snd.snd.snd.fst) (v1.snd.snd.snd.snd.snd.snd.snd.snd.snd.snd.snd.snd.snd.snd.snd.snd.snd.snd.snd.snd.fst) (v1.snd.snd.snd.snd.snd.snd.snd.snd.snd.snd.snd.snd.snd.snd.snd.snd.snd.snd.snd.snd.snd.fst) (v1.snd.snd.snd.snd.snd.snd.snd.snd.snd.snd.snd.snd.snd.snd.snd.snd.snd.snd.snd.snd.snd.snd.fst) (v1.snd.snd.snd.snd.snd.snd.snd.snd.snd.snd.snd.snd.snd.snd.snd.snd.snd.snd.snd.snd.snd.snd.snd)) fun v2 =>
 W.ite (!v2) (W.ret (0, 0, 0, 0, 83))
 (W.ite (v0.snd.fst && (decide (a3 < 1) || decide (1024 < a3))) (W.ret (0, 0, 0, 0, 2))
 (W.need (0 ≤ a1 ∧ a1 < (↑(List.length a25) : Int)) <|
 W.bind (g_model_makes (a0) (a1) (a2) (a3) (a4) (a5) (a6) (a7) (a8) (a9) (a10) (a11) (a12) (a13) (a14) (a15) (a16) (a17) (a18) (a19) (a20) (a21) (a22) (a23) (ri a25 a1.toNat 0) (ri a25 a1.toNat 1) (ri a25 a1.toNat 2)) fun v3 =>
 W.ite (v3.snd.snd.snd.snd.snd != 0) (W.ret (0, 0, 0, 0, v3.snd.snd.snd.snd.snd))
 (W.bind (g_shape_Elems (v3.fst) (v3.snd.fst) (v3.snd.snd.fst)) fun v4 =>
 W.need (v0.fst = true ∧ (v4.snd != 0) = false ∧ True → 0 ≤ a2 ∧ a2 < (↑(List.length a25) : Int)) <|
 W.ite (v4.snd != 0 || v0.fst && !(ri a25 a2.toNat 0 == ri a25 a1.toNat 0 && (ri a25 a2.toNat 1 == ri a25 a1.toNat 1 && ri a25 a2.toNat 2 == ri a25 a1.toNat 2))) (W.ret (0, 0, 0, 0, 50))
 (W.bind (α := Int) (W.ite (v0.snd.snd.snd.snd.fst) (W.ret v3.snd.snd.fst)
 (W.ret 0))
 fun v5 =>
 W.ite (decide (512 < v3.snd.snd.snd.fst)) (W.ret (0, 0, 0, 0, 84))
 (W.ite ((↑(List.length a13) : Int) != IntKind.i64.wrap (v5 * v3.snd.snd.snd.fst) || (↑(List.length a15) : Int) != v5) (W.ret (0, 0, 0, 0, 70))
 (W.bind (α := Bool) (W.ite (v0.snd.snd.snd.snd.snd.fst) (W.bind (g_fixq_Valid (a16) (a17)) fun v6 =>
 W.ite (!v6) (W.ret true)
 (W.ite (v0.snd.snd.snd.snd.snd.snd.fst) (W.bind (g_fixq_Valid (a18) (a19)) fun v7 =>
 W.ret !v7)
 (W.ret false)))
 (W.ite (v0.snd.snd.snd.snd.snd.snd.fst) (W.bind (g_fixq_Valid (a18) (a19)) fun v8 =>
 W.ret !v8)
 (W.ret false)))
 fun v9 =>
 W.ite (v9) (W.ret (0, 0, 0, 0, 20))
 (W.bind (g_model_byte8 (false) ([[I a22], [I a23], [I a20], [I a21]])) fun v10 =>
 W.ite (!v10 || decide (a23 < a22)) (W.ret (0, 0, 0, 0, 85))
 (W.ret (v3.fst, v3.snd.fst, v3.snd.snd.fst, v3.snd.snd.snd.snd.fst, 0)))))))))))

/-- spillway/model.whole -/
def g_model_whole (a0 : Int) (a1 : Int) (a2 : Int) (a3 : Int) (a4 : Int) (a5 : Bool) (a6 : Rws) (a7 : Int) : W (Int × Int × Int × Int × Bool × Rws) :=
 W.bind (g_shape_Elems (a0) (a1) (a2)) fun v0 =>
 W.ite (v0.snd != 0) (W.ret (0, v0.snd, 0, 0, true, []))
 (W.bind (g_model_byte8 (false) ([[I a3], [I a4]])) fun v1 =>
 W.ite (!v1 || decide (a4 < a3)) (W.ret (0, 85, 0, 0, true, []))
 (W.ite (decide (64 < (↑(List.length a6) : Int))) (W.ret (0, 80, 0, 0, true, []))
 (W.ite (decide (a7 < 0) || decide ((↑(List.length a6) : Int) < a7)) (W.ret (0, 3, 0, 0, true, []))
 (W.bind (W.loop (σ := Int × Int × Rws) (ε := (Int × Int) ⊕ (Int × Rws)) (fun v2 =>
 W.ite (decide (v2.snd.fst < (↑(List.length a6) : Int))) (W.need (0 ≤ v2.snd.fst ∧ v2.snd.fst < (↑(List.length a6) : Int)) <|
 W.bind (g_model_op (ri a6 v2.snd.fst.toNat 0) (ri a6 v2.snd.fst.toNat 1) (ri a6 v2.snd.fst.toNat 2) (ri a6 v2.snd.fst.toNat 3) (ri a6 v2.snd.fst.toNat 4) (ri a6 v2.snd.fst.toNat 5) (ri a6 v2.snd.fst.toNat 6) (ri a6 v2.snd.fst.toNat 7) (ri a6 v2.snd.fst.toNat 8) (ri a6 v2.snd.fst.toNat 9) (ri a6 v2.snd.fst.toNat 10) (ri a6 v2.snd.fst.toNat 11) (rn a6 v2.snd.fst.toNat 12) (rr a6 v2.snd.fst.toNat 12) (rn a6 v2.snd.fst.toNat 13) (rr a6 v2.snd.fst.toNat 13) (ri a6 v2.snd.fst.toNat 14) (ri a6 v2.snd.fst.toNat 15) (ri a6 v2.snd.fst.toNat 16) (ri a6 v2.snd.fst.toNat 17) (ri a6 v2.snd.fst.toNat 18) (ri a6 v2.snd.fst.toNat 19) (ri a6 v2.snd.fst.toNat 20) (ri a6 v2.snd.fst.toNat 21) (false) (v2.snd.snd)) fun v3 =>
 W.bind (α := Int) (W.ite (v3.snd.snd.snd.snd == 0 && decide (131072 < IntKind.i64.wrap (v2.fst + v3.snd.snd.snd.fst))) (W.ret 86)
 (W.ret v3.snd.snd.snd.snd))
 fun v4 =>
 W.ite (v4 != 0) (W.ret (Sum.inr (Sum.inl (v4, IntKind.i64.wrap (v2.snd.fst + 1)))))
 (W.need ((List.length v2.snd.snd + 1) * 24 ≤ 140737488355328) <|
 W.ret (Sum.inl (IntKind.i64.wrap (v2.fst + v3.snd.snd.snd.fst), IntKind.i64.wrap (v2.snd.fst + 1), v2.snd.snd ++ [[I v3.fst, I v3.snd.fst, I v3.snd.snd.fst]]))))
 (W.ret (Sum.inr (Sum.inr (v2.fst, v2.snd.snd))))) (0, 0, [[I a0, I a1, I a2]]))
 (W.sum (fun v5 =>
 W.ret (0, v5.fst, v5.snd, 0, true, [])) (fun v6 =>
 W.ret (v6.fst, 0, 0, 0, false, v6.snd)))))))

/-- spillway/model.Check -/
def g_model_Check (a0 : Int) (a1 : Int) (a2 : Int) (a3 : Int) (a4 : Int) (a5 : Bool) (a6 : Rws) (a7 : Int) : W (Int × Int × Int) :=
 W.bind (g_model_whole (a0) (a1) (a2) (a3) (a4) (a5) (a6) (a7)) fun v0 =>
 W.ret (v0.snd.fst, v0.snd.snd.fst, v0.snd.snd.snd.fst)

/-- slices.Grow[[]byte,byte] -/
def g_slices_Grow___byte_byte__z (a0 : Int) : W (Bool × Rws) :=
 W.ite (decide (a0 < 0)) (W.need (False) <|
 W.fail)
 (W.ite (decide (0 < IntKind.i64.wrap (a0 - 0))) (W.need (0 < IntKind.i64.wrap (a0 - 0) ∧ IntKind.i64.wrap (a0 - 0) ≤ 9223372036854775807 ∧ IntKind.i64.wrap (a0 - 0) * 1 ≤ 140737488355328) <|
 W.need ((0 : Int) ≤ (0 : Int) ∧ (0 : Int) ≤ (0 : Int) ∧ (0 : Int) ≤ (↑(List.replicate (IntKind.i64.wrap (a0 - (0 : Int))).toNat [I (0 : Int)]).length : Int)) <|
 W.ret (false, List.take 0 (List.replicate (IntKind.i64.wrap (a0 - 0)).toNat [I 0])))
 (W.ret (true, [])))

/-- slices.Concat[[]byte,byte] -/
def g_slices_Concat___byte_byte_ (a0 : Bool) (a1 : Rws) : W (Bool × Rws) :=
 W.bind (W.loop (σ := Int × Int) (ε := Int) (fun v0 =>
 W.ite (decide (v0.snd < (↑(List.length a1) : Int))) (W.need (0 ≤ v0.snd ∧ v0.snd < (↑(List.length a1) : Int)) <|
 W.ite (decide (IntKind.i64.wrap (v0.fst + (↑(List.length (rr a1 v0.snd.toNat 0)) : Int)) < 0)) (W.need (False) <|
 W.fail)
 (W.ret (Sum.inl (IntKind.i64.wrap (v0.fst + (↑(List.length (rr a1 v0.snd.toNat 0)) : Int)), IntKind.i64.wrap (v0.snd + 1)))))
 (W.ret (Sum.inr v0.fst))) (0, 0))
 (fun v1 =>
 W.bind (g_slices_Grow___byte_byte__z (v1)) fun v2 =>
 W.bind (W.loop (σ := Int × Bool × Rws) (ε := Bool × Rws) (fun v3 =>
 W.ite (decide (v3.fst < (↑(List.length a1) : Int))) (W.need (0 ≤ v3.fst ∧ v3.fst < (↑(List.length a1) : Int)) <|
 W.need ((List.length v3.snd.snd + List.length (rr a1 v3.fst.toNat 0)) * 1 ≤ 140737488355328) <|
 W.ret (Sum.inl (IntKind.i64.wrap (v3.fst + 1), v3.snd.fst && List.isEmpty (rr a1 v3.fst.toNat 0), v3.snd.snd ++ rr a1 v3.fst.toNat 0)))
 (W.ret (Sum.inr (v3.snd.fst, v3.snd.snd)))) (0, v2.fst, v2.snd))
 (fun v4 =>
 W.ret (v4.fst, v4.snd)))

/-- spillway/wire.PutU -/
def g_wire_PutU (a0 : Bool) (a1 : Rws) (a2 : Int) : W (Bool × Rws) :=
 W.bind (g_slices_Concat___byte_byte_ (false) ([[AV.sl a0 0 a1], [AV.sl false 0 []]])) fun v0 =>
 W.bind (W.loop (σ := Int × Bool × Rws) (ε := Int × Bool × Rws) (fun v1 =>
 W.ite (decide (127 < v1.fst)) (W.need ((List.length v1.snd.snd + 1) * 1 ≤ 140737488355328) <|
 W.ret (Sum.inl (v1.fst.fdiv 128, v1.snd.fst && false, v1.snd.snd ++ [[I (ibits BinOp.or IntKind.u8 (IntKind.u8.wrap v1.fst) 128)]])))
 (W.ret (Sum.inr (v1.fst, v1.snd.fst, v1.snd.snd)))) (a2, v0.fst, v0.snd))
 (fun v2 =>
 W.need ((List.length v2.snd.snd + 1) * 1 ≤ 140737488355328) <|
 W.ret (v2.snd.fst && false, v2.snd.snd ++ [[I (IntKind.u8.wrap v2.fst)]]))

/-- spillway/pack.Encode$1 -/
def g_pack_Encode_1_p (a0 : Int) (a1 : Bool) (a2 : Rws) : W (Bool × Rws) :=
 W.bind (g_wire_PutU (a1) (a2) (IntKind.u64.wrap a0)) fun v0 =>
 W.ret (v0.fst, v0.snd)

/-- spillway/wire.PutS -/
def g_wire_PutS (a0 : Bool) (a1 : Rws) (a2 : Int) : W (Bool × Rws) :=
 W.bind (g_wire_PutU (a0) (a1) (ibits BinOp.xor IntKind.u64 (IntKind.u64.wrap (IntKind.u64.wrap a2 * 2)) (IntKind.u64.wrap (a2.fdiv 9223372036854775808)))) fun v0 =>
 W.ret (v0.fst, v0.snd)

/-- spillway/pack.Encode$2 -/
def g_pack_Encode_2_p (a0 : Int) (a1 : Bool) (a2 : Rws) : W (Bool × Rws) :=
 W.bind (g_wire_PutS (a1) (a2) (a0)) fun v0 =>
 W.ret (v0.fst, v0.snd)

/-- spillway/pack.numbers -/
def g_pack_numbers_p (a0 : Int) (a1 : Int) (a2 : Int) (a3 : Int) (a4 : Int) (a5 : Int) (a6 : Int) (a7 : Int) (a8 : Int) (a9 : Int) (a10 : Int) (a11 : Int) (a12 : Bool) (a13 : Rws) (a14 : Bool) (a15 : Rws) (a16 : Int) (a17 : Int) (a18 : Int) (a19 : Int) (a20 : Int) (a21 : Int) (a22 : Int) (a23 : Int) : W (Unit) :=
 W.ret ()

/-- spillway/pack.lists -/
def g_pack_lists (a0 : Bool) (a1 : Rws) (a2 : Int) (a3 : Int) (a4 : Int) (a5 : Int) (a6 : Int) (a7 : Int) (a8 : Int) (a9 : Int) (a10 : Int) (a11 : Int) (a12 : Int) (a13 : Int) (a14 : Bool) (a15 : Rws) (a16 : Bool) (a17 : Rws) (a18 : Int) (a19 : Int) (a20 : Int) (a21 : Int) (a22 : Int) (a23 : Int) (a24 : Int) (a25 : Int) : W (Bool × Rws) :=
 W.bind (g_wire_PutU (a0) (a1) (IntKind.u64.wrap (↑(List.length a15) : Int))) fun v0 =>
 W.need ((0 : Int) ≤ (0 : Int) ∧ (0 : Int) ≤ IntKind.i64.wrap ((3 : Int) * (↑(List.length a15) : Int)) ∧ IntKind.i64.wrap ((3 : Int) * (↑(List.length a15) : Int)) * (1 : Int) ≤ (140737488355328 : Int) ∧ IntKind.i64.wrap ((3 : Int) * (↑(List.length a15) : Int)) ≤ (9223372036854775807 : Int)) <|
 W.bind (W.loop (σ := Int × Rws) (ε := Rws) (fun v1 =>
 W.ite (decide (v1.fst < (↑(List.length a15) : Int))) (W.need (0 ≤ v1.fst ∧ v1.fst < (↑(List.length a15) : Int)) <|
 W.bind (g_wire_PutS (true) ([]) (IntKind.i64.wrap (ri a15 v1.fst.toNat 0))) fun v2 =>
 W.need ((List.length v1.snd + List.length v2.snd) * 1 ≤ 140737488355328) <|
 W.ret (Sum.inl (IntKind.i64.wrap (v1.fst + 1), v1.snd ++ v2.snd)))
 (W.ret (Sum.inr v1.snd))) (0, []))
 (fun v3 =>
 W.need ((List.length v0.snd + List.length v3) * 1 ≤ 140737488355328) <|
 W.bind (g_wire_PutU (v0.fst && List.isEmpty v3) (v0.snd ++ v3) (IntKind.u64.wrap (↑(List.length a17) : Int))) fun v4 =>
 W.bind (W.loop (σ := Int × Bool × Rws) (ε := Bool × Rws) (fun v5 =>
 W.ite (decide (v5.fst < (↑(List.length a17) : Int))) (W.need (0 ≤ v5.fst ∧ v5.fst < (↑(List.length a17) : Int)) <|
 W.bind (g_wire_PutS (v5.snd.fst) (v5.snd.snd) (IntKind.i64.wrap (ri a17 v5.fst.toNat 0))) fun v6 =>
 W.ret (Sum.inl (IntKind.i64.wrap (v5.fst + 1), v6.fst, v6.snd)))
 (W.ret (Sum.inr (v5.snd.fst, v5.snd.snd)))) (0, v4.fst, v4.snd))
 (fun v7 =>
 W.ret (v7.fst, v7.snd)))

/-- spillway/pack.scales -/
def g_pack_scales_p (a0 : Int) (a1 : Int) (a2 : Int) (a3 : Int) (a4 : Int) (a5 : Int) (a6 : Int) (a7 : Int) (a8 : Int) (a9 : Int) (a10 : Int) (a11 : Int) (a12 : Bool) (a13 : Rws) (a14 : Bool) (a15 : Rws) (a16 : Int) (a17 : Int) (a18 : Int) (a19 : Int) (a20 : Int) (a21 : Int) (a22 : Int) (a23 : Int) : W (Unit) :=
 W.ret ()

/-- spillway/pack.ends -/
def g_pack_ends_p (a0 : Int) (a1 : Int) (a2 : Int) (a3 : Int) (a4 : Int) (a5 : Int) (a6 : Int) (a7 : Int) (a8 : Int) (a9 : Int) (a10 : Int) (a11 : Int) (a12 : Bool) (a13 : Rws) (a14 : Bool) (a15 : Rws) (a16 : Int) (a17 : Int) (a18 : Int) (a19 : Int) (a20 : Int) (a21 : Int) (a22 : Int) (a23 : Int) : W (Unit) :=
 W.ret ()

/-- spillway/pack.Encode -/
def g_pack_Encode (a0 : Int) (a1 : Int) (a2 : Int) (a3 : Int) (a4 : Int) (a5 : Bool) (a6 : Rws) (a7 : Int) : W (Int × Int × Int × Bool × Rws) :=
 W.bind (g_model_Check (a0) (a1) (a2) (a3) (a4) (a5) (a6) (a7)) fun v0 =>
 W.ite (v0.fst != 0) (W.ret (v0.fst, v0.snd.fst, v0.snd.snd, true, []))
 (W.bind (g_pack_Encode_1_p (a0) (false) ([[I 83], [I 87], [I 77], [I 49]])) fun v1 =>
 W.bind (g_pack_Encode_1_p (a1) (v1.fst) (v1.snd)) fun v2 =>
 W.bind (g_pack_Encode_1_p (a2) (v2.fst) (v2.snd)) fun v3 =>
 W.bind (g_pack_Encode_2_p (a3) (v3.fst) (v3.snd)) fun v4 =>
 W.bind (g_pack_Encode_2_p (a4) (v4.fst) (v4.snd)) fun v5 =>
 W.bind (g_pack_Encode_1_p ((↑(List.length a6) : Int)) (v5.fst) (v5.snd)) fun v6 =>
 W.bind (W.loop (σ := Int × Bool × Rws) (ε := Bool × Rws) (fun v7 =>
 W.ite (decide (v7.fst < (↑(List.length a6) : Int))) (W.need (0 ≤ v7.fst ∧ v7.fst < (↑(List.length a6) : Int)) <|
 W.bind (g_pack_numbers_p (ri a6 v7.fst.toNat 0) (ri a6 v7.fst.toNat 1) (ri a6 v7.fst.toNat 2) (ri a6 v7.fst.toNat 3) (ri a6 v7.fst.toNat 4) (ri a6 v7.fst.toNat 5) (ri a6 v7.fst.toNat 6) (ri a6 v7.fst.toNat 7) (ri a6 v7.fst.toNat 8) (ri a6 v7.fst.toNat 9) (ri a6 v7.fst.toNat 10) (ri a6 v7.fst.toNat 11) (rn a6 v7.fst.toNat 12) (rr a6 v7.fst.toNat 12) (rn a6 v7.fst.toNat 13) (rr a6 v7.fst.toNat 13) (ri a6 v7.fst.toNat 14) (ri a6 v7.fst.toNat 15) (ri a6 v7.fst.toNat 16) (ri a6 v7.fst.toNat 17) (ri a6 v7.fst.toNat 18) (ri a6 v7.fst.toNat 19) (ri a6 v7.fst.toNat 20) (ri a6 v7.fst.toNat 21)) fun v8 =>
 W.bind (g_pack_Encode_1_p (ri a6 v7.fst.toNat 0) (v7.snd.fst) (v7.snd.snd)) fun v9 =>
 W.bind (g_pack_Encode_1_p (ri a6 v7.fst.toNat 1) (v9.fst) (v9.snd)) fun v10 =>
 W.bind (g_pack_Encode_1_p (ri a6 v7.fst.toNat 2) (v10.fst) (v10.snd)) fun v11 =>
 W.bind (g_pack_Encode_1_p (ri a6 v7.fst.toNat 3) (v11.fst) (v11.snd)) fun v12 =>
 W.bind (g_pack_Encode_1_p (ri a6 v7.fst.toNat 4) (v12.fst) (v12.snd)) fun v13 =>
 W.bind (g_pack_Encode_1_p (ri a6 v7.fst.toNat 5) (v13.fst) (v13.snd)) fun v14 =>
 W.bind (g_pack_Encode_1_p (ri a6 v7.fst.toNat 6) (v14.fst) (v14.snd)) fun v15 =>
 W.bind (g_pack_Encode_1_p (ri a6 v7.fst.toNat 7) (v15.fst) (v15.snd)) fun v16 =>
 W.bind (g_pack_Encode_1_p (ri a6 v7.fst.toNat 8) (v16.fst) (v16.snd)) fun v17 =>
 W.bind (g_pack_Encode_1_p (ri a6 v7.fst.toNat 9) (v17.fst) (v17.snd)) fun v18 =>
 W.bind (g_pack_Encode_1_p (ri a6 v7.fst.toNat 10) (v18.fst) (v18.snd)) fun v19 =>
 W.bind (g_pack_Encode_1_p (ri a6 v7.fst.toNat 11) (v19.fst) (v19.snd)) fun v20 =>
 W.bind (g_pack_lists (v20.fst) (v20.snd) (ri a6 v7.fst.toNat 0) (ri a6 v7.fst.toNat 1) (ri a6 v7.fst.toNat 2) (ri a6 v7.fst.toNat 3) (ri a6 v7.fst.toNat 4) (ri a6 v7.fst.toNat 5) (ri a6 v7.fst.toNat 6) (ri a6 v7.fst.toNat 7) (ri a6 v7.fst.toNat 8) (ri a6 v7.fst.toNat 9) (ri a6 v7.fst.toNat 10) (ri a6 v7.fst.toNat 11) (rn a6 v7.fst.toNat 12) (rr a6 v7.fst.toNat 12) (rn a6 v7.fst.toNat 13) (rr a6 v7.fst.toNat 13) (ri a6 v7.fst.toNat 14) (ri a6 v7.fst.toNat 15) (ri a6 v7.fst.toNat 16) (ri a6 v7.fst.toNat 17) (ri a6 v7.fst.toNat 18) (ri a6 v7.fst.toNat 19) (ri a6 v7.fst.toNat 20) (ri a6 v7.fst.toNat 21)) fun v21 =>
 W.bind (g_pack_scales_p (ri a6 v7.fst.toNat 0) (ri a6 v7.fst.toNat 1) (ri a6 v7.fst.toNat 2) (ri a6 v7.fst.toNat 3) (ri a6 v7.fst.toNat 4) (ri a6 v7.fst.toNat 5) (ri a6 v7.fst.toNat 6) (ri a6 v7.fst.toNat 7) (ri a6 v7.fst.toNat 8) (ri a6 v7.fst.toNat 9) (ri a6 v7.fst.toNat 10) (ri a6 v7.fst.toNat 11) (rn a6 v7.fst.toNat 12) (rr a6 v7.fst.toNat 12) (rn a6 v7.fst.toNat 13) (rr a6 v7.fst.toNat 13) (ri a6 v7.fst.toNat 14) (ri a6 v7.fst.toNat 15) (ri a6 v7.fst.toNat 16) (ri a6 v7.fst.toNat 17) (ri a6 v7.fst.toNat 18) (ri a6 v7.fst.toNat 19) (ri a6 v7.fst.toNat 20) (ri a6 v7.fst.toNat 21)) fun v22 =>
 W.bind (g_pack_Encode_1_p (ri a6 v7.fst.toNat 14) (v21.fst) (v21.snd)) fun v23 =>
 W.bind (g_pack_Encode_1_p (ri a6 v7.fst.toNat 15) (v23.fst) (v23.snd)) fun v24 =>
 W.bind (g_pack_Encode_1_p (ri a6 v7.fst.toNat 16) (v24.fst) (v24.snd)) fun v25 =>
 W.bind (g_pack_Encode_1_p (ri a6 v7.fst.toNat 17) (v25.fst) (v25.snd)) fun v26 =>
 W.bind (g_pack_ends_p (ri a6 v7.fst.toNat 0) (ri a6 v7.fst.toNat 1) (ri a6 v7.fst.toNat 2) (ri a6 v7.fst.toNat 3) (ri a6 v7.fst.toNat 4) (ri a6 v7.fst.toNat 5) (ri a6 v7.fst.toNat 6) (ri a6 v7.fst.toNat 7) (ri a6 v7.fst.toNat 8) (ri a6 v7.fst.toNat 9) (ri a6 v7.fst.toNat 10) (ri a6 v7.fst.toNat 11) (rn a6 v7.fst.toNat 12) (rr a6 v7.fst.toNat 12) (rn a6 v7.fst.toNat 13) (rr a6 v7.fst.toNat 13) (ri a6 v7.fst.toNat 14) (ri a6 v7.fst.toNat 15) (ri a6 v7.fst.toNat 16) (ri a6 v7.fst.toNat 17) (ri a6 v7.fst.toNat 18) (ri a6 v7.fst.toNat 19) (ri a6 v7.fst.toNat 20) (ri a6 v7.fst.toNat 21)) fun v27 =>
 W.bind (g_pack_Encode_2_p (ri a6 v7.fst.toNat 18) (v26.fst) (v26.snd)) fun v28 =>
 W.bind (g_pack_Encode_2_p (ri a6 v7.fst.toNat 19) (v28.fst) (v28.snd)) fun v29 =>
 W.bind (g_pack_Encode_2_p (ri a6 v7.fst.toNat 20) (v29.fst) (v29.snd)) fun v30 =>
 W.bind (g_pack_Encode_2_p (ri a6 v7.fst.toNat 21) (v30.fst) (v30.snd)) fun v31 =>
 W.ret (Sum.inl (IntKind.i64.wrap (v7.fst + 1), v31.fst, v31.snd)))
 (W.ret (Sum.inr (v7.snd.fst, v7.snd.snd)))) (0, v6.fst, v6.snd))
 (fun v32 =>
 W.bind (g_pack_Encode_1_p (a7) (v32.fst) (v32.snd)) fun v33 =>
 W.ret (0, 0, 0, v33.fst, v33.snd)))

/-- spillway/spillwayref05.dim -/
def g_ref05_dim (a0 : Int) : W (Bool) :=
 W.ret (decide (1 ≤ a0) && decide (a0 ≤ 1024))

/-- spillway/spillwayref05.Valid -/
def g_ref05_Valid (a0 : Int) (a1 : Int) (a2 : Int) : W (Bool) :=
 W.bind (α := Bool) (W.bind (g_ref05_dim (a0)) fun v0 =>
 W.ite (v0) (W.bind (g_ref05_dim (a1)) fun v1 =>
 W.ite (v1) (W.bind (g_ref05_dim (a2)) fun v2 =>
 W.ret (v2 && decide (IntKind.i64.wrap (IntKind.i64.wrap (a0 * a1) * a2) ≤ 16384)))
 (W.ret false))
 (W.ret false))
 fun v3 =>
 W.ret v3

/-- spillway/spillwayref08.values -/
def g_ref08_values (a0 : Int) : W (Bool) :=
 W.ret (decide (-128 ≤ a0) && decide (a0 ≤ 127))

/-- spillway/spillwayref08.Weighs -/
def g_ref08_Weighs (a0 : Int) : W (Bool) :=
 W.ret (decide (1 ≤ a0) && decide (a0 ≤ 3))

/-- spillway/spillwayref08.Scales -/
def g_ref08_Scales (a0 : Int) : W (Bool) :=
 W.ret (decide (1 ≤ a0) && decide (a0 ≤ 3) || a0 == 6 || a0 == 7)

/-- spillway/spillwayref08.Slides -/
def g_ref08_Slides (a0 : Int) : W (Bool) :=
 W.ret (decide (2 ≤ a0) && decide (a0 ≤ 5))

/-- spillway/spillwayref08.spare -/
def g_ref08_spare (a0 : Int) (a1 : Int) (a2 : Int) (a3 : Int) (a4 : Int) (a5 : Int) (a6 : Int) (a7 : Int) (a8 : Int) (a9 : Int) (a10 : Int) (a11 : Int) (a12 : Bool) (a13 : Rws) (a14 : Bool) (a15 : Rws) (a16 : Int) (a17 : Int) (a18 : Int) (a19 : Int) (a20 : Int) (a21 : Int) (a22 : Int) (a23 : Int) : W (Bool) :=
 W.ite (a0 != 6 && (a2 != 0 || !(a18 == 0 && a19 == 0))) (W.ret false)
 (W.bind (α := Bool) (W.ite (decide (2 < a0) && a3 != 0) (W.ret true)
 (W.bind (g_ref08_Weighs (a0)) fun v0 =>
 W.ite (!v0 && decide (0 < IntKind.i64.wrap ((↑(List.length a13) : Int) + (↑(List.length a15) : Int)))) (W.ret true)
 (W.bind (g_ref08_Scales (a0)) fun v1 =>
 W.ret (!v1 && (!(a16 == 0 && a17 == 0) || a20 != 0)))))
 fun v2 =>
 W.ite (v2) (W.ret false)
 (W.bind (g_ref08_Slides (a0)) fun v3 =>
 W.ite (!v3 && !(a4 == 0 && (a5 == 0 && (a6 == 0 && (a7 == 0 && (a8 == 0 && (a9 == 0 && (a10 == 0 && a11 == 0))))))) || a0 != 2 && a0 != 3 && a21 != 0) (W.ret false)
 (W.ret (a0 != 4 && a0 != 5 || a8 == 0 && a9 == 0 && a10 == 0 && a11 == 0))))

/-- spillway/spillwayref06.in -/
def g_ref06_in (a0 : Int) (a1 : Int) (a2 : Int) : W (Bool) :=
 W.ret (decide (a1 ≤ a0) && decide (a0 ≤ a2))

/-- spillway/spillwayref06.Valid -/
def g_ref06_Valid (a0 : Int) (a1 : Int) (a2 : Int) (a3 : Int) (a4 : Int) (a5 : Int) (a6 : Int) (a7 : Int) : W (Bool) :=
 W.bind (α := Bool) (W.bind (g_ref06_in (a0) (1) (32)) fun v0 =>
 W.ite (v0) (W.bind (g_ref06_in (a1) (1) (32)) fun v1 =>
 W.ite (v1) (W.bind (g_ref06_in (a2) (1) (32)) fun v2 =>
 W.ite (v2) (W.bind (g_ref06_in (a3) (1) (32)) fun v3 =>
 W.ite (v3) (W.bind (g_ref06_in (a4) (0) (IntKind.i64.wrap (a0 - 1))) fun v4 =>
 W.ite (v4) (W.bind (g_ref06_in (a6) (0) (IntKind.i64.wrap (a0 - 1))) fun v5 =>
 W.ite (v5) (W.bind (g_ref06_in (a5) (0) (IntKind.i64.wrap (a1 - 1))) fun v6 =>
 W.ite (v6) (W.bind (g_ref06_in (a7) (0) (IntKind.i64.wrap (a1 - 1))) fun v7 =>
 W.ret v7)
 (W.ret false))
 (W.ret false))
 (W.ret false))
 (W.ret false))
 (W.ret false))
 (W.ret false))
 (W.ret false))
 fun v8 =>
 W.ret v8

/-- spillway/spillwayref06.count -/
def g_ref06_count (a0 : Int) (a1 : Int) (a2 : Int) : W (Int) :=
 W.bind (W.loop (σ := Int × Int) (ε := Int) (fun v0 =>
 W.ite (decide (IntKind.i64.wrap (v0.snd + a1) ≤ a0)) (W.ret (Sum.inl (IntKind.i64.wrap (v0.fst + 1), IntKind.i64.wrap (v0.snd + a2))))
 (W.ret (Sum.inr v0.fst))) (0, 0))
 (fun v1 =>
 W.ret v1)

/-- spillway/spillwayref06.Out -/
def g_ref06_Out (a0 : Int) (a1 : Int) (a2 : Int) (a3 : Int) (a4 : Int) (a5 : Int) (a6 : Int) (a7 : Int) (a8 : Int) (a9 : Int) (a10 : Int) : W (Int × Int × Int) :=
 W.bind (g_ref05_Valid (a0) (a1) (a2)) fun v0 =>
 W.ite (!v0) (W.ret (0, 0, 50))
 (W.bind (g_ref06_Valid (a3) (a4) (a5) (a6) (a7) (a8) (a9) (a10)) fun v1 =>
 W.ite (!v1) (W.ret (0, 0, 60))
 (W.bind (g_ref06_count (IntKind.i64.wrap (IntKind.i64.wrap (a0 + a7) + a9)) (a3) (a5)) fun v2 =>
 W.bind (g_ref06_count (IntKind.i64.wrap (IntKind.i64.wrap (a1 + a8) + a10)) (a4) (a6)) fun v3 =>
 W.ite (v2 == 0 || v3 == 0) (W.ret (0, 0, 60))
 (W.ret (v2, v3, 0))))

/-- spillway/spillwayref08.Makes -/
def g_ref08_Makes (a0 : Int) (a1 : Int) (a2 : Int) (a3 : Int) (a4 : Int) (a5 : Int) (a6 : Int) (a7 : Int) (a8 : Int) (a9 : Int) (a10 : Int) (a11 : Int) (a12 : Bool) (a13 : Rws) (a14 : Bool) (a15 : Rws) (a16 : Int) (a17 : Int) (a18 : Int) (a19 : Int) (a20 : Int) (a21 : Int) (a22 : Int) (a23 : Int) (a24 : Int) (a25 : Int) (a26 : Int) : W (Int × Int × Int × Int) :=
 W.bind (α := Int × Int × Int) (W.ite (a0 == 1) (W.ret (1, 1, a3))
 (W.ret (a24, a25, a26)))
 fun v0 =>
 W.bind (α := (Int × Int × Int) ⊕ (Int × Int × Int × Int)) (W.bind (g_ref08_Slides (a0)) fun v1 =>
 W.ite (v1) (W.bind (g_ref06_Out (a24) (a25) (a26) (a4) (a5) (a6) (a7) (a8) (a9) (a10) (a11)) fun v2 =>
 W.ite (v2.snd.snd != 0) (W.ret (Sum.inr (0, 0, 0, v2.snd.snd)))
 (W.ite (a0 == 2) (W.ret (Sum.inl (v2.fst, v2.snd.fst, a3)))
 (W.ret (Sum.inl (v2.fst, v2.snd.fst, v0.snd.snd)))))
 (W.ret (Sum.inl (v0.fst, v0.snd.fst, v0.snd.snd))))
 (W.els fun v3 =>
 W.ret (v3.fst, v3.snd.fst, v3.snd.snd, 0))

/-- spillway/spillwayref08.Reduces -/
def g_ref08_Reduces (a0 : Int) : W (Bool) :=
 W.ret (decide (1 ≤ a0) && decide (a0 ≤ 4))

/-- spillway/spillwayref08.Length -/
def g_ref08_Length (a0 : Int) (a1 : Int) (a2 : Int) (a3 : Int) (a4 : Int) (a5 : Int) (a6 : Int) (a7 : Int) (a8 : Int) (a9 : Int) (a10 : Int) (a11 : Int) (a12 : Bool) (a13 : Rws) (a14 : Bool) (a15 : Rws) (a16 : Int) (a17 : Int) (a18 : Int) (a19 : Int) (a20 : Int) (a21 : Int) (a22 : Int) (a23 : Int) (a24 : Int) (a25 : Int) (a26 : Int) : W (Int) :=
 W.ite (a0 == 1) (W.ret (IntKind.i64.wrap (IntKind.i64.wrap (a24 * a25) * a26)))
 (W.ite (a0 == 2) (W.ret (IntKind.i64.wrap (IntKind.i64.wrap (a4 * a5) * a26)))
 (W.ret (IntKind.i64.wrap (a4 * a5))))

/-- spillway/spillwayref08.Lists -/
def g_ref08_Lists (a0 : Int) (a1 : Int) (a2 : Int) (a3 : Int) (a4 : Int) (a5 : Int) (a6 : Int) (a7 : Int) (a8 : Int) (a9 : Int) (a10 : Int) (a11 : Int) (a12 : Bool) (a13 : Rws) (a14 : Bool) (a15 : Rws) (a16 : Int) (a17 : Int) (a18 : Int) (a19 : Int) (a20 : Int) (a21 : Int) (a22 : Int) (a23 : Int) (a24 : Int) (a25 : Int) (a26 : Int) : W (Int × Int) :=
 W.bind (α := Bool) (W.ite (a0 == 1) (W.ret (a0 == 1))
 (W.ret (a0 == 2)))
 fun v0 =>
 W.ite (v0) (W.bind (g_ref08_Length (a0) (a1) (a2) (a3) (a4) (a5) (a6) (a7) (a8) (a9) (a10) (a11) (a12) (a13) (a14) (a15) (a16) (a17) (a18) (a19) (a20) (a21) (a22) (a23) (a24) (a25) (a26)) fun v1 =>
 W.ret (IntKind.i64.wrap (a3 * v1), a3))
 (W.ite (a0 == 3) (W.bind (g_ref08_Length (a0) (a1) (a2) (a3) (a4) (a5) (a6) (a7) (a8) (a9) (a10) (a11) (a12) (a13) (a14) (a15) (a16) (a17) (a18) (a19) (a20) (a21) (a22) (a23) (a24) (a25) (a26)) fun v2 =>
 W.ret (IntKind.i64.wrap (a26 * v2), a26))
 (W.ret (0, 0)))

/-- spillway/spillwayref02.Valid -/
def g_ref02_Valid (a0 : Int) (a1 : Int) : W (Bool) :=
 W.ret (decide (1 ≤ a0) && decide (a0 ≤ 2147483647) && decide (0 ≤ a1) && decide (a1 ≤ 62))

/-- spillway/spillwayref08.one -/
def g_ref08_one (a0 : Int) (a1 : Int) (a2 : Int) (a3 : Int) (a4 : Int) (a5 : Int) (a6 : Int) (a7 : Int) (a8 : Int) (a9 : Int) (a10 : Int) (a11 : Int) (a12 : Bool) (a13 : Rws) (a14 : Bool) (a15 : Rws) (a16 : Int) (a17 : Int) (a18 : Int) (a19 : Int) (a20 : Int) (a21 : Int) (a22 : Int) (a23 : Int) (a24 : Int) (a25 : Bool) (a26 : Rws) : W (Int × Int × Int × Int) :=
 W.ite (decide (a0 < 1) || decide (8 < a0)) (W.ret (0, 0, 0, 81))
 (W.ite (decide (a1 < 0) || decide (a24 ≤ a1) || a0 == 6 && (decide (a2 < 0) || decide (a24 ≤ a2))) (W.ret (0, 0, 0, 82))
 (W.bind (g_ref08_spare (a0) (a1) (a2) (a3) (a4) (a5) (a6) (a7) (a8) (a9) (a10) (a11) (a12) (a13) (a14) (a15) (a16) (a17) (a18) (a19) (a20) (a21) (a22) (a23)) fun v0 =>
 W.ite (!v0) (W.ret (0, 0, 0, 83))
 (W.ite (decide (a0 ≤ 2) && (decide (a3 < 1) || decide (1024 < a3))) (W.ret (0, 0, 0, 2))
 (W.need (0 ≤ a1 ∧ a1 < (↑(List.length a26) : Int)) <|
 W.bind (g_ref08_Makes (a0) (a1) (a2) (a3) (a4) (a5) (a6) (a7) (a8) (a9) (a10) (a11) (a12) (a13) (a14) (a15) (a16) (a17) (a18) (a19) (a20) (a21) (a22) (a23) (ri a26 a1.toNat 0) (ri a26 a1.toNat 1) (ri a26 a1.toNat 2)) fun v1 =>
 W.ite (v1.snd.snd.snd != 0) (W.ret (0, 0, 0, v1.snd.snd.snd))
 (W.bind (α := Bool) (W.need ((a0 == 6) = true ∧ True → 0 ≤ a2 ∧ a2 < (↑(List.length a26) : Int)) <|
 W.ite (a0 == 6 && !(ri a26 a2.toNat 0 == ri a26 a1.toNat 0 && (ri a26 a2.toNat 1 == ri a26 a1.toNat 1 && ri a26 a2.toNat 2 == ri a26 a1.toNat 2))) (W.ret true)
 (W.bind (g_ref05_Valid (v1.fst) (v1.snd.fst) (v1.snd.snd.fst)) fun v2 =>
 W.ret !v2))
 fun v3 =>
 W.ite (v3) (W.ret (0, 0, 0, 50))
 (W.bind (α := Bool) (W.bind (g_ref08_Reduces (a0)) fun v4 =>
 W.ite (v4) (W.bind (g_ref08_Length (a0) (a1) (a2) (a3) (a4) (a5) (a6) (a7) (a8) (a9) (a10) (a11) (a12) (a13) (a14) (a15) (a16) (a17) (a18) (a19) (a20) (a21) (a22) (a23) (ri a26 a1.toNat 0) (ri a26 a1.toNat 1) (ri a26 a1.toNat 2)) fun v5 =>
 W.ret (decide (512 < v5)))
 (W.ret false))
 fun v6 =>
 W.ite (v6) (W.ret (0, 0, 0, 84))
 (W.bind (g_ref08_Lists (a0) (a1) (a2) (a3) (a4) (a5) (a6) (a7) (a8) (a9) (a10) (a11) (a12) (a13) (a14) (a15) (a16) (a17) (a18) (a19) (a20) (a21) (a22) (a23) (ri a26 a1.toNat 0) (ri a26 a1.toNat 1) (ri a26 a1.toNat 2)) fun v7 =>
 W.ite ((↑(List.length a13) : Int) != v7.fst || (↑(List.length a15) : Int) != v7.snd) (W.ret (0, 0, 0, 70))
 (W.bind (α := Bool) (W.bind (g_ref08_Scales (a0)) fun v8 =>
 W.ite (v8) (W.bind (g_ref02_Valid (a16) (a17)) fun v9 =>
 W.ite (!v9) (W.ret true)
 (W.ite (a0 == 6) (W.bind (g_ref02_Valid (a18) (a19)) fun v10 =>
 W.ret !v10)
 (W.ret false)))
 (W.ite (a0 == 6) (W.bind (g_ref02_Valid (a18) (a19)) fun v11 =>
 W.ret !v11)
 (W.ret false)))
 fun v12 =>
 W.ite (v12) (W.ret (0, 0, 0, 20))
 (W.bind (α := Bool) (W.bind (g_ref08_values (a22)) fun v13 =>
 W.ite (!v13) (W.ret true)
 (W.bind (g_ref08_values (a23)) fun v14 =>
 W.ite (!v14 || decide (a23 < a22)) (W.ret true)
 (W.bind (g_ref08_values (a20)) fun v15 =>
 W.ite (!v15) (W.ret true)
 (W.bind (g_ref08_values (a21)) fun v16 =>
 W.ret !v16))))
 fun v17 =>
 W.ite (v17) (W.ret (0, 0, 0, 85))
 (W.ret (v1.fst, v1.snd.fst, v1.snd.snd.fst, 0)))))))))))

/-- spillway/spillwayref08.Labour -/
def g_ref08_Labour (a0 : Int) (a1 : Int) (a2 : Int) (a3 : Int) (a4 : Int) (a5 : Int) (a6 : Int) (a7 : Int) (a8 : Int) (a9 : Int) (a10 : Int) (a11 : Int) (a12 : Bool) (a13 : Rws) (a14 : Bool) (a15 : Rws) (a16 : Int) (a17 : Int) (a18 : Int) (a19 : Int) (a20 : Int) (a21 : Int) (a22 : Int) (a23 : Int) (a24 : Int) (a25 : Int) (a26 : Int) (a27 : Int) (a28 : Int) (a29 : Int) : W (Int) :=
 W.bind (g_ref08_Reduces (a0)) fun v0 =>
 W.ite (v0) (W.bind (g_ref08_Length (a0) (a1) (a2) (a3) (a4) (a5) (a6) (a7) (a8) (a9) (a10) (a11) (a12) (a13) (a14) (a15) (a16) (a17) (a18) (a19) (a20) (a21) (a22) (a23) (a24) (a25) (a26)) fun v1 =>
 W.ret (IntKind.i64.wrap (IntKind.i64.wrap (IntKind.i64.wrap (a27 * a28) * a29) * v1)))
 (W.ite (a0 == 5) (W.ret (IntKind.i64.wrap (IntKind.i64.wrap (IntKind.i64.wrap (IntKind.i64.wrap (a27 * a28) * a29) * a4) * a5)))
 (W.ret (IntKind.i64.wrap (IntKind.i64.wrap (a27 * a28) * a29))))

/-- spillway/spillwayref08.Look -/
def g_ref08_Look (a0 : Int) (a1 : Int) (a2 : Int) (a3 : Int) (a4 : Int) (a5 : Bool) (a6 : Rws) (a7 : Int) : W (Int × Int × Int × Int × Bool × Rws) :=
 W.bind (α := Int) (W.bind (g_ref05_Valid (a0) (a1) (a2)) fun v0 =>
 W.ite (!v0) (W.ret 50)
 (W.bind (α := Bool) (W.bind (g_ref08_values (a3)) fun v1 =>
 W.ite (!v1) (W.ret true)
 (W.bind (g_ref08_values (a4)) fun v2 =>
 W.ret (!v2 || decide (a4 < a3))))
 fun v3 =>
 W.ite (v3) (W.ret 85)
 (W.ite (decide (64 < (↑(List.length a6) : Int))) (W.ret 80)
 (W.ite (decide (a7 < 0) || decide ((↑(List.length a6) : Int) < a7)) (W.ret 3)
 (W.ret 0)))))
 fun v4 =>
 W.ite (v4 != 0) (W.ret (0, v4, 0, 0, true, []))
 (W.bind (W.loop (σ := Int × Int × Rws) (ε := (Int × Int) ⊕ (Int × Rws)) (fun v5 =>
 W.ite (decide (v5.snd.fst < (↑(List.length a6) : Int))) (W.need (0 ≤ v5.snd.fst ∧ v5.snd.fst < (↑(List.length a6) : Int)) <|
 W.bind (g_ref08_one (ri a6 v5.snd.fst.toNat 0) (ri a6 v5.snd.fst.toNat 1) (ri a6 v5.snd.fst.toNat 2) (ri a6 v5.snd.fst.toNat 3) (ri a6 v5.snd.fst.toNat 4) (ri a6 v5.snd.fst.toNat 5) (ri a6 v5.snd.fst.toNat 6) (ri a6 v5.snd.fst.toNat 7) (ri a6 v5.snd.fst.toNat 8) (ri a6 v5.snd.fst.toNat 9) (ri a6 v5.snd.fst.toNat 10) (ri a6 v5.snd.fst.toNat 11) (rn a6 v5.snd.fst.toNat 12) (rr a6 v5.snd.fst.toNat 12) (rn a6 v5.snd.fst.toNat 13) (rr a6 v5.snd.fst.toNat 13) (ri a6 v5.snd.fst.toNat 14) (ri a6 v5.snd.fst.toNat 15) (ri a6 v5.snd.fst.toNat 16) (ri a6 v5.snd.fst.toNat 17) (ri a6 v5.snd.fst.toNat 18) (ri a6 v5.snd.fst.toNat 19) (ri a6 v5.snd.fst.toNat 20) (ri a6 v5.snd.fst.toNat 21) (IntKind.i64.wrap (v5.snd.fst + 1)) (false) (v5.snd.snd)) fun v6 =>
 W.ite (v6.snd.snd.snd != 0) (W.ret (Sum.inr (Sum.inl (v6.snd.snd.snd, IntKind.i64.wrap (v5.snd.fst + 1)))))
 (W.need (0 ≤ ri a6 v5.snd.fst.toNat 1 ∧ ri a6 v5.snd.fst.toNat 1 < (↑(List.length v5.snd.snd) : Int)) <|
 W.bind (g_ref08_Labour (ri a6 v5.snd.fst.toNat 0) (ri a6 v5.snd.fst.toNat 1) (ri a6 v5.snd.fst.toNat 2) (ri a6 v5.snd.fst.toNat 3) (ri a6 v5.snd.fst.toNat 4) (ri a6 v5.snd.fst.toNat 5) (ri a6 v5.snd.fst.toNat 6) (ri a6 v5.snd.fst.toNat 7) (ri a6 v5.snd.fst.toNat 8) (ri a6 v5.snd.fst.toNat 9) (ri a6 v5.snd.fst.toNat 10) (ri a6 v5.snd.fst.toNat 11) (rn a6 v5.snd.fst.toNat 12) (rr a6 v5.snd.fst.toNat 12) (rn a6 v5.snd.fst.toNat 13) (rr a6 v5.snd.fst.toNat 13) (ri a6 v5.snd.fst.toNat 14) (ri a6 v5.snd.fst.toNat 15) (ri a6 v5.snd.fst.toNat 16) (ri a6 v5.snd.fst.toNat 17) (ri a6 v5.snd.fst.toNat 18) (ri a6 v5.snd.fst.toNat 19) (ri a6 v5.snd.fst.toNat 20) (ri a6 v5.snd.fst.toNat 21) (ri v5.snd.snd (ri a6 v5.snd.fst.toNat 1).toNat 0) (ri v5.snd.snd (ri a6 v5.snd.fst.toNat 1).toNat 1) (ri v5.snd.snd (ri a6 v5.snd.fst.toNat 1).toNat 2) (v6.fst) (v6.snd.fst) (v6.snd.snd.fst)) fun v7 =>
 W.ite (decide (131072 < IntKind.i64.wrap (v5.fst + v7))) (W.ret (Sum.inr (Sum.inl (86, IntKind.i64.wrap (v5.snd.fst + 1)))))
 (W.need ((List.length v5.snd.snd + 1) * 24 ≤ 140737488355328) <|
 W.ret (Sum.inl (IntKind.i64.wrap (v5.fst + v7), IntKind.i64.wrap (v5.snd.fst + 1), v5.snd.snd ++ [[I v6.fst, I v6.snd.fst, I v6.snd.snd.fst]])))))
 (W.ret (Sum.inr (Sum.inr (v5.fst, v5.snd.snd))))) (0, 0, [[I a0, I a1, I a2]]))
 (W.sum (fun v8 =>
 W.ret (0, v8.fst, v8.snd, 0, true, [])) (fun v9 =>
 W.ret (v9.fst, 0, 0, 0, false, v9.snd))))

/-- spillway/spillwayref08.Check -/
def g_ref08_Check (a0 : Int) (a1 : Int) (a2 : Int) (a3 : Int) (a4 : Int) (a5 : Bool) (a6 : Rws) (a7 : Int) : W (Int × Int × Int) :=
 W.bind (g_ref08_Look (a0) (a1) (a2) (a3) (a4) (a5) (a6) (a7)) fun v0 =>
 W.ret (v0.snd.fst, v0.snd.snd.fst, v0.snd.snd.snd.fst)

/-- spillway/spillwayref04.U -/
def g_ref04_U (a0 : Int) : W (Bool × Rws) :=
 W.bind (W.loop (σ := Int × Bool × Rws) (ε := Int × Bool × Rws) (fun v0 =>
 W.ite (decide (128 ≤ v0.fst)) (W.need ((List.length v0.snd.snd + 1) * 1 ≤ 140737488355328) <|
 W.ret (Sum.inl (IntKind.u64.wrap (v0.fst.tdiv 128), v0.snd.fst && false, v0.snd.snd ++ [[I (IntKind.u8.wrap (IntKind.u64.wrap (v0.fst.tmod 128 + 128)))]])))
 (W.ret (Sum.inr (v0.fst, v0.snd.fst, v0.snd.snd)))) (a0, true, []))
 (fun v1 =>
 W.need ((List.length v1.snd.snd + 1) * 1 ≤ 140737488355328) <|
 W.ret (v1.snd.fst && false, v1.snd.snd ++ [[I (IntKind.u8.wrap v1.fst)]]))

/-- spillway/spillwayref09.us -/
def g_ref09_us_o (a0 : Bool) (a1 : Rws) (a2 : Bool) (a3 : Rws) : W (Bool × Rws) :=
 W.bind (W.loop (σ := Int × Bool × Rws) (ε := Bool × Rws) (fun v0 =>
 W.ite (decide (v0.fst < (↑(List.length a1) : Int))) (W.need (0 ≤ v0.fst ∧ v0.fst < (↑(List.length a1) : Int)) <|
 W.bind (g_ref04_U (IntKind.u64.wrap (ri a1 v0.fst.toNat 0))) fun v1 =>
 W.need ((List.length v0.snd.snd + List.length v1.snd) * 1 ≤ 140737488355328) <|
 W.ret (Sum.inl (IntKind.i64.wrap (v0.fst + 1), v0.snd.fst && List.isEmpty v1.snd, v0.snd.snd ++ v1.snd)))
 (W.ret (Sum.inr (v0.snd.fst, v0.snd.snd)))) (0, a2, a3))
 (fun v2 =>
 W.ret (v2.fst, v2.snd))

/-- spillway/spillwayref04.Fold -/
def g_ref04_Fold (a0 : Int) : W (Int) :=
 W.ite (decide (0 ≤ a0)) (W.ret (IntKind.u64.wrap (2 * IntKind.u64.wrap a0)))
 (W.ret (IntKind.u64.wrap (IntKind.u64.wrap (2 * IntKind.u64.wrap (IntKind.i64.wrap (0 - IntKind.i64.wrap (a0 + 1)))) + 1)))

/-- spillway/spillwayref04.S -/
def g_ref04_S (a0 : Int) : W (Bool × Rws) :=
 W.bind (g_ref04_Fold (a0)) fun v0 =>
 W.bind (g_ref04_U (v0)) fun v1 =>
 W.ret (v1.fst, v1.snd)

/-- spillway/spillwayref09.ss -/
def g_ref09_ss_o (a0 : Bool) (a1 : Rws) (a2 : Bool) (a3 : Rws) : W (Bool × Rws) :=
 W.bind (W.loop (σ := Int × Bool × Rws) (ε := Bool × Rws) (fun v0 =>
 W.ite (decide (v0.fst < (↑(List.length a1) : Int))) (W.need (0 ≤ v0.fst ∧ v0.fst < (↑(List.length a1) : Int)) <|
 W.bind (g_ref04_S (ri a1 v0.fst.toNat 0)) fun v1 =>
 W.need ((List.length v0.snd.snd + List.length v1.snd) * 1 ≤ 140737488355328) <|
 W.ret (Sum.inl (IntKind.i64.wrap (v0.fst + 1), v0.snd.fst && List.isEmpty v1.snd, v0.snd.snd ++ v1.snd)))
 (W.ret (Sum.inr (v0.snd.fst, v0.snd.snd)))) (0, a2, a3))
 (fun v2 =>
 W.ret (v2.fst, v2.snd))

/-- spillway/spillwayref09.Bytes -/
def g_ref09_Bytes (a0 : Int) (a1 : Int) (a2 : Int) (a3 : Int) (a4 : Int) (a5 : Bool) (a6 : Rws) (a7 : Int) : W (Bool × Rws) :=
 W.bind (g_ref09_us_o (false) ([[I a0], [I a1], [I a2]]) (false) ([[I 83], [I 87], [I 77], [I 49]])) fun v0 =>
 W.bind (g_ref09_ss_o (false) ([[I a3], [I a4]]) (v0.fst) (v0.snd)) fun v1 =>
 W.bind (g_ref09_us_o (false) ([[I (↑(List.length a6) : Int)]]) (v1.fst) (v1.snd)) fun v2 =>
 W.bind (W.loop (σ := Int × Bool × Rws) (ε := Bool × Rws) (fun v3 =>
 W.ite (decide (v3.fst < (↑(List.length a6) : Int))) (W.need (0 ≤ v3.fst ∧ v3.fst < (↑(List.length a6) : Int)) <|
 W.bind (g_ref09_us_o (false) ([[I (ri a6 v3.fst.toNat 0)], [I (ri a6 v3.fst.toNat 1)], [I (ri a6 v3.fst.toNat 2)], [I (ri a6 v3.fst.toNat 3)], [I (ri a6 v3.fst.toNat 4)], [I (ri a6 v3.fst.toNat 5)], [I (ri a6 v3.fst.toNat 6)], [I (ri a6 v3.fst.toNat 7)], [I (ri a6 v3.fst.toNat 8)], [I (ri a6 v3.fst.toNat 9)], [I (ri a6 v3.fst.toNat 10)], [I (ri a6 v3.fst.toNat 11)], [I (↑(List.length (rr a6 v3.fst.toNat 12)) : Int)]]) (v3.snd.fst) (v3.snd.snd)) fun v4 =>
 W.bind (W.loop (σ := Int × Bool × Rws) (ε := Int × Bool × Bool × Rws) (fun v5 =>
 W.ite (decide (v5.fst < (↑(List.length (rr a6 v3.fst.toNat 12)) : Int))) (W.need (0 ≤ v5.fst ∧ v5.fst < (↑(List.length (rr a6 v3.fst.toNat 12)) : Int)) <|
 W.bind (g_ref09_ss_o (false) ([[I (IntKind.i64.wrap (ri (rr a6 v3.fst.toNat 12) v5.fst.toNat 0))]]) (v5.snd.fst) (v5.snd.snd)) fun v6 =>
 W.ret (Sum.inl (IntKind.i64.wrap (v5.fst + 1), v6.fst, v6.snd)))
 (W.ret (Sum.inr (v5.fst, decide (v5.fst < (↑(List.length (rr a6 v3.fst.toNat 12)) : Int)), v5.snd.fst, v5.snd.snd)))) (0, v4.fst, v4.snd))
 (fun v7 =>
 W.bind (g_ref09_us_o (false) ([[I (↑(List.length (rr a6 v3.fst.toNat 13)) : Int)]]) (v7.snd.snd.fst) (v7.snd.snd.snd)) fun v8 =>
 W.bind (W.loop (σ := Int × Bool × Rws) (ε := Int × Bool × Bool × Rws) (fun v9 =>
 W.ite (decide (v9.fst < (↑(List.length (rr a6 v3.fst.toNat 13)) : Int))) (W.need (0 ≤ v9.fst ∧ v9.fst < (↑(List.length (rr a6 v3.fst.toNat 13)) : Int)) <|
 W.bind (g_ref09_ss_o (false) ([[I (IntKind.i64.wrap (ri (rr a6 v3.fst.toNat 13) v9.fst.toNat 0))]]) (v9.snd.fst) (v9.snd.snd)) fun v10 =>
 W.ret (Sum.inl (IntKind.i64.wrap (v9.fst + 1), v10.fst, v10.snd)))
 (W.ret (Sum.inr (v9.fst, decide (v9.fst < (↑(List.length (rr a6 v3.fst.toNat 13)) : Int)), v9.snd.fst, v9.snd.snd)))) (0, v8.fst, v8.snd))
 (fun v11 =>
 W.bind (g_ref09_us_o (false) ([[I (ri a6 v3.fst.toNat 14)], [I (ri a6 v3.fst.toNat 15)], [I (ri a6 v3.fst.toNat 16)], [I (ri a6 v3.fst.toNat 17)]]) (v11.snd.snd.fst) (v11.snd.snd.snd)) fun v12 =>
 W.bind (g_ref09_ss_o (false) ([[I (ri a6 v3.fst.toNat 18)], [I (ri a6 v3.fst.toNat 19)], [I (ri a6 v3.fst.toNat 20)], [I (ri a6 v3.fst.toNat 21)]]) (v12.fst) (v12.snd)) fun v13 =>
 W.ret (Sum.inl (IntKind.i64.wrap (v3.fst + 1), v13.fst, v13.snd)))))
 (W.ret (Sum.inr (v3.snd.fst, v3.snd.snd)))) (0, v2.fst, v2.snd))
 (fun v14 =>
 W.bind (g_ref09_us_o (false) ([[I a7]]) (v14.fst) (v14.snd)) fun v15 =>
 W.ret (v15.fst, v15.snd))

/-- spillway/spillwayref09.Encode -/
def g_ref09_Encode (a0 : Int) (a1 : Int) (a2 : Int) (a3 : Int) (a4 : Int) (a5 : Bool) (a6 : Rws) (a7 : Int) : W (Int × Int × Int × Bool × Rws) :=
 W.bind (g_ref08_Check (a0) (a1) (a2) (a3) (a4) (a5) (a6) (a7)) fun v0 =>
 W.ite (v0.fst != 0) (W.ret (v0.fst, v0.snd.fst, v0.snd.snd, true, []))
 (W.bind (g_ref09_Bytes (a0) (a1) (a2) (a3) (a4) (a5) (a6) (a7)) fun v1 =>
 W.ret (0, 0, 0, v1.fst, v1.snd))

/-- spillway/spillwaylaw09.plain -/
def g_law09_plain : W (Int × Int × Int × Int × Int × Int × Bool × Rws × Bool × Rws) :=
 W.ret (1, 1, 2, -128, 127, 1, false, [[I 1, I 0, I 0, I 1, I 0, I 0, I 0, I 0, I 0, I 0, I 0, I 0, AV.sl false 0 [[I 3], [I (-2)]], AV.sl false 0 [[I 1]], I 1, I 0, I 0, I 0, I 0, I 0, I (-128), I 127]], false, [[I 83], [I 87], [I 77], [I 49], [I 1], [I 1], [I 2], [I 255], [I 1], [I 254], [I 1], [I 1], [I 1], [I 0], [I 0], [I 1], [I 0], [I 0], [I 0], [I 0], [I 0], [I 0], [I 0], [I 0], [I 2], [I 6], [I 3], [I 1], [I 2], [I 1], [I 0], [I 0], [I 0], [I 0], [I 0], [I 255], [I 1], [I 254], [I 1], [I 1]])

/-- (*spillway/pack.decoder).giveUp -/
def g___pack_decoder__giveUp_p (a0 : Int) (a1 : Int) : W (Int × Int × Int) :=
 W.ret (a0, a1, 0)

/-- slices.Clone[[]byte,byte] -/
def g_slices_Clone___byte_byte_ (a0 : Bool) (a1 : Rws) : W (Bool × Rws) :=
 W.ite (a0) (W.ret (true, []))
 (W.need ((0 + List.length a1) * 1 ≤ 140737488355328) <|
 W.ret (false, a1))

/-- spillway/wire.New -/
def g_wire_New (a0 : Bool) (a1 : Rws) : W (Int × Int × Bool × Rws) :=
 W.bind (g_slices_Clone___byte_byte_ (a0) (a1)) fun v0 =>
 W.ret (0, 0, v0.fst, v0.snd)

/-- math/bits.RotateLeft64 -/
def g_math_bits_RotateLeft64 (a0 : Int) (a1 : Int) : W (Int) :=
 W.need (0 ≤ ibits BinOp.and IntKind.u64 (IntKind.u64.wrap a1) 63) <|
 W.need (0 ≤ IntKind.u64.wrap (64 - ibits BinOp.and IntKind.u64 (IntKind.u64.wrap a1) 63)) <|
 W.ret (ibits BinOp.or IntKind.u64 (IntKind.u64.wrap (a0 * 2 ^ min (ibits BinOp.and IntKind.u64 (IntKind.u64.wrap a1) 63).toNat 64)) (a0.fdiv (2 ^ min (IntKind.u64.wrap (64 - ibits BinOp.and IntKind.u64 (IntKind.u64.wrap a1) 63)).toNat 64)))

/-- (*spillway/wire.cursor).peek -/
def g___wire_cursor__peek_p (a0 : Bool) (a1 : Rws) (a2 : Int) : W (Int × Int × Int) :=
 W.need (0 ≤ a2 ∧ a2 ≤ (↑(List.length a1) : Int) ∧ (↑(List.length a1) : Int) ≤ (↑(List.length a1) : Int)) <|
 W.bind (W.loop (σ := Int × Int) (ε := (Int × Int × Int) ⊕ (Unit)) (fun v0 =>
 W.ite (decide (v0.snd < (↑(List.take ((↑(List.length a1) : Int) - a2).toNat (List.drop a2.toNat a1)).length : Int))) (W.need (0 ≤ v0.snd ∧ v0.snd < (↑(List.take ((↑(List.length a1) : Int) - a2).toNat (List.drop a2.toNat a1)).length : Int)) <|
 W.ite (v0.snd == 9 && decide (1 < ri (List.take ((↑(List.length a1) : Int) - a2).toNat (List.drop a2.toNat a1)) v0.snd.toNat 0)) (W.ret (Sum.inr (Sum.inl (0, 0, 41))))
 (W.bind (g_math_bits_RotateLeft64 (IntKind.u64.wrap (ibits BinOp.and IntKind.u8 (ri (List.take ((↑(List.length a1) : Int) - a2).toNat (List.drop a2.toNat a1)) v0.snd.toNat 0) 127)) (IntKind.i64.wrap (7 * v0.snd))) fun v1 =>
 W.ite (decide (ri (List.take ((↑(List.length a1) : Int) - a2).toNat (List.drop a2.toNat a1)) v0.snd.toNat 0 < 128)) (W.ite (decide (0 < v0.snd) && ri (List.take ((↑(List.length a1) : Int) - a2).toNat (List.drop a2.toNat a1)) v0.snd.toNat 0 == 0) (W.ret (Sum.inr (Sum.inl (0, 0, 41))))
 (W.ret (Sum.inr (Sum.inl (ibits BinOp.or IntKind.u64 v0.fst v1, IntKind.i64.wrap (v0.snd + 1), 0)))))
 (W.ret (Sum.inl (ibits BinOp.or IntKind.u64 v0.fst v1, IntKind.i64.wrap (v0.snd + 1))))))
 (W.ret (Sum.inr (Sum.inr ())))) (0, 0))
 (W.sum (fun v2 =>
 W.ret (v2.fst, v2.snd.fst, v2.snd.snd)) (fun v3 =>
 W.ret (0, 0, 40)))

/-- (*spillway/wire.Reader).take -/
def g___wire_Reader__take_p (a0 : Int) (a1 : Int) (a2 : Bool) (a3 : Rws) (a4 : Int) : W (Int × Int × Int) :=
 W.ite (false || a1 != 0) (W.ret (0, a1, a4))
 (W.bind (g___wire_cursor__peek_p (a2) (a3) (a4)) fun v0 =>
 W.bind (α := Int) (W.ite (v0.snd.snd == 0 && decide (a0 < v0.fst)) (W.ret 42)
 (W.ret v0.snd.snd))
 fun v1 =>
 W.ite (v1 != 0) (W.ret (0, v1, a4))
 (W.ret (v0.fst, a1, IntKind.i64.wrap (a4 + v0.snd.fst))))

/-- (*spillway/wire.Reader).U -/
def g___wire_Reader__U_p (a0 : Int) (a1 : Bool) (a2 : Rws) (a3 : Int) : W (Int × Int × Int) :=
 W.bind (g___wire_Reader__take_p (18446744073709551615) (a0) (a1) (a2) (a3)) fun v0 =>
 W.ret (v0.fst, v0.snd.fst, v0.snd.snd)

/-- (*spillway/wire.Reader).Err -/
def g___wire_Reader__Err_p (a0 : Int) (a1 : Bool) (a2 : Rws) (a3 : Int) : W (Int) :=
 W.ret a0

/-- (*spillway/pack.decoder).giveUp -/
def g___pack_decoder__giveUp_p_2 (a0 : Int) (a1 : Int) (a2 : Int) (a3 : Bool) (a4 : Rws) (a5 : Int) : W (Int × Int × Int) :=
 W.ret (a0, a1, 0)

/-- (*spillway/pack.decoder).sure -/
def g___pack_decoder__sure_p (a0 : Int) (a1 : Int) (a2 : Bool) (a3 : Rws) (a4 : Int) : W ((Unit) ⊕ (Int × Int × Int)) :=
 W.bind (g___wire_Reader__Err_p (a1) (a2) (a3) (a4)) fun v0 =>
 W.ite (v0 != 0) (W.bind (g___pack_decoder__giveUp_p_2 (v0) (a0) (a1) (a2) (a3) (a4)) fun v1 =>
 W.ret (Sum.inr (v1.fst, v1.snd.fst, v1.snd.snd)))
 (W.ret (Sum.inl ()))

/-- (*spillway/pack.decoder).u -/
def g___pack_decoder__u_p (a0 : Int) (a1 : Int) (a2 : Bool) (a3 : Rws) (a4 : Int) : W ((Int × Int × Int) ⊕ (Int × Int × Int × Int × Int)) :=
 W.bind (g___wire_Reader__U_p (a1) (a2) (a3) (a4)) fun v0 =>
 W.bind (g___pack_decoder__sure_p (a0) (v0.snd.fst) (a2) (a3) (v0.snd.snd)) (W.sum (fun v1 =>
 W.ite (decide (2147483648 ≤ v0.fst)) (W.bind (g___pack_decoder__giveUp_p_2 (41) (a0) (v0.snd.fst) (a2) (a3) (v0.snd.snd)) fun v2 =>
 W.ret (Sum.inr (v2.fst, v2.snd.fst, v2.snd.snd, v0.snd.fst, v0.snd.snd)))
 (W.ret (Sum.inl (IntKind.i64.wrap v0.fst, v0.snd.fst, v0.snd.snd)))) (fun v3 =>
 W.ret (Sum.inr (v3.fst, v3.snd.fst, v3.snd.snd, v0.snd.fst, v0.snd.snd))))

/-- (*spillway/wire.Reader).S -/
def g___wire_Reader__S_p (a0 : Int) (a1 : Bool) (a2 : Rws) (a3 : Int) : W (Int × Int × Int) :=
 W.bind (g___wire_Reader__take_p (18446744073709551615) (a0) (a1) (a2) (a3)) fun v0 =>
 W.ret (ibits BinOp.xor IntKind.i64 (IntKind.i64.wrap (v0.fst.fdiv 2)) (IntKind.i64.wrap (0 - IntKind.i64.wrap (ibits BinOp.and IntKind.u64 v0.fst 1))), v0.snd.fst, v0.snd.snd)

/-- (*spillway/pack.decoder).s -/
def g___pack_decoder__s_p (a0 : Int) (a1 : Int) (a2 : Int) (a3 : Int) (a4 : Bool) (a5 : Rws) (a6 : Int) : W ((Int × Int × Int) ⊕ (Int × Int × Int × Int × Int)) :=
 W.bind (g___wire_Reader__S_p (a3) (a4) (a5) (a6)) fun v0 =>
 W.bind (g___pack_decoder__sure_p (a2) (v0.snd.fst) (a4) (a5) (v0.snd.snd)) (W.sum (fun v1 =>
 W.ite (decide (v0.fst < a0) || decide (a1 < v0.fst)) (W.bind (g___pack_decoder__giveUp_p_2 (41) (a2) (v0.snd.fst) (a4) (a5) (v0.snd.snd)) fun v2 =>
 W.ret (Sum.inr (v2.fst, v2.snd.fst, v2.snd.snd, v0.snd.fst, v0.snd.snd)))
 (W.ret (Sum.inl (v0.fst, v0.snd.fst, v0.snd.snd)))) (fun v3 =>
 W.ret (Sum.inr (v3.fst, v3.snd.fst, v3.snd.snd, v0.snd.fst, v0.snd.snd))))

/-- (*spillway/pack.decoder).s32 -/
def g___pack_decoder__s32_p (a0 : Int) (a1 : Int) (a2 : Bool) (a3 : Rws) (a4 : Int) : W ((Int × Int × Int) ⊕ (Int × Int × Int × Int × Int)) :=
 W.bind (g___pack_decoder__s_p (-2147483648) (2147483647) (a0) (a1) (a2) (a3) (a4)) (W.sum (fun v0 =>
 W.ret (Sum.inl (v0.fst, v0.snd.fst, v0.snd.snd))) (fun v1 =>
 W.ret (Sum.inr (v1.fst, v1.snd.fst, v1.snd.snd.fst, v1.snd.snd.snd.fst, v1.snd.snd.snd.snd))))

/-- (*spillway/wire.Reader).N -/
def g___wire_Reader__N_p (a0 : Int) (a1 : Int) (a2 : Bool) (a3 : Rws) (a4 : Int) : W (Int × Int × Int) :=
 W.ite (decide (0 ≤ a0)) (W.bind (g___wire_Reader__take_p (IntKind.u64.wrap a0) (a1) (a2) (a3) (a4)) fun v0 =>
 W.ret (IntKind.i64.wrap v0.fst, v0.snd.fst, v0.snd.snd))
 (W.bind (α := Int × Int) (W.bind (g___wire_Reader__take_p (0) (a1) (a2) (a3) (a4)) fun v1 =>
 W.ite (v1.snd.fst == 0) (W.ret (42, IntKind.i64.wrap (v1.snd.snd - 1)))
 (W.ret (v1.snd.fst, v1.snd.snd)))
 fun v2 =>
 W.ret (0, v2.fst, v2.snd))

/-- (*spillway/pack.decoder).n -/
def g___pack_decoder__n_p (a0 : Int) (a1 : Int) (a2 : Int) (a3 : Bool) (a4 : Rws) (a5 : Int) : W ((Int × Int × Int) ⊕ (Int × Int × Int × Int × Int)) :=
 W.bind (g___wire_Reader__N_p (a0) (a2) (a3) (a4) (a5)) fun v0 =>
 W.bind (g___pack_decoder__sure_p (a1) (v0.snd.fst) (a3) (a4) (v0.snd.snd)) (W.sum (fun v1 =>
 W.ret (Sum.inl (v0.fst, v0.snd.fst, v0.snd.snd))) (fun v2 =>
 W.ret (Sum.inr (v2.fst, v2.snd.fst, v2.snd.snd, v0.snd.fst, v0.snd.snd))))

/-- spillway/pack.numbers -/
def g_pack_numbers_p_2 (a0 : Int) (a1 : Int) (a2 : Int) (a3 : Int) (a4 : Int) (a5 : Int) (a6 : Int) (a7 : Int) (a8 : Int) (a9 : Int) (a10 : Int) (a11 : Int) (a12 : Int) (a13 : Int) (a14 : Int) (a15 : Int) (a16 : Int) (a17 : Int) (a18 : Int) (a19 : Int) : W (Unit) :=
 W.ret ()

/-- (*spillway/pack.decoder).one -/
def g___pack_decoder__one_p (a0 : Int) (a1 : Int) (a2 : Bool) (a3 : Rws) (a4 : Int) : W ((Int × Int × Int × Int × Int × Int × Int × Int × Int × Int × Int × Int × Bool × Rws × Bool × Rws × Int × Int × Int × Int × Int × Int × Int × Int × Int × Int) ⊕ (Int × Int × Int × Int × Int)) :=
 W.bind (g_pack_numbers_p_2 (0) (0) (0) (0) (0) (0) (0) (0) (0) (0) (0) (0) (0) (0) (0) (0) (0) (0) (0) (0)) fun v0 =>
 W.bind (g___pack_decoder__u_p (a0) (a1) (a2) (a3) (a4)) (W.sum (fun v1 =>
 W.bind (g___pack_decoder__u_p (a0) (v1.snd.fst) (a2) (a3) (v1.snd.snd)) (W.sum (fun v2 =>
 W.bind (g___pack_decoder__u_p (a0) (v2.snd.fst) (a2) (a3) (v2.snd.snd)) (W.sum (fun v3 =>
 W.bind (g___pack_decoder__u_p (a0) (v3.snd.fst) (a2) (a3) (v3.snd.snd)) (W.sum (fun v4 =>
 W.bind (g___pack_decoder__u_p (a0) (v4.snd.fst) (a2) (a3) (v4.snd.snd)) (W.sum (fun v5 =>
 W.bind (g___pack_decoder__u_p (a0) (v5.snd.fst) (a2) (a3) (v5.snd.snd)) (W.sum (fun v6 =>
 W.bind (g___pack_decoder__u_p (a0) (v6.snd.fst) (a2) (a3) (v6.snd.snd)) (W.sum (fun v7 =>
 W.bind (g___pack_decoder__u_p (a0) (v7.snd.fst) (a2) (a3) (v7.snd.snd)) (W.sum (fun v8 =>
 W.bind (g___pack_decoder__u_p (a0) (v8.snd.fst) (a2) (a3) (v8.snd.snd)) (W.sum (fun v9 =>
 W.bind (g___pack_decoder__u_p (a0) (v9.snd.fst) (a2) (a3) (v9.snd.snd)) (W.sum (fun v10 =>
 W.bind (g___pack_decoder__u_p (a0) (v10.snd.fst) (a2) (a3) (v10.snd.snd)) (W.sum (fun v11 =>
 W.bind (g___pack_decoder__u_p (a0) (v11.snd.fst) (a2) (a3) (v11.snd.snd)) (W.sum (fun v12 =>
 W.bind (g___pack_decoder__n_p (131072) (a0) (v12.snd.fst) (a2) (a3) (v12.snd.snd)) (W.sum (fun v13 =>
 W.bind (W.loop (σ := Int × Int × Int × Bool × Rws) (ε := (Int × Int × Bool × Rws) ⊕ ((Int × Int × Int × Int × Int × Int × Int × Int × Int × Int × Int × Int × Bool × Rws × Bool × Rws × Int × Int × Int × Int × Int × Int × Int × Int × Int × Int) ⊕ (Int × Int × Int × Int × Int))) (fun v14 =>
 W.ite (decide (v14.fst < v13.fst)) (W.bind (g___pack_decoder__s_p (-32768) (32767) (a0) (v14.snd.fst) (a2) (a3) (v14.snd.snd.fst)) (W.sum (fun v15 =>
 W.need ((List.length v14.snd.snd.snd.snd + 1) * 2 ≤ 140737488355328) <|
 W.ret (Sum.inl (IntKind.i64.wrap (v14.fst + 1), v15.snd.fst, v15.snd.snd, v14.snd.snd.snd.fst && false, v14.snd.snd.snd.snd ++ [[I (IntKind.i16.wrap v15.fst)]]))) (fun v16 =>
 W.ret (Sum.inr (Sum.inr (Sum.inr (v16.fst, v16.snd.fst, v16.snd.snd.fst, v16.snd.snd.snd.fst, v16.snd.snd.snd.snd)))))))
 (W.ret (Sum.inr (Sum.inl (v14.snd.fst, v14.snd.snd.fst, v14.snd.snd.snd.fst, v14.snd.snd.snd.snd))))) (0, v13.snd.fst, v13.snd.snd, true, []))
 (W.sum (fun v17 =>
 W.bind (g___pack_decoder__n_p (1024) (a0) (v17.fst) (a2) (a3) (v17.snd.fst)) (W.sum (fun v18 =>
 W.bind (W.loop (σ := Int × Int × Int × Bool × Rws) (ε := (Int × Int × Bool × Rws) ⊕ ((Int × Int × Int × Int × Int × Int × Int × Int × Int × Int × Int × Int × Bool × Rws × Bool × Rws × Int × Int × Int × Int × Int × Int × Int × Int × Int × Int) ⊕ (Int × Int × Int × Int × Int))) (fun v19 =>
 W.ite (decide (v19.fst < v18.fst)) (W.bind (g___pack_decoder__s32_p (a0) (v19.snd.fst) (a2) (a3) (v19.snd.snd.fst)) (W.sum (fun v20 =>
 W.need ((List.length v19.snd.snd.snd.snd + 1) * 4 ≤ 140737488355328) <|
 W.ret (Sum.inl (IntKind.i64.wrap (v19.fst + 1), v20.snd.fst, v20.snd.snd, v19.snd.snd.snd.fst && false, v19.snd.snd.snd.snd ++ [[I (IntKind.i32.wrap v20.fst)]]))) (fun v21 =>
 W.ret (Sum.inr (Sum.inr (Sum.inr (v21.fst, v21.snd.fst, v21.snd.snd.fst, v21.snd.snd.snd.fst, v21.snd.snd.snd.snd)))))))
 (W.ret (Sum.inr (Sum.inl (v19.snd.fst, v19.snd.snd.fst, v19.snd.snd.snd.fst, v19.snd.snd.snd.snd))))) (0, v18.snd.fst, v18.snd.snd, true, []))
 (W.sum (fun v22 =>
 W.bind (g_pack_scales_p (v1.fst) (v2.fst) (v3.fst) (v4.fst) (v5.fst) (v6.fst) (v7.fst) (v8.fst) (v9.fst) (v10.fst) (v11.fst) (v12.fst) (v17.snd.snd.fst) (v17.snd.snd.snd) (v22.snd.snd.fst) (v22.snd.snd.snd) (0) (0) (0) (0) (0) (0) (0) (0)) fun v23 =>
 W.bind (g___pack_decoder__u_p (a0) (v22.fst) (a2) (a3) (v22.snd.fst)) (W.sum (fun v24 =>
 W.bind (g___pack_decoder__u_p (a0) (v24.snd.fst) (a2) (a3) (v24.snd.snd)) (W.sum (fun v25 =>
 W.bind (g___pack_decoder__u_p (a0) (v25.snd.fst) (a2) (a3) (v25.snd.snd)) (W.sum (fun v26 =>
 W.bind (g___pack_decoder__u_p (a0) (v26.snd.fst) (a2) (a3) (v26.snd.snd)) (W.sum (fun v27 =>
 W.bind (g_pack_ends_p (v1.fst) (v2.fst) (v3.fst) (v4.fst) (v5.fst) (v6.fst) (v7.fst) (v8.fst) (v9.fst) (v10.fst) (v11.fst) (v12.fst) (v17.snd.snd.fst) (v17.snd.snd.snd) (v22.snd.snd.fst) (v22.snd.snd.snd) (v24.fst) (v25.fst) (v26.fst) (v27.fst) (0) (0) (0) (0)) fun v28 =>
 W.bind (g___pack_decoder__s32_p (a0) (v27.snd.fst) (a2) (a3) (v27.snd.snd)) (W.sum (fun v29 =>
 W.bind (g___pack_decoder__s32_p (a0) (v29.snd.fst) (a2) (a3) (v29.snd.snd)) (W.sum (fun v30 =>
 W.bind (g___pack_decoder__s32_p (a0) (v30.snd.fst) (a2) (a3) (v30.snd.snd)) (W.sum (fun v31 =>
 W.bind (g___pack_decoder__s32_p (a0) (v31.snd.fst) (a2) (a3) (v31.snd.snd)) (W.sum (fun v32 =>
 W.ret (Sum.inl (v1.fst, v2.fst, v3.fst, v4.fst, v5.fst, v6.fst, v7.fst, v8.fst, v9.fst, v10.fst, v11.fst, v12.fst, v17.snd.snd.fst, v17.snd.snd.snd, v22.snd.snd.fst, v22.snd.snd.snd, v24.fst, v25.fst, v26.fst, v27.fst, v29.fst, v30.fst, v31.fst, v32.fst, v32.snd.fst, v32.snd.snd))) (fun v33 =>
 W.ret (Sum.inr (v33.fst, v33.snd.fst, v33.snd.snd.fst, v33.snd.snd.snd.fst, v33.snd.snd.snd.snd))))) (fun v34 =>
 W.ret (Sum.inr (v34.fst, v34.snd.fst, v34.snd.snd.fst, v34.snd.snd.snd.fst, v34.snd.snd.snd.snd))))) (fun v35 =>
 W.ret (Sum.inr (v35.fst, v35.snd.fst, v35.snd.snd.fst, v35.snd.snd.snd.fst, v35.snd.snd.snd.snd))))) (fun v36 =>
 W.ret (Sum.inr (v36.fst, v36.snd.fst, v36.snd.snd.fst, v36.snd.snd.snd.fst, v36.snd.snd.snd.snd))))) (fun v37 =>
 W.ret (Sum.inr (v37.fst, v37.snd.fst, v37.snd.snd.fst, v37.snd.snd.snd.fst, v37.snd.snd.snd.snd))))) (fun v38 =>
 W.ret (Sum.inr (v38.fst, v38.snd.fst, v38.snd.snd.fst, v38.snd.snd.snd.fst, v38.snd.snd.snd.snd))))) (fun v39 =>
 W.ret (Sum.inr (v39.fst, v39.snd.fst, v39.snd.snd.fst, v39.snd.snd.snd.fst, v39.snd.snd.snd.snd))))) (fun v40 =>
 W.ret (Sum.inr (v40.fst, v40.snd.fst, v40.snd.snd.fst, v40.snd.snd.snd.fst, v40.snd.snd.snd.snd))))) (fun p => W.ret p))) (fun v41 =>
 W.ret (Sum.inr (v41.fst, v41.snd.fst, v41.snd.snd.fst, v41.snd.snd.snd.fst, v41.snd.snd.snd.snd))))) (fun p => W.ret p))) (fun v42 =>
 W.ret (Sum.inr (v42.fst, v42.snd.fst, v42.snd.snd.fst, v42.snd.snd.snd.fst, v42.snd.snd.snd.snd))))) (fun v43 =>
 W.ret (Sum.inr (v43.fst, v43.snd.fst, v43.snd.snd.fst, v43.snd.snd.snd.fst, v43.snd.snd.snd.snd))))) (fun v44 =>
 W.ret (Sum.inr (v44.fst, v44.snd.fst, v44.snd.snd.fst, v44.snd.snd.snd.fst, v44.snd.snd.snd.snd))))) (fun v45 =>
 W.ret (Sum.inr (v45.fst, v45.snd.fst, v45.snd.snd.fst, v45.snd.snd.snd.fst, v45.snd.snd.snd.snd))))) (fun v46 =>
 W.ret (Sum.inr (v46.fst, v46.snd.fst, v46.snd.snd.fst, v46.snd.snd.snd.fst, v46.snd.snd.snd.snd))))) (fun v47 =>
 W.ret (Sum.inr (v47.fst, v47.snd.fst, v47.snd.snd.fst, v47.snd.snd.snd.fst, v47.snd.snd.snd.snd))))) (fun v48 =>
 W.ret (Sum.inr (v48.fst, v48.snd.fst, v48.snd.snd.fst, v48.snd.snd.snd.fst, v48.snd.snd.snd.snd))))) (fun v49 =>
 W.ret (Sum.inr (v49.fst, v49.snd.fst, v49.snd.snd.fst, v49.snd.snd.snd.fst, v49.snd.snd.snd.snd))))) (fun v50 =>
 W.ret (Sum.inr (v50.fst, v50.snd.fst, v50.snd.snd.fst, v50.snd.snd.snd.fst, v50.snd.snd.snd.snd))))) (fun v51 =>
 W.ret (Sum.inr (v51.fst, v51.snd.fst, v51.snd.snd.fst, v51.snd.snd.snd.fst, v51.snd.snd.snd.snd))))) (fun v52 =>
 W.ret (Sum.inr (v52.fst, v52.snd.fst, v52.snd.snd.fst, v52.snd.snd.snd.fst, v52.snd.snd.snd.snd))))) (fun v53 =>
 W.ret (Sum.inr (v53.fst, v53.snd.fst, v53.snd.snd.fst, v53.snd.snd.snd.fst, v53.snd.snd.snd.snd))))) (fun v54 =>
 W.ret (Sum.inr (v54.fst, v54.snd.fst, v54.snd.snd.fst, v54.snd.snd.snd.fst, v54.snd.snd.snd.snd))))

/-- (*spillway/wire.cursor).Left -/
def g___wire_cursor__Left_p (a0 : Bool) (a1 : Rws) (a2 : Int) : W (Int) :=
 W.ret (IntKind.i64.wrap ((↑(List.length a1) : Int) - a2))

/-- (*spillway/wire.Reader).Left -/
def g___wire_Reader__Left_p (a0 : Int) (a1 : Bool) (a2 : Rws) (a3 : Int) : W (Int) :=
 W.bind (g___wire_cursor__Left_p (a1) (a2) (a3)) fun v0 =>
 W.ret v0

/-- (*spillway/wire.Reader).End -/
def g___wire_Reader__End_p (a0 : Int) (a1 : Bool) (a2 : Rws) (a3 : Int) : W (Int) :=
 W.bind (g___wire_Reader__Err_p (a0) (a1) (a2) (a3)) fun v0 =>
 W.bind (α := Bool) (W.ite (v0 != 0) (W.ret true)
 (W.bind (g___wire_Reader__Left_p (a0) (a1) (a2) (a3)) fun v1 =>
 W.ret (v1 == 0)))
 fun v2 =>
 W.ite (v2) (W.ret v0)
 (W.ret 43)

/-- spillway/pack.Decode -/
def g_pack_Decode (a0 : Bool) (a1 : Rws) : W (Int × Int × Int × Int × Int × Int × Int × Int × Int × Bool × Rws) :=
 W.ite (decide ((↑(List.length a1) : Int) < 4)) (W.bind (g___pack_decoder__giveUp_p (40) (0)) fun v0 =>
 W.ret (0, 0, 0, 0, 0, 0, v0.fst, v0.snd.fst, v0.snd.snd, true, []))
 (W.need ((0 : Int) ≤ (0 : Int) ∧ (0 : Int) ≤ (4 : Int) ∧ (4 : Int) ≤ (↑(List.length a1) : Int)) <|
 W.ite (!(bytesR (List.take 4 (List.drop 0 a1))).toList == (bs [83, 87, 77, 49]).toList) (W.bind (g___pack_decoder__giveUp_p (41) (0)) fun v1 =>
 W.ret (0, 0, 0, 0, 0, 0, v1.fst, v1.snd.fst, v1.snd.snd, true, []))
 (W.need ((0 : Int) ≤ (4 : Int) ∧ (4 : Int) ≤ (↑(List.length a1) : Int) ∧ (↑(List.length a1) : Int) ≤ (↑(List.length a1) : Int)) <|
 W.bind (g_wire_New (a0) (List.take ((↑(List.length a1) : Int) - 4).toNat (List.drop 4 a1))) fun v2 =>
 W.bind (g___pack_decoder__u_p (0) (v2.fst) (v2.snd.snd.fst) (v2.snd.snd.snd) (v2.snd.fst)) (W.sum (fun v3 =>
 W.bind (g___pack_decoder__u_p (0) (v3.snd.fst) (v2.snd.snd.fst) (v2.snd.snd.snd) (v3.snd.snd)) (W.sum (fun v4 =>
 W.bind (g___pack_decoder__u_p (0) (v4.snd.fst) (v2.snd.snd.fst) (v2.snd.snd.snd) (v4.snd.snd)) (W.sum (fun v5 =>
 W.bind (g___pack_decoder__s32_p (0) (v5.snd.fst) (v2.snd.snd.fst) (v2.snd.snd.snd) (v5.snd.snd)) (W.sum (fun v6 =>
 W.bind (g___pack_decoder__s32_p (0) (v6.snd.fst) (v2.snd.snd.fst) (v2.snd.snd.snd) (v6.snd.snd)) (W.sum (fun v7 =>
 W.bind (g___pack_decoder__n_p (64) (0) (v7.snd.fst) (v2.snd.snd.fst) (v2.snd.snd.snd) (v7.snd.snd)) (W.sum (fun v8 =>
 W.bind (W.loop (σ := Int × Int × Bool × Rws × Int × Int) (ε := (Int × Bool × Rws × Int × Int) ⊕ (Int × Int × Int × Int × Int × Int × Int × Int × Int × Bool × Rws)) (fun v9 =>
 W.ite (decide (v9.fst < v8.fst)) (W.bind (g___pack_decoder__one_p (IntKind.i64.wrap (v9.fst + 1)) (v9.snd.snd.snd.snd.fst) (v2.snd.snd.fst) (v2.snd.snd.snd) (v9.snd.snd.snd.snd.snd)) (W.sum (fun v10 =>
 W.need ((List.length v9.snd.snd.snd.fst + 1) * 208 ≤ 140737488355328) <|
 W.ret (Sum.inl (IntKind.i64.wrap (v9.fst + 1), IntKind.i64.wrap (v9.fst + 1), v9.snd.snd.fst && false, v9.snd.snd.snd.fst ++ [[I v10.fst, I v10.snd.fst, I v10.snd.snd.fst, I v10.snd.snd.snd.fst, I v10.snd.snd.snd.snd.fst, I v10.snd.snd.snd.snd.snd.fst, I v10.snd.snd.snd.snd.snd.snd.fst, I v10.snd.snd.snd.snd.snd.snd.snd.fst, I v10.snd.snd.snd.snd.snd.snd.snd.snd.fst, I v10.snd.snd.snd.snd.snd.snd.snd.snd.snd.fst, I v10.snd.snd.snd.snd.snd.snd.snd.snd.snd.snd.fst, I v10.snd.snd.snd.snd.snd.snd.snd.snd.snd.snd.snd.fst, AV.sl v10.snd.snd.snd.snd.snd.snd.snd.snd.snd.snd.snd.snd.fst 0 v10.snd.snd.snd.snd.snd.snd.snd.snd.snd.snd.snd.snd.snd.fst, AV.sl v10.snd.snd.snd.snd.snd.snd.snd.snd.snd.snd.snd.snd.snd.snd.fst 0 v10.snd.snd.snd.snd.snd.snd.snd.snd.snd.snd.snd.snd.snd.snd.snd.fst, I v10.snd.snd.snd.snd.snd.snd.snd.snd.snd.snd.snd.snd.snd.snd.snd.snd.fst, I v10.snd.snd.snd.snd.snd.snd.snd.snd.snd.snd.snd.snd.snd.snd.snd.snd.snd.fst, I v10.snd.snd.snd.snd.snd.snd.snd.snd.snd.snd.snd.snd.snd.snd.snd.snd.snd.snd.fst, I v10.snd.snd.snd.snd.snd.snd.snd.snd.snd.snd.snd.snd.snd.snd.snd.snd.snd.snd.snd.fst, I v10.snd.snd.snd.snd.snd.snd.snd.snd.snd.snd.snd.snd.snd.snd.snd.snd.snd.snd.snd.snd.fst, I v10.snd.snd.snd.snd.snd.snd.snd.snd.snd.snd.snd.snd.snd.snd.snd.snd.snd.snd.snd.snd.snd.fst, I v10.snd.snd.snd.snd.snd.snd.snd.snd.snd.snd.snd.snd.snd.snd.snd.snd.snd.snd.snd.snd.snd.snd.fst, I v10.snd.snd.snd.snd.snd.snd.snd.snd.snd.snd.snd.snd.snd.snd.snd.snd.snd.snd.snd.snd.snd.snd.snd.fst]], v10.snd.snd.snd.snd.snd.snd.snd.snd.snd.snd.snd.snd.snd.snd.snd.snd.snd.snd.snd.snd.snd.snd.snd.snd.fst, v10.snd.snd.snd.snd.snd.snd.snd.snd.snd.snd.snd.snd.snd.snd.snd.snd.snd.snd.snd.snd.snd.snd.snd.snd.snd))) (fun v11 =>
 W.ret (Sum.inr (Sum.inr (0, 0, 0, 0, 0, 0, v11.fst, v11.snd.fst, v11.snd.snd.fst, true, []))))))
 (W.ret (Sum.inr (Sum.inl (v9.snd.fst, v9.snd.snd.fst, v9.snd.snd.snd.fst, v9.snd.snd.snd.snd.fst, v9.snd.snd.snd.snd.snd))))) (0, 0, true, [], v8.snd.fst, v8.snd.snd))
 (W.sum (fun v12 =>
 W.bind (g___pack_decoder__u_p (0) (v12.snd.snd.snd.fst) (v2.snd.snd.fst) (v2.snd.snd.snd) (v12.snd.snd.snd.snd)) (W.sum (fun v13 =>
 W.bind (g___wire_Reader__End_p (v13.snd.fst) (v2.snd.snd.fst) (v2.snd.snd.snd) (v13.snd.snd)) fun v14 =>
 W.ite (v14 != 0) (W.bind (g___pack_decoder__giveUp_p_2 (v14) (0) (v13.snd.fst) (v2.snd.snd.fst) (v2.snd.snd.snd) (v13.snd.snd)) fun v15 =>
 W.ret (0, 0, 0, 0, 0, 0, v15.fst, v15.snd.fst, v15.snd.snd, true, []))
 (W.bind (g_model_Check (v3.fst) (v4.fst) (v5.fst) (v6.fst) (v7.fst) (v12.snd.fst) (v12.snd.snd.fst) (v13.fst)) fun v16 =>
 W.ite (v16.fst != 0) (W.ret (0, 0, 0, 0, 0, 0, v16.fst, v16.snd.fst, v16.snd.snd, true, []))
 (W.ret (v3.fst, v4.fst, v5.fst, v6.fst, v7.fst, v13.fst, 0, 0, 0, v12.snd.fst, v12.snd.snd.fst)))) (fun v17 =>
 W.ret (0, 0, 0, 0, 0, 0, v17.fst, v17.snd.fst, v17.snd.snd.fst, true, [])))) (fun p => W.ret p))) (fun v18 =>
 W.ret (0, 0, 0, 0, 0, 0, v18.fst, v18.snd.fst, v18.snd.snd.fst, true, [])))) (fun v19 =>
 W.ret (0, 0, 0, 0, 0, 0, v19.fst, v19.snd.fst, v19.snd.snd.fst, true, [])))) (fun v20 =>
 W.ret (0, 0, 0, 0, 0, 0, v20.fst, v20.snd.fst, v20.snd.snd.fst, true, [])))) (fun v21 =>
 W.ret (0, 0, 0, 0, 0, 0, v21.fst, v21.snd.fst, v21.snd.snd.fst, true, [])))) (fun v22 =>
 W.ret (0, 0, 0, 0, 0, 0, v22.fst, v22.snd.fst, v22.snd.snd.fst, true, [])))) (fun v23 =>
 W.ret (0, 0, 0, 0, 0, 0, v23.fst, v23.snd.fst, v23.snd.snd.fst, true, [])))))

/-- spillway/spillwaylaw09.same -/
def g_law09_same (a0 : Bool) (a1 : Rws) (a2 : Bool) (a3 : Rws) : W (Bool) :=
 W.ite ((↑(List.length a1) : Int) != (↑(List.length a3) : Int)) (W.ret false)
 (W.bind (W.loop (σ := Int) (ε := (Unit) ⊕ (Unit)) (fun v0 =>
 W.ite (decide (v0 < (↑(List.length a1) : Int))) (W.need (0 ≤ v0 ∧ v0 < (↑(List.length a1) : Int)) <|
 W.need (0 ≤ v0 ∧ v0 < (↑(List.length a3) : Int)) <|
 W.ite (ri a1 v0.toNat 0 != ri a3 v0.toNat 0) (W.ret (Sum.inr (Sum.inl ())))
 (W.ret (Sum.inl (IntKind.i64.wrap (v0 + 1)))))
 (W.ret (Sum.inr (Sum.inr ())))) 0)
 (W.sum (fun v1 =>
 W.ret false) (fun v2 =>
 W.ret true)))

/-- spillway/spillwayref08.SameOp -/
def g_ref08_SameOp (a0 : Int) (a1 : Int) (a2 : Int) (a3 : Int) (a4 : Int) (a5 : Int) (a6 : Int) (a7 : Int) (a8 : Int) (a9 : Int) (a10 : Int) (a11 : Int) (a12 : Bool) (a13 : Rws) (a14 : Bool) (a15 : Rws) (a16 : Int) (a17 : Int) (a18 : Int) (a19 : Int) (a20 : Int) (a21 : Int) (a22 : Int) (a23 : Int) (a24 : Int) (a25 : Int) (a26 : Int) (a27 : Int) (a28 : Int) (a29 : Int) (a30 : Int) (a31 : Int) (a32 : Int) (a33 : Int) (a34 : Int) (a35 : Int) (a36 : Bool) (a37 : Rws) (a38 : Bool) (a39 : Rws) (a40 : Int) (a41 : Int) (a42 : Int) (a43 : Int) (a44 : Int) (a45 : Int) (a46 : Int) (a47 : Int) : W (Bool) :=
 W.ite (a0 != a24 || a1 != a25 || a2 != a26 || a3 != a27 || !(a4 == a28 && (a5 == a29 && (a6 == a30 && (a7 == a31 && (a8 == a32 && (a9 == a33 && (a10 == a34 && a11 == a35))))))) || !(a16 == a40 && a17 == a41) || !(a18 == a42 && a19 == a43) || a20 != a44 || a21 != a45 || a22 != a46 || a23 != a47) (W.ret false)
 (W.ite ((↑(List.length a13) : Int) != (↑(List.length a37) : Int) || (↑(List.length a15) : Int) != (↑(List.length a39) : Int)) (W.ret false)
 (W.bind (W.loop (σ := Int) (ε := (Unit) ⊕ (Unit)) (fun v0 =>
 W.ite (decide (v0 < (↑(List.length a13) : Int))) (W.need (0 ≤ v0 ∧ v0 < (↑(List.length a13) : Int)) <|
 W.need (0 ≤ v0 ∧ v0 < (↑(List.length a37) : Int)) <|
 W.ite (ri a13 v0.toNat 0 != ri a37 v0.toNat 0) (W.ret (Sum.inr (Sum.inl ())))
 (W.ret (Sum.inl (IntKind.i64.wrap (v0 + 1)))))
 (W.ret (Sum.inr (Sum.inr ())))) 0)
 (W.sum (fun v1 =>
 W.ret false) (fun v2 =>
 W.bind (W.loop (σ := Int) (ε := (Unit) ⊕ (Unit)) (fun v3 =>
 W.ite (decide (v3 < (↑(List.length a15) : Int))) (W.need (0 ≤ v3 ∧ v3 < (↑(List.length a15) : Int)) <|
 W.need (0 ≤ v3 ∧ v3 < (↑(List.length a39) : Int)) <|
 W.ite (ri a15 v3.toNat 0 != ri a39 v3.toNat 0) (W.ret (Sum.inr (Sum.inl ())))
 (W.ret (Sum.inl (IntKind.i64.wrap (v3 + 1)))))
 (W.ret (Sum.inr (Sum.inr ())))) 0)
 (W.sum (fun v4 =>
 W.ret false) (fun v5 =>
 W.ret true))))))

/-- spillway/spillwayref08.Same -/
def g_ref08_Same (a0 : Int) (a1 : Int) (a2 : Int) (a3 : Int) (a4 : Int) (a5 : Bool) (a6 : Rws) (a7 : Int) (a8 : Int) (a9 : Int) (a10 : Int) (a11 : Int) (a12 : Int) (a13 : Bool) (a14 : Rws) (a15 : Int) : W (Bool) :=
 W.ite (!(a0 == a8 && (a1 == a9 && a2 == a10)) || a3 != a11 || a4 != a12 || a7 != a15 || (↑(List.length a6) : Int) != (↑(List.length a14) : Int)) (W.ret false)
 (W.bind (W.loop (σ := Int) (ε := (Unit) ⊕ (Unit)) (fun v0 =>
 W.ite (decide (v0 < (↑(List.length a6) : Int))) (W.need (0 ≤ v0 ∧ v0 < (↑(List.length a6) : Int)) <|
 W.need (0 ≤ v0 ∧ v0 < (↑(List.length a14) : Int)) <|
 W.bind (g_ref08_SameOp (ri a6 v0.toNat 0) (ri a6 v0.toNat 1) (ri a6 v0.toNat 2) (ri a6 v0.toNat 3) (ri a6 v0.toNat 4) (ri a6 v0.toNat 5) (ri a6 v0.toNat 6) (ri a6 v0.toNat 7) (ri a6 v0.toNat 8) (ri a6 v0.toNat 9) (ri a6 v0.toNat 10) (ri a6 v0.toNat 11) (rn a6 v0.toNat 12) (rr a6 v0.toNat 12) (rn a6 v0.toNat 13) (rr a6 v0.toNat 13) (ri a6 v0.toNat 14) (ri a6 v0.toNat 15) (ri a6 v0.toNat 16) (ri a6 v0.toNat 17) (ri a6 v0.toNat 18) (ri a6 v0.toNat 19) (ri a6 v0.toNat 20) (ri a6 v0.toNat 21) (ri a14 v0.toNat 0) (ri a14 v0.toNat 1) (ri a14 v0.toNat 2) (ri a14 v0.toNat 3) (ri a14 v0.toNat 4) (ri a14 v0.toNat 5) (ri a14 v0.toNat 6) (ri a14 v0.toNat 7) (ri a14 v0.toNat 8) (ri a14 v0.toNat 9) (ri a14 v0.toNat 10) (ri a14 v0.toNat 11) (rn a14 v0.toNat 12) (rr a14 v0.toNat 12) (rn a14 v0.toNat 13) (rr a14 v0.toNat 13) (ri a14 v0.toNat 14) (ri a14 v0.toNat 15) (ri a14 v0.toNat 16) (ri a14 v0.toNat 17) (ri a14 v0.toNat 18) (ri a14 v0.toNat 19) (ri a14 v0.toNat 20) (ri a14 v0.toNat 21)) fun v1 =>
 W.ite (!v1) (W.ret (Sum.inr (Sum.inl ())))
 (W.ret (Sum.inl (IntKind.i64.wrap (v0 + 1)))))
 (W.ret (Sum.inr (Sum.inr ())))) 0)
 (W.sum (fun v2 =>
 W.ret false) (fun v3 =>
 W.ret true)))

/-- spillway/spillwaylaw09.fixed -/
def g_law09_fixed : W (Bool) :=
 W.bind (g_law09_plain ) fun v0 =>
 W.bind (g_pack_Encode (v0.fst) (v0.snd.fst) (v0.snd.snd.fst) (v0.snd.snd.snd.fst) (v0.snd.snd.snd.snd.fst) (v0.snd.snd.snd.snd.snd.snd.fst) (v0.snd.snd.snd.snd.snd.snd.snd.fst) (v0.snd.snd.snd.snd.snd.fst)) fun v1 =>
 W.bind (g_pack_Decode (v0.snd.snd.snd.snd.snd.snd.snd.snd.fst) (v0.snd.snd.snd.snd.snd.snd.snd.snd.snd)) fun v2 =>
 W.bind (α := Bool) (W.ite (v1.fst == 0 && (v1.snd.fst == 0 && v1.snd.snd.fst == 0) && (v2.snd.snd.snd.snd.snd.snd.fst == 0 && (v2.snd.snd.snd.snd.snd.snd.snd.fst == 0 && v2.snd.snd.snd.snd.snd.snd.snd.snd.fst == 0))) (W.bind (g_law09_same (v1.snd.snd.snd.fst) (v1.snd.snd.snd.snd) (v0.snd.snd.snd.snd.snd.snd.snd.snd.fst) (v0.snd.snd.snd.snd.snd.snd.snd.snd.snd)) fun v3 =>
 W.ite (v3) (W.bind (g_ref08_Same (v0.fst) (v0.snd.fst) (v0.snd.snd.fst) (v0.snd.snd.snd.fst) (v0.snd.snd.snd.snd.fst) (v0.snd.snd.snd.snd.snd.snd.fst) (v0.snd.snd.snd.snd.snd.snd.snd.fst) (v0.snd.snd.snd.snd.snd.fst) (v2.fst) (v2.snd.fst) (v2.snd.snd.fst) (v2.snd.snd.snd.fst) (v2.snd.snd.snd.snd.fst) (v2.snd.snd.snd.snd.snd.snd.snd.snd.snd.fst) (v2.snd.snd.snd.snd.snd.snd.snd.snd.snd.snd) (v2.snd.snd.snd.snd.snd.fst)) fun v4 =>
 W.ret v4)
 (W.ret false))
 (W.ret false))
 fun v5 =>
 W.ret v5

/-- spillway/spillwaylaw09.PackEncodes -/
def g_law09_PackEncodes (a0 : Int) (a1 : Int) (a2 : Int) (a3 : Int) (a4 : Int) (a5 : Bool) (a6 : Rws) (a7 : Int) : W (Bool) :=
 W.bind (g_ref08_Copy (a0) (a1) (a2) (a3) (a4) (a5) (a6) (a7)) fun v0 =>
 W.bind (g_pack_Encode (a0) (a1) (a2) (a3) (a4) (a5) (a6) (a7)) fun v1 =>
 W.bind (g_ref09_Encode (v0.fst) (v0.snd.fst) (v0.snd.snd.fst) (v0.snd.snd.snd.fst) (v0.snd.snd.snd.snd.fst) (v0.snd.snd.snd.snd.snd.snd.fst) (v0.snd.snd.snd.snd.snd.snd.snd) (v0.snd.snd.snd.snd.snd.fst)) fun v2 =>
 W.bind (α := Bool) (W.bind (g_law09_fixed ) fun v3 =>
 W.ite (v3 && (v1.fst == v2.fst && (v1.snd.fst == v2.snd.fst && v1.snd.snd.fst == v2.snd.snd.fst))) (W.bind (g_law09_same (v1.snd.snd.snd.fst) (v1.snd.snd.snd.snd) (v2.snd.snd.snd.fst) (v2.snd.snd.snd.snd)) fun v4 =>
 W.ite (v4) (W.bind (g_ref08_Same (a0) (a1) (a2) (a3) (a4) (a5) (a6) (a7) (v0.fst) (v0.snd.fst) (v0.snd.snd.fst) (v0.snd.snd.snd.fst) (v0.snd.snd.snd.snd.fst) (v0.snd.snd.snd.snd.snd.snd.fst) (v0.snd.snd.snd.snd.snd.snd.snd) (v0.snd.snd.snd.snd.snd.fst)) fun v5 =>
 W.ret v5)
 (W.ret false))
 (W.ret false))
 fun v6 =>
 W.ret v6

/-- spillway/spillwayref09.Front -/
def g_ref09_Front (a0 : Bool) (a1 : Rws) (a2 : ByteArray) : W (Bool × Rws × Int) :=
 W.ite (decide ((↑(List.length a1) : Int) < 4)) (W.ret (true, [], 40))
 (W.need ((0 : Int) ≤ (0 : Int) ∧ (0 : Int) < (↑(List.length a1) : Int)) <|
 W.need ((0 : Int) ≤ (0 : Int) ∧ (0 : Int) < (↑a2.size : Int)) <|
 W.ite (ri a1 0 0 != byteAt a2 0) (W.ret (true, [], 41))
 (W.need ((0 : Int) ≤ (1 : Int) ∧ (1 : Int) < (↑(List.length a1) : Int)) <|
 W.need ((0 : Int) ≤ (1 : Int) ∧ (1 : Int) < (↑a2.size : Int)) <|
 W.ite (ri a1 1 0 != byteAt a2 1) (W.ret (true, [], 41))
 (W.need ((0 : Int) ≤ (2 : Int) ∧ (2 : Int) < (↑(List.length a1) : Int)) <|
 W.need ((0 : Int) ≤ (2 : Int) ∧ (2 : Int) < (↑a2.size : Int)) <|
 W.ite (ri a1 2 0 != byteAt a2 2) (W.ret (true, [], 41))
 (W.need ((0 : Int) ≤ (3 : Int) ∧ (3 : Int) < (↑(List.length a1) : Int)) <|
 W.need ((0 : Int) ≤ (3 : Int) ∧ (3 : Int) < (↑a2.size : Int)) <|
 W.ite (ri a1 3 0 != byteAt a2 3) (W.ret (true, [], 41))
 (W.need ((0 : Int) ≤ (4 : Int) ∧ (4 : Int) ≤ (↑(List.length a1) : Int) ∧ (↑(List.length a1) : Int) ≤ (↑(List.length a1) : Int)) <|
 W.ret (a0, List.take ((↑(List.length a1) : Int) - 4).toNat (List.drop 4 a1), 0))))))

/-- spillway/spillwayref04.Get -/
def g_ref04_Get (a0 : Bool) (a1 : Rws) : W (Int × Int × Int) :=
 W.bind (W.loop (σ := Int × Int) (ε := (Int × Int × Int) ⊕ (Unit)) (fun v0 =>
 W.ite (decide (v0.snd < (↑(List.length a1) : Int)) && decide (v0.snd < 10)) (W.need (0 ≤ v0.snd ∧ v0.snd < (↑(List.length a1) : Int)) <|
 W.ite (v0.snd == 9 && decide (1 < IntKind.u64.wrap (ri a1 v0.snd.toNat 0))) (W.ret (Sum.inr (Sum.inl (0, 0, 41))))
 (W.need (0 ≤ IntKind.u64.wrap (IntKind.i64.wrap (7 * v0.snd))) <|
 W.ite (decide (IntKind.u64.wrap (ri a1 v0.snd.toNat 0) < 128)) (W.ite (IntKind.u64.wrap (ri a1 v0.snd.toNat 0) == 0 && decide (0 < v0.snd)) (W.ret (Sum.inr (Sum.inl (0, 0, 41))))
 (W.ret (Sum.inr (Sum.inl (ibits BinOp.or IntKind.u64 v0.fst (IntKind.u64.wrap ((IntKind.u64.wrap (ri a1 v0.snd.toNat 0)).tmod 128 * 2 ^ min (IntKind.u64.wrap (IntKind.i64.wrap (7 * v0.snd))).toNat 64)), IntKind.i64.wrap (v0.snd + 1), 0)))))
 (W.ret (Sum.inl (ibits BinOp.or IntKind.u64 v0.fst (IntKind.u64.wrap ((IntKind.u64.wrap (ri a1 v0.snd.toNat 0)).tmod 128 * 2 ^ min (IntKind.u64.wrap (IntKind.i64.wrap (7 * v0.snd))).toNat 64)), IntKind.i64.wrap (v0.snd + 1))))))
 (W.ret (Sum.inr (Sum.inr ())))) (0, 0))
 (W.sum (fun v1 =>
 W.ret (v1.fst, v1.snd.fst, v1.snd.snd)) (fun v2 =>
 W.ret (0, 0, 40)))

/-- (*spillway/spillwayref04.Reader).U -/
def g___ref04_Reader__U_p (a0 : Bool) (a1 : Rws) (a2 : Int) (a3 : Int) (a4 : Int) (a5 : Int) (a6 : Int) : W (Int × Rws × Int) :=
 W.ite (a2 != 0) (W.ret (0, a1, a2))
 (W.bind (g_ref04_Get (a0) (a1)) fun v0 =>
 W.need (0 ≤ v0.snd.fst ∧ v0.snd.fst ≤ (↑(List.length a1) : Int) ∧ (↑(List.length a1) : Int) ≤ (↑(List.length a1) : Int)) <|
 W.ret (v0.fst, List.take ((↑(List.length a1) : Int) - v0.snd.fst).toNat (List.drop v0.snd.fst.toNat a1), v0.snd.snd))

/-- (*spillway/spillwayref09.In).note -/
def g___ref09_In__note_p (a0 : Int) (a1 : Bool) (a2 : Rws) (a3 : Int) (a4 : Int) (a5 : Int) (a6 : Int) (a7 : Int) : W (Int × Int × Int) :=
 W.ite (a0 != 0 && a5 == 0) (W.ret (a0, a4, 0))
 (W.ret (a5, a6, a7))

/-- (*spillway/spillwayref09.In).U -/
def g___ref09_In__U_p (a0 : Bool) (a1 : Rws) (a2 : Int) (a3 : Int) (a4 : Int) (a5 : Int) (a6 : Int) : W (Int × Rws × Int × Int × Int × Int) :=
 W.bind (g___ref04_Reader__U_p (a0) (a1) (a2) (a3) (a4) (a5) (a6)) fun v0 =>
 W.bind (g___ref09_In__note_p (v0.snd.snd) (a0) (v0.snd.fst) (v0.snd.snd) (a3) (a4) (a5) (a6)) fun v1 =>
 W.ite (decide (2147483647 < v0.fst)) (W.bind (g___ref09_In__note_p (41) (a0) (v0.snd.fst) (v0.snd.snd) (a3) (v1.fst) (v1.snd.fst) (v1.snd.snd)) fun v2 =>
 W.ret (0, v0.snd.fst, v0.snd.snd, v2.fst, v2.snd.fst, v2.snd.snd))
 (W.ret (IntKind.i64.wrap v0.fst, v0.snd.fst, v0.snd.snd, v1.fst, v1.snd.fst, v1.snd.snd))

/-- spillway/spillwayref04.Unfold -/
def g_ref04_Unfold (a0 : Int) : W (Int) :=
 W.ite (a0.tmod 2 == 0) (W.ret (IntKind.i64.wrap (IntKind.u64.wrap (a0.tdiv 2))))
 (W.ret (IntKind.i64.wrap (IntKind.i64.wrap (0 - IntKind.i64.wrap (IntKind.u64.wrap (a0.tdiv 2))) - 1)))

/-- (*spillway/spillwayref04.Reader).S -/
def g___ref04_Reader__S_p (a0 : Bool) (a1 : Rws) (a2 : Int) (a3 : Int) (a4 : Int) (a5 : Int) (a6 : Int) : W (Int × Rws × Int) :=
 W.bind (g___ref04_Reader__U_p (a0) (a1) (a2) (a3) (a4) (a5) (a6)) fun v0 =>
 W.bind (g_ref04_Unfold (v0.fst)) fun v1 =>
 W.ret (v1, v0.snd.fst, v0.snd.snd)

/-- spillway/spillwayref01.Fits -/
def g_ref01_Fits (a0 : Int) (a1 : Int) : W (Bool) :=
 W.need (0 ≤ IntKind.u64.wrap (IntKind.i64.wrap (a0 - 1))) <|
 W.ret (decide (IntKind.i64.wrap (0 - IntKind.i64.wrap (1 * 2 ^ min (IntKind.u64.wrap (IntKind.i64.wrap (a0 - 1))).toNat 64)) ≤ a1) && decide (a1 < IntKind.i64.wrap (1 * 2 ^ min (IntKind.u64.wrap (IntKind.i64.wrap (a0 - 1))).toNat 64)))

/-- (*spillway/spillwayref09.In).S -/
def g___ref09_In__S_p (a0 : Int) (a1 : Bool) (a2 : Rws) (a3 : Int) (a4 : Int) (a5 : Int) (a6 : Int) (a7 : Int) : W (Int × Rws × Int × Int × Int × Int) :=
 W.bind (g___ref04_Reader__S_p (a1) (a2) (a3) (a4) (a5) (a6) (a7)) fun v0 =>
 W.bind (g___ref09_In__note_p (v0.snd.snd) (a1) (v0.snd.fst) (v0.snd.snd) (a4) (a5) (a6) (a7)) fun v1 =>
 W.bind (g_ref01_Fits (a0) (v0.fst)) fun v2 =>
 W.ite (!v2) (W.bind (g___ref09_In__note_p (41) (a1) (v0.snd.fst) (v0.snd.snd) (a4) (v1.fst) (v1.snd.fst) (v1.snd.snd)) fun v3 =>
 W.ret (0, v0.snd.fst, v0.snd.snd, v3.fst, v3.snd.fst, v3.snd.snd))
 (W.ret (v0.fst, v0.snd.fst, v0.snd.snd, v1.fst, v1.snd.fst, v1.snd.snd))

/-- (*spillway/spillwayref04.Reader).N -/
def g___ref04_Reader__N_p (a0 : Int) (a1 : Bool) (a2 : Rws) (a3 : Int) (a4 : Int) (a5 : Int) (a6 : Int) (a7 : Int) : W (Int × Rws × Int) :=
 W.ite (a3 != 0) (W.ret (0, a2, a3))
 (W.bind (g_ref04_Get (a1) (a2)) fun v0 =>
 W.bind (α := Int) (W.ite (v0.snd.snd == 0 && (decide (a0 < 0) || decide (IntKind.u64.wrap a0 < v0.fst))) (W.ret 42)
 (W.ret v0.snd.snd))
 fun v1 =>
 W.ite (v1 != 0) (W.ret (0, a2, v1))
 (W.need (0 ≤ v0.snd.fst ∧ v0.snd.fst ≤ (↑(List.length a2) : Int) ∧ (↑(List.length a2) : Int) ≤ (↑(List.length a2) : Int)) <|
 W.ret (IntKind.i64.wrap v0.fst, List.take ((↑(List.length a2) : Int) - v0.snd.fst).toNat (List.drop v0.snd.fst.toNat a2), v1)))

/-- (*spillway/spillwayref09.In).N -/
def g___ref09_In__N_p (a0 : Int) (a1 : Bool) (a2 : Rws) (a3 : Int) (a4 : Int) (a5 : Int) (a6 : Int) (a7 : Int) : W (Int × Rws × Int × Int × Int × Int) :=
 W.bind (g___ref04_Reader__N_p (a0) (a1) (a2) (a3) (a4) (a5) (a6) (a7)) fun v0 =>
 W.bind (g___ref09_In__note_p (v0.snd.snd) (a1) (v0.snd.fst) (v0.snd.snd) (a4) (a5) (a6) (a7)) fun v1 =>
 W.ret (v0.fst, v0.snd.fst, v0.snd.snd, v1.fst, v1.snd.fst, v1.snd.snd)

/-- (*spillway/spillwayref09.In).window -/
def g___ref09_In__window_p (a0 : Bool) (a1 : Rws) (a2 : Int) (a3 : Int) (a4 : Int) (a5 : Int) (a6 : Int) : W (Int × Int × Int × Int × Int × Int × Int × Int × Rws × Int × Int × Int × Int) :=
 W.bind (g___ref09_In__U_p (a0) (a1) (a2) (a3) (a4) (a5) (a6)) fun v0 =>
 W.bind (g___ref09_In__U_p (a0) (v0.snd.fst) (v0.snd.snd.fst) (a3) (v0.snd.snd.snd.fst) (v0.snd.snd.snd.snd.fst) (v0.snd.snd.snd.snd.snd)) fun v1 =>
 W.bind (g___ref09_In__U_p (a0) (v1.snd.fst) (v1.snd.snd.fst) (a3) (v1.snd.snd.snd.fst) (v1.snd.snd.snd.snd.fst) (v1.snd.snd.snd.snd.snd)) fun v2 =>
 W.bind (g___ref09_In__U_p (a0) (v2.snd.fst) (v2.snd.snd.fst) (a3) (v2.snd.snd.snd.fst) (v2.snd.snd.snd.snd.fst) (v2.snd.snd.snd.snd.snd)) fun v3 =>
 W.bind (g___ref09_In__U_p (a0) (v3.snd.fst) (v3.snd.snd.fst) (a3) (v3.snd.snd.snd.fst) (v3.snd.snd.snd.snd.fst) (v3.snd.snd.snd.snd.snd)) fun v4 =>
 W.bind (g___ref09_In__U_p (a0) (v4.snd.fst) (v4.snd.snd.fst) (a3) (v4.snd.snd.snd.fst) (v4.snd.snd.snd.snd.fst) (v4.snd.snd.snd.snd.snd)) fun v5 =>
 W.bind (g___ref09_In__U_p (a0) (v5.snd.fst) (v5.snd.snd.fst) (a3) (v5.snd.snd.snd.fst) (v5.snd.snd.snd.snd.fst) (v5.snd.snd.snd.snd.snd)) fun v6 =>
 W.bind (g___ref09_In__U_p (a0) (v6.snd.fst) (v6.snd.snd.fst) (a3) (v6.snd.snd.snd.fst) (v6.snd.snd.snd.snd.fst) (v6.snd.snd.snd.snd.snd)) fun v7 =>
 W.ret (v0.fst, v1.fst, v2.fst, v3.fst, v4.fst, v5.fst, v6.fst, v7.fst, v7.snd.fst, v7.snd.snd.fst, v7.snd.snd.snd.fst, v7.snd.snd.snd.snd.fst, v7.snd.snd.snd.snd.snd)

/-- (*spillway/spillwayref09.In).scale -/
def g___ref09_In__scale_p (a0 : Bool) (a1 : Rws) (a2 : Int) (a3 : Int) (a4 : Int) (a5 : Int) (a6 : Int) : W (Int × Int × Rws × Int × Int × Int × Int) :=
 W.bind (g___ref09_In__U_p (a0) (a1) (a2) (a3) (a4) (a5) (a6)) fun v0 =>
 W.bind (g___ref09_In__U_p (a0) (v0.snd.fst) (v0.snd.snd.fst) (a3) (v0.snd.snd.snd.fst) (v0.snd.snd.snd.snd.fst) (v0.snd.snd.snd.snd.snd)) fun v1 =>
 W.ret (v0.fst, v1.fst, v1.snd.fst, v1.snd.snd.fst, v1.snd.snd.snd.fst, v1.snd.snd.snd.snd.fst, v1.snd.snd.snd.snd.snd)

/-- (*spillway/spillwayref09.In).op -/
def g___ref09_In__op_p (a0 : Bool) (a1 : Rws) (a2 : Int) (a3 : Int) (a4 : Int) (a5 : Int) (a6 : Int) : W (Int × Int × Int × Int × Int × Int × Int × Int × Int × Int × Int × Int × Int × Int × Int × Int × Int × Int × Int × Int × Rws × Int × Int × Int × Int × Bool × Rws × Bool × Rws) :=
 W.bind (g___ref09_In__U_p (a0) (a1) (a2) (a3) (a4) (a5) (a6)) fun v0 =>
 W.bind (g___ref09_In__U_p (a0) (v0.snd.fst) (v0.snd.snd.fst) (a3) (v0.snd.snd.snd.fst) (v0.snd.snd.snd.snd.fst) (v0.snd.snd.snd.snd.snd)) fun v1 =>
 W.bind (g___ref09_In__U_p (a0) (v1.snd.fst) (v1.snd.snd.fst) (a3) (v1.snd.snd.snd.fst) (v1.snd.snd.snd.snd.fst) (v1.snd.snd.snd.snd.snd)) fun v2 =>
 W.bind (g___ref09_In__U_p (a0) (v2.snd.fst) (v2.snd.snd.fst) (a3) (v2.snd.snd.snd.fst) (v2.snd.snd.snd.snd.fst) (v2.snd.snd.snd.snd.snd)) fun v3 =>
 W.bind (g___ref09_In__window_p (a0) (v3.snd.fst) (v3.snd.snd.fst) (a3) (v3.snd.snd.snd.fst) (v3.snd.snd.snd.snd.fst) (v3.snd.snd.snd.snd.snd)) fun v4 =>
 W.bind (g___ref09_In__N_p (131072) (a0) (v4.snd.snd.snd.snd.snd.snd.snd.snd.fst) (v4.snd.snd.snd.snd.snd.snd.snd.snd.snd.fst) (a3) (v4.snd.snd.snd.snd.snd.snd.snd.snd.snd.snd.fst) (v4.snd.snd.snd.snd.snd.snd.snd.snd.snd.snd.snd.fst) (v4.snd.snd.snd.snd.snd.snd.snd.snd.snd.snd.snd.snd)) fun v5 =>
 W.bind (W.loop (σ := Int × Rws × Int × Int × Int × Int × Bool × Rws) (ε := Rws × Int × Int × Int × Int × Bool × Rws) (fun v6 =>
 W.ite (decide (v6.fst < v5.fst) && v6.snd.snd.snd.fst == 0) (W.bind (g___ref09_In__S_p (16) (a0) (v6.snd.fst) (v6.snd.snd.fst) (a3) (v6.snd.snd.snd.fst) (v6.snd.snd.snd.snd.fst) (v6.snd.snd.snd.snd.snd.fst)) fun v7 =>
 W.need ((List.length v6.snd.snd.snd.snd.snd.snd.snd + 1) * 2 ≤ 140737488355328) <|
 W.ret (Sum.inl (IntKind.i64.wrap (v6.fst + 1), v7.snd.fst, v7.snd.snd.fst, v7.snd.snd.snd.fst, v7.snd.snd.snd.snd.fst, v7.snd.snd.snd.snd.snd, v6.snd.snd.snd.snd.snd.snd.fst && false, v6.snd.snd.snd.snd.snd.snd.snd ++ [[I (IntKind.i16.wrap v7.fst)]])))
 (W.ret (Sum.inr (v6.snd.fst, v6.snd.snd.fst, v6.snd.snd.snd.fst, v6.snd.snd.snd.snd.fst, v6.snd.snd.snd.snd.snd.fst, v6.snd.snd.snd.snd.snd.snd.fst, v6.snd.snd.snd.snd.snd.snd.snd)))) (0, v5.snd.fst, v5.snd.snd.fst, v5.snd.snd.snd.fst, v5.snd.snd.snd.snd.fst, v5.snd.snd.snd.snd.snd, true, []))
 (fun v8 =>
 W.bind (g___ref09_In__N_p (1024) (a0) (v8.fst) (v8.snd.fst) (a3) (v8.snd.snd.fst) (v8.snd.snd.snd.fst) (v8.snd.snd.snd.snd.fst)) fun v9 =>
 W.bind (W.loop (σ := Int × Rws × Int × Int × Int × Int × Bool × Rws) (ε := Rws × Int × Int × Int × Int × Bool × Rws) (fun v10 =>
 W.ite (decide (v10.fst < v9.fst) && v10.snd.snd.snd.fst == 0) (W.bind (g___ref09_In__S_p (32) (a0) (v10.snd.fst) (v10.snd.snd.fst) (a3) (v10.snd.snd.snd.fst) (v10.snd.snd.snd.snd.fst) (v10.snd.snd.snd.snd.snd.fst)) fun v11 =>
 W.need ((List.length v10.snd.snd.snd.snd.snd.snd.snd + 1) * 4 ≤ 140737488355328) <|
 W.ret (Sum.inl (IntKind.i64.wrap (v10.fst + 1), v11.snd.fst, v11.snd.snd.fst, v11.snd.snd.snd.fst, v11.snd.snd.snd.snd.fst, v11.snd.snd.snd.snd.snd, v10.snd.snd.snd.snd.snd.snd.fst && false, v10.snd.snd.snd.snd.snd.snd.snd ++ [[I (IntKind.i32.wrap v11.fst)]])))
 (W.ret (Sum.inr (v10.snd.fst, v10.snd.snd.fst, v10.snd.snd.snd.fst, v10.snd.snd.snd.snd.fst, v10.snd.snd.snd.snd.snd.fst, v10.snd.snd.snd.snd.snd.snd.fst, v10.snd.snd.snd.snd.snd.snd.snd)))) (0, v9.snd.fst, v9.snd.snd.fst, v9.snd.snd.snd.fst, v9.snd.snd.snd.snd.fst, v9.snd.snd.snd.snd.snd, true, []))
 (fun v12 =>
 W.bind (g___ref09_In__scale_p (a0) (v12.fst) (v12.snd.fst) (a3) (v12.snd.snd.fst) (v12.snd.snd.snd.fst) (v12.snd.snd.snd.snd.fst)) fun v13 =>
 W.bind (g___ref09_In__scale_p (a0) (v13.snd.snd.fst) (v13.snd.snd.snd.fst) (a3) (v13.snd.snd.snd.snd.fst) (v13.snd.snd.snd.snd.snd.fst) (v13.snd.snd.snd.snd.snd.snd)) fun v14 =>
 W.bind (g___ref09_In__S_p (32) (a0) (v14.snd.snd.fst) (v14.snd.snd.snd.fst) (a3) (v14.snd.snd.snd.snd.fst) (v14.snd.snd.snd.snd.snd.fst) (v14.snd.snd.snd.snd.snd.snd)) fun v15 =>
 W.bind (g___ref09_In__S_p (32) (a0) (v15.snd.fst) (v15.snd.snd.fst) (a3) (v15.snd.snd.snd.fst) (v15.snd.snd.snd.snd.fst) (v15.snd.snd.snd.snd.snd)) fun v16 =>
 W.bind (g___ref09_In__S_p (32) (a0) (v16.snd.fst) (v16.snd.snd.fst) (a3) (v16.snd.snd.snd.fst) (v16.snd.snd.snd.snd.fst) (v16.snd.snd.snd.snd.snd)) fun v17 =>
 W.bind (g___ref09_In__S_p (32) (a0) (v17.snd.fst) (v17.snd.snd.fst) (a3) (v17.snd.snd.snd.fst) (v17.snd.snd.snd.snd.fst) (v17.snd.snd.snd.snd.snd)) fun v18 =>
 W.ret (v0.fst, v1.fst, v2.fst, v3.fst, v4.fst, v4.snd.fst, v4.snd.snd.fst, v4.snd.snd.snd.fst, v4.snd.snd.snd.snd.fst, v4.snd.snd.snd.snd.snd.fst, v4.snd.snd.snd.snd.snd.snd.fst, v4.snd.snd.snd.snd.snd.snd.snd.fst, v13.fst, v13.snd.fst, v14.fst, v14.snd.fst, v15.fst, v16.fst, v17.fst, v18.fst, v18.snd.fst, v18.snd.snd.fst, v18.snd.snd.snd.fst, v18.snd.snd.snd.snd.fst, v18.snd.snd.snd.snd.snd, v8.snd.snd.snd.snd.snd.fst, v8.snd.snd.snd.snd.snd.snd, v12.snd.snd.snd.snd.snd.fst, v12.snd.snd.snd.snd.snd.snd)))

/-- (*spillway/spillwayref04.Reader).End -/
def g___ref04_Reader__End_p (a0 : Bool) (a1 : Rws) (a2 : Int) (a3 : Int) (a4 : Int) (a5 : Int) (a6 : Int) : W (Int) :=
 W.ite (a2 == 0 && decide (0 < (↑(List.length a1) : Int))) (W.ret 43)
 (W.ret a2)

/-- spillway/spillwayref09.Decode -/
def g_ref09_Decode (a0 : Bool) (a1 : Rws) : W (Int × Int × Int × Int × Int × Int × Int × Int × Int × Bool × Rws) :=
 W.bind (g_ref09_Front (a0) (a1) (bs [83, 87, 77, 49])) fun v0 =>
 W.ite (v0.snd.snd != 0) (W.ret (0, 0, 0, 0, 0, 0, v0.snd.snd, 0, 0, true, []))
 (W.bind (g___ref09_In__U_p (v0.fst) (v0.snd.fst) (0) (0) (0) (0) (0)) fun v1 =>
 W.bind (g___ref09_In__U_p (v0.fst) (v1.snd.fst) (v1.snd.snd.fst) (0) (v1.snd.snd.snd.fst) (v1.snd.snd.snd.snd.fst) (v1.snd.snd.snd.snd.snd)) fun v2 =>
 W.bind (g___ref09_In__U_p (v0.fst) (v2.snd.fst) (v2.snd.snd.fst) (0) (v2.snd.snd.snd.fst) (v2.snd.snd.snd.snd.fst) (v2.snd.snd.snd.snd.snd)) fun v3 =>
 W.bind (g___ref09_In__S_p (32) (v0.fst) (v3.snd.fst) (v3.snd.snd.fst) (0) (v3.snd.snd.snd.fst) (v3.snd.snd.snd.snd.fst) (v3.snd.snd.snd.snd.snd)) fun v4 =>
 W.bind (g___ref09_In__S_p (32) (v0.fst) (v4.snd.fst) (v4.snd.snd.fst) (0) (v4.snd.snd.snd.fst) (v4.snd.snd.snd.snd.fst) (v4.snd.snd.snd.snd.snd)) fun v5 =>
 W.bind (g___ref09_In__N_p (64) (v0.fst) (v5.snd.fst) (v5.snd.snd.fst) (0) (v5.snd.snd.snd.fst) (v5.snd.snd.snd.snd.fst) (v5.snd.snd.snd.snd.snd)) fun v6 =>
 W.bind (W.loop (σ := Int × Rws × Int × Int × Int × Int × Int × Bool × Rws) (ε := Rws × Int × Int × Int × Int × Int × Bool × Rws) (fun v7 =>
 W.ite (decide (v7.fst < v6.fst) && v7.snd.snd.snd.snd.fst == 0) (W.bind (g___ref09_In__op_p (v0.fst) (v7.snd.fst) (v7.snd.snd.fst) (IntKind.i64.wrap (v7.fst + 1)) (v7.snd.snd.snd.snd.fst) (v7.snd.snd.snd.snd.snd.fst) (v7.snd.snd.snd.snd.snd.snd.fst)) fun v8 =>
 W.need ((List.length v7.snd.snd.snd.snd.snd.snd.snd.snd + 1) * 208 ≤ 140737488355328) <|
 W.ret (Sum.inl (IntKind.i64.wrap (v7.fst + 1), v8.snd.snd.snd.snd.snd.snd.snd.snd.snd.snd.snd.snd.snd.snd.snd.snd.snd.snd.snd.snd.fst, v8.snd.snd.snd.snd.snd.snd.snd.snd.snd.snd.snd.snd.snd.snd.snd.snd.snd.snd.snd.snd.snd.fst, IntKind.i64.wrap (v7.fst + 1), v8.snd.snd.snd.snd.snd.snd.snd.snd.snd.snd.snd.snd.snd.snd.snd.snd.snd.snd.snd.snd.snd.snd.fst, v8.snd.snd.snd.snd.snd.snd.snd.snd.snd.snd.snd.snd.snd.snd.snd.snd.snd.snd.snd.snd.snd.snd.snd.fst, v8.snd.snd.snd.snd.snd.snd.snd.snd.snd.snd.snd.snd.snd.snd.snd.snd.snd.snd.snd.snd.snd.snd.snd.snd.fst, v7.snd.snd.snd.snd.snd.snd.snd.fst && false, v7.snd.snd.snd.snd.snd.snd.snd.snd ++ [[I v8.fst, I v8.snd.fst, I v8.snd.snd.fst, I v8.snd.snd.snd.fst, I v8.snd.snd.snd.snd.fst, I v8.snd.snd.snd.snd.snd.fst, I v8.snd.snd.snd.snd.snd.snd.fst, I v8.snd.snd.snd.snd.snd.snd.snd.fst, I v8.snd.snd.snd.snd.snd.snd.snd.snd.fst, I v8.snd.snd.snd.snd.snd.snd.snd.snd.snd.fst, I v8.snd.snd.snd.snd.snd.snd.snd.snd.snd.snd.fst, I v8.snd.snd.snd.snd.snd.snd.snd.snd.snd.snd.snd.fst, AV.sl v8.snd.snd.snd.snd.snd.snd.snd.snd.snd.snd.snd.snd.snd.snd.snd.snd.snd.snd.snd.snd.snd.snd.snd.snd.snd.fst 0 v8.snd.snd.snd.snd.snd.snd.snd.snd.snd.snd.snd.snd.snd.snd.snd.snd.snd.snd.snd.snd.snd.snd.snd.snd.snd.snd.fst, AV.sl v8.snd.snd.snd.snd.snd.snd.snd.snd.snd.snd.snd.snd.snd.snd.snd.snd.snd.snd.snd.snd.snd.snd.snd.snd.snd.snd.snd.fst 0 v8.snd.snd.snd.snd.snd.snd.snd.snd.snd.snd.snd.snd.snd.snd.snd.snd.snd.snd.snd.snd.snd.snd.snd.snd.snd.snd.snd.snd, I v8.snd.snd.snd.snd.snd.snd.snd.snd.snd.snd.snd.snd.fst, I v8.snd.snd.snd.snd.snd.snd.snd.snd.snd.snd.snd.snd.snd.fst, I v8.snd.snd.snd.snd.snd.snd.snd.snd.snd.snd.snd.snd.snd.snd.fst, I v8.snd.snd.snd.snd.snd.snd.snd.snd.snd.snd.snd.snd.snd.snd.snd.fst, I v8.snd.snd.snd.snd.snd.snd.snd.snd.snd.snd.snd.snd.snd.snd.snd.snd.fst, I v8.snd.snd.snd.snd.snd.snd.snd.snd.snd.snd.snd.snd.snd.snd.snd.snd.snd.fst, I v8.snd.snd.snd.snd.snd.snd.snd.snd.snd.snd.snd.snd.snd.snd.snd.snd.snd.snd.fst, I v8.snd.snd.snd.snd.snd.snd.snd.snd.snd.snd.snd.snd.snd.snd.snd.snd.snd.snd.snd.fst]])))
 (W.ret (Sum.inr (v7.snd.fst, v7.snd.snd.fst, v7.snd.snd.snd.fst, v7.snd.snd.snd.snd.fst, v7.snd.snd.snd.snd.snd.fst, v7.snd.snd.snd.snd.snd.snd.fst, v7.snd.snd.snd.snd.snd.snd.snd.fst, v7.snd.snd.snd.snd.snd.snd.snd.snd)))) (0, v6.snd.fst, v6.snd.snd.fst, 0, v6.snd.snd.snd.fst, v6.snd.snd.snd.snd.fst, v6.snd.snd.snd.snd.snd, true, []))
 (fun v9 =>
 W.bind (g___ref09_In__U_p (v0.fst) (v9.fst) (v9.snd.fst) (0) (v9.snd.snd.snd.fst) (v9.snd.snd.snd.snd.fst) (v9.snd.snd.snd.snd.snd.fst)) fun v10 =>
 W.bind (g___ref04_Reader__End_p (v0.fst) (v10.snd.fst) (v10.snd.snd.fst) (0) (v10.snd.snd.snd.fst) (v10.snd.snd.snd.snd.fst) (v10.snd.snd.snd.snd.snd)) fun v11 =>
 W.bind (g___ref09_In__note_p (v11) (v0.fst) (v10.snd.fst) (v10.snd.snd.fst) (0) (v10.snd.snd.snd.fst) (v10.snd.snd.snd.snd.fst) (v10.snd.snd.snd.snd.snd)) fun v12 =>
 W.ite (v12.fst != 0) (W.ret (0, 0, 0, 0, 0, 0, v12.fst, v12.snd.fst, v12.snd.snd, true, []))
 (W.bind (g_ref08_Check (v1.fst) (v2.fst) (v3.fst) (v4.fst) (v5.fst) (v9.snd.snd.snd.snd.snd.snd.fst) (v9.snd.snd.snd.snd.snd.snd.snd) (v10.fst)) fun v13 =>
 W.ite (v13.fst != 0) (W.ret (0, 0, 0, 0, 0, 0, v13.fst, v13.snd.fst, v13.snd.snd, true, []))
 (W.ret (v1.fst, v2.fst, v3.fst, v4.fst, v5.fst, v10.fst, 0, 0, 0, v9.snd.snd.snd.snd.snd.snd.fst, v9.snd.snd.snd.snd.snd.snd.snd)))))

/-- spillway/spillwaylaw09.PackDecodes -/
def g_law09_PackDecodes (a0 : Bool) (a1 : Rws) : W (Bool) :=
 W.need ((0 + List.length a1) * 1 ≤ 140737488355328) <|
 W.bind (g_pack_Decode (a0) (a1)) fun v0 =>
 W.bind (g_ref09_Decode (false) (a1)) fun v1 =>
 W.bind (α := Bool) (W.bind (g_law09_fixed ) fun v2 =>
 W.ite (v2 && (v0.snd.snd.snd.snd.snd.snd.fst == v1.snd.snd.snd.snd.snd.snd.fst && (v0.snd.snd.snd.snd.snd.snd.snd.fst == v1.snd.snd.snd.snd.snd.snd.snd.fst && v0.snd.snd.snd.snd.snd.snd.snd.snd.fst == v1.snd.snd.snd.snd.snd.snd.snd.snd.fst))) (W.bind (g_ref08_Same (v0.fst) (v0.snd.fst) (v0.snd.snd.fst) (v0.snd.snd.snd.fst) (v0.snd.snd.snd.snd.fst) (v0.snd.snd.snd.snd.snd.snd.snd.snd.snd.fst) (v0.snd.snd.snd.snd.snd.snd.snd.snd.snd.snd) (v0.snd.snd.snd.snd.snd.fst) (v1.fst) (v1.snd.fst) (v1.snd.snd.fst) (v1.snd.snd.snd.fst) (v1.snd.snd.snd.snd.fst) (v1.snd.snd.snd.snd.snd.snd.snd.snd.snd.fst) (v1.snd.snd.snd.snd.snd.snd.snd.snd.snd.snd) (v1.snd.snd.snd.snd.snd.fst)) fun v3 =>
 W.ite (v3) (W.bind (g_law09_same (a0) (a1) (false) (a1)) fun v4 =>
 W.ret v4)
 (W.ret false))
 (W.ret false))
 fun v5 =>
 W.ret v5

/-- spillway/spillwaylaw09.PackBack -/
def g_law09_PackBack (a0 : Int) (a1 : Int) (a2 : Int) (a3 : Int) (a4 : Int) (a5 : Bool) (a6 : Rws) (a7 : Int) : W (Bool) :=
 W.bind (g_pack_Encode (a0) (a1) (a2) (a3) (a4) (a5) (a6) (a7)) fun v0 =>
 W.bind (g_law09_fixed ) fun v1 =>
 W.ite (!v1 || v0.fst != 0) (W.bind (g_law09_fixed ) fun v2 =>
 W.ret (v2 && (↑(List.length v0.snd.snd.snd.snd) : Int) == 0))
 (W.bind (g_pack_Decode (v0.snd.snd.snd.fst) (v0.snd.snd.snd.snd)) fun v3 =>
 W.bind (α := Bool) (W.ite (v3.snd.snd.snd.snd.snd.snd.fst == 0 && (v3.snd.snd.snd.snd.snd.snd.snd.fst == 0 && v3.snd.snd.snd.snd.snd.snd.snd.snd.fst == 0)) (W.bind (g_ref08_Same (a0) (a1) (a2) (a3) (a4) (a5) (a6) (a7) (v3.fst) (v3.snd.fst) (v3.snd.snd.fst) (v3.snd.snd.snd.fst) (v3.snd.snd.snd.snd.fst) (v3.snd.snd.snd.snd.snd.snd.snd.snd.snd.fst) (v3.snd.snd.snd.snd.snd.snd.snd.snd.snd.snd) (v3.snd.snd.snd.snd.snd.fst)) fun v4 =>
 W.ret v4)
 (W.ret false))
 fun v5 =>
 W.ret v5)

/-- spillway/spillwaylaw09.PackForms -/
def g_law09_PackForms (a0 : Bool) (a1 : Rws) : W (Bool) :=
 W.bind (g_pack_Decode (a0) (a1)) fun v0 =>
 W.bind (g_law09_fixed ) fun v1 =>
 W.ite (!v1 || v0.snd.snd.snd.snd.snd.snd.fst != 0) (W.bind (α := Bool) (W.bind (g_law09_fixed ) fun v2 =>
 W.ite (v2) (W.bind (g_ref08_Same (v0.fst) (v0.snd.fst) (v0.snd.snd.fst) (v0.snd.snd.snd.fst) (v0.snd.snd.snd.snd.fst) (v0.snd.snd.snd.snd.snd.snd.snd.snd.snd.fst) (v0.snd.snd.snd.snd.snd.snd.snd.snd.snd.snd) (v0.snd.snd.snd.snd.snd.fst) (0) (0) (0) (0) (0) (true) ([]) (0)) fun v3 =>
 W.ret v3)
 (W.ret false))
 fun v4 =>
 W.ret v4)
 (W.bind (g_pack_Encode (v0.fst) (v0.snd.fst) (v0.snd.snd.fst) (v0.snd.snd.snd.fst) (v0.snd.snd.snd.snd.fst) (v0.snd.snd.snd.snd.snd.snd.snd.snd.snd.fst) (v0.snd.snd.snd.snd.snd.snd.snd.snd.snd.snd) (v0.snd.snd.snd.snd.snd.fst)) fun v5 =>
 W.bind (α := Bool) (W.ite (v5.fst == 0 && (v5.snd.fst == 0 && v5.snd.snd.fst == 0)) (W.bind (g_law09_same (a0) (a1) (v5.snd.snd.snd.fst) (v5.snd.snd.snd.snd)) fun v6 =>
 W.ret v6)
 (W.ret false))
 fun v7 =>
 W.ret v7)

/-- spillway/spillwaylaw09.PackCuts -/
def g_law09_PackCuts (a0 : Int) (a1 : Int) (a2 : Int) (a3 : Int) (a4 : Int) (a5 : Bool) (a6 : Rws) (a7 : Int) (a8 : Int) (a9 : Int) : W (Bool) :=
 W.bind (g_pack_Encode (a0) (a1) (a2) (a3) (a4) (a5) (a6) (a7)) fun v0 =>
 W.bind (g_law09_fixed ) fun v1 =>
 W.ite (!v1 || v0.fst != 0 || (↑(List.length v0.snd.snd.snd.snd) : Int) == 0) (W.bind (g_law09_fixed ) fun v2 =>
 W.ret (v2 && v0.fst != 0))
 (W.need (IntKind.u64.wrap (↑(List.length v0.snd.snd.snd.snd) : Int) ≠ 0) <|
 W.need ((0 : Int) ≤ (0 : Int) ∧ (0 : Int) ≤ IntKind.i64.wrap ((IntKind.u64.wrap a8).tmod (IntKind.u64.wrap (↑(List.length v0.snd.snd.snd.snd) : Int))) ∧ IntKind.i64.wrap ((IntKind.u64.wrap a8).tmod (IntKind.u64.wrap (↑(List.length v0.snd.snd.snd.snd) : Int))) ≤ (↑(List.length v0.snd.snd.snd.snd) : Int)) <|
 W.bind (g_pack_Decode (v0.snd.snd.snd.fst) (List.take (IntKind.i64.wrap ((IntKind.u64.wrap a8).tmod (IntKind.u64.wrap (↑(List.length v0.snd.snd.snd.snd) : Int))) - 0).toNat (List.drop 0 v0.snd.snd.snd.snd))) fun v3 =>
 W.need ((0 + List.length v0.snd.snd.snd.snd) * 1 ≤ 140737488355328) <|
 W.need ((List.length v0.snd.snd.snd.snd + 1) * 1 ≤ 140737488355328) <|
 W.bind (g_pack_Decode (false) (v0.snd.snd.snd.snd ++ [[I a9]])) fun v4 =>
 W.bind (α := Bool) (W.ite (v3.snd.snd.snd.snd.snd.snd.fst == 40 && (v4.snd.snd.snd.snd.snd.snd.fst == 43 && (v4.snd.snd.snd.snd.snd.snd.snd.fst == 0 && v4.snd.snd.snd.snd.snd.snd.snd.snd.fst == 0))) (W.bind (g_ref08_Same (v3.fst) (v3.snd.fst) (v3.snd.snd.fst) (v3.snd.snd.snd.fst) (v3.snd.snd.snd.snd.fst) (v3.snd.snd.snd.snd.snd.snd.snd.snd.snd.fst) (v3.snd.snd.snd.snd.snd.snd.snd.snd.snd.snd) (v3.snd.snd.snd.snd.snd.fst) (0) (0) (0) (0) (0) (true) ([]) (0)) fun v5 =>
 W.ite (v5) (W.bind (g_ref08_Same (v4.fst) (v4.snd.fst) (v4.snd.snd.fst) (v4.snd.snd.snd.fst) (v4.snd.snd.snd.snd.fst) (v4.snd.snd.snd.snd.snd.snd.snd.snd.snd.fst) (v4.snd.snd.snd.snd.snd.snd.snd.snd.snd.snd) (v4.snd.snd.snd.snd.snd.fst) (0) (0) (0) (0) (0) (true) ([]) (0)) fun v6 =>
 W.ret v6)
 (W.ret false))
 (W.ret false))
 fun v7 =>
 W.ret v7)
end Go.Proofs.Ytpoakneeceaooaa.VX
