/- The table of the types (written by a program out of the dump), and that it is right. -/
import Derived.Test.YtjknkfjhcapocaaChecked
import Derived.Test.YtjknkfjhcapocaaBExec
namespace Go.Proofs.Ytjknkfjhcapocaa.AX
set_option linter.unusedVariables false
def tyO : List (Nat × Option TI) := [
  (1, some ⟨.other, 1, [.top], [], 8⟩),
  (2, some ⟨.int .i64, 1, [.int .i64 0], [], 8⟩),
  (3, some ⟨.int .i64, 1, [.int .i64 0], [], 8⟩),
  (4, some ⟨.bool, 1, [.bool false], [], 1⟩),
  (5, some ⟨.int .u8, 1, [.int .u8 0], [], 1⟩),
  (6, some ⟨.int .u8, 1, [.int .u8 0], [], 1⟩),
  (7, some ⟨.struct [(0, 1, some false), (1, 1, some false), (2, 1, some false), (3, 1, some false)], 4, [.int .i64 0, .int .i64 0, .bool false, .int .u8 0], [], 24⟩),
  (8, some ⟨.struct [(0, 1, some false), (1, 1, some false), (2, 1, some false), (3, 1, some false)], 4, [.int .i64 0, .int .i64 0, .bool false, .int .u8 0], [], 24⟩),
  (12, some ⟨.int .u64, 1, [.int .u64 0], [], 8⟩),
  (13, some ⟨.struct [(0, 1, some false), (1, 1, some false)], 2, [.top, .int .u64 0], [], 24⟩),
  (14, some ⟨.struct [(0, 1, some false), (1, 1, some false)], 2, [.top, .int .u64 0], [], 24⟩),
  (15, some ⟨.ptr 190, 1, [.nilp], [], 8⟩),
  (16, some ⟨.ptr 193, 1, [.nilp], [], 8⟩),
  (17, some ⟨.ptr 201, 1, [.nilp], [], 8⟩),
  (18, some ⟨.struct [(0, 1, some false)], 1, [.nilp], [], 8⟩),
  (19, some ⟨.struct [(0, 1, some false)], 1, [.nilp], [], 8⟩),
  (21, some ⟨.int .i32, 1, [.int .i32 0], [], 4⟩),
  (22, some ⟨.int .u32, 1, [.int .u32 0], [], 4⟩),
  (23, some ⟨.arr 16 5 1 (some false), 16, [.int .u8 0, .int .u8 0, .int .u8 0, .int .u8 0, .int .u8 0, .int .u8 0, .int .u8 0, .int .u8 0, .int .u8 0, .int .u8 0, .int .u8 0, .int .u8 0, .int .u8 0, .int .u8 0, .int .u8 0, .int .u8 0], [false, false, false, false, false, false, false, false, false, false, false, false, false, false, false, false], 16⟩),
  (24, some ⟨.arr 16 5 1 (some false), 16, [.int .u8 0, .int .u8 0, .int .u8 0, .int .u8 0, .int .u8 0, .int .u8 0, .int .u8 0, .int .u8 0, .int .u8 0, .int .u8 0, .int .u8 0, .int .u8 0, .int .u8 0, .int .u8 0, .int .u8 0, .int .u8 0], [false, false, false, false, false, false, false, false, false, false, false, false, false, false, false, false], 16⟩),
  (25, some ⟨.int .u16, 1, [.int .u16 0], [], 2⟩),
  (26, some ⟨.slice 5 1 true, 1, [.nils], [], 24⟩),
  (27, some ⟨.struct [(0, 1, some false), (1, 1, some false), (2, 1, some false), (3, 1, some false), (4, 16, some true), (20, 16, some true), (36, 1, some false), (37, 1, some false), (38, 1, some false)], 39, [.int .u8 0, .int .u32 0, .int .u8 0, .int .u8 0, .int .u8 0, .int .u8 0, .int .u8 0, .int .u8 0, .int .u8 0, .int .u8 0, .int .u8 0, .int .u8 0, .int .u8 0, .int .u8 0, .int .u8 0, .int .u8 0, .int .u8 0, .int .u8 0, .int .u8 0, .int .u8 0, .int .u8 0, .int .u8 0, .int .u8 0, .int .u8 0, .int .u8 0, .int .u8 0, .int .u8 0, .int .u8 0, .int .u8 0, .int .u8 0, .int .u8 0, .int .u8 0, .int .u8 0, .int .u8 0, .int .u8 0, .int .u8 0, .int .u16 0, .int .u16 0, .nils], [], 72⟩),
  (28, some ⟨.struct [(0, 1, some false), (1, 1, some false), (2, 1, some false), (3, 1, some false), (4, 16, some true), (20, 16, some true), (36, 1, some false), (37, 1, some false), (38, 1, some false)], 39, [.int .u8 0, .int .u32 0, .int .u8 0, .int .u8 0, .int .u8 0, .int .u8 0, .int .u8 0, .int .u8 0, .int .u8 0, .int .u8 0, .int .u8 0, .int .u8 0, .int .u8 0, .int .u8 0, .int .u8 0, .int .u8 0, .int .u8 0, .int .u8 0, .int .u8 0, .int .u8 0, .int .u8 0, .int .u8 0, .int .u8 0, .int .u8 0, .int .u8 0, .int .u8 0, .int .u8 0, .int .u8 0, .int .u8 0, .int .u8 0, .int .u8 0, .int .u8 0, .int .u8 0, .int .u8 0, .int .u8 0, .int .u8 0, .int .u16 0, .int .u16 0, .nils], [], 72⟩),
  (29, some ⟨.slice 3 1 true, 1, [.nils], [], 24⟩),
  (30, some ⟨.other, 1, [.top], [], 8⟩),
  (31, some ⟨.other, 1, [.top], [], 8⟩),
  (32, some ⟨.slice 28 39 true, 1, [.nils], [], 24⟩),
  (33, some ⟨.int .i64, 1, [.int .i64 0], [], 8⟩),
  (35, some ⟨.other, 1, [.top], [], 8⟩),
  (36, some ⟨.other, 1, [.top], [], 8⟩),
  (37, some ⟨.other, 1, [.top], [], 8⟩),
  (38, some ⟨.other, 1, [.top], [], 8⟩),
  (39, some ⟨.other, 1, [.top], [], 8⟩),
  (40, some ⟨.other, 1, [.top], [], 8⟩),
  (41, some ⟨.other, 1, [.top], [], 8⟩),
  (42, some ⟨.other, 1, [.top], [], 8⟩),
  (43, some ⟨.other, 1, [.top], [], 8⟩),
  (45, some ⟨.other, 1, [.top], [], 8⟩),
  (46, some ⟨.other, 1, [.top], [], 8⟩),
  (47, some ⟨.other, 1, [.top], [], 8⟩),
  (48, some ⟨.slice 26 1 true, 1, [.nils], [], 24⟩),
  (49, some ⟨.other, 1, [.top], [], 8⟩),
  (50, some ⟨.other, 1, [.top], [], 8⟩),
  (51, some ⟨.other, 1, [.top], [], 8⟩),
  (52, some ⟨.int .u64, 1, [.int .u64 0], [], 8⟩),
  (53, some ⟨.other, 1, [.top], [], 8⟩),
  (54, some ⟨.other, 1, [.top], [], 8⟩),
  (55, some ⟨.int .u16, 1, [.int .u16 0], [], 2⟩),
  (56, some ⟨.int .u64, 1, [.int .u64 0], [], 8⟩),
  (57, some ⟨.int .u64, 1, [.int .u64 0], [], 8⟩),
  (58, some ⟨.struct [(0, 1, some false), (1, 1, some false), (2, 1, some false)], 3, [.int .i64 0, .int .u16 0, .int .u64 0], [false, false, false], 24⟩),
  (59, some ⟨.struct [(0, 1, some false), (1, 1, some false), (2, 1, some false)], 3, [.int .i64 0, .int .u16 0, .int .u64 0], [false, false, false], 24⟩),
  (60, some ⟨.slice 82 20 true, 1, [.nils], [], 24⟩),
  (61, some ⟨.ptr 106, 1, [.nilp], [], 8⟩),
  (62, some ⟨.other, 1, [.top], [], 8⟩),
  (63, some ⟨.other, 1, [.top], [], 8⟩),
  (64, some ⟨.other, 1, [.top], [], 8⟩),
  (65, some ⟨.other, 1, [.top], [], 8⟩),
  (66, some ⟨.other, 1, [.top], [], 8⟩),
  (67, some ⟨.other, 1, [.top], [], 8⟩),
  (68, some ⟨.other, 1, [.top], [], 8⟩),
  (69, some ⟨.other, 1, [.top], [], 8⟩),
  (70, some ⟨.other, 1, [.top], [], 8⟩),
  (71, some ⟨.other, 1, [.top], [], 8⟩),
  (72, some ⟨.struct [(0, 16, some true), (16, 1, some false)], 17, [.int .u8 0, .int .u8 0, .int .u8 0, .int .u8 0, .int .u8 0, .int .u8 0, .int .u8 0, .int .u8 0, .int .u8 0, .int .u8 0, .int .u8 0, .int .u8 0, .int .u8 0, .int .u8 0, .int .u8 0, .int .u8 0, .int .i64 0], [false, false, false, false, false, false, false, false, false, false, false, false, false, false, false, false, false], 24⟩),
  (73, some ⟨.struct [(0, 16, some true), (16, 1, some false)], 17, [.int .u8 0, .int .u8 0, .int .u8 0, .int .u8 0, .int .u8 0, .int .u8 0, .int .u8 0, .int .u8 0, .int .u8 0, .int .u8 0, .int .u8 0, .int .u8 0, .int .u8 0, .int .u8 0, .int .u8 0, .int .u8 0, .int .i64 0], [false, false, false, false, false, false, false, false, false, false, false, false, false, false, false, false, false], 24⟩),
  (74, some ⟨.other, 1, [.top], [], 8⟩),
  (76, some ⟨.other, 1, [.top], [], 8⟩),
  (77, some ⟨.other, 1, [.top], [], 8⟩),
  (79, some ⟨.other, 1, [.top], [], 8⟩),
  (80, some ⟨.other, 1, [.top], [], 8⟩),
  (81, some ⟨.struct [(0, 1, some false), (1, 17, some true), (18, 1, some false), (19, 1, some false)], 20, [.int .i64 0, .int .u8 0, .int .u8 0, .int .u8 0, .int .u8 0, .int .u8 0, .int .u8 0, .int .u8 0, .int .u8 0, .int .u8 0, .int .u8 0, .int .u8 0, .int .u8 0, .int .u8 0, .int .u8 0, .int .u8 0, .int .u8 0, .int .i64 0, .bool false, .int .i64 0], [false, false, false, false, false, false, false, false, false, false, false, false, false, false, false, false, false, false, true, false], 48⟩),
  (82, some ⟨.struct [(0, 1, some false), (1, 17, some true), (18, 1, some false), (19, 1, some false)], 20, [.int .i64 0, .int .u8 0, .int .u8 0, .int .u8 0, .int .u8 0, .int .u8 0, .int .u8 0, .int .u8 0, .int .u8 0, .int .u8 0, .int .u8 0, .int .u8 0, .int .u8 0, .int .u8 0, .int .u8 0, .int .u8 0, .int .u8 0, .int .i64 0, .bool false, .int .i64 0], [false, false, false, false, false, false, false, false, false, false, false, false, false, false, false, false, false, false, true, false], 48⟩),
  (83, some ⟨.other, 1, [.top], [], 8⟩),
  (84, some ⟨.other, 1, [.top], [], 8⟩),
  (85, some ⟨.other, 1, [.top], [], 8⟩),
  (86, some ⟨.other, 1, [.top], [], 8⟩),
  (87, some ⟨.other, 1, [.top], [], 8⟩),
  (88, some ⟨.other, 1, [.top], [], 8⟩),
  (89, some ⟨.other, 1, [.top], [], 8⟩),
  (90, some ⟨.other, 1, [.top], [], 8⟩),
  (91, some ⟨.other, 1, [.top], [], 8⟩),
  (93, some ⟨.other, 1, [.top], [], 8⟩),
  (94, some ⟨.other, 1, [.top], [], 8⟩),
  (95, some ⟨.other, 1, [.top], [], 8⟩),
  (96, some ⟨.other, 1, [.top], [], 8⟩),
  (97, some ⟨.slice 24 16 true, 1, [.nils], [], 24⟩),
  (98, some ⟨.other, 1, [.top], [], 8⟩),
  (99, some ⟨.other, 1, [.top], [], 8⟩),
  (100, some ⟨.other, 1, [.top], [], 8⟩),
  (101, some ⟨.other, 1, [.top], [], 8⟩),
  (102, some ⟨.other, 1, [.top], [], 8⟩),
  (103, some ⟨.other, 1, [.top], [], 8⟩),
  (104, some ⟨.other, 1, [.top], [], 8⟩),
  (105, some ⟨.struct [(0, 1, some false), (1, 1, some false)], 2, [.nils, .int .i64 0], [], 32⟩),
  (106, some ⟨.struct [(0, 1, some false), (1, 1, some false)], 2, [.nils, .int .i64 0], [], 32⟩),
  (107, some ⟨.other, 1, [.top], [], 8⟩),
  (108, some ⟨.other, 1, [.top], [], 8⟩),
  (109, some ⟨.other, 1, [.top], [], 8⟩),
  (110, some ⟨.other, 1, [.top], [], 8⟩),
  (112, some ⟨.other, 1, [.top], [], 8⟩),
  (113, some ⟨.struct [(0, 1, some false), (1, 1, some false), (2, 1, some false), (3, 1, some false)], 4, [.bool false, .int .i64 0, .int .i64 0, .nils], [], 48⟩),
  (114, some ⟨.struct [(0, 1, some false), (1, 1, some false), (2, 1, some false), (3, 1, some false)], 4, [.bool false, .int .i64 0, .int .i64 0, .nils], [], 48⟩),
  (115, some ⟨.other, 1, [.top], [], 8⟩),
  (116, some ⟨.other, 1, [.top], [], 8⟩),
  (117, some ⟨.other, 1, [.top], [], 8⟩),
  (118, some ⟨.slice 56 1 true, 1, [.nils], [], 24⟩),
  (119, some ⟨.other, 1, [.top], [], 8⟩),
  (120, some ⟨.other, 1, [.top], [], 8⟩),
  (121, some ⟨.other, 1, [.top], [], 8⟩),
  (123, some ⟨.other, 1, [.top], [], 8⟩),
  (124, some ⟨.slice 128 34 true, 1, [.nils], [], 24⟩),
  (126, some ⟨.other, 1, [.top], [], 8⟩),
  (127, some ⟨.struct [(0, 16, some true), (16, 16, some true), (32, 1, some false), (33, 1, some false)], 34, [.int .u8 0, .int .u8 0, .int .u8 0, .int .u8 0, .int .u8 0, .int .u8 0, .int .u8 0, .int .u8 0, .int .u8 0, .int .u8 0, .int .u8 0, .int .u8 0, .int .u8 0, .int .u8 0, .int .u8 0, .int .u8 0, .int .u8 0, .int .u8 0, .int .u8 0, .int .u8 0, .int .u8 0, .int .u8 0, .int .u8 0, .int .u8 0, .int .u8 0, .int .u8 0, .int .u8 0, .int .u8 0, .int .u8 0, .int .u8 0, .int .u8 0, .int .u8 0, .int .i64 0, .int .i64 0], [false, false, false, false, false, false, false, false, false, false, false, false, false, false, false, false, false, false, false, false, false, false, false, false, false, false, false, false, false, false, false, false, false, false], 48⟩),
  (128, some ⟨.struct [(0, 16, some true), (16, 16, some true), (32, 1, some false), (33, 1, some false)], 34, [.int .u8 0, .int .u8 0, .int .u8 0, .int .u8 0, .int .u8 0, .int .u8 0, .int .u8 0, .int .u8 0, .int .u8 0, .int .u8 0, .int .u8 0, .int .u8 0, .int .u8 0, .int .u8 0, .int .u8 0, .int .u8 0, .int .u8 0, .int .u8 0, .int .u8 0, .int .u8 0, .int .u8 0, .int .u8 0, .int .u8 0, .int .u8 0, .int .u8 0, .int .u8 0, .int .u8 0, .int .u8 0, .int .u8 0, .int .u8 0, .int .u8 0, .int .u8 0, .int .i64 0, .int .i64 0], [false, false, false, false, false, false, false, false, false, false, false, false, false, false, false, false, false, false, false, false, false, false, false, false, false, false, false, false, false, false, false, false, false, false], 48⟩),
  (129, some ⟨.other, 1, [.top], [], 8⟩),
  (130, some ⟨.arr 5 5 1 (some false), 5, [.int .u8 0, .int .u8 0, .int .u8 0, .int .u8 0, .int .u8 0], [false, false, false, false, false], 5⟩),
  (131, some ⟨.other, 1, [.top], [], 8⟩),
  (132, some ⟨.struct [(0, 1, some false), (1, 1, some false), (2, 1, some false), (3, 1, some false)], 4, [.bool false, .int .i64 0, .int .i64 0, .nils], [], 48⟩),
  (133, some ⟨.struct [(0, 1, some false), (1, 1, some false), (2, 1, some false), (3, 1, some false)], 4, [.bool false, .int .i64 0, .int .i64 0, .nils], [], 48⟩),
  (134, some ⟨.other, 1, [.top], [], 8⟩),
  (135, some ⟨.other, 1, [.top], [], 8⟩),
  (136, some ⟨.ptr 138, 1, [.nilp], [], 8⟩),
  (137, some ⟨.struct [(0, 1, some false), (1, 1, some false)], 2, [.nils, .int .i64 0], [], 32⟩),
  (138, some ⟨.struct [(0, 1, some false), (1, 1, some false)], 2, [.nils, .int .i64 0], [], 32⟩),
  (140, some ⟨.other, 1, [.top], [], 8⟩),
  (141, some ⟨.other, 1, [.top], [], 8⟩),
  (142, some ⟨.other, 1, [.top], [], 8⟩),
  (144, some ⟨.other, 1, [.top], [], 8⟩),
  (145, some ⟨.other, 1, [.top], [], 8⟩),
  (147, some ⟨.other, 1, [.top], [], 8⟩),
  (148, some ⟨.other, 1, [.top], [], 8⟩),
  (149, some ⟨.slice 151 2 true, 1, [.nils], [], 24⟩),
  (150, some ⟨.struct [(0, 1, some false), (1, 1, some false)], 2, [.int .u64 0, .int .i64 0], [false, false], 16⟩),
  (151, some ⟨.struct [(0, 1, some false), (1, 1, some false)], 2, [.int .u64 0, .int .i64 0], [false, false], 16⟩),
  (152, some ⟨.other, 1, [.top], [], 8⟩),
  (153, some ⟨.other, 1, [.top], [], 8⟩),
  (154, some ⟨.arr 2 5 1 (some false), 2, [.int .u8 0, .int .u8 0], [false, false], 2⟩),
  (156, some ⟨.other, 1, [.top], [], 8⟩),
  (157, some ⟨.other, 1, [.top], [], 8⟩),
  (158, some ⟨.other, 1, [.top], [], 8⟩),
  (159, some ⟨.other, 1, [.top], [], 8⟩),
  (160, some ⟨.other, 1, [.top], [], 8⟩),
  (162, some ⟨.other, 1, [.top], [], 8⟩),
  (163, some ⟨.other, 1, [.top], [], 8⟩),
  (164, some ⟨.other, 1, [.top], [], 8⟩),
  (165, some ⟨.other, 1, [.top], [], 8⟩),
  (166, some ⟨.other, 1, [.top], [], 8⟩),
  (167, some ⟨.other, 1, [.top], [], 8⟩),
  (168, some ⟨.other, 1, [.top], [], 8⟩),
  (169, some ⟨.ptr 171, 1, [.nilp], [], 8⟩),
  (170, some ⟨.struct [(0, 1, some false), (1, 1, some false), (2, 1, some false)], 3, [.nils, .int .i64 0, .int .i64 0], [], 40⟩),
  (171, some ⟨.struct [(0, 1, some false), (1, 1, some false), (2, 1, some false)], 3, [.nils, .int .i64 0, .int .i64 0], [], 40⟩),
  (172, some ⟨.other, 1, [.top], [], 8⟩),
  (173, some ⟨.other, 1, [.top], [], 8⟩),
  (174, some ⟨.other, 1, [.top], [], 8⟩),
  (175, some ⟨.other, 1, [.top], [], 8⟩),
  (177, some ⟨.other, 1, [.top], [], 8⟩),
  (178, some ⟨.other, 1, [.top], [], 8⟩),
  (179, some ⟨.arr 4 56 1 (some false), 4, [.int .u64 0, .int .u64 0, .int .u64 0, .int .u64 0], [false, false, false, false], 32⟩),
  (180, some ⟨.other, 1, [.top], [], 8⟩),
  (181, some ⟨.other, 1, [.top], [], 8⟩),
  (182, some ⟨.arr 4 3 1 (some false), 4, [.int .i64 0, .int .i64 0, .int .i64 0, .int .i64 0], [false, false, false, false], 32⟩),
  (183, some ⟨.other, 1, [.top], [], 8⟩),
  (184, some ⟨.other, 1, [.top], [], 8⟩),
  (185, some ⟨.other, 1, [.top], [], 8⟩),
  (186, some ⟨.other, 1, [.top], [], 8⟩),
  (187, some ⟨.other, 1, [.top], [], 8⟩),
  (188, some ⟨.other, 1, [.top], [], 8⟩),
  (189, some ⟨.struct [(0, 1, some false), (1, 1, some false), (2, 1, some false), (3, 1, some false)], 4, [.nilp, .nilp, .nilp, .top], [], 40⟩),
  (190, some ⟨.struct [(0, 1, some false), (1, 1, some false), (2, 1, some false), (3, 1, some false)], 4, [.nilp, .nilp, .nilp, .top], [], 40⟩),
  (191, some ⟨.arr 0 16 1 (some false), 0, [], [], 0⟩),
  (192, some ⟨.struct [(0, 0, some true)], 0, [], [], 0⟩),
  (193, some ⟨.struct [(0, 0, some true)], 0, [], [], 0⟩),
  (194, some ⟨.int .u8, 1, [.int .u8 0], [], 1⟩),
  (195, some ⟨.int .u8, 1, [.int .u8 0], [], 1⟩),
  (196, some ⟨.other, 1, [.top], [], 8⟩),
  (197, some ⟨.ptr 5, 1, [.nilp], [], 8⟩),
  (198, some ⟨.int .i32, 1, [.int .i32 0], [], 4⟩),
  (199, some ⟨.int .i32, 1, [.int .i32 0], [], 4⟩),
  (200, some ⟨.struct [(0, 1, some false), (1, 1, some false), (2, 1, some false), (3, 1, some false), (4, 1, some false), (5, 1, some false), (6, 1, some false), (7, 1, some false), (8, 1, some false), (9, 1, some false), (10, 1, some false)], 11, [.int .u64 0, .int .u64 0, .int .u32 0, .int .u8 0, .int .u8 0, .int .u8 0, .int .u8 0, .top, .nilp, .int .i32 0, .int .i32 0], [], 48⟩),
  (201, some ⟨.struct [(0, 1, some false), (1, 1, some false), (2, 1, some false), (3, 1, some false), (4, 1, some false), (5, 1, some false), (6, 1, some false), (7, 1, some false), (8, 1, some false), (9, 1, some false), (10, 1, some false)], 11, [.int .u64 0, .int .u64 0, .int .u32 0, .int .u8 0, .int .u8 0, .int .u8 0, .int .u8 0, .top, .nilp, .int .i32 0, .int .i32 0], [], 48⟩)]
def T : Tys := fun t => look none tyO t
def TysAll (P : Program) : List (Nat × Option TI) → Prop
  | [] => True
  | (_, none) :: rest => TysAll P rest
  | (t, some ti) :: rest => tyChk P t ti ∧ TysAll P rest
theorem TysAll.at {P : Program} : ∀ {l : List (Nat × Option TI)}, TysAll P l → ∀ t ti, look none l t = some ti → tyChk P t ti := by
  intro l
  induction l with
  | nil => intro _ t ti h; cases h
  | cons p l ih =>
    obtain ⟨k, x⟩ := p
    intro h t ti ht
    by_cases hk : t = k
    · subst hk
      rw [look_cons_eq] at ht
      subst ht
      exact h.1
    · rw [look_cons_ne _ _ _ hk] at ht
      cases x with
      | none => exact ih h t ti ht
      | some y => exact ih h.2 t ti ht
theorem ty1 : tyChk Try.prog 1 ⟨.other, 1, [.top], [], 8⟩ := ⟨by kernel_rfl, by kernel_rfl, by kernel_rfl⟩
theorem ty2 : tyChk Try.prog 2 ⟨.int .i64, 1, [.int .i64 0], [], 8⟩ := ⟨by kernel_rfl, by kernel_rfl, by kernel_rfl⟩
theorem ty3 : tyChk Try.prog 3 ⟨.int .i64, 1, [.int .i64 0], [], 8⟩ := ⟨by kernel_rfl, by kernel_rfl, by kernel_rfl⟩
theorem ty4 : tyChk Try.prog 4 ⟨.bool, 1, [.bool false], [], 1⟩ := ⟨by kernel_rfl, by kernel_rfl, by kernel_rfl⟩
theorem ty5 : tyChk Try.prog 5 ⟨.int .u8, 1, [.int .u8 0], [], 1⟩ := ⟨by kernel_rfl, by kernel_rfl, by kernel_rfl⟩
theorem ty6 : tyChk Try.prog 6 ⟨.int .u8, 1, [.int .u8 0], [], 1⟩ := ⟨by kernel_rfl, by kernel_rfl, by kernel_rfl⟩
theorem ty7 : tyChk Try.prog 7 ⟨.struct [(0, 1, some false), (1, 1, some false), (2, 1, some false), (3, 1, some false)], 4, [.int .i64 0, .int .i64 0, .bool false, .int .u8 0], [], 24⟩ := ⟨by kernel_rfl, by kernel_rfl, by kernel_rfl⟩
theorem ty8 : tyChk Try.prog 8 ⟨.struct [(0, 1, some false), (1, 1, some false), (2, 1, some false), (3, 1, some false)], 4, [.int .i64 0, .int .i64 0, .bool false, .int .u8 0], [], 24⟩ := ⟨by kernel_rfl, by kernel_rfl, by kernel_rfl⟩
theorem ty12 : tyChk Try.prog 12 ⟨.int .u64, 1, [.int .u64 0], [], 8⟩ := ⟨by kernel_rfl, by kernel_rfl, by kernel_rfl⟩
theorem ty13 : tyChk Try.prog 13 ⟨.struct [(0, 1, some false), (1, 1, some false)], 2, [.top, .int .u64 0], [], 24⟩ := ⟨by kernel_rfl, by kernel_rfl, by kernel_rfl⟩
theorem ty14 : tyChk Try.prog 14 ⟨.struct [(0, 1, some false), (1, 1, some false)], 2, [.top, .int .u64 0], [], 24⟩ := ⟨by kernel_rfl, by kernel_rfl, by kernel_rfl⟩
theorem ty15 : tyChk Try.prog 15 ⟨.ptr 190, 1, [.nilp], [], 8⟩ := ⟨by kernel_rfl, by kernel_rfl, by kernel_rfl⟩
theorem ty16 : tyChk Try.prog 16 ⟨.ptr 193, 1, [.nilp], [], 8⟩ := ⟨by kernel_rfl, by kernel_rfl, by kernel_rfl⟩
theorem ty17 : tyChk Try.prog 17 ⟨.ptr 201, 1, [.nilp], [], 8⟩ := ⟨by kernel_rfl, by kernel_rfl, by kernel_rfl⟩
theorem ty18 : tyChk Try.prog 18 ⟨.struct [(0, 1, some false)], 1, [.nilp], [], 8⟩ := ⟨by kernel_rfl, by kernel_rfl, by kernel_rfl⟩
theorem ty19 : tyChk Try.prog 19 ⟨.struct [(0, 1, some false)], 1, [.nilp], [], 8⟩ := ⟨by kernel_rfl, by kernel_rfl, by kernel_rfl⟩
theorem ty21 : tyChk Try.prog 21 ⟨.int .i32, 1, [.int .i32 0], [], 4⟩ := ⟨by kernel_rfl, by kernel_rfl, by kernel_rfl⟩
theorem ty22 : tyChk Try.prog 22 ⟨.int .u32, 1, [.int .u32 0], [], 4⟩ := ⟨by kernel_rfl, by kernel_rfl, by kernel_rfl⟩
theorem ty23 : tyChk Try.prog 23 ⟨.arr 16 5 1 (some false), 16, [.int .u8 0, .int .u8 0, .int .u8 0, .int .u8 0, .int .u8 0, .int .u8 0, .int .u8 0, .int .u8 0, .int .u8 0, .int .u8 0, .int .u8 0, .int .u8 0, .int .u8 0, .int .u8 0, .int .u8 0, .int .u8 0], [false, false, false, false, false, false, false, false, false, false, false, false, false, false, false, false], 16⟩ := ⟨by kernel_rfl, by kernel_rfl, by kernel_rfl⟩
theorem ty24 : tyChk Try.prog 24 ⟨.arr 16 5 1 (some false), 16, [.int .u8 0, .int .u8 0, .int .u8 0, .int .u8 0, .int .u8 0, .int .u8 0, .int .u8 0, .int .u8 0, .int .u8 0, .int .u8 0, .int .u8 0, .int .u8 0, .int .u8 0, .int .u8 0, .int .u8 0, .int .u8 0], [false, false, false, false, false, false, false, false, false, false, false, false, false, false, false, false], 16⟩ := ⟨by kernel_rfl, by kernel_rfl, by kernel_rfl⟩
theorem ty25 : tyChk Try.prog 25 ⟨.int .u16, 1, [.int .u16 0], [], 2⟩ := ⟨by kernel_rfl, by kernel_rfl, by kernel_rfl⟩
theorem ty26 : tyChk Try.prog 26 ⟨.slice 5 1 true, 1, [.nils], [], 24⟩ := ⟨by kernel_rfl, by kernel_rfl, by kernel_rfl⟩
theorem ty27 : tyChk Try.prog 27 ⟨.struct [(0, 1, some false), (1, 1, some false), (2, 1, some false), (3, 1, some false), (4, 16, some true), (20, 16, some true), (36, 1, some false), (37, 1, some false), (38, 1, some false)], 39, [.int .u8 0, .int .u32 0, .int .u8 0, .int .u8 0, .int .u8 0, .int .u8 0, .int .u8 0, .int .u8 0, .int .u8 0, .int .u8 0, .int .u8 0, .int .u8 0, .int .u8 0, .int .u8 0, .int .u8 0, .int .u8 0, .int .u8 0, .int .u8 0, .int .u8 0, .int .u8 0, .int .u8 0, .int .u8 0, .int .u8 0, .int .u8 0, .int .u8 0, .int .u8 0, .int .u8 0, .int .u8 0, .int .u8 0, .int .u8 0, .int .u8 0, .int .u8 0, .int .u8 0, .int .u8 0, .int .u8 0, .int .u8 0, .int .u16 0, .int .u16 0, .nils], [], 72⟩ := ⟨by kernel_rfl, by kernel_rfl, by kernel_rfl⟩
theorem ty28 : tyChk Try.prog 28 ⟨.struct [(0, 1, some false), (1, 1, some false), (2, 1, some false), (3, 1, some false), (4, 16, some true), (20, 16, some true), (36, 1, some false), (37, 1, some false), (38, 1, some false)], 39, [.int .u8 0, .int .u32 0, .int .u8 0, .int .u8 0, .int .u8 0, .int .u8 0, .int .u8 0, .int .u8 0, .int .u8 0, .int .u8 0, .int .u8 0, .int .u8 0, .int .u8 0, .int .u8 0, .int .u8 0, .int .u8 0, .int .u8 0, .int .u8 0, .int .u8 0, .int .u8 0, .int .u8 0, .int .u8 0, .int .u8 0, .int .u8 0, .int .u8 0, .int .u8 0, .int .u8 0, .int .u8 0, .int .u8 0, .int .u8 0, .int .u8 0, .int .u8 0, .int .u8 0, .int .u8 0, .int .u8 0, .int .u8 0, .int .u16 0, .int .u16 0, .nils], [], 72⟩ := ⟨by kernel_rfl, by kernel_rfl, by kernel_rfl⟩
theorem ty29 : tyChk Try.prog 29 ⟨.slice 3 1 true, 1, [.nils], [], 24⟩ := ⟨by kernel_rfl, by kernel_rfl, by kernel_rfl⟩
theorem ty30 : tyChk Try.prog 30 ⟨.other, 1, [.top], [], 8⟩ := ⟨by kernel_rfl, by kernel_rfl, by kernel_rfl⟩
theorem ty31 : tyChk Try.prog 31 ⟨.other, 1, [.top], [], 8⟩ := ⟨by kernel_rfl, by kernel_rfl, by kernel_rfl⟩
theorem ty32 : tyChk Try.prog 32 ⟨.slice 28 39 true, 1, [.nils], [], 24⟩ := ⟨by kernel_rfl, by kernel_rfl, by kernel_rfl⟩
theorem ty33 : tyChk Try.prog 33 ⟨.int .i64, 1, [.int .i64 0], [], 8⟩ := ⟨by kernel_rfl, by kernel_rfl, by kernel_rfl⟩
theorem ty35 : tyChk Try.prog 35 ⟨.other, 1, [.top], [], 8⟩ := ⟨by kernel_rfl, by kernel_rfl, by kernel_rfl⟩
theorem ty36 : tyChk Try.prog 36 ⟨.other, 1, [.top], [], 8⟩ := ⟨by kernel_rfl, by kernel_rfl, by kernel_rfl⟩
theorem ty37 : tyChk Try.prog 37 ⟨.other, 1, [.top], [], 8⟩ := ⟨by kernel_rfl, by kernel_rfl, by kernel_rfl⟩
theorem ty38 : tyChk Try.prog 38 ⟨.other, 1, [.top], [], 8⟩ := ⟨by kernel_rfl, by kernel_rfl, by kernel_rfl⟩
theorem ty39 : tyChk Try.prog 39 ⟨.other, 1, [.top], [], 8⟩ := ⟨by kernel_rfl, by kernel_rfl, by kernel_rfl⟩
theorem ty40 : tyChk Try.prog 40 ⟨.other, 1, [.top], [], 8⟩ := ⟨by kernel_rfl, by kernel_rfl, by kernel_rfl⟩
theorem ty41 : tyChk Try.prog 41 ⟨.other, 1, [.top], [], 8⟩ := ⟨by kernel_rfl, by kernel_rfl, by kernel_rfl⟩
theorem ty42 : tyChk Try.prog 42 ⟨.other, 1, [.top], [], 8⟩ := ⟨by kernel_rfl, by kernel_rfl, by kernel_rfl⟩
theorem ty43 : tyChk Try.prog 43 ⟨.other, 1, [.top], [], 8⟩ := ⟨by kernel_rfl, by kernel_rfl, by kernel_rfl⟩
theorem ty45 : tyChk Try.prog 45 ⟨.other, 1, [.top], [], 8⟩ := ⟨by kernel_rfl, by kernel_rfl, by kernel_rfl⟩
theorem ty46 : tyChk Try.prog 46 ⟨.other, 1, [.top], [], 8⟩ := ⟨by kernel_rfl, by kernel_rfl, by kernel_rfl⟩
theorem ty47 : tyChk Try.prog 47 ⟨.other, 1, [.top], [], 8⟩ := ⟨by kernel_rfl, by kernel_rfl, by kernel_rfl⟩
theorem ty48 : tyChk Try.prog 48 ⟨.slice 26 1 true, 1, [.nils], [], 24⟩ := ⟨by kernel_rfl, by kernel_rfl, by kernel_rfl⟩
theorem ty49 : tyChk Try.prog 49 ⟨.other, 1, [.top], [], 8⟩ := ⟨by kernel_rfl, by kernel_rfl, by kernel_rfl⟩
theorem ty50 : tyChk Try.prog 50 ⟨.other, 1, [.top], [], 8⟩ := ⟨by kernel_rfl, by kernel_rfl, by kernel_rfl⟩
theorem ty51 : tyChk Try.prog 51 ⟨.other, 1, [.top], [], 8⟩ := ⟨by kernel_rfl, by kernel_rfl, by kernel_rfl⟩
theorem ty52 : tyChk Try.prog 52 ⟨.int .u64, 1, [.int .u64 0], [], 8⟩ := ⟨by kernel_rfl, by kernel_rfl, by kernel_rfl⟩
theorem ty53 : tyChk Try.prog 53 ⟨.other, 1, [.top], [], 8⟩ := ⟨by kernel_rfl, by kernel_rfl, by kernel_rfl⟩
theorem ty54 : tyChk Try.prog 54 ⟨.other, 1, [.top], [], 8⟩ := ⟨by kernel_rfl, by kernel_rfl, by kernel_rfl⟩
theorem ty55 : tyChk Try.prog 55 ⟨.int .u16, 1, [.int .u16 0], [], 2⟩ := ⟨by kernel_rfl, by kernel_rfl, by kernel_rfl⟩
theorem ty56 : tyChk Try.prog 56 ⟨.int .u64, 1, [.int .u64 0], [], 8⟩ := ⟨by kernel_rfl, by kernel_rfl, by kernel_rfl⟩
theorem ty57 : tyChk Try.prog 57 ⟨.int .u64, 1, [.int .u64 0], [], 8⟩ := ⟨by kernel_rfl, by kernel_rfl, by kernel_rfl⟩
theorem ty58 : tyChk Try.prog 58 ⟨.struct [(0, 1, some false), (1, 1, some false), (2, 1, some false)], 3, [.int .i64 0, .int .u16 0, .int .u64 0], [false, false, false], 24⟩ := ⟨by kernel_rfl, by kernel_rfl, by kernel_rfl⟩
theorem ty59 : tyChk Try.prog 59 ⟨.struct [(0, 1, some false), (1, 1, some false), (2, 1, some false)], 3, [.int .i64 0, .int .u16 0, .int .u64 0], [false, false, false], 24⟩ := ⟨by kernel_rfl, by kernel_rfl, by kernel_rfl⟩
theorem ty60 : tyChk Try.prog 60 ⟨.slice 82 20 true, 1, [.nils], [], 24⟩ := ⟨by kernel_rfl, by kernel_rfl, by kernel_rfl⟩
theorem ty61 : tyChk Try.prog 61 ⟨.ptr 106, 1, [.nilp], [], 8⟩ := ⟨by kernel_rfl, by kernel_rfl, by kernel_rfl⟩
theorem ty62 : tyChk Try.prog 62 ⟨.other, 1, [.top], [], 8⟩ := ⟨by kernel_rfl, by kernel_rfl, by kernel_rfl⟩
theorem ty63 : tyChk Try.prog 63 ⟨.other, 1, [.top], [], 8⟩ := ⟨by kernel_rfl, by kernel_rfl, by kernel_rfl⟩
theorem ty64 : tyChk Try.prog 64 ⟨.other, 1, [.top], [], 8⟩ := ⟨by kernel_rfl, by kernel_rfl, by kernel_rfl⟩
theorem ty65 : tyChk Try.prog 65 ⟨.other, 1, [.top], [], 8⟩ := ⟨by kernel_rfl, by kernel_rfl, by kernel_rfl⟩
theorem ty66 : tyChk Try.prog 66 ⟨.other, 1, [.top], [], 8⟩ := ⟨by kernel_rfl, by kernel_rfl, by kernel_rfl⟩
theorem ty67 : tyChk Try.prog 67 ⟨.other, 1, [.top], [], 8⟩ := ⟨by kernel_rfl, by kernel_rfl, by kernel_rfl⟩
theorem ty68 : tyChk Try.prog 68 ⟨.other, 1, [.top], [], 8⟩ := ⟨by kernel_rfl, by kernel_rfl, by kernel_rfl⟩
theorem ty69 : tyChk Try.prog 69 ⟨.other, 1, [.top], [], 8⟩ := ⟨by kernel_rfl, by kernel_rfl, by kernel_rfl⟩
theorem ty70 : tyChk Try.prog 70 ⟨.other, 1, [.top], [], 8⟩ := ⟨by kernel_rfl, by kernel_rfl, by kernel_rfl⟩
theorem ty71 : tyChk Try.prog 71 ⟨.other, 1, [.top], [], 8⟩ := ⟨by kernel_rfl, by kernel_rfl, by kernel_rfl⟩
theorem ty72 : tyChk Try.prog 72 ⟨.struct [(0, 16, some true), (16, 1, some false)], 17, [.int .u8 0, .int .u8 0, .int .u8 0, .int .u8 0, .int .u8 0, .int .u8 0, .int .u8 0, .int .u8 0, .int .u8 0, .int .u8 0, .int .u8 0, .int .u8 0, .int .u8 0, .int .u8 0, .int .u8 0, .int .u8 0, .int .i64 0], [false, false, false, false, false, false, false, false, false, false, false, false, false, false, false, false, false], 24⟩ := ⟨by kernel_rfl, by kernel_rfl, by kernel_rfl⟩
theorem ty73 : tyChk Try.prog 73 ⟨.struct [(0, 16, some true), (16, 1, some false)], 17, [.int .u8 0, .int .u8 0, .int .u8 0, .int .u8 0, .int .u8 0, .int .u8 0, .int .u8 0, .int .u8 0, .int .u8 0, .int .u8 0, .int .u8 0, .int .u8 0, .int .u8 0, .int .u8 0, .int .u8 0, .int .u8 0, .int .i64 0], [false, false, false, false, false, false, false, false, false, false, false, false, false, false, false, false, false], 24⟩ := ⟨by kernel_rfl, by kernel_rfl, by kernel_rfl⟩
theorem ty74 : tyChk Try.prog 74 ⟨.other, 1, [.top], [], 8⟩ := ⟨by kernel_rfl, by kernel_rfl, by kernel_rfl⟩
theorem ty76 : tyChk Try.prog 76 ⟨.other, 1, [.top], [], 8⟩ := ⟨by kernel_rfl, by kernel_rfl, by kernel_rfl⟩
theorem ty77 : tyChk Try.prog 77 ⟨.other, 1, [.top], [], 8⟩ := ⟨by kernel_rfl, by kernel_rfl, by kernel_rfl⟩
theorem ty79 : tyChk Try.prog 79 ⟨.other, 1, [.top], [], 8⟩ := ⟨by kernel_rfl, by kernel_rfl, by kernel_rfl⟩
theorem ty80 : tyChk Try.prog 80 ⟨.other, 1, [.top], [], 8⟩ := ⟨by kernel_rfl, by kernel_rfl, by kernel_rfl⟩
theorem ty81 : tyChk Try.prog 81 ⟨.struct [(0, 1, some false), (1, 17, some true), (18, 1, some false), (19, 1, some false)], 20, [.int .i64 0, .int .u8 0, .int .u8 0, .int .u8 0, .int .u8 0, .int .u8 0, .int .u8 0, .int .u8 0, .int .u8 0, .int .u8 0, .int .u8 0, .int .u8 0, .int .u8 0, .int .u8 0, .int .u8 0, .int .u8 0, .int .u8 0, .int .i64 0, .bool false, .int .i64 0], [false, false, false, false, false, false, false, false, false, false, false, false, false, false, false, false, false, false, true, false], 48⟩ := ⟨by kernel_rfl, by kernel_rfl, by kernel_rfl⟩
theorem ty82 : tyChk Try.prog 82 ⟨.struct [(0, 1, some false), (1, 17, some true), (18, 1, some false), (19, 1, some false)], 20, [.int .i64 0, .int .u8 0, .int .u8 0, .int .u8 0, .int .u8 0, .int .u8 0, .int .u8 0, .int .u8 0, .int .u8 0, .int .u8 0, .int .u8 0, .int .u8 0, .int .u8 0, .int .u8 0, .int .u8 0, .int .u8 0, .int .u8 0, .int .i64 0, .bool false, .int .i64 0], [false, false, false, false, false, false, false, false, false, false, false, false, false, false, false, false, false, false, true, false], 48⟩ := ⟨by kernel_rfl, by kernel_rfl, by kernel_rfl⟩
theorem ty83 : tyChk Try.prog 83 ⟨.other, 1, [.top], [], 8⟩ := ⟨by kernel_rfl, by kernel_rfl, by kernel_rfl⟩
theorem ty84 : tyChk Try.prog 84 ⟨.other, 1, [.top], [], 8⟩ := ⟨by kernel_rfl, by kernel_rfl, by kernel_rfl⟩
theorem ty85 : tyChk Try.prog 85 ⟨.other, 1, [.top], [], 8⟩ := ⟨by kernel_rfl, by kernel_rfl, by kernel_rfl⟩
theorem ty86 : tyChk Try.prog 86 ⟨.other, 1, [.top], [], 8⟩ := ⟨by kernel_rfl, by kernel_rfl, by kernel_rfl⟩
theorem ty87 : tyChk Try.prog 87 ⟨.other, 1, [.top], [], 8⟩ := ⟨by kernel_rfl, by kernel_rfl, by kernel_rfl⟩
theorem ty88 : tyChk Try.prog 88 ⟨.other, 1, [.top], [], 8⟩ := ⟨by kernel_rfl, by kernel_rfl, by kernel_rfl⟩
theorem ty89 : tyChk Try.prog 89 ⟨.other, 1, [.top], [], 8⟩ := ⟨by kernel_rfl, by kernel_rfl, by kernel_rfl⟩
theorem ty90 : tyChk Try.prog 90 ⟨.other, 1, [.top], [], 8⟩ := ⟨by kernel_rfl, by kernel_rfl, by kernel_rfl⟩
theorem ty91 : tyChk Try.prog 91 ⟨.other, 1, [.top], [], 8⟩ := ⟨by kernel_rfl, by kernel_rfl, by kernel_rfl⟩
theorem ty93 : tyChk Try.prog 93 ⟨.other, 1, [.top], [], 8⟩ := ⟨by kernel_rfl, by kernel_rfl, by kernel_rfl⟩
theorem ty94 : tyChk Try.prog 94 ⟨.other, 1, [.top], [], 8⟩ := ⟨by kernel_rfl, by kernel_rfl, by kernel_rfl⟩
theorem ty95 : tyChk Try.prog 95 ⟨.other, 1, [.top], [], 8⟩ := ⟨by kernel_rfl, by kernel_rfl, by kernel_rfl⟩
theorem ty96 : tyChk Try.prog 96 ⟨.other, 1, [.top], [], 8⟩ := ⟨by kernel_rfl, by kernel_rfl, by kernel_rfl⟩
theorem ty97 : tyChk Try.prog 97 ⟨.slice 24 16 true, 1, [.nils], [], 24⟩ := ⟨by kernel_rfl, by kernel_rfl, by kernel_rfl⟩
theorem ty98 : tyChk Try.prog 98 ⟨.other, 1, [.top], [], 8⟩ := ⟨by kernel_rfl, by kernel_rfl, by kernel_rfl⟩
theorem ty99 : tyChk Try.prog 99 ⟨.other, 1, [.top], [], 8⟩ := ⟨by kernel_rfl, by kernel_rfl, by kernel_rfl⟩
theorem ty100 : tyChk Try.prog 100 ⟨.other, 1, [.top], [], 8⟩ := ⟨by kernel_rfl, by kernel_rfl, by kernel_rfl⟩
theorem ty101 : tyChk Try.prog 101 ⟨.other, 1, [.top], [], 8⟩ := ⟨by kernel_rfl, by kernel_rfl, by kernel_rfl⟩
theorem ty102 : tyChk Try.prog 102 ⟨.other, 1, [.top], [], 8⟩ := ⟨by kernel_rfl, by kernel_rfl, by kernel_rfl⟩
theorem ty103 : tyChk Try.prog 103 ⟨.other, 1, [.top], [], 8⟩ := ⟨by kernel_rfl, by kernel_rfl, by kernel_rfl⟩
theorem ty104 : tyChk Try.prog 104 ⟨.other, 1, [.top], [], 8⟩ := ⟨by kernel_rfl, by kernel_rfl, by kernel_rfl⟩
theorem ty105 : tyChk Try.prog 105 ⟨.struct [(0, 1, some false), (1, 1, some false)], 2, [.nils, .int .i64 0], [], 32⟩ := ⟨by kernel_rfl, by kernel_rfl, by kernel_rfl⟩
theorem ty106 : tyChk Try.prog 106 ⟨.struct [(0, 1, some false), (1, 1, some false)], 2, [.nils, .int .i64 0], [], 32⟩ := ⟨by kernel_rfl, by kernel_rfl, by kernel_rfl⟩
theorem ty107 : tyChk Try.prog 107 ⟨.other, 1, [.top], [], 8⟩ := ⟨by kernel_rfl, by kernel_rfl, by kernel_rfl⟩
theorem ty108 : tyChk Try.prog 108 ⟨.other, 1, [.top], [], 8⟩ := ⟨by kernel_rfl, by kernel_rfl, by kernel_rfl⟩
theorem ty109 : tyChk Try.prog 109 ⟨.other, 1, [.top], [], 8⟩ := ⟨by kernel_rfl, by kernel_rfl, by kernel_rfl⟩
theorem ty110 : tyChk Try.prog 110 ⟨.other, 1, [.top], [], 8⟩ := ⟨by kernel_rfl, by kernel_rfl, by kernel_rfl⟩
theorem ty112 : tyChk Try.prog 112 ⟨.other, 1, [.top], [], 8⟩ := ⟨by kernel_rfl, by kernel_rfl, by kernel_rfl⟩
theorem ty113 : tyChk Try.prog 113 ⟨.struct [(0, 1, some false), (1, 1, some false), (2, 1, some false), (3, 1, some false)], 4, [.bool false, .int .i64 0, .int .i64 0, .nils], [], 48⟩ := ⟨by kernel_rfl, by kernel_rfl, by kernel_rfl⟩
theorem ty114 : tyChk Try.prog 114 ⟨.struct [(0, 1, some false), (1, 1, some false), (2, 1, some false), (3, 1, some false)], 4, [.bool false, .int .i64 0, .int .i64 0, .nils], [], 48⟩ := ⟨by kernel_rfl, by kernel_rfl, by kernel_rfl⟩
theorem ty115 : tyChk Try.prog 115 ⟨.other, 1, [.top], [], 8⟩ := ⟨by kernel_rfl, by kernel_rfl, by kernel_rfl⟩
theorem ty116 : tyChk Try.prog 116 ⟨.other, 1, [.top], [], 8⟩ := ⟨by kernel_rfl, by kernel_rfl, by kernel_rfl⟩
theorem ty117 : tyChk Try.prog 117 ⟨.other, 1, [.top], [], 8⟩ := ⟨by kernel_rfl, by kernel_rfl, by kernel_rfl⟩
theorem ty118 : tyChk Try.prog 118 ⟨.slice 56 1 true, 1, [.nils], [], 24⟩ := ⟨by kernel_rfl, by kernel_rfl, by kernel_rfl⟩
theorem ty119 : tyChk Try.prog 119 ⟨.other, 1, [.top], [], 8⟩ := ⟨by kernel_rfl, by kernel_rfl, by kernel_rfl⟩
theorem ty120 : tyChk Try.prog 120 ⟨.other, 1, [.top], [], 8⟩ := ⟨by kernel_rfl, by kernel_rfl, by kernel_rfl⟩
theorem ty121 : tyChk Try.prog 121 ⟨.other, 1, [.top], [], 8⟩ := ⟨by kernel_rfl, by kernel_rfl, by kernel_rfl⟩
theorem ty123 : tyChk Try.prog 123 ⟨.other, 1, [.top], [], 8⟩ := ⟨by kernel_rfl, by kernel_rfl, by kernel_rfl⟩
theorem ty124 : tyChk Try.prog 124 ⟨.slice 128 34 true, 1, [.nils], [], 24⟩ := ⟨by kernel_rfl, by kernel_rfl, by kernel_rfl⟩
theorem ty126 : tyChk Try.prog 126 ⟨.other, 1, [.top], [], 8⟩ := ⟨by kernel_rfl, by kernel_rfl, by kernel_rfl⟩
theorem ty127 : tyChk Try.prog 127 ⟨.struct [(0, 16, some true), (16, 16, some true), (32, 1, some false), (33, 1, some false)], 34, [.int .u8 0, .int .u8 0, .int .u8 0, .int .u8 0, .int .u8 0, .int .u8 0, .int .u8 0, .int .u8 0, .int .u8 0, .int .u8 0, .int .u8 0, .int .u8 0, .int .u8 0, .int .u8 0, .int .u8 0, .int .u8 0, .int .u8 0, .int .u8 0, .int .u8 0, .int .u8 0, .int .u8 0, .int .u8 0, .int .u8 0, .int .u8 0, .int .u8 0, .int .u8 0, .int .u8 0, .int .u8 0, .int .u8 0, .int .u8 0, .int .u8 0, .int .u8 0, .int .i64 0, .int .i64 0], [false, false, false, false, false, false, false, false, false, false, false, false, false, false, false, false, false, false, false, false, false, false, false, false, false, false, false, false, false, false, false, false, false, false], 48⟩ := ⟨by kernel_rfl, by kernel_rfl, by kernel_rfl⟩
theorem ty128 : tyChk Try.prog 128 ⟨.struct [(0, 16, some true), (16, 16, some true), (32, 1, some false), (33, 1, some false)], 34, [.int .u8 0, .int .u8 0, .int .u8 0, .int .u8 0, .int .u8 0, .int .u8 0, .int .u8 0, .int .u8 0, .int .u8 0, .int .u8 0, .int .u8 0, .int .u8 0, .int .u8 0, .int .u8 0, .int .u8 0, .int .u8 0, .int .u8 0, .int .u8 0, .int .u8 0, .int .u8 0, .int .u8 0, .int .u8 0, .int .u8 0, .int .u8 0, .int .u8 0, .int .u8 0, .int .u8 0, .int .u8 0, .int .u8 0, .int .u8 0, .int .u8 0, .int .u8 0, .int .i64 0, .int .i64 0], [false, false, false, false, false, false, false, false, false, false, false, false, false, false, false, false, false, false, false, false, false, false, false, false, false, false, false, false, false, false, false, false, false, false], 48⟩ := ⟨by kernel_rfl, by kernel_rfl, by kernel_rfl⟩
theorem ty129 : tyChk Try.prog 129 ⟨.other, 1, [.top], [], 8⟩ := ⟨by kernel_rfl, by kernel_rfl, by kernel_rfl⟩
theorem ty130 : tyChk Try.prog 130 ⟨.arr 5 5 1 (some false), 5, [.int .u8 0, .int .u8 0, .int .u8 0, .int .u8 0, .int .u8 0], [false, false, false, false, false], 5⟩ := ⟨by kernel_rfl, by kernel_rfl, by kernel_rfl⟩
theorem ty131 : tyChk Try.prog 131 ⟨.other, 1, [.top], [], 8⟩ := ⟨by kernel_rfl, by kernel_rfl, by kernel_rfl⟩
theorem ty132 : tyChk Try.prog 132 ⟨.struct [(0, 1, some false), (1, 1, some false), (2, 1, some false), (3, 1, some false)], 4, [.bool false, .int .i64 0, .int .i64 0, .nils], [], 48⟩ := ⟨by kernel_rfl, by kernel_rfl, by kernel_rfl⟩
theorem ty133 : tyChk Try.prog 133 ⟨.struct [(0, 1, some false), (1, 1, some false), (2, 1, some false), (3, 1, some false)], 4, [.bool false, .int .i64 0, .int .i64 0, .nils], [], 48⟩ := ⟨by kernel_rfl, by kernel_rfl, by kernel_rfl⟩
theorem ty134 : tyChk Try.prog 134 ⟨.other, 1, [.top], [], 8⟩ := ⟨by kernel_rfl, by kernel_rfl, by kernel_rfl⟩
theorem ty135 : tyChk Try.prog 135 ⟨.other, 1, [.top], [], 8⟩ := ⟨by kernel_rfl, by kernel_rfl, by kernel_rfl⟩
theorem ty136 : tyChk Try.prog 136 ⟨.ptr 138, 1, [.nilp], [], 8⟩ := ⟨by kernel_rfl, by kernel_rfl, by kernel_rfl⟩
theorem ty137 : tyChk Try.prog 137 ⟨.struct [(0, 1, some false), (1, 1, some false)], 2, [.nils, .int .i64 0], [], 32⟩ := ⟨by kernel_rfl, by kernel_rfl, by kernel_rfl⟩
theorem ty138 : tyChk Try.prog 138 ⟨.struct [(0, 1, some false), (1, 1, some false)], 2, [.nils, .int .i64 0], [], 32⟩ := ⟨by kernel_rfl, by kernel_rfl, by kernel_rfl⟩
theorem ty140 : tyChk Try.prog 140 ⟨.other, 1, [.top], [], 8⟩ := ⟨by kernel_rfl, by kernel_rfl, by kernel_rfl⟩
theorem ty141 : tyChk Try.prog 141 ⟨.other, 1, [.top], [], 8⟩ := ⟨by kernel_rfl, by kernel_rfl, by kernel_rfl⟩
theorem ty142 : tyChk Try.prog 142 ⟨.other, 1, [.top], [], 8⟩ := ⟨by kernel_rfl, by kernel_rfl, by kernel_rfl⟩
theorem ty144 : tyChk Try.prog 144 ⟨.other, 1, [.top], [], 8⟩ := ⟨by kernel_rfl, by kernel_rfl, by kernel_rfl⟩
theorem ty145 : tyChk Try.prog 145 ⟨.other, 1, [.top], [], 8⟩ := ⟨by kernel_rfl, by kernel_rfl, by kernel_rfl⟩
theorem ty147 : tyChk Try.prog 147 ⟨.other, 1, [.top], [], 8⟩ := ⟨by kernel_rfl, by kernel_rfl, by kernel_rfl⟩
theorem ty148 : tyChk Try.prog 148 ⟨.other, 1, [.top], [], 8⟩ := ⟨by kernel_rfl, by kernel_rfl, by kernel_rfl⟩
theorem ty149 : tyChk Try.prog 149 ⟨.slice 151 2 true, 1, [.nils], [], 24⟩ := ⟨by kernel_rfl, by kernel_rfl, by kernel_rfl⟩
theorem ty150 : tyChk Try.prog 150 ⟨.struct [(0, 1, some false), (1, 1, some false)], 2, [.int .u64 0, .int .i64 0], [false, false], 16⟩ := ⟨by kernel_rfl, by kernel_rfl, by kernel_rfl⟩
theorem ty151 : tyChk Try.prog 151 ⟨.struct [(0, 1, some false), (1, 1, some false)], 2, [.int .u64 0, .int .i64 0], [false, false], 16⟩ := ⟨by kernel_rfl, by kernel_rfl, by kernel_rfl⟩
theorem ty152 : tyChk Try.prog 152 ⟨.other, 1, [.top], [], 8⟩ := ⟨by kernel_rfl, by kernel_rfl, by kernel_rfl⟩
theorem ty153 : tyChk Try.prog 153 ⟨.other, 1, [.top], [], 8⟩ := ⟨by kernel_rfl, by kernel_rfl, by kernel_rfl⟩
theorem ty154 : tyChk Try.prog 154 ⟨.arr 2 5 1 (some false), 2, [.int .u8 0, .int .u8 0], [false, false], 2⟩ := ⟨by kernel_rfl, by kernel_rfl, by kernel_rfl⟩
theorem ty156 : tyChk Try.prog 156 ⟨.other, 1, [.top], [], 8⟩ := ⟨by kernel_rfl, by kernel_rfl, by kernel_rfl⟩
theorem ty157 : tyChk Try.prog 157 ⟨.other, 1, [.top], [], 8⟩ := ⟨by kernel_rfl, by kernel_rfl, by kernel_rfl⟩
theorem ty158 : tyChk Try.prog 158 ⟨.other, 1, [.top], [], 8⟩ := ⟨by kernel_rfl, by kernel_rfl, by kernel_rfl⟩
theorem ty159 : tyChk Try.prog 159 ⟨.other, 1, [.top], [], 8⟩ := ⟨by kernel_rfl, by kernel_rfl, by kernel_rfl⟩
theorem ty160 : tyChk Try.prog 160 ⟨.other, 1, [.top], [], 8⟩ := ⟨by kernel_rfl, by kernel_rfl, by kernel_rfl⟩
theorem ty162 : tyChk Try.prog 162 ⟨.other, 1, [.top], [], 8⟩ := ⟨by kernel_rfl, by kernel_rfl, by kernel_rfl⟩
theorem ty163 : tyChk Try.prog 163 ⟨.other, 1, [.top], [], 8⟩ := ⟨by kernel_rfl, by kernel_rfl, by kernel_rfl⟩
theorem ty164 : tyChk Try.prog 164 ⟨.other, 1, [.top], [], 8⟩ := ⟨by kernel_rfl, by kernel_rfl, by kernel_rfl⟩
theorem ty165 : tyChk Try.prog 165 ⟨.other, 1, [.top], [], 8⟩ := ⟨by kernel_rfl, by kernel_rfl, by kernel_rfl⟩
theorem ty166 : tyChk Try.prog 166 ⟨.other, 1, [.top], [], 8⟩ := ⟨by kernel_rfl, by kernel_rfl, by kernel_rfl⟩
theorem ty167 : tyChk Try.prog 167 ⟨.other, 1, [.top], [], 8⟩ := ⟨by kernel_rfl, by kernel_rfl, by kernel_rfl⟩
theorem ty168 : tyChk Try.prog 168 ⟨.other, 1, [.top], [], 8⟩ := ⟨by kernel_rfl, by kernel_rfl, by kernel_rfl⟩
theorem ty169 : tyChk Try.prog 169 ⟨.ptr 171, 1, [.nilp], [], 8⟩ := ⟨by kernel_rfl, by kernel_rfl, by kernel_rfl⟩
theorem ty170 : tyChk Try.prog 170 ⟨.struct [(0, 1, some false), (1, 1, some false), (2, 1, some false)], 3, [.nils, .int .i64 0, .int .i64 0], [], 40⟩ := ⟨by kernel_rfl, by kernel_rfl, by kernel_rfl⟩
theorem ty171 : tyChk Try.prog 171 ⟨.struct [(0, 1, some false), (1, 1, some false), (2, 1, some false)], 3, [.nils, .int .i64 0, .int .i64 0], [], 40⟩ := ⟨by kernel_rfl, by kernel_rfl, by kernel_rfl⟩
theorem ty172 : tyChk Try.prog 172 ⟨.other, 1, [.top], [], 8⟩ := ⟨by kernel_rfl, by kernel_rfl, by kernel_rfl⟩
theorem ty173 : tyChk Try.prog 173 ⟨.other, 1, [.top], [], 8⟩ := ⟨by kernel_rfl, by kernel_rfl, by kernel_rfl⟩
theorem ty174 : tyChk Try.prog 174 ⟨.other, 1, [.top], [], 8⟩ := ⟨by kernel_rfl, by kernel_rfl, by kernel_rfl⟩
theorem ty175 : tyChk Try.prog 175 ⟨.other, 1, [.top], [], 8⟩ := ⟨by kernel_rfl, by kernel_rfl, by kernel_rfl⟩
theorem ty177 : tyChk Try.prog 177 ⟨.other, 1, [.top], [], 8⟩ := ⟨by kernel_rfl, by kernel_rfl, by kernel_rfl⟩
theorem ty178 : tyChk Try.prog 178 ⟨.other, 1, [.top], [], 8⟩ := ⟨by kernel_rfl, by kernel_rfl, by kernel_rfl⟩
theorem ty179 : tyChk Try.prog 179 ⟨.arr 4 56 1 (some false), 4, [.int .u64 0, .int .u64 0, .int .u64 0, .int .u64 0], [false, false, false, false], 32⟩ := ⟨by kernel_rfl, by kernel_rfl, by kernel_rfl⟩
theorem ty180 : tyChk Try.prog 180 ⟨.other, 1, [.top], [], 8⟩ := ⟨by kernel_rfl, by kernel_rfl, by kernel_rfl⟩
theorem ty181 : tyChk Try.prog 181 ⟨.other, 1, [.top], [], 8⟩ := ⟨by kernel_rfl, by kernel_rfl, by kernel_rfl⟩
theorem ty182 : tyChk Try.prog 182 ⟨.arr 4 3 1 (some false), 4, [.int .i64 0, .int .i64 0, .int .i64 0, .int .i64 0], [false, false, false, false], 32⟩ := ⟨by kernel_rfl, by kernel_rfl, by kernel_rfl⟩
theorem ty183 : tyChk Try.prog 183 ⟨.other, 1, [.top], [], 8⟩ := ⟨by kernel_rfl, by kernel_rfl, by kernel_rfl⟩
theorem ty184 : tyChk Try.prog 184 ⟨.other, 1, [.top], [], 8⟩ := ⟨by kernel_rfl, by kernel_rfl, by kernel_rfl⟩
theorem ty185 : tyChk Try.prog 185 ⟨.other, 1, [.top], [], 8⟩ := ⟨by kernel_rfl, by kernel_rfl, by kernel_rfl⟩
theorem ty186 : tyChk Try.prog 186 ⟨.other, 1, [.top], [], 8⟩ := ⟨by kernel_rfl, by kernel_rfl, by kernel_rfl⟩
theorem ty187 : tyChk Try.prog 187 ⟨.other, 1, [.top], [], 8⟩ := ⟨by kernel_rfl, by kernel_rfl, by kernel_rfl⟩
theorem ty188 : tyChk Try.prog 188 ⟨.other, 1, [.top], [], 8⟩ := ⟨by kernel_rfl, by kernel_rfl, by kernel_rfl⟩
theorem ty189 : tyChk Try.prog 189 ⟨.struct [(0, 1, some false), (1, 1, some false), (2, 1, some false), (3, 1, some false)], 4, [.nilp, .nilp, .nilp, .top], [], 40⟩ := ⟨by kernel_rfl, by kernel_rfl, by kernel_rfl⟩
theorem ty190 : tyChk Try.prog 190 ⟨.struct [(0, 1, some false), (1, 1, some false), (2, 1, some false), (3, 1, some false)], 4, [.nilp, .nilp, .nilp, .top], [], 40⟩ := ⟨by kernel_rfl, by kernel_rfl, by kernel_rfl⟩
theorem ty191 : tyChk Try.prog 191 ⟨.arr 0 16 1 (some false), 0, [], [], 0⟩ := ⟨by kernel_rfl, by kernel_rfl, by kernel_rfl⟩
theorem ty192 : tyChk Try.prog 192 ⟨.struct [(0, 0, some true)], 0, [], [], 0⟩ := ⟨by kernel_rfl, by kernel_rfl, by kernel_rfl⟩
theorem ty193 : tyChk Try.prog 193 ⟨.struct [(0, 0, some true)], 0, [], [], 0⟩ := ⟨by kernel_rfl, by kernel_rfl, by kernel_rfl⟩
theorem ty194 : tyChk Try.prog 194 ⟨.int .u8, 1, [.int .u8 0], [], 1⟩ := ⟨by kernel_rfl, by kernel_rfl, by kernel_rfl⟩
theorem ty195 : tyChk Try.prog 195 ⟨.int .u8, 1, [.int .u8 0], [], 1⟩ := ⟨by kernel_rfl, by kernel_rfl, by kernel_rfl⟩
theorem ty196 : tyChk Try.prog 196 ⟨.other, 1, [.top], [], 8⟩ := ⟨by kernel_rfl, by kernel_rfl, by kernel_rfl⟩
theorem ty197 : tyChk Try.prog 197 ⟨.ptr 5, 1, [.nilp], [], 8⟩ := ⟨by kernel_rfl, by kernel_rfl, by kernel_rfl⟩
theorem ty198 : tyChk Try.prog 198 ⟨.int .i32, 1, [.int .i32 0], [], 4⟩ := ⟨by kernel_rfl, by kernel_rfl, by kernel_rfl⟩
theorem ty199 : tyChk Try.prog 199 ⟨.int .i32, 1, [.int .i32 0], [], 4⟩ := ⟨by kernel_rfl, by kernel_rfl, by kernel_rfl⟩
theorem ty200 : tyChk Try.prog 200 ⟨.struct [(0, 1, some false), (1, 1, some false), (2, 1, some false), (3, 1, some false), (4, 1, some false), (5, 1, some false), (6, 1, some false), (7, 1, some false), (8, 1, some false), (9, 1, some false), (10, 1, some false)], 11, [.int .u64 0, .int .u64 0, .int .u32 0, .int .u8 0, .int .u8 0, .int .u8 0, .int .u8 0, .top, .nilp, .int .i32 0, .int .i32 0], [], 48⟩ := ⟨by kernel_rfl, by kernel_rfl, by kernel_rfl⟩
theorem ty201 : tyChk Try.prog 201 ⟨.struct [(0, 1, some false), (1, 1, some false), (2, 1, some false), (3, 1, some false), (4, 1, some false), (5, 1, some false), (6, 1, some false), (7, 1, some false), (8, 1, some false), (9, 1, some false), (10, 1, some false)], 11, [.int .u64 0, .int .u64 0, .int .u32 0, .int .u8 0, .int .u8 0, .int .u8 0, .int .u8 0, .top, .nilp, .int .i32 0, .int .i32 0], [], 48⟩ := ⟨by kernel_rfl, by kernel_rfl, by kernel_rfl⟩
theorem tysOk : TysOk Try.prog T := (show TysAll Try.prog tyO from ⟨ty1, ty2, ty3, ty4, ty5, ty6, ty7, ty8, ty12, ty13, ty14, ty15, ty16, ty17, ty18, ty19, ty21, ty22, ty23, ty24, ty25, ty26, ty27, ty28, ty29, ty30, ty31, ty32, ty33, ty35, ty36, ty37, ty38, ty39, ty40, ty41, ty42, ty43, ty45, ty46, ty47, ty48, ty49, ty50, ty51, ty52, ty53, ty54, ty55, ty56, ty57, ty58, ty59, ty60, ty61, ty62, ty63, ty64, ty65, ty66, ty67, ty68, ty69, ty70, ty71, ty72, ty73, ty74, ty76, ty77, ty79, ty80, ty81, ty82, ty83, ty84, ty85, ty86, ty87, ty88, ty89, ty90, ty91, ty93, ty94, ty95, ty96, ty97, ty98, ty99, ty100, ty101, ty102, ty103, ty104, ty105, ty106, ty107, ty108, ty109, ty110, ty112, ty113, ty114, ty115, ty116, ty117, ty118, ty119, ty120, ty121, ty123, ty124, ty126, ty127, ty128, ty129, ty130, ty131, ty132, ty133, ty134, ty135, ty136, ty137, ty138, ty140, ty141, ty142, ty144, ty145, ty147, ty148, ty149, ty150, ty151, ty152, ty153, ty154, ty156, ty157, ty158, ty159, ty160, ty162, ty163, ty164, ty165, ty166, ty167, ty168, ty169, ty170, ty171, ty172, ty173, ty174, ty175, ty177, ty178, ty179, ty180, ty181, ty182, ty183, ty184, ty185, ty186, ty187, ty188, ty189, ty190, ty191, ty192, ty193, ty194, ty195, ty196, ty197, ty198, ty199, ty200, ty201, trivial⟩).at
theorem mixed : Try.prog.follows .mixedOrders = true := by kernel_rfl
end Go.Proofs.Ytjknkfjhcapocaa.AX
