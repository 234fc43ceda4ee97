/- Texts of one's own in one file: Tys, Ge, Tp, Lr, Fl, Bg, Plain, PkL, Oc, PkV, Fn, Cmp, Be, Ct, Ct2, Ct3, Rf, Lq, Rf2, Sm, Pk, Pk2, Pk3, Pk4, Pk5, PkP, IhL, Tp2. -/
import Derived.Test.YthbhidfohdipnaaChecked
import Derived.Test.YthbhidfohdipnaaJDiscoveryFormsb
import Derived.IntWalk
import Derived.Test.YthbhidfohdipnaaJDiscoveryFormsa
import Derived.Deep.Slices
import Derived.OpenShut
import Derived.DataReads
import Derived.ChangeArms
import Derived.Laws.BitsAllLaws
import Derived.Lib.BytesEntry
import Derived.Laws.Externs
import Derived.WalkKit
import Derived.Laws.BytesArg
/- The table of the types (written by a program out of the dump), and that it is right. -/
namespace Go.Proofs.Ythbhidfohdipnaa.AX
set_option linter.unusedVariables false
def tyO : List (Nat × Option TI) := [
  (1, some ⟨.other, 1, [.top], [], 8⟩),
  (2, some ⟨.int .i64, 1, [.int .i64 0], [], 8⟩),
  (3, some ⟨.int .i64, 1, [.int .i64 0], [], 8⟩),
  (4, some ⟨.bool, 1, [.bool false], [], 1⟩),
  (5, some ⟨.int .u8, 1, [.int .u8 0], [], 1⟩),
  (6, some ⟨.int .u8, 1, [.int .u8 0], [], 1⟩),
  (7, some ⟨.struct [(0, 1, some false), (1, 1, some false), (2, 1, some false), (3, 1, some false)], 4, [.int .i64 0, .int .i64 0, .bool false, .int .u8 0], [], 24⟩),
  (8, some ⟨.struct [(0, 1, some false), (1, 1, some false), (2, 1, some false), (3, 1, some false)], 4, [.int .i64 0, .int .i64 0, .bool false, .int .u8 0], [], 24⟩),
  (12, some ⟨.int .u64, 1, [.int .u64 0], [], 8⟩),
  (13, some ⟨.struct [(0, 1, some false), (1, 1, some false)], 2, [.top, .int .u64 0], [], 24⟩),
  (14, some ⟨.struct [(0, 1, some false), (1, 1, some false)], 2, [.top, .int .u64 0], [], 24⟩),
  (15, some ⟨.ptr 130, 1, [.nilp], [], 8⟩),
  (16, some ⟨.ptr 133, 1, [.nilp], [], 8⟩),
  (17, some ⟨.ptr 142, 1, [.nilp], [], 8⟩),
  (18, some ⟨.struct [(0, 1, some false)], 1, [.nilp], [], 8⟩),
  (19, some ⟨.struct [(0, 1, some false)], 1, [.nilp], [], 8⟩),
  (21, some ⟨.int .i32, 1, [.int .i32 0], [], 4⟩),
  (22, some ⟨.int .u16, 1, [.int .u16 0], [], 2⟩),
  (23, some ⟨.arr 16 5 1 (some false), 16, [.int .u8 0, .int .u8 0, .int .u8 0, .int .u8 0, .int .u8 0, .int .u8 0, .int .u8 0, .int .u8 0, .int .u8 0, .int .u8 0, .int .u8 0, .int .u8 0, .int .u8 0, .int .u8 0, .int .u8 0, .int .u8 0], [false, false, false, false, false, false, false, false, false, false, false, false, false, false, false, false], 16⟩),
  (24, some ⟨.arr 16 5 1 (some false), 16, [.int .u8 0, .int .u8 0, .int .u8 0, .int .u8 0, .int .u8 0, .int .u8 0, .int .u8 0, .int .u8 0, .int .u8 0, .int .u8 0, .int .u8 0, .int .u8 0, .int .u8 0, .int .u8 0, .int .u8 0, .int .u8 0], [false, false, false, false, false, false, false, false, false, false, false, false, false, false, false, false], 16⟩),
  (25, some ⟨.int .u16, 1, [.int .u16 0], [], 2⟩),
  (26, some ⟨.int .u64, 1, [.int .u64 0], [], 8⟩),
  (27, some ⟨.int .u64, 1, [.int .u64 0], [], 8⟩),
  (28, some ⟨.struct [(0, 1, some false), (1, 1, some false), (2, 1, some false)], 3, [.int .i64 0, .int .u16 0, .int .u64 0], [false, false, false], 24⟩),
  (29, some ⟨.struct [(0, 1, some false), (1, 1, some false), (2, 1, some false)], 3, [.int .i64 0, .int .u16 0, .int .u64 0], [false, false, false], 24⟩),
  (30, some ⟨.struct [(0, 1, some false), (1, 1, some false), (2, 1, some false), (3, 1, some false)], 4, [.int .u64 0, .int .u8 0, .int .u8 0, .int .u16 0], [false, false, false, false], 16⟩),
  (31, some ⟨.struct [(0, 1, some false), (1, 1, some false), (2, 1, some false), (3, 1, some false)], 4, [.int .u64 0, .int .u8 0, .int .u8 0, .int .u16 0], [false, false, false, false], 16⟩),
  (32, some ⟨.slice 76 20 true, 1, [.nils], [], 24⟩),
  (33, some ⟨.slice 78 20 true, 1, [.nils], [], 24⟩),
  (34, some ⟨.int .u32, 1, [.int .u32 0], [], 4⟩),
  (35, some ⟨.struct [(0, 1, some false), (1, 1, some false), (2, 16, some true)], 18, [.int .u32 0, .int .u16 0, .int .u8 0, .int .u8 0, .int .u8 0, .int .u8 0, .int .u8 0, .int .u8 0, .int .u8 0, .int .u8 0, .int .u8 0, .int .u8 0, .int .u8 0, .int .u8 0, .int .u8 0, .int .u8 0, .int .u8 0, .int .u8 0], [false, false, false, false, false, false, false, false, false, false, false, false, false, false, false, false, false, false], 24⟩),
  (36, some ⟨.struct [(0, 1, some false), (1, 1, some false), (2, 16, some true)], 18, [.int .u32 0, .int .u16 0, .int .u8 0, .int .u8 0, .int .u8 0, .int .u8 0, .int .u8 0, .int .u8 0, .int .u8 0, .int .u8 0, .int .u8 0, .int .u8 0, .int .u8 0, .int .u8 0, .int .u8 0, .int .u8 0, .int .u8 0, .int .u8 0], [false, false, false, false, false, false, false, false, false, false, false, false, false, false, false, false, false, false], 24⟩),
  (37, some ⟨.struct [(0, 1, some false), (1, 1, some false), (2, 1, some false), (3, 16, some true), (19, 3, some true), (22, 4, some true), (26, 1, some false), (27, 1, some false), (28, 1, some false), (29, 18, some true), (47, 1, some false)], 48, [.int .u8 0, .int .u8 0, .int .u16 0, .int .u8 0, .int .u8 0, .int .u8 0, .int .u8 0, .int .u8 0, .int .u8 0, .int .u8 0, .int .u8 0, .int .u8 0, .int .u8 0, .int .u8 0, .int .u8 0, .int .u8 0, .int .u8 0, .int .u8 0, .int .u8 0, .int .i64 0, .int .u16 0, .int .u64 0, .int .u64 0, .int .u8 0, .int .u8 0, .int .u16 0, .bool false, .nils, .nils, .int .u32 0, .int .u16 0, .int .u8 0, .int .u8 0, .int .u8 0, .int .u8 0, .int .u8 0, .int .u8 0, .int .u8 0, .int .u8 0, .int .u8 0, .int .u8 0, .int .u8 0, .int .u8 0, .int .u8 0, .int .u8 0, .int .u8 0, .int .u8 0, .bool false], [], 152⟩),
  (38, some ⟨.struct [(0, 1, some false), (1, 1, some false), (2, 1, some false), (3, 16, some true), (19, 3, some true), (22, 4, some true), (26, 1, some false), (27, 1, some false), (28, 1, some false), (29, 18, some true), (47, 1, some false)], 48, [.int .u8 0, .int .u8 0, .int .u16 0, .int .u8 0, .int .u8 0, .int .u8 0, .int .u8 0, .int .u8 0, .int .u8 0, .int .u8 0, .int .u8 0, .int .u8 0, .int .u8 0, .int .u8 0, .int .u8 0, .int .u8 0, .int .u8 0, .int .u8 0, .int .u8 0, .int .i64 0, .int .u16 0, .int .u64 0, .int .u64 0, .int .u8 0, .int .u8 0, .int .u16 0, .bool false, .nils, .nils, .int .u32 0, .int .u16 0, .int .u8 0, .int .u8 0, .int .u8 0, .int .u8 0, .int .u8 0, .int .u8 0, .int .u8 0, .int .u8 0, .int .u8 0, .int .u8 0, .int .u8 0, .int .u8 0, .int .u8 0, .int .u8 0, .int .u8 0, .int .u8 0, .bool false], [], 152⟩),
  (39, some ⟨.slice 3 1 true, 1, [.nils], [], 24⟩),
  (40, some ⟨.slice 5 1 true, 1, [.nils], [], 24⟩),
  (41, some ⟨.ptr 66, 1, [.nilp], [], 8⟩),
  (42, some ⟨.other, 1, [.top], [], 8⟩),
  (43, some ⟨.other, 1, [.top], [], 8⟩),
  (44, some ⟨.other, 1, [.top], [], 8⟩),
  (45, some ⟨.slice 38 48 true, 1, [.nils], [], 24⟩),
  (46, some ⟨.int .i64, 1, [.int .i64 0], [], 8⟩),
  (48, some ⟨.other, 1, [.top], [], 8⟩),
  (49, some ⟨.other, 1, [.top], [], 8⟩),
  (50, some ⟨.other, 1, [.top], [], 8⟩),
  (51, some ⟨.other, 1, [.top], [], 8⟩),
  (52, some ⟨.other, 1, [.top], [], 8⟩),
  (53, some ⟨.other, 1, [.top], [], 8⟩),
  (54, some ⟨.other, 1, [.top], [], 8⟩),
  (55, some ⟨.other, 1, [.top], [], 8⟩),
  (56, some ⟨.other, 1, [.top], [], 8⟩),
  (58, some ⟨.other, 1, [.top], [], 8⟩),
  (59, some ⟨.other, 1, [.top], [], 8⟩),
  (60, some ⟨.other, 1, [.top], [], 8⟩),
  (61, some ⟨.int .u64, 1, [.int .u64 0], [], 8⟩),
  (62, some ⟨.slice 40 1 true, 1, [.nils], [], 24⟩),
  (63, some ⟨.other, 1, [.top], [], 8⟩),
  (64, some ⟨.other, 1, [.top], [], 8⟩),
  (65, some ⟨.struct [(0, 1, some false), (1, 1, some false)], 2, [.nils, .int .i64 0], [], 32⟩),
  (66, some ⟨.struct [(0, 1, some false), (1, 1, some false)], 2, [.nils, .int .i64 0], [], 32⟩),
  (67, some ⟨.other, 1, [.top], [], 8⟩),
  (68, some ⟨.other, 1, [.top], [], 8⟩),
  (69, some ⟨.other, 1, [.top], [], 8⟩),
  (70, some ⟨.other, 1, [.top], [], 8⟩),
  (71, some ⟨.struct [(0, 16, some true), (16, 1, some false)], 17, [.int .u8 0, .int .u8 0, .int .u8 0, .int .u8 0, .int .u8 0, .int .u8 0, .int .u8 0, .int .u8 0, .int .u8 0, .int .u8 0, .int .u8 0, .int .u8 0, .int .u8 0, .int .u8 0, .int .u8 0, .int .u8 0, .int .i64 0], [false, false, false, false, false, false, false, false, false, false, false, false, false, false, false, false, false], 24⟩),
  (72, some ⟨.struct [(0, 16, some true), (16, 1, some false)], 17, [.int .u8 0, .int .u8 0, .int .u8 0, .int .u8 0, .int .u8 0, .int .u8 0, .int .u8 0, .int .u8 0, .int .u8 0, .int .u8 0, .int .u8 0, .int .u8 0, .int .u8 0, .int .u8 0, .int .u8 0, .int .u8 0, .int .i64 0], [false, false, false, false, false, false, false, false, false, false, false, false, false, false, false, false, false], 24⟩),
  (73, some ⟨.other, 1, [.top], [], 8⟩),
  (74, some ⟨.other, 1, [.top], [], 8⟩),
  (75, some ⟨.struct [(0, 17, some true), (17, 1, some false), (18, 1, some false), (19, 1, some false)], 20, [.int .u8 0, .int .u8 0, .int .u8 0, .int .u8 0, .int .u8 0, .int .u8 0, .int .u8 0, .int .u8 0, .int .u8 0, .int .u8 0, .int .u8 0, .int .u8 0, .int .u8 0, .int .u8 0, .int .u8 0, .int .u8 0, .int .i64 0, .bool false, .bool false, .int .u32 0], [false, false, false, false, false, false, false, false, false, false, false, false, false, false, false, false, false, true, true, false], 32⟩),
  (76, some ⟨.struct [(0, 17, some true), (17, 1, some false), (18, 1, some false), (19, 1, some false)], 20, [.int .u8 0, .int .u8 0, .int .u8 0, .int .u8 0, .int .u8 0, .int .u8 0, .int .u8 0, .int .u8 0, .int .u8 0, .int .u8 0, .int .u8 0, .int .u8 0, .int .u8 0, .int .u8 0, .int .u8 0, .int .u8 0, .int .i64 0, .bool false, .bool false, .int .u32 0], [false, false, false, false, false, false, false, false, false, false, false, false, false, false, false, false, false, true, true, false], 32⟩),
  (77, some ⟨.struct [(0, 1, some false), (1, 17, some true), (18, 1, some false), (19, 1, some false)], 20, [.int .i64 0, .int .u8 0, .int .u8 0, .int .u8 0, .int .u8 0, .int .u8 0, .int .u8 0, .int .u8 0, .int .u8 0, .int .u8 0, .int .u8 0, .int .u8 0, .int .u8 0, .int .u8 0, .int .u8 0, .int .u8 0, .int .u8 0, .int .i64 0, .bool false, .int .u16 0], [false, false, false, false, false, false, false, false, false, false, false, false, false, false, false, false, false, false, true, false], 40⟩),
  (78, some ⟨.struct [(0, 1, some false), (1, 17, some true), (18, 1, some false), (19, 1, some false)], 20, [.int .i64 0, .int .u8 0, .int .u8 0, .int .u8 0, .int .u8 0, .int .u8 0, .int .u8 0, .int .u8 0, .int .u8 0, .int .u8 0, .int .u8 0, .int .u8 0, .int .u8 0, .int .u8 0, .int .u8 0, .int .u8 0, .int .u8 0, .int .i64 0, .bool false, .int .u16 0], [false, false, false, false, false, false, false, false, false, false, false, false, false, false, false, false, false, false, true, false], 40⟩),
  (79, some ⟨.other, 1, [.top], [], 8⟩),
  (80, some ⟨.struct [(0, 1, some false), (1, 1, some false), (2, 1, some false), (3, 1, some false), (4, 1, some false), (5, 1, some false)], 6, [.bool false, .bool false, .bool false, .bool false, .bool false, .int .i64 0], [true, true, true, true, true, false], 16⟩),
  (81, some ⟨.struct [(0, 1, some false), (1, 1, some false), (2, 1, some false), (3, 1, some false), (4, 1, some false), (5, 1, some false)], 6, [.bool false, .bool false, .bool false, .bool false, .bool false, .int .i64 0], [true, true, true, true, true, false], 16⟩),
  (83, some ⟨.other, 1, [.top], [], 8⟩),
  (84, some ⟨.ptr 86, 1, [.nilp], [], 8⟩),
  (85, some ⟨.struct [(0, 1, some false)], 1, [.nils], [], 24⟩),
  (86, some ⟨.struct [(0, 1, some false)], 1, [.nils], [], 24⟩),
  (87, some ⟨.other, 1, [.top], [], 8⟩),
  (88, some ⟨.other, 1, [.top], [], 8⟩),
  (89, some ⟨.other, 1, [.top], [], 8⟩),
  (90, some ⟨.other, 1, [.top], [], 8⟩),
  (91, some ⟨.other, 1, [.top], [], 8⟩),
  (92, some ⟨.other, 1, [.top], [], 8⟩),
  (93, some ⟨.other, 1, [.top], [], 8⟩),
  (95, some ⟨.other, 1, [.top], [], 8⟩),
  (96, some ⟨.ptr 98, 1, [.nilp], [], 8⟩),
  (97, some ⟨.struct [(0, 48, some true), (48, 1, some false)], 49, [.int .u8 0, .int .u8 0, .int .u16 0, .int .u8 0, .int .u8 0, .int .u8 0, .int .u8 0, .int .u8 0, .int .u8 0, .int .u8 0, .int .u8 0, .int .u8 0, .int .u8 0, .int .u8 0, .int .u8 0, .int .u8 0, .int .u8 0, .int .u8 0, .int .u8 0, .int .i64 0, .int .u16 0, .int .u64 0, .int .u64 0, .int .u8 0, .int .u8 0, .int .u16 0, .bool false, .nils, .nils, .int .u32 0, .int .u16 0, .int .u8 0, .int .u8 0, .int .u8 0, .int .u8 0, .int .u8 0, .int .u8 0, .int .u8 0, .int .u8 0, .int .u8 0, .int .u8 0, .int .u8 0, .int .u8 0, .int .u8 0, .int .u8 0, .int .u8 0, .int .u8 0, .bool false, .nils], [], 176⟩),
  (98, some ⟨.struct [(0, 48, some true), (48, 1, some false)], 49, [.int .u8 0, .int .u8 0, .int .u16 0, .int .u8 0, .int .u8 0, .int .u8 0, .int .u8 0, .int .u8 0, .int .u8 0, .int .u8 0, .int .u8 0, .int .u8 0, .int .u8 0, .int .u8 0, .int .u8 0, .int .u8 0, .int .u8 0, .int .u8 0, .int .u8 0, .int .i64 0, .int .u16 0, .int .u64 0, .int .u64 0, .int .u8 0, .int .u8 0, .int .u16 0, .bool false, .nils, .nils, .int .u32 0, .int .u16 0, .int .u8 0, .int .u8 0, .int .u8 0, .int .u8 0, .int .u8 0, .int .u8 0, .int .u8 0, .int .u8 0, .int .u8 0, .int .u8 0, .int .u8 0, .int .u8 0, .int .u8 0, .int .u8 0, .int .u8 0, .int .u8 0, .bool false, .nils], [], 176⟩),
  (99, some ⟨.other, 1, [.top], [], 8⟩),
  (100, some ⟨.slice 26 1 true, 1, [.nils], [], 24⟩),
  (101, some ⟨.other, 1, [.top], [], 8⟩),
  (102, some ⟨.other, 1, [.top], [], 8⟩),
  (103, some ⟨.other, 1, [.top], [], 8⟩),
  (104, some ⟨.other, 1, [.top], [], 8⟩),
  (105, some ⟨.map 5 81 1 6 (some false) (some true), 1, [.top], [], 8⟩),
  (106, some ⟨.other, 1, [.top], [], 8⟩),
  (107, some ⟨.other, 1, [.top], [], 8⟩),
  (108, some ⟨.other, 1, [.top], [], 8⟩),
  (109, some ⟨.other, 1, [.top], [], 8⟩),
  (110, some ⟨.other, 1, [.top], [], 8⟩),
  (111, some ⟨.other, 1, [.top], [], 8⟩),
  (112, some ⟨.other, 1, [.top], [], 8⟩),
  (113, some ⟨.other, 1, [.top], [], 8⟩),
  (114, some ⟨.other, 1, [.top], [], 8⟩),
  (116, some ⟨.other, 1, [.top], [], 8⟩),
  (117, some ⟨.other, 1, [.top], [], 8⟩),
  (118, some ⟨.other, 1, [.top], [], 8⟩),
  (119, some ⟨.other, 1, [.top], [], 8⟩),
  (120, some ⟨.arr 2 5 1 (some false), 2, [.int .u8 0, .int .u8 0], [false, false], 2⟩),
  (121, some ⟨.other, 1, [.top], [], 8⟩),
  (122, some ⟨.struct [(0, 1, some false)], 1, [.top], [], 8⟩),
  (123, some ⟨.struct [(0, 1, some false)], 1, [.top], [], 8⟩),
  (124, some ⟨.map 120 123 2 1 (some true) (some true), 1, [.top], [], 8⟩),
  (126, some ⟨.other, 1, [.top], [], 8⟩),
  (127, some ⟨.other, 1, [.top], [], 8⟩),
  (128, some ⟨.other, 1, [.top], [], 8⟩),
  (129, some ⟨.struct [(0, 1, some false), (1, 1, some false), (2, 1, some false), (3, 1, some false)], 4, [.nilp, .nilp, .nilp, .top], [], 40⟩),
  (130, some ⟨.struct [(0, 1, some false), (1, 1, some false), (2, 1, some false), (3, 1, some false)], 4, [.nilp, .nilp, .nilp, .top], [], 40⟩),
  (131, some ⟨.arr 0 16 1 (some false), 0, [], [], 0⟩),
  (132, some ⟨.struct [(0, 0, some true)], 0, [], [], 0⟩),
  (133, some ⟨.struct [(0, 0, some true)], 0, [], [], 0⟩),
  (134, some ⟨.other, 1, [.top], [], 8⟩),
  (135, some ⟨.int .u8, 1, [.int .u8 0], [], 1⟩),
  (136, some ⟨.int .u8, 1, [.int .u8 0], [], 1⟩),
  (137, some ⟨.other, 1, [.top], [], 8⟩),
  (138, some ⟨.ptr 5, 1, [.nilp], [], 8⟩),
  (139, some ⟨.int .i32, 1, [.int .i32 0], [], 4⟩),
  (140, some ⟨.int .i32, 1, [.int .i32 0], [], 4⟩),
  (141, some ⟨.struct [(0, 1, some false), (1, 1, some false), (2, 1, some false), (3, 1, some false), (4, 1, some false), (5, 1, some false), (6, 1, some false), (7, 1, some false), (8, 1, some false), (9, 1, some false), (10, 1, some false)], 11, [.int .u64 0, .int .u64 0, .int .u32 0, .int .u8 0, .int .u8 0, .int .u8 0, .int .u8 0, .top, .nilp, .int .i32 0, .int .i32 0], [], 48⟩),
  (142, some ⟨.struct [(0, 1, some false), (1, 1, some false), (2, 1, some false), (3, 1, some false), (4, 1, some false), (5, 1, some false), (6, 1, some false), (7, 1, some false), (8, 1, some false), (9, 1, some false), (10, 1, some false)], 11, [.int .u64 0, .int .u64 0, .int .u32 0, .int .u8 0, .int .u8 0, .int .u8 0, .int .u8 0, .top, .nilp, .int .i32 0, .int .i32 0], [], 48⟩)]
def T : Tys := fun t => look none tyO t
def TysAll (P : Program) : List (Nat × Option TI) → Prop
  | [] => True
  | (_, none) :: rest => TysAll P rest
  | (t, some ti) :: rest => tyChk P t ti ∧ TysAll P rest
theorem TysAll.at {P : Program} : ∀ {l : List (Nat × Option TI)}, TysAll P l → ∀ t ti, look none l t = some ti → tyChk P t ti := by
  intro l
  induction l with
  | nil => intro _ t ti h; cases h
  | cons p l ih =>
    obtain ⟨k, x⟩ := p
    intro h t ti ht
    by_cases hk : t = k
    · subst hk
      rw [look_cons_eq] at ht
      subst ht
      exact h.1
    · rw [look_cons_ne _ _ _ hk] at ht
      cases x with
      | none => exact ih h t ti ht
      | some y => exact ih h.2 t ti ht
theorem ty1 : tyChk Try.prog 1 ⟨.other, 1, [.top], [], 8⟩ := ⟨by kernel_rfl, by kernel_rfl, by kernel_rfl⟩
theorem ty2 : tyChk Try.prog 2 ⟨.int .i64, 1, [.int .i64 0], [], 8⟩ := ⟨by kernel_rfl, by kernel_rfl, by kernel_rfl⟩
theorem ty3 : tyChk Try.prog 3 ⟨.int .i64, 1, [.int .i64 0], [], 8⟩ := ⟨by kernel_rfl, by kernel_rfl, by kernel_rfl⟩
theorem ty4 : tyChk Try.prog 4 ⟨.bool, 1, [.bool false], [], 1⟩ := ⟨by kernel_rfl, by kernel_rfl, by kernel_rfl⟩
theorem ty5 : tyChk Try.prog 5 ⟨.int .u8, 1, [.int .u8 0], [], 1⟩ := ⟨by kernel_rfl, by kernel_rfl, by kernel_rfl⟩
theorem ty6 : tyChk Try.prog 6 ⟨.int .u8, 1, [.int .u8 0], [], 1⟩ := ⟨by kernel_rfl, by kernel_rfl, by kernel_rfl⟩
theorem ty7 : tyChk Try.prog 7 ⟨.struct [(0, 1, some false), (1, 1, some false), (2, 1, some false), (3, 1, some false)], 4, [.int .i64 0, .int .i64 0, .bool false, .int .u8 0], [], 24⟩ := ⟨by kernel_rfl, by kernel_rfl, by kernel_rfl⟩
theorem ty8 : tyChk Try.prog 8 ⟨.struct [(0, 1, some false), (1, 1, some false), (2, 1, some false), (3, 1, some false)], 4, [.int .i64 0, .int .i64 0, .bool false, .int .u8 0], [], 24⟩ := ⟨by kernel_rfl, by kernel_rfl, by kernel_rfl⟩
theorem ty12 : tyChk Try.prog 12 ⟨.int .u64, 1, [.int .u64 0], [], 8⟩ := ⟨by kernel_rfl, by kernel_rfl, by kernel_rfl⟩
theorem ty13 : tyChk Try.prog 13 ⟨.struct [(0, 1, some false), (1, 1, some false)], 2, [.top, .int .u64 0], [], 24⟩ := ⟨by kernel_rfl, by kernel_rfl, by kernel_rfl⟩
theorem ty14 : tyChk Try.prog 14 ⟨.struct [(0, 1, some false), (1, 1, some false)], 2, [.top, .int .u64 0], [], 24⟩ := ⟨by kernel_rfl, by kernel_rfl, by kernel_rfl⟩
theorem ty15 : tyChk Try.prog 15 ⟨.ptr 130, 1, [.nilp], [], 8⟩ := ⟨by kernel_rfl, by kernel_rfl, by kernel_rfl⟩
theorem ty16 : tyChk Try.prog 16 ⟨.ptr 133, 1, [.nilp], [], 8⟩ := ⟨by kernel_rfl, by kernel_rfl, by kernel_rfl⟩
theorem ty17 : tyChk Try.prog 17 ⟨.ptr 142, 1, [.nilp], [], 8⟩ := ⟨by kernel_rfl, by kernel_rfl, by kernel_rfl⟩
theorem ty18 : tyChk Try.prog 18 ⟨.struct [(0, 1, some false)], 1, [.nilp], [], 8⟩ := ⟨by kernel_rfl, by kernel_rfl, by kernel_rfl⟩
theorem ty19 : tyChk Try.prog 19 ⟨.struct [(0, 1, some false)], 1, [.nilp], [], 8⟩ := ⟨by kernel_rfl, by kernel_rfl, by kernel_rfl⟩
theorem ty21 : tyChk Try.prog 21 ⟨.int .i32, 1, [.int .i32 0], [], 4⟩ := ⟨by kernel_rfl, by kernel_rfl, by kernel_rfl⟩
theorem ty22 : tyChk Try.prog 22 ⟨.int .u16, 1, [.int .u16 0], [], 2⟩ := ⟨by kernel_rfl, by kernel_rfl, by kernel_rfl⟩
theorem ty23 : tyChk Try.prog 23 ⟨.arr 16 5 1 (some false), 16, [.int .u8 0, .int .u8 0, .int .u8 0, .int .u8 0, .int .u8 0, .int .u8 0, .int .u8 0, .int .u8 0, .int .u8 0, .int .u8 0, .int .u8 0, .int .u8 0, .int .u8 0, .int .u8 0, .int .u8 0, .int .u8 0], [false, false, false, false, false, false, false, false, false, false, false, false, false, false, false, false], 16⟩ := ⟨by kernel_rfl, by kernel_rfl, by kernel_rfl⟩
theorem ty24 : tyChk Try.prog 24 ⟨.arr 16 5 1 (some false), 16, [.int .u8 0, .int .u8 0, .int .u8 0, .int .u8 0, .int .u8 0, .int .u8 0, .int .u8 0, .int .u8 0, .int .u8 0, .int .u8 0, .int .u8 0, .int .u8 0, .int .u8 0, .int .u8 0, .int .u8 0, .int .u8 0], [false, false, false, false, false, false, false, false, false, false, false, false, false, false, false, false], 16⟩ := ⟨by kernel_rfl, by kernel_rfl, by kernel_rfl⟩
theorem ty25 : tyChk Try.prog 25 ⟨.int .u16, 1, [.int .u16 0], [], 2⟩ := ⟨by kernel_rfl, by kernel_rfl, by kernel_rfl⟩
theorem ty26 : tyChk Try.prog 26 ⟨.int .u64, 1, [.int .u64 0], [], 8⟩ := ⟨by kernel_rfl, by kernel_rfl, by kernel_rfl⟩
theorem ty27 : tyChk Try.prog 27 ⟨.int .u64, 1, [.int .u64 0], [], 8⟩ := ⟨by kernel_rfl, by kernel_rfl, by kernel_rfl⟩
theorem ty28 : tyChk Try.prog 28 ⟨.struct [(0, 1, some false), (1, 1, some false), (2, 1, some false)], 3, [.int .i64 0, .int .u16 0, .int .u64 0], [false, false, false], 24⟩ := ⟨by kernel_rfl, by kernel_rfl, by kernel_rfl⟩
theorem ty29 : tyChk Try.prog 29 ⟨.struct [(0, 1, some false), (1, 1, some false), (2, 1, some false)], 3, [.int .i64 0, .int .u16 0, .int .u64 0], [false, false, false], 24⟩ := ⟨by kernel_rfl, by kernel_rfl, by kernel_rfl⟩
theorem ty30 : tyChk Try.prog 30 ⟨.struct [(0, 1, some false), (1, 1, some false), (2, 1, some false), (3, 1, some false)], 4, [.int .u64 0, .int .u8 0, .int .u8 0, .int .u16 0], [false, false, false, false], 16⟩ := ⟨by kernel_rfl, by kernel_rfl, by kernel_rfl⟩
theorem ty31 : tyChk Try.prog 31 ⟨.struct [(0, 1, some false), (1, 1, some false), (2, 1, some false), (3, 1, some false)], 4, [.int .u64 0, .int .u8 0, .int .u8 0, .int .u16 0], [false, false, false, false], 16⟩ := ⟨by kernel_rfl, by kernel_rfl, by kernel_rfl⟩
theorem ty32 : tyChk Try.prog 32 ⟨.slice 76 20 true, 1, [.nils], [], 24⟩ := ⟨by kernel_rfl, by kernel_rfl, by kernel_rfl⟩
theorem ty33 : tyChk Try.prog 33 ⟨.slice 78 20 true, 1, [.nils], [], 24⟩ := ⟨by kernel_rfl, by kernel_rfl, by kernel_rfl⟩
theorem ty34 : tyChk Try.prog 34 ⟨.int .u32, 1, [.int .u32 0], [], 4⟩ := ⟨by kernel_rfl, by kernel_rfl, by kernel_rfl⟩
theorem ty35 : tyChk Try.prog 35 ⟨.struct [(0, 1, some false), (1, 1, some false), (2, 16, some true)], 18, [.int .u32 0, .int .u16 0, .int .u8 0, .int .u8 0, .int .u8 0, .int .u8 0, .int .u8 0, .int .u8 0, .int .u8 0, .int .u8 0, .int .u8 0, .int .u8 0, .int .u8 0, .int .u8 0, .int .u8 0, .int .u8 0, .int .u8 0, .int .u8 0], [false, false, false, false, false, false, false, false, false, false, false, false, false, false, false, false, false, false], 24⟩ := ⟨by kernel_rfl, by kernel_rfl, by kernel_rfl⟩
theorem ty36 : tyChk Try.prog 36 ⟨.struct [(0, 1, some false), (1, 1, some false), (2, 16, some true)], 18, [.int .u32 0, .int .u16 0, .int .u8 0, .int .u8 0, .int .u8 0, .int .u8 0, .int .u8 0, .int .u8 0, .int .u8 0, .int .u8 0, .int .u8 0, .int .u8 0, .int .u8 0, .int .u8 0, .int .u8 0, .int .u8 0, .int .u8 0, .int .u8 0], [false, false, false, false, false, false, false, false, false, false, false, false, false, false, false, false, false, false], 24⟩ := ⟨by kernel_rfl, by kernel_rfl, by kernel_rfl⟩
theorem ty37 : tyChk Try.prog 37 ⟨.struct [(0, 1, some false), (1, 1, some false), (2, 1, some false), (3, 16, some true), (19, 3, some true), (22, 4, some true), (26, 1, some false), (27, 1, some false), (28, 1, some false), (29, 18, some true), (47, 1, some false)], 48, [.int .u8 0, .int .u8 0, .int .u16 0, .int .u8 0, .int .u8 0, .int .u8 0, .int .u8 0, .int .u8 0, .int .u8 0, .int .u8 0, .int .u8 0, .int .u8 0, .int .u8 0, .int .u8 0, .int .u8 0, .int .u8 0, .int .u8 0, .int .u8 0, .int .u8 0, .int .i64 0, .int .u16 0, .int .u64 0, .int .u64 0, .int .u8 0, .int .u8 0, .int .u16 0, .bool false, .nils, .nils, .int .u32 0, .int .u16 0, .int .u8 0, .int .u8 0, .int .u8 0, .int .u8 0, .int .u8 0, .int .u8 0, .int .u8 0, .int .u8 0, .int .u8 0, .int .u8 0, .int .u8 0, .int .u8 0, .int .u8 0, .int .u8 0, .int .u8 0, .int .u8 0, .bool false], [], 152⟩ := ⟨by kernel_rfl, by kernel_rfl, by kernel_rfl⟩
theorem ty38 : tyChk Try.prog 38 ⟨.struct [(0, 1, some false), (1, 1, some false), (2, 1, some false), (3, 16, some true), (19, 3, some true), (22, 4, some true), (26, 1, some false), (27, 1, some false), (28, 1, some false), (29, 18, some true), (47, 1, some false)], 48, [.int .u8 0, .int .u8 0, .int .u16 0, .int .u8 0, .int .u8 0, .int .u8 0, .int .u8 0, .int .u8 0, .int .u8 0, .int .u8 0, .int .u8 0, .int .u8 0, .int .u8 0, .int .u8 0, .int .u8 0, .int .u8 0, .int .u8 0, .int .u8 0, .int .u8 0, .int .i64 0, .int .u16 0, .int .u64 0, .int .u64 0, .int .u8 0, .int .u8 0, .int .u16 0, .bool false, .nils, .nils, .int .u32 0, .int .u16 0, .int .u8 0, .int .u8 0, .int .u8 0, .int .u8 0, .int .u8 0, .int .u8 0, .int .u8 0, .int .u8 0, .int .u8 0, .int .u8 0, .int .u8 0, .int .u8 0, .int .u8 0, .int .u8 0, .int .u8 0, .int .u8 0, .bool false], [], 152⟩ := ⟨by kernel_rfl, by kernel_rfl, by kernel_rfl⟩
theorem ty39 : tyChk Try.prog 39 ⟨.slice 3 1 true, 1, [.nils], [], 24⟩ := ⟨by kernel_rfl, by kernel_rfl, by kernel_rfl⟩
theorem ty40 : tyChk Try.prog 40 ⟨.slice 5 1 true, 1, [.nils], [], 24⟩ := ⟨by kernel_rfl, by kernel_rfl, by kernel_rfl⟩
theorem ty41 : tyChk Try.prog 41 ⟨.ptr 66, 1, [.nilp], [], 8⟩ := ⟨by kernel_rfl, by kernel_rfl, by kernel_rfl⟩
theorem ty42 : tyChk Try.prog 42 ⟨.other, 1, [.top], [], 8⟩ := ⟨by kernel_rfl, by kernel_rfl, by kernel_rfl⟩
theorem ty43 : tyChk Try.prog 43 ⟨.other, 1, [.top], [], 8⟩ := ⟨by kernel_rfl, by kernel_rfl, by kernel_rfl⟩
theorem ty44 : tyChk Try.prog 44 ⟨.other, 1, [.top], [], 8⟩ := ⟨by kernel_rfl, by kernel_rfl, by kernel_rfl⟩
theorem ty45 : tyChk Try.prog 45 ⟨.slice 38 48 true, 1, [.nils], [], 24⟩ := ⟨by kernel_rfl, by kernel_rfl, by kernel_rfl⟩
theorem ty46 : tyChk Try.prog 46 ⟨.int .i64, 1, [.int .i64 0], [], 8⟩ := ⟨by kernel_rfl, by kernel_rfl, by kernel_rfl⟩
theorem ty48 : tyChk Try.prog 48 ⟨.other, 1, [.top], [], 8⟩ := ⟨by kernel_rfl, by kernel_rfl, by kernel_rfl⟩
theorem ty49 : tyChk Try.prog 49 ⟨.other, 1, [.top], [], 8⟩ := ⟨by kernel_rfl, by kernel_rfl, by kernel_rfl⟩
theorem ty50 : tyChk Try.prog 50 ⟨.other, 1, [.top], [], 8⟩ := ⟨by kernel_rfl, by kernel_rfl, by kernel_rfl⟩
theorem ty51 : tyChk Try.prog 51 ⟨.other, 1, [.top], [], 8⟩ := ⟨by kernel_rfl, by kernel_rfl, by kernel_rfl⟩
theorem ty52 : tyChk Try.prog 52 ⟨.other, 1, [.top], [], 8⟩ := ⟨by kernel_rfl, by kernel_rfl, by kernel_rfl⟩
theorem ty53 : tyChk Try.prog 53 ⟨.other, 1, [.top], [], 8⟩ := ⟨by kernel_rfl, by kernel_rfl, by kernel_rfl⟩
theorem ty54 : tyChk Try.prog 54 ⟨.other, 1, [.top], [], 8⟩ := ⟨by kernel_rfl, by kernel_rfl, by kernel_rfl⟩
theorem ty55 : tyChk Try.prog 55 ⟨.other, 1, [.top], [], 8⟩ := ⟨by kernel_rfl, by kernel_rfl, by kernel_rfl⟩
theorem ty56 : tyChk Try.prog 56 ⟨.other, 1, [.top], [], 8⟩ := ⟨by kernel_rfl, by kernel_rfl, by kernel_rfl⟩
theorem ty58 : tyChk Try.prog 58 ⟨.other, 1, [.top], [], 8⟩ := ⟨by kernel_rfl, by kernel_rfl, by kernel_rfl⟩
theorem ty59 : tyChk Try.prog 59 ⟨.other, 1, [.top], [], 8⟩ := ⟨by kernel_rfl, by kernel_rfl, by kernel_rfl⟩
theorem ty60 : tyChk Try.prog 60 ⟨.other, 1, [.top], [], 8⟩ := ⟨by kernel_rfl, by kernel_rfl, by kernel_rfl⟩
theorem ty61 : tyChk Try.prog 61 ⟨.int .u64, 1, [.int .u64 0], [], 8⟩ := ⟨by kernel_rfl, by kernel_rfl, by kernel_rfl⟩
theorem ty62 : tyChk Try.prog 62 ⟨.slice 40 1 true, 1, [.nils], [], 24⟩ := ⟨by kernel_rfl, by kernel_rfl, by kernel_rfl⟩
theorem ty63 : tyChk Try.prog 63 ⟨.other, 1, [.top], [], 8⟩ := ⟨by kernel_rfl, by kernel_rfl, by kernel_rfl⟩
theorem ty64 : tyChk Try.prog 64 ⟨.other, 1, [.top], [], 8⟩ := ⟨by kernel_rfl, by kernel_rfl, by kernel_rfl⟩
theorem ty65 : tyChk Try.prog 65 ⟨.struct [(0, 1, some false), (1, 1, some false)], 2, [.nils, .int .i64 0], [], 32⟩ := ⟨by kernel_rfl, by kernel_rfl, by kernel_rfl⟩
theorem ty66 : tyChk Try.prog 66 ⟨.struct [(0, 1, some false), (1, 1, some false)], 2, [.nils, .int .i64 0], [], 32⟩ := ⟨by kernel_rfl, by kernel_rfl, by kernel_rfl⟩
theorem ty67 : tyChk Try.prog 67 ⟨.other, 1, [.top], [], 8⟩ := ⟨by kernel_rfl, by kernel_rfl, by kernel_rfl⟩
theorem ty68 : tyChk Try.prog 68 ⟨.other, 1, [.top], [], 8⟩ := ⟨by kernel_rfl, by kernel_rfl, by kernel_rfl⟩
theorem ty69 : tyChk Try.prog 69 ⟨.other, 1, [.top], [], 8⟩ := ⟨by kernel_rfl, by kernel_rfl, by kernel_rfl⟩
theorem ty70 : tyChk Try.prog 70 ⟨.other, 1, [.top], [], 8⟩ := ⟨by kernel_rfl, by kernel_rfl, by kernel_rfl⟩
theorem ty71 : tyChk Try.prog 71 ⟨.struct [(0, 16, some true), (16, 1, some false)], 17, [.int .u8 0, .int .u8 0, .int .u8 0, .int .u8 0, .int .u8 0, .int .u8 0, .int .u8 0, .int .u8 0, .int .u8 0, .int .u8 0, .int .u8 0, .int .u8 0, .int .u8 0, .int .u8 0, .int .u8 0, .int .u8 0, .int .i64 0], [false, false, false, false, false, false, false, false, false, false, false, false, false, false, false, false, false], 24⟩ := ⟨by kernel_rfl, by kernel_rfl, by kernel_rfl⟩
theorem ty72 : tyChk Try.prog 72 ⟨.struct [(0, 16, some true), (16, 1, some false)], 17, [.int .u8 0, .int .u8 0, .int .u8 0, .int .u8 0, .int .u8 0, .int .u8 0, .int .u8 0, .int .u8 0, .int .u8 0, .int .u8 0, .int .u8 0, .int .u8 0, .int .u8 0, .int .u8 0, .int .u8 0, .int .u8 0, .int .i64 0], [false, false, false, false, false, false, false, false, false, false, false, false, false, false, false, false, false], 24⟩ := ⟨by kernel_rfl, by kernel_rfl, by kernel_rfl⟩
theorem ty73 : tyChk Try.prog 73 ⟨.other, 1, [.top], [], 8⟩ := ⟨by kernel_rfl, by kernel_rfl, by kernel_rfl⟩
theorem ty74 : tyChk Try.prog 74 ⟨.other, 1, [.top], [], 8⟩ := ⟨by kernel_rfl, by kernel_rfl, by kernel_rfl⟩
theorem ty75 : tyChk Try.prog 75 ⟨.struct [(0, 17, some true), (17, 1, some false), (18, 1, some false), (19, 1, some false)], 20, [.int .u8 0, .int .u8 0, .int .u8 0, .int .u8 0, .int .u8 0, .int .u8 0, .int .u8 0, .int .u8 0, .int .u8 0, .int .u8 0, .int .u8 0, .int .u8 0, .int .u8 0, .int .u8 0, .int .u8 0, .int .u8 0, .int .i64 0, .bool false, .bool false, .int .u32 0], [false, false, false, false, false, false, false, false, false, false, false, false, false, false, false, false, false, true, true, false], 32⟩ := ⟨by kernel_rfl, by kernel_rfl, by kernel_rfl⟩
theorem ty76 : tyChk Try.prog 76 ⟨.struct [(0, 17, some true), (17, 1, some false), (18, 1, some false), (19, 1, some false)], 20, [.int .u8 0, .int .u8 0, .int .u8 0, .int .u8 0, .int .u8 0, .int .u8 0, .int .u8 0, .int .u8 0, .int .u8 0, .int .u8 0, .int .u8 0, .int .u8 0, .int .u8 0, .int .u8 0, .int .u8 0, .int .u8 0, .int .i64 0, .bool false, .bool false, .int .u32 0], [false, false, false, false, false, false, false, false, false, false, false, false, false, false, false, false, false, true, true, false], 32⟩ := ⟨by kernel_rfl, by kernel_rfl, by kernel_rfl⟩
theorem ty77 : tyChk Try.prog 77 ⟨.struct [(0, 1, some false), (1, 17, some true), (18, 1, some false), (19, 1, some false)], 20, [.int .i64 0, .int .u8 0, .int .u8 0, .int .u8 0, .int .u8 0, .int .u8 0, .int .u8 0, .int .u8 0, .int .u8 0, .int .u8 0, .int .u8 0, .int .u8 0, .int .u8 0, .int .u8 0, .int .u8 0, .int .u8 0, .int .u8 0, .int .i64 0, .bool false, .int .u16 0], [false, false, false, false, false, false, false, false, false, false, false, false, false, false, false, false, false, false, true, false], 40⟩ := ⟨by kernel_rfl, by kernel_rfl, by kernel_rfl⟩
theorem ty78 : tyChk Try.prog 78 ⟨.struct [(0, 1, some false), (1, 17, some true), (18, 1, some false), (19, 1, some false)], 20, [.int .i64 0, .int .u8 0, .int .u8 0, .int .u8 0, .int .u8 0, .int .u8 0, .int .u8 0, .int .u8 0, .int .u8 0, .int .u8 0, .int .u8 0, .int .u8 0, .int .u8 0, .int .u8 0, .int .u8 0, .int .u8 0, .int .u8 0, .int .i64 0, .bool false, .int .u16 0], [false, false, false, false, false, false, false, false, false, false, false, false, false, false, false, false, false, false, true, false], 40⟩ := ⟨by kernel_rfl, by kernel_rfl, by kernel_rfl⟩
theorem ty79 : tyChk Try.prog 79 ⟨.other, 1, [.top], [], 8⟩ := ⟨by kernel_rfl, by kernel_rfl, by kernel_rfl⟩
theorem ty80 : tyChk Try.prog 80 ⟨.struct [(0, 1, some false), (1, 1, some false), (2, 1, some false), (3, 1, some false), (4, 1, some false), (5, 1, some false)], 6, [.bool false, .bool false, .bool false, .bool false, .bool false, .int .i64 0], [true, true, true, true, true, false], 16⟩ := ⟨by kernel_rfl, by kernel_rfl, by kernel_rfl⟩
theorem ty81 : tyChk Try.prog 81 ⟨.struct [(0, 1, some false), (1, 1, some false), (2, 1, some false), (3, 1, some false), (4, 1, some false), (5, 1, some false)], 6, [.bool false, .bool false, .bool false, .bool false, .bool false, .int .i64 0], [true, true, true, true, true, false], 16⟩ := ⟨by kernel_rfl, by kernel_rfl, by kernel_rfl⟩
theorem ty83 : tyChk Try.prog 83 ⟨.other, 1, [.top], [], 8⟩ := ⟨by kernel_rfl, by kernel_rfl, by kernel_rfl⟩
theorem ty84 : tyChk Try.prog 84 ⟨.ptr 86, 1, [.nilp], [], 8⟩ := ⟨by kernel_rfl, by kernel_rfl, by kernel_rfl⟩
theorem ty85 : tyChk Try.prog 85 ⟨.struct [(0, 1, some false)], 1, [.nils], [], 24⟩ := ⟨by kernel_rfl, by kernel_rfl, by kernel_rfl⟩
theorem ty86 : tyChk Try.prog 86 ⟨.struct [(0, 1, some false)], 1, [.nils], [], 24⟩ := ⟨by kernel_rfl, by kernel_rfl, by kernel_rfl⟩
theorem ty87 : tyChk Try.prog 87 ⟨.other, 1, [.top], [], 8⟩ := ⟨by kernel_rfl, by kernel_rfl, by kernel_rfl⟩
theorem ty88 : tyChk Try.prog 88 ⟨.other, 1, [.top], [], 8⟩ := ⟨by kernel_rfl, by kernel_rfl, by kernel_rfl⟩
theorem ty89 : tyChk Try.prog 89 ⟨.other, 1, [.top], [], 8⟩ := ⟨by kernel_rfl, by kernel_rfl, by kernel_rfl⟩
theorem ty90 : tyChk Try.prog 90 ⟨.other, 1, [.top], [], 8⟩ := ⟨by kernel_rfl, by kernel_rfl, by kernel_rfl⟩
theorem ty91 : tyChk Try.prog 91 ⟨.other, 1, [.top], [], 8⟩ := ⟨by kernel_rfl, by kernel_rfl, by kernel_rfl⟩
theorem ty92 : tyChk Try.prog 92 ⟨.other, 1, [.top], [], 8⟩ := ⟨by kernel_rfl, by kernel_rfl, by kernel_rfl⟩
theorem ty93 : tyChk Try.prog 93 ⟨.other, 1, [.top], [], 8⟩ := ⟨by kernel_rfl, by kernel_rfl, by kernel_rfl⟩
theorem ty95 : tyChk Try.prog 95 ⟨.other, 1, [.top], [], 8⟩ := ⟨by kernel_rfl, by kernel_rfl, by kernel_rfl⟩
theorem ty96 : tyChk Try.prog 96 ⟨.ptr 98, 1, [.nilp], [], 8⟩ := ⟨by kernel_rfl, by kernel_rfl, by kernel_rfl⟩
theorem ty97 : tyChk Try.prog 97 ⟨.struct [(0, 48, some true), (48, 1, some false)], 49, [.int .u8 0, .int .u8 0, .int .u16 0, .int .u8 0, .int .u8 0, .int .u8 0, .int .u8 0, .int .u8 0, .int .u8 0, .int .u8 0, .int .u8 0, .int .u8 0, .int .u8 0, .int .u8 0, .int .u8 0, .int .u8 0, .int .u8 0, .int .u8 0, .int .u8 0, .int .i64 0, .int .u16 0, .int .u64 0, .int .u64 0, .int .u8 0, .int .u8 0, .int .u16 0, .bool false, .nils, .nils, .int .u32 0, .int .u16 0, .int .u8 0, .int .u8 0, .int .u8 0, .int .u8 0, .int .u8 0, .int .u8 0, .int .u8 0, .int .u8 0, .int .u8 0, .int .u8 0, .int .u8 0, .int .u8 0, .int .u8 0, .int .u8 0, .int .u8 0, .int .u8 0, .bool false, .nils], [], 176⟩ := ⟨by kernel_rfl, by kernel_rfl, by kernel_rfl⟩
theorem ty98 : tyChk Try.prog 98 ⟨.struct [(0, 48, some true), (48, 1, some false)], 49, [.int .u8 0, .int .u8 0, .int .u16 0, .int .u8 0, .int .u8 0, .int .u8 0, .int .u8 0, .int .u8 0, .int .u8 0, .int .u8 0, .int .u8 0, .int .u8 0, .int .u8 0, .int .u8 0, .int .u8 0, .int .u8 0, .int .u8 0, .int .u8 0, .int .u8 0, .int .i64 0, .int .u16 0, .int .u64 0, .int .u64 0, .int .u8 0, .int .u8 0, .int .u16 0, .bool false, .nils, .nils, .int .u32 0, .int .u16 0, .int .u8 0, .int .u8 0, .int .u8 0, .int .u8 0, .int .u8 0, .int .u8 0, .int .u8 0, .int .u8 0, .int .u8 0, .int .u8 0, .int .u8 0, .int .u8 0, .int .u8 0, .int .u8 0, .int .u8 0, .int .u8 0, .bool false, .nils], [], 176⟩ := ⟨by kernel_rfl, by kernel_rfl, by kernel_rfl⟩
theorem ty99 : tyChk Try.prog 99 ⟨.other, 1, [.top], [], 8⟩ := ⟨by kernel_rfl, by kernel_rfl, by kernel_rfl⟩
theorem ty100 : tyChk Try.prog 100 ⟨.slice 26 1 true, 1, [.nils], [], 24⟩ := ⟨by kernel_rfl, by kernel_rfl, by kernel_rfl⟩
theorem ty101 : tyChk Try.prog 101 ⟨.other, 1, [.top], [], 8⟩ := ⟨by kernel_rfl, by kernel_rfl, by kernel_rfl⟩
theorem ty102 : tyChk Try.prog 102 ⟨.other, 1, [.top], [], 8⟩ := ⟨by kernel_rfl, by kernel_rfl, by kernel_rfl⟩
theorem ty103 : tyChk Try.prog 103 ⟨.other, 1, [.top], [], 8⟩ := ⟨by kernel_rfl, by kernel_rfl, by kernel_rfl⟩
theorem ty104 : tyChk Try.prog 104 ⟨.other, 1, [.top], [], 8⟩ := ⟨by kernel_rfl, by kernel_rfl, by kernel_rfl⟩
theorem ty105 : tyChk Try.prog 105 ⟨.map 5 81 1 6 (some false) (some true), 1, [.top], [], 8⟩ := ⟨by kernel_rfl, by kernel_rfl, by kernel_rfl⟩
theorem ty106 : tyChk Try.prog 106 ⟨.other, 1, [.top], [], 8⟩ := ⟨by kernel_rfl, by kernel_rfl, by kernel_rfl⟩
theorem ty107 : tyChk Try.prog 107 ⟨.other, 1, [.top], [], 8⟩ := ⟨by kernel_rfl, by kernel_rfl, by kernel_rfl⟩
theorem ty108 : tyChk Try.prog 108 ⟨.other, 1, [.top], [], 8⟩ := ⟨by kernel_rfl, by kernel_rfl, by kernel_rfl⟩
theorem ty109 : tyChk Try.prog 109 ⟨.other, 1, [.top], [], 8⟩ := ⟨by kernel_rfl, by kernel_rfl, by kernel_rfl⟩
theorem ty110 : tyChk Try.prog 110 ⟨.other, 1, [.top], [], 8⟩ := ⟨by kernel_rfl, by kernel_rfl, by kernel_rfl⟩
theorem ty111 : tyChk Try.prog 111 ⟨.other, 1, [.top], [], 8⟩ := ⟨by kernel_rfl, by kernel_rfl, by kernel_rfl⟩
theorem ty112 : tyChk Try.prog 112 ⟨.other, 1, [.top], [], 8⟩ := ⟨by kernel_rfl, by kernel_rfl, by kernel_rfl⟩
theorem ty113 : tyChk Try.prog 113 ⟨.other, 1, [.top], [], 8⟩ := ⟨by kernel_rfl, by kernel_rfl, by kernel_rfl⟩
theorem ty114 : tyChk Try.prog 114 ⟨.other, 1, [.top], [], 8⟩ := ⟨by kernel_rfl, by kernel_rfl, by kernel_rfl⟩
theorem ty116 : tyChk Try.prog 116 ⟨.other, 1, [.top], [], 8⟩ := ⟨by kernel_rfl, by kernel_rfl, by kernel_rfl⟩
theorem ty117 : tyChk Try.prog 117 ⟨.other, 1, [.top], [], 8⟩ := ⟨by kernel_rfl, by kernel_rfl, by kernel_rfl⟩
theorem ty118 : tyChk Try.prog 118 ⟨.other, 1, [.top], [], 8⟩ := ⟨by kernel_rfl, by kernel_rfl, by kernel_rfl⟩
theorem ty119 : tyChk Try.prog 119 ⟨.other, 1, [.top], [], 8⟩ := ⟨by kernel_rfl, by kernel_rfl, by kernel_rfl⟩
theorem ty120 : tyChk Try.prog 120 ⟨.arr 2 5 1 (some false), 2, [.int .u8 0, .int .u8 0], [false, false], 2⟩ := ⟨by kernel_rfl, by kernel_rfl, by kernel_rfl⟩
theorem ty121 : tyChk Try.prog 121 ⟨.other, 1, [.top], [], 8⟩ := ⟨by kernel_rfl, by kernel_rfl, by kernel_rfl⟩
theorem ty122 : tyChk Try.prog 122 ⟨.struct [(0, 1, some false)], 1, [.top], [], 8⟩ := ⟨by kernel_rfl, by kernel_rfl, by kernel_rfl⟩
theorem ty123 : tyChk Try.prog 123 ⟨.struct [(0, 1, some false)], 1, [.top], [], 8⟩ := ⟨by kernel_rfl, by kernel_rfl, by kernel_rfl⟩
theorem ty124 : tyChk Try.prog 124 ⟨.map 120 123 2 1 (some true) (some true), 1, [.top], [], 8⟩ := ⟨by kernel_rfl, by kernel_rfl, by kernel_rfl⟩
theorem ty126 : tyChk Try.prog 126 ⟨.other, 1, [.top], [], 8⟩ := ⟨by kernel_rfl, by kernel_rfl, by kernel_rfl⟩
theorem ty127 : tyChk Try.prog 127 ⟨.other, 1, [.top], [], 8⟩ := ⟨by kernel_rfl, by kernel_rfl, by kernel_rfl⟩
theorem ty128 : tyChk Try.prog 128 ⟨.other, 1, [.top], [], 8⟩ := ⟨by kernel_rfl, by kernel_rfl, by kernel_rfl⟩
theorem ty129 : tyChk Try.prog 129 ⟨.struct [(0, 1, some false), (1, 1, some false), (2, 1, some false), (3, 1, some false)], 4, [.nilp, .nilp, .nilp, .top], [], 40⟩ := ⟨by kernel_rfl, by kernel_rfl, by kernel_rfl⟩
theorem ty130 : tyChk Try.prog 130 ⟨.struct [(0, 1, some false), (1, 1, some false), (2, 1, some false), (3, 1, some false)], 4, [.nilp, .nilp, .nilp, .top], [], 40⟩ := ⟨by kernel_rfl, by kernel_rfl, by kernel_rfl⟩
theorem ty131 : tyChk Try.prog 131 ⟨.arr 0 16 1 (some false), 0, [], [], 0⟩ := ⟨by kernel_rfl, by kernel_rfl, by kernel_rfl⟩
theorem ty132 : tyChk Try.prog 132 ⟨.struct [(0, 0, some true)], 0, [], [], 0⟩ := ⟨by kernel_rfl, by kernel_rfl, by kernel_rfl⟩
theorem ty133 : tyChk Try.prog 133 ⟨.struct [(0, 0, some true)], 0, [], [], 0⟩ := ⟨by kernel_rfl, by kernel_rfl, by kernel_rfl⟩
theorem ty134 : tyChk Try.prog 134 ⟨.other, 1, [.top], [], 8⟩ := ⟨by kernel_rfl, by kernel_rfl, by kernel_rfl⟩
theorem ty135 : tyChk Try.prog 135 ⟨.int .u8, 1, [.int .u8 0], [], 1⟩ := ⟨by kernel_rfl, by kernel_rfl, by kernel_rfl⟩
theorem ty136 : tyChk Try.prog 136 ⟨.int .u8, 1, [.int .u8 0], [], 1⟩ := ⟨by kernel_rfl, by kernel_rfl, by kernel_rfl⟩
theorem ty137 : tyChk Try.prog 137 ⟨.other, 1, [.top], [], 8⟩ := ⟨by kernel_rfl, by kernel_rfl, by kernel_rfl⟩
theorem ty138 : tyChk Try.prog 138 ⟨.ptr 5, 1, [.nilp], [], 8⟩ := ⟨by kernel_rfl, by kernel_rfl, by kernel_rfl⟩
theorem ty139 : tyChk Try.prog 139 ⟨.int .i32, 1, [.int .i32 0], [], 4⟩ := ⟨by kernel_rfl, by kernel_rfl, by kernel_rfl⟩
theorem ty140 : tyChk Try.prog 140 ⟨.int .i32, 1, [.int .i32 0], [], 4⟩ := ⟨by kernel_rfl, by kernel_rfl, by kernel_rfl⟩
theorem ty141 : tyChk Try.prog 141 ⟨.struct [(0, 1, some false), (1, 1, some false), (2, 1, some false), (3, 1, some false), (4, 1, some false), (5, 1, some false), (6, 1, some false), (7, 1, some false), (8, 1, some false), (9, 1, some false), (10, 1, some false)], 11, [.int .u64 0, .int .u64 0, .int .u32 0, .int .u8 0, .int .u8 0, .int .u8 0, .int .u8 0, .top, .nilp, .int .i32 0, .int .i32 0], [], 48⟩ := ⟨by kernel_rfl, by kernel_rfl, by kernel_rfl⟩
theorem ty142 : tyChk Try.prog 142 ⟨.struct [(0, 1, some false), (1, 1, some false), (2, 1, some false), (3, 1, some false), (4, 1, some false), (5, 1, some false), (6, 1, some false), (7, 1, some false), (8, 1, some false), (9, 1, some false), (10, 1, some false)], 11, [.int .u64 0, .int .u64 0, .int .u32 0, .int .u8 0, .int .u8 0, .int .u8 0, .int .u8 0, .top, .nilp, .int .i32 0, .int .i32 0], [], 48⟩ := ⟨by kernel_rfl, by kernel_rfl, by kernel_rfl⟩
theorem tysOk : TysOk Try.prog T := (show TysAll Try.prog tyO from ⟨ty1, ty2, ty3, ty4, ty5, ty6, ty7, ty8, ty12, ty13, ty14, ty15, ty16, ty17, ty18, ty19, ty21, ty22, ty23, ty24, ty25, ty26, ty27, ty28, ty29, ty30, ty31, ty32, ty33, ty34, ty35, ty36, ty37, ty38, ty39, ty40, ty41, ty42, ty43, ty44, ty45, ty46, ty48, ty49, ty50, ty51, ty52, ty53, ty54, ty55, ty56, ty58, ty59, ty60, ty61, ty62, ty63, ty64, ty65, ty66, ty67, ty68, ty69, ty70, ty71, ty72, ty73, ty74, ty75, ty76, ty77, ty78, ty79, ty80, ty81, ty83, ty84, ty85, ty86, ty87, ty88, ty89, ty90, ty91, ty92, ty93, ty95, ty96, ty97, ty98, ty99, ty100, ty101, ty102, ty103, ty104, ty105, ty106, ty107, ty108, ty109, ty110, ty111, ty112, ty113, ty114, ty116, ty117, ty118, ty119, ty120, ty121, ty122, ty123, ty124, ty126, ty127, ty128, ty129, ty130, ty131, ty132, ty133, ty134, ty135, ty136, ty137, ty138, ty139, ty140, ty141, ty142, trivial⟩).at
theorem mixed : Try.prog.follows .mixedOrders = true := by kernel_rfl
end Go.Proofs.Ythbhidfohdipnaa.AX
/- Small lemmas of AX2 that serve all packages. -/
namespace Go.Proofs.Ythbhidfohdipnaa.AX
open Go.RowKit
set_option linter.unusedVariables false
set_option linter.unusedSimpArgs false
def LE0 : CsL := []
theorem LE0_ok : AllOk Try.prog LE0 := trivial
theorem eqFrom_iff {f g : Nat → CV} : ∀ {n off : Nat}, eqFrom f g n off = true ↔ ∀ i, i < n → eqCell (f (off + i)) (g (off + i)) = true := by
  intro n
  induction n with
  | zero => intro off; simp [eqFrom]
  | succ n ih =>
    intro off
    simp only [eqFrom, Bool.and_eq_true, ih]
    constructor
    · rintro ⟨h1, h2⟩ i hi
      cases i with
      | zero => exact h1
      | succ i => have := h2 i (by omega); rw [show off + 1 + i = off + (i + 1) by omega] at this; exact this
    · intro h
      refine ⟨h 0 (by omega), fun i hi => ?_⟩
      have := h (i + 1) (by omega)
      rw [show off + 1 + i = off + (i + 1) by omega]; exact this
theorem leC_eq {c : Wc} {x y z : CV} (h : LeC c x y) (e : y = z) : LeC c x z := e ▸ h
theorem blt_self (n : Nat) : Nat.blt n n = false := by
  cases hb : Nat.blt n n with
  | false => rfl
  | true => have := Nat.le_of_ble_eq_true hb; omega
theorem leN_snoc {c : Wc} {t : TypeId} {α : Type} [Inhabited α] {E : Elem α} {L : List α} {x : α} {n : Nat} {f : Nat → Nat → CV} (hn : n = L.length + 1) (h1 : ∀ i, i < L.length → ∀ j, j < E.sz → LeC c (f i j) (rowF E L i j)) (h2 : allLt E.sz fun j => LeC c (f L.length j) (E.cell x j)) :
    LeN c ⟨t, n, E.sz, false, f⟩ (ents E t (L ++ [x])) := by
  refine ⟨rfl, by simp [ents, hn], rfl, rfl, fun i hi j hj => ?_⟩
  have hi' : i < n := hi
  show LeC c (f i j) (E.cell ((L ++ [x]).getD i default) j)
  by_cases h : i < L.length
  · have : (L ++ [x]).getD i default = L.getD i default := by
      simp [List.getD_eq_getElem?_getD, List.getElem?_append_left h]
    rw [this]
    exact h1 i h j hj
  · have hi2 : i = L.length := by omega
    subst hi2
    have : (L ++ [x]).getD L.length default = x := by simp [List.getD_eq_getElem?_getD]
    rw [this]
    exact allLt_at h2 j hj
theorem leC_row_fin {c : Wc} {k : Nat} {t : TypeId} {α : Type} [Inhabited α] {E : Elem α} {L : List α} (he : hget c.H k = some (ents E t L)) (hd : c.dead k = true) : LeC c (.os k 0 L.length) (slR E L) :=
  leC_os_sl he hd rfl rfl (by simp [ents]) fun q _ j _ => by rw [Nat.zero_add]; exact (E.flat _ _).le
theorem leN_ents {c : Wc} {t : TypeId} {α : Type} [Inhabited α] {E : Elem α} {L : List α} : LeN c (ents E t L) (ents E t L) := leN_row rfl fun _ _ _ _ => (E.flat _ _).le
theorem beq_of {a b : Nat} (h : a = b) : Nat.beq a b = true := by subst h; simp
theorem beq_ne {a b : Nat} (h : a ≠ b) : Nat.beq a b = false := by
  cases hb : Nat.beq a b with
  | false => rfl
  | true => exact absurd (Nat.eq_of_beq_eq_true hb) h
theorem leC_cell {c : Wc} {α : Type} {E : Elem α} {a b : α} {j : Nat} (h : a = b) : LeC c (E.cell a j) (E.cell b j) := by rw [h]; exact (E.flat _ _).le
theorem blt_lt {a b : Nat} (h : a < b) : Nat.blt a b = true := Nat.ble_eq_true_of_le h
theorem blt_zero (n : Nat) : Nat.blt n 0 = false := rfl
end Go.Proofs.Ythbhidfohdipnaa.AX

/- The tape of the makers, by AX2: contracts with a set of outcomes. -/
namespace Go.Proofs.Ythbhidfohdipnaa.AX
open Go.RowKit
set_option linter.unusedVariables false
set_option linter.unusedSimpArgs false
def tapeN (n : Nat) (f : Nat → Nat → CV) (q : Int) : Ent := ⟨66, 1, 2, true, fun _ j => bif Nat.beq j 0 then .sl true n 1 f else .int .i64 q⟩
abbrev rI (l : List Int) : Nat → Nat → CV := rowF (eI .i64) l
def rngL (l : List Int) : Prop := ∀ i, -9223372036854775808 ≤ l.getD i default ∧ l.getD i default ≤ 9223372036854775807
structure TapeOk (n : Nat) (f : Nat → Nat → CV) (q : Int) : Prop where
  len : n ≤ 400
  lo : 0 ≤ q
  hi : q ≤ n
  row : ∃ l : List Int, f = rI l ∧ rngL l
theorem TapeOk.at {n : Nat} {f : Nat → Nat → CV} {q q' : Int} (h : TapeOk n f q) (h1 : 0 ≤ q') (h2 : q' ≤ n) : TapeOk n f q' := ⟨h.len, h1, h2, h.row⟩
theorem tapeN_le {c : Wc} {n : Nat} {l : List Int} {q : Int} : LeN c (tapeN n (rI l) q) (tapeN n (rI l) q) :=
  leN_var ⟨⟨trivial, leC_sl (fun _ => rfl) rfl rfl fun i _ j _ => leC_int rfl⟩, leC_int rfl⟩
theorem TapeOk.le {c : Wc} {n : Nat} {f : Nat → Nat → CV} {q : Int} (h : TapeOk n f q) : LeN c (tapeN n f q) (tapeN n f q) := by
  obtain ⟨_, _, _, l, rfl, _⟩ := h
  exact tapeN_le
theorem tapeN_nf {n : Nat} {l : List Int} {q : Int} : ∀ i, i < (tapeN n (rI l) q).n → ∀ j, j < (tapeN n (rI l) q).sz → NF ((tapeN n (rI l) q).f i j) := by
  intro i _ j _
  show NF (bif Nat.beq j 0 then _ else _)
  cases Nat.beq j 0 with
  | true => exact nf_sl fun i _ j _ => nf_int
  | false => exact nf_int

theorem tape_congr {P : Program} {fid : FuncId} {rest : List FV} {n : Nat} {f : Nat → Nat → CV} {q : Int} {g : Nat → Nat → CV} {val : FV} {e' : Ent} (h0 : g 0 0 = .sl true n 1 f) (h1 : g 0 1 = .int .i64 q) (h : MethOk P fid rest (tapeN n f q) val e') : MethOk P fid rest ⟨66, 1, 2, true, g⟩ val e' := by
  intro X w x vals a1 a2 a3 hent hrel
  refine h X w x vals a1 a2 a3 ?_ hrel
  refine hent.map rfl rfl rfl rfl rfl (fun _ _ => rfl) fun i hi j hj u hu => ?_
  have hi' : i < 1 := hi
  have hj' : j < 2 := hj
  have e0 : i = 0 := by omega
  subst e0
  rcases (show j = 0 ∨ j = 1 by omega) with rfl | rfl
  · have t : (CV.sl true n 1 f).rel (fun _ => none) X (fun b => b = x.b) w u := by rw [← h0]; exact hu
    exact t
  · have t : (CV.int .i64 q).rel (fun _ => none) X (fun b => b = x.b) w u := by rw [← h1]; exact hu
    exact t

/-- The entry of a function that draws from a tape: its outcome is any r with S a r. -/
def tapeE {α R : Type} (A : AC α) (p : α → Prop) (S : α → R → Prop) (enc : R → FV) : Entry := fun args H _ _ =>
  match args with
  | .e (.c (.ptr k 0 0 _)) :: rest =>
    match hget H k with
    | some ⟨t, en, es, v, g⟩ =>
      match g 0 0, g 0 1 with
      | .sl true n s f, .int .i64 q =>
        match A.dec H rest with
        | some (a, pq, rd) => bif Nat.beq t 66 && Nat.beq en 1 && Nat.beq es 2 && v && Nat.beq s 1 && !(rd.any (Nat.beq k)) then
            some fun K => pAnd pq ((TapeOk n f q ∧ p a) ∧ ∀ r, S a r → ∀ q', TapeOk n f q' → K (enc r) [(k, some (tapeN n f q'))] (k :: rd)) else none
        | none => none
      | _, _ => none
    | none => none
  | _ => none
theorem tapeE_ok {α R : Type} {A : AC α} {p : α → Prop} {S : α → R → Prop} {enc : R → FV} {P : Program} {f : FuncId} (hb : hasBody P f)
    (h : ∀ n l q a, TapeOk n (rI l) q → p a → ∃ r q', S a r ∧ TapeOk n (rI l) q' ∧ MethOk P f (A.enc a) (tapeN n (rI l) q) (enc r) (tapeN n (rI l) q')) : EntOk P f (tapeE A p S enc) := by
  refine ⟨fun args H nm wd q _ hq K hK => ?_, fun args H nm wd q hq K K' hKK hK => ?_⟩
  · unfold tapeE at hq
    split at hq
    · rename_i k s rest
      split at hq
      · rename_i t en es v g he
        split at hq
        · rename_i n s f q0 hg0 hg1
          split at hq
          · rename_i a pr rd hd
            obtain ⟨hc, hq⟩ := cond_some hq
            subst hq
            simp only [Bool.and_eq_true, Bool.not_eq_true'] at hc
            obtain ⟨⟨⟨⟨⟨c1, c2⟩, c3⟩, c4⟩, c5⟩, c6⟩ := hc
            have c1 := Nat.eq_of_beq_eq_true c1
            have c2 := Nat.eq_of_beq_eq_true c2
            have c3 := Nat.eq_of_beq_eq_true c3
            have c5 := Nat.eq_of_beq_eq_true c5
            subst c1 c2 c3 c4 c5
            have hkr : k ∉ rd := fun hm => by
              have : rd.any (Nat.beq k) = true := List.any_eq_true.2 ⟨k, hm, by simp⟩
              rw [c6] at this; cases this
            obtain ⟨h1, ⟨h2, h2'⟩, h3⟩ := pAnd_iff.1 hK
            obtain ⟨l, rfl, hl⟩ := h2.row
            obtain ⟨r, q', g1, g2, g3⟩ := h n l q0 a h2 h2'
            refine ⟨_, _, _, callR_meth hb he rfl hkr ?_ (fun H' hh => A.sound H H' rest a pr rd hd h1 hh) (tape_congr hg0 hg1 g3) rfl, h3 _ g1 _ g2⟩
            intro i hi j hj
            have hi' : i < 1 := hi
            have hj' : j < 2 := hj
            have e0 : i = 0 := by omega
            subst e0
            rcases (show j = 0 ∨ j = 1 by omega) with rfl | rfl
            · show NF (g 0 0); rw [hg0]; exact nf_sl fun i _ j _ => nf_int
            · show NF (g 0 1); rw [hg1]; exact nf_int
          · cases hq
        · cases hq
      · cases hq
    · cases hq
  · unfold tapeE at hq
    split at hq
    · split at hq
      · split at hq
        · split at hq
          · obtain ⟨hc, hq⟩ := cond_some hq
            subst hq
            obtain ⟨h1, h2, h3⟩ := pAnd_iff.1 hK
            exact pAnd_iff.2 ⟨h1, h2, fun r hr q' hq' => hKK _ _ _ (h3 r hr q' hq')⟩
          · cases hq
        · cases hq
      · cases hq
    · cases hq
section
variable {P : Program} {T : Tys} {Q : Qs} {wd : Nat}
theorem tape_intro (hwd : 0 < wd) (hT : TysOk P T) (hQ : QsOk P Q) (hm : P.follows .mixedOrders = true) {f : FuncId} {fn : Func} {c : Code} (hf : P.funcs[f]? = some fn) (hb : fn.body = some c) (rest : List FV) (hn : rest.length + 1 ≤ fn.ntmps) {n : Nat} {l : List Int} {q : Int} {R : Type} {S : R → Prop} {enc : R → FV} (hnf : ∀ r, NFF (enc r))
    (h : exec T Q wd fn.ntmps 1 c (argFr (.e (.c (.ptr 0 0 0 false)) :: rest) 0) [(0, some (tapeN n (rI l) q))] 1 (endH T fn.results.toList fun x H _ => ∃ r : R × Int, (S r.1 ∧ TapeOk n (rI l) r.2) ∧ FinM (enc r.1) (tapeN n (rI l) r.2) x H)) :
    ∃ r q', S r ∧ TapeOk n (rI l) q' ∧ MethOk P f rest (tapeN n (rI l) q) (enc r) (tapeN n (rI l) q') := by
  obtain ⟨⟨r, q'⟩, h1, h2⟩ := exec_some (α := R × Int) (post := fun a x H _ => FinM (enc a.1) (tapeN n (rI l) a.2) x H) (S := fun a => S a.1 ∧ TapeOk n (rI l) a.2) hwd hQ h
  exact ⟨r, q', h1.1, h1.2, meth_intro hwd hT (QR_ok P) hm hf hb rest hn (hnf r) tapeN_nf h2⟩
end
theorem nff_int {k : IntKind} {a : Int} : NFF (.e (.c (.int k a))) := fun _ _ _ _ _ _ h => h
theorem nff_bool {a : Bool} : NFF (.e (.c (.bool a))) := fun _ _ _ _ _ _ h => h
theorem nff_elem {α : Type} (E : Elem α) (a : α) : NFF (.e (.agg E.sz (E.cell a))) := by
  rintro r r' X W w v ⟨cs, rfl, h1, h2⟩
  exact ⟨cs, rfl, h1, fun i u hu => (E.flat _ _).nf _ _ _ _ _ _ (h2 i u hu)⟩

/-! ### Next, Bool, Mod -/
theorem tmod_facts (x m : Int) (h : 1 ≤ m) : -m < x.tmod m ∧ x.tmod m < m := by
  have h1 := Int.tmod_lt_of_pos x (show 0 < m by omega)
  have h2 := Int.tmod_lt_of_pos (-x) (show 0 < m by omega)
  rw [Int.neg_tmod] at h2
  omega
theorem next_ok (n : Nat) (l : List Int) (q m : Int) (ht : TapeOk n (rI l) q) (h1 : 1 ≤ m) (h2 : m ≤ 4611686018427387904) :
    ∃ r q', (0 ≤ r ∧ r < m) ∧ TapeOk n (rI l) q' ∧ MethOk Try.prog 23 [(cI .i64).enc m] (tapeN n (rI l) q) ((cI .i64).enc r) (tapeN n (rI l) q') := by
  refine tape_intro (wd := 1) (Q := mkQ LE0) (by decide) tysOk (q_of LE0_ok) mixed Try.func23 rfl _ (by show 1 + 1 ≤ _; decide) (fun _ => nff_int) ?_
  have a1 := ht.len
  have a2 := ht.lo
  have a3 := ht.hi
  have a5 := tmod_facts (l.getD q.toNat default) m h1
  repeat' (first | (apply And.intro <;> intro hc <;> (first | exact Bool.noConfusion hc | (simp only [decide_eq_true_eq, decide_eq_false_iff_not, Bool.not_eq_true', Bool.not_eq_false', beq_iff_eq, beq_eq_false_iff_ne, bne_iff_ne, bne_eq_false_iff_eq, Bool.true_eq_false, Bool.false_eq_true] at hc) | skip)) | (refine And.intro (by first | exact trivial | decide | omega | (dsimp only; omega) | exact fun _ _ => rfl) ?_) | (apply And.intro) | (intro s hs))
  · exact ⟨(0, q), ⟨⟨by omega, by omega⟩, ht⟩, ⟨leF_int rfl, tapeN_le⟩⟩
  · refine ⟨((l.getD q.toNat default).tmod m + m, q + 1), ⟨⟨by omega, by omega⟩, ht.at (by omega) (by omega)⟩, ⟨leF_int ?_, leN_var ⟨⟨trivial, leC_sl (fun _ => rfl) rfl rfl fun i _ j _ => leC_int rfl⟩, leC_int ?_⟩⟩⟩
    · exact IntWalk.i64_in _ (by omega)
    · exact IntWalk.i64_in _ (by omega)
  · refine ⟨((l.getD q.toNat default).tmod m, q + 1), ⟨⟨by omega, by omega⟩, ht.at (by omega) (by omega)⟩, ⟨leF_int ?_, leN_var ⟨⟨trivial, leC_sl (fun _ => rfl) rfl rfl fun i _ j _ => leC_int rfl⟩, leC_int ?_⟩⟩⟩
    · rfl
    · exact IntWalk.i64_in _ (by omega)
def modF (v n : Int) : Int := if v.tmod n < 0 then v.tmod n + n else v.tmod n
theorem mod_ok (v n : Int) (h1 : 1 ≤ n) (h2 : n ≤ 4611686018427387904) : PureOk Try.prog 19 [(cI .i64).enc v, (cI .i64).enc n] ((cI .i64).enc (modF v n)) := by
  have a5 := tmod_facts v n h1
  refine pure_intro (wd := 1) (Q := mkQ LE0) (by decide) tysOk (q_of LE0_ok) mixed Try.func19 rfl _ (by show 2 ≤ _; decide) _ ?_
  repeat' (first | (apply And.intro <;> intro hc <;> (first | exact Bool.noConfusion hc | (simp only [decide_eq_true_eq, decide_eq_false_iff_not, Bool.not_eq_true', Bool.not_eq_false', beq_iff_eq, beq_eq_false_iff_ne, bne_iff_ne, bne_eq_false_iff_eq, Bool.true_eq_false, Bool.false_eq_true] at hc) | skip)) | (refine And.intro (by first | exact trivial | decide | omega | (dsimp only; omega) | exact fun _ _ => rfl) ?_) | (apply And.intro) | (intro s hs))
  · refine Done.mk (leF_int ?_)
    rw [modF, if_pos hc]
    exact IntWalk.i64_in _ (by omega)
  · refine Done.mk (leF_int ?_)
    rw [modF, if_neg hc]
abbrev nextE : Entry := tapeE (AC.cons (cI .i64) AC.nil) (fun a => 1 ≤ a.1 ∧ a.1 ≤ 4611686018427387904) (fun a (r : Int) => 0 ≤ r ∧ r < a.1) (cI .i64).enc
def LT0 : CsL := (23, some nextE) :: (19, some (pureE (AC.cons (cI .i64) (AC.cons (cI .i64) AC.nil)) (fun a => 1 ≤ a.2.1 ∧ a.2.1 ≤ 4611686018427387904) (fun a => modF a.1 a.2.1) (cI .i64).enc)) :: []
theorem LT0_ok : AllOk Try.prog LT0 := ⟨tapeE_ok ⟨_, Try.func23, rfl, by kernel_rfl⟩ fun n l q a ht hp => next_ok n l q a.1 ht hp.1 hp.2, pureE_ok ⟨_, Try.func19, rfl, by kernel_rfl⟩ fun a h => mod_ok a.1 a.2.1 h.1 h.2, trivial⟩
theorem bool_ok (n : Nat) (l : List Int) (q m : Int) (ht : TapeOk n (rI l) q) (h1 : 1 ≤ m) (h2 : m ≤ 4611686018427387904) :
    ∃ (r : Bool) (q' : Int), True ∧ TapeOk n (rI l) q' ∧ MethOk Try.prog 28 [(cI .i64).enc m] (tapeN n (rI l) q) (cB.enc r) (tapeN n (rI l) q') := by
  refine tape_intro (wd := 1) (Q := mkQ LT0) (by decide) tysOk (q_of LT0_ok) mixed Try.func28 rfl _ (by show 1 + 1 ≤ _; decide) (fun _ => nff_bool) ?_
  repeat' (first | (apply And.intro <;> intro hc <;> (first | exact Bool.noConfusion hc | (simp only [decide_eq_true_eq, decide_eq_false_iff_not, Bool.not_eq_true', Bool.not_eq_false', beq_iff_eq, beq_eq_false_iff_ne, bne_iff_ne, bne_eq_false_iff_eq, Bool.true_eq_false, Bool.false_eq_true] at hc) | skip)) | (refine And.intro (by first | exact trivial | decide | omega | (dsimp only; omega) | exact fun _ _ => rfl | exact ⟨by assumption, by first | exact trivial | decide | omega | (dsimp only; omega)⟩) ?_) | (apply And.intro) | (intro s hs))
  · exact ⟨(_, _), ⟨trivial, by assumption⟩, ⟨leF_bool rfl, tapeN_le⟩⟩
theorem bo_shI {H : Hp} {n : Nat} {l : List Int} : Bo H [] (.e (.c (.sl true n 1 (rI l)))) (.e (.c (.sl true n 1 (rI l)))) := by
  rintro cx r w v st ⟨a, cap, rfl, h1, h2⟩
  refine ⟨a, cap, rfl, h1, fun h0 => ?_⟩
  obtain ⟨ad, rfl, hs, ho, hX, hlt, hc⟩ := h2 h0
  refine ⟨ad, rfl, hs, fun ⟨k, e, x, q1, q2, q3, _⟩ => ho ⟨k, e, x, q1, q2, q3⟩, fun _ h => h.elim (hX rfl) ho, hlt, fun i hi j hj => ?_⟩
  obtain ⟨u, hu, hr⟩ := hc i hi j hj
  exact ⟨u, hu, hr⟩
theorem new_ok (n : Nat) (l : List Int) : NewOk Try.prog 8 [.e (.c (.sl true n 1 (rI l)))] none none (tapeN (min n 400) (rI l) 0) := by
  refine new_intro (wd := 1) (Q := mkQ LE0) (by decide) tysOk (q_of LE0_ok) mixed Try.func8 rfl _ (by show 1 ≤ _; decide) tapeN_nf ?_
  repeat' (first | (apply And.intro <;> intro hc <;> (first | exact Bool.noConfusion hc | (simp only [decide_eq_true_eq, decide_eq_false_iff_not, Bool.not_eq_true', Bool.not_eq_false', beq_iff_eq, beq_eq_false_iff_ne, bne_iff_ne, bne_eq_false_iff_eq, Bool.true_eq_false, Bool.false_eq_true] at hc) | skip)) | (refine And.intro (by first | exact trivial | decide | omega | (dsimp only; omega) | exact fun _ _ => rfl) ?_) | (apply And.intro) | (intro s hs))
  · refine ⟨⟨some 9, leF_ptr rfl, ?_⟩⟩
    exact leN_var ⟨⟨trivial, leC_sl (fun _ => rfl) (by show 400 - 0 = min n 400; omega) rfl fun i _ j _ => leC_int (by rw [Nat.zero_add])⟩, leC_int rfl⟩
  · refine ⟨⟨some 6, leF_ptr rfl, ?_⟩⟩
    exact leN_var ⟨⟨trivial, leC_sl (fun _ => rfl) (by omega) rfl fun i _ j _ => leC_int rfl⟩, leC_int rfl⟩
def newTapeE : Entry := fun args H nm _ =>
  match args with
  | [.e (.c (.sl true n s f))] => bif Nat.beq s 1 then some fun K => (∃ l, f = rI l ∧ rngL l) ∧ ∀ m, ∀ q, TapeOk m f q → K (one (.ptr nm 0 0 false)) [(nm, some (tapeN m f q))] [] else none
  | _ => none
theorem newTapeE_ok : EntOk Try.prog 8 newTapeE := by
  refine ⟨fun args H nm wd q hwd hq K hK => ?_, fun args H nm wd q hq K K' hKK hK => ?_⟩
  · unfold newTapeE at hq
    split at hq
    · rename_i n s f
      obtain ⟨hb, hq⟩ := cond_some hq
      subst hq
      have hb := Nat.eq_of_beq_eq_true hb
      subst hb
      obtain ⟨⟨l, rfl, hl⟩, hK⟩ := hK
      refine ⟨_, _, _, callR_new (args' := [.e (.c (.sl true n 1 (rI l)))]) (rd := []) ⟨_, Try.func8, rfl, by kernel_rfl⟩ hwd (kd := none) (rest := none) (fun l h => by cases h) (fun H' _ => ⟨rfl, fun i x y hx hy => ?_⟩) (new_ok n l), hK (min n 400) 0 ⟨by omega, by omega, by omega, l, rfl, hl⟩⟩
      cases i with
      | zero => simp only [List.getElem?_cons_zero, Option.some.injEq] at hx hy; subst hx hy; exact bo_shI
      | succ i => cases i <;> cases hx
    · cases hq
  · unfold newTapeE at hq
    split at hq
    · obtain ⟨hb, hq⟩ := cond_some hq
      subst hq
      exact ⟨hK.1, fun m q h => hKK _ _ _ (hK.2 m q h)⟩
    · cases hq
abbrev boolE : Entry := tapeE (AC.cons (cI .i64) AC.nil) (fun a => 1 ≤ a.1 ∧ a.1 ≤ 4611686018427387904) (fun a (r : Bool) => True) cB.enc
end Go.Proofs.Ythbhidfohdipnaa.AX

/- Arguments of the laws as values of AX2. -/
namespace Go.Proofs.Ythbhidfohdipnaa.AX
open Go.RowKit
set_option linter.unusedVariables false
theorem spot_none {w : World} {a : Addr} {u : Value} (h : w.cell? a = some u) : a.spot = none := by
  unfold World.cell? at h
  split at h
  · split at h
    · cases h
    · rename_i hs; simpa using hs
  · cases h
theorem row_rel {w : World} {a : Option Addr} {len cap : Nat} {zs : List Int} (h : IsRow .i64 w a len cap zs) :
    (FV.e (.c (CV.sl true len 1 (rI zs)))).rel (fun _ => none) (fun _ => False) (fun _ => False) w (.slice a len cap) := by
  rcases h with ⟨rfl, rfl, rfl, rfl⟩ | ⟨ad, rfl, hl, hm, hz, hcell, hwz⟩
  · exact ⟨none, 0, rfl, Nat.le_refl _, fun h => absurd h (Nat.lt_irrefl _)⟩
  · refine ⟨some ad, cap, rfl, hl, fun h0 => ?_⟩
    have h1 := hcell 0 (by omega)
    rw [add_zero_] at h1
    have hsp : ad.spot = none := spot_none h1
    refine ⟨ad, rfl, hsp, fun h => h, fun _ h => h, cell_lt h1, fun i hi j hj => ?_⟩
    have : j = 0 := by omega
    subst this
    have h2 := hcell i (by omega)
    rw [addS hsp] at h2
    exact ⟨_, by rw [show i * 1 + 0 = i by omega]; exact h2, rfl⟩
theorem wf_i64 {n : Int} (h : (Lit.int .i64 n).wf = true) : -9223372036854775808 ≤ n ∧ n ≤ 9223372036854775807 := by
  simp [Lit.wf, IntKind.min, IntKind.max, IntKind.bits, IntKind.signed] at h
  omega
theorem rng_of {w : World} {a : Option Addr} {len cap : Nat} {zs : List Int} (h : IsRow .i64 w a len cap zs) : rngL zs := by
  have hall : ∀ z ∈ zs, (Lit.int .i64 z).wf = true := by
    rcases h with ⟨rfl, rfl, rfl, rfl⟩ | ⟨ad, rfl, hl, hm, hz, hcell, hwz⟩
    · intro z hz; cases hz
    · exact hwz
  intro i
  by_cases hi : i < zs.length
  · have e : zs.getD i default = zs[i] := by simp [List.getD_eq_getElem?_getD, List.getElem?_eq_getElem hi]
    rw [e]
    exact wf_i64 (hall _ (List.getElem_mem hi))
  · have e : zs.getD i default = 0 := by simp [List.getD_eq_getElem?_getD, List.getElem?_eq_none (by omega : zs.length ≤ i)]
    rw [e]; omega
theorem relL1 {r : Ren} {X W : Nat → Prop} {w : World} {x : FV} {v : Value} (h : x.rel r X W w v) : RelL r X W w [x] #[v] :=
  ⟨rfl, fun i y u hy hu => by
    match i, hy, hu with
    | 0, hy, hu => injection hy with hy; injection hu with hu; subst hy hu; exact h⟩
theorem relL_cons {r : Ren} {X W : Nat → Prop} {w : World} {x : FV} {v : Value} {xs : List FV} {vs : List Value} (h : x.rel r X W w v) (ht : RelL r X W w xs vs.toArray) : RelL r X W w (x :: xs) (v :: vs).toArray := by
  refine ⟨by have := ht.1; simp at this ⊢; omega, fun i y u hy hu => ?_⟩
  cases i with
  | zero => simp at hy hu; subst hy hu; exact h
  | succ i => exact ht.2 i y u (by simpa using hy) (by simpa using hu)
theorem walk_of {P : Program} {f : FuncId} {args : List FV} {vals : Array Value} {w : World} (h : PureOk P f args (.e (.c (.bool true)))) (hr : RelL (fun _ => none) (fun _ => False) (fun _ => False) w args vals) (hg : GlobOk (fun _ => False) w := by exact fun p hp => by cases hp) :
    Calls P f vals w fun e w' => e = .returned (.bool true) ∧ Below w.heap.size w w' :=
  (h (fun _ => False) w vals hr ⟨fun _ h => h.elim, hg⟩).mono fun e w' ⟨v, he, hb, hv⟩ => by
    have hv' : v = .bool true := hv
    subst hv'
    exact ⟨he, hb⟩
end Go.Proofs.Ythbhidfohdipnaa.AX

/- Arguments of laws that are made of numbers and truth values (by value, and slices of them), as values of AX2. -/
namespace Go.Proofs.Ythbhidfohdipnaa
open Go.ChangeShapes Go.WideShapes Go.RowKit AX
set_option linter.unusedVariables false
def KOk : Option IntKind → Value → Prop
  | some k, v => ∃ n, v = .int k n ∧ (Lit.int k n).wf = true
  | none, v => ∃ b, v = .bool b
def Mt : List (Option IntKind) → List Value → Prop
  | [], [] => True
  | k :: ks, v :: vs => KOk k v ∧ Mt ks vs
  | _, _ => False
theorem Mt.append {a b : List (Option IntKind)} {x y : List Value} (h : Mt a x) (h' : Mt b y) : Mt (a ++ b) (x ++ y) := by
  induction a generalizing x with
  | nil =>
    cases x with
    | nil => exact h'
    | cons => exact h.elim
  | cons k ks ih =>
    cases x with
    | nil => exact h.elim
    | cons v vs => exact ⟨h.1, ih h.2⟩
theorem Mt.len {a : List (Option IntKind)} {x : List Value} (h : Mt a x) : x.length = a.length := by
  induction a generalizing x with
  | nil =>
    cases x with
    | nil => rfl
    | cons => exact h.elim
  | cons k ks ih =>
    cases x with
    | nil => exact h.elim
    | cons v vs => simp [ih h.2]
def flatFs (P : Program) (g : TypeId → Option (List (Option IntKind))) : List Field → Nat → Option (List (Option IntKind))
  | [], _ => some []
  | fd :: rest, off =>
    match g fd.type with
    | some l => bif Nat.beq fd.offset off && Nat.beq (P.cellsOf fd.type) l.length then (flatFs P g rest (off + l.length)).map (l ++ ·) else none
    | none => none
def flat (P : Program) : Nat → TypeId → Option (List (Option IntKind))
  | 0, _ => none
  | f + 1, t =>
    match P.underlying t with
    | some .bool => some [none]
    | some (.int k) => some [some k]
    | some (.struct fs) =>
      match flatFs P (flat P f) fs.toList 0 with
      | some l => bif Nat.beq (P.cellsOf t) l.length then some l else none
      | none => none
    | some (.array n e) =>
      match flat P f e with
      | some l => bif Nat.beq (P.cellsOf e) l.length && Nat.beq (P.cellsOf t) (n * l.length) then some (List.replicate n l).flatten else none
      | none => none
    | _ => none
section
variable {H : Type} {enc : TypeId × Value → H} {P : Program} {w : World} {base : Nat} {spare : Nat → Bool} {held : Bool}
theorem flatFs_mt {g : TypeId → Option (List (Option IntKind))} {cs : List Value} : ∀ (fs : List Field) (off : Nat) (ks : List (Option IntKind)), flatFs P g fs off = some ks →
    (∀ fd ∈ fs, ∀ l, g fd.type = some l → Mt l ((cs.drop fd.offset).take (P.cellsOf fd.type))) → cs.length = off + ks.length → Mt ks (cs.drop off) := by
  intro fs
  induction fs with
  | nil =>
    intro off ks h _ hl
    simp only [flatFs, Option.some.injEq] at h
    subst h
    rw [List.drop_eq_nil_of_le (by simp at hl; omega)]
    trivial
  | cons fd rest ih =>
    intro off ks h hm hl
    simp only [flatFs] at h
    split at h
    · rename_i l hg
      cases hb : (Nat.beq fd.offset off && Nat.beq (P.cellsOf fd.type) l.length) with
      | false => rw [hb] at h; cases h
      | true =>
        rw [hb, cond_true] at h
        simp only [Bool.and_eq_true] at hb
        have h1 := Nat.eq_of_beq_eq_true hb.1
        have h2 := Nat.eq_of_beq_eq_true hb.2
        cases hr : flatFs P g rest (off + l.length) with
        | none => rw [hr] at h; cases h
        | some l' =>
          rw [hr] at h
          simp only [Option.map_some, Option.some.injEq] at h
          subst h
          have m1 := hm fd (by simp) l hg
          rw [h1, h2] at m1
          have m2 := ih _ _ hr (fun fd' hfd l hl => hm fd' (by simp [hfd]) l hl) (by simp at hl; omega)
          rw [show cs.drop off = (cs.drop off).take l.length ++ cs.drop (off + l.length) by
            rw [← List.drop_drop, List.take_append_drop]]
          exact m1.append m2
    · cases h
theorem flat_mt : ∀ (f : Nat) (t : TypeId) (ks : List (Option IntKind)) (fuel : Nat) (cs : List Value) (x : DataW H × List MemPlace), flat P f t = some ks → DataW.trod enc P w base spare held fuel t cs = some x → Mt ks cs := by
  intro f
  induction f with
  | zero => intro t ks fuel cs x h; cases h
  | succ f ih =>
    intro t ks fuel cs x h hd
    simp only [flat] at h
    split at h
    · rename_i ht
      simp only [Option.some.injEq] at h
      subst h
      cases fuel with
      | zero => simp [DataW.trod] at hd
      | succ m =>
        unfold DataW.trod at hd
        rw [ht] at hd
        split at hd <;> simp_all
        exact ⟨⟨_, rfl⟩, trivial⟩
    · rename_i k ht
      simp only [Option.some.injEq] at h
      subst h
      obtain ⟨n, rfl, hx, hw⟩ := DataW.trod_int ht hd
      exact ⟨⟨n, rfl, hw⟩, trivial⟩
    · rename_i fs ht
      split at h
      · rename_i l hfl
        cases hb : Nat.beq (P.cellsOf t) l.length with
        | false => rw [hb] at h; cases h
        | true =>
          rw [hb] at h
          simp only [cond_true, Option.some.injEq] at h
          subst h
          obtain ⟨ys, m, _, _, hlen, hyl, hf⟩ := DataW.trod_struct ht hd
          have := flatFs_mt (cs := cs) fs.toList 0 l hfl (fun fd hfd l' hg => ?_) (by rw [hlen, Nat.eq_of_beq_eq_true hb]; omega)
          · simpa using this
          · obtain ⟨i, hi, hfi⟩ := List.getElem_of_mem hfd
            have hi' : i < fs.size := by simpa using hi
            have e1 : fs[i]? = some fd := by
              rw [Array.getElem?_eq_getElem hi']
              simpa using hfi
            have hfd' := hf i fd e1
            have hy : ys[i]? = some ys[i] := List.getElem?_eq_getElem (by omega)
            rw [hy] at hfd'
            exact ih _ _ _ _ _ hg hfd'
      · cases h
    · rename_i n e ht
      split at h
      · rename_i l hfl
        cases hb : (Nat.beq (P.cellsOf e) l.length && Nat.beq (P.cellsOf t) (n * l.length)) with
        | false => rw [hb] at h; cases h
        | true =>
          rw [hb] at h
          simp only [cond_true, Option.some.injEq] at h
          subst h
          simp only [Bool.and_eq_true] at hb
          have h1 := Nat.eq_of_beq_eq_true hb.1
          have h2 := Nat.eq_of_beq_eq_true hb.2
          obtain ⟨xs, m, _, _, hlen, hxl, hel⟩ := DataW.trod_array ht hd
          have key : ∀ j, j ≤ n → Mt (List.replicate j l).flatten (cs.drop ((n - j) * l.length)) := by
            intro j
            induction j with
            | zero =>
              intro _
              rw [List.drop_eq_nil_of_le (by rw [hlen, h2]; simp)]
              trivial
            | succ j ihj =>
              intro hj
              have hi := hel (n - (j + 1)) (by omega)
              rw [h1] at hi
              have hsome : ∃ y, xs[n - (j + 1)]? = some y := ⟨_, List.getElem?_eq_getElem (by omega)⟩
              obtain ⟨y, hy⟩ := hsome
              rw [hy] at hi
              have m1 := ih _ _ _ _ _ hfl hi
              have m2 := ihj (by omega)
              rw [List.replicate_succ, List.flatten_cons]
              rw [show cs.drop ((n - (j + 1)) * l.length) = (cs.drop ((n - (j + 1)) * l.length)).take l.length ++ cs.drop ((n - j) * l.length) by
                rw [show (n - j) * l.length = (n - (j + 1)) * l.length + l.length by rw [show n - j = (n - (j + 1)) + 1 by omega, Nat.add_mul, Nat.one_mul], ← List.drop_drop, List.take_append_drop]]
              exact m1.append m2
          simpa using key n (Nat.le_refl _)
      · cases h
    · cases h
/-- An argument by value of a type that is a struct or an array. -/
theorem open_flat {r : Reach} {b0 f : Nat} {t : TypeId} {v : Value} {d : DataW H} {ps : List MemPlace} {ks : List (Option IntKind)} (hs : (∃ fs, P.underlying t = some (.struct fs)) ∨ ∃ n e, P.underlying t = some (.array n e)) (hf : flat P f t = some ks) (hval : Value.okWide P w r b0 t v) (hd : DataW.Trod enc P w base spare held t v d ps) :
    ∃ cs : Array Value, v = .agg cs ∧ Mt ks cs.toList := by
  have hv : ∃ cs, v = .agg cs := by
    unfold Value.okWide at hval
    rcases hs with ⟨fs, h⟩ | ⟨n, e, h⟩
    · rw [h] at hval; obtain ⟨cs, rfl, _⟩ := hval; exact ⟨cs, rfl⟩
    · rw [h] at hval; obtain ⟨cs, rfl, _⟩ := hval; exact ⟨cs, rfl⟩
  obtain ⟨cs, rfl⟩ := hv
  obtain ⟨fuel, hd⟩ := hd
  exact ⟨cs, rfl, flat_mt f t ks fuel _ _ hf hd⟩
end
/-- The abstract value of a cell. -/
def cvOf : Value → CV
  | .int k n => .int k n
  | .bool b => .bool b
  | _ => .top
def KOkC : Option IntKind → CV → Prop
  | some k, x => ∃ n, x = .int k n ∧ (Lit.int k n).wf = true
  | none, x => ∃ b, x = .bool b
/-- Cells of the kinds ks. -/
def MtC (ks : List (Option IntKind)) (g : Nat → CV) : Prop := ∀ j k, ks[j]? = some k → KOkC k (g j)
theorem KOk.cv {k : Option IntKind} {v : Value} (h : KOk k v) : KOkC k (cvOf v) ∧ ∀ r X W w, (cvOf v).rel r X W w v := by
  cases k with
  | some k => obtain ⟨n, rfl, h⟩ := h; exact ⟨⟨n, rfl, h⟩, fun _ _ _ _ => rfl⟩
  | none => obtain ⟨b, rfl⟩ := h; exact ⟨⟨b, rfl⟩, fun _ _ _ _ => rfl⟩
theorem Mt.at : ∀ {ks : List (Option IntKind)} {vs : List Value}, Mt ks vs → ∀ (j : Nat) k, ks[j]? = some k → ∃ v, vs[j]? = some v ∧ KOk k v := by
  intro ks
  induction ks with
  | nil => intro vs _ j k h; simp at h
  | cons k0 ks ih =>
    intro vs h j k hk
    cases vs with
    | nil => exact h.elim
    | cons v vs =>
      cases j with
      | zero => simp at hk; subst hk; exact ⟨v, rfl, h.1⟩
      | succ j => simpa using ih h.2 j k (by simpa using hk)
def gOf (cs : List Value) (j : Nat) : CV := cvOf (cs.getD j undef)
theorem Mt.g {ks : List (Option IntKind)} {vs : List Value} (h : Mt ks vs) : MtC ks (gOf vs) ∧ ∀ r X W w (j : Nat) u, vs[j]? = some u → (gOf vs j).rel r X W w u := by
  have hlen := h.len
  refine ⟨fun j k hk => ?_, fun r X W w j u hu => ?_⟩
  · obtain ⟨v, hv, hko⟩ := h.at j k hk
    have : gOf vs j = cvOf v := by simp [gOf, List.getD_eq_getElem?_getD, hv]
    rw [this]; exact hko.cv.1
  · have hj : j < ks.length := by rw [← hlen]; exact (List.getElem?_eq_some_iff.1 hu).1
    obtain ⟨v, hv, hko⟩ := h.at j _ (List.getElem?_eq_getElem hj)
    rw [hu] at hv; injection hv with hv; subst hv
    have : gOf vs j = cvOf u := by simp [gOf, List.getD_eq_getElem?_getD, hu]
    rw [this]; exact hko.cv.2 r X W w
/-- A struct or an array by value. -/
theorem flat_rel {ks : List (Option IntKind)} {cs : Array Value} (h : Mt ks cs.toList) {w : World} {α : Type} {E : Elem α} (hsz : E.sz = ks.length) (hok : ∀ g, MtC ks g → E.ok g = true) :
    ∃ a : α, (∃ g, MtC ks g ∧ a = E.rd g) ∧ ((cE E).enc a).rel (fun _ => none) (fun _ => False) (fun _ => False) w (.agg cs) := by
  obtain ⟨h1, h2⟩ := h.g
  have hn : cs.size = E.sz := by rw [hsz]; have := h.len; simpa using this
  refine ⟨E.rd (gOf cs.toList), ⟨_, h1, rfl⟩, cs, rfl, hn, fun i u hu => ?_⟩
  rw [← E.ok_eq _ (hok _ h1) i (by rw [← hn]; exact (Array.getElem?_eq_some_iff.1 hu).1)]
  exact h2 _ _ _ _ i u (by simpa using hu)
section
variable {H : Type} {enc : TypeId × Value → H} {P : Program} {w : World} {base : Nat} {spare : Nat → Bool} {held : Bool}
theorem cells_lt {ad : Addr} {w : World} {u : Value} (h : w.cell? ad = some u) : ad.block < w.heap.size := cell_lt h
end
theorem okA_of {k : IntKind} {g : Nat → CV} {o : Nat} : ∀ {n : Nat}, (∀ i, i < n → isK k (g (o + i)) = true) → okA k g o n = true := by
  intro n
  induction n with
  | zero => intro _; rfl
  | succ n ih => intro h; simp only [okA, Bool.and_eq_true]; exact ⟨h n (by omega), ih fun i hi => h i (by omega)⟩
theorem MtC.k {ks : List (Option IntKind)} {g : Nat → CV} (h : MtC ks g) {j : Nat} {k : IntKind} (hj : ks[j]? = some (some k)) : isK k (g j) = true := by
  obtain ⟨n, hn, _⟩ := h j _ hj
  rw [hn]; simp [isK, kindEq]
theorem MtC.b {ks : List (Option IntKind)} {g : Nat → CV} (h : MtC ks g) {j : Nat} (hj : ks[j]? = some none) : isB (g j) = true := by
  obtain ⟨n, hn⟩ := h j _ hj
  rw [hn]; rfl
theorem MtC.wf {ks : List (Option IntKind)} {g : Nat → CV} (h : MtC ks g) {j : Nat} {k : IntKind} (hj : ks[j]? = some (some k)) : (Lit.int k (valI (g j))).wf = true := by
  obtain ⟨n, hn, hw⟩ := h j _ hj
  rw [hn]; exact hw
end Go.Proofs.Ythbhidfohdipnaa

/- Codes of structs that end in a slice, and of slices of slices. -/
namespace Go.Proofs.Ythbhidfohdipnaa.AX
open Go.RowKit
set_option linter.unusedVariables false
set_option linter.unusedSimpArgs false
/-! ### Slices of slices -/
def rowFF {β : Type} [Inhabited β] (F : Elem β) (L : List (List β)) (i _j : Nat) : CV := .sl false (L.getD i []).length F.sz (rowF F (L.getD i []))
/-- Reads the elements q, q+1, .. (n of them) of a row of slices. -/
def readLL {β : Type} (F : Elem β) (H : Hp) (f : Nat → CV) : Nat → Nat → Option (List (List β) × Option Prop × List Nat)
  | 0, _ => some ([], none, [])
  | n + 1, q =>
    match srcOf H F.sz (.e (.c (f q))) with
    | some ⟨m, g, p, rd⟩ =>
      match readLL F H f n (q + 1) with
      | some (L, p', rd') => some (toL F m g :: L, both (both p (some (∀ i, i < m → F.ok (g i) = true))) p', rd ++ rd')
      | none => none
    | none => none
theorem readLL_ok {β : Type} [Inhabited β] {F : Elem β} (hsz : 0 < F.sz) {H H' : Hp} {f : Nat → CV} : ∀ (n q : Nat) (L : List (List β)) (p : Option Prop) (rd : List Nat), readLL F H f n q = some (L, p, rd) → preOk p → (∀ k ∈ rd, hget H k = hget H' k) →
    L.length = n ∧ ∀ i, i < n → Bo H' rd (.e (.c (f (q + i)))) (.e (.c (rowFF F L i 0))) := by
  intro n
  induction n with
  | zero => intro q L p rd h _ _; injection h with h; injection h with h _; subst h; exact ⟨rfl, fun i hi => by omega⟩
  | succ n ih =>
    intro q L p rd h hp hh
    unfold readLL at h
    split at h
    · rename_i m g p0 rd0 hs
      split at h
      · rename_i L' p' rd' hL
        injection h with h
        injection h with h1 h2
        injection h2 with h2 h3
        subst h1 h2 h3
        obtain ⟨a1, a2⟩ := both_ok.1 hp
        obtain ⟨b1, b2⟩ := both_ok.1 a1
        obtain ⟨c1, c2⟩ := ih (q + 1) L' p' rd' hL a2 (fun k hk => hh k (List.mem_append_right _ hk))
        refine ⟨by simp [c1], fun i hi => ?_⟩
        cases i with
        | zero => exact (bo_sl hsz (srcOf_congr hs (fun k hk => hh k (List.mem_append_left _ hk))) b1 b2).more fun k hk => List.mem_append_left _ hk
        | succ i =>
          have := (c2 i (by omega)).more (rd' := rd0 ++ rd') fun k hk => List.mem_append_right _ hk
          rw [show q + (i + 1) = q + 1 + i by omega]
          exact this
      · cases h
    · cases h
/-- A slice of slices that is lent for the call; its length is a literal. -/
def cLL {β : Type} [Inhabited β] (F : Elem β) (hsz : 0 < F.sz) : Codec (List (List β)) where
  enc L := .e (.c (.sl false L.length 1 (rowFF F L)))
  dec H x :=
    match srcOf H 1 x with
    | some ⟨n, g, p, rd⟩ =>
      match readLL F H (fun i => g i 0) n 0 with
      | some (L, p', rd') => some (L, both p p', rd ++ rd')
      | none => none
    | none => none
  sound H H' x a p rd h hp hh := by
    split at h
    · rename_i n g p0 rd0 hs
      split at h
      · rename_i L p' rd' hL
        injection h with h
        injection h with h1 h2
        injection h2 with h2 h3
        subst h1 h2 h3
        obtain ⟨a1, a2⟩ := both_ok.1 hp
        obtain ⟨c1, c2⟩ := readLL_ok hsz n 0 L p' rd' hL a2 (fun k hk => hh k (List.mem_append_right _ hk))
        have hs' := srcOf_congr hs (H' := H') (fun k hk => hh k (List.mem_append_left _ hk))
        have key : ∀ i, i < n → ∀ cx r w u, St cx r H' w → (g i 0).rel r cx.X (wr r H') w u → (rowFF F L i 0).rel (fun _ => none) (fun b => cx.X b ∨ wr r H' b) (wrBut r H' (rd0 ++ rd')) w u := fun i hi cx r w u st hu => by
          have := (c2 i hi).more (rd' := rd0 ++ rd') (fun k hk => List.mem_append_right _ hk)
          rw [Nat.zero_add] at this
          exact this cx r w u st hu
        intro cx r w v st hx
        refine (?_ : CV.rel (fun _ => none) (fun b => cx.X b ∨ wr r H' b) (wrBut r H' (rd0 ++ rd')) w (.sl false L.length 1 (rowFF F L)) v)
        rw [c1]
        unfold srcOf at hs'
        split at hs'
        · rename_i sh n' s f
          obtain ⟨hb, hs'⟩ := cond_some hs'
          injection hs' with h1 h2 h3 h4
          subst h1 h2 h3 h4
          obtain ⟨a, cap, rfl, d1, d2⟩ := hx
          refine ⟨a, cap, rfl, d1, fun h0 => ?_⟩
          obtain ⟨ad, rfl, hsp, ho, hX, hlt, hc⟩ := d2 h0
          refine ⟨ad, rfl, hsp, fun ⟨k, e, x, q1, q2, q3, _⟩ => ho ⟨k, e, x, q1, q2, q3⟩, (fun h => by cases h), hlt, fun i hi j hj => ?_⟩
          have hsE : s = 1 := Nat.eq_of_beq_eq_true hb
          subst hsE
          have hj0 : j = 0 := by omega
          subst hj0
          obtain ⟨u, hu, hr⟩ := hc i hi 0 hj
          exact ⟨u, hu, key i hi cx r w u st hr⟩
        · injection hs' with hs'
          injection hs' with h1 h2 h3 h4
          subst h1 h2 h3 h4
          have : v = .slice none 0 0 := hx
          subst this
          exact ⟨none, 0, rfl, Nat.le_refl _, fun h => absurd h (Nat.lt_irrefl _)⟩
        · rename_i k i n'
          split at hs'
          · rename_i et en es ev f he
            obtain ⟨hb, hs'⟩ := cond_some hs'
            injection hs' with h1 h2 h3 h4
            subst h1 h2 h3 h4
            have hsE : es = 1 := Nat.eq_of_beq_eq_true hb
            subst hsE
            obtain ⟨a, cap, rfl, d1, d2⟩ := hx
            refine ⟨a, cap, rfl, d1, fun h0 => ?_⟩
            obtain ⟨x, hx, rfl, _⟩ := d2 (by omega)
            have hp' : i + n' ≤ en := a1
            obtain ⟨_, _, hxs, _⟩ := blk_at st he hx
            simp only at hxs
            refine ⟨⟨x.b, i * x.sz, none⟩, rfl, rfl, ?_, (fun h => by cases h), (st.dom k x hx.1).1, fun q hq j hj => ?_⟩
            · rintro ⟨k2, e2, y, q1, q2, q3, q4⟩
              have := st.inj k2 k e2 _ y x q1 he q2 hx.1 q3
              exact q4 (by rw [this]; exact List.mem_append_left _ (List.mem_singleton.2 rfl))
            · have hj0 : j = 0 := by omega
              subst hj0
              obtain ⟨u, hu, hr⟩ := blk_cell st he hx (i := i + q) (j := 0) (show i + q < en by omega) (show 0 < 1 by omega)
              refine ⟨u, ?_, key q hq cx r w u st hr⟩
              rw [← hu]
              show w.cell? ⟨x.b, i * x.sz + (q * 1 + 0), none⟩ = _
              rw [show i * x.sz + (q * 1 + 0) = (i + q) * x.sz + 0 by rw [hxs]; omega]
          · cases hs'
        · rename_i k i j0 n' s
          split at hs'
          · rename_i et en es ev f he
            obtain ⟨hb, hs'⟩ := cond_some hs'
            injection hs' with h1 h2 h3 h4
            subst h1 h2 h3 h4
            have hsE : s = 1 := Nat.eq_of_beq_eq_true hb
            subst hsE
            obtain ⟨a, cap, rfl, d1, d2⟩ := hx
            refine ⟨a, cap, rfl, d1, fun h0 => ?_⟩
            obtain ⟨x, hx, rfl⟩ := d2 h0
            have hp' : i < en ∧ j0 + n' * 1 ≤ es := a1
            refine ⟨⟨x.b, i * x.sz + j0, none⟩, rfl, rfl, ?_, (fun h => by cases h), (st.dom k x hx.1).1, fun q hq j hj => ?_⟩
            · rintro ⟨k2, e2, y, q1, q2, q3, q4⟩
              have := st.inj k2 k e2 _ y x q1 he q2 hx.1 q3
              exact q4 (by rw [this]; exact List.mem_append_left _ (List.mem_singleton.2 rfl))
            · have hj0 : j = 0 := by omega
              subst hj0
              obtain ⟨u, hu, hr⟩ := blk_cell st he hx (i := i) (j := j0 + (q * 1 + 0)) (show i < en from hp'.1) (show j0 + (q * 1 + 0) < es by omega)
              refine ⟨u, ?_, key q hq cx r w u st hr⟩
              rw [← hu]
              show w.cell? ⟨x.b, i * x.sz + j0 + (q * 1 + 0), none⟩ = _
              rw [Nat.add_assoc]
          · cases hs'
        · cases hs'
      · cases h
    · cases h
theorem cl_ll {β : Type} [Inhabited β] (F : Elem β) (L : List (List β)) : Cl (.sl false L.length 1 (rowFF F L)) := cl_sl fun i _ j _ => cl_sl fun i' _ j' _ => (F.flat _ _).cl
end Go.Proofs.Ythbhidfohdipnaa.AX

/- Plain facts on folding numbers and on the words of byte strings: no program in sight. -/
namespace Go.Proofs.Ythbhidfohdipnaa

/-- Folding to 16 bits: 0 stays, all else becomes its remainder modulo 65535 between 1 and 65535. -/
def foldN (n : Nat) : Nat := if n = 0 then 0 else (n - 1) % 65535 + 1

theorem foldN_small {n : Nat} (h : n ≤ 65535) : foldN n = n := by
  unfold foldN; split <;> omega
theorem foldN_le (n : Nat) : foldN n ≤ 65535 := by
  unfold foldN; split <;> omega
theorem foldN_step {n : Nat} (h : 65535 < n) : foldN (n % 65536 + n / 65536) = foldN n := by
  unfold foldN
  rw [if_neg (by omega), if_neg (by omega)]
  omega
theorem foldN_add (a b : Nat) : foldN (foldN a + b) = foldN (a + b) := by
  unfold foldN
  by_cases ha : a = 0
  · simp [ha]
  · rw [if_neg ha, if_neg (by omega), if_neg (by omega)]
    omega

/-- The sum of the words of a byte string; 'hi': does the next byte stand for the high half of a word? -/
def tot : Bool → List UInt8 → Nat
  | _, [] => 0
  | true, c :: l => c.toNat * 256 + tot false l
  | false, c :: l => c.toNat + tot true l

/-- Whether the next byte is a high one behind l. -/
def side (hi : Bool) (l : List UInt8) : Bool := hi ^^ decide (l.length % 2 = 1)

theorem side_cons (hi : Bool) (c : UInt8) (l : List UInt8) : side hi (c :: l) = side (!hi) l := by
  unfold side
  rcases Nat.mod_two_eq_zero_or_one l.length with h | h
  · have : (l.length + 1) % 2 = 1 := by omega
    cases hi <;> simp [h, this]
  · have : (l.length + 1) % 2 = 0 := by omega
    cases hi <;> simp [h, this]

theorem tot_append (l m : List UInt8) : ∀ hi, tot hi (l ++ m) = tot hi l + tot (side hi l) m := by
  induction l with
  | nil => intro hi; simp [tot, side]
  | cons c l ih =>
    intro hi
    rw [side_cons, List.cons_append]
    cases hi <;> simp [tot, ih] <;> omega

theorem tot_le2 (l : List UInt8) : 2 * tot true l ≤ 65535 * l.length + 65025 ∧ 2 * tot false l ≤ 65535 * l.length := by
  induction l with
  | nil => simp [tot]
  | cons c l ih =>
    have := c.toNat_lt
    simp [tot]
    omega
theorem tot_le (l : List UInt8) : tot true l ≤ 32768 * l.length + 32768 := by have := tot_le2 l; omega
theorem tot_snoc (l : List UInt8) (c : UInt8) : tot true (l ++ [c]) = tot true l + if side true l = true then c.toNat * 256 else c.toNat := by
  rw [tot_append]
  cases side true l <;> simp [tot]
end Go.Proofs.Ythbhidfohdipnaa

/- Plain laws of byte strings and of packets: no program in sight. -/
namespace Go.Proofs.Ythbhidfohdipnaa
set_option linter.unusedVariables false
set_option linter.unusedSimpArgs false
/-- Bytes. -/
structure BL (l : List Int) : Prop where
  m : ∀ x ∈ l, 0 ≤ x ∧ x < 256
theorem BL.nil : BL [] := ⟨fun x h => by cases h⟩
theorem BL.cons {x : Int} {l : List Int} (hx : 0 ≤ x ∧ x < 256) (h : BL l) : BL (x :: l) := ⟨fun y hy => by
  rcases List.mem_cons.1 hy with rfl | hy
  · exact hx
  · exact h.m y hy⟩
theorem BL.append {l m : List Int} (h : BL l) (k : BL m) : BL (l ++ m) := ⟨fun y hy => by
  rcases List.mem_append.1 hy with hy | hy
  · exact h.m y hy
  · exact k.m y hy⟩
theorem BL.take {l : List Int} (h : BL l) (n : Nat) : BL (l.take n) := ⟨fun y hy => h.m y (List.mem_of_mem_take hy)⟩
theorem BL.drop {l : List Int} (h : BL l) (n : Nat) : BL (l.drop n) := ⟨fun y hy => h.m y (List.mem_of_mem_drop hy)⟩
theorem BL.get {l : List Int} (h : BL l) (i : Nat) : 0 ≤ l.getD i default ∧ l.getD i default < 256 := by
  rcases Nat.lt_or_ge i l.length with hi | hi
  · rw [List.getD_eq_getElem?_getD, List.getElem?_eq_getElem hi]
    exact h.m _ (List.getElem_mem hi)
  · rw [List.getD_eq_getElem?_getD, List.getElem?_eq_none hi]
    exact ⟨Int.le_refl _, by decide⟩
/-- The n bytes of a number, the most significant one first. -/
def beN (v : Int) : Nat → List Int
  | 0 => []
  | n + 1 => v / 256 ^ n % 256 :: beN v n
theorem beN_len (v : Int) : ∀ n, (beN v n).length = n := by
  intro n
  induction n with
  | zero => rfl
  | succ n ih => simp [beN, ih]
theorem beN_BL (v : Int) : ∀ n, BL (beN v n) := by
  intro n
  induction n with
  | zero => exact BL.nil
  | succ n ih => exact BL.cons ⟨Int.emod_nonneg _ (by omega), Int.emod_lt_of_pos _ (by omega)⟩ ih
/-- The number of a byte string. -/
def beVal (l : List Int) : Int := l.foldl (fun a c => a * 256 + c) 0
theorem beVal_snoc (l : List Int) (c : Int) : beVal (l ++ [c]) = beVal l * 256 + c := by unfold beVal; rw [List.foldl_append]; rfl
end Go.Proofs.Ythbhidfohdipnaa

/- Layer 1 by AX2: Append and Uint of the program and of the reference; Same. -/
namespace Go.Proofs.Ythbhidfohdipnaa.AX
open Go.RowKit
set_option linter.unusedVariables false
set_option linter.unusedSimpArgs false
abbrev eB : Elem Int := eI .u8
theorem eB_sz : 0 < eB.sz := Nat.one_pos
theorem eI_rd (k : IntKind) (a : Int) : (eI k).rd ((eI k).cell a) = a := rfl
theorem toL_b (l : List Int) : toL eB l.length (rowF eB l) = l := toL_row (eI_rd .u8) l
theorem toL_b0 (l : List Int) : (toL eB l.length fun k j => rowF eB l (0 + k) j) = l := by simp only [Nat.zero_add]; exact toL_b l
/-- An element of a row turns. -/
theorem leN_set {c : Wc} {t : TypeId} {α : Type} [Inhabited α] {E : Elem α} {L : List α} {idx n : Nat} {x : α} {f : Nat → Nat → CV} {g : Nat → CV} (hn : n = L.length) (hi : idx < L.length)
    (hf : ∀ i, i < L.length → ∀ j, j < E.sz → LeC c (f i j) (rowF E L i j)) (hg : ∀ j, j < E.sz → LeC c (g j) (E.cell x j)) : LeN c ⟨t, n, E.sz, false, updE false f idx g⟩ (ents E t (L.set idx x)) := by
  refine leN_row (by rw [hn]; simp) fun i hi' j hj => ?_
  subst hn
  by_cases h : i = idx
  · subst h
    refine selC_in (beq_of rfl) ?_
    refine leC_eq (hg j hj) ?_
    unfold rowF
    rw [List.getD_eq_getElem?_getD, List.getElem?_set_self hi]; rfl
  · refine selC_out (beq_ne h) ?_
    refine leC_eq (hf i hi' j hj) ?_
    unfold rowF
    rw [List.getD_eq_getElem?_getD, List.getD_eq_getElem?_getD, List.getElem?_set_ne (Ne.symm h)]
/-- A row behind another one. -/
theorem leN_app {c : Wc} {t : TypeId} {α : Type} [Inhabited α] {E : Elem α} {L M : List α} {n : Nat} {f : Nat → Nat → CV} (hn : n = L.length + M.length) (h1 : ∀ i, i < L.length → ∀ j, j < E.sz → LeC c (f i j) (rowF E L i j)) (h2 : ∀ i, i < M.length → ∀ j, j < E.sz → LeC c (f (L.length + i) j) (rowF E M i j)) :
    LeN c ⟨t, n, E.sz, false, f⟩ (ents E t (L ++ M)) := by
  refine leN_row (by rw [hn]; simp) fun i hi j hj => ?_
  subst hn
  by_cases h : i < L.length
  · refine leC_eq (h1 i h j hj) ?_
    unfold rowF
    rw [List.getD_eq_getElem?_getD, List.getD_eq_getElem?_getD, List.getElem?_append_left h]
  · obtain ⟨k, rfl⟩ : ∃ k, i = L.length + k := ⟨i - L.length, by omega⟩
    refine leC_eq (h2 k (by omega) j hj) ?_
    unfold rowF
    rw [List.getD_eq_getElem?_getD, List.getD_eq_getElem?_getD, List.getElem?_append_right (by omega)]
    congr 3; omega
/-- The bytes of a number as the program reckons them. -/
def byteM (v : Int) (m j : Nat) : Int := IntKind.u8.wrap (shrI .u64 v (8 * ((m : Int) - 1 - (j : Int))))
def beM (v : Int) (m : Nat) : List Int := (List.range m).map (byteM v m)
theorem byteM_eq (v : Int) (m j : Nat) (hj : j < m) (hm : m ≤ 8) : byteM v m j = v / 256 ^ (m - 1 - j) % 256 := by
  unfold byteM shrI
  rw [IntKind.wrap_u8']
  have e1 : (8 * ((m : Int) - 1 - (j : Int))).toNat = 8 * (m - 1 - j) := by omega
  rw [e1, show IntKind.bits .u64 = 64 from rfl, show min (8 * (m - 1 - j)) 64 = 8 * (m - 1 - j) by omega]
  have e2 : (2 : Int) ^ (8 * (m - 1 - j)) = 256 ^ (m - 1 - j) := by rw [Int.pow_mul]; rfl
  rw [e2, Int.fdiv_eq_ediv_of_nonneg _ (Int.le_of_lt (Int.pow_pos (by omega)))]
theorem beM_eq (v : Int) (m : Nat) (hm : m ≤ 8) : beM v m = beN v m := by
  have key : ∀ k, k ≤ m → (List.range k).map (fun j => byteM v m (m - k + j)) = beN v k := by
    intro k
    induction k with
    | zero => intro _; rfl
    | succ k ih =>
      intro hk
      rw [List.range_succ_eq_map, List.map_cons, List.map_map, beN, ← ih (by omega)]
      congr 1
      · rw [byteM_eq _ _ _ (by omega) hm]
        congr 2
        congr 1; omega
      · apply List.map_congr_left
        intro j hj
        have := List.mem_range.1 hj
        show byteM v m (m - (k + 1) + (j + 1)) = byteM v m (m - k + j)
        congr 1; omega
  have := key m (Nat.le_refl _)
  rw [Nat.sub_self] at this
  unfold beM
  rw [← this]
  apply List.map_congr_left
  intro j _
  rw [Nat.zero_add]
/-- Append: 1.1. -/
def beB (v n : Int) : List Int := if 0 ≤ n ∧ n ≤ 8 then beN v n.toNat else []
def fillL (l : List Int) (m : Nat) (v : Int) (i : Nat) : List Int := l ++ ((List.range i).map (byteM v m) ++ List.replicate (m - i) 0)
theorem fillL_len (l : List Int) (m : Nat) (v : Int) (i : Nat) (h : i ≤ m) : (fillL l m v i).length = l.length + m := by simp [fillL]; omega
theorem fillL_step (l : List Int) (m : Nat) (v : Int) (i : Nat) (h : i < m) : fillL l m v (i + 1) = (fillL l m v i).set (l.length + i) (byteM v m i) := by
  unfold fillL
  rw [List.set_append_right _ _ (by omega), show l.length + i - l.length = i by omega]
  congr 1
  rw [List.set_append_right _ _ (by simp)]
  simp only [List.length_map, List.length_range, Nat.sub_self]
  obtain ⟨k, hk⟩ : ∃ k, m - i = k + 1 := ⟨m - i - 1, by omega⟩
  rw [hk, List.replicate_succ, List.set_cons_zero, List.range_succ, List.map_append, List.append_assoc]
  rw [show m - (i + 1) = k by omega]; rfl
theorem fillL_end (l : List Int) (m : Nat) (v : Int) : fillL l m v m = l ++ beM v m := by simp [fillL, beM]
set_option maxHeartbeats 4000000 in
set_option maxRecDepth 20000 in
theorem oapp_ok (l : List Int) (v n : Int) (hl : l.length ≤ 70368744177664) :
    NewOk Try.prog 33 [(cSl eB eB_sz).enc l, (cI .u64).enc v, (cI .i64).enc n] (some (l ++ beB v n).length) none (ents eB 5 (l ++ beB v n)) := by
  by_cases hr : 0 ≤ n ∧ n ≤ 8
  · obtain ⟨m, rfl⟩ : ∃ m : Nat, n = m := ⟨n.toNat, by omega⟩
    have hm8 : m ≤ 8 := by omega
    have hspec : l ++ beB v m = fillL l m v m := by
      rw [fillL_end, beM_eq v m hm8]
      unfold beB
      rw [if_pos hr]; rfl
    rw [hspec]
    clear hspec
    have em : IntKind.i64.wrap ((l.length : Int) + m) = l.length + m := IntWalk.i64_in _ (by omega)
    have hmin : Nat.min l.length (l.length + m) = l.length := Nat.min_eq_left (by omega)
    refine new_intro (wd := 1) (Q := mkQ LE0) (by decide) tysOk (q_of LE0_ok) mixed Try.func33 rfl _ (by show 3 ≤ _; decide) (fun i _ j _ => row_nf eB _ i j) ?_
    repeat' (first | (apply And.intro <;> intro hc <;> (first | exact Bool.noConfusion hc | (simp only [decide_eq_true_eq, decide_eq_false_iff_not, Bool.not_eq_true', Bool.not_eq_false', beq_iff_eq, beq_eq_false_iff_ne, bne_iff_ne, bne_eq_false_iff_eq, Bool.true_eq_false, Bool.false_eq_true] at hc) | skip)) | (refine And.intro (by first | exact trivial | decide | omega | (dsimp only; omega) | exact fun _ _ => rfl) ?_) | (apply And.intro) | (intro s hs))
    all_goals first
      | (exfalso; omega)
      | (rw [Int.natCast_one, Int.one_mul]; omega)
      | omega
      | skip
    refine loop_intro (mono_of LE0_ok) (fun s : {i : Nat // i ≤ m} => (⟨[(0, one (.sl false l.length eB.sz (rowF eB l))), (1, one (.int .u64 v)), (2, one (.int .i64 m)), (7, one (.os 40 0 (l.length + m))), (23, one (.int .i64 m)), (24, one (.int .i64 (s.1 : Int)))],
      [(40, some (ents eB 5 (fillL l m v s.1)))], 41⟩ : Hd)) (fun s => m - s.1) (fun _ => rfl) ?_ ⟨0, by omega⟩ [(40, some 11)] ?_
    · rintro ⟨i, hi⟩
      dsimp only at hi ⊢
      have hlen := fillL_len l m v i hi
      have w1 : IntKind.i64.wrap ((l.length : Int) + i) = l.length + i := IntWalk.i64_in _ (by omega)
      have w2 : IntKind.i64.wrap ((m : Int) - 1) = m - 1 := IntWalk.i64_in _ (by omega)
      have w3 : IntKind.i64.wrap ((m : Int) - 1 - i) = m - 1 - i := IntWalk.i64_in _ (by omega)
      have w4 : IntKind.i64.wrap (8 * ((m : Int) - 1 - i)) = 8 * (m - 1 - i) := IntWalk.i64_in _ (by omega)
      have w5 : i < m → 0 ≤ IntKind.i64.wrap (8 * IntKind.i64.wrap (IntKind.i64.wrap ((m : Int) - 1) - i)) := fun _ => by rw [w2, w3, w4]; omega
      repeat' (first | (apply And.intro <;> intro hc <;> (first | exact Bool.noConfusion hc | (simp only [decide_eq_true_eq, decide_eq_false_iff_not, Bool.not_eq_true', Bool.not_eq_false', beq_iff_eq, beq_eq_false_iff_ne, bne_iff_ne, bne_eq_false_iff_eq, Bool.true_eq_false, Bool.false_eq_true] at hc) | skip)) | (refine And.intro (by first | exact trivial | decide | omega | (dsimp only; omega) | exact fun _ _ => rfl) ?_) | (apply And.intro) | (intro s hs))
      all_goals first
        | exact w5 (by omega)
        | omega
        | skip
      · refine ⟨⟨i + 1, by omega⟩, [], by dsimp only <;> omega, rfl, ?_, ?_⟩
        · repeat' (first | exact trivial | exact rfl | exact leF_ptr rfl | exact leF_int rfl | exact leF_bool rfl | exact leF_cl (cl_slB _ _) | exact leF_cl (cl_slR _ _) | exact leF_cl (cl_ll _ _) | exact leF_c (leC_os rfl rfl) | refine leF_int ?_ | refine leF_bool ?_ | exact leN_varA (fun _ _ => (Elem.flat _ _ _).le) | exact leN_varA (fun _ _ => leC_top) | apply And.intro)
          first | (dsimp only; rw [IntWalk.i64_in _ (by omega)]; omega) | (dsimp only; rw [IntWalk.i64_in _ (by omega)]; done) | (dsimp only; exact IntWalk.i64_in _ (by omega)) | exact IntWalk.i64_in _ (by omega) | (rw [IntWalk.i64_in _ (by omega)]; omega)
        · repeat' (first | exact trivial | exact rfl | exact leF_ptr rfl | exact leF_int rfl | exact leF_bool rfl | exact leF_cl (cl_slB _ _) | exact leF_cl (cl_slR _ _) | exact leF_cl (cl_ll _ _) | exact leF_c (leC_os rfl rfl) | refine leF_int ?_ | refine leF_bool ?_ | exact leN_varA (fun _ _ => (Elem.flat _ _ _).le) | exact leN_varA (fun _ _ => leC_top) | apply And.intro)
          show LeN _ _ (ents eB _ (fillL l m v (i + 1)))
          rw [fillL_step l m v i (by omega)]
          have hidx : 0 + (IntKind.i64.wrap ((l.length : Int) + i)).toNat = l.length + i := by rw [w1]; omega
          rw [hidx]
          refine leN_set rfl (by omega) (fun i _ j _ => (Elem.flat _ _ _).le) fun j hj => leC_int ?_
          unfold byteM
          rw [w2, w3, w4]
      · have him : i = m := by omega
        subst him
        refine ⟨⟨some 40, leF_c (leC_os rfl hlen.symm), leN_ents⟩⟩
    · refine ⟨rfl, ?_, ?_⟩
      · repeat' (first | exact trivial | exact rfl | exact leF_ptr rfl | exact leF_int rfl | exact leF_bool rfl | exact leF_cl (cl_slB _ _) | exact leF_cl (cl_slR _ _) | exact leF_cl (cl_ll _ _) | exact leF_c (leC_os rfl rfl) | refine leF_int ?_ | refine leF_bool ?_ | exact leN_varA (fun _ _ => (Elem.flat _ _ _).le) | exact leN_varA (fun _ _ => leC_top) | apply And.intro)
        exact leF_c (leC_os rfl (by rw [em]; omega))
      · repeat' (first | exact trivial | exact rfl | exact leF_ptr rfl | exact leF_int rfl | exact leF_bool rfl | exact leF_cl (cl_slB _ _) | exact leF_cl (cl_slR _ _) | exact leF_cl (cl_ll _ _) | exact leF_c (leC_os rfl rfl) | refine leF_int ?_ | refine leF_bool ?_ | exact leN_varA (fun _ _ => (Elem.flat _ _ _).le) | exact leN_varA (fun _ _ => leC_top) | apply And.intro)
        show LeN _ _ (ents eB _ (l ++ (List.map (byteM v m) (List.range 0) ++ List.replicate (m - 0) 0)))
        rw [em]
        refine leN_app (E := eB) ?_ (fun i hi j hj => ?_) fun i hi j hj => ?_
        · rw [List.length_append, List.length_map, List.length_range, List.length_replicate]; omega
        · refine selC_in (rng_in ⟨by omega, ?_⟩) (leC_int (by first | rfl | rw [Nat.sub_zero]))
          rw [show ((l.length : Int) + m).toNat = l.length + m by omega, hmin]; omega
        · refine selC_out (rng_out (.inr ?_)) ?_
          · rw [show ((l.length : Int) + m).toNat = l.length + m by omega, hmin]; omega
          · obtain rfl : j = 0 := by have : j < 1 := hj; omega
            refine leC_int ?_
            show (0 : Int) = (List.replicate (m - 0) (0 : Int)).getD i default
            have hi' : i < m := by
              have h := hi
              rw [List.length_append, List.length_map, List.length_range, List.length_replicate] at h
              omega
            rw [List.getD_eq_getElem?_getD, List.getElem?_replicate, if_pos (by omega)]; rfl
  · have hspec : l ++ beB v n = l := by unfold beB; rw [if_neg hr]; simp
    rw [hspec]
    clear hspec
    have em : IntKind.i64.wrap ((l.length : Int) + 0) = l.length := by rw [Int.add_zero]; exact IntWalk.i64_in _ (by omega)
    have em2 : (IntKind.i64.wrap ((l.length : Int) + 0)).toNat = l.length := by omega
    refine new_intro (wd := 1) (Q := mkQ LE0) (by decide) tysOk (q_of LE0_ok) mixed Try.func33 rfl _ (by show 3 ≤ _; decide) (fun i _ j _ => row_nf eB _ i j) ?_
    repeat' (first | (apply And.intro <;> intro hc <;> (first | exact Bool.noConfusion hc | (simp only [decide_eq_true_eq, decide_eq_false_iff_not, Bool.not_eq_true', Bool.not_eq_false', beq_iff_eq, beq_eq_false_iff_ne, bne_iff_ne, bne_eq_false_iff_eq, Bool.true_eq_false, Bool.false_eq_true] at hc) | skip)) | (refine And.intro (by first | exact trivial | decide | omega | (dsimp only; omega) | exact fun _ _ => rfl) ?_) | (apply And.intro) | (intro s hs))
    all_goals first
      | (exfalso; omega)
      | (rw [Int.natCast_one, Int.one_mul]; omega)
      | omega
      | skip
    all_goals
      refine loop_intro (mono_of LE0_ok) (fun s : Unit => (⟨[(7, one (.os 40 0 l.length)), (23, one (.int .i64 0)), (24, one (.int .i64 0))], [(40, some (ents eB 5 l))], 41⟩ : Hd)) (fun s => 0) (fun _ => rfl) ?_ () [(40, some 12)] ?_
      · rintro ⟨⟩
        repeat' (first | (apply And.intro <;> intro hc <;> (first | exact Bool.noConfusion hc | (simp only [decide_eq_true_eq, decide_eq_false_iff_not, Bool.not_eq_true', Bool.not_eq_false', beq_iff_eq, beq_eq_false_iff_ne, bne_iff_ne, bne_eq_false_iff_eq, Bool.true_eq_false, Bool.false_eq_true] at hc) | skip)) | (refine And.intro (by first | exact trivial | decide | omega | (dsimp only; omega) | exact fun _ _ => rfl) ?_) | (apply And.intro) | (intro s hs))
        exact ⟨⟨some 40, leF_c (leC_os rfl rfl), leN_ents⟩⟩
      · refine ⟨rfl, ?_, ?_⟩
        · repeat' (first | exact trivial | exact rfl | exact leF_ptr rfl | exact leF_int rfl | exact leF_bool rfl | exact leF_cl (cl_slB _ _) | exact leF_cl (cl_slR _ _) | exact leF_cl (cl_ll _ _) | exact leF_c (leC_os rfl rfl) | refine leF_int ?_ | refine leF_bool ?_ | exact leN_varA (fun _ _ => (Elem.flat _ _ _).le) | exact leN_varA (fun _ _ => leC_top) | apply And.intro)
          exact leF_c (leC_os rfl em2)
        · repeat' (first | exact trivial | exact rfl | exact leF_ptr rfl | exact leF_int rfl | exact leF_bool rfl | exact leF_cl (cl_slB _ _) | exact leF_cl (cl_slR _ _) | exact leF_cl (cl_ll _ _) | exact leF_c (leC_os rfl rfl) | refine leF_int ?_ | refine leF_bool ?_ | exact leN_varA (fun _ _ => (Elem.flat _ _ _).le) | exact leN_varA (fun _ _ => leC_top) | apply And.intro)
          rw [em]
          refine leN_row (by omega) fun i hi j hj => ?_
          refine selC_in (rng_in ⟨by omega, ?_⟩) (leC_int (by first | rfl | rw [Nat.sub_zero]))
          rw [show ((l.length : Nat) : Int).toNat = l.length by omega, show Nat.min l.length l.length = l.length from Nat.min_self _]; omega
abbrev appA : AC (List Int × Int × Int × Unit) := AC.cons (cSl eB eB_sz) (AC.cons (cI .u64) (AC.cons (cI .i64) AC.nil))
abbrev oappE : Entry := newE appA (fun a => a.1.length ≤ 70368744177664) (fun a => a.1 ++ beB a.2.1 a.2.2.1) (fun L => some L.length) (fun _ => none) (fun L => ents eB 5 L)
theorem oappE_ok : EntOk Try.prog 33 oappE := newE_ok ⟨_, Try.func33, rfl, by kernel_rfl⟩ (fun s l h => by cases h) fun a h => oapp_ok a.1 a.2.1 a.2.2.1 h
set_option maxHeartbeats 4000000 in
set_option maxRecDepth 20000 in
theorem rapp_ok (l : List Int) (v n : Int) (hl : l.length ≤ 70368744177664) :
    NewOk Try.prog 60 [(cSl eB eB_sz).enc l, (cI .u64).enc v, (cI .i64).enc n] (some (l ++ beB v n).length) none (ents eB 5 (l ++ beB v n)) := by
  by_cases hr : 0 ≤ n ∧ n ≤ 8
  · obtain ⟨m, rfl⟩ : ∃ m : Nat, n = m := ⟨n.toNat, by omega⟩
    have hm8 : m ≤ 8 := by omega
    have hspec : l ++ beB v m = l ++ beM v m := by
      rw [beM_eq v m hm8]
      unfold beB
      rw [if_pos hr]; rfl
    rw [hspec]
    clear hspec
    have em : IntKind.i64.wrap ((m : Int) - 1) = m - 1 := IntWalk.i64_in _ (by omega)
    refine new_intro (wd := 1) (Q := mkQ LE0) (by decide) tysOk (q_of LE0_ok) mixed Try.func60 rfl _ (by show 3 ≤ _; decide) (fun i _ j _ => row_nf eB _ i j) ?_
    repeat' (first | (apply And.intro <;> intro hc <;> (first | exact Bool.noConfusion hc | (simp only [decide_eq_true_eq, decide_eq_false_iff_not, Bool.not_eq_true', Bool.not_eq_false', beq_iff_eq, beq_eq_false_iff_ne, bne_iff_ne, bne_eq_false_iff_eq, Bool.true_eq_false, Bool.false_eq_true] at hc) | skip)) | (refine And.intro (by first | exact trivial | decide | omega | (dsimp only; omega) | exact fun _ _ => rfl) ?_) | (apply And.intro) | (intro s hs))
    all_goals first
      | (exfalso; omega)
      | (rw [Int.natCast_one, Int.one_mul]; omega)
      | omega
      | skip
    refine loop_intro (mono_of LE0_ok) (fun s : {k : Nat // k ≤ m} => (⟨[(1, one (.int .u64 v)), (7, one (.os 40 0 (l ++ (List.range s.1).map (byteM v m)).length)), (8, one (.int .i64 ((m : Int) - 1 - (s.1 : Int))))],
      [(40, some (ents eB 5 (l ++ (List.range s.1).map (byteM v m))))], 41⟩ : Hd)) (fun s => m - s.1) (fun _ => rfl) ?_ ⟨0, by omega⟩ [(40, some 3)] ?_
    · rintro ⟨k, hk⟩
      dsimp only at hk ⊢
      have hlen : (l ++ (List.range k).map (byteM v m)).length = l.length + k := by simp
      obtain ⟨L, hL⟩ : ∃ L, L = l ++ (List.range k).map (byteM v m) := ⟨_, rfl⟩
      rw [← hL] at hlen ⊢
      have w1 : 0 ≤ (m : Int) - 1 - k → IntKind.u64.wrap ((m : Int) - 1 - k) = m - 1 - k := fun _ => IntWalk.u64_in _ (by omega)
      have w2 : 0 ≤ (m : Int) - 1 - k → IntKind.u64.wrap (8 * ((m : Int) - 1 - k)) = 8 * (m - 1 - k) := fun _ => IntWalk.u64_in _ (by omega)
      have w3 : 0 ≤ (m : Int) - 1 - k → IntKind.i64.wrap ((m : Int) - 1 - k - 1) = m - 1 - (k + 1) := fun _ => by rw [IntWalk.i64_in _ (by omega)]; omega
      have w4 : 0 ≤ (m : Int) - 1 - k → 0 ≤ IntKind.u64.wrap (8 * IntKind.u64.wrap ((m : Int) - 1 - k)) := fun h => by rw [w1 h, w2 h]; omega
      repeat' (first | (apply And.intro <;> intro hc <;> (first | exact Bool.noConfusion hc | (simp only [decide_eq_true_eq, decide_eq_false_iff_not, Bool.not_eq_true', Bool.not_eq_false', beq_iff_eq, beq_eq_false_iff_ne, bne_iff_ne, bne_eq_false_iff_eq, Bool.true_eq_false, Bool.false_eq_true] at hc) | skip)) | (refine And.intro (by first | exact trivial | decide | omega | (dsimp only; omega) | exact fun _ _ => rfl) ?_) | (apply And.intro) | (intro s hs))
      all_goals first
        | exact w4 (by assumption)
        | (rw [Int.natCast_one, Int.one_mul]; omega)
        | omega
        | skip
      · have hc' : 0 ≤ (m : Int) - 1 - k := hc
        have eL : l ++ (List.range (k + 1)).map (byteM v m) = L ++ [byteM v m k] := by rw [List.range_succ, List.map_append, ← List.append_assoc, ← hL]; rfl
        refine ⟨⟨k + 1, by omega⟩, [(40, some 51)], by dsimp only <;> omega, rfl, ?_, ?_⟩
        · repeat' (first | exact trivial | exact rfl | exact leF_ptr rfl | exact leF_int rfl | exact leF_bool rfl | exact leF_cl (cl_slB _ _) | exact leF_cl (cl_slR _ _) | exact leF_cl (cl_ll _ _) | exact leF_c (leC_os rfl rfl) | refine leF_int ?_ | refine leF_bool ?_ | exact leN_varA (fun _ _ => (Elem.flat _ _ _).le) | exact leN_varA (fun _ _ => leC_top) | apply And.intro)
          · rw [eL]
            exact leF_c (leC_os rfl (by simp))
          · exact (w3 hc').trans (by dsimp only; omega)
        · repeat' (first | exact trivial | exact rfl | exact leF_ptr rfl | exact leF_int rfl | exact leF_bool rfl | exact leF_cl (cl_slB _ _) | exact leF_cl (cl_slR _ _) | exact leF_cl (cl_ll _ _) | exact leF_c (leC_os rfl rfl) | refine leF_int ?_ | refine leF_bool ?_ | exact leN_varA (fun _ _ => (Elem.flat _ _ _).le) | exact leN_varA (fun _ _ => leC_top) | apply And.intro)
          show LeN _ _ (ents eB _ (l ++ (List.range (k + 1)).map (byteM v m)))
          rw [eL]
          refine leN_snoc (E := eB) (L := L) (x := byteM v m k) rfl (fun i hi j hj => selC_in (Nat.ble_eq_true_of_le hi) (Elem.flat _ _ _).le) ?_
          refine ⟨trivial, ?_⟩
          refine selC_out (blt_self _) ?_
          rw [Nat.sub_self]
          refine leC_int ?_
          unfold byteM
          rw [w1 hc', w2 hc']; rfl
      · have hkm : k = m := by omega
        subst hkm
        rw [hL]
        exact ⟨⟨some 40, leF_c (leC_os rfl rfl), leN_ents⟩⟩
    · refine ⟨rfl, ?_, ?_⟩
      · repeat' (first | exact trivial | exact rfl | exact leF_ptr rfl | exact leF_int rfl | exact leF_bool rfl | exact leF_cl (cl_slB _ _) | exact leF_cl (cl_slR _ _) | exact leF_cl (cl_ll _ _) | exact leF_c (leC_os rfl rfl) | refine leF_int ?_ | refine leF_bool ?_ | exact leN_varA (fun _ _ => (Elem.flat _ _ _).le) | exact leN_varA (fun _ _ => leC_top) | apply And.intro)
        · exact leF_c (leC_os rfl (by simp))
        · exact em.trans (by dsimp only; omega)
      · repeat' (first | exact trivial | exact rfl | exact leF_ptr rfl | exact leF_int rfl | exact leF_bool rfl | exact leF_cl (cl_slB _ _) | exact leF_cl (cl_slR _ _) | exact leF_cl (cl_ll _ _) | exact leF_c (leC_os rfl rfl) | refine leF_int ?_ | refine leF_bool ?_ | exact leN_varA (fun _ _ => (Elem.flat _ _ _).le) | exact leN_varA (fun _ _ => leC_top) | apply And.intro)
        show LeN _ _ (ents eB _ (l ++ []))
        rw [List.append_nil]
        refine leN_row (by simp) fun i hi j hj => ?_
        refine selC_out (blt_zero _) ?_
        rw [Nat.sub_zero]
        exact leC_cell (E := eB) (by simp)
  · have hspec : l ++ beB v n = l := by unfold beB; rw [if_neg hr]; simp
    rw [hspec]
    clear hspec
    refine new_intro (wd := 1) (Q := mkQ LE0) (by decide) tysOk (q_of LE0_ok) mixed Try.func60 rfl _ (by show 3 ≤ _; decide) (fun i _ j _ => row_nf eB _ i j) ?_
    repeat' (first | (apply And.intro <;> intro hc <;> (first | exact Bool.noConfusion hc | (simp only [decide_eq_true_eq, decide_eq_false_iff_not, Bool.not_eq_true', Bool.not_eq_false', beq_iff_eq, beq_eq_false_iff_ne, bne_iff_ne, bne_eq_false_iff_eq, Bool.true_eq_false, Bool.false_eq_true] at hc) | skip)) | (refine And.intro (by first | exact trivial | decide | omega | (dsimp only; omega) | exact fun _ _ => rfl) ?_) | (apply And.intro) | (intro s hs))
    all_goals first
      | (exfalso; omega)
      | (rw [Int.natCast_one, Int.one_mul]; omega)
      | omega
      | skip
    all_goals
      refine ⟨⟨some 3, leF_c (leC_os rfl (Nat.zero_add _)), leN_row (Nat.zero_add _) fun i hi j hj => ?_⟩⟩
      refine selC_out (blt_zero _) ?_
      rw [Nat.sub_zero]
      exact (eB.flat _ _).le
theorem rappE_ok : EntOk Try.prog 60 oappE := newE_ok ⟨_, Try.func60, rfl, by kernel_rfl⟩ (fun s l h => by cases h) fun a h => rapp_ok a.1 a.2.1 a.2.2.1 h
/-! ### Uint -/
theorem shl8 (x : Int) (h : 0 ≤ x ∧ x < 72057594037927936) : shlI .u64 x 8 = x * 256 := by
  unfold shlI
  rw [show min (8 : Int).toNat (IntKind.bits .u64) = 8 from rfl]
  exact IntWalk.u64_in _ (by omega)
theorem beVal_from : ∀ (l : List Int) (a : Int), BL l → 0 ≤ a → a * 256 ^ l.length ≤ l.foldl (fun a c => a * 256 + c) a ∧ l.foldl (fun a c => a * 256 + c) a < (a + 1) * 256 ^ l.length := by
  intro l
  induction l with
  | nil => intro a _ h; simp; omega
  | cons c l ih =>
    intro a h ha
    have hc := h.m c (by simp)
    obtain ⟨h1, h2⟩ := ih (a * 256 + c) ⟨fun x hx => h.m x (by simp [hx])⟩ (by omega)
    rw [List.foldl_cons, List.length_cons, Int.pow_succ, Int.mul_comm (256 ^ l.length) 256, ← Int.mul_assoc, ← Int.mul_assoc]
    have hp : (0 : Int) ≤ 256 ^ l.length := Int.le_of_lt (Int.pow_pos (by omega))
    have h3 := Int.mul_le_mul_of_nonneg_right (show a * 256 ≤ a * 256 + c by omega) hp
    have h4 := Int.mul_le_mul_of_nonneg_right (show a * 256 + c + 1 ≤ (a + 1) * 256 by omega) hp
    omega
theorem beVal_lt (l : List Int) (h : BL l) : 0 ≤ beVal l ∧ beVal l < 256 ^ l.length := by
  have := beVal_from l 0 h (Int.le_refl _)
  unfold beVal
  simp only [Int.zero_mul, Int.zero_add, Int.one_mul] at this
  exact this
theorem pow256_le {k n : Nat} (h : k ≤ n) : (256 : Int) ^ k ≤ 256 ^ n := by
  obtain ⟨d, rfl⟩ : ∃ d, n = k + d := ⟨n - k, by omega⟩
  rw [Int.pow_add]
  have h1 : (0 : Int) < 256 ^ k := Int.pow_pos (by omega)
  have h2 : (0 : Int) < 256 ^ d := Int.pow_pos (by omega)
  have := Int.mul_le_mul_of_nonneg_left (show (1 : Int) ≤ 256 ^ d by omega) (Int.le_of_lt h1)
  omega
theorem or8 (x c : Int) (hx : 0 ≤ x ∧ x < 72057594037927936) (hc : 0 ≤ c ∧ c < 256) : bits .or .u64 (shlI .u64 x 8) (IntKind.u64.wrap c) = x * 256 + c := by
  rw [shl8 x hx, show IntKind.u64.wrap c = c from IntWalk.u64_in _ (by omega), u64_or _ _ (by omega) (by omega) (by omega) (by omega)]
  rw [nat_join 8 _ _ (by omega) (by omega)]
  omega
/-- Uint: 1.2. -/
def uintF (b : List Int) (at_ n : Int) : Int × Bool := if 1 ≤ n ∧ n ≤ 8 ∧ 0 ≤ at_ ∧ at_ ≤ b.length - n then (beVal ((b.drop at_.toNat).take n.toNat), true) else (0, false)
def encUB (r : Int × Bool) : FV := .tup [.c (.int .u64 r.1), .c (.bool r.2)]
theorem getD_dt (b : List Int) (a n k : Nat) (hk : k < n) (h : a + n ≤ b.length) : ((b.drop a).take n).getD k default = b.getD (a + k) default := by
  rw [List.getD_eq_getElem?_getD, List.getD_eq_getElem?_getD, List.getElem?_take, if_pos hk, List.getElem?_drop]
theorem take_snocI {l : List Int} {k : Nat} (h : k < l.length) : l.take (k + 1) = l.take k ++ [l.getD k default] := by
  rw [List.take_succ_eq_append_getElem h, List.getD_eq_getElem?_getD, List.getElem?_eq_getElem h]; rfl
set_option maxHeartbeats 4000000 in
set_option maxRecDepth 20000 in
theorem ouint_ok (b : List Int) (a n : Int) (hb : BL b) (hl : b.length ≤ 140737488355328) :
    PureOk Try.prog 47 [(cSl eB eB_sz).enc b, (cI .i64).enc a, (cI .i64).enc n] (encUB (uintF b a n)) := by
  by_cases hr : 1 ≤ n ∧ n ≤ 8 ∧ 0 ≤ a ∧ a ≤ b.length - n
  · obtain ⟨m, rfl⟩ : ∃ m : Nat, n = m := ⟨n.toNat, by omega⟩
    obtain ⟨p, rfl⟩ : ∃ p : Nat, a = p := ⟨a.toNat, by omega⟩
    obtain ⟨w, hw⟩ : ∃ w, w = (b.drop p).take m := ⟨_, rfl⟩
    have hwl : w.length = m := by rw [hw]; simp; omega
    have hwB : BL w := by rw [hw]; exact (hb.drop p).take m
    have hsp : uintF b p m = (beVal w, true) := by unfold uintF; rw [if_pos hr, hw]; rfl
    rw [hsp]
    have e1 : IntKind.i64.wrap ((b.length : Int) - m) = b.length - m := IntWalk.i64_in _ (by omega)
    have e2 : IntKind.i64.wrap ((p : Int) + m) = p + m := IntWalk.i64_in _ (by omega)
    have e3 : (IntKind.i64.wrap ((p : Int) + m)).toNat - (p : Int).toNat = m := by omega
    refine pure_intro (wd := 1) (Q := mkQ LE0) (by decide) tysOk (q_of LE0_ok) mixed Try.func47 rfl _ (by show 3 ≤ _; decide) _ ?_
    repeat' (first | (apply And.intro <;> intro hc <;> (first | exact Bool.noConfusion hc | (simp only [decide_eq_true_eq, decide_eq_false_iff_not, Bool.not_eq_true', Bool.not_eq_false', beq_iff_eq, beq_eq_false_iff_ne, bne_iff_ne, bne_eq_false_iff_eq, Bool.true_eq_false, Bool.false_eq_true] at hc) | skip)) | (refine And.intro (by first | exact trivial | decide | omega | (dsimp only; omega) | exact fun _ _ => rfl) ?_) | (apply And.intro) | (intro s hs))
    all_goals first
      | (exfalso; omega)
      | omega
      | skip
    refine loop_intro (mono_of LE0_ok) (fun s : {k : Nat // k ≤ m} => (⟨[(8, one (.int .u64 (beVal (w.take s.1)))), (34, one (.sl false w.length eB.sz (rowF eB w))), (35, one (.int .i64 m)), (36, one (.int .i64 (s.1 : Int)))], [], 0⟩ : Hd)) (fun s => m - s.1) (fun _ => rfl) ?_ ⟨0, by omega⟩ [] ?_
    · rintro ⟨k, hk⟩
      dsimp only at hk ⊢
      have hv := beVal_lt (w.take k) (hwB.take k)
      repeat' (first | (apply And.intro <;> intro hc <;> (first | exact Bool.noConfusion hc | (simp only [decide_eq_true_eq, decide_eq_false_iff_not, Bool.not_eq_true', Bool.not_eq_false', beq_iff_eq, beq_eq_false_iff_ne, bne_iff_ne, bne_eq_false_iff_eq, Bool.true_eq_false, Bool.false_eq_true] at hc) | skip)) | (refine And.intro (by first | exact trivial | decide | omega | (dsimp only; omega) | exact fun _ _ => rfl) ?_) | (apply And.intro) | (intro s hs))
      all_goals first
        | omega
        | skip
      · have hc' : k < m := by omega
        have hx := hwB.get k
        refine ⟨⟨k + 1, by omega⟩, [], by dsimp only <;> omega, rfl, ?_, ?_⟩
        · repeat' (first | exact trivial | exact rfl | exact leF_ptr rfl | exact leF_int rfl | exact leF_bool rfl | exact leF_cl (cl_slB _ _) | exact leF_cl (cl_slR _ _) | exact leF_cl (cl_ll _ _) | exact leF_c (leC_os rfl rfl) | refine leF_int ?_ | refine leF_bool ?_ | exact leN_varA (fun _ _ => (Elem.flat _ _ _).le) | exact leN_varA (fun _ _ => leC_top) | apply And.intro)
          · have hp := pow256_le (show (w.take k).length ≤ 7 by simp; omega)
            refine (or8 _ _ ⟨hv.1, by omega⟩ hx).trans ?_
            show _ = beVal (w.take (k + 1))
            rw [take_snocI (by omega), beVal_snoc]
            try rfl
          · first | (dsimp only; rw [IntWalk.i64_in _ (by omega)]; omega) | (dsimp only; rw [IntWalk.i64_in _ (by omega)]; done) | (dsimp only; exact IntWalk.i64_in _ (by omega)) | exact IntWalk.i64_in _ (by omega) | (rw [IntWalk.i64_in _ (by omega)]; omega)
        · repeat' (first | exact trivial | exact rfl | exact leF_ptr rfl | exact leF_int rfl | exact leF_bool rfl | exact leF_cl (cl_slB _ _) | exact leF_cl (cl_slR _ _) | exact leF_cl (cl_ll _ _) | exact leF_c (leC_os rfl rfl) | refine leF_int ?_ | refine leF_bool ?_ | exact leN_varA (fun _ _ => (Elem.flat _ _ _).le) | exact leN_varA (fun _ _ => leC_top) | apply And.intro)
      · refine Done.mk (leF_tup ?_)
        have hkm : k = m := by omega
        refine ⟨leE_c (leC_int ?_), leE_c (leC_bool rfl), trivial⟩
        show beVal (w.take k) = beVal w
        rw [List.take_of_length_le (by omega)]
    · refine ⟨rfl, ?_, ?_⟩
      · repeat' (first | exact trivial | exact rfl | exact leF_ptr rfl | exact leF_int rfl | exact leF_bool rfl | exact leF_cl (cl_slB _ _) | exact leF_cl (cl_slR _ _) | exact leF_cl (cl_ll _ _) | exact leF_c (leC_os rfl rfl) | refine leF_int ?_ | refine leF_bool ?_ | exact leN_varA (fun _ _ => (Elem.flat _ _ _).le) | exact leN_varA (fun _ _ => leC_top) | apply And.intro)
        · refine leF_c (leC_sl (fun h => by cases h) ?_ rfl fun i hi j hj => ?_)
          · rw [hwl]; exact e3
          · refine leC_cell (E := eB) ?_
            rw [hw, getD_dt _ _ _ _ (by omega) (by omega)]; rfl
        · show ((_ : Nat) : Int) = m
          rw [e3]
      · repeat' (first | exact trivial | exact rfl | exact leF_ptr rfl | exact leF_int rfl | exact leF_bool rfl | exact leF_cl (cl_slB _ _) | exact leF_cl (cl_slR _ _) | exact leF_cl (cl_ll _ _) | exact leF_c (leC_os rfl rfl) | refine leF_int ?_ | refine leF_bool ?_ | exact leN_varA (fun _ _ => (Elem.flat _ _ _).le) | exact leN_varA (fun _ _ => leC_top) | apply And.intro)
  · have hsp : uintF b a n = (0, false) := by unfold uintF; rw [if_neg hr]
    rw [hsp]
    have e1 : 1 ≤ n → n ≤ 8 → IntKind.i64.wrap ((b.length : Int) - n) = b.length - n := fun _ _ => IntWalk.i64_in _ (by omega)
    refine pure_intro (wd := 1) (Q := mkQ LE0) (by decide) tysOk (q_of LE0_ok) mixed Try.func47 rfl _ (by show 3 ≤ _; decide) _ ?_
    repeat' (first | (apply And.intro <;> intro hc <;> (first | exact Bool.noConfusion hc | (simp only [decide_eq_true_eq, decide_eq_false_iff_not, Bool.not_eq_true', Bool.not_eq_false', beq_iff_eq, beq_eq_false_iff_ne, bne_iff_ne, bne_eq_false_iff_eq, Bool.true_eq_false, Bool.false_eq_true] at hc) | skip)) | (refine And.intro (by first | exact trivial | decide | omega | (dsimp only; omega) | exact fun _ _ => rfl) ?_) | (apply And.intro) | (intro s hs))
    all_goals first
      | exact Done.mk (leF_tup ⟨leE_c (leC_int rfl), leE_c (leC_bool rfl), trivial⟩)
      | (exfalso; have := e1 (by omega) (by omega); omega)
abbrev uintA : AC (List Int × Int × Int × Unit) := AC.cons (cSl eB eB_sz) (AC.cons (cI .i64) (AC.cons (cI .i64) AC.nil))
abbrev uintE : Entry := pureE uintA (fun a => BL a.1 ∧ a.1.length ≤ 140737488355328) (fun a => uintF a.1 a.2.1 a.2.2.1) encUB
theorem ouintE_ok : EntOk Try.prog 47 uintE := pureE_ok ⟨_, Try.func47, rfl, by kernel_rfl⟩ fun a h => ouint_ok a.1 a.2.1 a.2.2.1 h.1 h.2
set_option maxHeartbeats 4000000 in
set_option maxRecDepth 20000 in
theorem ruint_ok (b : List Int) (a n : Int) (hb : BL b) (hl : b.length ≤ 140737488355328) :
    PureOk Try.prog 81 [(cSl eB eB_sz).enc b, (cI .i64).enc a, (cI .i64).enc n] (encUB (uintF b a n)) := by
  by_cases hr : 1 ≤ n ∧ n ≤ 8 ∧ 0 ≤ a ∧ a ≤ b.length - n
  · obtain ⟨m, rfl⟩ : ∃ m : Nat, n = m := ⟨n.toNat, by omega⟩
    obtain ⟨p, rfl⟩ : ∃ p : Nat, a = p := ⟨a.toNat, by omega⟩
    obtain ⟨w, hw⟩ : ∃ w, w = (b.drop p).take m := ⟨_, rfl⟩
    have hwl : w.length = m := by rw [hw]; simp; omega
    have hwB : BL w := by rw [hw]; exact (hb.drop p).take m
    have hsp : uintF b p m = (beVal w, true) := by unfold uintF; rw [if_pos hr, hw]; rfl
    rw [hsp]
    have e1 : IntKind.i64.wrap ((b.length : Int) - p) = b.length - p := IntWalk.i64_in _ (by omega)
    refine pure_intro (wd := 1) (Q := mkQ LE0) (by decide) tysOk (q_of LE0_ok) mixed Try.func81 rfl _ (by show 3 ≤ _; decide) _ ?_
    repeat' (first | (apply And.intro <;> intro hc <;> (first | exact Bool.noConfusion hc | (simp only [decide_eq_true_eq, decide_eq_false_iff_not, Bool.not_eq_true', Bool.not_eq_false', beq_iff_eq, beq_eq_false_iff_ne, bne_iff_ne, bne_eq_false_iff_eq, Bool.true_eq_false, Bool.false_eq_true] at hc) | skip)) | (refine And.intro (by first | exact trivial | decide | omega | (dsimp only; omega) | exact fun _ _ => rfl) ?_) | (apply And.intro) | (intro s hs))
    all_goals first
      | (exfalso; omega)
      | omega
      | skip
    refine loop_intro (mono_of LE0_ok) (fun s : {k : Nat // k ≤ m} => (⟨[(0, one (.sl false b.length eB.sz (rowF eB b))), (1, one (.int .i64 p)), (2, one (.int .i64 m)), (8, one (.int .u64 (beVal (w.take s.1)))), (9, one (.int .i64 (s.1 : Int)))], [], 0⟩ : Hd)) (fun s => m - s.1) (fun _ => rfl) ?_ ⟨0, by omega⟩ [] ?_
    · rintro ⟨k, hk⟩
      dsimp only at hk ⊢
      have hv := beVal_lt (w.take k) (hwB.take k)
      have hp := pow256_le (show (w.take k).length ≤ k by simp; omega)
      have e2 : IntKind.i64.wrap ((p : Int) + k) = p + k := IntWalk.i64_in _ (by omega)
      repeat' (first | (apply And.intro <;> intro hc <;> (first | exact Bool.noConfusion hc | (simp only [decide_eq_true_eq, decide_eq_false_iff_not, Bool.not_eq_true', Bool.not_eq_false', beq_iff_eq, beq_eq_false_iff_ne, bne_iff_ne, bne_eq_false_iff_eq, Bool.true_eq_false, Bool.false_eq_true] at hc) | skip)) | (refine And.intro (by first | exact trivial | decide | omega | (dsimp only; omega) | exact fun _ _ => rfl) ?_) | (apply And.intro) | (intro s hs))
      all_goals first
        | omega
        | skip
      · have hc' : k < m := by omega
        have hp7 := pow256_le (show k ≤ 7 by omega)
        have hx := hb.get (p + k)
        refine ⟨⟨k + 1, by omega⟩, [], by dsimp only <;> omega, rfl, ?_, ?_⟩
        · repeat' (first | exact trivial | exact rfl | exact leF_ptr rfl | exact leF_int rfl | exact leF_bool rfl | exact leF_cl (cl_slB _ _) | exact leF_cl (cl_slR _ _) | exact leF_cl (cl_ll _ _) | exact leF_c (leC_os rfl rfl) | refine leF_int ?_ | refine leF_bool ?_ | exact leN_varA (fun _ _ => (Elem.flat _ _ _).le) | exact leN_varA (fun _ _ => leC_top) | apply And.intro)
          · rw [e2, show ((p : Int) + k).toNat = p + k by omega]
            rw [shl8 _ ⟨hv.1, by omega⟩, show IntKind.u64.wrap (b.getD (p + k) default) = b.getD (p + k) default from IntWalk.u64_in _ (by omega), IntWalk.u64_in _ (by omega)]
            show _ = beVal (w.take (k + 1))
            rw [take_snocI (by omega), beVal_snoc, hw, getD_dt _ _ _ _ (by omega) (by omega)]
          · first | (dsimp only; rw [IntWalk.i64_in _ (by omega)]; omega) | (dsimp only; rw [IntWalk.i64_in _ (by omega)]; done) | (dsimp only; exact IntWalk.i64_in _ (by omega)) | exact IntWalk.i64_in _ (by omega) | (rw [IntWalk.i64_in _ (by omega)]; omega)
        · repeat' (first | exact trivial | exact rfl | exact leF_ptr rfl | exact leF_int rfl | exact leF_bool rfl | exact leF_cl (cl_slB _ _) | exact leF_cl (cl_slR _ _) | exact leF_cl (cl_ll _ _) | exact leF_c (leC_os rfl rfl) | refine leF_int ?_ | refine leF_bool ?_ | exact leN_varA (fun _ _ => (Elem.flat _ _ _).le) | exact leN_varA (fun _ _ => leC_top) | apply And.intro)
      · refine Done.mk (leF_tup ?_)
        have hkm : k = m := by omega
        refine ⟨leE_c (leC_int ?_), leE_c (leC_bool rfl), trivial⟩
        show beVal (w.take k) = beVal w
        rw [List.take_of_length_le (by omega)]
    · refine ⟨rfl, ?_, ?_⟩
      · repeat' (first | exact trivial | exact rfl | exact leF_ptr rfl | exact leF_int rfl | exact leF_bool rfl | exact leF_cl (cl_slB _ _) | exact leF_cl (cl_slR _ _) | exact leF_cl (cl_ll _ _) | exact leF_c (leC_os rfl rfl) | refine leF_int ?_ | refine leF_bool ?_ | exact leN_varA (fun _ _ => (Elem.flat _ _ _).le) | exact leN_varA (fun _ _ => leC_top) | apply And.intro)
      · repeat' (first | exact trivial | exact rfl | exact leF_ptr rfl | exact leF_int rfl | exact leF_bool rfl | exact leF_cl (cl_slB _ _) | exact leF_cl (cl_slR _ _) | exact leF_cl (cl_ll _ _) | exact leF_c (leC_os rfl rfl) | refine leF_int ?_ | refine leF_bool ?_ | exact leN_varA (fun _ _ => (Elem.flat _ _ _).le) | exact leN_varA (fun _ _ => leC_top) | apply And.intro)
  · have hsp : uintF b a n = (0, false) := by unfold uintF; rw [if_neg hr]
    rw [hsp]
    have e1 : 0 ≤ a → a ≤ b.length → IntKind.i64.wrap ((b.length : Int) - a) = b.length - a := fun _ _ => IntWalk.i64_in _ (by omega)
    refine pure_intro (wd := 1) (Q := mkQ LE0) (by decide) tysOk (q_of LE0_ok) mixed Try.func81 rfl _ (by show 3 ≤ _; decide) _ ?_
    repeat' (first | (apply And.intro <;> intro hc <;> (first | exact Bool.noConfusion hc | (simp only [decide_eq_true_eq, decide_eq_false_iff_not, Bool.not_eq_true', Bool.not_eq_false', beq_iff_eq, beq_eq_false_iff_ne, bne_iff_ne, bne_eq_false_iff_eq, Bool.true_eq_false, Bool.false_eq_true] at hc) | skip)) | (refine And.intro (by first | exact trivial | decide | omega | (dsimp only; omega) | exact fun _ _ => rfl) ?_) | (apply And.intro) | (intro s hs))
    all_goals first
      | exact Done.mk (leF_tup ⟨leE_c (leC_int rfl), leE_c (leC_bool rfl), trivial⟩)
      | (exfalso; have := e1 (by omega) (by omega); omega)
theorem ruintE_ok : EntOk Try.prog 81 uintE := pureE_ok ⟨_, Try.func81, rfl, by kernel_rfl⟩ fun a h => ruint_ok a.1 a.2.1 a.2.2.1 h.1 h.2
/-! ### Same -/
structure SmS (a b : List Int) where
  i : Nat
  hi : i ≤ a.length
  h : a.take i = b.take i
theorem take_eq_of {a b : List Int} {i : Nat} (h : a.take i = b.take i) (ha : i < a.length) (hl : a.length = b.length) : (a.getD i default = b.getD i default ↔ a.take (i + 1) = b.take (i + 1)) := by
  rw [take_snocI ha, take_snocI (by omega), h]
  constructor
  · intro e; rw [e]
  · intro e; simpa using e
set_option maxHeartbeats 4000000 in
set_option maxRecDepth 20000 in
theorem same_ok (a b : List Int) (hl : a.length ≤ 9223372036854775806) : PureOk Try.prog 15 [(cSl eB eB_sz).enc a, (cSl eB eB_sz).enc b] (cB.enc (decide (a = b))) := by
  by_cases hab : a.length = b.length
  · refine pure_intro (wd := 1) (Q := mkQ LE0) (by decide) tysOk (q_of LE0_ok) mixed Try.func15 rfl _ (by show 2 ≤ _; decide) _ ?_
    repeat' (first | (apply And.intro <;> intro hc <;> (first | exact Bool.noConfusion hc | (simp only [decide_eq_true_eq, decide_eq_false_iff_not, Bool.not_eq_true', Bool.not_eq_false', beq_iff_eq, beq_eq_false_iff_ne, bne_iff_ne, bne_eq_false_iff_eq, Bool.true_eq_false, Bool.false_eq_true] at hc) | skip)) | (refine And.intro (by first | exact trivial | decide | omega | (dsimp only; omega) | exact fun _ _ => rfl) ?_) | (apply And.intro) | (intro s hs))
    all_goals first
      | (exfalso; omega)
      | skip
    refine loop_intro (mono_of LE0_ok) (fun s : SmS a b => (⟨[(0, one (.sl false a.length eB.sz (rowF eB a))), (1, one (.sl false b.length eB.sz (rowF eB b))), (5, one (.int .i64 (s.i : Int)))], [], 0⟩ : Hd)) (fun s => a.length - s.i) (fun _ => rfl) ?_ ⟨0, by omega, rfl⟩ [] ?_
    · rintro ⟨i, hi, h⟩
      dsimp only at hi h ⊢
      repeat' (first | (apply And.intro <;> intro hc <;> (first | exact Bool.noConfusion hc | (simp only [decide_eq_true_eq, decide_eq_false_iff_not, Bool.not_eq_true', Bool.not_eq_false', beq_iff_eq, beq_eq_false_iff_ne, bne_iff_ne, bne_eq_false_iff_eq, Bool.true_eq_false, Bool.false_eq_true] at hc) | skip)) | (refine And.intro (by first | exact trivial | decide | omega | (dsimp only; omega) | exact fun _ _ => rfl) ?_) | (apply And.intro) | (intro s hs))
      all_goals first
        | omega
        | skip
      · refine Done.mk (leF_bool ?_)
        symm
        rw [decide_eq_false_iff_not]
        intro e
        subst e
        exact hc rfl
      · refine ⟨⟨i + 1, by omega, (take_eq_of h (by omega) hab).1 hc⟩, [], by dsimp only <;> omega, rfl, ?_, ?_⟩
        · repeat' (first | exact trivial | exact rfl | exact leF_ptr rfl | exact leF_int rfl | exact leF_bool rfl | exact leF_cl (cl_slB _ _) | exact leF_cl (cl_slR _ _) | exact leF_cl (cl_ll _ _) | exact leF_c (leC_os rfl rfl) | refine leF_int ?_ | refine leF_bool ?_ | exact leN_varA (fun _ _ => (Elem.flat _ _ _).le) | exact leN_varA (fun _ _ => leC_top) | apply And.intro)
          first | (dsimp only; rw [IntWalk.i64_in _ (by omega)]; omega) | (dsimp only; rw [IntWalk.i64_in _ (by omega)]; done) | (dsimp only; exact IntWalk.i64_in _ (by omega)) | exact IntWalk.i64_in _ (by omega) | (rw [IntWalk.i64_in _ (by omega)]; omega)
        · repeat' (first | exact trivial | exact rfl | exact leF_ptr rfl | exact leF_int rfl | exact leF_bool rfl | exact leF_cl (cl_slB _ _) | exact leF_cl (cl_slR _ _) | exact leF_cl (cl_ll _ _) | exact leF_c (leC_os rfl rfl) | refine leF_int ?_ | refine leF_bool ?_ | exact leN_varA (fun _ _ => (Elem.flat _ _ _).le) | exact leN_varA (fun _ _ => leC_top) | apply And.intro)
      · refine Done.mk (leF_bool ?_)
        symm
        rw [decide_eq_true_eq]
        rw [List.take_of_length_le (by omega), List.take_of_length_le (by omega)] at h
        exact h
    · refine ⟨rfl, ?_, ?_⟩
      · repeat' (first | exact trivial | exact rfl | exact leF_ptr rfl | exact leF_int rfl | exact leF_bool rfl | exact leF_cl (cl_slB _ _) | exact leF_cl (cl_slR _ _) | exact leF_cl (cl_ll _ _) | exact leF_c (leC_os rfl rfl) | refine leF_int ?_ | refine leF_bool ?_ | exact leN_varA (fun _ _ => (Elem.flat _ _ _).le) | exact leN_varA (fun _ _ => leC_top) | apply And.intro)
      · repeat' (first | exact trivial | exact rfl | exact leF_ptr rfl | exact leF_int rfl | exact leF_bool rfl | exact leF_cl (cl_slB _ _) | exact leF_cl (cl_slR _ _) | exact leF_cl (cl_ll _ _) | exact leF_c (leC_os rfl rfl) | refine leF_int ?_ | refine leF_bool ?_ | exact leN_varA (fun _ _ => (Elem.flat _ _ _).le) | exact leN_varA (fun _ _ => leC_top) | apply And.intro)
  · have e : decide (a = b) = false := by rw [decide_eq_false_iff_not]; intro e; rw [e] at hab; exact hab rfl
    rw [e]
    refine pure_intro (wd := 1) (Q := mkQ LE0) (by decide) tysOk (q_of LE0_ok) mixed Try.func15 rfl _ (by show 2 ≤ _; decide) _ ?_
    repeat' (first | (apply And.intro <;> intro hc <;> (first | exact Bool.noConfusion hc | (simp only [decide_eq_true_eq, decide_eq_false_iff_not, Bool.not_eq_true', Bool.not_eq_false', beq_iff_eq, beq_eq_false_iff_ne, bne_iff_ne, bne_eq_false_iff_eq, Bool.true_eq_false, Bool.false_eq_true] at hc) | skip)) | (refine And.intro (by first | exact trivial | decide | omega | (dsimp only; omega) | exact fun _ _ => rfl) ?_) | (apply And.intro) | (intro s hs))
    all_goals first
      | exact Done.mk (leF_bool rfl)
      | (exfalso; omega)
abbrev sameE : Entry := pureE (AC.cons (cSl eB eB_sz) (AC.cons (cSl eB eB_sz) AC.nil)) (fun a => a.1.length ≤ 9223372036854775806) (fun a => decide (a.1 = a.2.1)) cB.enc
theorem sameE_ok : EntOk Try.prog 15 sameE := pureE_ok ⟨_, Try.func15, rfl, by kernel_rfl⟩ fun a h => same_ok a.1 a.2.1 h
end Go.Proofs.Ythbhidfohdipnaa.AX

/- Arguments of the laws about packets: numbers of some kinds, byte strings. -/
namespace Go.Proofs.Ythbhidfohdipnaa.AX
open Go.RowKit
set_option linter.unusedVariables false
theorem wf_u8 {n : Int} (h : (Lit.int .u8 n).wf = true) : 0 ≤ n ∧ n < 256 := by
  simp [Lit.wf, IntKind.min, IntKind.max, IntKind.bits, IntKind.signed] at h
  omega
/-- A byte string as an argument. -/
theorem rowB_rel {w : World} {a : Option Addr} {len cap : Nat} {zs : List Int} (h : IsRow .u8 w a len cap zs) :
    (FV.e (.c (CV.sl true len 1 (rowF eB zs)))).rel (fun _ => none) (fun _ => False) (fun _ => False) w (.slice a len cap) := by
  rcases h with ⟨rfl, rfl, rfl, rfl⟩ | ⟨ad, rfl, hl, hm, hz, hcell, hwz⟩
  · exact ⟨none, 0, rfl, Nat.le_refl _, fun h => absurd h (Nat.lt_irrefl _)⟩
  · refine ⟨some ad, cap, rfl, hl, fun h0 => ?_⟩
    have h1 := hcell 0 (by omega)
    rw [add_zero_] at h1
    have hsp : ad.spot = none := spot_none h1
    refine ⟨ad, rfl, hsp, fun h => h, fun _ h => h, cell_lt h1, fun i hi j hj => ?_⟩
    have : j = 0 := by omega
    subst this
    have h2 := hcell i (by omega)
    rw [addS hsp] at h2
    exact ⟨_, by rw [show i * 1 + 0 = i by omega]; exact h2, rfl⟩
theorem rowB_all {w : World} {a : Option Addr} {len cap : Nat} {zs : List Int} (h : IsRow .u8 w a len cap zs) : (∀ z ∈ zs, 0 ≤ z ∧ z < 256) ∧ len ≤ zs.length ∧ len ≤ cap := by
  rcases h with ⟨rfl, rfl, rfl, rfl⟩ | ⟨ad, rfl, hl, hm, hz, hcell, hwz⟩
  · exact ⟨fun z hz => (by cases hz), Nat.le_refl _, Nat.le_refl _⟩
  · exact ⟨fun z hz => wf_u8 (hwz z hz), by omega, hl⟩
/-- The same, cut to its length. -/
theorem rowB_cut {w : World} {a : Option Addr} {len cap : Nat} {zs : List Int} (h : IsRow .u8 w a len cap zs) :
    ∃ b : List Int, BL b ∧ b.length = len ∧ (FV.e (.c (CV.sl true b.length 1 (rowF eB b)))).rel (fun _ => none) (fun _ => False) (fun _ => False) w (.slice a len cap) := by
  obtain ⟨h1, h2, h3⟩ := rowB_all h
  have e : (zs.take len).length = len := by rw [List.length_take]; omega
  refine ⟨zs.take len, ⟨fun x hx => h1 x (List.mem_of_mem_take hx)⟩, e, ?_⟩
  rw [e]
  have hr := rowB_rel h
  obtain ⟨x, cap', hv, c1, c2⟩ := hr
  refine ⟨x, cap', hv, c1, fun h0 => ?_⟩
  obtain ⟨ad, g1, g2, g3, g4, g5, g6⟩ := c2 h0
  refine ⟨ad, g1, g2, g3, g4, g5, fun i hi j hj => ?_⟩
  obtain ⟨u, k1, k2⟩ := g6 i hi j hj
  refine ⟨u, k1, ?_⟩
  have e2 : rowF eB (zs.take len) i j = rowF eB zs i j := by
    unfold rowF
    rw [List.getD_eq_getElem?_getD, List.getD_eq_getElem?_getD, List.getElem?_take, if_pos hi]
  rw [e2]; exact k2
end Go.Proofs.Ythbhidfohdipnaa.AX

/- Arguments of laws that are nested: structs, arrays and slices within one another, of numbers and truth values, as values of AX2. -/
namespace Go.Proofs.Ythbhidfohdipnaa
open Go.ChangeShapes Go.WideShapes Go.RowKit AX
set_option linter.unusedVariables false
/-- What a cell holds: a number or a truth value, or a slice whose elements have cells of these shapes. -/
inductive Sh where
  | c (k : Option IntKind)
  | s (e : List Sh)
instance : Inhabited Sh := ⟨.c none⟩
def shFs (P : Program) (g : TypeId → Option (List Sh)) : List Field → Nat → Option (List Sh)
  | [], _ => some []
  | fd :: rest, off =>
    match g fd.type with
    | some l => bif Nat.beq fd.offset off && Nat.beq (P.cellsOf fd.type) l.length then (shFs P g rest (off + l.length)).map (l ++ ·) else none
    | none => none
def shOf (P : Program) : Nat → TypeId → Option (List Sh)
  | 0, _ => none
  | f + 1, t =>
    match P.underlying t with
    | some .bool => some [.c none]
    | some (.int k) => some [.c (some k)]
    | some (.struct fs) =>
      match shFs P (shOf P f) fs.toList 0 with
      | some l => bif Nat.beq (P.cellsOf t) l.length then some l else none
      | none => none
    | some (.array n e) =>
      match shOf P f e with
      | some l => bif Nat.beq (P.cellsOf e) l.length && Nat.beq (P.cellsOf t) (n * l.length) then some (List.replicate n l).flatten else none
      | none => none
    | some (.slice e) =>
      match shOf P f e with
      | some l => bif Nat.beq (P.cellsOf e) l.length && Nat.blt 0 l.length then some [.s l] else none
      | none => none
    | _ => none
/-- The value of a cell of such a shape, and what stands for it. -/
inductive KV (w : World) : Sh → Value → CV → Prop
  | c (k : Option IntKind) (v : Value) : KOk k v → KV w (.c k) v (cvOf v)
  | z (e : List Sh) (a : Option Addr) (cap : Nat) : KV w (.s e) (.slice a 0 cap) (.sl true 0 e.length fun _ _ => .top)
  | s (e : List Sh) (ad : Addr) (len cap : Nat) (U : Nat → Nat → Value) (f : Nat → Nat → CV) : 0 < e.length → len ≤ cap → len ≤ 9223372036854775807 → ad.spot = none →
      (∀ i j, i < len → j < e.length → w.cell? ⟨ad.block, ad.off + (i * e.length + j), none⟩ = some (U i j)) → (∀ i j, i < len → j < e.length → KV w (e.getD j default) (U i j) (f i j)) → KV w (.s e) (.slice (some ad) len cap) (.sl true len e.length f)
theorem KV.rel {w : World} {s : Sh} {v : Value} {x : CV} (h : KV w s v x) : x.rel (fun _ => none) (fun _ => False) (fun _ => False) w v := by
  induction h with
  | c k v h => exact h.cv.2 _ _ _ _
  | z e a cap => exact ⟨a, cap, rfl, Nat.zero_le _, fun h => absurd h (Nat.lt_irrefl _)⟩
  | s e ad len cap U f h0 hl _ hs hc hk ih =>
    refine ⟨some ad, cap, rfl, hl, fun hpos => ⟨ad, rfl, hs, fun h => h, fun _ h => h, ?_, fun i hi j hj => ⟨_, hc i j hi hj, ih i j hi hj⟩⟩⟩
    exact cells_lt (ad := ⟨ad.block, ad.off + (0 * e.length + 0), none⟩) (hc 0 0 hpos h0)
/-- Cells of the shapes ss. -/
def KVs (w : World) (ss : List Sh) (vs : List Value) : Prop := vs.length = ss.length ∧ ∀ (j : Nat) v, vs[j]? = some v → ∃ x, KV w (ss.getD j default) v x
theorem KVs.append {w : World} {a b : List Sh} {x y : List Value} (h : KVs w a x) (h' : KVs w b y) : KVs w (a ++ b) (x ++ y) := by
  refine ⟨by rw [List.length_append, List.length_append, h.1, h'.1], fun j v hv => ?_⟩
  rw [List.getD_eq_getElem?_getD]
  by_cases hj : j < x.length
  · rw [List.getElem?_append_left hj] at hv
    rw [List.getElem?_append_left (by rw [← h.1]; exact hj), ← List.getD_eq_getElem?_getD]
    exact h.2 j v hv
  · rw [List.getElem?_append_right (by omega)] at hv
    rw [List.getElem?_append_right (by rw [← h.1]; omega), ← List.getD_eq_getElem?_getD, ← h.1]
    exact h'.2 _ v hv
section
variable {H : Type} {enc : TypeId × Value → H} {P : Program} {w : World} {base : Nat} {spare : Nat → Bool} {held : Bool}
theorem shFs_kv {g : TypeId → Option (List Sh)} {cs : List Value} : ∀ (fs : List Field) (off : Nat) (ks : List Sh), shFs P g fs off = some ks →
    (∀ fd ∈ fs, ∀ l, g fd.type = some l → KVs w l ((cs.drop fd.offset).take (P.cellsOf fd.type))) → cs.length = off + ks.length → KVs w ks (cs.drop off) := by
  intro fs
  induction fs with
  | nil =>
    intro off ks h _ hl
    simp only [shFs, Option.some.injEq] at h
    subst h
    rw [List.drop_eq_nil_of_le (by simp at hl; omega)]
    exact ⟨rfl, fun j v h => by simp at h⟩
  | cons fd rest ih =>
    intro off ks h hm hl
    simp only [shFs] at h
    split at h
    · rename_i l hg
      cases hb : (Nat.beq fd.offset off && Nat.beq (P.cellsOf fd.type) l.length) with
      | false => rw [hb] at h; cases h
      | true =>
        rw [hb, cond_true] at h
        simp only [Bool.and_eq_true] at hb
        have h1 := Nat.eq_of_beq_eq_true hb.1
        have h2 := Nat.eq_of_beq_eq_true hb.2
        cases hr : shFs P g rest (off + l.length) with
        | none => rw [hr] at h; cases h
        | some l' =>
          rw [hr] at h
          simp only [Option.map_some, Option.some.injEq] at h
          subst h
          have m1 := hm fd (by simp) l hg
          rw [h1, h2] at m1
          have m2 := ih _ _ hr (fun fd' hfd l hl => hm fd' (by simp [hfd]) l hl) (by simp at hl; omega)
          rw [show cs.drop off = (cs.drop off).take l.length ++ cs.drop (off + l.length) by
            rw [← List.drop_drop, List.take_append_drop]]
          exact m1.append m2
    · cases h
theorem sh_kv : ∀ (f : Nat) (t : TypeId) (ks : List Sh) (fuel : Nat) (cs : List Value) (x : DataW H × List MemPlace), shOf P f t = some ks → DataW.trod enc P w base spare held fuel t cs = some x → KVs w ks cs := by
  intro f
  induction f with
  | zero => intro t ks fuel cs x h; cases h
  | succ f ih =>
    intro t ks fuel cs x h hd
    have one : ∀ {s : Sh} {v : Value} {y : CV}, KV w s v y → KVs w [s] [v] := fun {s v y} hk => ⟨rfl, fun j u hu => by
      cases j with
      | zero => simp only [List.getElem?_cons_zero, Option.some.injEq] at hu; subst hu; exact ⟨y, hk⟩
      | succ j => simp at hu⟩
    simp only [shOf] at h
    split at h
    · rename_i ht
      simp only [Option.some.injEq] at h
      subst h
      cases fuel with
      | zero => simp [DataW.trod] at hd
      | succ m =>
        unfold DataW.trod at hd
        rw [ht] at hd
        split at hd <;> simp_all
        exact one (.c none _ ⟨_, rfl⟩)
    · rename_i k ht
      simp only [Option.some.injEq] at h
      subst h
      obtain ⟨n, rfl, hx, hw⟩ := DataW.trod_int ht hd
      exact one (.c (some k) _ ⟨n, rfl, hw⟩)
    · rename_i fs ht
      split at h
      · rename_i l hfl
        cases hb : Nat.beq (P.cellsOf t) l.length with
        | false => rw [hb] at h; cases h
        | true =>
          rw [hb] at h
          simp only [cond_true, Option.some.injEq] at h
          subst h
          obtain ⟨ys, m, _, _, hlen, hyl, hf⟩ := DataW.trod_struct ht hd
          have := shFs_kv (cs := cs) (w := w) fs.toList 0 l hfl (fun fd hfd l' hg => ?_) (by rw [hlen, Nat.eq_of_beq_eq_true hb]; omega)
          · simpa using this
          · obtain ⟨i, hi, hfi⟩ := List.getElem_of_mem hfd
            have hi' : i < fs.size := by simpa using hi
            have e1 : fs[i]? = some fd := by
              rw [Array.getElem?_eq_getElem hi']
              simpa using hfi
            have hfd' := hf i fd e1
            have hy : ys[i]? = some ys[i] := List.getElem?_eq_getElem (by omega)
            rw [hy] at hfd'
            exact ih _ _ _ _ _ hg hfd'
      · cases h
    · rename_i n e ht
      split at h
      · rename_i l hfl
        cases hb : (Nat.beq (P.cellsOf e) l.length && Nat.beq (P.cellsOf t) (n * l.length)) with
        | false => rw [hb] at h; cases h
        | true =>
          rw [hb] at h
          simp only [cond_true, Option.some.injEq] at h
          subst h
          simp only [Bool.and_eq_true] at hb
          have h1 := Nat.eq_of_beq_eq_true hb.1
          have h2 := Nat.eq_of_beq_eq_true hb.2
          obtain ⟨xs, m, _, _, hlen, hxl, hel⟩ := DataW.trod_array ht hd
          have key : ∀ j, j ≤ n → KVs w (List.replicate j l).flatten (cs.drop ((n - j) * l.length)) := by
            intro j
            induction j with
            | zero =>
              intro _
              rw [List.drop_eq_nil_of_le (by rw [hlen, h2]; simp)]
              exact ⟨rfl, fun j v h => by simp at h⟩
            | succ j ihj =>
              intro hj
              have hi := hel (n - (j + 1)) (by omega)
              rw [h1] at hi
              obtain ⟨y, hy⟩ : ∃ y, xs[n - (j + 1)]? = some y := ⟨_, List.getElem?_eq_getElem (by omega)⟩
              rw [hy] at hi
              have m1 := ih _ _ _ _ _ hfl hi
              have m2 := ihj (by omega)
              rw [List.replicate_succ, List.flatten_cons]
              rw [show cs.drop ((n - (j + 1)) * l.length) = (cs.drop ((n - (j + 1)) * l.length)).take l.length ++ cs.drop ((n - j) * l.length) by
                rw [show (n - j) * l.length = (n - (j + 1)) * l.length + l.length by rw [show n - j = (n - (j + 1)) + 1 by omega, Nat.add_mul, Nat.one_mul], ← List.drop_drop, List.take_append_drop]]
              exact m1.append m2
          simpa using key n (Nat.le_refl _)
      · cases h
    · rename_i e ht
      split at h
      · rename_i l hfl
        cases hb : (Nat.beq (P.cellsOf e) l.length && Nat.blt 0 l.length) with
        | false => rw [hb] at h; cases h
        | true =>
          rw [hb] at h
          simp only [cond_true, Option.some.injEq] at h
          subst h
          simp only [Bool.and_eq_true] at hb
          have hc := Nat.eq_of_beq_eq_true hb.1
          have h0 : 0 < l.length := Nat.le_of_ble_eq_true hb.2
          rcases Go.Deep.open_slice ht hd with ⟨rfl, hx⟩ | ⟨a', len, cap, m, n, D, Pl, rfl, hbs, hl, hm, hmm, hx, hel⟩
          · exact one (.z l none 0)
          · have hlm : len ≤ m := by rw [hmm]; split <;> omega
            by_cases hpos : 0 < len
            · have hsp : a'.spot = none := by
                obtain ⟨cs0, g1, g2⟩ := hel 0 (by omega)
                have hk := ih e l n _ _ hfl g2
                obtain ⟨_, g3, g4⟩ := World.cells?_some g1
                have := g4 0 (by rw [hc]; exact h0)
                rw [Nat.zero_mul, add_zero_, add_zero_] at this
                cases hc0 : cs0[0]? with
                | none => rw [List.getElem?_eq_none_iff] at hc0; have := hk.1; omega
                | some u => rw [hc0] at this; exact spot_none this
              have each : ∀ i j, i < len → j < l.length → ∃ p : Value × CV, w.cell? ⟨a'.block, a'.off + (i * l.length + j), none⟩ = some p.1 ∧ KV w (l.getD j default) p.1 p.2 := fun i j hi hj => by
                obtain ⟨cs', g1, g2⟩ := hel i (by omega)
                have hk := ih e l n _ _ hfl g2
                obtain ⟨_, g3, g4⟩ := World.cells?_some g1
                obtain ⟨u, hu⟩ : ∃ u, cs'[j]? = some u := ⟨_, List.getElem?_eq_getElem (by rw [hk.1]; exact hj)⟩
                have := g4 j (by omega)
                rw [Go.Deep.add_add, addS hsp, hu, hc] at this
                obtain ⟨x, hx⟩ := hk.2 j u hu
                exact ⟨(u, x), this, hx⟩
              have hch : ∃ F : Nat → Nat → Value × CV, ∀ i j, i < len → j < l.length → w.cell? ⟨a'.block, a'.off + (i * l.length + j), none⟩ = some (F i j).1 ∧ KV w (l.getD j default) (F i j).1 (F i j).2 :=
                ⟨fun i j => if h : i < len ∧ j < l.length then Classical.choose (each i j h.1 h.2) else (default, .top), fun i j hi hj => by
                  show w.cell? _ = some (dite _ _ _ : Value × CV).1 ∧ KV w _ (dite _ _ _ : Value × CV).1 (dite _ _ _ : Value × CV).2
                  rw [dif_pos ⟨hi, hj⟩]; exact Classical.choose_spec (each i j hi hj)⟩
              obtain ⟨F, hF⟩ := hch
              exact one (.s l a' len cap (fun i j => (F i j).1) (fun i j => (F i j).2) h0 hl (Nat.le_trans hl hm) hsp (fun i j hi hj => (hF i j hi hj).1) (fun i j hi hj => (hF i j hi hj).2))
            · have : len = 0 := by omega
              subst this
              exact one (.z l (some a') cap)
      · cases h
    · cases h
/-- A nested argument by value of a type that is a struct. -/
theorem open_sh {r : Reach} {b0 f : Nat} {t : TypeId} {v : Value} {d : DataW H} {ps : List MemPlace} {ks : List Sh} {fs : Array Field} (hs : P.underlying t = some (.struct fs)) (hf : shOf P f t = some ks) (hval : Value.okWide P w r b0 t v) (hd : DataW.Trod enc P w base spare held t v d ps) :
    ∃ cs : Array Value, v = .agg cs ∧ KVs w ks cs.toList := by
  have hv : ∃ cs, v = .agg cs := by
    unfold Value.okWide at hval
    rw [hs] at hval; obtain ⟨cs, rfl, _⟩ := hval; exact ⟨cs, rfl⟩
  obtain ⟨cs, rfl⟩ := hv
  obtain ⟨fuel, hd⟩ := hd
  exact ⟨cs, rfl, sh_kv f t ks fuel _ _ hf hd⟩
end
/-! ### Reading off -/
theorem KV.num {w : World} {k : Option IntKind} {v : Value} {x : CV} (h : KV w (.c k) v x) : KOkC k x := by
  cases h with
  | c _ _ h => exact h.cv.1
theorem KV.row {w : World} {e : List Sh} {v : Value} {x : CV} (h : KV w (.s e) v x) : ∃ n f, x = .sl true n e.length f ∧ n ≤ 9223372036854775807 ∧ ∀ i j, i < n → j < e.length → ∃ u, KV w (e.getD j default) u (f i j) := by
  cases h with
  | z _ a cap => exact ⟨0, _, rfl, Nat.zero_le _, fun i j h => absurd h (Nat.not_lt_zero _)⟩
  | s _ ad len cap U f h0 hl hm hs hc hk => exact ⟨len, f, rfl, hm, fun i j hi hj => ⟨_, hk i j hi hj⟩⟩
/-- What stands for a struct's cells. -/
theorem KVs.g {w : World} {ss : List Sh} {vs : List Value} (h : KVs w ss vs) : ∃ g : Nat → CV, (∀ j, j < ss.length → ∃ u, vs[j]? = some u ∧ KV w (ss.getD j default) u (g j)) := by
  have each : ∀ j, j < ss.length → ∃ x, ∃ u, vs[j]? = some u ∧ KV w (ss.getD j default) u x := fun j hj => by
    obtain ⟨u, hu⟩ : ∃ u, vs[j]? = some u := ⟨_, List.getElem?_eq_getElem (by rw [h.1]; exact hj)⟩
    obtain ⟨x, hx⟩ := h.2 j u hu
    exact ⟨x, u, hu, hx⟩
  exact ⟨fun j => if hj : j < ss.length then Classical.choose (each j hj) else .top, fun j hj => by
    show ∃ u, _ ∧ KV w _ u (dite _ _ _)
    rw [dif_pos hj]; exact Classical.choose_spec (each j hj)⟩
/-- Rows that agree stand for the same slices. -/
theorem sl_congr {r : Ren} {X W : Nat → Prop} {w : World} {sh : Bool} {n sz : Nat} {f f' : Nat → Nat → CV} {v : Value} (h : ∀ i, i < n → ∀ j, j < sz → f i j = f' i j) (hv : (CV.sl sh n sz f).rel r X W w v) : (CV.sl sh n sz f').rel r X W w v := by
  obtain ⟨a, cap, rfl, h1, h2⟩ := hv
  refine ⟨a, cap, rfl, h1, fun h0 => ?_⟩
  obtain ⟨ad, rfl, hs, ho, hX, hlt, hc⟩ := h2 h0
  refine ⟨ad, rfl, hs, ho, hX, hlt, fun i hi j hj => ?_⟩
  obtain ⟨u, hu, hr⟩ := hc i hi j hj
  exact ⟨u, hu, by rw [← h i hi j hj]; exact hr⟩
end Go.Proofs.Ythbhidfohdipnaa

/- bytes.Compare, as a contract of AX2. -/
namespace Go.Proofs.Ythbhidfohdipnaa.AX
open Go.RowKit
set_option linter.unusedVariables false
set_option linter.unusedSimpArgs false
structure byL (l : List Int) : Prop where
  q : ∀ x ∈ l, 0 ≤ x ∧ x < 256
theorem eI_sz {k : IntKind} : 0 < (eI k).sz := by show 0 < 1; omega
end Go.Proofs.Ythbhidfohdipnaa.AX

/- bytes.Equal of two byte strings that are equal, as a contract of AX2. -/
namespace Go.Proofs.Ythbhidfohdipnaa.AX
open Go.RowKit
set_option linter.unusedVariables false
set_option linter.unusedSimpArgs false
theorem loadCells_zero {P : Program} {w : World} {a : Addr} : (loadCells a 0).run P w = .ok #[] w := by
  have := run_loadCells_list (P := P) w a [] (fun j v h => by cases h)
  simpa using this
/-- A byte string as a string. -/
theorem conv_str {P : Program} {r : Ren} {X W : Nat → Prop} {w : World} {x : List Int} {v : Value} {src dst e : TypeId} (hs : P.underlying src = some (.slice e)) (he : P.underlying e = some (.int .u8)) (hd : P.underlying dst = some .string)
    (h : (CV.sl false x.length 1 (rowF (eI .u8) x)).rel r X W w v) : (convert src dst v).run P w = .ok (.string (strOfNums x)) w := by
  obtain ⟨a, cap, rfl, hn, hc⟩ := h
  rcases Nat.eq_zero_or_pos x.length with h0 | h0
  · have hx : x = [] := List.length_eq_zero_iff.1 h0
    subst hx
    cases a with
    | none => exact run_convert_bytes_nil w src e hs he 0 cap dst hd
    | some ad =>
      show (convert src dst (.slice (some ad) 0 cap)).run P w = _
      rw [run_convert_bytes_string w src dst e _ 0 cap hs he hd, run_bytesToString w ad 0 cap [] loadCells_zero]
      rfl
  · obtain ⟨ad, rfl, hsp, _, _, _, hcell⟩ := hc h0
    obtain ⟨b, off, sp⟩ := ad
    have hsp : sp = none := hsp
    subst hsp
    refine run_convert_bytes_arg w src e hs he b off x.length cap x rfl (fun i hi => ?_) dst hd
    obtain ⟨u, hu, hr⟩ := hcell i hi 0 (by omega)
    have hr' : u = .int .u8 (x.getD i default) := hr
    rw [show i * 1 + 0 = i by omega] at hu
    rw [hu, hr']; rfl
end Go.Proofs.Ythbhidfohdipnaa.AX

/- Package contexts: plain functions and contracts. -/
namespace Go.Proofs.Ythbhidfohdipnaa.AX
set_option linter.unusedVariables false
set_option linter.unusedSimpArgs false

structure Ctx where
  id : Int
  ip : Fin 16 → Int
  bits : Int
  comp : Bool
  til : Int
instance : Inhabited Ctx := ⟨⟨0, fun _ => 0, 0, false, 0⟩⟩
structure Pfx where
  ip : Fin 16 → Int
  bits : Int
def ePfxC (x : Pfx) (j : Nat) : CV := bif Nat.blt j 16 then .int .u8 (vget x.ip (j - 0)) else (.int .i64 x.bits)
def ePfx : Elem Pfx where
  sz := 17
  cell := ePfxC
  rd g := ⟨fun q => valI (g (0 + q.1)), valI (g 16)⟩
  ok g := okA .u8 g 0 16 && isK .i64 (g 16)
  ok_eq g h j hj := by
    simp only [Bool.and_eq_true] at h
    unfold ePfxC
    by_cases c0 : j < 16
    · have e := okA_at h.1 (j - 0) (by omega)
      rw [show 0 + (j - 0) = j by omega] at e
      rw [show Nat.blt j 16 = true from Nat.ble_eq_true_of_le c0, cond_true]
      rw [show vget (fun q : Fin 16 => valI (g (0 + q.1))) (j - 0) = valI (g (0 + (j - 0))) from vget_lt _ (by omega)]
      rw [show 0 + (j - 0) = j by omega]
      exact e
    by_cases c1 : j < 17
    · have e : j = 16 := by omega
      subst e
      exact isK_eq h.2
    omega
  flat a j := by
    unfold ePfxC
    cases Nat.blt j 16 with
    | true => exact flat_int
    | false =>
    exact flat_int
theorem ePfx_ip_at (x : Pfx) (q : Nat) (h : q < 16) : ePfx.cell x (0 + q) = .int .u8 (vget x.ip q) := by
  show ePfxC x (0 + q) = _
  unfold ePfxC
  rw [show Nat.blt (0 + q) 16 = true from Nat.ble_eq_true_of_le (by omega), cond_true]
  rw [show 0 + q - 0 = q by omega]
theorem ePfx_ip (x : Pfx) : (fun q : Fin 16 => valI (ePfx.cell x (0 + q.1))) = x.ip := by
  funext q
  rw [ePfx_ip_at x q.1 q.2]
  exact vget_lt _ q.2
def vt (t : Int) : Bool := decide (0 ≤ t) && decide (t ≤ 1099511627776)
/-! ### address.Mask -/
def clampI (b lo hi : Int) : Int := if hi < (if b < lo then lo else b) then hi else (if b < lo then lo else b)
def keepAt (b : Int) (i : Nat) : Int := clampI (b - 8 * i) 0 8
def maskB (a : Fin 16 → Int) (b : Int) (i : Nat) : Int := bits .andNot .u8 (vget a i) (shrI .u8 255 (keepAt b i))
def maskP (a : Fin 16 → Int) (b : Int) : Pfx := ⟨fun q => maskB a (clampI b 0 128) q.1, clampI b 0 128⟩
def maskS (a : Fin 16 → Int) (b : Int) (i : Nat) (j : Nat) : CV := bif Nat.blt j 16 then .int .u8 (if j < i then maskB a b j else 0) else .int .i64 b
theorem upd_step (i j : Nat) (v : Int) (m : Nat → Int) (h : v = m i) : (bif Nat.ble (0 + i * 1) j && Nat.blt j (0 + i * 1 + 1) then v else (if j < i then m j else 0)) = if j < i + 1 then m j else 0 := by
  rw [Nat.mul_one, Nat.zero_add]
  by_cases h1 : j = i
  · subst h1
    have : (Nat.ble j j && Nat.blt j (j + 1)) = true := by simp [Nat.blt]
    rw [this, cond_true, if_pos (by omega), h]
  · have : (Nat.ble i j && Nat.blt j (i + 1)) = false := by
      cases hb : (Nat.ble i j && Nat.blt j (i + 1)) with
      | false => rfl
      | true =>
        simp only [Bool.and_eq_true] at hb
        have := Nat.le_of_ble_eq_true hb.1
        have := Nat.le_of_ble_eq_true hb.2
        omega
    rw [this, cond_false]
    by_cases h2 : j < i
    · rw [if_pos h2, if_pos (by omega)]
    · rw [if_neg h2, if_neg (by omega)]
theorem clampI_in (b : Int) {lo hi : Int} (h : lo ≤ hi) : lo ≤ clampI b lo hi ∧ clampI b lo hi ≤ hi := by unfold clampI; split <;> split <;> omega
set_option maxRecDepth 4000 in
theorem mask_ok (a : Fin 16 → Int) (b : Int) : PureOk Try.prog 79 [(cE (eA .u8 16)).enc a, (cI .i64).enc b] ((cE ePfx).enc (maskP a b)) := by
  have hb := clampI_in b (lo := 0) (hi := 128) (by omega)
  refine pure_intro (wd := 1) (Q := mkQ LE0) (by decide) tysOk (q_of LE0_ok) mixed Try.func79 rfl _ (by show 2 ≤ _; decide) _ ?_
  refine loop_intro (mono_of LE0_ok) (fun i : {i : Nat // i ≤ 16} => (⟨[(2, one (.ptr 0 0 0 false)), (4, one (.ptr 1 0 0 false)), (5, one (.ptr 6 0 0 false)), (12, one (.int .i64 (i.1 : Int)))],
    [(0, some ⟨24, 1, 16, true, fun _ => (eA .u8 16).cell a⟩), (1, some ⟨72, 1, 17, true, fun _ _ => .top⟩), (6, some ⟨72, 1, 17, true, fun _ => maskS a (clampI b 0 128) i.1⟩)], 9⟩ : Hd)) (fun i => 16 - i.1) (fun _ => rfl) ?_ ⟨0, by omega⟩ [] ?_
  · rintro ⟨i, hi⟩
    dsimp only
    have hv : bits .andNot .u8 (vget a (0 + (i : Int).toNat * 1 + 0)) (shrI .u8 255 (clampI (IntKind.i64.wrap (clampI b 0 128 - IntKind.i64.wrap (8 * (i : Int)))) 0 8)) = maskB a (clampI b 0 128) i := by
      have h1 : IntKind.i64.wrap (8 * (i : Int)) = 8 * i := IntWalk.i64_in _ (by omega)
      have h2 : IntKind.i64.wrap (clampI b 0 128 - 8 * (i : Int)) = clampI b 0 128 - 8 * i := IntWalk.i64_in _ (by omega)
      simp [maskB, keepAt, h1, h2]
    repeat' (first | (apply And.intro <;> intro hc <;> (first | exact Bool.noConfusion hc | (simp only [decide_eq_true_eq, decide_eq_false_iff_not, Bool.not_eq_true', Bool.not_eq_false', beq_iff_eq, beq_eq_false_iff_ne, bne_iff_ne, bne_eq_false_iff_eq, Bool.true_eq_false, Bool.false_eq_true] at hc) | skip)) | (refine And.intro (by first | exact trivial | decide | omega | (dsimp only; omega) | exact fun _ _ => rfl) ?_) | (apply And.intro) | (intro s hs))
    · refine ⟨⟨i + 1, by omega⟩, [], by dsimp only; omega, rfl, ?_, ?_⟩
      · repeat' (first | exact trivial | exact rfl | exact leF_ptr rfl | exact leF_int rfl | exact leF_bool rfl | exact leF_cl (cl_slB _ _) | exact leF_cl (cl_slR _ _) | exact leF_cl (cl_ll _ _) | exact leF_c (leC_os rfl rfl) | refine leF_int ?_ | refine leF_bool ?_ | exact leN_varA (fun _ _ => (Elem.flat _ _ _).le) | exact leN_varA (fun _ _ => leC_top) | apply And.intro)
        first | (dsimp only; rw [IntWalk.i64_in _ (by omega)]; omega) | (dsimp only; rw [IntWalk.i64_in _ (by omega)]; done) | (dsimp only; exact IntWalk.i64_in _ (by omega)) | exact IntWalk.i64_in _ (by omega) | (rw [IntWalk.i64_in _ (by omega)]; omega)
      · repeat' (first | exact trivial | exact rfl | exact leF_ptr rfl | exact leF_int rfl | exact leF_bool rfl | exact leF_cl (cl_slB _ _) | exact leF_cl (cl_slR _ _) | exact leF_cl (cl_ll _ _) | exact leF_c (leC_os rfl rfl) | refine leF_int ?_ | refine leF_bool ?_ | exact leN_varA (fun _ _ => (Elem.flat _ _ _).le) | exact leN_varA (fun _ _ => leC_top) | apply And.intro)
        refine leN_var ?_
        repeat' (first | exact trivial | exact leC_int (upd_step i _ _ _ hv) | exact leC_int rfl | apply And.intro)
        refine cond_out (b := Nat.ble (0 + (i : Int).toNat * 1) 16 && Nat.blt 16 (0 + (i : Int).toNat * 1 + 1)) (y := .int .i64 (clampI b 0 128)) (z := .int .i64 (clampI b 0 128)) ?_ ?_
        · refine rng_out (i := 0 + (i : Int).toNat * 1) (j := 16) (n := 1) ?_
          simp
          omega
        · exact leC_int rfl
    · refine Done.mk (leF_e (leE_all ?_))
      have h16 : i = 16 := by omega
      subst h16
      repeat' (first | exact trivial | exact leC_int rfl | apply And.intro)
  · refine ⟨rfl, ?_, ?_⟩
    · repeat' (first | exact trivial | exact rfl | exact leF_ptr rfl | exact leF_int rfl | exact leF_bool rfl | exact leF_cl (cl_slB _ _) | exact leF_cl (cl_slR _ _) | exact leF_cl (cl_ll _ _) | exact leF_c (leC_os rfl rfl) | refine leF_int ?_ | refine leF_bool ?_ | exact leN_varA (fun _ _ => (Elem.flat _ _ _).le) | exact leN_varA (fun _ _ => leC_top) | apply And.intro)
    · repeat' (first | exact trivial | exact rfl | exact leF_ptr rfl | exact leF_int rfl | exact leF_bool rfl | exact leF_cl (cl_slB _ _) | exact leF_cl (cl_slR _ _) | exact leF_cl (cl_ll _ _) | exact leF_c (leC_os rfl rfl) | refine leF_int ?_ | refine leF_bool ?_ | exact leN_varA (fun _ _ => (Elem.flat _ _ _).le) | exact leN_varA (fun _ _ => leC_top) | apply And.intro)
      refine leN_var ?_
      repeat' (first | exact trivial | exact leC_int rfl | apply And.intro)
def ipEq (a b : Fin 16 → Int) : Bool := (List.range 16).all fun j => vget a j == vget b j
theorem ipEq_iff {a b : Fin 16 → Int} : ipEq a b = true ↔ a = b := by
  simp only [ipEq, List.all_eq_true, List.mem_range, beq_iff_eq]
  constructor
  · intro h
    funext q
    have := h q.1 q.2
    rw [vget_lt _ q.2, vget_lt _ q.2] at this
    exact this
  · rintro rfl j _; rfl
def pEq (p q : Pfx) : Bool := ipEq p.ip q.ip && decide (p.bits = q.bits)
theorem pEq_iff {p q : Pfx} : pEq p q = true ↔ p = q := by
  simp only [pEq, Bool.and_eq_true, ipEq_iff, decide_eq_true_eq]
  constructor
  · rintro ⟨h1, h2⟩
    obtain ⟨a, b⟩ := p
    obtain ⟨c, d⟩ := q
    simp only at h1 h2
    rw [h1, h2]
  · rintro rfl; exact ⟨rfl, rfl⟩
theorem pEq_from (p q : Pfx) : eqFrom (ePfx.cell p) (ePfx.cell q) 17 0 = pEq p q := by
  rw [Bool.eq_iff_iff, eqFrom_iff, pEq_iff]
  simp only [Nat.zero_add]
  constructor
  · intro h
    obtain ⟨a, b⟩ := p
    obtain ⟨c, d⟩ := q
    have h1 : a = c := by
      funext j
      have := h j.1 (by omega)
      rw [← Nat.zero_add j.1, ePfx_ip_at _ _ j.2, ePfx_ip_at _ _ j.2] at this
      simp only [eqCell, beq_iff_eq] at this
      rw [vget_lt _ j.2, vget_lt _ j.2] at this
      exact this
    have h2 : b = d := by
      have := h 16 (by omega)
      have e1 : ∀ x : Pfx, ePfx.cell x 16 = .int .i64 x.bits := fun x => rfl
      rw [e1, e1] at this
      simpa [eqCell] using this
    rw [h1, h2]
  · rintro rfl j hj
    by_cases h16 : j < 16
    · rw [← Nat.zero_add j, ePfx_ip_at _ _ h16]; simp [eqCell]
    · have : j = 16 := by omega
      subst this
      have e1 : ∀ x : Pfx, ePfx.cell x 16 = .int .i64 x.bits := fun x => rfl
      rw [e1]; simp [eqCell]
def vpf (p : Pfx) : Bool := decide (0 ≤ p.bits) && decide (p.bits ≤ 128) && pEq (maskP p.ip p.bits) p
def LE1 : CsL := (79, some (pureE (AC.cons (cE (eA .u8 16)) (AC.cons (cI .i64) AC.nil)) (fun _ => True) (fun a => maskP a.1 a.2.1) (cE ePfx).enc)) :: []
theorem LE1_ok : AllOk Try.prog LE1 := ⟨pureE_ok ⟨_, Try.func79, rfl, by kernel_rfl⟩ fun a _ => mask_ok a.1 a.2.1, trivial⟩
theorem vpf_ok (p : Pfx) : PureOk Try.prog 62 [(cE ePfx).enc p] (cB.enc (vpf p)) := by
  refine pure_intro (wd := 1) (Q := mkQ LE1) (by decide) tysOk (q_of LE1_ok) mixed Try.func62 rfl _ (by show 1 ≤ _; decide) _ ?_
  repeat' (first | (apply And.intro <;> intro hc <;> (first | exact Bool.noConfusion hc | (simp only [decide_eq_true_eq, decide_eq_false_iff_not, Bool.not_eq_true', Bool.not_eq_false', beq_iff_eq, beq_eq_false_iff_ne, bne_iff_ne, bne_eq_false_iff_eq, Bool.true_eq_false, Bool.false_eq_true] at hc) | skip)) | (refine And.intro (by first | exact trivial | decide | omega | (dsimp only; omega) | exact fun _ _ => rfl) ?_) | (apply And.intro) | (intro s hs))
  · refine Done.mk (leF_bool ?_)
    refine (show _ = eqFrom (ePfx.cell s) (ePfx.cell p) 17 0 from by simp only [Nat.zero_add]; rfl).trans ?_
    rw [pEq_from, hs]
    have e : ((eA .u8 16).rd fun q => (fun x => ePfx.cell p) 0 (0 + 0 + q)) = p.ip := by
      have := ePfx_ip p
      simp only [Nat.zero_add] at this ⊢
      exact this
    rw [e]
    simp [vpf, *]
  all_goals (refine Done.mk (leF_bool ?_); simp [vpf, *])
def pfxOf (c : Ctx) : Pfx := ⟨c.ip, c.bits⟩
def validFrom : Int → List Ctx → Bool
  | _, [] => true
  | b, c :: l => decide (b < c.id) && decide (c.id < 16) && vpf (pfxOf c) && vt c.til && validFrom c.id l
def validT (l : List Ctx) : Bool := validFrom (-1) l
end Go.Proofs.Ythbhidfohdipnaa.AX


/- Package contexts: ForCompression (by AX2). -/
namespace Go.Proofs.Ythbhidfohdipnaa.AX
set_option linter.unusedVariables false
set_option linter.unusedSimpArgs false
theorem rd_ip (a : Fin 16 → Int) : (eA .u8 16).rd (fun q => (eA .u8 16).cell a (0 + q)) = a := by
  simp only [Nat.zero_add]; exact eA_rd a
end Go.Proofs.Ythbhidfohdipnaa.AX

/- The reference of layer 4 (bits, masks, prefixes), by AX2; its plain laws. -/
namespace Go.Proofs.Ythbhidfohdipnaa.AX
open Go.RowKit
set_option linter.unusedVariables false
set_option linter.unusedSimpArgs false
/-! ### Bytes -/
def bt (x : Int) (j : Int) : Int := bits .and .u8 (shrI .u8 x (7 - j)) 1
def mb (x : Int) (k : Int) : Int := bits .andNot .u8 x (shrI .u8 255 k)
theorem byt_step : ∀ x : Fin 256, ∀ k : Fin 8, bits .or .u8 (mb (x.1 : Nat) (k.1 : Nat)) (shlI .u8 (bt (x.1 : Nat) (k.1 : Nat)) (7 - (k.1 : Nat))) = mb (x.1 : Nat) ((k.1 : Nat) + 1) := by decide +kernel
theorem byt_zero : ∀ x : Fin 256, mb (x.1 : Nat) 0 = 0 := by decide +kernel
theorem byt_rng : ∀ x : Fin 256, ∀ k : Fin 9, 0 ≤ mb (x.1 : Nat) (k.1 : Nat) ∧ mb (x.1 : Nat) (k.1 : Nat) < 256 := by decide +kernel
theorem byt_bit : ∀ x : Fin 256, ∀ k : Fin 9, ∀ j : Fin 8, bt (mb (x.1 : Nat) (k.1 : Nat)) (j.1 : Nat) = if j.1 < k.1 then bt (x.1 : Nat) (j.1 : Nat) else 0 := by decide +kernel
theorem byt_sum : ∀ x : Fin 256, ((x.1 : Nat) : Int) = bt (x.1 : Nat) 0 * 128 + bt (x.1 : Nat) 1 * 64 + bt (x.1 : Nat) 2 * 32 + bt (x.1 : Nat) 3 * 16 + bt (x.1 : Nat) 4 * 8 + bt (x.1 : Nat) 5 * 4 + bt (x.1 : Nat) 6 * 2 + bt (x.1 : Nat) 7 := by decide +kernel
structure byteOk (a : Fin 16 → Int) : Prop where
  q : ∀ q, 0 ≤ a q ∧ a q < 256
theorem byte_nat {x : Int} (h : 0 ≤ x ∧ x < 256) : ∃ y : Fin 256, x = (y.1 : Nat) := ⟨⟨x.toNat, by omega⟩, by show x = (x.toNat : Int); omega⟩
def bitF (a : Fin 16 → Int) (i : Nat) : Int := bt (vget a (i / 8)) ((i % 8 : Nat) : Int)
theorem byteOk.v {a : Fin 16 → Int} (h : byteOk a) (j : Nat) : 0 ≤ vget a j ∧ vget a j < 256 := by
  unfold vget
  split
  · exact h.q _
  · omega
theorem byte_ext {x y : Int} (hx : 0 ≤ x ∧ x < 256) (hy : 0 ≤ y ∧ y < 256) (h : ∀ j, j < 8 → bt x (j : Nat) = bt y (j : Nat)) : x = y := by
  obtain ⟨x, rfl⟩ := byte_nat hx
  obtain ⟨y, rfl⟩ := byte_nat hy
  rw [byt_sum x, byt_sum y]
  have h0 := h 0 (by omega)
  have h1 := h 1 (by omega)
  have h2 := h 2 (by omega)
  have h3 := h 3 (by omega)
  have h4 := h 4 (by omega)
  have h5 := h 5 (by omega)
  have h6 := h 6 (by omega)
  have h7 := h 7 (by omega)
  rw [show bt (x.1 : Nat) 0 = bt (y.1 : Nat) 0 from h0, show bt (x.1 : Nat) 1 = bt (y.1 : Nat) 1 from h1, show bt (x.1 : Nat) 2 = bt (y.1 : Nat) 2 from h2, show bt (x.1 : Nat) 3 = bt (y.1 : Nat) 3 from h3, show bt (x.1 : Nat) 4 = bt (y.1 : Nat) 4 from h4, show bt (x.1 : Nat) 5 = bt (y.1 : Nat) 5 from h5, show bt (x.1 : Nat) 6 = bt (y.1 : Nat) 6 from h6, show bt (x.1 : Nat) 7 = bt (y.1 : Nat) 7 from h7]
theorem ip_ext {a b : Fin 16 → Int} (ha : byteOk a) (hb : byteOk b) (h : ∀ i, i < 128 → bitF a i = bitF b i) : a = b := by
  funext q
  refine byte_ext (ha.q q) (hb.q q) fun j hj => ?_
  have := h (8 * q.1 + j) (by omega)
  unfold bitF at this
  rw [show (8 * q.1 + j) / 8 = q.1 by omega, show (8 * q.1 + j) % 8 = j by omega, vget_lt _ q.2, vget_lt _ q.2] at this
  exact this
theorem keepAt_in (b : Int) (i : Nat) : ∃ k : Fin 9, keepAt b i = (k.1 : Nat) := by
  have := clampI_in (b - 8 * i) (lo := 0) (hi := 8) (by omega)
  exact ⟨⟨(keepAt b i).toNat, by unfold keepAt; omega⟩, by show keepAt b i = ((keepAt b i).toNat : Int); unfold keepAt; omega⟩
theorem mask_byteOk {a : Fin 16 → Int} (ha : byteOk a) (b : Int) : byteOk (maskP a b).ip := by
  refine ⟨fun q => ?_⟩
  show 0 ≤ mb (vget a q.1) (keepAt (clampI b 0 128) q.1) ∧ mb (vget a q.1) (keepAt (clampI b 0 128) q.1) < 256
  obtain ⟨x, hx⟩ := byte_nat (ha.v q.1)
  obtain ⟨k, hk⟩ := keepAt_in (clampI b 0 128) q.1
  rw [hx, hk]
  exact byt_rng x k
theorem mask_bit {a : Fin 16 → Int} (ha : byteOk a) {b : Int} (h0 : 0 ≤ b) (h1 : b ≤ 128) {i : Nat} (hi : i < 128) : bitF (maskP a b).ip i = if (i : Int) < b then bitF a i else 0 := by
  have hcl : clampI b 0 128 = b := by unfold clampI; split <;> split <;> omega
  unfold bitF
  rw [vget_lt _ (show i / 8 < 16 by omega)]
  show bt (mb (vget a (i / 8)) (keepAt (clampI b 0 128) (i / 8))) _ = _
  rw [hcl]
  obtain ⟨x, hx⟩ := byte_nat (ha.v (i / 8))
  obtain ⟨k, hk⟩ := keepAt_in b (i / 8)
  rw [hx, hk, byt_bit x k ⟨i % 8, by omega⟩]
  have e : (i % 8 < k.1) ↔ ((i : Int) < b) := by
    have : keepAt b (i / 8) = clampI (b - 8 * ((i / 8 : Nat) : Int)) 0 8 := rfl
    rw [this] at hk
    unfold clampI at hk
    split at hk <;> split at hk <;> omega
  by_cases h : i % 8 < k.1
  · rw [if_pos h, if_pos (e.1 h)]
  · rw [if_neg h, if_neg (fun h' => h (e.2 h'))]
theorem clamp_id {b : Int} (h0 : 0 ≤ b) (h1 : b ≤ 128) : clampI b 0 128 = b := by unfold clampI; split <;> split <;> omega
theorem mask_iff {a : Fin 16 → Int} {p : Pfx} (ha : byteOk a) (hp : byteOk p.ip) : maskP a p.bits = p ↔ (0 ≤ p.bits ∧ p.bits ≤ 128) ∧ ∀ i, i < 128 → bitF p.ip i = if (i : Int) < p.bits then bitF a i else 0 := by
  constructor
  · intro h
    have hb : (maskP a p.bits).bits = p.bits := by rw [h]
    have hb' : clampI p.bits 0 128 = p.bits := hb
    have := clampI_in p.bits (lo := 0) (hi := 128) (by omega)
    refine ⟨by omega, fun i hi => ?_⟩
    have hm := mask_bit ha (b := p.bits) (by omega) (by omega) hi
    rw [h] at hm
    exact hm
  · rintro ⟨⟨h0, h1⟩, h⟩
    have hip : (maskP a p.bits).ip = p.ip := ip_ext (mask_byteOk ha _) hp fun i hi => by rw [mask_bit ha h0 h1 hi, h i hi]
    have hbb : (maskP a p.bits).bits = p.bits := clamp_id h0 h1
    obtain ⟨pi, pb⟩ := p
    cases hm : maskP a pb with
    | mk x y =>
      simp only [hm] at hip hbb
      rw [hip, hbb]
theorem vpf_iff {p : Pfx} (hp : byteOk p.ip) : vpf p = true ↔ (0 ≤ p.bits ∧ p.bits ≤ 128) ∧ ∀ i : Nat, i < 128 → p.bits ≤ (i : Int) → bitF p.ip i = 0 := by
  unfold vpf
  simp only [Bool.and_eq_true, decide_eq_true_eq, pEq_iff]
  rw [mask_iff hp hp]
  constructor
  · rintro ⟨h, _, h2⟩
    refine ⟨h, fun i hi hb => ?_⟩
    have := h2 i hi
    rw [if_neg (by omega)] at this
    exact this
  · rintro ⟨h, h2⟩
    refine ⟨h, h, fun i hi => ?_⟩
    by_cases hb : (i : Int) < p.bits
    · rw [if_pos hb]
    · rw [if_neg hb]; exact h2 i hi (by omega)
theorem mask_vpf {a : Fin 16 → Int} (ha : byteOk a) (b : Int) : vpf (maskP a b) = true := by
  rw [vpf_iff (mask_byteOk ha b)]
  have hc := clampI_in b (lo := 0) (hi := 128) (by omega)
  have e : maskP a b = maskP a (clampI b 0 128) := by
    unfold maskP
    rw [clamp_id hc.1 hc.2]
  have eb : (maskP a b).bits = clampI b 0 128 := rfl
  refine ⟨by rw [eb]; exact hc, fun i hi h => ?_⟩
  rw [e, mask_bit ha hc.1 hc.2 hi, if_neg (by rw [eb] at h; omega)]
end Go.Proofs.Ythbhidfohdipnaa.AX


/- The reference of layer 4: contracts of bit, Common, ValidPrefix, Contains, Mask, Of. -/
namespace Go.Proofs.Ythbhidfohdipnaa.AX
open Go.RowKit
set_option linter.unusedVariables false
set_option linter.unusedSimpArgs false
theorem bit_ok (a : Fin 16 → Int) (i : Int) (h0 : 0 ≤ i) (h1 : i < 128) : PureOk Try.prog 63 [(cE (eA .u8 16)).enc a, (cI .i64).enc i] ((cI .u8).enc (bitF a i.toNat)) := by
  have hq : IntKind.i64.wrap (i.tdiv 8) = i / 8 := by rw [Int.tdiv_eq_ediv_of_nonneg h0]; exact IntWalk.i64_in _ (by omega)
  have hr : IntKind.u64.wrap (i.tmod 8) = i % 8 := by rw [Int.tmod_eq_emod_of_nonneg h0]; exact IntWalk.u64_in _ (by omega)
  have hs : IntKind.u64.wrap (7 - IntKind.u64.wrap (i.tmod 8)) = 7 - i % 8 := by rw [hr]; exact IntWalk.u64_in _ (by omega)
  refine pure_intro (wd := 1) (Q := mkQ LE0) (by decide) tysOk (q_of LE0_ok) mixed Try.func63 rfl _ (by show 2 ≤ _; decide) _ ?_
  repeat' (first | (apply And.intro <;> intro hc <;> (first | exact Bool.noConfusion hc | (simp only [decide_eq_true_eq, decide_eq_false_iff_not, Bool.not_eq_true', Bool.not_eq_false', beq_iff_eq, beq_eq_false_iff_ne, bne_iff_ne, bne_eq_false_iff_eq, Bool.true_eq_false, Bool.false_eq_true] at hc) | skip)) | (refine And.intro (by first | exact trivial | decide | omega | (dsimp only; omega) | exact fun _ _ => rfl) ?_) | (apply And.intro) | (intro s hs))
  · rw [hq]; show 1 ≤ 16 - _; omega
  refine Done.mk (leF_int ?_)
  show bits .and .u8 (shrI .u8 (vget a (0 + (IntKind.i64.wrap (i.tdiv 8)).toNat * 1 + 0)) (IntKind.u64.wrap (7 - IntKind.u64.wrap (i.tmod 8)))) 1 = _
  rw [hs, hq]
  unfold bitF bt
  rw [show 0 + (i / 8).toNat * 1 + 0 = i.toNat / 8 by omega, show ((i.toNat % 8 : Nat) : Int) = i % 8 by omega]
theorem bit_rd (a : Fin 16 → Int) (n : Nat) : bitF ((eA .u8 16).rd fun q => (eA .u8 16).cell a (0 + q)) ((n : Int)).toNat = bitF a n := by
  rw [Int.toNat_natCast, rd_ip]
def LR0 : CsL := (63, some (pureE (AC.cons (cE (eA .u8 16)) (AC.cons (cI .i64) AC.nil)) (fun a => 0 ≤ a.2.1 ∧ a.2.1 < 128) (fun a => bitF a.1 a.2.1.toNat) (cI .u8).enc)) :: []
theorem LR0_ok : AllOk Try.prog LR0 := ⟨pureE_ok ⟨_, Try.func63, rfl, by kernel_rfl⟩ fun a h => bit_ok a.1 a.2.1 h.1 h.2, trivial⟩
theorem bit_rdP (p : Pfx) (n : Nat) : bitF ((eA .u8 16).rd fun q => ePfx.cell p (0 + 0 + q)) ((n : Int)).toNat = bitF p.ip n := by
  rw [Int.toNat_natCast]
  have := ePfx_ip p
  simp only [Nat.zero_add] at this ⊢
  exact congrArg (bitF · n) this
set_option maxRecDepth 10000 in
theorem rvpf_ok (p : Pfx) (hp : byteOk p.ip) : PureOk Try.prog 42 [(cE ePfx).enc p] (cB.enc (vpf p)) := by
  refine pure_intro (wd := 1) (Q := mkQ LR0) (by decide) tysOk (q_of LR0_ok) mixed Try.func42 rfl _ (by show 1 ≤ _; decide) _ ?_
  repeat' (first | (apply And.intro <;> intro hc <;> (first | exact Bool.noConfusion hc | (simp only [decide_eq_true_eq, decide_eq_false_iff_not, Bool.not_eq_true', Bool.not_eq_false', beq_iff_eq, beq_eq_false_iff_ne, bne_iff_ne, bne_eq_false_iff_eq, Bool.true_eq_false, Bool.false_eq_true] at hc) | skip)) | (refine And.intro (by first | exact trivial | decide | omega | (dsimp only; omega) | exact fun _ _ => rfl) ?_) | (apply And.intro) | (intro s hs))
  · refine Done.mk (leF_bool ?_)
    simp [vpf]; omega
  · refine Done.mk (leF_bool ?_)
    simp [vpf]; omega
  · refine loop_intro (mono_of LR0_ok) (fun i : {i : Nat // p.bits ≤ i ∧ i ≤ 128 ∧ ∀ j : Nat, j < i → p.bits ≤ j → bitF p.ip j = 0} => (⟨[(1, one (.ptr 0 0 0 false)), (3, one (.int .i64 (i.1 : Int)))],
      [(0, some ⟨72, 1, 17, true, fun _ => ePfx.cell p⟩)], 14⟩ : Hd)) (fun i => 128 - i.1) (fun _ => rfl) ?_ ⟨p.bits.toNat, by omega, by omega, fun j h1 h2 => by omega⟩ [] ?_
    · rintro ⟨i, h1, h2, hv⟩
      dsimp only at h1 h2 hv ⊢
      repeat' (first | (apply And.intro <;> intro hc <;> (first | exact Bool.noConfusion hc | (simp only [decide_eq_true_eq, decide_eq_false_iff_not, Bool.not_eq_true', Bool.not_eq_false', beq_iff_eq, beq_eq_false_iff_ne, bne_iff_ne, bne_eq_false_iff_eq, Bool.true_eq_false, Bool.false_eq_true] at hc) | skip)) | (refine And.intro (by first | exact trivial | decide | omega | (dsimp only; omega) | exact fun _ _ => rfl) ?_) | (apply And.intro) | (intro s hs))
      · have e1 : s = bitF p.ip i := hs.trans (bit_rdP p i)
        have hcc : s ≠ 0 := hc
        refine Done.mk (leF_bool ?_)
        symm
        rw [Bool.eq_false_iff]
        intro h
        rw [vpf_iff hp] at h
        exact hcc (e1.trans (h.2 i (by omega) h1))
      · have e1 : s = bitF p.ip i := hs.trans (bit_rdP p i)
        refine ⟨⟨i + 1, by omega, by omega, fun j hj hb => ?_⟩, [], by dsimp only; omega, rfl, ?_, ?_⟩
        · by_cases hji : j = i
          · subst hji; rw [← e1]; assumption
          · exact hv j (by omega) hb
        · repeat' (first | exact trivial | exact rfl | exact leF_ptr rfl | exact leF_int rfl | exact leF_bool rfl | exact leF_cl (cl_slB _ _) | exact leF_cl (cl_slR _ _) | exact leF_cl (cl_ll _ _) | exact leF_c (leC_os rfl rfl) | refine leF_int ?_ | refine leF_bool ?_ | exact leN_varA (fun _ _ => (Elem.flat _ _ _).le) | exact leN_varA (fun _ _ => leC_top) | apply And.intro)
          refine (IntWalk.i64_in _ ?_).trans ?_
          · constructor <;> omega
          · dsimp only
            omega
        · repeat' (first | exact trivial | exact rfl | exact leF_ptr rfl | exact leF_int rfl | exact leF_bool rfl | exact leF_cl (cl_slB _ _) | exact leF_cl (cl_slR _ _) | exact leF_cl (cl_ll _ _) | exact leF_c (leC_os rfl rfl) | refine leF_int ?_ | refine leF_bool ?_ | exact leN_varA (fun _ _ => (Elem.flat _ _ _).le) | exact leN_varA (fun _ _ => leC_top) | apply And.intro)
      · refine Done.mk (leF_bool ?_)
        symm
        rw [vpf_iff hp]
        exact ⟨by omega, fun j hj hb => hv j (by omega) hb⟩
    · refine ⟨rfl, ?_, ?_⟩
      · repeat' (first | exact trivial | exact rfl | exact leF_ptr rfl | exact leF_int rfl | exact leF_bool rfl | exact leF_cl (cl_slB _ _) | exact leF_cl (cl_slR _ _) | exact leF_cl (cl_ll _ _) | exact leF_c (leC_os rfl rfl) | refine leF_int ?_ | refine leF_bool ?_ | exact leN_varA (fun _ _ => (Elem.flat _ _ _).le) | exact leN_varA (fun _ _ => leC_top) | apply And.intro)
        show p.bits = ((p.bits.toNat : Nat) : Int)
        omega
      · repeat' (first | exact trivial | exact rfl | exact leF_ptr rfl | exact leF_int rfl | exact leF_bool rfl | exact leF_cl (cl_slB _ _) | exact leF_cl (cl_slR _ _) | exact leF_cl (cl_ll _ _) | exact leF_c (leC_os rfl rfl) | refine leF_int ?_ | refine leF_bool ?_ | exact leN_varA (fun _ _ => (Elem.flat _ _ _).le) | exact leN_varA (fun _ _ => leC_top) | apply And.intro)
theorem maskB_ne {a : Fin 16 → Int} {i j : Nat} (h : j ≠ i / 8) : maskB a ((i + 1 : Nat) : Int) j = maskB a (i : Int) j := by
  unfold maskB
  have : keepAt ((i + 1 : Nat) : Int) j = keepAt (i : Int) j := by
    unfold keepAt clampI
    (repeat' split) <;> omega
  rw [this]
theorem maskB_at {a : Fin 16 → Int} (ha : byteOk a) (i : Nat) : bits .or .u8 (maskB a (i : Int) (i / 8)) (shlI .u8 (bitF a i) (7 - ((i % 8 : Nat) : Int))) = maskB a ((i + 1 : Nat) : Int) (i / 8) := by
  obtain ⟨x, hx⟩ := byte_nat (ha.v (i / 8))
  have h := byt_step x ⟨i % 8, by omega⟩
  have k1 : keepAt (i : Int) (i / 8) = ((i % 8 : Nat) : Int) := by
    unfold keepAt clampI; split <;> split <;> omega
  have k2 : keepAt ((i + 1 : Nat) : Int) (i / 8) = ((i % 8 : Nat) : Int) + 1 := by
    unfold keepAt clampI; split <;> split <;> omega
  unfold maskB bitF
  rw [k1, k2, hx]
  exact h
theorem rm_step {a : Fin 16 → Int} {i off j : Nat} {V : Int} (ho : off = i / 8) (hV : V = maskB a ((i + 1 : Nat) : Int) (i / 8)) : (bif Nat.ble off j && Nat.blt j (off + 1) then V else maskB a (i : Int) j) = maskB a ((i + 1 : Nat) : Int) j := by
  by_cases h : j = i / 8
  · rw [rng_in (by omega), cond_true, hV, h]
  · rw [rng_out (by omega), cond_false, maskB_ne h]
theorem maskB_zero {a : Fin 16 → Int} (ha : byteOk a) (j : Nat) : maskB a ((0 : Nat) : Int) j = 0 := by
  obtain ⟨x, hx⟩ := byte_nat (ha.v j)
  unfold maskB
  rw [hx, show keepAt ((0 : Nat) : Int) j = 0 by unfold keepAt clampI; split <;> split <;> omega]
  exact byt_zero x
set_option maxRecDepth 10000 in
theorem rmask_ok (a : Fin 16 → Int) (b : Int) (ha : byteOk a) : PureOk Try.prog 52 [(cE (eA .u8 16)).enc a, (cI .i64).enc b] ((cE ePfx).enc (maskP a b)) := by
  have hb := clampI_in b (lo := 0) (hi := 128) (by omega)
  refine pure_intro (wd := 1) (Q := mkQ LR0) (by decide) tysOk (q_of LR0_ok) mixed Try.func52 rfl _ (by show 2 ≤ _; decide) _ ?_
  refine loop_intro (mono_of LR0_ok) (fun i : {i : Nat // (i : Int) ≤ clampI b 0 128} => (⟨[(1, one (.int .i64 (clampI b 0 128))), (2, one (.ptr 0 0 0 false)), (4, one (.ptr 1 0 0 false)), (5, one (.ptr 8 0 0 false)), (6, one (.int .i64 (i.1 : Int)))],
    [(0, some ⟨24, 1, 16, true, fun _ => (eA .u8 16).cell a⟩), (1, some ⟨72, 1, 17, true, fun _ _ => .top⟩), (8, some ⟨72, 1, 17, true, fun _ j => .int (bif Nat.blt j 16 then .u8 else .i64) (bif Nat.blt j 16 then maskB a i.1 j else clampI b 0 128)⟩)], 11⟩ : Hd)) (fun i => 128 - i.1) (fun _ => rfl) ?_ ⟨0, by omega⟩ [] ?_
  · rintro ⟨i, hi⟩
    dsimp only at hi ⊢
    have hq : IntKind.i64.wrap ((i : Int).tdiv 8) = (i : Int) / 8 := by rw [Int.tdiv_eq_ediv_of_nonneg (by omega)]; exact IntWalk.i64_in _ (by omega)
    have hr : IntKind.u64.wrap ((i : Int).tmod 8) = (i : Int) % 8 := by rw [Int.tmod_eq_emod_of_nonneg (by omega)]; exact IntWalk.u64_in _ (by omega)
    have hsh : IntKind.u64.wrap (7 - IntKind.u64.wrap ((i : Int).tmod 8)) = 7 - (i : Int) % 8 := by rw [hr]; exact IntWalk.u64_in _ (by omega)
    have hk : (i : Int) < clampI b 0 128 → Nat.blt (0 + 0 + (IntKind.i64.wrap ((i : Int).tdiv 8)).toNat * 1 + 0) 16 = true := fun h => by rw [hq]; exact Nat.ble_eq_true_of_le (by omega)
    repeat' (first | (apply And.intro <;> intro hc <;> (first | exact Bool.noConfusion hc | (simp only [decide_eq_true_eq, decide_eq_false_iff_not, Bool.not_eq_true', Bool.not_eq_false', beq_iff_eq, beq_eq_false_iff_ne, bne_iff_ne, bne_eq_false_iff_eq, Bool.true_eq_false, Bool.false_eq_true] at hc) | skip)) | (refine And.intro (by first | exact trivial | decide | omega | (dsimp only; omega) | exact fun _ _ => rfl) ?_) | (apply And.intro) | (intro s hs))
    · rw [hk hc]
      repeat' (first | (apply And.intro <;> intro hc <;> (first | exact Bool.noConfusion hc | (simp only [decide_eq_true_eq, decide_eq_false_iff_not, Bool.not_eq_true', Bool.not_eq_false', beq_iff_eq, beq_eq_false_iff_ne, bne_iff_ne, bne_eq_false_iff_eq, Bool.true_eq_false, Bool.false_eq_true] at hc) | skip)) | (refine And.intro (by first | exact trivial | decide | omega | (dsimp only; omega) | exact fun _ _ => rfl) ?_) | (apply And.intro) | (intro s hs))
      · have e1 : s = bitF a i := hs.trans (bit_rd a i)
        have ho : 0 + 0 + (IntKind.i64.wrap ((i : Int).tdiv 8)).toNat * 1 = i / 8 := by rw [hq]; omega
        have hV : bits .or .u8 (maskB a (i : Int) (0 + 0 + (IntKind.i64.wrap ((i : Int).tdiv 8)).toNat * 1 + 0)) (shlI .u8 s (IntKind.u64.wrap (7 - IntKind.u64.wrap ((i : Int).tmod 8)))) = maskB a ((i + 1 : Nat) : Int) (i / 8) := by
          rw [Nat.add_zero, ho, hsh, e1, ← maskB_at ha i, show ((i % 8 : Nat) : Int) = (i : Int) % 8 by omega]
        refine ⟨⟨i + 1, by omega⟩, [], by dsimp only; omega, rfl, ?_, ?_⟩
        · repeat' (first | exact trivial | exact rfl | exact leF_ptr rfl | exact leF_int rfl | exact leF_bool rfl | exact leF_cl (cl_slB _ _) | exact leF_cl (cl_slR _ _) | exact leF_cl (cl_ll _ _) | exact leF_c (leC_os rfl rfl) | refine leF_int ?_ | refine leF_bool ?_ | exact leN_varA (fun _ _ => (Elem.flat _ _ _).le) | exact leN_varA (fun _ _ => leC_top) | apply And.intro)
          refine (IntWalk.i64_in _ ?_).trans ?_
          · constructor <;> omega
          · dsimp only
            omega
        · repeat' (first | exact trivial | exact rfl | exact leF_ptr rfl | exact leF_int rfl | exact leF_bool rfl | exact leF_cl (cl_slB _ _) | exact leF_cl (cl_slR _ _) | exact leF_cl (cl_ll _ _) | exact leF_c (leC_os rfl rfl) | refine leF_int ?_ | refine leF_bool ?_ | exact leN_varA (fun _ _ => (Elem.flat _ _ _).le) | exact leN_varA (fun _ _ => leC_top) | apply And.intro)
          refine leN_var ?_
          repeat' (first | exact trivial | exact leC_int (rm_step ho hV) | apply And.intro)
          refine cond_out (b := Nat.ble (0 + 0 + (IntKind.i64.wrap ((i : Int).tdiv 8)).toNat * 1) 16 && Nat.blt 16 (0 + 0 + (IntKind.i64.wrap ((i : Int).tdiv 8)).toNat * 1 + 1)) (y := .int .i64 (clampI b 0 128)) (z := .int .i64 (clampI b 0 128)) ?_ ?_
          · exact rng_out (by rw [ho]; omega)
          · exact leC_int rfl
    · have hib : (i : Int) = clampI b 0 128 := by omega
      refine Done.mk (leF_e (leE_all ?_))
      rw [hib]
      repeat' (first | exact trivial | exact leC_int rfl | apply And.intro)
  · refine ⟨rfl, ?_, ?_⟩
    · repeat' (first | exact trivial | exact rfl | exact leF_ptr rfl | exact leF_int rfl | exact leF_bool rfl | exact leF_cl (cl_slB _ _) | exact leF_cl (cl_slR _ _) | exact leF_cl (cl_ll _ _) | exact leF_c (leC_os rfl rfl) | refine leF_int ?_ | refine leF_bool ?_ | exact leN_varA (fun _ _ => (Elem.flat _ _ _).le) | exact leN_varA (fun _ _ => leC_top) | apply And.intro)
    · repeat' (first | exact trivial | exact rfl | exact leF_ptr rfl | exact leF_int rfl | exact leF_bool rfl | exact leF_cl (cl_slB _ _) | exact leF_cl (cl_slR _ _) | exact leF_cl (cl_ll _ _) | exact leF_c (leC_os rfl rfl) | refine leF_int ?_ | refine leF_bool ?_ | exact leN_varA (fun _ _ => (Elem.flat _ _ _).le) | exact leN_varA (fun _ _ => leC_top) | apply And.intro)
      refine leN_var ?_
      repeat' (first | exact trivial | exact leC_int (maskB_zero ha _).symm | exact leC_int rfl | apply And.intro)
def LR1 : CsL := (42, some (pureE (AC.cons (cE ePfx) AC.nil) (fun a => byteOk a.1.ip) (fun a => vpf a.1) cB.enc)) :: (52, some (pureE (AC.cons (cE (eA .u8 16)) (AC.cons (cI .i64) AC.nil)) (fun a => byteOk a.1) (fun a => maskP a.1 a.2.1) (cE ePfx).enc)) :: LR0
theorem LR1_ok : AllOk Try.prog LR1 := ⟨pureE_ok ⟨_, Try.func42, rfl, by kernel_rfl⟩ fun a h => rvpf_ok a.1 h, pureE_ok ⟨_, Try.func52, rfl, by kernel_rfl⟩ fun a h => rmask_ok a.1 a.2.1 h, LR0_ok⟩
/-! ### Of -/
def ofB (x y : Int) (j : Nat) : Int := IntKind.u8.wrap (shrI .u64 (bif Nat.blt j 8 then x else y) (56 - 8 * ((j % 8 : Nat) : Int)))
def ofF (x y : Int) : Fin 16 → Int := fun q => ofB x y q.1
theorem of_byteOk (x y : Int) : byteOk (ofF x y) := by
  refine ⟨fun q => ?_⟩
  have h : ∀ z, 0 ≤ IntKind.u8.wrap z ∧ IntKind.u8.wrap z < 256 := fun z => by
    simp only [IntKind.wrap, IntKind.signed, IntKind.bits]
    constructor
    · exact Int.emod_nonneg _ (by decide)
    · exact Int.emod_lt_of_pos _ (by decide)
  exact h _
theorem of_step {x y v1 v2 : Int} {i off1 off2 j : Nat} (h1 : off1 = i) (h2 : off2 = 8 + i) (hi : i < 8) (hj : j < 16) (e1 : v1 = ofB x y i) (e2 : v2 = ofB x y (8 + i)) :
    (bif Nat.ble off2 j && Nat.blt j (off2 + 1) then v2 else (bif Nat.ble off1 j && Nat.blt j (off1 + 1) then v1 else if j % 8 < i then ofB x y j else 0)) = if j % 8 < i + 1 then ofB x y j else 0 := by
  by_cases a : j = 8 + i
  · rw [rng_in (by omega), cond_true, e2, if_pos (by omega), a]
  · rw [rng_out (by omega), cond_false]
    by_cases b : j = i
    · rw [rng_in (by omega), cond_true, e1, if_pos (by omega), b]
    · rw [rng_out (by omega), cond_false]
      by_cases c : j % 8 < i
      · rw [if_pos c, if_pos (by omega)]
      · rw [if_neg c, if_neg (by omega)]
set_option maxRecDepth 10000 in
theorem of_ok (x y : Int) : PureOk Try.prog 53 [(cI .u64).enc x, (cI .u64).enc y] ((cE (eA .u8 16)).enc (ofF x y)) := by
  refine pure_intro (wd := 1) (Q := mkQ LR0) (by decide) tysOk (q_of LR0_ok) mixed Try.func53 rfl _ (by show 2 ≤ _; decide) _ ?_
  refine loop_intro (mono_of LR0_ok) (fun i : {i : Nat // i ≤ 8} => (⟨[(0, one (.int .u64 x)), (1, one (.int .u64 y)), (4, one (.ptr 0 0 0 false)), (5, one (.ptr 1 0 0 false)), (6, one (.int .i64 (i.1 : Int)))],
    [(0, some ⟨24, 1, 16, true, fun _ _ => .top⟩), (1, some ⟨24, 1, 16, true, fun _ j => .int .u8 (if j % 8 < i.1 then ofB x y j else 0)⟩)], 3⟩ : Hd)) (fun i => 8 - i.1) (fun _ => rfl) ?_ ⟨0, by omega⟩ [] ?_
  · rintro ⟨i, hi⟩
    dsimp only at hi ⊢
    have h8 : IntKind.i64.wrap (8 + (i : Int)) = 8 + i := IntWalk.i64_in _ (by omega)
    have hu : IntKind.u64.wrap (i : Int) = i := IntWalk.u64_in _ (by omega)
    have hu8 : IntKind.u64.wrap (8 * IntKind.u64.wrap (i : Int)) = 8 * i := by rw [hu]; exact IntWalk.u64_in _ (by omega)
    have hsh : i < 8 → IntKind.u64.wrap (56 - IntKind.u64.wrap (8 * IntKind.u64.wrap (i : Int))) = 56 - 8 * i := fun h => by rw [hu8]; exact IntWalk.u64_in _ (by omega)
    repeat' (first | (apply And.intro <;> intro hc <;> (first | exact Bool.noConfusion hc | (simp only [decide_eq_true_eq, decide_eq_false_iff_not, Bool.not_eq_true', Bool.not_eq_false', beq_iff_eq, beq_eq_false_iff_ne, bne_iff_ne, bne_eq_false_iff_eq, Bool.true_eq_false, Bool.false_eq_true] at hc) | skip)) | (refine And.intro (by first | exact trivial | decide | omega | (dsimp only; omega) | exact fun _ _ => rfl) ?_) | (apply And.intro) | (intro s hs))
    · have hs := hsh (by omega)
      have o1 : 0 + ((i : Int)).toNat * 1 = i := by omega
      have o2 : 0 + (IntKind.i64.wrap (8 + (i : Int))).toNat * 1 = 8 + i := by rw [h8]; omega
      have e1 : IntKind.u8.wrap (shrI .u64 x (IntKind.u64.wrap (56 - IntKind.u64.wrap (8 * IntKind.u64.wrap (i : Int))))) = ofB x y i := by
        unfold ofB
        rw [hs, show Nat.blt i 8 = true from Nat.ble_eq_true_of_le (by omega), show i % 8 = i by omega]; rfl
      have e2 : IntKind.u8.wrap (shrI .u64 y (IntKind.u64.wrap (56 - IntKind.u64.wrap (8 * IntKind.u64.wrap (i : Int))))) = ofB x y (8 + i) := by
        unfold ofB
        rw [hs, show Nat.blt (8 + i) 8 = false from by cases hb : Nat.blt (8 + i) 8 with
          | false => rfl
          | true => have := Nat.le_of_ble_eq_true hb; omega, show (8 + i) % 8 = i by omega]; rfl
      refine ⟨⟨i + 1, by omega⟩, [], by dsimp only; omega, rfl, ?_, ?_⟩
      · repeat' (first | exact trivial | exact rfl | exact leF_ptr rfl | exact leF_int rfl | exact leF_bool rfl | exact leF_cl (cl_slB _ _) | exact leF_cl (cl_slR _ _) | exact leF_cl (cl_ll _ _) | exact leF_c (leC_os rfl rfl) | refine leF_int ?_ | refine leF_bool ?_ | exact leN_varA (fun _ _ => (Elem.flat _ _ _).le) | exact leN_varA (fun _ _ => leC_top) | apply And.intro)
        refine (IntWalk.i64_in _ ?_).trans ?_
        · constructor <;> omega
        · dsimp only
          omega
      · repeat' (first | exact trivial | exact rfl | exact leF_ptr rfl | exact leF_int rfl | exact leF_bool rfl | exact leF_cl (cl_slB _ _) | exact leF_cl (cl_slR _ _) | exact leF_cl (cl_ll _ _) | exact leF_c (leC_os rfl rfl) | refine leF_int ?_ | refine leF_bool ?_ | exact leN_varA (fun _ _ => (Elem.flat _ _ _).le) | exact leN_varA (fun _ _ => leC_top) | apply And.intro)
        refine leN_varA fun j hj => ?_
        exact leC_int (of_step (j := j) o1 o2 (by omega) hj e1 e2)
    · have h8' : i = 8 := by omega
      subst h8'
      refine Done.mk (leF_e (leE_all ?_))
      repeat' (first | exact trivial | exact leC_int rfl | apply And.intro)
  · refine ⟨rfl, ?_, ?_⟩
    · repeat' (first | exact trivial | exact rfl | exact leF_ptr rfl | exact leF_int rfl | exact leF_bool rfl | exact leF_cl (cl_slB _ _) | exact leF_cl (cl_slR _ _) | exact leF_cl (cl_ll _ _) | exact leF_c (leC_os rfl rfl) | refine leF_int ?_ | refine leF_bool ?_ | exact leN_varA (fun _ _ => (Elem.flat _ _ _).le) | exact leN_varA (fun _ _ => leC_top) | apply And.intro)
    · repeat' (first | exact trivial | exact rfl | exact leF_ptr rfl | exact leF_int rfl | exact leF_bool rfl | exact leF_cl (cl_slB _ _) | exact leF_cl (cl_slR _ _) | exact leF_cl (cl_ll _ _) | exact leF_c (leC_os rfl rfl) | refine leF_int ?_ | refine leF_bool ?_ | exact leN_varA (fun _ _ => (Elem.flat _ _ _).le) | exact leN_varA (fun _ _ => leC_top) | apply And.intro)
      refine leN_var ?_
      repeat' (first | exact trivial | exact leC_int rfl | apply And.intro)
def LR2 : CsL := (53, some (pureE (AC.cons (cI .u64) (AC.cons (cI .u64) AC.nil)) (fun _ => True) (fun a => ofF a.1 a.2.1) (cE (eA .u8 16)).enc)) :: LR1
theorem LR2_ok : AllOk Try.prog LR2 := ⟨pureE_ok ⟨_, Try.func53, rfl, by kernel_rfl⟩ fun a _ => of_ok a.1 a.2.1, LR1_ok⟩
end Go.Proofs.Ythbhidfohdipnaa.AX

/- Layer 2 by AX2: the Internet checksum of the program and of the reference. -/
namespace Go.Proofs.Ythbhidfohdipnaa.AX
open Go.RowKit
set_option linter.unusedVariables false
set_option linter.unusedSimpArgs false
def toU (l : List Int) : List UInt8 := l.map fun x => UInt8.ofNat x.toNat
theorem toU_app (l m : List Int) : toU (l ++ m) = toU l ++ toU m := by simp [toU]
theorem toU_len (l : List Int) : (toU l).length = l.length := by simp [toU]
theorem u8n {c : Int} (h : 0 ≤ c ∧ c < 256) : ((UInt8.ofNat c.toNat).toNat : Int) = c := by
  rw [UInt8.toNat_ofNat', Nat.mod_eq_of_lt (by omega)]; omega
def totI (l : List Int) : Nat := tot true (toU l)
def inetF (l : List Int) : Int := 65535 - (foldN (totI l) : Int)
theorem totI_le (l : List Int) : totI l ≤ 32768 * l.length + 32768 := by have := tot_le (toU l); rw [toU_len] at this; exact this
theorem side_toU (l : List Int) : side true (toU l) = decide (l.length % 2 = 0) := by
  unfold side
  rw [toU_len]
  rcases Nat.mod_two_eq_zero_or_one l.length with h | h <;> simp [h]
theorem totI_snoc (l : List Int) (c : Int) (hc : 0 ≤ c ∧ c < 256) : (totI (l ++ [c]) : Int) = totI l + if l.length % 2 = 0 then c * 256 else c := by
  unfold totI
  rw [toU_app, show toU [c] = [UInt8.ofNat c.toNat] from rfl, tot_snoc, side_toU]
  have := u8n hc
  by_cases h : l.length % 2 = 0
  · simp [h]; omega
  · simp [h]; omega
structure FdS (n : Nat) where
  x : Nat
  hx : x ≤ n
  h : foldN x = foldN n
set_option maxHeartbeats 4000000 in
theorem fold_ok (n : Nat) (hn : n ≤ 5000000000000000000) : PureOk Try.prog 64 [(cI .u64).enc n] ((cI .u16).enc (foldN n)) := by
  refine pure_intro (wd := 1) (Q := mkQ LE0) (by decide) tysOk (q_of LE0_ok) mixed Try.func64 rfl _ (by show 1 ≤ _; decide) _ ?_
  repeat' (first | (apply And.intro <;> intro hc <;> (first | exact Bool.noConfusion hc | (simp only [decide_eq_true_eq, decide_eq_false_iff_not, Bool.not_eq_true', Bool.not_eq_false', beq_iff_eq, beq_eq_false_iff_ne, bne_iff_ne, bne_eq_false_iff_eq, Bool.true_eq_false, Bool.false_eq_true] at hc) | skip)) | (refine And.intro (by first | exact trivial | decide | omega | (dsimp only; omega) | exact fun _ _ => rfl) ?_) | (apply And.intro) | (intro s hs))
  refine loop_intro (mono_of LE0_ok) (fun s : FdS n => (⟨[(0, one (.int .u64 (s.x : Int)))], [], 0⟩ : Hd)) (fun s => s.x) (fun _ => rfl) ?_ ⟨n, Nat.le_refl _, rfl⟩ [] ?_
  · rintro ⟨x, hx, h⟩
    dsimp only at hx h ⊢
    repeat' (first | (apply And.intro <;> intro hc <;> (first | exact Bool.noConfusion hc | (simp only [decide_eq_true_eq, decide_eq_false_iff_not, Bool.not_eq_true', Bool.not_eq_false', beq_iff_eq, beq_eq_false_iff_ne, bne_iff_ne, bne_eq_false_iff_eq, Bool.true_eq_false, Bool.false_eq_true] at hc) | skip)) | (refine And.intro (by first | exact trivial | decide | omega | (dsimp only; omega) | exact fun _ _ => rfl) ?_) | (apply And.intro) | (intro s hs))
    · have hc' : 65535 < x := by omega
      refine ⟨⟨x % 65536 + x / 65536, by omega, by rw [foldN_step hc']; exact h⟩, [], by dsimp only; omega, rfl, ?_, ?_⟩
      · repeat' (first | exact trivial | exact rfl | exact leF_ptr rfl | exact leF_int rfl | exact leF_bool rfl | exact leF_cl (cl_slB _ _) | exact leF_cl (cl_slR _ _) | exact leF_cl (cl_ll _ _) | exact leF_c (leC_os rfl rfl) | refine leF_int ?_ | refine leF_bool ?_ | exact leN_varA (fun _ _ => (Elem.flat _ _ _).le) | exact leN_varA (fun _ _ => leC_top) | apply And.intro)
        dsimp only
        rw [IntWalk.u64_in ((x : Int).tdiv 65536) (by rw [Int.tdiv_eq_ediv_of_nonneg (by omega)]; omega), IntWalk.u64_in _ (by rw [Int.tmod_eq_emod_of_nonneg (by omega), Int.tdiv_eq_ediv_of_nonneg (by omega)]; omega), Int.tmod_eq_emod_of_nonneg (by omega), Int.tdiv_eq_ediv_of_nonneg (by omega)]
        omega
      · repeat' (first | exact trivial | exact rfl | exact leF_ptr rfl | exact leF_int rfl | exact leF_bool rfl | exact leF_cl (cl_slB _ _) | exact leF_cl (cl_slR _ _) | exact leF_cl (cl_ll _ _) | exact leF_c (leC_os rfl rfl) | refine leF_int ?_ | refine leF_bool ?_ | exact leN_varA (fun _ _ => (Elem.flat _ _ _).le) | exact leN_varA (fun _ _ => leC_top) | apply And.intro)
    · refine Done.mk (leF_int ?_)
      rw [← h, foldN_small (by omega)]
      exact IntWalk.u16_in _ (by omega)
  · refine ⟨rfl, ?_, ?_⟩
    · repeat' (first | exact trivial | exact rfl | exact leF_ptr rfl | exact leF_int rfl | exact leF_bool rfl | exact leF_cl (cl_slB _ _) | exact leF_cl (cl_slR _ _) | exact leF_cl (cl_ll _ _) | exact leF_c (leC_os rfl rfl) | refine leF_int ?_ | refine leF_bool ?_ | exact leN_varA (fun _ _ => (Elem.flat _ _ _).le) | exact leN_varA (fun _ _ => leC_top) | apply And.intro)
    · repeat' (first | exact trivial | exact rfl | exact leF_ptr rfl | exact leF_int rfl | exact leF_bool rfl | exact leF_cl (cl_slB _ _) | exact leF_cl (cl_slR _ _) | exact leF_cl (cl_ll _ _) | exact leF_c (leC_os rfl rfl) | refine leF_int ?_ | refine leF_bool ?_ | exact leN_varA (fun _ _ => (Elem.flat _ _ _).le) | exact leN_varA (fun _ _ => leC_top) | apply And.intro)
set_option maxHeartbeats 4000000 in
theorem rfold_ok (n : Nat) (hn : n ≤ 5000000000000000000) : PureOk Try.prog 80 [(cI .i64).enc n] ((cI .u16).enc (foldN n)) := by
  refine pure_intro (wd := 1) (Q := mkQ LE0) (by decide) tysOk (q_of LE0_ok) mixed Try.func80 rfl _ (by show 1 ≤ _; decide) _ ?_
  repeat' (first | (apply And.intro <;> intro hc <;> (first | exact Bool.noConfusion hc | (simp only [decide_eq_true_eq, decide_eq_false_iff_not, Bool.not_eq_true', Bool.not_eq_false', beq_iff_eq, beq_eq_false_iff_ne, bne_iff_ne, bne_eq_false_iff_eq, Bool.true_eq_false, Bool.false_eq_true] at hc) | skip)) | (refine And.intro (by first | exact trivial | decide | omega | (dsimp only; omega) | exact fun _ _ => rfl) ?_) | (apply And.intro) | (intro s hs))
  refine loop_intro (mono_of LE0_ok) (fun s : FdS n => (⟨[(0, one (.int .i64 (s.x : Int)))], [], 0⟩ : Hd)) (fun s => s.x) (fun _ => rfl) ?_ ⟨n, Nat.le_refl _, rfl⟩ [] ?_
  · rintro ⟨x, hx, h⟩
    dsimp only at hx h ⊢
    repeat' (first | (apply And.intro <;> intro hc <;> (first | exact Bool.noConfusion hc | (simp only [decide_eq_true_eq, decide_eq_false_iff_not, Bool.not_eq_true', Bool.not_eq_false', beq_iff_eq, beq_eq_false_iff_ne, bne_iff_ne, bne_eq_false_iff_eq, Bool.true_eq_false, Bool.false_eq_true] at hc) | skip)) | (refine And.intro (by first | exact trivial | decide | omega | (dsimp only; omega) | exact fun _ _ => rfl) ?_) | (apply And.intro) | (intro s hs))
    · have hc' : 65535 < x := by omega
      refine ⟨⟨x % 65536 + x / 65536, by omega, by rw [foldN_step hc']; exact h⟩, [], by dsimp only; omega, rfl, ?_, ?_⟩
      · repeat' (first | exact trivial | exact rfl | exact leF_ptr rfl | exact leF_int rfl | exact leF_bool rfl | exact leF_cl (cl_slB _ _) | exact leF_cl (cl_slR _ _) | exact leF_cl (cl_ll _ _) | exact leF_c (leC_os rfl rfl) | refine leF_int ?_ | refine leF_bool ?_ | exact leN_varA (fun _ _ => (Elem.flat _ _ _).le) | exact leN_varA (fun _ _ => leC_top) | apply And.intro)
        dsimp only
        rw [IntWalk.i64_in ((x : Int).tdiv 65536) (by rw [Int.tdiv_eq_ediv_of_nonneg (by omega)]; omega), IntWalk.i64_in _ (by rw [Int.tmod_eq_emod_of_nonneg (by omega), Int.tdiv_eq_ediv_of_nonneg (by omega)]; omega), Int.tmod_eq_emod_of_nonneg (by omega), Int.tdiv_eq_ediv_of_nonneg (by omega)]
        omega
      · repeat' (first | exact trivial | exact rfl | exact leF_ptr rfl | exact leF_int rfl | exact leF_bool rfl | exact leF_cl (cl_slB _ _) | exact leF_cl (cl_slR _ _) | exact leF_cl (cl_ll _ _) | exact leF_c (leC_os rfl rfl) | refine leF_int ?_ | refine leF_bool ?_ | exact leN_varA (fun _ _ => (Elem.flat _ _ _).le) | exact leN_varA (fun _ _ => leC_top) | apply And.intro)
    · refine Done.mk (leF_int ?_)
      rw [← h, foldN_small (by omega)]
      exact IntWalk.u16_in _ (by omega)
  · refine ⟨rfl, ?_, ?_⟩
    · repeat' (first | exact trivial | exact rfl | exact leF_ptr rfl | exact leF_int rfl | exact leF_bool rfl | exact leF_cl (cl_slB _ _) | exact leF_cl (cl_slR _ _) | exact leF_cl (cl_ll _ _) | exact leF_c (leC_os rfl rfl) | refine leF_int ?_ | refine leF_bool ?_ | exact leN_varA (fun _ _ => (Elem.flat _ _ _).le) | exact leN_varA (fun _ _ => leC_top) | apply And.intro)
    · repeat' (first | exact trivial | exact rfl | exact leF_ptr rfl | exact leF_int rfl | exact leF_bool rfl | exact leF_cl (cl_slB _ _) | exact leF_cl (cl_slR _ _) | exact leF_cl (cl_ll _ _) | exact leF_c (leC_os rfl rfl) | refine leF_int ?_ | refine leF_bool ?_ | exact leN_varA (fun _ _ => (Elem.flat _ _ _).le) | exact leN_varA (fun _ _ => leC_top) | apply And.intro)
/-! ### The sum of the words of parts -/
def hiB (l : List Int) : Bool := decide (l.length % 2 = 0)
theorem hiB_snoc (l : List Int) (c : Int) : hiB (l ++ [c]) = !hiB l := by
  unfold hiB
  rw [List.length_append, List.length_singleton]
  rcases Nat.mod_two_eq_zero_or_one l.length with h | h
  · have : (l.length + 1) % 2 = 1 := by omega
    simp [h, this]
  · have : (l.length + 1) % 2 = 0 := by omega
    simp [h, this]
theorem totI_hi (l : List Int) (c : Int) (hc : 0 ≤ c ∧ c < 256) (h : hiB l = true) : (totI (l ++ [c]) : Int) = totI l + c * 256 := by
  rw [totI_snoc l c hc, if_pos (by simpa [hiB] using h)]
theorem totI_lo (l : List Int) (c : Int) (hc : 0 ≤ c ∧ c < 256) (h : hiB l = false) : (totI (l ++ [c]) : Int) = totI l + c := by
  rw [totI_snoc l c hc, if_neg (by simpa [hiB] using h)]
theorem flat_take {L : List (List Int)} {k : Nat} (h : k < L.length) : (L.take (k + 1)).flatten = (L.take k).flatten ++ L.getD k [] := by
  rw [List.take_succ_eq_append_getElem h, List.flatten_append, List.getD_eq_getElem?_getD, List.getElem?_eq_getElem h]
  simp
structure BLL (L : List (List Int)) : Prop where
  m : ∀ l ∈ L, BL l
theorem BLL.get {L : List (List Int)} (h : BLL L) (k : Nat) : BL (L.getD k []) := by
  rcases Nat.lt_or_ge k L.length with hi | hi
  · rw [List.getD_eq_getElem?_getD, List.getElem?_eq_getElem hi]; exact h.m _ (List.getElem_mem hi)
  · rw [List.getD_eq_getElem?_getD, List.getElem?_eq_none hi]; exact BL.nil
theorem BLL.flat {L : List (List Int)} (h : BLL L) : BL L.flatten := ⟨fun x hx => by
  obtain ⟨l, hl, hxl⟩ := List.mem_flatten.1 hx
  exact (h.m l hl).m x hxl⟩
theorem flat_le (L : List (List Int)) (k : Nat) : (L.take k).flatten.length ≤ L.flatten.length := by
  have h : L.flatten = (L.take k).flatten ++ (L.drop k).flatten := by rw [← List.flatten_append, List.take_append_drop]
  rw [h]; simp
structure TtS (L : List (List Int)) (k : Nat) where
  i : Nat
  hi : i ≤ (L.getD k []).length
set_option maxHeartbeats 8000000 in
set_option maxRecDepth 20000 in
theorem total_ok (L : List (List Int)) (hL : BLL L) (hn : L.length ≤ 4611686018427387904) (hf : L.flatten.length ≤ 281474976710000) : PureOk Try.prog 65 [(cLL eB eB_sz).enc L] ((cI .u64).enc (totI L.flatten)) := by
  refine pure_intro (wd := 1) (Q := mkQ LE0) (by decide) tysOk (q_of LE0_ok) mixed Try.func65 rfl _ (by show 1 ≤ _; decide) _ ?_
  repeat' (first | (apply And.intro <;> intro hc <;> (first | exact Bool.noConfusion hc | (simp only [decide_eq_true_eq, decide_eq_false_iff_not, Bool.not_eq_true', Bool.not_eq_false', beq_iff_eq, beq_eq_false_iff_ne, bne_iff_ne, bne_eq_false_iff_eq, Bool.true_eq_false, Bool.false_eq_true] at hc) | skip)) | (refine And.intro (by first | exact trivial | decide | omega | (dsimp only; omega) | exact fun _ _ => rfl) ?_) | (apply And.intro) | (intro s hs))
  refine loop_intro (mono_of LE0_ok) (fun s : {k : Nat // k ≤ L.length} => (⟨[(3, one (.int .u64 (totI (L.take s.1).flatten))), (4, one (.bool (hiB (L.take s.1).flatten))), (9, one (.sl false L.length 1 (rowFF eB L))), (10, one (.int .i64 (L.length : Int))), (11, one (.int .i64 (s.1 : Int)))], [], 0⟩ : Hd)) (fun s => L.length - s.1) (fun _ => rfl) ?_ ⟨0, by omega⟩ [] ?_
  · rintro ⟨k, hk⟩
    dsimp only at hk ⊢
    repeat' (first | (apply And.intro <;> intro hc <;> (first | exact Bool.noConfusion hc | (simp only [decide_eq_true_eq, decide_eq_false_iff_not, Bool.not_eq_true', Bool.not_eq_false', beq_iff_eq, beq_eq_false_iff_ne, bne_iff_ne, bne_eq_false_iff_eq, Bool.true_eq_false, Bool.false_eq_true] at hc) | skip)) | (refine And.intro (by first | exact trivial | decide | omega | (dsimp only; omega) | exact fun _ _ => rfl) ?_) | (apply And.intro) | (intro s hs))
    · have hk' : k < L.length := by omega
      obtain ⟨w, hw⟩ : ∃ w, L.getD k [] = w := ⟨_, rfl⟩
      have hwB : BL w := by rw [← hw]; exact hL.get k
      obtain ⟨Q, hQ⟩ : ∃ Q, Q = (L.take k).flatten := ⟨_, rfl⟩
      have hQw : Q.length + w.length ≤ 281474976710000 := by
        have h1 := flat_le L (k + 1)
        rw [flat_take hk', List.length_append, hw, ← hQ] at h1
        omega
      rw [← hQ]
      refine loop_intro (mono_of LE0_ok) (fun s : {i : Nat // i ≤ w.length} => (⟨[(3, one (.int .u64 (totI (Q ++ w.take s.1)))), (4, one (.bool (hiB (Q ++ w.take s.1)))), (9, one (.sl false L.length 1 (rowFF eB L))), (10, one (.int .i64 (L.length : Int))), (11, one (.int .i64 (k : Int))), (15, one (.sl false w.length eB.sz (rowF eB w))), (16, one (.int .i64 (w.length : Int))), (17, one (.int .i64 (s.1 : Int)))], [], 0⟩ : Hd)) (fun s => w.length - s.1) (fun _ => rfl) ?_ ⟨0, by omega⟩ [] ?_
      · rintro ⟨i, hi⟩
        dsimp only at hi ⊢
        have hx := hwB.get i
        obtain ⟨c, hcc⟩ : ∃ c, c = w.getD i default := ⟨_, rfl⟩
        rw [← hcc] at hx
        have hle := totI_le (Q ++ w.take i)
        have hlen : (Q ++ w.take i).length ≤ 281474976710000 := by rw [List.length_append, List.length_take]; omega
        have hstep : i < w.length → Q ++ w.take (i + 1) = (Q ++ w.take i) ++ [c] := fun h => by rw [take_snocI h, ← List.append_assoc, hcc]
        have e1 : IntKind.u64.wrap c = c := IntWalk.u64_in _ (by omega)
        have e2 : shlI .u64 (IntKind.u64.wrap c) 8 = c * 256 := by rw [e1]; exact shl8 c (by omega)
        repeat' (first | (apply And.intro <;> intro hc <;> (first | exact Bool.noConfusion hc | (simp only [decide_eq_true_eq, decide_eq_false_iff_not, Bool.not_eq_true', Bool.not_eq_false', beq_iff_eq, beq_eq_false_iff_ne, bne_iff_ne, bne_eq_false_iff_eq, Bool.true_eq_false, Bool.false_eq_true] at hc) | skip)) | (refine And.intro (by first | exact trivial | decide | omega | (dsimp only; omega) | exact fun _ _ => rfl) ?_) | (apply And.intro) | (intro s hs))
        · have hlt : i < w.length := by omega
          refine ⟨⟨i + 1, by omega⟩, [], by dsimp only <;> omega, rfl, ?_, ?_⟩
          · repeat' (first | exact trivial | exact rfl | exact leF_ptr rfl | exact leF_int rfl | exact leF_bool rfl | exact leF_cl (cl_slB _ _) | exact leF_cl (cl_slR _ _) | exact leF_cl (cl_ll _ _) | exact leF_c (leC_os rfl rfl) | refine leF_int ?_ | refine leF_bool ?_ | exact leN_varA (fun _ _ => (Elem.flat _ _ _).le) | exact leN_varA (fun _ _ => leC_top) | apply And.intro)
            · have ht := totI_hi (Q ++ w.take i) c hx (by assumption)
              show _ = ((totI (Q ++ w.take (i + 1)) : Nat) : Int)
              rw [hstep hlt, ht, ← e2]
              exact (congrArg _ (by rw [hcc]; rfl)).trans (IntWalk.u64_in _ (by omega))
            · show _ = hiB (Q ++ w.take (i + 1))
              rw [hstep hlt, hiB_snoc]
            · first | (dsimp only; rw [IntWalk.i64_in _ (by omega)]; omega) | (dsimp only; rw [IntWalk.i64_in _ (by omega)]; done) | (dsimp only; exact IntWalk.i64_in _ (by omega)) | exact IntWalk.i64_in _ (by omega) | (rw [IntWalk.i64_in _ (by omega)]; omega)
          · repeat' (first | exact trivial | exact rfl | exact leF_ptr rfl | exact leF_int rfl | exact leF_bool rfl | exact leF_cl (cl_slB _ _) | exact leF_cl (cl_slR _ _) | exact leF_cl (cl_ll _ _) | exact leF_c (leC_os rfl rfl) | refine leF_int ?_ | refine leF_bool ?_ | exact leN_varA (fun _ _ => (Elem.flat _ _ _).le) | exact leN_varA (fun _ _ => leC_top) | apply And.intro)
        · have hlt : i < w.length := by omega
          refine ⟨⟨i + 1, by omega⟩, [], by dsimp only <;> omega, rfl, ?_, ?_⟩
          · repeat' (first | exact trivial | exact rfl | exact leF_ptr rfl | exact leF_int rfl | exact leF_bool rfl | exact leF_cl (cl_slB _ _) | exact leF_cl (cl_slR _ _) | exact leF_cl (cl_ll _ _) | exact leF_c (leC_os rfl rfl) | refine leF_int ?_ | refine leF_bool ?_ | exact leN_varA (fun _ _ => (Elem.flat _ _ _).le) | exact leN_varA (fun _ _ => leC_top) | apply And.intro)
            · have ht := totI_lo (Q ++ w.take i) c hx (by assumption)
              show _ = ((totI (Q ++ w.take (i + 1)) : Nat) : Int)
              rw [hstep hlt, ht, ← e1]
              exact (congrArg _ (by rw [hcc]; rfl)).trans (IntWalk.u64_in _ (by omega))
            · show _ = hiB (Q ++ w.take (i + 1))
              rw [hstep hlt, hiB_snoc]
            · first | (dsimp only; rw [IntWalk.i64_in _ (by omega)]; omega) | (dsimp only; rw [IntWalk.i64_in _ (by omega)]; done) | (dsimp only; exact IntWalk.i64_in _ (by omega)) | exact IntWalk.i64_in _ (by omega) | (rw [IntWalk.i64_in _ (by omega)]; omega)
          · repeat' (first | exact trivial | exact rfl | exact leF_ptr rfl | exact leF_int rfl | exact leF_bool rfl | exact leF_cl (cl_slB _ _) | exact leF_cl (cl_slR _ _) | exact leF_cl (cl_ll _ _) | exact leF_c (leC_os rfl rfl) | refine leF_int ?_ | refine leF_bool ?_ | exact leN_varA (fun _ _ => (Elem.flat _ _ _).le) | exact leN_varA (fun _ _ => leC_top) | apply And.intro)
        · have hend : Q ++ w.take i = (L.take (k + 1)).flatten := by rw [List.take_of_length_le (by omega), flat_take hk', hw, hQ]
          refine ⟨⟨k + 1, by omega⟩, [], by dsimp only <;> omega, rfl, ?_, ?_⟩
          · repeat' (first | exact trivial | exact rfl | exact leF_ptr rfl | exact leF_int rfl | exact leF_bool rfl | exact leF_cl (cl_slB _ _) | exact leF_cl (cl_slR _ _) | exact leF_cl (cl_ll _ _) | exact leF_c (leC_os rfl rfl) | refine leF_int ?_ | refine leF_bool ?_ | exact leN_varA (fun _ _ => (Elem.flat _ _ _).le) | exact leN_varA (fun _ _ => leC_top) | apply And.intro)
            · show _ = ((totI (L.take (k + 1)).flatten : Nat) : Int)
              rw [hend]
            · show _ = hiB (L.take (k + 1)).flatten
              rw [hend]
            · first | (dsimp only; rw [IntWalk.i64_in _ (by omega)]; omega) | (dsimp only; rw [IntWalk.i64_in _ (by omega)]; done) | (dsimp only; exact IntWalk.i64_in _ (by omega)) | exact IntWalk.i64_in _ (by omega) | (rw [IntWalk.i64_in _ (by omega)]; omega)
          · repeat' (first | exact trivial | exact rfl | exact leF_ptr rfl | exact leF_int rfl | exact leF_bool rfl | exact leF_cl (cl_slB _ _) | exact leF_cl (cl_slR _ _) | exact leF_cl (cl_ll _ _) | exact leF_c (leC_os rfl rfl) | refine leF_int ?_ | refine leF_bool ?_ | exact leN_varA (fun _ _ => (Elem.flat _ _ _).le) | exact leN_varA (fun _ _ => leC_top) | apply And.intro)
      · refine ⟨rfl, ?_, ?_⟩
        · repeat' (first | exact trivial | exact rfl | exact leF_ptr rfl | exact leF_int rfl | exact leF_bool rfl | exact leF_cl (cl_slB _ _) | exact leF_cl (cl_slR _ _) | exact leF_cl (cl_ll _ _) | exact leF_c (leC_os rfl rfl) | refine leF_int ?_ | refine leF_bool ?_ | exact leN_varA (fun _ _ => (Elem.flat _ _ _).le) | exact leN_varA (fun _ _ => leC_top) | apply And.intro)
          · show _ = ((totI (Q ++ []) : Nat) : Int)
            rw [List.append_nil]
          · show _ = hiB (Q ++ [])
            rw [List.append_nil]
          · exact leF_c (leC_sl (fun h => by cases h) (by rw [← hw]; rfl) rfl fun i hi j hj => leC_cell (E := eB) (by rw [← hw]; rfl))
          · exact congrArg _ (congrArg _ hw)
        · repeat' (first | exact trivial | exact rfl | exact leF_ptr rfl | exact leF_int rfl | exact leF_bool rfl | exact leF_cl (cl_slB _ _) | exact leF_cl (cl_slR _ _) | exact leF_cl (cl_ll _ _) | exact leF_c (leC_os rfl rfl) | refine leF_int ?_ | refine leF_bool ?_ | exact leN_varA (fun _ _ => (Elem.flat _ _ _).le) | exact leN_varA (fun _ _ => leC_top) | apply And.intro)
    · refine Done.mk (leF_int ?_)
      rw [List.take_of_length_le (by omega)]
  · refine ⟨rfl, ?_, ?_⟩
    · repeat' (first | exact trivial | exact rfl | exact leF_ptr rfl | exact leF_int rfl | exact leF_bool rfl | exact leF_cl (cl_slB _ _) | exact leF_cl (cl_slR _ _) | exact leF_cl (cl_ll _ _) | exact leF_c (leC_os rfl rfl) | refine leF_int ?_ | refine leF_bool ?_ | exact leN_varA (fun _ _ => (Elem.flat _ _ _).le) | exact leN_varA (fun _ _ => leC_top) | apply And.intro)
    · repeat' (first | exact trivial | exact rfl | exact leF_ptr rfl | exact leF_int rfl | exact leF_bool rfl | exact leF_cl (cl_slB _ _) | exact leF_cl (cl_slR _ _) | exact leF_cl (cl_ll _ _) | exact leF_c (leC_os rfl rfl) | refine leF_int ?_ | refine leF_bool ?_ | exact leN_varA (fun _ _ => (Elem.flat _ _ _).le) | exact leN_varA (fun _ _ => leC_top) | apply And.intro)
/-- The entry of a function of a row of slices that is handed on. -/
def llE {R : Type} (p : List (List Int) → Prop) (F : List (List Int) → R) (enc : R → FV) : Entry := fun args H _ _ =>
  match args with
  | [.e (.c (.sl _ n s f))] => bif Nat.beq s 1 then some fun K => ∃ L, (f = rowFF eB L ∧ n = L.length) ∧ p L ∧ K (enc (F L)) [] [] else none
  | _ => none
theorem llE_ok {R : Type} {p : List (List Int) → Prop} {F : List (List Int) → R} {enc : R → FV} {P : Program} {f : FuncId} (hb : hasBody P f) (h : ∀ L, p L → PureOk P f [(cLL eB eB_sz).enc L] (enc (F L))) : EntOk P f (llE p F enc) := by
  refine ⟨fun args H nm wd q _ hq K hK => ?_, fun args H nm wd q hq K K' hKK hK => ?_⟩
  · unfold llE at hq
    split at hq
    · rename_i sh n s g
      obtain ⟨hs, hq⟩ := cond_some hq
      subst hq
      obtain ⟨L, ⟨rfl, rfl⟩, hp, hK⟩ := hK
      have hs := Nat.eq_of_beq_eq_true hs
      subst hs
      refine ⟨_, _, _, callR_pure hb (args' := [(cLL eB eB_sz).enc L]) (rd := []) (fun H' _ => ⟨rfl, fun i x y hx hy => ?_⟩) (h L hp), hK⟩
      cases i with
      | zero =>
        simp only [List.getElem?_cons_zero, Option.some.injEq] at hx hy
        subst hx hy
        rintro cx r w v st ⟨a, cap, rfl, h1, h2⟩
        refine ⟨a, cap, rfl, h1, fun h0 => ?_⟩
        obtain ⟨ad, rfl, hsp, ho, hX, hlt, hc⟩ := h2 h0
        refine ⟨ad, rfl, hsp, fun ⟨k, e, x, q1, q2, q3, _⟩ => ho ⟨k, e, x, q1, q2, q3⟩, (fun h => by cases h), hlt, fun i hi j hj => ?_⟩
        obtain ⟨u, hu, hr⟩ := hc i hi j hj
        refine ⟨u, hu, ?_⟩
        obtain ⟨a', cap', rfl, g1, g2⟩ := hr
        refine ⟨a', cap', rfl, g1, fun h0' => ?_⟩
        obtain ⟨ad', rfl, hsp', ho', hX', hlt', hc'⟩ := g2 h0'
        refine ⟨ad', rfl, hsp', fun ⟨k, e, x, q1, q2, q3, _⟩ => ho' ⟨k, e, x, q1, q2, q3⟩, (fun h => by cases h), hlt', fun i' hi' j' hj' => ?_⟩
        obtain ⟨u', hu', hr'⟩ := hc' i' hi' j' hj'
        exact ⟨u', hu', (eB.flat _ _) _ _ _ _ _ _ _ _ _ hr'⟩
      | succ i => cases i <;> cases hx
    · cases hq
  · unfold llE at hq
    split at hq
    · obtain ⟨hs, hq⟩ := cond_some hq
      subst hq
      obtain ⟨L, h1, h2, h3⟩ := hK
      exact ⟨L, h1, h2, hKK _ _ _ h3⟩
    · cases hq
def LSm0 : CsL := (65, some (llE (fun L => BLL L ∧ L.length ≤ 4611686018427387904 ∧ L.flatten.length ≤ 281474976710000) (fun L => (totI L.flatten : Int)) (cI .u64).enc)) ::
  (64, some (pureE (AC.cons (cI .u64) AC.nil) (fun a => 0 ≤ a.1 ∧ a.1 ≤ 5000000000000000000) (fun a => (foldN a.1.toNat : Int)) (cI .u16).enc)) ::
  (80, some (pureE (AC.cons (cI .i64) AC.nil) (fun a => 0 ≤ a.1 ∧ a.1 ≤ 5000000000000000000) (fun a => (foldN a.1.toNat : Int)) (cI .u16).enc)) :: []
theorem LSm0_ok : AllOk Try.prog LSm0 := ⟨llE_ok ⟨_, Try.func65, rfl, by kernel_rfl⟩ fun L h => total_ok L h.1 h.2.1 h.2.2,
  pureE_ok ⟨_, Try.func64, rfl, by kernel_rfl⟩ fun a h => by have := fold_ok a.1.toNat (by omega); rw [show ((a.1.toNat : Nat) : Int) = a.1 by omega] at this; exact this,
  pureE_ok ⟨_, Try.func80, rfl, by kernel_rfl⟩ fun a h => by have := rfold_ok a.1.toNat (by omega); rw [show ((a.1.toNat : Nat) : Int) = a.1 by omega] at this; exact this, trivial⟩
set_option maxHeartbeats 4000000 in
theorem inet_ok (L : List (List Int)) (hL : BLL L) (hn : L.length ≤ 16) (hf : L.flatten.length ≤ 140737488355328) : PureOk Try.prog 43 [(cLL eB eB_sz).enc L] ((cI .u16).enc (inetF L.flatten)) := by
  have ht := totI_le L.flatten
  have hF := foldN_le (totI L.flatten)
  refine pure_intro (wd := 1) (Q := mkQ LSm0) (by decide) tysOk (q_of LSm0_ok) mixed Try.func43 rfl _ (by show 1 ≤ _; decide) _ ?_
  refine ⟨L, ⟨rfl, rfl⟩, ⟨hL, by omega, by omega⟩, ?_⟩
  refine ⟨⟨by dsimp only; omega, by dsimp only; omega⟩, fun s hs => ?_⟩
  have hs' : s = (foldN (totI L.flatten) : Int) := hs
  subst hs'
  exact Done.mk (leF_int (IntWalk.u16_in _ (by omega)))
structure SuS (l : List Int) where
  k : Nat
  hk : k % 2 = 0
  hle : k ≤ l.length + 1
theorem hiB_take {l : List Int} {k : Nat} (h : k ≤ l.length) : hiB (l.take k) = decide (k % 2 = 0) := by unfold hiB; rw [List.length_take, Nat.min_eq_left h]
theorem totI_two {l : List Int} (hl : BL l) {k : Nat} (hk : k + 1 < l.length) (he : k % 2 = 0) : (totI (l.take (k + 2)) : Int) = totI (l.take k) + (256 * l.getD k default + l.getD (k + 1) default) := by
  rw [take_snocI hk, totI_lo _ _ (hl.get _) (by rw [hiB_take (by omega)]; simp; omega), take_snocI (by omega), totI_hi _ _ (hl.get _) (by rw [hiB_take (by omega)]; simp; omega)]
  omega
theorem totI_one {l : List Int} (hl : BL l) {k : Nat} (hk : k + 1 = l.length) (he : k % 2 = 0) : (totI (l.take (k + 2)) : Int) = totI (l.take k) + 256 * l.getD k default := by
  have e : l.take (k + 2) = l.take k ++ [l.getD k default] := by rw [← take_snocI (by omega), List.take_of_length_le (by omega), List.take_of_length_le (by omega)]
  rw [e, totI_hi _ _ (hl.get _) (by rw [hiB_take (by omega)]; simp; omega)]
  omega
set_option maxHeartbeats 4000000 in
set_option maxRecDepth 20000 in
theorem rsum_ok (l : List Int) (hl : BL l) (hn : l.length ≤ 140737488355328) : PureOk Try.prog 66 [(cSl eB eB_sz).enc l] ((cI .u16).enc (foldN (totI l))) := by
  refine pure_intro (wd := 1) (Q := mkQ LSm0) (by decide) tysOk (q_of LSm0_ok) mixed Try.func66 rfl _ (by show 1 ≤ _; decide) _ ?_
  repeat' (first | (apply And.intro <;> intro hc <;> (first | exact Bool.noConfusion hc | (simp only [decide_eq_true_eq, decide_eq_false_iff_not, Bool.not_eq_true', Bool.not_eq_false', beq_iff_eq, beq_eq_false_iff_ne, bne_iff_ne, bne_eq_false_iff_eq, Bool.true_eq_false, Bool.false_eq_true] at hc) | skip)) | (refine And.intro (by first | exact trivial | decide | omega | (dsimp only; omega) | exact fun _ _ => rfl) ?_) | (apply And.intro) | (intro s hs))
  refine loop_intro (mono_of LSm0_ok) (fun s : SuS l => (⟨[(0, one (.sl false l.length eB.sz (rowF eB l))), (3, one (.int .u16 (foldN (totI (l.take s.k))))), (4, one (.int .i64 (s.k : Int)))], [], 0⟩ : Hd)) (fun s => l.length + 1 - s.k) (fun _ => rfl) ?_ ⟨0, by omega, by omega⟩ [] ?_
  · rintro ⟨k, hk, hle⟩
    dsimp only at hk hle ⊢
    have hF := foldN_le (totI (l.take k))
    have x1 := hl.get k
    have x2 := hl.get (k + 1)
    have w1 : IntKind.i64.wrap (256 * l.getD k default) = 256 * l.getD k default := IntWalk.i64_in _ (by omega)
    have w2 : IntKind.i64.wrap ((k : Int) + 1) = k + 1 := IntWalk.i64_in _ (by omega)
    have w3 : IntKind.i64.wrap (l.getD k default) = l.getD k default := IntWalk.i64_in _ (by omega)
    have w4 : IntKind.i64.wrap (l.getD (k + 1) default) = l.getD (k + 1) default := IntWalk.i64_in _ (by omega)
    have w5 : IntKind.i64.wrap (foldN (totI (l.take k)) : Int) = foldN (totI (l.take k)) := IntWalk.i64_in _ (by omega)
    have w6 : IntKind.i64.wrap (256 * l.getD k default + l.getD (k + 1) default) = 256 * l.getD k default + l.getD (k + 1) default := IntWalk.i64_in _ (by omega)
    have w7 : IntKind.i64.wrap ((foldN (totI (l.take k)) : Int) + (256 * l.getD k default + l.getD (k + 1) default)) = foldN (totI (l.take k)) + (256 * l.getD k default + l.getD (k + 1) default) := IntWalk.i64_in _ (by omega)
    have w8 : IntKind.i64.wrap ((foldN (totI (l.take k)) : Int) + 256 * l.getD k default) = foldN (totI (l.take k)) + 256 * l.getD k default := IntWalk.i64_in _ (by omega)
    have w9 : IntKind.i64.wrap ((k : Int) + 2) = k + 2 := IntWalk.i64_in _ (by omega)
    have q1 : IntKind.i64.wrap (IntKind.i64.wrap (foldN (totI (l.take k)) : Int) + IntKind.i64.wrap (IntKind.i64.wrap (256 * IntKind.i64.wrap (l.getD (k : Int).toNat default)) + IntKind.i64.wrap (l.getD (IntKind.i64.wrap ((k : Int) + 1)).toNat default))) = foldN (totI (l.take k)) + (256 * l.getD k default + l.getD (k + 1) default) := by
      rw [Int.toNat_natCast, w2, show ((k : Int) + 1).toNat = k + 1 by omega, w3, w4, w1, w6, w5, w7]
    have q2 : IntKind.i64.wrap (IntKind.i64.wrap (foldN (totI (l.take k)) : Int) + IntKind.i64.wrap (256 * IntKind.i64.wrap (l.getD (k : Int).toNat default))) = foldN (totI (l.take k)) + 256 * l.getD k default := by
      rw [Int.toNat_natCast, w3, w1, w5, w8]
    repeat' (first | (apply And.intro <;> intro hc <;> (first | exact Bool.noConfusion hc | (simp only [decide_eq_true_eq, decide_eq_false_iff_not, Bool.not_eq_true', Bool.not_eq_false', beq_iff_eq, beq_eq_false_iff_ne, bne_iff_ne, bne_eq_false_iff_eq, Bool.true_eq_false, Bool.false_eq_true] at hc) | skip)) | (refine And.intro (by first | exact trivial | decide | omega | (dsimp only; omega) | exact fun _ _ => rfl) ?_) | (apply And.intro) | (intro s hs))
    · have hs' : s = (foldN (IntKind.i64.wrap (IntKind.i64.wrap (foldN (totI (l.take k)) : Int) + IntKind.i64.wrap (IntKind.i64.wrap (256 * IntKind.i64.wrap (l.getD (k : Int).toNat default)) + IntKind.i64.wrap (l.getD (IntKind.i64.wrap ((k : Int) + 1)).toNat default)))).toNat : Int) := hs
      rw [q1] at hs'
      have ht := totI_two hl (k := k) (by omega) hk
      have e : ((foldN (totI (l.take k)) : Int) + (256 * l.getD k default + l.getD (k + 1) default)).toNat = foldN (totI (l.take k)) + (256 * l.getD k default + l.getD (k + 1) default).toNat := by omega
      rw [e, foldN_add, show totI (l.take k) + (256 * l.getD k default + l.getD (k + 1) default).toNat = totI (l.take (k + 2)) by omega] at hs'
      refine ⟨⟨k + 2, by omega, by omega⟩, [], by dsimp only <;> omega, rfl, ?_, ?_⟩
      · repeat' (first | exact trivial | exact rfl | exact leF_ptr rfl | exact leF_int rfl | exact leF_bool rfl | exact leF_cl (cl_slB _ _) | exact leF_cl (cl_slR _ _) | exact leF_cl (cl_ll _ _) | exact leF_c (leC_os rfl rfl) | refine leF_int ?_ | refine leF_bool ?_ | exact leN_varA (fun _ _ => (Elem.flat _ _ _).le) | exact leN_varA (fun _ _ => leC_top) | apply And.intro)
        · exact hs'
        · first | (dsimp only; rw [IntWalk.i64_in _ (by omega)]; omega) | (dsimp only; rw [IntWalk.i64_in _ (by omega)]; done) | (dsimp only; exact IntWalk.i64_in _ (by omega)) | exact IntWalk.i64_in _ (by omega) | (rw [IntWalk.i64_in _ (by omega)]; omega)
      · repeat' (first | exact trivial | exact rfl | exact leF_ptr rfl | exact leF_int rfl | exact leF_bool rfl | exact leF_cl (cl_slB _ _) | exact leF_cl (cl_slR _ _) | exact leF_cl (cl_ll _ _) | exact leF_c (leC_os rfl rfl) | refine leF_int ?_ | refine leF_bool ?_ | exact leN_varA (fun _ _ => (Elem.flat _ _ _).le) | exact leN_varA (fun _ _ => leC_top) | apply And.intro)
    · have hs' : s = (foldN (IntKind.i64.wrap (IntKind.i64.wrap (foldN (totI (l.take k)) : Int) + IntKind.i64.wrap (256 * IntKind.i64.wrap (l.getD (k : Int).toNat default)))).toNat : Int) := hs
      rw [q2] at hs'
      have ht := totI_one hl (k := k) (by omega) hk
      have e : ((foldN (totI (l.take k)) : Int) + 256 * l.getD k default).toNat = foldN (totI (l.take k)) + (256 * l.getD k default).toNat := by omega
      rw [e, foldN_add, show totI (l.take k) + (256 * l.getD k default).toNat = totI (l.take (k + 2)) by omega] at hs'
      refine ⟨⟨k + 2, by omega, by omega⟩, [], by dsimp only <;> omega, rfl, ?_, ?_⟩
      · repeat' (first | exact trivial | exact rfl | exact leF_ptr rfl | exact leF_int rfl | exact leF_bool rfl | exact leF_cl (cl_slB _ _) | exact leF_cl (cl_slR _ _) | exact leF_cl (cl_ll _ _) | exact leF_c (leC_os rfl rfl) | refine leF_int ?_ | refine leF_bool ?_ | exact leN_varA (fun _ _ => (Elem.flat _ _ _).le) | exact leN_varA (fun _ _ => leC_top) | apply And.intro)
        · exact hs'
        · first | (dsimp only; rw [IntWalk.i64_in _ (by omega)]; omega) | (dsimp only; rw [IntWalk.i64_in _ (by omega)]; done) | (dsimp only; exact IntWalk.i64_in _ (by omega)) | exact IntWalk.i64_in _ (by omega) | (rw [IntWalk.i64_in _ (by omega)]; omega)
      · repeat' (first | exact trivial | exact rfl | exact leF_ptr rfl | exact leF_int rfl | exact leF_bool rfl | exact leF_cl (cl_slB _ _) | exact leF_cl (cl_slR _ _) | exact leF_cl (cl_ll _ _) | exact leF_c (leC_os rfl rfl) | refine leF_int ?_ | refine leF_bool ?_ | exact leN_varA (fun _ _ => (Elem.flat _ _ _).le) | exact leN_varA (fun _ _ => leC_top) | apply And.intro)
    · refine Done.mk (leF_int ?_)
      rw [List.take_of_length_le (by omega)]
  · refine ⟨rfl, ?_, ?_⟩
    · repeat' (first | exact trivial | exact rfl | exact leF_ptr rfl | exact leF_int rfl | exact leF_bool rfl | exact leF_cl (cl_slB _ _) | exact leF_cl (cl_slR _ _) | exact leF_cl (cl_ll _ _) | exact leF_c (leC_os rfl rfl) | refine leF_int ?_ | refine leF_bool ?_ | exact leN_varA (fun _ _ => (Elem.flat _ _ _).le) | exact leN_varA (fun _ _ => leC_top) | apply And.intro)
    · repeat' (first | exact trivial | exact rfl | exact leF_ptr rfl | exact leF_int rfl | exact leF_bool rfl | exact leF_cl (cl_slB _ _) | exact leF_cl (cl_slR _ _) | exact leF_cl (cl_ll _ _) | exact leF_c (leC_os rfl rfl) | refine leF_int ?_ | refine leF_bool ?_ | exact leN_varA (fun _ _ => (Elem.flat _ _ _).le) | exact leN_varA (fun _ _ => leC_top) | apply And.intro)
def LSm1 : CsL := (66, some (pureE (AC.cons (cSl eB eB_sz) AC.nil) (fun a => BL a.1 ∧ a.1.length ≤ 140737488355328) (fun a => (foldN (totI a.1) : Int)) (cI .u16).enc)) :: LSm0
theorem LSm1_ok : AllOk Try.prog LSm1 := ⟨pureE_ok ⟨_, Try.func66, rfl, by kernel_rfl⟩ fun a h => rsum_ok a.1 h.1 h.2, LSm0_ok⟩
set_option maxHeartbeats 4000000 in
set_option maxRecDepth 20000 in
theorem rinet_ok (L : List (List Int)) (hL : BLL L) (hn : L.length ≤ 16) (hf : L.flatten.length ≤ 140737488355328) : PureOk Try.prog 44 [(cLL eB eB_sz).enc L] ((cI .u16).enc (inetF L.flatten)) := by
  have hF := foldN_le (totI L.flatten)
  refine pure_intro (wd := 1) (Q := mkQ LSm1) (by decide) tysOk (q_of LSm1_ok) mixed Try.func44 rfl _ (by show 1 ≤ _; decide) _ ?_
  repeat' (first | (apply And.intro <;> intro hc <;> (first | exact Bool.noConfusion hc | (simp only [decide_eq_true_eq, decide_eq_false_iff_not, Bool.not_eq_true', Bool.not_eq_false', beq_iff_eq, beq_eq_false_iff_ne, bne_iff_ne, bne_eq_false_iff_eq, Bool.true_eq_false, Bool.false_eq_true] at hc) | skip)) | (refine And.intro (by first | exact trivial | decide | omega | (dsimp only; omega) | exact fun _ _ => rfl) ?_) | (apply And.intro) | (intro s hs))
  refine loop_intro (mono_of LSm1_ok) (fun s : {k : Nat // k ≤ L.length} => (⟨[(0, one (.sl false L.length 1 (rowFF eB L))), (3, one (.os 40 0 (L.take s.1).flatten.length)), (4, one (.int .i64 (s.1 : Int)))], [(40, some (ents eB 5 (L.take s.1).flatten))], 41⟩ : Hd)) (fun s => L.length - s.1) (fun _ => rfl) ?_ ⟨0, by omega⟩ [(40, none)] ?_
  · rintro ⟨k, hk⟩
    dsimp only at hk ⊢
    have hle := flat_le L (k + 1)
    obtain ⟨Q, hQ⟩ : ∃ Q, Q = (L.take k).flatten := ⟨_, rfl⟩
    have hQl : Q.length ≤ 140737488355328 := by have := flat_le L k; rw [hQ]; omega
    have hnext : k < L.length → (L.take (k + 1)).flatten = Q ++ L.getD k [] := fun h => by rw [flat_take h, hQ]
    have hbd : k < L.length → Q.length + (L.getD k []).length ≤ 140737488355328 := fun h => by rw [hnext h, List.length_append] at hle; omega
    rw [← hQ]
    repeat' (first | (apply And.intro <;> intro hc <;> (first | exact Bool.noConfusion hc | (simp only [decide_eq_true_eq, decide_eq_false_iff_not, Bool.not_eq_true', Bool.not_eq_false', beq_iff_eq, beq_eq_false_iff_ne, bne_iff_ne, bne_eq_false_iff_eq, Bool.true_eq_false, Bool.false_eq_true] at hc) | skip)) | (refine And.intro (by first | exact trivial | decide | omega | (dsimp only; omega) | exact fun _ _ => rfl) ?_) | (apply And.intro) | (intro s hs))
    all_goals first
      | exact rfl
      | (have := hbd (by omega); rw [Int.natCast_one, Int.one_mul]; omega)
      | (have := hbd (by omega); rw [Int.toNat_natCast]; omega)
      | omega
      | skip
    · have hk' : k < L.length := by omega
      refine ⟨⟨k + 1, by omega⟩, [(40, some 50)], by dsimp only <;> omega, rfl, ?_, ?_⟩
      · repeat' (first | exact trivial | exact rfl | exact leF_ptr rfl | exact leF_int rfl | exact leF_bool rfl | exact leF_cl (cl_slB _ _) | exact leF_cl (cl_slR _ _) | exact leF_cl (cl_ll _ _) | exact leF_c (leC_os rfl rfl) | refine leF_int ?_ | refine leF_bool ?_ | exact leN_varA (fun _ _ => (Elem.flat _ _ _).le) | exact leN_varA (fun _ _ => leC_top) | apply And.intro)
        · refine leF_c (leC_os rfl ?_)
          show _ = (L.take (k + 1)).flatten.length
          rw [hnext hk', List.length_append]; rfl
        · first | (dsimp only; rw [IntWalk.i64_in _ (by omega)]; omega) | (dsimp only; rw [IntWalk.i64_in _ (by omega)]; done) | (dsimp only; exact IntWalk.i64_in _ (by omega)) | exact IntWalk.i64_in _ (by omega) | (rw [IntWalk.i64_in _ (by omega)]; omega)
      · repeat' (first | exact trivial | exact rfl | exact leF_ptr rfl | exact leF_int rfl | exact leF_bool rfl | exact leF_cl (cl_slB _ _) | exact leF_cl (cl_slR _ _) | exact leF_cl (cl_ll _ _) | exact leF_c (leC_os rfl rfl) | refine leF_int ?_ | refine leF_bool ?_ | exact leN_varA (fun _ _ => (Elem.flat _ _ _).le) | exact leN_varA (fun _ _ => leC_top) | apply And.intro)
        show LeN _ _ (ents eB _ (L.take (k + 1)).flatten)
        rw [hnext hk']
        refine leN_app (E := eB) rfl (fun i hi j hj => selC_in (Nat.ble_eq_true_of_le hi) (Elem.flat _ _ _).le) fun i hi j hj => ?_
        refine selC_out ?_ ?_
        · cases hb : Nat.blt (Q.length + i) Q.length with
          | false => rfl
          | true => have := Nat.le_of_ble_eq_true hb; omega
        · rw [show Q.length + i - Q.length = i by omega]
          exact leC_cell (E := eB) rfl
    · dsimp only
      rw [toL_b0, hQ, List.take_of_length_le (by omega)]
      exact hL.flat
    · dsimp only
      rw [toL_b0]
      exact hQl
    · have hs' : s = (foldN (totI L.flatten) : Int) := by
        refine hs.trans ?_
        dsimp only
        rw [toL_b0, hQ, List.take_of_length_le (by omega)]
      subst hs'
      exact Done.mk (leF_int (IntWalk.u16_in _ (by omega)))
  · refine ⟨rfl, ?_, ?_⟩
    · repeat' (first | exact trivial | exact rfl | exact leF_ptr rfl | exact leF_int rfl | exact leF_bool rfl | exact leF_cl (cl_slB _ _) | exact leF_cl (cl_slR _ _) | exact leF_cl (cl_ll _ _) | exact leF_c (leC_os rfl rfl) | refine leF_int ?_ | refine leF_bool ?_ | exact leN_varA (fun _ _ => (Elem.flat _ _ _).le) | exact leN_varA (fun _ _ => leC_top) | apply And.intro)
      exact leF_c (leC_nils_os rfl)
    · repeat' (first | exact trivial | exact rfl | exact leF_ptr rfl | exact leF_int rfl | exact leF_bool rfl | exact leF_cl (cl_slB _ _) | exact leF_cl (cl_slR _ _) | exact leF_cl (cl_ll _ _) | exact leF_c (leC_os rfl rfl) | refine leF_int ?_ | refine leF_bool ?_ | exact leN_varA (fun _ _ => (Elem.flat _ _ _).le) | exact leN_varA (fun _ _ => leC_top) | apply And.intro)
      exact eB_sz
abbrev inetE : Entry := pureE (AC.cons (cLL eB eB_sz) AC.nil) (fun a => BLL a.1 ∧ a.1.length ≤ 16 ∧ a.1.flatten.length ≤ 140737488355328) (fun a => inetF a.1.flatten) (cI .u16).enc
def LSm : CsL := (43, some inetE) :: (44, some inetE) :: (33, some oappE) :: (60, some oappE) :: (47, some uintE) :: (81, some uintE) :: (15, some sameE) :: []
theorem LSm_ok : AllOk Try.prog LSm := ⟨pureE_ok ⟨_, Try.func43, rfl, by kernel_rfl⟩ fun a h => inet_ok a.1 h.1 h.2.1 h.2.2, pureE_ok ⟨_, Try.func44, rfl, by kernel_rfl⟩ fun a h => rinet_ok a.1 h.1 h.2.1 h.2.2, oappE_ok, rappE_ok, ouintE_ok, ruintE_ok, sameE_ok, trivial⟩
end Go.Proofs.Ythbhidfohdipnaa.AX

/- Layer 13 by AX2: packets; Valid and Size of the program and of the reference. -/
namespace Go.Proofs.Ythbhidfohdipnaa.AX
open Go.RowKit
set_option linter.unusedVariables false
set_option linter.unusedSimpArgs false
structure Hdr where
  cls : Int
  flow : Int
  nxt : Int
  hops : Int
  src : Fin 16 → Int
  dst : Fin 16 → Int
  sp : Int
  dp : Int
abbrev Pkt := Hdr × List Int
end Go.Proofs.Ythbhidfohdipnaa.AX

/- Layer 13 by AX2: the encoding of packets and their UDP checksums. -/
namespace Go.Proofs.Ythbhidfohdipnaa.AX
open Go.RowKit
set_option linter.unusedVariables false
set_option linter.unusedSimpArgs false
structure Num where
  val : Int
  n : Int
instance : Inhabited Num := ⟨⟨0, 0⟩⟩
theorem beB_len (v n : Int) : (beB v n).length ≤ 8 := by
  unfold beB
  split
  · rw [beN_len]; omega
  · simp
theorem toL_dt (b : List Int) (a n : Nat) (h : a + n ≤ b.length) : (toL eB n fun i => rowF eB b (a + i)) = (b.drop a).take n := by
  apply List.ext_getElem
  · rw [toL_len, List.length_take, List.length_drop]; omega
  · intro i h1 h2
    rw [toL_len] at h1
    simp only [toL, List.getElem_map, List.getElem_range, List.getElem_take, List.getElem_drop]
    show b.getD (a + i) default = _
    rw [List.getD_eq_getElem?_getD, List.getElem?_eq_getElem (by omega)]; rfl
theorem toL_dr (b : List Int) (a : Nat) (h : a ≤ b.length) : (toL eB (b.length - a) fun i => rowF eB b (a + i)) = b.drop a := by
  rw [toL_dt b a (b.length - a) (by omega), List.take_of_length_le (by simp)]
theorem beB_BL (v n : Int) : BL (beB v n) := by
  unfold beB
  split
  · exact beN_BL _ _
  · exact BL.nil
def ipL (a : Fin 16 → Int) : List Int := (List.range 16).map (vget a)
theorem ipL_len (a : Fin 16 → Int) : (ipL a).length = 16 := by simp [ipL]
/-- The numbers of a packet are in their ranges. -/
structure PkW (p : Pkt) : Prop where
  cls : 0 ≤ p.1.cls ∧ p.1.cls < 256
  flow : 0 ≤ p.1.flow ∧ p.1.flow < 4294967296
  nxt : 0 ≤ p.1.nxt ∧ p.1.nxt < 256
  hops : 0 ≤ p.1.hops ∧ p.1.hops < 256
  src : ∀ i, 0 ≤ vget p.1.src i ∧ vget p.1.src i < 256
  dst : ∀ i, 0 ≤ vget p.1.dst i ∧ vget p.1.dst i < 256
  sp : 0 ≤ p.1.sp ∧ p.1.sp < 65536
  dp : 0 ≤ p.1.dp ∧ p.1.dp < 65536
  pay : BL p.2
/-- The cells of a row of bytes. -/
structure IsRow (F : Nat → Nat → CV) (l : List Int) : Prop where
  at_ : ∀ k, k < l.length → F k 0 = .int .u8 (l.getD k default)
theorem isRow_row (l : List Int) : IsRow (rowF eB l) l := ⟨fun k _ => rfl⟩
theorem isRow_0 {F : Nat → Nat → CV} {l : List Int} (h : IsRow F l) : IsRow (fun k j => F (0 + k) j) l := ⟨fun k hk => by show F (0 + k) 0 = _; rw [Nat.zero_add]; exact h.at_ k hk⟩
theorem blt_no {a b : Nat} (h : b ≤ a) : Nat.blt a b = false := by
  cases hb : Nat.blt a b with
  | false => rfl
  | true => have := Nat.le_of_ble_eq_true hb; omega
theorem isRow_sel {A C : Nat → Nat → CV} {l1 l2 : List Int} {n : Nat} (hn : n = l1.length) (h1 : IsRow A l1) (h2 : ∀ k, k < l2.length → C (n + k) 0 = .int .u8 (l2.getD k default)) : IsRow (fun k j => selC (Nat.blt k n) (A k j) (C k j)) (l1 ++ l2) := ⟨fun k hk => by
  rw [List.length_append] at hk
  show selC (Nat.blt k n) (A k 0) (C k 0) = _
  subst hn
  by_cases h : k < l1.length
  · rw [selC_eq, blt_lt h, cond_true, h1.at_ k h, List.getD_eq_getElem?_getD, List.getD_eq_getElem?_getD, List.getElem?_append_left h]
  · obtain ⟨q, rfl⟩ : ∃ q, k = l1.length + q := ⟨k - l1.length, by omega⟩
    rw [selC_eq, blt_no (by omega), cond_false, h2 q (by omega), List.getD_eq_getElem?_getD, List.getD_eq_getElem?_getD, List.getElem?_append_right (by omega), show l1.length + q - l1.length = q by omega]⟩
theorem toL_is {F : Nat → Nat → CV} {l : List Int} {N : Nat} (hN : N = l.length) (h : IsRow F l) : toL eB N F = l := by
  subst hN
  apply List.ext_getElem
  · rw [toL_len]
  · intro i g1 g2
    simp only [toL, List.getElem_map, List.getElem_range]
    show valI (F i 0) = _
    rw [h.at_ i g2, List.getD_eq_getElem?_getD, List.getElem?_eq_getElem g2]; rfl
theorem ok_is {F : Nat → Nat → CV} {l : List Int} {s : Nat} (h : IsRow F l) (hs : s < l.length) : eB.ok (F s) = true := by
  show isK .u8 (F s 0) = true
  rw [h.at_ s hs]; rfl
theorem leC_is {c : Wc} {F : Nat → Nat → CV} {l : List Int} (h : IsRow F l) {k : Nat} (hk : k < l.length) {j : Nat} (hj : j < 1) : LeC c (F k j) (rowF eB l k j) := by
  obtain rfl : j = 0 := by omega
  rw [h.at_ k hk]
  exact leC_int rfl
theorem leN_is {c : Wc} {F : Nat → Nat → CV} {l : List Int} {n : Nat} {t : TypeId} (hn : n = l.length) (h : IsRow F l) : LeN c ⟨t, n, eB.sz, false, F⟩ (ents eB t l) := leN_row hn fun i hi j hj => leC_is h (by omega) hj
theorem toL_ip {B : Nat → Nat → CV} {a : Fin 16 → Int} (h : ∀ k, k < 16 → B k 0 = .int .u8 (vget a k)) : toL eB 16 B = ipL a := by
  unfold toL ipL
  apply List.map_congr_left
  intro k hk
  show valI (B k 0) = _
  rw [h k (List.mem_range.1 hk)]; rfl
end Go.Proofs.Ythbhidfohdipnaa.AX

/- Layer 13 by AX2: Sum and Encode of the program. -/
namespace Go.Proofs.Ythbhidfohdipnaa.AX
open Go.RowKit
set_option linter.unusedVariables false
set_option linter.unusedSimpArgs false
theorem ipL_BL {a : Fin 16 → Int} (h : ∀ i, 0 ≤ vget a i ∧ vget a i < 256) : BL (ipL a) := ⟨fun x hx => by
  unfold ipL at hx
  obtain ⟨i, _, rfl⟩ := List.mem_map.1 hx
  exact h i⟩
end Go.Proofs.Ythbhidfohdipnaa.AX

/- Layer 13 by AX2: Decode of the program. -/
namespace Go.Proofs.Ythbhidfohdipnaa.AX
open Go.RowKit
set_option linter.unusedVariables false
set_option linter.unusedSimpArgs false
theorem isRow_ov {z : Nat → Nat → CV} {n : Nat} {g : Nat → Nat → CV} {l : List Int} (hn : l.length ≤ n) (hg : ∀ k, k < l.length → g k 0 = .int .u8 (l.getD k default)) : IsRow (fun k j => ovE z 0 n g (0 + k) j) l := ⟨fun k hk => by
  show selC (Nat.ble 0 (0 + k) && Nat.blt (0 + k) (0 + n)) (g (0 + k - 0) 0) _ = _
  rw [show Nat.ble 0 (0 + k) = true from Nat.ble_eq_true_of_le (Nat.zero_le _), blt_lt (show 0 + k < 0 + n by omega), Bool.and_true, selC_eq, cond_true, show 0 + k - 0 = k by omega]
  exact hg k hk⟩
theorem isRow_un {F : Nat → Nat → CV} {l : List Int} (h : IsRow (fun k j => F (0 + k) j) l) : IsRow F l := ⟨fun k hk => by
  have := h.at_ k hk
  rw [Nat.zero_add] at this
  exact this⟩
end Go.Proofs.Ythbhidfohdipnaa.AX



/- Plain laws of contexts and of halves of addresses. -/
namespace Go.Proofs.Ythbhidfohdipnaa.AX
open Go.RowKit
set_option linter.unusedVariables false
set_option linter.unusedSimpArgs false
/-! ### Halves of addresses -/
theorem beN_snoc (x c : Int) (hc : 0 ≤ c ∧ c < 256) : ∀ n, beN (x * 256 + c) (n + 1) = beN x n ++ [c] := by
  intro n
  induction n with
  | zero =>
    show [(x * 256 + c) / 256 ^ 0 % 256] = [c]
    rw [Int.pow_zero, Int.ediv_one]
    congr 1
    omega
  | succ n ih =>
    show (x * 256 + c) / 256 ^ (n + 1) % 256 :: beN (x * 256 + c) (n + 1) = (x / 256 ^ n % 256 :: beN x n) ++ [c]
    rw [ih, List.cons_append]
    congr 1
    rw [Int.pow_succ, Int.mul_comm (256 ^ n) 256, ← Int.ediv_ediv_of_nonneg (show (0 : Int) ≤ 256 by decide), show (x * 256 + c) / 256 = x by omega]
theorem beN_beVal : ∀ (n : Nat) (l : List Int), BL l → l.length = n → beN (beVal l) n = l := by
  intro n
  induction n with
  | zero => intro l _ h; rw [List.length_eq_zero_iff.1 h]; rfl
  | succ n ih =>
    intro l hl h
    have hne : l ≠ [] := fun e => by rw [e] at h; cases h
    have e := List.dropLast_concat_getLast hne
    have hb : BL l.dropLast := ⟨fun x hx => hl.m x ((List.dropLast_sublist l).subset hx)⟩
    have hc := hl.m _ (List.getLast_mem hne)
    rw [← e, beVal_snoc, beN_snoc _ _ hc, ih _ hb (by rw [List.length_dropLast]; omega)]
theorem beVal_beN : ∀ (n : Nat) (v : Int), 0 ≤ v → v < 256 ^ n → beVal (beN v n) = v := by
  intro n
  induction n with
  | zero => intro v h1 h2; simp at h2; show (0 : Int) = v; omega
  | succ n ih =>
    intro v h1 h2
    have e : v = (v / 256) * 256 + v % 256 := by omega
    have h3 : v / 256 < 256 ^ n := by
      rw [Int.pow_succ] at h2
      exact Int.ediv_lt_of_lt_mul (by decide) h2
    conv => lhs; rw [e]
    rw [beN_snoc _ _ (by omega), beVal_snoc, ih _ (by omega) h3]
    omega
theorem ipBL {a : Fin 16 → Int} (h : byteOk a) : BL (ipL a) := ipL_BL fun i => h.v i
theorem ipL_get (a : Fin 16 → Int) {k : Nat} (hk : k < 16) : (ipL a).getD k default = vget a k := by
  unfold ipL
  rw [List.getD_eq_getElem?_getD, List.getElem?_map, List.getElem?_range hk]; rfl
end Go.Proofs.Ythbhidfohdipnaa.AX

/- What the makers draw from a tape: prefixes, contexts, devices, addresses. -/
namespace Go.Proofs.Ythbhidfohdipnaa.AX
open Go.RowKit
set_option linter.unusedVariables false
set_option linter.unusedSimpArgs false
structure Adr where
  mode : Int
  short : Int
  eui : Int
def eAdrC (x : Adr) (j : Nat) : CV := bif Nat.beq j 0 then .int .i64 x.mode else bif Nat.beq j 1 then .int .u16 x.short else (.int .u64 x.eui)
def eAdr : Elem Adr where
  sz := 3
  cell := eAdrC
  rd g := ⟨valI (g 0), valI (g 1), valI (g 2)⟩
  ok g := isK .i64 (g 0) && isK .u16 (g 1) && isK .u64 (g 2)
  ok_eq g h j hj := by
    simp only [Bool.and_eq_true] at h
    unfold eAdrC
    by_cases c0 : j < 1
    · have e : j = 0 := by omega
      subst e
      exact isK_eq h.1.1
    by_cases c1 : j < 2
    · have e : j = 1 := by omega
      subst e
      exact isK_eq h.1.2
    by_cases c2 : j < 3
    · have e : j = 2 := by omega
      subst e
      exact isK_eq h.2
    omega
  flat a j := by
    unfold eAdrC
    cases Nat.beq j 0 with
    | true => exact flat_int
    | false =>
    cases Nat.beq j 1 with
    | true => exact flat_int
    | false =>
    exact flat_int
theorem eAdr_rd (x : Adr) : eAdr.rd (eAdr.cell x) = x := by
  show (⟨x.mode, x.short, x.eui⟩ : Adr) = x
  rfl
theorem rd_adr (x : Adr) : eAdr.rd (fun q => eAdr.cell x (0 + q)) = x := by
  simp only [Nat.zero_add]; exact eAdr_rd x
theorem word_ok (n : Nat) (l : List Int) (q : Int) (ht : TapeOk n (rI l) q) :
    ∃ (r q' : Int), True ∧ TapeOk n (rI l) q' ∧ MethOk Try.prog 24 [] (tapeN n (rI l) q) ((cI .u64).enc r) (tapeN n (rI l) q') := by
  refine tape_intro (wd := 1) (Q := mkQ LT0) (by decide) tysOk (q_of LT0_ok) mixed Try.func24 rfl _ (by show 0 + 1 ≤ _; decide) (fun _ => nff_int) ?_
  repeat' (first | (apply And.intro <;> intro hc <;> (first | exact Bool.noConfusion hc | (simp only [decide_eq_true_eq, decide_eq_false_iff_not, Bool.not_eq_true', Bool.not_eq_false', beq_iff_eq, beq_eq_false_iff_ne, bne_iff_ne, bne_eq_false_iff_eq, Bool.true_eq_false, Bool.false_eq_true] at hc) | skip)) | (refine And.intro (by first | exact trivial | decide | omega | (dsimp only; omega) | exact fun _ _ => rfl | exact ⟨by assumption, by first | exact trivial | decide | omega | (dsimp only; omega)⟩) ?_) | (apply And.intro) | (intro s hs))
  all_goals exact ⟨(_, _), ⟨trivial, by assumption⟩, ⟨leF_int rfl, tapeN_le⟩⟩
abbrev wordE : Entry := tapeE AC.nil (fun _ => True) (fun a (r : Int) => True) (cI .u64).enc
def LT1 : CsL := (28, some boolE) :: (24, some wordE) :: (LT0 ++ LR2)
theorem LT1_ok : AllOk Try.prog LT1 := ⟨tapeE_ok ⟨_, Try.func28, rfl, by kernel_rfl⟩ fun n l q a ht hp => bool_ok n l q a.1 ht hp.1 hp.2, tapeE_ok ⟨_, Try.func24, rfl, by kernel_rfl⟩ fun n l q a ht _ => word_ok n l q ht, append_ok LT0_ok LR2_ok⟩
set_option maxRecDepth 10000 in
theorem prefix_ok (n : Nat) (l : List Int) (q : Int) (ht : TapeOk n (rI l) q) :
    ∃ (r : Pfx) (q' : Int), (vpf r = true ∧ byteOk r.ip) ∧ TapeOk n (rI l) q' ∧ MethOk Try.prog 27 [] (tapeN n (rI l) q) ((cE ePfx).enc r) (tapeN n (rI l) q') := by
  refine tape_intro (wd := 1) (Q := mkQ LT1) (by decide) tysOk (q_of LT1_ok) mixed Try.func27 rfl _ (by show 0 + 1 ≤ _; decide) (nff_elem ePfx) ?_
  repeat' (first | (apply And.intro <;> intro hc <;> (first | exact Bool.noConfusion hc | (simp only [decide_eq_true_eq, decide_eq_false_iff_not, Bool.not_eq_true', Bool.not_eq_false', beq_iff_eq, beq_eq_false_iff_ne, bne_iff_ne, bne_eq_false_iff_eq, Bool.true_eq_false, Bool.false_eq_true] at hc) | skip)) | (refine And.intro (by first | exact trivial | decide | omega | (dsimp only; omega) | exact fun _ _ => rfl | exact ⟨by assumption, by first | exact trivial | decide | omega | (dsimp only; omega)⟩) ?_) | (apply And.intro) | (intro s hs))
  · rename_i so hso sn hsn
    show byteOk ((eA .u8 16).rd ((eA .u8 16).cell so))
    rw [eA_rd, hso]; exact of_byteOk _ _
  · rename_i so hso sn hsn sq hsq
    have hb : byteOk so := by rw [hso]; exact of_byteOk _ _
    obtain ⟨b, e⟩ : ∃ b, s = maskP so b := ⟨_, hs.trans (congrArg (maskP · _) (eA_rd (k := .u8) so))⟩
    exact ⟨(s, _), ⟨⟨by rw [e]; exact mask_vpf hb b, by rw [e]; exact mask_byteOk hb b⟩, by assumption⟩, ⟨leF_e (leE_all (by repeat' (first | exact trivial | exact rfl | exact leC_int rfl | exact leC_bool rfl | refine leE_all ?_ | exact leC_bool (by assumption) | apply And.intro))), tapeN_le⟩⟩
set_option maxRecDepth 10000 in
theorem device_ok (n : Nat) (l : List Int) (q : Int) (ht : TapeOk n (rI l) q) :
    ∃ (r : Adr) (q' : Int), True ∧ TapeOk n (rI l) q' ∧ MethOk Try.prog 51 [] (tapeN n (rI l) q) ((cE eAdr).enc r) (tapeN n (rI l) q') := by
  refine tape_intro (wd := 1) (Q := mkQ LT1) (by decide) tysOk (q_of LT1_ok) mixed Try.func51 rfl _ (by show 0 + 1 ≤ _; decide) (nff_elem eAdr) ?_
  repeat' (first | (apply And.intro <;> intro hc <;> (first | exact Bool.noConfusion hc | (simp only [decide_eq_true_eq, decide_eq_false_iff_not, Bool.not_eq_true', Bool.not_eq_false', beq_iff_eq, beq_eq_false_iff_ne, bne_iff_ne, bne_eq_false_iff_eq, Bool.true_eq_false, Bool.false_eq_true] at hc) | skip)) | (refine And.intro (by first | exact trivial | decide | omega | (dsimp only; omega) | exact fun _ _ => rfl | exact ⟨by assumption, by first | exact trivial | decide | omega | (dsimp only; omega)⟩) ?_) | (apply And.intro) | (intro s hs))
  · exact ⟨(⟨3, 0, _⟩, _), ⟨trivial, by assumption⟩, ⟨leF_e (leE_all ⟨⟨⟨trivial, leC_int rfl⟩, leC_int rfl⟩, leC_int rfl⟩), tapeN_le⟩⟩
  · exact ⟨(⟨2, _, 0⟩, _), ⟨trivial, by assumption⟩, ⟨leF_e (leE_all ⟨⟨⟨trivial, leC_int rfl⟩, leC_int rfl⟩, leC_int rfl⟩), tapeN_le⟩⟩
def adrValid (a : Adr) : Bool := if a.mode = 0 then (a.short == 0) && (a.eui == 0) else if a.mode = 2 then (a.eui == 0) else if a.mode = 3 then (a.short == 0) else false
theorem adrValid_ok (a : Adr) : PureOk Try.prog 41 [(cE eAdr).enc a] (cB.enc (adrValid a)) := by
  refine pure_intro (wd := 1) (Q := mkQ LE0) (by decide) tysOk (q_of LE0_ok) mixed Try.func41 rfl _ (by show 1 ≤ _; decide) _ ?_
  repeat' (first | (apply And.intro <;> intro hc <;> (first | exact Bool.noConfusion hc | (simp only [decide_eq_true_eq, decide_eq_false_iff_not, Bool.not_eq_true', Bool.not_eq_false', beq_iff_eq, beq_eq_false_iff_ne, bne_iff_ne, bne_eq_false_iff_eq, Bool.true_eq_false, Bool.false_eq_true] at hc) | skip)) | (refine And.intro (by first | exact trivial | decide | omega | (dsimp only; omega) | exact fun _ _ => rfl) ?_) | (apply And.intro) | (intro s hs))
  all_goals (refine Done.mk (leF_bool ?_); simp [adrValid, *])
def adrSome (a : Adr) : Bool := adrValid a && (a.mode != 0)
def LA0 : CsL := (41, some (pureE (AC.cons (cE eAdr) AC.nil) (fun _ => True) (fun a => adrValid a.1) cB.enc)) :: []
theorem LA0_ok : AllOk Try.prog LA0 := ⟨pureE_ok ⟨_, Try.func41, rfl, by kernel_rfl⟩ fun a _ => adrValid_ok a.1, trivial⟩
theorem adrSome_ok (a : Adr) : PureOk Try.prog 78 [(cE eAdr).enc a] (cB.enc (adrSome a)) := by
  refine pure_intro (wd := 1) (Q := mkQ LA0) (by decide) tysOk (q_of LA0_ok) mixed Try.func78 rfl _ (by show 1 ≤ _; decide) _ ?_
  repeat' (first | (apply And.intro <;> intro hc <;> (first | exact Bool.noConfusion hc | (simp only [decide_eq_true_eq, decide_eq_false_iff_not, Bool.not_eq_true', Bool.not_eq_false', beq_iff_eq, beq_eq_false_iff_ne, bne_iff_ne, bne_eq_false_iff_eq, Bool.true_eq_false, Bool.false_eq_true] at hc) | skip)) | (refine And.intro (by first | exact trivial | decide | omega | (dsimp only; omega) | exact fun _ _ => rfl) ?_) | (apply And.intro) | (intro s hs))
  all_goals (
    have e1 : s = adrValid a := hs.trans (congrArg adrValid (rd_adr a))
    refine Done.mk (leF_bool ?_)
    simp [adrSome, ← e1, hc])
def iidF (a : Adr) : Int × Bool := if adrSome a = true then (if a.mode = 3 then (bits .xor .u64 a.eui 144115188075855872, true) else (IntKind.u64.wrap (1099478073344 + IntKind.u64.wrap a.short), true)) else (0, false)
def encIB (r : Int × Bool) : FV := .tup [.c (.int .u64 r.1), .c (.bool r.2)]
def LA1 : CsL := (78, some (pureE (AC.cons (cE eAdr) AC.nil) (fun _ => True) (fun a => adrSome a.1) cB.enc)) :: LA0
theorem LA1_ok : AllOk Try.prog LA1 := ⟨pureE_ok ⟨_, Try.func78, rfl, by kernel_rfl⟩ fun a _ => adrSome_ok a.1, LA0_ok⟩
theorem iid_ok (a : Adr) : PureOk Try.prog 54 [(cE eAdr).enc a] (encIB (iidF a)) := by
  refine pure_intro (wd := 1) (Q := mkQ LA1) (by decide) tysOk (q_of LA1_ok) mixed Try.func54 rfl _ (by show 1 ≤ _; decide) _ ?_
  repeat' (first | (apply And.intro <;> intro hc <;> (first | exact Bool.noConfusion hc | (simp only [decide_eq_true_eq, decide_eq_false_iff_not, Bool.not_eq_true', Bool.not_eq_false', beq_iff_eq, beq_eq_false_iff_ne, bne_iff_ne, bne_eq_false_iff_eq, Bool.true_eq_false, Bool.false_eq_true] at hc) | skip)) | (refine And.intro (by first | exact trivial | decide | omega | (dsimp only; omega) | exact fun _ _ => rfl) ?_) | (apply And.intro) | (intro s hs))
  all_goals (
    have e1 : s = adrSome a := hs.trans (congrArg adrSome (rd_adr a))
    clear hs
    subst e1
    refine Done.mk (leF_tup ⟨leC_int ?_, leC_bool ?_, trivial⟩) <;> simp [iidF, *])
def setV (a : Fin 16 → Int) (i : Nat) (v : Int) : Fin 16 → Int := fun q => if q.1 = i then v else a q
theorem setV_ok {a : Fin 16 → Int} {i : Nat} {v : Int} (ha : byteOk a) (hv : 0 ≤ v ∧ v < 256) : byteOk (setV a i v) := ⟨fun q => by
  unfold setV
  split
  · exact hv
  · exact ha.q q⟩
theorem setV_at {a : Fin 16 → Int} {i off j : Nat} {v : Int} (h : off = i) (hj : j < 16) : (bif Nat.ble off j && Nat.blt j (off + 1) then v else vget a j) = vget (setV a i v) j := by
  rw [vget_lt _ hj, vget_lt _ hj]
  unfold setV
  by_cases e : j = i
  · rw [rng_in (by omega), cond_true, if_pos e]
  · rw [rng_out (by omega), cond_false, if_neg e]
theorem u8r (z : Int) : 0 ≤ IntKind.u8.wrap z ∧ IntKind.u8.wrap z < 256 := by
  simp only [IntKind.wrap, IntKind.signed, IntKind.bits]
  constructor
  · exact Int.emod_nonneg _ (by decide)
  · exact Int.emod_lt_of_pos _ (by decide)
structure GrpS (n : Nat) (l : List Int) where
  i : Nat
  a : Fin 16 → Int
  q : Int
  hi : i ≤ 15
  ha : byteOk a
  ht : TapeOk n (rI l) q
set_option maxRecDepth 10000 in
theorem group_ok (n : Nat) (l : List Int) (q : Int) (ht : TapeOk n (rI l) q) :
    ∃ (r : Fin 16 → Int) (q' : Int), byteOk r ∧ TapeOk n (rI l) q' ∧ MethOk Try.prog 55 [] (tapeN n (rI l) q) ((cE (eA .u8 16)).enc r) (tapeN n (rI l) q') := by
  refine tape_intro (wd := 1) (Q := mkQ LT1) (by decide) tysOk (q_of LT1_ok) mixed Try.func55 rfl _ (by show 0 + 1 ≤ _; decide) (nff_elem (eA .u8 16)) ?_
  repeat' (first | (apply And.intro <;> intro hc <;> (first | exact Bool.noConfusion hc | (simp only [decide_eq_true_eq, decide_eq_false_iff_not, Bool.not_eq_true', Bool.not_eq_false', beq_iff_eq, beq_eq_false_iff_ne, bne_iff_ne, bne_eq_false_iff_eq, Bool.true_eq_false, Bool.false_eq_true] at hc) | skip)) | (refine And.intro (by first | exact trivial | decide | omega | (dsimp only; omega) | exact fun _ _ => rfl | exact ⟨by assumption, by first | exact trivial | decide | omega | (dsimp only; omega)⟩) ?_) | (apply And.intro) | (intro s hs))
  · rename_i s1 hs1
    refine loop_intro (mono_of LT1_ok) (fun s : GrpS n l => (⟨[(0, one (.ptr 0 0 0 false)), (2, one (.ptr 1 0 0 false)), (3, one (.ptr 3 0 0 false)), (4, one (.int .i64 (s.i : Int)))],
      [(0, some (tapeN n (rI l) s.q)), (1, some ⟨24, 1, 16, true, fun _ _ => .top⟩), (3, some ⟨24, 1, 16, true, fun _ => (eA .u8 16).cell s.a⟩)], 50⟩ : Hd)) (fun s => s.i) (fun _ => rfl) ?_ ⟨15, fun q => if q.1 = 0 then 255 else if q.1 = 1 then IntKind.u8.wrap s1 else 0, _, by omega, ⟨fun q => by have := u8r s1; split <;> (try split) <;> omega⟩, hs⟩ [] ?_
    · rintro ⟨i, a, q1, hi, ha, ht1⟩
      dsimp only at hi ⊢
      repeat' (first | (apply And.intro <;> intro hc <;> (first | exact Bool.noConfusion hc | (simp only [decide_eq_true_eq, decide_eq_false_iff_not, Bool.not_eq_true', Bool.not_eq_false', beq_iff_eq, beq_eq_false_iff_ne, bne_iff_ne, bne_eq_false_iff_eq, Bool.true_eq_false, Bool.false_eq_true] at hc) | skip)) | (refine And.intro (by first | exact trivial | decide | omega | (dsimp only; omega) | exact fun _ _ => rfl | exact ⟨by assumption, by first | exact trivial | decide | omega | (dsimp only; omega)⟩) ?_) | (apply And.intro) | (intro s hs))
      · rename_i s1 hs1 sq1 hsq1 s2 hs2
        have hs1' : 0 ≤ s1 ∧ s1 < 15 := hs1
        have hw : IntKind.i64.wrap (15 - s1) = 15 - s1 := IntWalk.i64_in _ (by omega)
        have hc' : IntKind.i64.wrap (15 - s1) < (i : Int) := by assumption
        have hi2 : 1 ≤ i := by omega
        refine ⟨⟨i - 1, setV a i (IntKind.u8.wrap s2), _, by omega, setV_ok ha (u8r _), hs⟩, [], by dsimp only; omega, rfl, ?_, ?_⟩
        · repeat' (first | exact trivial | exact rfl | exact leF_ptr rfl | exact leF_int rfl | exact leF_bool rfl | exact leF_cl (cl_slB _ _) | exact leF_cl (cl_slR _ _) | exact leF_cl (cl_ll _ _) | exact leF_c (leC_os rfl rfl) | refine leF_int ?_ | refine leF_bool ?_ | exact leN_varA (fun _ _ => (Elem.flat _ _ _).le) | exact leN_varA (fun _ _ => leC_top) | apply And.intro)
          refine (IntWalk.i64_in _ ?_).trans ?_
          · constructor <;> omega
          · dsimp only
            omega
        · repeat' (first | exact trivial | exact rfl | exact leF_ptr rfl | exact leF_int rfl | exact leF_bool rfl | exact leF_cl (cl_slB _ _) | exact leF_cl (cl_slR _ _) | exact leF_cl (cl_ll _ _) | exact leF_c (leC_os rfl rfl) | refine leF_int ?_ | refine leF_bool ?_ | exact leN_varA (fun _ _ => (Elem.flat _ _ _).le) | exact leN_varA (fun _ _ => leC_top) | apply And.intro)
          · exact tapeN_le
          · refine leN_varA fun j hj => ?_
            exact leC_int (setV_at (j := j) (by omega) hj)
      · exact ⟨(a, _), ⟨ha, by assumption⟩, ⟨leF_e (leE_all (by repeat' (first | exact trivial | exact rfl | exact leC_int rfl | exact leC_bool rfl | refine leE_all ?_ | exact leC_bool (by assumption) | apply And.intro))), tapeN_le⟩⟩
    · refine ⟨rfl, ?_, ?_⟩
      · repeat' (first | exact trivial | exact rfl | exact leF_ptr rfl | exact leF_int rfl | exact leF_bool rfl | exact leF_cl (cl_slB _ _) | exact leF_cl (cl_slR _ _) | exact leF_cl (cl_ll _ _) | exact leF_c (leC_os rfl rfl) | refine leF_int ?_ | refine leF_bool ?_ | exact leN_varA (fun _ _ => (Elem.flat _ _ _).le) | exact leN_varA (fun _ _ => leC_top) | apply And.intro)
      · repeat' (first | exact trivial | exact rfl | exact leF_ptr rfl | exact leF_int rfl | exact leF_bool rfl | exact leF_cl (cl_slB _ _) | exact leF_cl (cl_slR _ _) | exact leF_cl (cl_ll _ _) | exact leF_c (leC_os rfl rfl) | refine leF_int ?_ | refine leF_bool ?_ | exact leN_varA (fun _ _ => (Elem.flat _ _ _).le) | exact leN_varA (fun _ _ => leC_top) | apply And.intro)
        · exact tapeN_le
        · refine leN_var ?_
          repeat' (first | exact trivial | exact leC_int rfl | apply And.intro)
  · skip
    refine loop_intro (mono_of LT1_ok) (fun s : GrpS n l => (⟨[(0, one (.ptr 0 0 0 false)), (2, one (.ptr 1 0 0 false)), (3, one (.ptr 3 0 0 false)), (4, one (.int .i64 (s.i : Int)))],
      [(0, some (tapeN n (rI l) s.q)), (1, some ⟨24, 1, 16, true, fun _ _ => .top⟩), (3, some ⟨24, 1, 16, true, fun _ => (eA .u8 16).cell s.a⟩)], 50⟩ : Hd)) (fun s => s.i) (fun _ => rfl) ?_ ⟨15, fun q => if q.1 = 0 then 255 else if q.1 = 1 then 2 else 0, _, by omega, ⟨fun q => by split <;> (try split) <;> omega⟩, hs⟩ [] ?_
    · rintro ⟨i, a, q1, hi, ha, ht1⟩
      dsimp only at hi ⊢
      repeat' (first | (apply And.intro <;> intro hc <;> (first | exact Bool.noConfusion hc | (simp only [decide_eq_true_eq, decide_eq_false_iff_not, Bool.not_eq_true', Bool.not_eq_false', beq_iff_eq, beq_eq_false_iff_ne, bne_iff_ne, bne_eq_false_iff_eq, Bool.true_eq_false, Bool.false_eq_true] at hc) | skip)) | (refine And.intro (by first | exact trivial | decide | omega | (dsimp only; omega) | exact fun _ _ => rfl | exact ⟨by assumption, by first | exact trivial | decide | omega | (dsimp only; omega)⟩) ?_) | (apply And.intro) | (intro s hs))
      · rename_i s1 hs1 sq1 hsq1 s2 hs2
        have hs1' : 0 ≤ s1 ∧ s1 < 15 := hs1
        have hw : IntKind.i64.wrap (15 - s1) = 15 - s1 := IntWalk.i64_in _ (by omega)
        have hc' : IntKind.i64.wrap (15 - s1) < (i : Int) := by assumption
        have hi2 : 1 ≤ i := by omega
        refine ⟨⟨i - 1, setV a i (IntKind.u8.wrap s2), _, by omega, setV_ok ha (u8r _), hs⟩, [], by dsimp only; omega, rfl, ?_, ?_⟩
        · repeat' (first | exact trivial | exact rfl | exact leF_ptr rfl | exact leF_int rfl | exact leF_bool rfl | exact leF_cl (cl_slB _ _) | exact leF_cl (cl_slR _ _) | exact leF_cl (cl_ll _ _) | exact leF_c (leC_os rfl rfl) | refine leF_int ?_ | refine leF_bool ?_ | exact leN_varA (fun _ _ => (Elem.flat _ _ _).le) | exact leN_varA (fun _ _ => leC_top) | apply And.intro)
          refine (IntWalk.i64_in _ ?_).trans ?_
          · constructor <;> omega
          · dsimp only
            omega
        · repeat' (first | exact trivial | exact rfl | exact leF_ptr rfl | exact leF_int rfl | exact leF_bool rfl | exact leF_cl (cl_slB _ _) | exact leF_cl (cl_slR _ _) | exact leF_cl (cl_ll _ _) | exact leF_c (leC_os rfl rfl) | refine leF_int ?_ | refine leF_bool ?_ | exact leN_varA (fun _ _ => (Elem.flat _ _ _).le) | exact leN_varA (fun _ _ => leC_top) | apply And.intro)
          · exact tapeN_le
          · refine leN_varA fun j hj => ?_
            exact leC_int (setV_at (j := j) (by omega) hj)
      · exact ⟨(a, _), ⟨ha, by assumption⟩, ⟨leF_e (leE_all (by repeat' (first | exact trivial | exact rfl | exact leC_int rfl | exact leC_bool rfl | refine leE_all ?_ | exact leC_bool (by assumption) | apply And.intro))), tapeN_le⟩⟩
    · refine ⟨rfl, ?_, ?_⟩
      · repeat' (first | exact trivial | exact rfl | exact leF_ptr rfl | exact leF_int rfl | exact leF_bool rfl | exact leF_cl (cl_slB _ _) | exact leF_cl (cl_slR _ _) | exact leF_cl (cl_ll _ _) | exact leF_c (leC_os rfl rfl) | refine leF_int ?_ | refine leF_bool ?_ | exact leN_varA (fun _ _ => (Elem.flat _ _ _).le) | exact leN_varA (fun _ _ => leC_top) | apply And.intro)
      · repeat' (first | exact trivial | exact rfl | exact leF_ptr rfl | exact leF_int rfl | exact leF_bool rfl | exact leF_cl (cl_slB _ _) | exact leF_cl (cl_slR _ _) | exact leF_cl (cl_ll _ _) | exact leF_c (leC_os rfl rfl) | refine leF_int ?_ | refine leF_bool ?_ | exact leN_varA (fun _ _ => (Elem.flat _ _ _).le) | exact leN_varA (fun _ _ => leC_top) | apply And.intro)
        · exact tapeN_le
        · refine leN_var ?_
          repeat' (first | exact trivial | exact leC_int rfl | apply And.intro)
abbrev pfxE : Entry := tapeE AC.nil (fun _ => True) (fun a (r : Pfx) => vpf r = true ∧ byteOk r.ip) (cE ePfx).enc
abbrev devE : Entry := tapeE AC.nil (fun _ => True) (fun a (r : Adr) => True) (cE eAdr).enc
abbrev grpE : Entry := tapeE AC.nil (fun _ => True) (fun a (r : Fin 16 → Int) => byteOk r) (cE (eA .u8 16)).enc
def LT2a : CsL := (27, some pfxE) :: (51, some devE) :: (55, some grpE) :: (54, some (pureE (AC.cons (cE eAdr) AC.nil) (fun _ => True) (fun a => iidF a.1) encIB)) :: []
theorem LT2a_ok : AllOk Try.prog LT2a := ⟨tapeE_ok ⟨_, Try.func27, rfl, by kernel_rfl⟩ fun n l q a ht hp => prefix_ok n l q ht, tapeE_ok ⟨_, Try.func51, rfl, by kernel_rfl⟩ fun n l q a ht hp => device_ok n l q ht, tapeE_ok ⟨_, Try.func55, rfl, by kernel_rfl⟩ fun n l q a ht hp => group_ok n l q ht, pureE_ok ⟨_, Try.func54, rfl, by kernel_rfl⟩ fun a _ => iid_ok a.1, trivial⟩
def LT2 : CsL := LT2a ++ LT1
theorem LT2_ok : AllOk Try.prog LT2 := append_ok LT2a_ok LT1_ok
end Go.Proofs.Ythbhidfohdipnaa.AX

