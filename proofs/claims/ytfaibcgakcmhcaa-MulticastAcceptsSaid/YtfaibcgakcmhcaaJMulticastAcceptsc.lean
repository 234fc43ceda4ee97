/- Texts of one's own in one file: Tys, Ge, Tp, Lr, Fl, Mn, Trk, TrkLem, Tk, TkR, Wd, TkF, Bg, Plain, PkL, Oc, Mc, Mc2, Mk, BJ, BNw, Ml, BNs, BIn, Ma, Mp, Mdf, Ms, Mon, Ma2, Mq, Mqp. -/
import Derived.Test.YtfaibcgakcmhcaaChecked
import Derived.Test.YtfaibcgakcmhcaaJMulticastAcceptsb
import Derived.IntWalk
import Derived.Test.YtfaibcgakcmhcaaJMulticastAcceptsa
import Derived.Deep.Slices
import Derived.OpenShut
import Derived.DataReads
import Derived.ChangeArms
import Derived.Laws.BitsAllLaws
set_option linter.unusedVariables false
set_option linter.unusedSimpArgs false
set_option maxHeartbeats 16000000
set_option maxRecDepth 20000
namespace Go.Proofs.Ytfaibcgakcmhcaa.AX
def tyO : List (Nat × Option TI) := [
 (1, some ⟨.other, 1, [.top], [], 8⟩),
 (2, some ⟨.int .i64, 1, [.int .i64 0], [], 8⟩),
 (3, some ⟨.int .i64, 1, [.int .i64 0], [], 8⟩),
 (4, some ⟨.bool, 1, [.bool false], [], 1⟩),
 (5, some ⟨.int .u8, 1, [.int .u8 0], [], 1⟩),
 (6, some ⟨.int .u8, 1, [.int .u8 0], [], 1⟩),
 (7, some ⟨.struct [(0, 1, some false), (1, 1, some false), (2, 1, some false), (3, 1, some false)], 4, [.int .i64 0, .int .i64 0, .bool false, .int .u8 0], [], 24⟩),
 (8, some ⟨.struct [(0, 1, some false), (1, 1, some false), (2, 1, some false), (3, 1, some false)], 4, [.int .i64 0, .int .i64 0, .bool false, .int .u8 0], [], 24⟩),
 (12, some ⟨.int .u64, 1, [.int .u64 0], [], 8⟩),
 (13, some ⟨.struct [(0, 1, some false), (1, 1, some false)], 2, [.top, .int .u64 0], [], 24⟩),
 (14, some ⟨.struct [(0, 1, some false), (1, 1, some false)], 2, [.top, .int .u64 0], [], 24⟩),
 (15, some ⟨.ptr 120, 1, [.nilp], [], 8⟩),
 (16, some ⟨.ptr 123, 1, [.nilp], [], 8⟩),
 (17, some ⟨.ptr 132, 1, [.nilp], [], 8⟩),
 (18, some ⟨.struct [(0, 1, some false)], 1, [.nilp], [], 8⟩),
 (19, some ⟨.struct [(0, 1, some false)], 1, [.nilp], [], 8⟩),
 (21, some ⟨.int .i32, 1, [.int .i32 0], [], 4⟩),
 (22, some ⟨.slice 3 1 true, 1, [.nils], [], 24⟩),
 (23, some ⟨.ptr 72, 1, [.nilp], [], 8⟩),
 (24, some ⟨.other, 1, [.top], [], 8⟩),
 (25, some ⟨.slice 78 3 true, 1, [.nils], [], 24⟩),
 (26, some ⟨.slice 37 2 true, 1, [.nils], [], 24⟩),
 (27, some ⟨.int .u64, 1, [.int .u64 0], [], 8⟩),
 (28, some ⟨.int .u64, 1, [.int .u64 0], [], 8⟩),
 (29, some ⟨.other, 1, [.top], [], 8⟩),
 (30, some ⟨.slice 5 1 true, 1, [.nils], [], 24⟩),
 (31, some ⟨.struct [(0, 1, some false), (1, 1, some false), (2, 1, some false)], 3, [.int .u64 0, .int .i64 0, .nils], [], 40⟩),
 (32, some ⟨.struct [(0, 1, some false), (1, 1, some false), (2, 1, some false)], 3, [.int .u64 0, .int .i64 0, .nils], [], 40⟩),
 (33, some ⟨.int .i64, 1, [.int .i64 0], [], 8⟩),
 (36, some ⟨.int .u32, 1, [.int .u32 0], [], 4⟩),
 (37, some ⟨.arr 2 3 1 (some false), 2, [.int .i64 0, .int .i64 0], [false, false], 16⟩),
 (38, some ⟨.other, 1, [.top], [], 8⟩),
 (39, some ⟨.other, 1, [.top], [], 8⟩),
 (41, some ⟨.other, 1, [.top], [], 8⟩),
 (42, some ⟨.other, 1, [.top], [], 8⟩),
 (43, some ⟨.other, 1, [.top], [], 8⟩),
 (48, some ⟨.other, 1, [.top], [], 8⟩),
 (49, some ⟨.arr 64 4 1 (some false), 64, [.bool false, .bool false, .bool false, .bool false, .bool false, .bool false, .bool false, .bool false, .bool false, .bool false, .bool false, .bool false, .bool false, .bool false, .bool false, .bool false, .bool false, .bool false, .bool false, .bool false, .bool false, .bool false, .bool false, .bool false, .bool false, .bool false, .bool false, .bool false, .bool false, .bool false, .bool false, .bool false, .bool false, .bool false, .bool false, .bool false, .bool false, .bool false, .bool false, .bool false, .bool false, .bool false, .bool false, .bool false, .bool false, .bool false, .bool false, .bool false, .bool false, .bool false, .bool false, .bool false, .bool false, .bool false, .bool false, .bool false, .bool false, .bool false, .bool false, .bool false, .bool false, .bool false, .bool false, .bool false], [true, true, true, true, true, true, true, true, true, true, true, true, true, true, true, true, true, true, true, true, true, true, true, true, true, true, true, true, true, true, true, true, true, true, true, true, true, true, true, true, true, true, true, true, true, true, true, true, true, true, true, true, true, true, true, true, true, true, true, true, true, true, true, true], 64⟩),
 (50, some ⟨.arr 6 49 64 (some true), 384, List.replicate 384 (.bool false), [], 384⟩),
 (51, some ⟨.slice 32 3 true, 1, [.nils], [], 24⟩),
 (53, some ⟨.other, 1, [.top], [], 8⟩),
 (55, some ⟨.other, 1, [.top], [], 8⟩),
 (57, some ⟨.other, 1, [.top], [], 8⟩),
 (58, some ⟨.other, 1, [.top], [], 8⟩),
 (59, some ⟨.struct [(0, 1, some false), (1, 1, some false), (2, 1, some false)], 3, [.int .u64 0, .int .i64 0, .int .u32 0], [false, false, false], 24⟩),
 (62, some ⟨.other, 1, [.top], [], 8⟩),
 (64, some ⟨.other, 1, [.top], [], 8⟩),
 (65, some ⟨.slice 25 1 true, 1, [.nils], [], 24⟩),
 (66, some ⟨.arr 8 3 1 (some false), 8, [.int .i64 0, .int .i64 0, .int .i64 0, .int .i64 0, .int .i64 0, .int .i64 0, .int .i64 0, .int .i64 0], [false, false, false, false, false, false, false, false], 64⟩),
 (67, some ⟨.other, 1, [.top], [], 8⟩),
 (68, some ⟨.arr 8 51 1 (some false), 8, [.nils, .nils, .nils, .nils, .nils, .nils, .nils, .nils], [], 192⟩),
 (69, some ⟨.other, 1, [.top], [], 8⟩),
 (72, some ⟨.struct [(0, 1, some false), (1, 1, some false)], 2, [.nils, .int .i64 0], [], 32⟩),
 (76, some ⟨.slice 85 11 true, 1, [.nils], [], 24⟩),
 (77, some ⟨.struct [(0, 1, some false), (1, 1, some false), (2, 1, some false)], 3, [.int .u64 0, .int .i64 0, .nils], [], 40⟩),
 (78, some ⟨.struct [(0, 1, some false), (1, 1, some false), (2, 1, some false)], 3, [.int .u64 0, .int .i64 0, .nils], [], 40⟩),
 (79, some ⟨.ptr 78, 1, [.nilp], [], 8⟩),
 (81, some ⟨.struct [(0, 1, some false), (1, 1, some false), (2, 1, some false), (3, 1, some false), (4, 1, some false), (5, 1, some false), (6, 1, some false), (7, 1, some false)], 8, [.int .i64 0, .int .i64 0, .int .i64 0, .int .i64 0, .int .i64 0, .int .i64 0, .int .i64 0, .bool false], [false, false, false, false, false, false, false, true], 64⟩),
 (82, some ⟨.struct [(0, 1, some false), (1, 1, some false), (2, 1, some false), (3, 1, some false), (4, 1, some false), (5, 1, some false), (6, 1, some false), (7, 1, some false)], 8, [.int .i64 0, .int .i64 0, .int .i64 0, .int .i64 0, .int .i64 0, .int .i64 0, .int .i64 0, .bool false], [false, false, false, false, false, false, false, true], 64⟩),
 (84, some ⟨.struct [(0, 1, some false), (1, 1, some false), (2, 8, some true), (10, 1, some false)], 11, [.int .i64 0, .nils, .int .i64 0, .int .i64 0, .int .i64 0, .int .i64 0, .int .i64 0, .int .i64 0, .int .i64 0, .bool false, .int .i64 0], [], 104⟩),
 (85, some ⟨.struct [(0, 1, some false), (1, 1, some false), (2, 8, some true), (10, 1, some false)], 11, [.int .i64 0, .nils, .int .i64 0, .int .i64 0, .int .i64 0, .int .i64 0, .int .i64 0, .int .i64 0, .int .i64 0, .bool false, .int .i64 0], [], 104⟩),
 (86, some ⟨.other, 1, [.top], [], 8⟩),
 (91, some ⟨.other, 1, [.top], [], 8⟩),
 (96, some ⟨.other, 1, [.top], [], 8⟩),
 (97, some ⟨.int .u64, 1, [.int .u64 0], [], 8⟩),
 (101, some ⟨.other, 1, [.top], [], 8⟩),
 (105, some ⟨.other, 1, [.top], [], 8⟩),
 (106, some ⟨.other, 1, [.top], [], 8⟩),
 (112, some ⟨.other, 1, [.top], [], 8⟩),
 (113, some ⟨.other, 1, [.top], [], 8⟩),
 (116, some ⟨.other, 1, [.top], [], 8⟩),
 (120, some ⟨.struct [(0, 1, some false), (1, 1, some false), (2, 1, some false), (3, 1, some false)], 4, [.nilp, .nilp, .nilp, .top], [], 40⟩),
 (123, some ⟨.struct [(0, 0, some true)], 0, [], [], 0⟩),
 (128, some ⟨.ptr 5, 1, [.nilp], [], 8⟩)]
def T : Tys := fun t => look none tyO t
def TysAll (P : Program) : List (Nat × Option TI) -> Prop
 | [] => True
 | (_, none) :: rest => TysAll P rest
 | (t, some ti) :: rest => tyChk P t ti /\ TysAll P rest
theorem TysAll.at {P : Program} : ∀ {l : List (Nat × Option TI)}, TysAll P l -> ∀ t ti, look none l t = some ti -> tyChk P t ti := by
 intro l
 induction l with
 | nil => intro _ t ti h; cases h
 | cons p l ih =>
   obtain ⟨k, x⟩ := p
   intro h t ti ht
   by_cases hk : t = k
   . subst hk
     rw [look_cons_eq] at ht
     subst ht
     exact h.1
   . rw [look_cons_ne _ _ _ hk] at ht
     cases x with
     | none => exact ih h t ti ht
     | some y => exact ih h.2 t ti ht
theorem ty1 : tyChk Try.prog 1 ⟨.other, 1, [.top], [], 8⟩ := ⟨by kernel_rfl, by kernel_rfl, by kernel_rfl⟩
theorem ty2 : tyChk Try.prog 2 ⟨.int .i64, 1, [.int .i64 0], [], 8⟩ := ⟨by kernel_rfl, by kernel_rfl, by kernel_rfl⟩
theorem ty3 : tyChk Try.prog 3 ⟨.int .i64, 1, [.int .i64 0], [], 8⟩ := ⟨by kernel_rfl, by kernel_rfl, by kernel_rfl⟩
theorem ty4 : tyChk Try.prog 4 ⟨.bool, 1, [.bool false], [], 1⟩ := ⟨by kernel_rfl, by kernel_rfl, by kernel_rfl⟩
theorem ty5 : tyChk Try.prog 5 ⟨.int .u8, 1, [.int .u8 0], [], 1⟩ := ⟨by kernel_rfl, by kernel_rfl, by kernel_rfl⟩
theorem ty6 : tyChk Try.prog 6 ⟨.int .u8, 1, [.int .u8 0], [], 1⟩ := ⟨by kernel_rfl, by kernel_rfl, by kernel_rfl⟩
theorem ty7 : tyChk Try.prog 7 ⟨.struct [(0, 1, some false), (1, 1, some false), (2, 1, some false), (3, 1, some false)], 4, [.int .i64 0, .int .i64 0, .bool false, .int .u8 0], [], 24⟩ := ⟨by kernel_rfl, by kernel_rfl, by kernel_rfl⟩
theorem ty8 : tyChk Try.prog 8 ⟨.struct [(0, 1, some false), (1, 1, some false), (2, 1, some false), (3, 1, some false)], 4, [.int .i64 0, .int .i64 0, .bool false, .int .u8 0], [], 24⟩ := ⟨by kernel_rfl, by kernel_rfl, by kernel_rfl⟩
theorem ty12 : tyChk Try.prog 12 ⟨.int .u64, 1, [.int .u64 0], [], 8⟩ := ⟨by kernel_rfl, by kernel_rfl, by kernel_rfl⟩
theorem ty13 : tyChk Try.prog 13 ⟨.struct [(0, 1, some false), (1, 1, some false)], 2, [.top, .int .u64 0], [], 24⟩ := ⟨by kernel_rfl, by kernel_rfl, by kernel_rfl⟩
theorem ty14 : tyChk Try.prog 14 ⟨.struct [(0, 1, some false), (1, 1, some false)], 2, [.top, .int .u64 0], [], 24⟩ := ⟨by kernel_rfl, by kernel_rfl, by kernel_rfl⟩
theorem ty15 : tyChk Try.prog 15 ⟨.ptr 120, 1, [.nilp], [], 8⟩ := ⟨by kernel_rfl, by kernel_rfl, by kernel_rfl⟩
theorem ty16 : tyChk Try.prog 16 ⟨.ptr 123, 1, [.nilp], [], 8⟩ := ⟨by kernel_rfl, by kernel_rfl, by kernel_rfl⟩
theorem ty17 : tyChk Try.prog 17 ⟨.ptr 132, 1, [.nilp], [], 8⟩ := ⟨by kernel_rfl, by kernel_rfl, by kernel_rfl⟩
theorem ty18 : tyChk Try.prog 18 ⟨.struct [(0, 1, some false)], 1, [.nilp], [], 8⟩ := ⟨by kernel_rfl, by kernel_rfl, by kernel_rfl⟩
theorem ty19 : tyChk Try.prog 19 ⟨.struct [(0, 1, some false)], 1, [.nilp], [], 8⟩ := ⟨by kernel_rfl, by kernel_rfl, by kernel_rfl⟩
theorem ty21 : tyChk Try.prog 21 ⟨.int .i32, 1, [.int .i32 0], [], 4⟩ := ⟨by kernel_rfl, by kernel_rfl, by kernel_rfl⟩
theorem ty22 : tyChk Try.prog 22 ⟨.slice 3 1 true, 1, [.nils], [], 24⟩ := ⟨by kernel_rfl, by kernel_rfl, by kernel_rfl⟩
theorem ty23 : tyChk Try.prog 23 ⟨.ptr 72, 1, [.nilp], [], 8⟩ := ⟨by kernel_rfl, by kernel_rfl, by kernel_rfl⟩
theorem ty24 : tyChk Try.prog 24 ⟨.other, 1, [.top], [], 8⟩ := ⟨by kernel_rfl, by kernel_rfl, by kernel_rfl⟩
theorem ty25 : tyChk Try.prog 25 ⟨.slice 78 3 true, 1, [.nils], [], 24⟩ := ⟨by kernel_rfl, by kernel_rfl, by kernel_rfl⟩
theorem ty26 : tyChk Try.prog 26 ⟨.slice 37 2 true, 1, [.nils], [], 24⟩ := ⟨by kernel_rfl, by kernel_rfl, by kernel_rfl⟩
theorem ty27 : tyChk Try.prog 27 ⟨.int .u64, 1, [.int .u64 0], [], 8⟩ := ⟨by kernel_rfl, by kernel_rfl, by kernel_rfl⟩
theorem ty28 : tyChk Try.prog 28 ⟨.int .u64, 1, [.int .u64 0], [], 8⟩ := ⟨by kernel_rfl, by kernel_rfl, by kernel_rfl⟩
theorem ty29 : tyChk Try.prog 29 ⟨.other, 1, [.top], [], 8⟩ := ⟨by kernel_rfl, by kernel_rfl, by kernel_rfl⟩
theorem ty30 : tyChk Try.prog 30 ⟨.slice 5 1 true, 1, [.nils], [], 24⟩ := ⟨by kernel_rfl, by kernel_rfl, by kernel_rfl⟩
theorem ty31 : tyChk Try.prog 31 ⟨.struct [(0, 1, some false), (1, 1, some false), (2, 1, some false)], 3, [.int .u64 0, .int .i64 0, .nils], [], 40⟩ := ⟨by kernel_rfl, by kernel_rfl, by kernel_rfl⟩
theorem ty32 : tyChk Try.prog 32 ⟨.struct [(0, 1, some false), (1, 1, some false), (2, 1, some false)], 3, [.int .u64 0, .int .i64 0, .nils], [], 40⟩ := ⟨by kernel_rfl, by kernel_rfl, by kernel_rfl⟩
theorem ty33 : tyChk Try.prog 33 ⟨.int .i64, 1, [.int .i64 0], [], 8⟩ := ⟨by kernel_rfl, by kernel_rfl, by kernel_rfl⟩
theorem ty36 : tyChk Try.prog 36 ⟨.int .u32, 1, [.int .u32 0], [], 4⟩ := ⟨by kernel_rfl, by kernel_rfl, by kernel_rfl⟩
theorem ty37 : tyChk Try.prog 37 ⟨.arr 2 3 1 (some false), 2, [.int .i64 0, .int .i64 0], [false, false], 16⟩ := ⟨by kernel_rfl, by kernel_rfl, by kernel_rfl⟩
theorem ty38 : tyChk Try.prog 38 ⟨.other, 1, [.top], [], 8⟩ := ⟨by kernel_rfl, by kernel_rfl, by kernel_rfl⟩
theorem ty39 : tyChk Try.prog 39 ⟨.other, 1, [.top], [], 8⟩ := ⟨by kernel_rfl, by kernel_rfl, by kernel_rfl⟩
theorem ty41 : tyChk Try.prog 41 ⟨.other, 1, [.top], [], 8⟩ := ⟨by kernel_rfl, by kernel_rfl, by kernel_rfl⟩
theorem ty42 : tyChk Try.prog 42 ⟨.other, 1, [.top], [], 8⟩ := ⟨by kernel_rfl, by kernel_rfl, by kernel_rfl⟩
theorem ty43 : tyChk Try.prog 43 ⟨.other, 1, [.top], [], 8⟩ := ⟨by kernel_rfl, by kernel_rfl, by kernel_rfl⟩
theorem ty48 : tyChk Try.prog 48 ⟨.other, 1, [.top], [], 8⟩ := ⟨by kernel_rfl, by kernel_rfl, by kernel_rfl⟩
theorem ty49 : tyChk Try.prog 49 ⟨.arr 64 4 1 (some false), 64, [.bool false, .bool false, .bool false, .bool false, .bool false, .bool false, .bool false, .bool false, .bool false, .bool false, .bool false, .bool false, .bool false, .bool false, .bool false, .bool false, .bool false, .bool false, .bool false, .bool false, .bool false, .bool false, .bool false, .bool false, .bool false, .bool false, .bool false, .bool false, .bool false, .bool false, .bool false, .bool false, .bool false, .bool false, .bool false, .bool false, .bool false, .bool false, .bool false, .bool false, .bool false, .bool false, .bool false, .bool false, .bool false, .bool false, .bool false, .bool false, .bool false, .bool false, .bool false, .bool false, .bool false, .bool false, .bool false, .bool false, .bool false, .bool false, .bool false, .bool false, .bool false, .bool false, .bool false, .bool false], [true, true, true, true, true, true, true, true, true, true, true, true, true, true, true, true, true, true, true, true, true, true, true, true, true, true, true, true, true, true, true, true, true, true, true, true, true, true, true, true, true, true, true, true, true, true, true, true, true, true, true, true, true, true, true, true, true, true, true, true, true, true, true, true], 64⟩ := ⟨by kernel_rfl, by kernel_rfl, by kernel_rfl⟩
theorem ty50 : tyChk Try.prog 50 ⟨.arr 6 49 64 (some true), 384, List.replicate 384 (.bool false), [], 384⟩ := ⟨by kernel_rfl, by kernel_rfl, by kernel_rfl⟩
theorem ty51 : tyChk Try.prog 51 ⟨.slice 32 3 true, 1, [.nils], [], 24⟩ := ⟨by kernel_rfl, by kernel_rfl, by kernel_rfl⟩
theorem ty53 : tyChk Try.prog 53 ⟨.other, 1, [.top], [], 8⟩ := ⟨by kernel_rfl, by kernel_rfl, by kernel_rfl⟩
theorem ty55 : tyChk Try.prog 55 ⟨.other, 1, [.top], [], 8⟩ := ⟨by kernel_rfl, by kernel_rfl, by kernel_rfl⟩
theorem ty57 : tyChk Try.prog 57 ⟨.other, 1, [.top], [], 8⟩ := ⟨by kernel_rfl, by kernel_rfl, by kernel_rfl⟩
theorem ty58 : tyChk Try.prog 58 ⟨.other, 1, [.top], [], 8⟩ := ⟨by kernel_rfl, by kernel_rfl, by kernel_rfl⟩
theorem ty59 : tyChk Try.prog 59 ⟨.struct [(0, 1, some false), (1, 1, some false), (2, 1, some false)], 3, [.int .u64 0, .int .i64 0, .int .u32 0], [false, false, false], 24⟩ := ⟨by kernel_rfl, by kernel_rfl, by kernel_rfl⟩
theorem ty62 : tyChk Try.prog 62 ⟨.other, 1, [.top], [], 8⟩ := ⟨by kernel_rfl, by kernel_rfl, by kernel_rfl⟩
theorem ty64 : tyChk Try.prog 64 ⟨.other, 1, [.top], [], 8⟩ := ⟨by kernel_rfl, by kernel_rfl, by kernel_rfl⟩
theorem ty65 : tyChk Try.prog 65 ⟨.slice 25 1 true, 1, [.nils], [], 24⟩ := ⟨by kernel_rfl, by kernel_rfl, by kernel_rfl⟩
theorem ty66 : tyChk Try.prog 66 ⟨.arr 8 3 1 (some false), 8, [.int .i64 0, .int .i64 0, .int .i64 0, .int .i64 0, .int .i64 0, .int .i64 0, .int .i64 0, .int .i64 0], [false, false, false, false, false, false, false, false], 64⟩ := ⟨by kernel_rfl, by kernel_rfl, by kernel_rfl⟩
theorem ty67 : tyChk Try.prog 67 ⟨.other, 1, [.top], [], 8⟩ := ⟨by kernel_rfl, by kernel_rfl, by kernel_rfl⟩
theorem ty68 : tyChk Try.prog 68 ⟨.arr 8 51 1 (some false), 8, [.nils, .nils, .nils, .nils, .nils, .nils, .nils, .nils], [], 192⟩ := ⟨by kernel_rfl, by kernel_rfl, by kernel_rfl⟩
theorem ty69 : tyChk Try.prog 69 ⟨.other, 1, [.top], [], 8⟩ := ⟨by kernel_rfl, by kernel_rfl, by kernel_rfl⟩
theorem ty72 : tyChk Try.prog 72 ⟨.struct [(0, 1, some false), (1, 1, some false)], 2, [.nils, .int .i64 0], [], 32⟩ := ⟨by kernel_rfl, by kernel_rfl, by kernel_rfl⟩
theorem ty76 : tyChk Try.prog 76 ⟨.slice 85 11 true, 1, [.nils], [], 24⟩ := ⟨by kernel_rfl, by kernel_rfl, by kernel_rfl⟩
theorem ty77 : tyChk Try.prog 77 ⟨.struct [(0, 1, some false), (1, 1, some false), (2, 1, some false)], 3, [.int .u64 0, .int .i64 0, .nils], [], 40⟩ := ⟨by kernel_rfl, by kernel_rfl, by kernel_rfl⟩
theorem ty78 : tyChk Try.prog 78 ⟨.struct [(0, 1, some false), (1, 1, some false), (2, 1, some false)], 3, [.int .u64 0, .int .i64 0, .nils], [], 40⟩ := ⟨by kernel_rfl, by kernel_rfl, by kernel_rfl⟩
theorem ty79 : tyChk Try.prog 79 ⟨.ptr 78, 1, [.nilp], [], 8⟩ := ⟨by kernel_rfl, by kernel_rfl, by kernel_rfl⟩
theorem ty81 : tyChk Try.prog 81 ⟨.struct [(0, 1, some false), (1, 1, some false), (2, 1, some false), (3, 1, some false), (4, 1, some false), (5, 1, some false), (6, 1, some false), (7, 1, some false)], 8, [.int .i64 0, .int .i64 0, .int .i64 0, .int .i64 0, .int .i64 0, .int .i64 0, .int .i64 0, .bool false], [false, false, false, false, false, false, false, true], 64⟩ := ⟨by kernel_rfl, by kernel_rfl, by kernel_rfl⟩
theorem ty82 : tyChk Try.prog 82 ⟨.struct [(0, 1, some false), (1, 1, some false), (2, 1, some false), (3, 1, some false), (4, 1, some false), (5, 1, some false), (6, 1, some false), (7, 1, some false)], 8, [.int .i64 0, .int .i64 0, .int .i64 0, .int .i64 0, .int .i64 0, .int .i64 0, .int .i64 0, .bool false], [false, false, false, false, false, false, false, true], 64⟩ := ⟨by kernel_rfl, by kernel_rfl, by kernel_rfl⟩
theorem ty84 : tyChk Try.prog 84 ⟨.struct [(0, 1, some false), (1, 1, some false), (2, 8, some true), (10, 1, some false)], 11, [.int .i64 0, .nils, .int .i64 0, .int .i64 0, .int .i64 0, .int .i64 0, .int .i64 0, .int .i64 0, .int .i64 0, .bool false, .int .i64 0], [], 104⟩ := ⟨by kernel_rfl, by kernel_rfl, by kernel_rfl⟩
theorem ty85 : tyChk Try.prog 85 ⟨.struct [(0, 1, some false), (1, 1, some false), (2, 8, some true), (10, 1, some false)], 11, [.int .i64 0, .nils, .int .i64 0, .int .i64 0, .int .i64 0, .int .i64 0, .int .i64 0, .int .i64 0, .int .i64 0, .bool false, .int .i64 0], [], 104⟩ := ⟨by kernel_rfl, by kernel_rfl, by kernel_rfl⟩
theorem ty86 : tyChk Try.prog 86 ⟨.other, 1, [.top], [], 8⟩ := ⟨by kernel_rfl, by kernel_rfl, by kernel_rfl⟩
theorem ty91 : tyChk Try.prog 91 ⟨.other, 1, [.top], [], 8⟩ := ⟨by kernel_rfl, by kernel_rfl, by kernel_rfl⟩
theorem ty96 : tyChk Try.prog 96 ⟨.other, 1, [.top], [], 8⟩ := ⟨by kernel_rfl, by kernel_rfl, by kernel_rfl⟩
theorem ty97 : tyChk Try.prog 97 ⟨.int .u64, 1, [.int .u64 0], [], 8⟩ := ⟨by kernel_rfl, by kernel_rfl, by kernel_rfl⟩
theorem ty101 : tyChk Try.prog 101 ⟨.other, 1, [.top], [], 8⟩ := ⟨by kernel_rfl, by kernel_rfl, by kernel_rfl⟩
theorem ty105 : tyChk Try.prog 105 ⟨.other, 1, [.top], [], 8⟩ := ⟨by kernel_rfl, by kernel_rfl, by kernel_rfl⟩
theorem ty106 : tyChk Try.prog 106 ⟨.other, 1, [.top], [], 8⟩ := ⟨by kernel_rfl, by kernel_rfl, by kernel_rfl⟩
theorem ty112 : tyChk Try.prog 112 ⟨.other, 1, [.top], [], 8⟩ := ⟨by kernel_rfl, by kernel_rfl, by kernel_rfl⟩
theorem ty113 : tyChk Try.prog 113 ⟨.other, 1, [.top], [], 8⟩ := ⟨by kernel_rfl, by kernel_rfl, by kernel_rfl⟩
theorem ty116 : tyChk Try.prog 116 ⟨.other, 1, [.top], [], 8⟩ := ⟨by kernel_rfl, by kernel_rfl, by kernel_rfl⟩
theorem ty120 : tyChk Try.prog 120 ⟨.struct [(0, 1, some false), (1, 1, some false), (2, 1, some false), (3, 1, some false)], 4, [.nilp, .nilp, .nilp, .top], [], 40⟩ := ⟨by kernel_rfl, by kernel_rfl, by kernel_rfl⟩
theorem ty123 : tyChk Try.prog 123 ⟨.struct [(0, 0, some true)], 0, [], [], 0⟩ := ⟨by kernel_rfl, by kernel_rfl, by kernel_rfl⟩
theorem ty128 : tyChk Try.prog 128 ⟨.ptr 5, 1, [.nilp], [], 8⟩ := ⟨by kernel_rfl, by kernel_rfl, by kernel_rfl⟩
theorem tysOk : TysOk Try.prog T := (show TysAll Try.prog tyO from ⟨ty1, ty2, ty3, ty4, ty5, ty6, ty7, ty8, ty12, ty13, ty14, ty15, ty16, ty17, ty18, ty19, ty21, ty22, ty23, ty24, ty25, ty26, ty27, ty28, ty29, ty30, ty31, ty32, ty33, ty36, ty37, ty38, ty39, ty41, ty42, ty43, ty48, ty49, ty50, ty51, ty53, ty55, ty57, ty58, ty59, ty62, ty64, ty65, ty66, ty67, ty68, ty69, ty72, ty76, ty77, ty78, ty79, ty81, ty82, ty84, ty85, ty86, ty91, ty96, ty97, ty101, ty105, ty106, ty112, ty113, ty116, ty120, ty123, ty128, trivial⟩).at
theorem mixed : Try.prog.follows .mixedOrders = true := by kernel_rfl
end Go.Proofs.Ytfaibcgakcmhcaa.AX
namespace Go.Proofs.Ytfaibcgakcmhcaa.AX
open Go.RowKit
def LE0 : CsL := []
theorem LE0_ok : AllOk Try.prog LE0 := trivial
theorem eqFrom_iff {f g : Nat -> CV} : ∀ {n off : Nat}, eqFrom f g n off = true ↔ ∀ i, i < n -> eqCell (f (off + i)) (g (off + i)) = true := by
 intro n
 induction n with
 | zero => intro off; simp [eqFrom]
 | succ n ih =>
   intro off
   simp only [eqFrom, Bool.and_eq_true, ih]
   constructor
   . rintro ⟨h1, h2⟩ i hi
     cases i with
     | zero => exact h1
     | succ i => have := h2 i (by omega); rw [show off + 1 + i = off + (i + 1) by omega] at this; exact this
   . intro h
     refine ⟨h 0 (by omega), fun i hi => ?_⟩
     have := h (i + 1) (by omega)
     rw [show off + 1 + i = off + (i + 1) by omega]; exact this
theorem leC_eq {c : Wc} {x y z : CV} (h : LeC c x y) (e : y = z) : LeC c x z := e ▸ h
theorem drop_at {α : Type} [Inhabited α] {l : List α} {i : Nat} (h : i < l.length) : l.drop i = l.getD i default :: l.drop (i + 1) := by
 rw [List.drop_eq_getElem_cons h, List.getD_eq_getElem?_getD, List.getElem?_eq_getElem h]
 rfl
theorem blt_self (n : Nat) : Nat.blt n n = false := by
 cases hb : Nat.blt n n with
 | false => rfl
 | true => have := Nat.le_of_ble_eq_true hb; omega
theorem leC_row_fin {c : Wc} {k : Nat} {t : TypeId} {α : Type} [Inhabited α] {E : Elem α} {L : List α} (he : hget c.H k = some (ents E t L)) (hd : c.dead k = true) : LeC c (.os k 0 L.length) (slR E L) :=
 leC_os_sl he hd rfl rfl (by simp [ents]) fun q _ j _ => by rw [Nat.zero_add]; exact (E.flat _ _).le
theorem beq_of {a b : Nat} (h : a = b) : Nat.beq a b = true := by subst h; simp
theorem beq_ne {a b : Nat} (h : a ≠ b) : Nat.beq a b = false := by
 cases hb : Nat.beq a b with
 | false => rfl
 | true => exact absurd (Nat.eq_of_beq_eq_true hb) h
theorem leC_cell {c : Wc} {α : Type} {E : Elem α} {a b : α} {j : Nat} (h : a = b) : LeC c (E.cell a j) (E.cell b j) := by rw [h]; exact (E.flat _ _).le
theorem blt_lt {a b : Nat} (h : a < b) : Nat.blt a b = true := Nat.ble_eq_true_of_le h
def tapeN (n : Nat) (f : Nat -> Nat -> CV) (q : Int) : Ent := ⟨72, 1, 2, true, fun _ j => bif Nat.beq j 0 then .sl true n 1 f else .int .i64 q⟩
abbrev rI (l : List Int) : Nat -> Nat -> CV := rowF (eI .i64) l
def rngL (l : List Int) : Prop := ∀ i, -9223372036854775808 <= l.getD i default /\ l.getD i default <= 9223372036854775807
structure TapeOk (n : Nat) (f : Nat -> Nat -> CV) (q : Int) : Prop where
 len : n <= 400
 lo : 0 <= q
 hi : q <= n
 row : ∃ l : List Int, f = rI l /\ rngL l
theorem TapeOk.at {n : Nat} {f : Nat -> Nat -> CV} {q q' : Int} (h : TapeOk n f q) (h1 : 0 <= q') (h2 : q' <= n) : TapeOk n f q' := ⟨h.len, h1, h2, h.row⟩
theorem tapeN_le {c : Wc} {n : Nat} {l : List Int} {q : Int} : LeN c (tapeN n (rI l) q) (tapeN n (rI l) q) :=
 leN_var ⟨⟨trivial, leC_sl (fun _ => rfl) rfl rfl fun i _ j _ => leC_int rfl⟩, leC_int rfl⟩
theorem TapeOk.le {c : Wc} {n : Nat} {f : Nat -> Nat -> CV} {q : Int} (h : TapeOk n f q) : LeN c (tapeN n f q) (tapeN n f q) := by
 obtain ⟨_, _, _, l, rfl, _⟩ := h
 exact tapeN_le
theorem tapeN_nf {n : Nat} {l : List Int} {q : Int} : ∀ i, i < (tapeN n (rI l) q).n -> ∀ j, j < (tapeN n (rI l) q).sz -> NF ((tapeN n (rI l) q).f i j) := by
 intro i _ j _
 show NF (bif Nat.beq j 0 then _ else _)
 cases Nat.beq j 0 with
 | true => exact nf_sl fun i _ j _ => nf_int
 | false => exact nf_int
theorem tape_congr {P : Program} {fid : FuncId} {rest : List FV} {n : Nat} {f : Nat -> Nat -> CV} {q : Int} {g : Nat -> Nat -> CV} {val : FV} {e' : Ent} (h0 : g 0 0 = .sl true n 1 f) (h1 : g 0 1 = .int .i64 q) (h : MethOk P fid rest (tapeN n f q) val e') : MethOk P fid rest ⟨72, 1, 2, true, g⟩ val e' := by
 intro X w x vals a1 a2 a3 hent hrel
 refine h X w x vals a1 a2 a3 ?_ hrel
 refine hent.map rfl rfl rfl rfl rfl (fun _ _ => rfl) fun i hi j hj u hu => ?_
 have hi' : i < 1 := hi
 have hj' : j < 2 := hj
 have e0 : i = 0 := by omega
 subst e0
 rcases (show j = 0 \/ j = 1 by omega) with rfl | rfl
 . have t : (CV.sl true n 1 f).rel (fun _ => none) X (fun b => b = x.b) w u := by rw [<- h0]; exact hu
   exact t
 . have t : (CV.int .i64 q).rel (fun _ => none) X (fun b => b = x.b) w u := by rw [<- h1]; exact hu
   exact t
def tapeE {α R : Type} (A : AC α) (p : α -> Prop) (S : α -> R -> Prop) (enc : R -> FV) : Entry := fun args H _ _ =>
 match args with
 | .e (.c (.ptr k 0 0 _)) :: rest =>
   match hget H k with
   | some ⟨t, en, es, v, g⟩ =>
     match g 0 0, g 0 1 with
     | .sl true n s f, .int .i64 q =>
       match A.dec H rest with
       | some (a, pq, rd) => bif Nat.beq t 72 && Nat.beq en 1 && Nat.beq es 2 && v && Nat.beq s 1 && !(rd.any (Nat.beq k)) then
          some fun K => pAnd pq ((TapeOk n f q /\ p a) /\ ∀ r, S a r -> ∀ q', TapeOk n f q' -> K (enc r) [(k, some (tapeN n f q'))] (k :: rd)) else none
       | none => none
     | _, _ => none
   | none => none
 | _ => none
theorem tapeE_ok {α R : Type} {A : AC α} {p : α -> Prop} {S : α -> R -> Prop} {enc : R -> FV} {P : Program} {f : FuncId} (hb : hasBody P f)
 (h : ∀ n l q a, TapeOk n (rI l) q -> p a -> ∃ r q', S a r /\ TapeOk n (rI l) q' /\ MethOk P f (A.enc a) (tapeN n (rI l) q) (enc r) (tapeN n (rI l) q')) : EntOk P f (tapeE A p S enc) := by
 refine ⟨fun args H nm wd q _ hq K hK => ?_, fun args H nm wd q hq K K' hKK hK => ?_⟩
 . unfold tapeE at hq
   split at hq
   . rename_i k s rest
     split at hq
     . rename_i t en es v g he
       split at hq
       . rename_i n s f q0 hg0 hg1
         split at hq
         . rename_i a pr rd hd
           obtain ⟨hc, hq⟩ := cond_some hq
           subst hq
           simp only [Bool.and_eq_true, Bool.not_eq_true'] at hc
           obtain ⟨⟨⟨⟨⟨c1, c2⟩, c3⟩, c4⟩, c5⟩, c6⟩ := hc
           have c1 := Nat.eq_of_beq_eq_true c1
           have c2 := Nat.eq_of_beq_eq_true c2
           have c3 := Nat.eq_of_beq_eq_true c3
           have c5 := Nat.eq_of_beq_eq_true c5
           subst c1 c2 c3 c4 c5
           have hkr : k ∉ rd := fun hm => by
            have : rd.any (Nat.beq k) = true := List.any_eq_true.2 ⟨k, hm, by simp⟩
            rw [c6] at this; cases this
           obtain ⟨h1, ⟨h2, h2'⟩, h3⟩ := pAnd_iff.1 hK
           obtain ⟨l, rfl, hl⟩ := h2.row
           obtain ⟨r, q', g1, g2, g3⟩ := h n l q0 a h2 h2'
           refine ⟨_, _, _, callR_meth hb he rfl hkr ?_ (fun H' hh => A.sound H H' rest a pr rd hd h1 hh) (tape_congr hg0 hg1 g3) rfl, h3 _ g1 _ g2⟩
           intro i hi j hj
           have hi' : i < 1 := hi
           have hj' : j < 2 := hj
           have e0 : i = 0 := by omega
           subst e0
           rcases (show j = 0 \/ j = 1 by omega) with rfl | rfl
           . show NF (g 0 0); rw [hg0]; exact nf_sl fun i _ j _ => nf_int
           . show NF (g 0 1); rw [hg1]; exact nf_int
         . cases hq
       . cases hq
     . cases hq
   . cases hq
 . unfold tapeE at hq
   split at hq
   . split at hq
     . split at hq
       . split at hq
         . obtain ⟨hc, hq⟩ := cond_some hq
           subst hq
           obtain ⟨h1, h2, h3⟩ := pAnd_iff.1 hK
           exact pAnd_iff.2 ⟨h1, h2, fun r hr q' hq' => hKK _ _ _ (h3 r hr q' hq')⟩
         . cases hq
       . cases hq
     . cases hq
   . cases hq
section
variable {P : Program} {T : Tys} {Q : Qs} {wd : Nat}
theorem tape_intro (hwd : 0 < wd) (hT : TysOk P T) (hQ : QsOk P Q) (hm : P.follows .mixedOrders = true) {f : FuncId} {fn : Func} {c : Code} (hf : P.funcs[f]? = some fn) (hb : fn.body = some c) (rest : List FV) (hn : rest.length + 1 <= fn.ntmps) {n : Nat} {l : List Int} {q : Int} {R : Type} {S : R -> Prop} {enc : R -> FV} (hnf : ∀ r, NFF (enc r))
 (h : exec T Q wd fn.ntmps 1 c (argFr (.e (.c (.ptr 0 0 0 false)) :: rest) 0) [(0, some (tapeN n (rI l) q))] 1 (endH T fn.results.toList fun x H _ => ∃ r : R × Int, (S r.1 /\ TapeOk n (rI l) r.2) /\ FinM (enc r.1) (tapeN n (rI l) r.2) x H)) :
 ∃ r q', S r /\ TapeOk n (rI l) q' /\ MethOk P f rest (tapeN n (rI l) q) (enc r) (tapeN n (rI l) q') := by
 obtain ⟨⟨r, q'⟩, h1, h2⟩ := exec_some (α := R × Int) (post := fun a x H _ => FinM (enc a.1) (tapeN n (rI l) a.2) x H) (S := fun a => S a.1 /\ TapeOk n (rI l) a.2) hwd hQ h
 exact ⟨r, q', h1.1, h1.2, meth_intro hwd hT (QR_ok P) hm hf hb rest hn (hnf r) tapeN_nf h2⟩
end
theorem nff_int {k : IntKind} {a : Int} : NFF (.e (.c (.int k a))) := fun _ _ _ _ _ _ h => h
theorem nff_bool {a : Bool} : NFF (.e (.c (.bool a))) := fun _ _ _ _ _ _ h => h
theorem nff_c {x : CV} (h : NF x) : NFF (.e (.c x)) := h
theorem nff_elem {α : Type} (E : Elem α) (a : α) : NFF (.e (.agg E.sz (E.cell a))) := by
 rintro r r' X W w v ⟨cs, rfl, h1, h2⟩
 exact ⟨cs, rfl, h1, fun i u hu => (E.flat _ _).nf _ _ _ _ _ _ (h2 i u hu)⟩
theorem tmod_facts (x m : Int) (h : 1 <= m) : -m < x.tmod m /\ x.tmod m < m := by
 have h1 := Int.tmod_lt_of_pos x (show 0 < m by omega)
 have h2 := Int.tmod_lt_of_pos (-x) (show 0 < m by omega)
 rw [Int.neg_tmod] at h2
 omega
theorem next_ok (n : Nat) (l : List Int) (q m : Int) (ht : TapeOk n (rI l) q) (h1 : 1 <= m) (h2 : m <= 4611686018427387904) :
 ∃ r q', (0 <= r /\ r < m) /\ TapeOk n (rI l) q' /\ MethOk Try.prog 10 [(cI .i64).enc m] (tapeN n (rI l) q) ((cI .i64).enc r) (tapeN n (rI l) q') := by
 refine tape_intro (wd := 1) (Q := mkQ LE0) (by decide) tysOk (q_of LE0_ok) mixed Try.func10 rfl _ (by show 1 + 1 <= _; decide) (fun _ => nff_int) ?_
 have a1 := ht.len
 have a2 := ht.lo
 have a3 := ht.hi
 have a5 := tmod_facts (l.getD q.toNat default) m h1
 repeat' (first | (apply And.intro <;> intro hc <;> (first | exact Bool.noConfusion hc | (simp only [zb0] at hc) | skip)) | (refine And.intro zp0 ?_) | (apply And.intro) | (intro s hs))
 . exact ⟨(0, q), ⟨⟨by omega, by omega⟩, ht⟩, ⟨leF_int rfl, tapeN_le⟩⟩
 . refine ⟨((l.getD q.toNat default).tmod m + m, q + 1), ⟨⟨by omega, by omega⟩, ht.at (by omega) (by omega)⟩, ⟨leF_int ?_, leN_var ⟨⟨trivial, leC_sl (fun _ => rfl) rfl rfl fun i _ j _ => leC_int rfl⟩, leC_int ?_⟩⟩⟩
   . exact IntWalk.i64_in _ (by omega)
   . exact IntWalk.i64_in _ (by omega)
 . refine ⟨((l.getD q.toNat default).tmod m, q + 1), ⟨⟨by omega, by omega⟩, ht.at (by omega) (by omega)⟩, ⟨leF_int ?_, leN_var ⟨⟨trivial, leC_sl (fun _ => rfl) rfl rfl fun i _ j _ => leC_int rfl⟩, leC_int ?_⟩⟩⟩
   . rfl
   . exact IntWalk.i64_in _ (by omega)
def modF (v n : Int) : Int := if v.tmod n < 0 then v.tmod n + n else v.tmod n
theorem mod_ok (v n : Int) (h1 : 1 <= n) (h2 : n <= 4611686018427387904) : PureOk Try.prog 27 [(cI .i64).enc v, (cI .i64).enc n] ((cI .i64).enc (modF v n)) := by
 have a5 := tmod_facts v n h1
 refine pure_intro (wd := 1) (Q := mkQ LE0) (by decide) tysOk (q_of LE0_ok) mixed Try.func27 rfl _ (by show 2 <= _; decide) _ ?_
 repeat' (first | (apply And.intro <;> intro hc <;> (first | exact Bool.noConfusion hc | (simp only [zb0] at hc) | skip)) | (refine And.intro zp0 ?_) | (apply And.intro) | (intro s hs))
 . refine Done.mk (leF_int ?_)
   rw [modF, if_pos hc]
   exact IntWalk.i64_in _ (by omega)
 . refine Done.mk (leF_int ?_)
   rw [modF, if_neg hc]
abbrev nextE : Entry := tapeE (AC.cons (cI .i64) AC.nil) (fun a => 1 <= a.1 /\ a.1 <= 4611686018427387904) (fun a (r : Int) => 0 <= r /\ r < a.1) (cI .i64).enc
def LT0 : CsL := (10, some nextE) :: (27, some (pureE (AC.cons (cI .i64) (AC.cons (cI .i64) AC.nil)) (fun a => 1 <= a.2.1 /\ a.2.1 <= 4611686018427387904) (fun a => modF a.1 a.2.1) (cI .i64).enc)) :: []
theorem LT0_ok : AllOk Try.prog LT0 := ⟨tapeE_ok ⟨_, Try.func10, rfl, by kernel_rfl⟩ fun n l q a ht hp => next_ok n l q a.1 ht hp.1 hp.2, pureE_ok ⟨_, Try.func27, rfl, by kernel_rfl⟩ fun a h => mod_ok a.1 a.2.1 h.1 h.2, trivial⟩
theorem bool_ok (n : Nat) (l : List Int) (q m : Int) (ht : TapeOk n (rI l) q) (h1 : 1 <= m) (h2 : m <= 4611686018427387904) :
 ∃ (r : Bool) (q' : Int), True /\ TapeOk n (rI l) q' /\ MethOk Try.prog 19 [(cI .i64).enc m] (tapeN n (rI l) q) (cB.enc r) (tapeN n (rI l) q') := by
 refine tape_intro (wd := 1) (Q := mkQ LT0) (by decide) tysOk (q_of LT0_ok) mixed Try.func19 rfl _ (by show 1 + 1 <= _; decide) (fun _ => nff_bool) ?_
 repeat' (first | (apply And.intro <;> intro hc <;> (first | exact Bool.noConfusion hc | (simp only [zb0] at hc) | skip)) | (refine And.intro zp1 ?_) | (apply And.intro) | (intro s hs))
 . exact ⟨(_, _), ⟨trivial, by assumption⟩, ⟨leF_bool rfl, tapeN_le⟩⟩
theorem bo_shI {H : Hp} {n : Nat} {l : List Int} : Bo H [] (.e (.c (.sl true n 1 (rI l)))) (.e (.c (.sl true n 1 (rI l)))) := by
 rintro cx r w v st ⟨a, cap, rfl, h1, h2⟩
 refine ⟨a, cap, rfl, h1, fun h0 => ?_⟩
 obtain ⟨ad, rfl, hs, ho, hX, hlt, hc⟩ := h2 h0
 refine ⟨ad, rfl, hs, fun ⟨k, e, x, q1, q2, q3, _⟩ => ho ⟨k, e, x, q1, q2, q3⟩, fun _ h => h.elim (hX rfl) ho, hlt, fun i hi j hj => ?_⟩
 obtain ⟨u, hu, hr⟩ := hc i hi j hj
 exact ⟨u, hu, hr⟩
theorem new_ok (n : Nat) (l : List Int) : NewOk Try.prog 9 [.e (.c (.sl true n 1 (rI l)))] none none (tapeN (min n 400) (rI l) 0) := by
 refine new_intro (wd := 1) (Q := mkQ LE0) (by decide) tysOk (q_of LE0_ok) mixed Try.func9 rfl _ (by show 1 <= _; decide) tapeN_nf ?_
 repeat' (first | (apply And.intro <;> intro hc <;> (first | exact Bool.noConfusion hc | (simp only [zb0] at hc) | skip)) | (refine And.intro zp0 ?_) | (apply And.intro) | (intro s hs))
 . refine ⟨⟨some 9, leF_ptr rfl, ?_⟩⟩
   exact leN_var ⟨⟨trivial, leC_sl (fun _ => rfl) (by show 400 - 0 = min n 400; omega) rfl fun i _ j _ => leC_int (by rw [Nat.zero_add])⟩, leC_int rfl⟩
 . refine ⟨⟨some 6, leF_ptr rfl, ?_⟩⟩
   exact leN_var ⟨⟨trivial, leC_sl (fun _ => rfl) (by omega) rfl fun i _ j _ => leC_int rfl⟩, leC_int rfl⟩
def newTapeE : Entry := fun args H nm _ =>
 match args with
 | [.e (.c (.sl true n s f))] => bif Nat.beq s 1 then some fun K => (∃ l, f = rI l /\ rngL l) /\ ∀ m, ∀ q, TapeOk m f q -> K (one (.ptr nm 0 0 false)) [(nm, some (tapeN m f q))] [] else none
 | _ => none
theorem newTapeE_ok : EntOk Try.prog 9 newTapeE := by
 refine ⟨fun args H nm wd q hwd hq K hK => ?_, fun args H nm wd q hq K K' hKK hK => ?_⟩
 . unfold newTapeE at hq
   split at hq
   . rename_i n s f
     obtain ⟨hb, hq⟩ := cond_some hq
     subst hq
     have hb := Nat.eq_of_beq_eq_true hb
     subst hb
     obtain ⟨⟨l, rfl, hl⟩, hK⟩ := hK
     refine ⟨_, _, _, callR_new (args' := [.e (.c (.sl true n 1 (rI l)))]) (rd := []) ⟨_, Try.func9, rfl, by kernel_rfl⟩ hwd (kd := none) (rest := none) (fun l h => by cases h) (fun H' _ => ⟨rfl, fun i x y hx hy => ?_⟩) (new_ok n l), hK (min n 400) 0 ⟨by omega, by omega, by omega, l, rfl, hl⟩⟩
     cases i with
     | zero => simp only [List.getElem?_cons_zero, Option.some.injEq] at hx hy; subst hx hy; exact bo_shI
     | succ i => cases i <;> cases hx
   . cases hq
 . unfold newTapeE at hq
   split at hq
   . obtain ⟨hb, hq⟩ := cond_some hq
     subst hq
     exact ⟨hK.1, fun m q h => hKK _ _ _ (hK.2 m q h)⟩
   . cases hq
abbrev boolE : Entry := tapeE (AC.cons (cI .i64) AC.nil) (fun a => 1 <= a.1 /\ a.1 <= 4611686018427387904) (fun a (r : Bool) => True) cB.enc
def LTb : CsL := (19, some boolE) :: (9, some newTapeE) :: LT0
theorem LTb_ok : AllOk Try.prog LTb := ⟨tapeE_ok ⟨_, Try.func19, rfl, by kernel_rfl⟩ fun n l q a ht hp => bool_ok n l q a.1 ht hp.1 hp.2, newTapeE_ok, LT0_ok⟩
theorem spot_none {w : World} {a : Addr} {u : Value} (h : w.cell? a = some u) : a.spot = none := by
 unfold World.cell? at h
 split at h
 . split at h
   . cases h
   . rename_i hs; simpa using hs
 . cases h
theorem row_rel {w : World} {a : Option Addr} {len cap : Nat} {zs : List Int} (h : IsRow .i64 w a len cap zs) :
 (FV.e (.c (CV.sl true len 1 (rI zs)))).rel (fun _ => none) (fun _ => False) (fun _ => False) w (.slice a len cap) := by
 rcases h with ⟨rfl, rfl, rfl, rfl⟩ | ⟨ad, rfl, hl, hm, hz, hcell, hwz⟩
 . exact ⟨none, 0, rfl, Nat.le_refl _, fun h => absurd h (Nat.lt_irrefl _)⟩
 . refine ⟨some ad, cap, rfl, hl, fun h0 => ?_⟩
   have h1 := hcell 0 (by omega)
   rw [add_zero_] at h1
   have hsp : ad.spot = none := spot_none h1
   refine ⟨ad, rfl, hsp, fun h => h, fun _ h => h, cell_lt h1, fun i hi j hj => ?_⟩
   have : j = 0 := by omega
   subst this
   have h2 := hcell i (by omega)
   rw [addS hsp] at h2
   exact ⟨_, by rw [show i * 1 + 0 = i by omega]; exact h2, rfl⟩
theorem wf_i64 {n : Int} (h : (Lit.int .i64 n).wf = true) : -9223372036854775808 <= n /\ n <= 9223372036854775807 := by
 simp [Lit.wf, IntKind.min, IntKind.max, IntKind.bits, IntKind.signed] at h
 omega
theorem rng_of {w : World} {a : Option Addr} {len cap : Nat} {zs : List Int} (h : IsRow .i64 w a len cap zs) : rngL zs := by
 have hall : ∀ z ∈ zs, (Lit.int .i64 z).wf = true := by
  rcases h with ⟨rfl, rfl, rfl, rfl⟩ | ⟨ad, rfl, hl, hm, hz, hcell, hwz⟩
  . intro z hz; cases hz
  . exact hwz
 intro i
 by_cases hi : i < zs.length
 . have e : zs.getD i default = zs[i] := by simp [List.getD_eq_getElem?_getD, List.getElem?_eq_getElem hi]
   rw [e]
   exact wf_i64 (hall _ (List.getElem_mem hi))
 . have e : zs.getD i default = 0 := by simp [List.getD_eq_getElem?_getD, List.getElem?_eq_none (by omega : zs.length <= i)]
   rw [e]; omega
theorem relL1 {r : Ren} {X W : Nat -> Prop} {w : World} {x : FV} {v : Value} (h : x.rel r X W w v) : RelL r X W w [x] #[v] :=
 ⟨rfl, fun i y u hy hu => by
   match i, hy, hu with
   | 0, hy, hu => injection hy with hy; injection hu with hu; subst hy hu; exact h⟩
theorem relL_cons {r : Ren} {X W : Nat -> Prop} {w : World} {x : FV} {v : Value} {xs : List FV} {vs : List Value} (h : x.rel r X W w v) (ht : RelL r X W w xs vs.toArray) : RelL r X W w (x :: xs) (v :: vs).toArray := by
 refine ⟨by have := ht.1; simp at this ⊢; omega, fun i y u hy hu => ?_⟩
 cases i with
 | zero => simp at hy hu; subst hy hu; exact h
 | succ i => exact ht.2 i y u (by simpa using hy) (by simpa using hu)
theorem walk_of {P : Program} {f : FuncId} {args : List FV} {vals : Array Value} {w : World} (h : PureOk P f args (.e (.c (.bool true)))) (hr : RelL (fun _ => none) (fun _ => False) (fun _ => False) w args vals) (hg : GlobOk (fun _ => False) w := by exact fun p hp => by cases hp) :
 Calls P f vals w fun e w' => e = .returned (.bool true) /\ Below w.heap.size w w' :=
 (h (fun _ => False) w vals hr ⟨fun _ h => h.elim, hg⟩).mono fun e w' ⟨v, he, hb, hv⟩ => by
   have hv' : v = .bool true := hv
   subst hv'
   exact ⟨he, hb⟩
end Go.Proofs.Ytfaibcgakcmhcaa.AX
namespace Go.Proofs.Ytfaibcgakcmhcaa
open Go.ChangeShapes Go.WideShapes Go.RowKit AX
def KOk : Option IntKind -> Value -> Prop
 | some k, v => ∃ n, v = .int k n /\ (Lit.int k n).wf = true
 | none, v => ∃ b, v = .bool b
def Mt : List (Option IntKind) -> List Value -> Prop
 | [], [] => True
 | k :: ks, v :: vs => KOk k v /\ Mt ks vs
 | _, _ => False
theorem Mt.append {a b : List (Option IntKind)} {x y : List Value} (h : Mt a x) (h' : Mt b y) : Mt (a ++ b) (x ++ y) := by
 induction a generalizing x with
 | nil =>
   cases x with
   | nil => exact h'
   | cons => exact h.elim
 | cons k ks ih =>
   cases x with
   | nil => exact h.elim
   | cons v vs => exact ⟨h.1, ih h.2⟩
theorem Mt.len {a : List (Option IntKind)} {x : List Value} (h : Mt a x) : x.length = a.length := by
 induction a generalizing x with
 | nil =>
   cases x with
   | nil => rfl
   | cons => exact h.elim
 | cons k ks ih =>
   cases x with
   | nil => exact h.elim
   | cons v vs => simp [ih h.2]
def flatFs (P : Program) (g : TypeId -> Option (List (Option IntKind))) : List Field -> Nat -> Option (List (Option IntKind))
 | [], _ => some []
 | fd :: rest, off =>
   match g fd.type with
   | some l => bif Nat.beq fd.offset off && Nat.beq (P.cellsOf fd.type) l.length then (flatFs P g rest (off + l.length)).map (l ++ ·) else none
   | none => none
def flat (P : Program) : Nat -> TypeId -> Option (List (Option IntKind))
 | 0, _ => none
 | f + 1, t =>
   match P.underlying t with
   | some .bool => some [none]
   | some (.int k) => some [some k]
   | some (.struct fs) =>
     match flatFs P (flat P f) fs.toList 0 with
     | some l => bif Nat.beq (P.cellsOf t) l.length then some l else none
     | none => none
   | some (.array n e) =>
     match flat P f e with
     | some l => bif Nat.beq (P.cellsOf e) l.length && Nat.beq (P.cellsOf t) (n * l.length) then some (List.replicate n l).flatten else none
     | none => none
   | _ => none
section
variable {H : Type} {enc : TypeId × Value -> H} {P : Program} {w : World} {base : Nat} {spare : Nat -> Bool} {held : Bool}
end
def cvOf : Value -> CV
 | .int k n => .int k n
 | .bool b => .bool b
 | _ => .top
def KOkC : Option IntKind -> CV -> Prop
 | some k, x => ∃ n, x = .int k n /\ (Lit.int k n).wf = true
 | none, x => ∃ b, x = .bool b
def MtC (ks : List (Option IntKind)) (g : Nat -> CV) : Prop := ∀ j k, ks[j]? = some k -> KOkC k (g j)
theorem KOk.cv {k : Option IntKind} {v : Value} (h : KOk k v) : KOkC k (cvOf v) /\ ∀ r X W w, (cvOf v).rel r X W w v := by
 cases k with
 | some k => obtain ⟨n, rfl, h⟩ := h; exact ⟨⟨n, rfl, h⟩, fun _ _ _ _ => rfl⟩
 | none => obtain ⟨b, rfl⟩ := h; exact ⟨⟨b, rfl⟩, fun _ _ _ _ => rfl⟩
theorem Mt.at : ∀ {ks : List (Option IntKind)} {vs : List Value}, Mt ks vs -> ∀ (j : Nat) k, ks[j]? = some k -> ∃ v, vs[j]? = some v /\ KOk k v := by
 intro ks
 induction ks with
 | nil => intro vs _ j k h; simp at h
 | cons k0 ks ih =>
   intro vs h j k hk
   cases vs with
   | nil => exact h.elim
   | cons v vs =>
     cases j with
     | zero => simp at hk; subst hk; exact ⟨v, rfl, h.1⟩
     | succ j => simpa using ih h.2 j k (by simpa using hk)
def gOf (cs : List Value) (j : Nat) : CV := cvOf (cs.getD j undef)
theorem Mt.g {ks : List (Option IntKind)} {vs : List Value} (h : Mt ks vs) : MtC ks (gOf vs) /\ ∀ r X W w (j : Nat) u, vs[j]? = some u -> (gOf vs j).rel r X W w u := by
 have hlen := h.len
 refine ⟨fun j k hk => ?_, fun r X W w j u hu => ?_⟩
 . obtain ⟨v, hv, hko⟩ := h.at j k hk
   have : gOf vs j = cvOf v := by simp [gOf, List.getD_eq_getElem?_getD, hv]
   rw [this]; exact hko.cv.1
 . have hj : j < ks.length := by rw [<- hlen]; exact (List.getElem?_eq_some_iff.1 hu).1
   obtain ⟨v, hv, hko⟩ := h.at j _ (List.getElem?_eq_getElem hj)
   rw [hu] at hv; injection hv with hv; subst hv
   have : gOf vs j = cvOf u := by simp [gOf, List.getD_eq_getElem?_getD, hu]
   rw [this]; exact hko.cv.2 r X W w
section
variable {H : Type} {enc : TypeId × Value -> H} {P : Program} {w : World} {base : Nat} {spare : Nat -> Bool} {held : Bool}
theorem cells_lt {ad : Addr} {w : World} {u : Value} (h : w.cell? ad = some u) : ad.block < w.heap.size := cell_lt h
end
theorem MtC.k {ks : List (Option IntKind)} {g : Nat -> CV} (h : MtC ks g) {j : Nat} {k : IntKind} (hj : ks[j]? = some (some k)) : isK k (g j) = true := by
 obtain ⟨n, hn, _⟩ := h j _ hj
 rw [hn]; simp [isK, kindEq]
theorem MtC.b {ks : List (Option IntKind)} {g : Nat -> CV} (h : MtC ks g) {j : Nat} (hj : ks[j]? = some none) : isB (g j) = true := by
 obtain ⟨n, hn⟩ := h j _ hj
 rw [hn]; rfl
theorem MtC.wf {ks : List (Option IntKind)} {g : Nat -> CV} (h : MtC ks g) {j : Nat} {k : IntKind} (hj : ks[j]? = some (some k)) : (Lit.int k (valI (g j))).wf = true := by
 obtain ⟨n, hn, hw⟩ := h j _ hj
 rw [hn]; exact hw
end Go.Proofs.Ytfaibcgakcmhcaa
namespace Go.Proofs.Ytfaibcgakcmhcaa.AX
open Go.RowKit
theorem wrBut_wr {r : Ren} {H : Hp} {rd : List Nat} {b : Nat} (h : wrBut r H rd b) : wr r H b := by
 obtain ⟨nm, e, x, h1, h2, h3, _⟩ := h
 exact ⟨nm, e, x, h1, h2, h3⟩
inductive ShC : CV -> Prop
 | int (k : IntKind) (n : Int) : ShC (.int k n)
 | bool (b : Bool) : ShC (.bool b)
 | nils : ShC .nils
 | top : ShC .top
 | sl (n sz : Nat) (f : Nat -> Nat -> CV) : (∀ i, i < n -> ∀ j, j < sz -> ShC (f i j)) -> ShC (.sl true n sz f)
theorem ShC.bo {x : CV} (h : ShC x) : ∀ {r r' : Ren} {X W X' W' : Nat -> Prop} {w : World} {v : Value}, (∀ b, X' b -> X b \/ W b) -> (∀ b, W' b -> X b \/ W b) -> x.rel r X W w v -> x.rel r' X' W' w v := by
 induction h with
 | int k n => intro _ _ _ _ _ _ _ _ _ _ h; exact h
 | bool b => intro _ _ _ _ _ _ _ _ _ _ h; exact h
 | nils => intro _ _ _ _ _ _ _ _ _ _ h; exact h
 | top => intro _ _ _ _ _ _ _ _ _ _ h; exact h
 | sl n sz f hf ih =>
   rintro r r' X W X' W' w v hX hW ⟨a, cap, rfl, h1, h2⟩
   refine ⟨a, cap, rfl, h1, fun h0 => ?_⟩
   obtain ⟨ad, rfl, hs, ho, hx, hlt, hc⟩ := h2 h0
   refine ⟨ad, rfl, hs, fun h => (hW _ h).elim (hx rfl) ho, fun _ h => (hX _ h).elim (hx rfl) ho, hlt, fun i hi j hj => ?_⟩
   obtain ⟨u, hu, hr⟩ := hc i hi j hj
   exact ⟨u, hu, ih i hi j hj hX hW hr⟩
theorem ShC.le {x : CV} (h : ShC x) {c : Wc} : LeC c x x := by
 induction h with
 | int k n => exact leC_int rfl
 | bool b => exact leC_bool rfl
 | nils => exact leC_nils
 | top => exact leC_top
 | sl n sz f hf ih => exact leC_sl (fun _ => rfl) rfl rfl fun i hi j hj => ih i hi j hj
theorem ShC.nf {x : CV} (h : ShC x) : NF x := by
 induction h with
 | int k n => exact nf_int
 | bool b => exact nf_bool
 | nils => exact nf_nils
 | top => exact fun _ _ _ _ _ _ h => h
 | sl n sz f hf ih => exact nf_sl fun i hi j hj => ih i hi j hj
theorem shC_flat {α : Type} [Inhabited α] {E : Elem α} (hE : ∀ a j, j < E.sz -> ShC (E.cell a j)) (l : List α) : ShC (slR E l) := .sl _ _ _ fun i _ j hj => hE _ _ hj
structure NElem (α : Type) where
 sz : Nat
 cell : α -> Nat -> CV
 rd : (Nat -> CV) -> α
 ok : (Nat -> CV) -> Prop
 ok_rel : ∀ g, ok g -> ∀ j, j < sz -> ∀ r X W w v, (g j).rel r X W w v -> (cell (rd g) j).rel r X W w v
 sh : ∀ a j, j < sz -> ShC (cell a j)
section
variable {α : Type} (E : NElem α)
def cN : Codec α where
 enc a := .e (.agg E.sz (E.cell a))
 dec _ x := (ga E.sz x).bind fun f => some (E.rd f, some (E.ok f), [])
 sound H H' x a p rd h hp _ := by
  obtain ⟨f, h1, h⟩ := bind_some h
  injection h with h
  injection h with h h'
  injection h' with h' h''
  subst h h' h''
  rw [ga_eq h1]
  rintro cx r w v st ⟨cs, rfl, c1, c2⟩
  refine ⟨cs, rfl, c1, fun i u hu => ?_⟩
  have hi : i < E.sz := by rw [<- c1]; exact (Array.getElem?_eq_some_iff.1 hu).1
  exact (E.sh _ i hi).bo (fun _ h => h) (fun b h => .inr (wrBut_wr h)) (E.ok_rel f hp i hi _ _ _ _ _ (c2 i u hu))
variable [Inhabited α]
def rowN (l : List α) (i j : Nat) : CV := E.cell (l.getD i default) j
def toN (n : Nat) (g : Nat -> Nat -> CV) : List α := (List.range n).map fun i => E.rd (g i)
def slN (l : List α) : CV := .sl true l.length E.sz (rowN E l)
def entN (t : TypeId) (l : List α) : Ent := ⟨t, l.length, E.sz, false, rowN E l⟩
end
theorem toN_len {α : Type} {E : NElem α} (n : Nat) (g : Nat -> Nat -> CV) : (toN E n g).length = n := by simp [toN]
theorem toN_get {α : Type} [Inhabited α] {E : NElem α} {n : Nat} {g : Nat -> Nat -> CV} {i : Nat} (h : i < n) : (toN E n g).getD i default = E.rd (g i) := by simp [toN, h]
theorem toN_row {α : Type} [Inhabited α] {E : NElem α} (hE : ∀ a, E.rd (E.cell a) = a) (l : List α) : toN E l.length (rowN E l) = l := by
 apply List.ext_getElem
 . simp [toN]
 . intro i h1 h2
   simp only [toN, List.getElem_map, List.getElem_range]
   have : rowN E l i = E.cell (l.getD i default) := rfl
   rw [this, hE]
   simp [List.getD_eq_getElem?_getD, List.getElem?_eq_getElem h2]
theorem sh_slN {α : Type} [Inhabited α] {E : NElem α} (l : List α) : ShC (slN E l) := .sl _ _ _ fun i _ j hj => E.sh _ j hj
theorem sl_toN {α : Type} [Inhabited α] {E : NElem α} {sh : Bool} {n : Nat} {g : Nat -> Nat -> CV} (hok : ∀ i, i < n -> E.ok (g i)) {r : Ren} {X W : Nat -> Prop} {w : World} {v : Value} (h : (CV.sl sh n E.sz g).rel r X W w v) : (CV.sl sh (toN E n g).length E.sz (rowN E (toN E n g))).rel r X W w v := by
 rw [toN_len]
 obtain ⟨a, cap, rfl, h1, h2⟩ := h
 refine ⟨a, cap, rfl, h1, fun h0 => ?_⟩
 obtain ⟨ad, rfl, hs, ho, hx, hlt, hc⟩ := h2 h0
 refine ⟨ad, rfl, hs, ho, hx, hlt, fun i hi j hj => ?_⟩
 obtain ⟨u, hu, hr⟩ := hc i hi j hj
 refine ⟨u, hu, ?_⟩
 have := E.ok_rel _ (hok i hi) j hj _ _ _ _ _ hr
 unfold rowN
 rw [toN_get hi]
 exact this
theorem bo_slN {α : Type} [Inhabited α] {E : NElem α} {H : Hp} {x : FV} {n : Nat} {g : Nat -> Nat -> CV} {p : Option Prop} {rd : List Nat} (hsz : 0 < E.sz) (h : srcOf H E.sz x = some ⟨n, g, p, rd⟩) (hp : preOk p) (hok : ∀ i, i < n -> E.ok (g i)) :
 Bo H rd x (.e (.c (.sl false (toN E n g).length E.sz (rowN E (toN E n g))))) := by
 intro cx r w v st hx
 rw [toN_len]
 have cell : ∀ i, i < n -> ∀ j, j < E.sz -> ∀ u, (g i j).rel r cx.X (wr r H) w u -> (rowN E (toN E n g) i j).rel (fun _ => none) (fun b => cx.X b \/ wr r H b) (wrBut r H rd) w u := fun i hi j hj u hu => by
  unfold rowN
  rw [toN_get hi]
  exact (E.sh _ j hj).bo (fun _ h => h) (fun b h => .inr (wrBut_wr h)) (E.ok_rel _ (hok i hi) j hj _ _ _ _ _ hu)
 unfold srcOf at h
 split at h
 . rename_i sh n' s f
   obtain ⟨hb, h⟩ := cond_some h
   injection h with h1 h2 h3 h4
   subst h1 h2 h3 h4
   obtain ⟨a, cap, rfl, c1, c2⟩ := hx
   refine ⟨a, cap, rfl, c1, fun h0 => ?_⟩
   obtain ⟨ad, rfl, hs, ho, hX, hlt, hc⟩ := c2 h0
   refine ⟨ad, rfl, hs, fun h => ho (wrBut_wr h), (fun h => by cases h), hlt, fun i hi j hj => ?_⟩
   have hsE : s = E.sz := Nat.eq_of_beq_eq_true hb
   subst hsE
   obtain ⟨u, hu, hr⟩ := hc i hi j hj
   exact ⟨u, hu, cell i hi j hj u hr⟩
 . injection h with h
   injection h with h1 h2 h3 h4
   subst h1 h2 h3 h4
   have : v = .slice none 0 0 := hx
   subst this
   exact ⟨none, 0, rfl, Nat.le_refl _, fun h => absurd h (Nat.lt_irrefl _)⟩
 . rename_i k i n'
   split at h
   . rename_i et en es ev f he
     obtain ⟨hb, h⟩ := cond_some h
     injection h with h1 h2 h3 h4
     subst h1 h2 h3 h4
     have hsE : es = E.sz := Nat.eq_of_beq_eq_true hb
     subst hsE
     obtain ⟨a, cap, rfl, c1, c2⟩ := hx
     refine ⟨a, cap, rfl, c1, fun h0 => ?_⟩
     obtain ⟨x, hx, rfl, _⟩ := c2 (by omega)
     have hp' : i + n' <= en := hp
     obtain ⟨_, _, hxs, _⟩ := blk_at st he hx
     simp only at hxs
     refine ⟨⟨x.b, i * x.sz, none⟩, rfl, rfl, ?_, (fun h => by cases h), (st.dom k x hx.1).1, fun q hq j hj => ?_⟩
     . rintro ⟨k2, e2, y, q1, q2, q3, q4⟩
       have := st.inj k2 k e2 _ y x q1 he q2 hx.1 q3
       exact q4 (by rw [this]; exact List.mem_singleton.2 rfl)
     . obtain ⟨u, hu, hr⟩ := blk_cell st he hx (i := i + q) (j := j) (show i + q < en by omega) hj
       refine ⟨u, ?_, cell q hq j hj u hr⟩
       rw [<- hu]
       show w.cell? ⟨x.b, i * x.sz + (q * E.sz + j), none⟩ = _
       rw [show i * x.sz + (q * E.sz + j) = (i + q) * x.sz + j by rw [hxs, Nat.add_mul]; omega]
   . cases h
 . rename_i k i j0 n' s
   split at h
   . rename_i et en es ev f he
     obtain ⟨hb, h⟩ := cond_some h
     injection h with h1 h2 h3 h4
     subst h1 h2 h3 h4
     have hsE : s = E.sz := Nat.eq_of_beq_eq_true hb
     subst hsE
     obtain ⟨a, cap, rfl, c1, c2⟩ := hx
     refine ⟨a, cap, rfl, c1, fun h0 => ?_⟩
     obtain ⟨x, hx, rfl⟩ := c2 h0
     have hp' : i < en /\ j0 + n' * E.sz <= es := hp
     refine ⟨⟨x.b, i * x.sz + j0, none⟩, rfl, rfl, ?_, (fun h => by cases h), (st.dom k x hx.1).1, fun q hq j hj => ?_⟩
     . rintro ⟨k2, e2, y, q1, q2, q3, q4⟩
       have := st.inj k2 k e2 _ y x q1 he q2 hx.1 q3
       exact q4 (by rw [this]; exact List.mem_singleton.2 rfl)
     . have hlt : q * E.sz + j < n' * E.sz := by have := row_lt (sz := E.sz) hq; omega
       obtain ⟨u, hu, hr⟩ := blk_cell st he hx (i := i) (j := j0 + (q * E.sz + j)) (show i < en from hp'.1) (show j0 + (q * E.sz + j) < es by omega)
       refine ⟨u, ?_, cell q hq j hj u hr⟩
       rw [<- hu]
       show w.cell? ⟨x.b, i * x.sz + j0 + (q * E.sz + j), none⟩ = _
       rw [Nat.add_assoc]
   . cases h
 . cases h
def cNS {α : Type} [Inhabited α] (E : NElem α) (hsz : 0 < E.sz) : Codec (List α) where
 enc l := .e (.c (.sl false l.length E.sz (rowN E l)))
 dec H x := match srcOf H E.sz x with
  | some ⟨n, g, p, rd⟩ => some (toN E n g, both p (some (∀ i, i < n -> E.ok (g i))), rd)
  | none => none
 sound H H' x a p rd h hp hh := by
  split at h
  . rename_i n g q rd' hs
    injection h with h
    injection h with h h'
    injection h' with h' h''
    subst h h' h''
    obtain ⟨h1, h2⟩ := both_ok.1 hp
    exact bo_slN hsz (srcOf_congr hs hh) h1 h2
  . cases h
end Go.Proofs.Ytfaibcgakcmhcaa.AX
namespace Go.Proofs.Ytfaibcgakcmhcaa
structure Trk where
 min : Int
 dbl : Int
 red : Int
 start : Int
 len : Int
 fire : Int
 heard : Int
 fired : Bool
def isTimeT (t : Int) : Bool := decide (0 <= t /\ t <= 1099511627776)
def numbersB (m d r : Int) : Bool := decide (2 <= m /\ m <= 4096 /\ 0 <= d /\ d <= 16 /\ 0 <= r /\ r <= 64)
def fitsTo (m l : Int) : Nat -> Bool
 | 0 => false
 | k + 1 => fitsTo m l k || (l == m * 2 ^ k)
def validT (t : Trk) : Bool :=
 numbersB t.min t.dbl t.red && isTimeT t.start && decide (0 <= t.heard /\ t.heard <= 1048576) && fitsTo t.min t.len (t.dbl.toNat + 1) && decide (t.start + t.len / 2 <= t.fire /\ t.fire <= t.start + t.len - 1)
def beginT (t : Trk) (length now draw : Int) : Trk := { t with start := now, len := length, fire := now + length / 2 + draw % (length - length / 2), heard := 0, fired := false }
def zeroT : Trk := ⟨0, 0, 0, 0, 0, 0, 0, false⟩
def newT (m d r now draw : Int) : Trk × Int :=
 if isTimeT now = true /\ numbersB m d r = true then (beginT ⟨m, d, r, 0, 0, 0, 0, false⟩ m now draw, 0) else (zeroT, 2)
def hearT (t : Trk) : Trk := if validT t = true then (if t.heard < 1048576 then { t with heard := t.heard + 1 } else t) else zeroT
def resetT (t : Trk) (now draw : Int) : Trk × Int :=
 if validT t = true then (if isTimeT now = true then (if t.len = t.min then (t, 0) else (beginT t t.min now draw, 0)) else (zeroT, 2)) else (zeroT, 1)
def fireT (t : Trk) (now : Int) : Trk × Bool :=
 if t.fired = false /\ t.fire <= now then ({ t with fired := true }, decide (t.red = 0 \/ t.heard < t.red)) else (t, false)
def stepT (t : Trk) (now draw : Int) : Trk × Bool × Int :=
 if validT t = true then
  if isTimeT now = true /\ t.start <= now then
   (if t.start + t.len <= now then beginT (fireT t now).1 (Min.min (2 * t.len) (t.min * 2 ^ t.dbl.toNat)) now draw else (fireT t now).1, (fireT t now).2, 0)
  else (zeroT, false, 2)
 else (zeroT, false, 1)
theorem isTimeT_iff {c : Int} : isTimeT c = true ↔ 0 <= c /\ c <= 1099511627776 := by simp [isTimeT]
theorem numbersB_iff {m d r : Int} : numbersB m d r = true ↔ 2 <= m /\ m <= 4096 /\ 0 <= d /\ d <= 16 /\ 0 <= r /\ r <= 64 := by simp [numbersB]
theorem fitsTo_iff {m l : Int} {k : Nat} : fitsTo m l k = true ↔ ∃ j, j < k /\ l = m * 2 ^ j := by
 induction k with
 | zero => simp [fitsTo]
 | succ k ih =>
   simp only [fitsTo, Bool.or_eq_true, ih, beq_iff_eq]
   constructor
   . rintro (⟨j, hj, e⟩ | e)
     . exact ⟨j, by omega, e⟩
     . exact ⟨k, by omega, e⟩
   . rintro ⟨j, hj, e⟩
     by_cases h : j = k
     . subst h; exact .inr e
     . exact .inl ⟨j, by omega, e⟩
theorem pow_bd {m : Int} {j : Nat} (hm : 2 <= m /\ m <= 4096) (hj : j <= 16) : m <= m * 2 ^ j /\ m * 2 ^ j <= 268435456 := by
 have e : ((2 ^ j : Nat) : Int) = 2 ^ j := by simp
 have h1 : (1 : Int) <= 2 ^ j := by
  have := Nat.one_le_two_pow (n := j)
  rw [<- e]; omega
 have h2 : (2 : Int) ^ j <= 65536 := by
  have := Nat.pow_le_pow_right (n := 2) (by omega) hj
  rw [<- e]; omega
 constructor
 . have := Int.mul_le_mul_of_nonneg_left h1 (show 0 <= m by omega); omega
 . have := Int.mul_le_mul hm.2 h2 (by omega) (by omega); omega
theorem fits_bd {m l d : Int} (hm : 2 <= m /\ m <= 4096) (hd : 0 <= d /\ d <= 16) (h : fitsTo m l (d.toNat + 1) = true) : m <= l /\ l <= 268435456 := by
 obtain ⟨j, hj, rfl⟩ := fitsTo_iff.1 h
 exact pow_bd hm (by omega)
theorem validT_num {t : Trk} (h : validT t = true) : (2 <= t.min /\ t.min <= 4096 /\ 0 <= t.dbl /\ t.dbl <= 16 /\ 0 <= t.red /\ t.red <= 64) /\ (0 <= t.start /\ t.start <= 1099511627776) /\ (0 <= t.heard /\ t.heard <= 1048576) /\ (t.min <= t.len /\ t.len <= 268435456) /\ fitsTo t.min t.len (t.dbl.toNat + 1) = true /\ t.start + t.len / 2 <= t.fire /\ t.fire <= t.start + t.len - 1 := by
 simp only [validT, Bool.and_eq_true, decide_eq_true_eq, numbersB_iff, isTimeT_iff] at h
 obtain ⟨⟨⟨⟨h1, h2⟩, h3⟩, h4⟩, h5⟩ := h
 exact ⟨h1, h2, h3, fits_bd ⟨h1.1, h1.2.1⟩ ⟨h1.2.2.1, h1.2.2.2.1⟩ h4, h4, h5⟩
structure TInv (x : Trk) (now : Int) : Prop where
 valid : validT x = true
 lo : x.start <= now
 hi : now <= x.start + x.len
 fire : x.fired = false -> now <= x.fire
theorem validT_mk {t : Trk} (h1 : numbersB t.min t.dbl t.red = true) (h2 : isTimeT t.start = true) (h3 : 0 <= t.heard /\ t.heard <= 1048576) (h4 : fitsTo t.min t.len (t.dbl.toNat + 1) = true) (h5 : t.start + t.len / 2 <= t.fire /\ t.fire <= t.start + t.len - 1) : validT t = true := by
 unfold validT
 rw [h1, h2, h4, decide_eq_true h3, decide_eq_true h5]
 rfl
theorem validT_parts {t : Trk} (h : validT t = true) : numbersB t.min t.dbl t.red = true /\ isTimeT t.start = true := by
 simp only [validT, Bool.and_eq_true] at h
 exact ⟨h.1.1.1.1, h.1.1.1.2⟩
theorem fits_double {m l d : Int} (hm : 2 <= m) (hd : 0 <= d) (h : fitsTo m l (d.toNat + 1) = true) : fitsTo m (min (2 * l) (m * 2 ^ d.toNat)) (d.toNat + 1) = true := by
 obtain ⟨j, hj, rfl⟩ := fitsTo_iff.1 h
 rw [fitsTo_iff]
 by_cases hjd : j = d.toNat
 . subst hjd
   refine ⟨d.toNat, by omega, ?_⟩
   have : (0 : Int) <= m * 2 ^ d.toNat := Int.mul_nonneg (by omega) (Int.pow_nonneg (by omega))
   omega
 . refine ⟨j + 1, by omega, ?_⟩
   have h1 : 2 * (m * 2 ^ j) = m * 2 ^ (j + 1) := by rw [Int.pow_succ]; rw [<- Int.mul_assoc m, Int.mul_comm 2]
   have h2 : (2 : Int) ^ (j + 1) <= 2 ^ d.toNat := by
    have := Nat.pow_le_pow_right (n := 2) (by omega) (show j + 1 <= d.toNat by omega)
    have e1 : ((2 ^ (j + 1) : Nat) : Int) = 2 ^ (j + 1) := by simp
    have e2 : ((2 ^ d.toNat : Nat) : Int) = 2 ^ d.toNat := by simp
    rw [<- e1, <- e2]; omega
   have h3 := Int.mul_le_mul_of_nonneg_left h2 (show 0 <= m by omega)
   rw [h1]
   omega
theorem begin_valid {x : Trk} {l now draw : Int} (hv : validT x = true) (hf : fitsTo x.min l (x.dbl.toNat + 1) = true) (hn : 0 <= now /\ now <= 1099511627776) : validT (beginT x l now draw) = true /\ 2 <= l /\ l <= 268435456 := by
 have hn2 := validT_num hv
 obtain ⟨p1, p2⟩ := validT_parts hv
 have hl := fits_bd ⟨hn2.1.1, hn2.1.2.1⟩ ⟨hn2.1.2.2.1, hn2.1.2.2.2.1⟩ hf
 have hm : 0 <= draw % (l - l / 2) /\ draw % (l - l / 2) < l - l / 2 := ⟨Int.emod_nonneg _ (by omega), Int.emod_lt_of_pos _ (by omega)⟩
 refine ⟨validT_mk p1 (isTimeT_iff.2 hn) ⟨by show (0 : Int) <= 0; omega, by show (0 : Int) <= _; omega⟩ hf ⟨?_, ?_⟩, by omega, hl.2⟩
 . show now + l / 2 <= now + l / 2 + draw % (l - l / 2); omega
 . show now + l / 2 + draw % (l - l / 2) <= now + l - 1; omega
theorem fire_valid {x : Trk} {now : Int} (hv : validT x = true) : validT (fireT x now).1 = true /\ (fireT x now).1.start = x.start /\ (fireT x now).1.len = x.len /\ (fireT x now).1.fire = x.fire /\ (fireT x now).1.min = x.min /\ (fireT x now).1.dbl = x.dbl := by
 unfold fireT
 split
 . have hn := validT_num hv
   obtain ⟨p1, p2⟩ := validT_parts hv
   exact ⟨validT_mk p1 p2 hn.2.2.1 hn.2.2.2.2.1 hn.2.2.2.2.2, rfl, rfl, rfl, rfl, rfl⟩
 . exact ⟨hv, rfl, rfl, rfl, rfl, rfl⟩
structure TStep (x : Trk) (now : Int) (s : Trk × Bool × Int) : Prop where
 ok : s.2.2 = 0
 inv : TInv s.1 (now + 1)
 sends : s.2.1 = true -> x.fired = false /\ x.start + x.len / 2 <= now /\ now < x.start + x.len /\ (x.red = 0 \/ x.heard < x.red) /\ s.1.start = x.start /\ s.1.fired = true
 still : x.fired = true -> s.1.start = x.start -> s.1.fired = true
 turn : s.1.start ≠ x.start -> s.1.start = now /\ now = x.start + x.len /\ s.1.len = min (2 * x.len) (x.min * 2 ^ x.dbl.toNat)
end Go.Proofs.Ytfaibcgakcmhcaa
namespace Go.Proofs.Ytfaibcgakcmhcaa.AX
open Go.RowKit
def eTkC (x : Trk) (j : Nat) : CV := bif Nat.beq j 0 then .int .i64 x.min else bif Nat.beq j 1 then .int .i64 x.dbl else bif Nat.beq j 2 then .int .i64 x.red else bif Nat.beq j 3 then .int .i64 x.start else bif Nat.beq j 4 then .int .i64 x.len else bif Nat.beq j 5 then .int .i64 x.fire else bif Nat.beq j 6 then .int .i64 x.heard else (.bool x.fired)
def eTk : Elem Trk where
 sz := 8
 cell := eTkC
 rd g := ⟨valI (g 0), valI (g 1), valI (g 2), valI (g 3), valI (g 4), valI (g 5), valI (g 6), valB (g 7)⟩
 ok g := isK .i64 (g 0) && isK .i64 (g 1) && isK .i64 (g 2) && isK .i64 (g 3) && isK .i64 (g 4) && isK .i64 (g 5) && isK .i64 (g 6) && isB (g 7)
 ok_eq g h j hj := by
  simp only [Bool.and_eq_true] at h
  unfold eTkC
  by_cases c0 : j < 1
  . have e : j = 0 := by omega
    subst e
    exact isK_eq h.1.1.1.1.1.1.1
  by_cases c1 : j < 2
  . have e : j = 1 := by omega
    subst e
    exact isK_eq h.1.1.1.1.1.1.2
  by_cases c2 : j < 3
  . have e : j = 2 := by omega
    subst e
    exact isK_eq h.1.1.1.1.1.2
  by_cases c3 : j < 4
  . have e : j = 3 := by omega
    subst e
    exact isK_eq h.1.1.1.1.2
  by_cases c4 : j < 5
  . have e : j = 4 := by omega
    subst e
    exact isK_eq h.1.1.1.2
  by_cases c5 : j < 6
  . have e : j = 5 := by omega
    subst e
    exact isK_eq h.1.1.2
  by_cases c6 : j < 7
  . have e : j = 6 := by omega
    subst e
    exact isK_eq h.1.2
  by_cases c7 : j < 8
  . have e : j = 7 := by omega
    subst e
    exact isB_eq h.2
  omega
 flat a j := by
  unfold eTkC
  cases Nat.beq j 0 with
  | true => exact flat_int
  | false =>
  cases Nat.beq j 1 with
  | true => exact flat_int
  | false =>
  cases Nat.beq j 2 with
  | true => exact flat_int
  | false =>
  cases Nat.beq j 3 with
  | true => exact flat_int
  | false =>
  cases Nat.beq j 4 with
  | true => exact flat_int
  | false =>
  cases Nat.beq j 5 with
  | true => exact flat_int
  | false =>
  cases Nat.beq j 6 with
  | true => exact flat_int
  | false =>
  exact flat_bool
instance : Inhabited Trk := ⟨zeroT⟩
abbrev I1 : AC (Int × Unit) := AC.cons (cI .i64) AC.nil
abbrev I3 : AC (Int × Int × Int × Unit) := AC.cons (cI .i64) (AC.cons (cI .i64) I1)
abbrev TAC : AC (Trk × Unit) := AC.cons (cE eTk) AC.nil
abbrev T3 : AC (Trk × Int × Int × Unit) := AC.cons (cE eTk) (AC.cons (cI .i64) (AC.cons (cI .u32) AC.nil))
def enc2 (s : Trk × Int) : FV := .tup [.agg eTk.sz (eTk.cell s.1), .c (.int .i64 s.2)]
def enc3 (s : Trk × Bool × Int) : FV := .tup [.agg eTk.sz (eTk.cell s.1), .c (.bool s.2.1), .c (.int .i64 s.2.2)]
def drawOk (d : Int) : Prop := 0 <= d /\ d < 4294967296
theorem done_tk {H : Hp} {g : Nat -> CV} {x : Trk} (h : allLt 8 fun j => LeC ⟨H, [], [], 0, true⟩ (g j) (eTk.cell x j)) : Done H (.e (.agg 8 g)) ((cE eTk).enc x) := Done.mk (leF_e (leE_all h))
theorem done_tk2 {H : Hp} {g : Nat -> CV} {x : Trk} {e e' : Int} (h : allLt 8 fun j => LeC ⟨H, [], [], 0, true⟩ (g j) (eTk.cell x j)) (he : e = e') : Done H (.tup [.agg 8 g, .c (.int .i64 e)]) (enc2 (x, e')) := Done.mk (leF_tup ⟨leE_all h, leE_c (leC_int he), trivial⟩)
theorem done_tk3 {H : Hp} {g : Nat -> CV} {x : Trk} {b b' : Bool} {e e' : Int} (h : allLt 8 fun j => LeC ⟨H, [], [], 0, true⟩ (g j) (eTk.cell x j)) (hb : b = b') (he : e = e') : Done H (.tup [.agg 8 g, .c (.bool b), .c (.int .i64 e)]) (enc3 (x, b', e')) := Done.mk (leF_tup ⟨leE_all h, leE_c (leC_bool hb), leE_c (leC_int he), trivial⟩)
theorem tkTime_ok (c : Int) : PureOk Try.prog 60 [(cI .i64).enc c] (cB.enc (isTimeT c)) := by
 refine pure_intro (wd := 1) (Q := mkQ LE0) (by decide) tysOk (q_of LE0_ok) mixed Try.func60 rfl _ (by show 1 <= _; decide) _ ?_
 repeat' (first | (apply And.intro <;> intro hc <;> (first | exact Bool.noConfusion hc | (simp only [zb0] at hc) | skip)) | (refine And.intro zp0 ?_) | (apply And.intro) | (intro s hs))
 all_goals (refine Done.mk (leF_bool ?_); simp_all [isTimeT]; try omega)
theorem numbers_ok (m d r : Int) : PureOk Try.prog 61 [(cI .i64).enc m, (cI .i64).enc d, (cI .i64).enc r] (cB.enc (numbersB m d r)) := by
 refine pure_intro (wd := 1) (Q := mkQ LE0) (by decide) tysOk (q_of LE0_ok) mixed Try.func61 rfl _ (by show 3 <= _; decide) _ ?_
 repeat' (first | (apply And.intro <;> intro hc <;> (first | exact Bool.noConfusion hc | (simp only [zb0] at hc) | skip)) | (refine And.intro zp0 ?_) | (apply And.intro) | (intro s hs))
 all_goals (refine Done.mk (leF_bool ?_); simp_all [numbersB]; try omega)
theorem begin_ok (t : Trk) (l now draw : Int) (hl : 2 <= l /\ l <= 268435456) (hn : 0 <= now /\ now <= 1099511627776) (hd : drawOk draw) :
 PureOk Try.prog 62 [(cE eTk).enc t, (cI .i64).enc l, (cI .i64).enc now, (cI .u32).enc draw] ((cE eTk).enc (beginT t l now draw)) := by
 unfold drawOk at hd
 have hm : 0 <= draw % (l - l / 2) /\ draw % (l - l / 2) < l - l / 2 := ⟨Int.emod_nonneg _ (by omega), Int.emod_lt_of_pos _ (by omega)⟩
 refine pure_intro (wd := 1) (Q := mkQ LE0) (by decide) tysOk (q_of LE0_ok) mixed Try.func62 rfl _ (by show 4 <= _; decide) _ ?_
 repeat' (first | (apply And.intro <;> intro hc <;> (first | exact Bool.noConfusion hc | (simp only [zb0] at hc) | skip)) | (refine And.intro zp0 ?_) | (apply And.intro) | (intro s hs))
 . simp (disch := omega) only [IntWalk.i64_in, IntWalk.u8_in, IntWalk.u16_in, IntWalk.u32_in, IntWalk.u64_in, Int.tdiv_eq_ediv_of_nonneg, Int.tmod_eq_emod_of_nonneg]
   omega
 . refine done_tk ?_
   repeat' (first | exact trivial | exact rfl | refine leF_int ?_ | refine leF_bool ?_ | exact leF_ptr rfl | refine leF_e (leE_all ?_) | refine leF_tup ?_ | refine leC_int ?_ | refine leC_bool ?_ | exact leC_nils | exact leF_c leC_nils | apply And.intro)
   case right.left.left.right =>
    simp (disch := omega) only [IntWalk.i64_in, IntWalk.u8_in, IntWalk.u16_in, IntWalk.u32_in, IntWalk.u64_in, Int.tdiv_eq_ediv_of_nonneg, Int.tmod_eq_emod_of_nonneg]
    rfl
   all_goals rfl
abbrev timeE : Entry := pureE I1 (fun _ => True) (fun a => isTimeT a.1) cB.enc
abbrev numE : Entry := pureE I3 (fun _ => True) (fun a => numbersB a.1 a.2.1 a.2.2.1) cB.enc
abbrev beginE : Entry := pureE (AC.cons (cE eTk) (AC.cons (cI .i64) (AC.cons (cI .i64) (AC.cons (cI .u32) AC.nil)))) (fun a => (2 <= a.2.1 /\ a.2.1 <= 268435456) /\ (0 <= a.2.2.1 /\ a.2.2.1 <= 1099511627776) /\ drawOk a.2.2.2.1) (fun a => beginT a.1 a.2.1 a.2.2.1 a.2.2.2.1) (cE eTk).enc
def L1 : CsL := (60, some timeE) :: (61, some numE) :: (62, some beginE) :: []
theorem L1_ok : AllOk Try.prog L1 := ⟨pureE_ok ⟨_, Try.func60, rfl, by kernel_rfl⟩ fun a _ => tkTime_ok a.1, pureE_ok ⟨_, Try.func61, rfl, by kernel_rfl⟩ fun a _ => numbers_ok a.1 a.2.1 a.2.2.1, pureE_ok ⟨_, Try.func62, rfl, by kernel_rfl⟩ fun a h => begin_ok a.1 a.2.1 a.2.2.1 a.2.2.2.1 h.1 h.2.1 h.2.2, trivial⟩
theorem valid_ok (t : Trk) : PureOk Try.prog 58 [(cE eTk).enc t] (cB.enc (validT t)) := by
 have hv : validT t = (numbersB t.min t.dbl t.red && isTimeT t.start && decide (0 <= t.heard /\ t.heard <= 1048576) && fitsTo t.min t.len (t.dbl.toNat + 1) && decide (t.start + t.len / 2 <= t.fire /\ t.fire <= t.start + t.len - 1)) := rfl
 refine pure_intro (wd := 1) (Q := mkQ L1) (by decide) tysOk (q_of L1_ok) mixed Try.func58 rfl _ (by show 1 <= _; decide) _ ?_
 repeat' (first | (apply And.intro <;> intro hc <;> (first | exact Bool.noConfusion hc | (simp only [zb0, ne_eq, not_true_eq_false] at hc <;> first | exact absurd rfl hc | skip) | skip)) | (refine And.intro zp1 ?_) | (apply And.intro) | (intro s hs; (first | (have hs' : s = numbersB t.min t.dbl t.red := hs) | (have hs' : s = isTimeT t.start := hs)); clear hs; subst hs'))
 all_goals first
  | (refine Done.mk (leF_bool ?_); rw [hv]; simp [*]; done)
  | (refine Done.mk (leF_bool ?_); rw [hv]; simp [*]; omega)
  | skip
 rename_i h1 h2 h3
 have h4 := hc
 clear hc
 obtain ⟨n1, n2, n3, n4, n5, n6⟩ := numbersB_iff.1 h1
 obtain ⟨t1, t2⟩ := isTimeT_iff.1 h2
 have e1 : IntKind.i64.wrap (t.dbl + 1) = t.dbl + 1 := IntWalk.i64_in _ (by omega)
 refine loop_intro (mono_of L1_ok) (fun k : { k : Nat // k <= t.dbl.toNat + 1 } => (⟨[(1, one (.ptr 0 0 0 false)), (3, .e (.c (.bool (fitsTo t.min t.len k.1)))), (31, .e (.c (.int .i64 (t.dbl + 1)))), (32, .e (.c (.int .i64 k.1)))], [(0, some ⟨82, 1, 8, true, fun _ => eTk.cell t⟩)], 1⟩ : Hd)) (fun k => t.dbl.toNat + 1 - k.1) (fun _ => rfl) ?_ ⟨0, by omega⟩ [] ?_
 . rintro ⟨k, hk⟩
   have hp : k <= 16 -> t.min <= t.min * 2 ^ k /\ t.min * 2 ^ k <= 268435456 := fun h => pow_bd ⟨n1, n2⟩ h
   have hsh : k <= 16 -> shlI .i64 t.min k = t.min * 2 ^ k := fun h => by
    have := hp h
    unfold shlI
    rw [show min ((k : Int).toNat) (IntKind.bits .i64) = k by simp [IntKind.bits]; omega]
    exact IntWalk.i64_in _ (by omega)
   dsimp only
   repeat' (first | (apply And.intro <;> intro hc <;> (first | exact Bool.noConfusion hc | (simp only [zb0] at hc) | skip)) | (refine And.intro zp0 ?_) | (apply And.intro) | (intro s hs))
   all_goals try (rename_i g1; have g1' : (k : Int) < t.dbl + 1 := g1; rw [hsh (by omega)] at hc)
   . refine ⟨⟨k + 1, by omega⟩, [], by dsimp only; omega, rfl, ?_, ?_⟩
     . repeat' (first | exact zw0 | refine leF_int ?_ | refine leF_bool ?_ | exact zw1 | apply And.intro)
       . simp [fitsTo, hc]
       . exact zaw
     . repeat' (first | exact zw0 | refine leF_int ?_ | refine leF_bool ?_ | exact zw1 | apply And.intro)
   . refine ⟨⟨k + 1, by omega⟩, [], by dsimp only; omega, rfl, ?_, ?_⟩
     . repeat' (first | exact zw0 | refine leF_int ?_ | refine leF_bool ?_ | exact zw1 | apply And.intro)
       . simp [fitsTo, hc]
       . exact zaw
     . repeat' (first | exact zw0 | refine leF_int ?_ | refine leF_bool ?_ | exact zw1 | apply And.intro)
   all_goals refine Done.mk (leF_bool ?_)
   . rename_i g1 g2
     have hke : k = t.dbl.toNat + 1 := by omega
     subst hke
     have hl := fits_bd ⟨n1, n2⟩ ⟨n3, n4⟩ g2
     simp (disch := omega) only [IntWalk.i64_in, Int.tdiv_eq_ediv_of_nonneg, decide_eq_true_eq] at hc ⊢
     rw [hv, h1, h2, g2, decide_eq_true (show 0 <= t.heard /\ t.heard <= 1048576 by omega)]
     simp [hc]
   . rename_i g1 g2
     have hke : k = t.dbl.toNat + 1 := by omega
     subst hke
     have hl := fits_bd ⟨n1, n2⟩ ⟨n3, n4⟩ g2
     simp (disch := omega) only [IntWalk.i64_in, Int.tdiv_eq_ediv_of_nonneg, decide_eq_false_iff_not] at hc
     rw [hv, decide_eq_false (p := t.start + t.len / 2 <= t.fire /\ t.fire <= t.start + t.len - 1) (by omega)]
     simp
   . rename_i g1
     have hke : k = t.dbl.toNat + 1 := by omega
     subst hke
     rw [hv]
     simp [*]
 . refine ⟨rfl, ?_, ?_⟩
   . repeat' (first | exact zw0 | refine leF_int ?_ | refine leF_bool ?_ | exact zw1 | apply And.intro)
     exact e1
   . repeat' (first | exact zw0 | refine leF_int ?_ | refine leF_bool ?_ | exact zw1 | apply And.intro)
abbrev validE : Entry := pureE TAC (fun _ => True) (fun a => validT a.1) cB.enc
def L2 : CsL := (58, some validE) :: L1
theorem L2_ok : AllOk Try.prog L2 := ⟨pureE_ok ⟨_, Try.func58, rfl, by kernel_rfl⟩ fun a _ => valid_ok a.1, L1_ok⟩
theorem newT_ok (m d r now draw : Int) (hd : drawOk draw) :
 PureOk Try.prog 38 [(cI .i64).enc m, (cI .i64).enc d, (cI .i64).enc r, (cI .i64).enc now, (cI .u32).enc draw] (enc2 (newT m d r now draw)) := by
 have hb : numbersB m d r = true -> 2 <= m /\ m <= 4096 := fun h => by have := numbersB_iff.1 h; omega
 have ht : isTimeT now = true -> 0 <= now /\ now <= 1099511627776 := isTimeT_iff.1
 refine pure_intro (wd := 1) (Q := mkQ L2) (by decide) tysOk (q_of L2_ok) mixed Try.func38 rfl _ (by show 5 <= _; decide) _ ?_
 repeat' (first | (apply And.intro <;> intro hc <;> (first | exact Bool.noConfusion hc | (simp only [zb0, ne_eq, not_true_eq_false] at hc <;> first | exact absurd rfl hc | skip) | skip)) | (refine And.intro zp1 ?_) | (apply And.intro) | (intro s hs; (first | (have hs' : s = numbersB m d r := hs) | (have hs' : s = isTimeT now := hs) | (have hs' : s = beginT ⟨m, d, r, 0, 0, 0, 0, false⟩ m now draw := hs)); clear hs; subst hs'))
 all_goals first
  | exact (hb (by assumption)).1
  | exact (ht (by assumption)).1
  | exact (ht (by assumption)).2
  | exact hd.1
  | exact hd.2
  | (have := hb (by assumption); dsimp only; omega)
  | (have e : newT m d r now draw = (zeroT, 2) := by simp [newT, *]
     rw [e]
     refine done_tk2 ?_ rfl
     repeat' (first | exact trivial | exact rfl | refine leF_int ?_ | refine leF_bool ?_ | exact leF_ptr rfl | refine leF_e (leE_all ?_) | refine leF_tup ?_ | refine leC_int ?_ | refine leC_bool ?_ | exact leC_nils | exact leF_c leC_nils | apply And.intro))
  | (have e : newT m d r now draw = (beginT ⟨m, d, r, 0, 0, 0, 0, false⟩ m now draw, 0) := by simp [newT, *]
     rw [e]
     refine done_tk2 ?_ rfl
     repeat' (first | exact trivial | exact rfl | refine leF_int ?_ | refine leF_bool ?_ | exact leF_ptr rfl | refine leF_e (leE_all ?_) | refine leF_tup ?_ | refine leC_int ?_ | refine leC_bool ?_ | exact leC_nils | exact leF_c leC_nils | apply And.intro))
theorem hear_ok (t : Trk) : PureOk Try.prog 36 [(cE eTk).enc t] ((cE eTk).enc (hearT t)) := by
 refine pure_intro (wd := 1) (Q := mkQ L2) (by decide) tysOk (q_of L2_ok) mixed Try.func36 rfl _ (by show 1 <= _; decide) _ ?_
 repeat' (first | (apply And.intro <;> intro hc <;> (first | exact Bool.noConfusion hc | (simp only [zb0, ne_eq, not_true_eq_false] at hc <;> first | exact absurd rfl hc | skip) | skip)) | (refine And.intro zp1 ?_) | (apply And.intro) | (intro s hs; (have hs' : s = validT t := hs); clear hs; subst hs'))
 . have e : hearT t = zeroT := by simp [hearT, *]
   rw [e]
   refine done_tk ?_
   repeat' (first | exact trivial | exact rfl | refine leF_int ?_ | refine leF_bool ?_ | exact leF_ptr rfl | refine leF_e (leE_all ?_) | refine leF_tup ?_ | refine leC_int ?_ | refine leC_bool ?_ | exact leC_nils | exact leF_c leC_nils | apply And.intro)
 . rename_i hv
   have hn := validT_num hv
   have e : hearT t = { t with heard := t.heard + 1 } := by simp [hearT, *]
   rw [e]
   refine done_tk ?_
   repeat' (first | exact trivial | exact rfl | refine leF_int ?_ | refine leF_bool ?_ | exact leF_ptr rfl | refine leF_e (leE_all ?_) | refine leF_tup ?_ | refine leC_int ?_ | refine leC_bool ?_ | exact leC_nils | exact leF_c leC_nils | apply And.intro)
   all_goals first | rfl | exact IntWalk.i64_in _ (by omega)
 . have e : hearT t = t := by simp [hearT, *]
   rw [e]
   refine done_tk ?_
   repeat' (first | exact trivial | exact rfl | refine leF_int ?_ | refine leF_bool ?_ | exact leF_ptr rfl | refine leF_e (leE_all ?_) | refine leF_tup ?_ | refine leC_int ?_ | refine leC_bool ?_ | exact leC_nils | exact leF_c leC_nils | apply And.intro)
theorem reset_ok (t : Trk) (now draw : Int) (hd : drawOk draw) :
 PureOk Try.prog 53 [(cE eTk).enc t, (cI .i64).enc now, (cI .u32).enc draw] (enc2 (resetT t now draw)) := by
 have hn := @validT_num t
 have ht : isTimeT now = true -> 0 <= now /\ now <= 1099511627776 := isTimeT_iff.1
 refine pure_intro (wd := 1) (Q := mkQ L2) (by decide) tysOk (q_of L2_ok) mixed Try.func53 rfl _ (by show 3 <= _; decide) _ ?_
 repeat' (first | (apply And.intro <;> intro hc <;> (first | exact Bool.noConfusion hc | (simp only [zb0, ne_eq, not_true_eq_false] at hc <;> first | exact absurd rfl hc | skip) | skip)) | (refine And.intro zp1 ?_) | (apply And.intro) | (intro s hs; (first | (have hs' : s = validT t := hs) | (have hs' : s = isTimeT now := hs) | (have hs' : s = beginT t t.min now draw := hs)); clear hs; subst hs'))
 all_goals first
  | exact (hn (by assumption)).1.1
  | exact (ht (by assumption)).1
  | exact (ht (by assumption)).2
  | exact hd.1
  | exact hd.2
  | (have := hn (by assumption); dsimp only; omega)
  | (have e : resetT t now draw = (zeroT, 1) := by simp [resetT, *]
     rw [e]
     refine done_tk2 ?_ rfl
     repeat' (first | exact trivial | exact rfl | refine leF_int ?_ | refine leF_bool ?_ | exact leF_ptr rfl | refine leF_e (leE_all ?_) | refine leF_tup ?_ | refine leC_int ?_ | refine leC_bool ?_ | exact leC_nils | exact leF_c leC_nils | apply And.intro))
  | (have e : resetT t now draw = (zeroT, 2) := by simp [resetT, *]
     rw [e]
     refine done_tk2 ?_ rfl
     repeat' (first | exact trivial | exact rfl | refine leF_int ?_ | refine leF_bool ?_ | exact leF_ptr rfl | refine leF_e (leE_all ?_) | refine leF_tup ?_ | refine leC_int ?_ | refine leC_bool ?_ | exact leC_nils | exact leF_c leC_nils | apply And.intro))
  | (have e : resetT t now draw = (t, 0) := by simp [resetT, *]
     rw [e]
     refine done_tk2 ?_ rfl
     repeat' (first | exact trivial | exact rfl | refine leF_int ?_ | refine leF_bool ?_ | exact leF_ptr rfl | refine leF_e (leE_all ?_) | refine leF_tup ?_ | refine leC_int ?_ | refine leC_bool ?_ | exact leC_nils | exact leF_c leC_nils | apply And.intro))
  | (have e : resetT t now draw = (beginT t t.min now draw, 0) := by simp [resetT, *]
     rw [e]
     refine done_tk2 ?_ rfl
     repeat' (first | exact trivial | exact rfl | refine leF_int ?_ | refine leF_bool ?_ | exact leF_ptr rfl | refine leF_e (leE_all ?_) | refine leF_tup ?_ | refine leC_int ?_ | refine leC_bool ?_ | exact leC_nils | exact leF_c leC_nils | apply And.intro))
theorem stepT_ok (t : Trk) (now draw : Int) (hd : drawOk draw) :
 PureOk Try.prog 45 [(cE eTk).enc t, (cI .i64).enc now, (cI .u32).enc draw] (enc3 (stepT t now draw)) := by
 have hvn := @validT_num t
 have ht : isTimeT now = true -> 0 <= now /\ now <= 1099511627776 := isTimeT_iff.1
 have hF1 : t.fired = false -> t.fire <= now -> fireT t now = ({ t with fired := true }, decide (t.red = 0 \/ t.heard < t.red)) := fun a b => by unfold fireT; rw [if_pos ⟨a, b⟩]
 have hF2 : t.fired = true -> fireT t now = (t, false) := fun a => by unfold fireT; rw [if_neg (by rw [a]; simp)]
 have hF3 : ¬ t.fire <= now -> fireT t now = (t, false) := fun a => by unfold fireT; rw [if_neg (fun h => a h.2)]
 by_cases hv : validT t = true
 case neg =>
  have hv' : validT t = false := by simpa using hv
  have e : stepT t now draw = (zeroT, false, 1) := by unfold stepT; rw [if_neg hv]
  rw [e]
  clear hF1 hF2 hF3
  refine pure_intro (wd := 1) (Q := mkQ L2) (by decide) tysOk (q_of L2_ok) mixed Try.func45 rfl _ (by show 3 <= _; decide) _ ?_
  repeat' (first | (apply And.intro <;> intro hc <;> (first | exact Bool.noConfusion hc | (simp only [zb0, ne_eq, not_true_eq_false] at hc <;> first | exact absurd rfl hc | skip) | skip)) | (refine And.intro zp1 ?_) | (apply And.intro) | (intro s hs; (first | (have hs' : s = false := hs.trans hv') | (have hs' : s = isTimeT now := hs)); clear hs; subst hs'))
  refine done_tk3 ?_ rfl rfl
  repeat' (first | exact trivial | exact rfl | refine leF_int ?_ | refine leF_bool ?_ | exact leF_ptr rfl | refine leF_e (leE_all ?_) | refine leF_tup ?_ | refine leC_int ?_ | refine leC_bool ?_ | exact leC_nils | exact leF_c leC_nils | apply And.intro)
 by_cases htm : isTimeT now = true
 case neg =>
  have htm' : isTimeT now = false := by simpa using htm
  have e : stepT t now draw = (zeroT, false, 2) := by unfold stepT; rw [if_pos hv, if_neg (fun h => htm h.1)]
  rw [e]
  clear hF1 hF2 hF3
  refine pure_intro (wd := 1) (Q := mkQ L2) (by decide) tysOk (q_of L2_ok) mixed Try.func45 rfl _ (by show 3 <= _; decide) _ ?_
  repeat' (first | (apply And.intro <;> intro hc <;> (first | exact Bool.noConfusion hc | (simp only [zb0, ne_eq, not_true_eq_false] at hc <;> first | exact absurd rfl hc | skip) | skip)) | (refine And.intro zp1 ?_) | (apply And.intro) | (intro s hs; (first | (have hs' : s = true := hs.trans hv) | (have hs' : s = false := hs.trans htm')); clear hs; subst hs'))
  all_goals (refine done_tk3 ?_ rfl rfl; repeat' (first | exact trivial | exact rfl | refine leF_int ?_ | refine leF_bool ?_ | exact leF_ptr rfl | refine leF_e (leE_all ?_) | refine leF_tup ?_ | refine leC_int ?_ | refine leC_bool ?_ | exact leC_nils | exact leF_c leC_nils | apply And.intro))
 by_cases hst : t.start <= now
 case neg =>
  have e : stepT t now draw = (zeroT, false, 2) := by unfold stepT; rw [if_pos hv, if_neg (fun h => hst h.2)]
  rw [e]
  clear hF1 hF2 hF3
  refine pure_intro (wd := 1) (Q := mkQ L2) (by decide) tysOk (q_of L2_ok) mixed Try.func45 rfl _ (by show 3 <= _; decide) _ ?_
  repeat' (first | (apply And.intro <;> intro hc <;> (first | exact Bool.noConfusion hc | (simp only [zb0, ne_eq, not_true_eq_false] at hc <;> first | exact absurd rfl hc | skip) | skip)) | (refine And.intro zp1 ?_) | (apply And.intro) | (intro s hs; (first | (have hs' : s = true := hs.trans hv) | (have hs' : s = true := hs.trans htm)); clear hs; subst hs'))
  all_goals first
   | (exfalso; omega)
   | (refine done_tk3 ?_ rfl rfl; repeat' (first | exact trivial | exact rfl | refine leF_int ?_ | refine leF_bool ?_ | exact leF_ptr rfl | refine leF_e (leE_all ?_) | refine leF_tup ?_ | refine leC_int ?_ | refine leC_bool ?_ | exact leC_nils | exact leF_c leC_nils | apply And.intro))
 have hn := hvn hv
 obtain ⟨j, hj, hlen⟩ := fitsTo_iff.1 hn.2.2.2.2.1
 have hp := pow_bd (j := t.dbl.toNat) ⟨hn.1.1, hn.1.2.1⟩ (by omega)
 have hsh : shlI .i64 t.min t.dbl = t.min * 2 ^ t.dbl.toNat := by
  unfold shlI
  rw [show min t.dbl.toNat (IntKind.bits .i64) = t.dbl.toNat by simp [IntKind.bits]; omega]
  exact IntWalk.i64_in _ (by omega)
 have ht' := ht htm
 have hw1 : IntKind.i64.wrap (t.start + t.len) = t.start + t.len := IntWalk.i64_in _ (by omega)
 have hw2 : IntKind.i64.wrap (2 * t.len) = 2 * t.len := IntWalk.i64_in _ (by omega)
 have hs : stepT t now draw = (if t.start + t.len <= now then beginT (fireT t now).1 (Min.min (2 * t.len) (t.min * 2 ^ t.dbl.toNat)) now draw else (fireT t now).1, (fireT t now).2, 0) := by
  unfold stepT; rw [if_pos hv, if_pos ⟨htm, hst⟩]
 have hmn : (if shlI .i64 t.min t.dbl < IntKind.i64.wrap (2 * t.len) then shlI .i64 t.min t.dbl else IntKind.i64.wrap (2 * t.len)) = Min.min (2 * t.len) (t.min * 2 ^ t.dbl.toNat) := by
  rw [hsh, hw2]; omega
 have hb1 : ∀ x : Trk, beginT x (if shlI .i64 t.min t.dbl < IntKind.i64.wrap (2 * t.len) then shlI .i64 t.min t.dbl else IntKind.i64.wrap (2 * t.len)) now draw = beginT x (Min.min (2 * t.len) (t.min * 2 ^ t.dbl.toNat)) now draw := fun x => by rw [hmn]
 have hst0 : ¬ now < t.start := by omega
 have hle : 2 <= (if shlI .i64 t.min t.dbl < IntKind.i64.wrap (2 * t.len) then shlI .i64 t.min t.dbl else IntKind.i64.wrap (2 * t.len)) /\ (if shlI .i64 t.min t.dbl < IntKind.i64.wrap (2 * t.len) then shlI .i64 t.min t.dbl else IntKind.i64.wrap (2 * t.len)) <= 268435456 := by rw [hmn]; omega
 have g1 : IntKind.i64.wrap (t.start + t.len) <= now -> t.start + t.len <= now := by rw [hw1]; exact id
 have g2 : ¬ IntKind.i64.wrap (t.start + t.len) <= now -> ¬ t.start + t.len <= now := by rw [hw1]; exact id
 have t3 : ∀ x : Trk × Bool, t.red = 0 -> x = ({ t with fired := true }, true) -> x = ({ t with fired := true }, decide (t.red = 0 \/ t.heard < t.red)) := fun x h h' => by rw [h', decide_eq_true (.inl h)]
 rw [hs]
 clear hs ht hvn
 refine pure_intro (wd := 1) (Q := mkQ L2) (by decide) tysOk (q_of L2_ok) mixed Try.func45 rfl _ (by show 3 <= _; decide) _ ?_
 repeat' (first | (apply And.intro <;> intro hc <;> (first | exact Bool.noConfusion hc | (simp only [zb0, ne_eq, not_true_eq_false] at hc <;> first | exact absurd rfl hc | skip) | skip)) | (refine And.intro zp1 ?_) | (apply And.intro) | (intro s hs; (first | (have hs' : s = true := hs.trans hv; clear hs; subst hs') | (have hs' : s = true := hs.trans htm; clear hs; subst hs') | (have hs' := hs.trans (hb1 _); clear hs; rename_i s0; try dsimp only at hs'))))
 all_goals first
  | exact absurd (by assumption) hst0
  | exact hle.1
  | exact hle.2
  | exact ht'.1
  | exact ht'.2
  | exact hd.1
  | exact hd.2
  | (show (0 : Int) <= t.dbl; omega)
  | skip
 all_goals
  first | rw [hF1 (by assumption) (by assumption)] | rw [hF2 (by assumption)] | rw [hF3 (by assumption)]
  first | rw [if_pos (g1 (by assumption))] | rw [if_neg (g2 (by assumption))]
  try subst hs'
  refine done_tk3 ?_ ?_ rfl
  . repeat' (first | exact trivial | exact rfl | refine leF_int ?_ | refine leF_bool ?_ | exact leF_ptr rfl | refine leF_e (leE_all ?_) | refine leF_tup ?_ | refine leC_int ?_ | refine leC_bool ?_ | exact leC_nils | exact leF_c leC_nils | apply And.intro)
  . simp [*]
end Go.Proofs.Ytfaibcgakcmhcaa.AX
namespace Go.Proofs.Ytfaibcgakcmhcaa.AX.TkR
open Go.Proofs.Ytfaibcgakcmhcaa.AX
open Go.RowKit
theorem tkTime_ok (c : Int) : PureOk Try.prog 63 [(cI .i64).enc c] (cB.enc (isTimeT c)) := by
 refine pure_intro (wd := 1) (Q := mkQ LE0) (by decide) tysOk (q_of LE0_ok) mixed Try.func63 rfl _ (by show 1 <= _; decide) _ ?_
 repeat' (first | (apply And.intro <;> intro hc <;> (first | exact Bool.noConfusion hc | (simp only [zb0] at hc) | skip)) | (refine And.intro zp0 ?_) | (apply And.intro) | (intro s hs))
 all_goals (refine Done.mk (leF_bool ?_); simp_all [isTimeT]; try omega)
theorem numbers_ok (m d r : Int) : PureOk Try.prog 78 [(cI .i64).enc m, (cI .i64).enc d, (cI .i64).enc r] (cB.enc (numbersB m d r)) := by
 refine pure_intro (wd := 1) (Q := mkQ LE0) (by decide) tysOk (q_of LE0_ok) mixed Try.func78 rfl _ (by show 3 <= _; decide) _ ?_
 repeat' (first | (apply And.intro <;> intro hc <;> (first | exact Bool.noConfusion hc | (simp only [zb0] at hc) | skip)) | (refine And.intro zp0 ?_) | (apply And.intro) | (intro s hs))
 all_goals (refine Done.mk (leF_bool ?_); simp_all [numbersB]; try omega)
theorem begin_ok (t : Trk) (l now draw : Int) (hl : 2 <= l /\ l <= 268435456) (hn : 0 <= now /\ now <= 1099511627776) (hd : drawOk draw) :
 PureOk Try.prog 79 [(cE eTk).enc t, (cI .i64).enc l, (cI .i64).enc now, (cI .u32).enc draw] ((cE eTk).enc (beginT t l now draw)) := by
 unfold drawOk at hd
 have hm : 0 <= draw % (l - l / 2) /\ draw % (l - l / 2) < l - l / 2 := ⟨Int.emod_nonneg _ (by omega), Int.emod_lt_of_pos _ (by omega)⟩
 refine pure_intro (wd := 1) (Q := mkQ LE0) (by decide) tysOk (q_of LE0_ok) mixed Try.func79 rfl _ (by show 4 <= _; decide) _ ?_
 repeat' (first | (apply And.intro <;> intro hc <;> (first | exact Bool.noConfusion hc | (simp only [zb0] at hc) | skip)) | (refine And.intro zp0 ?_) | (apply And.intro) | (intro s hs))
 . simp (disch := omega) only [IntWalk.i64_in, IntWalk.u8_in, IntWalk.u16_in, IntWalk.u32_in, IntWalk.u64_in, Int.tdiv_eq_ediv_of_nonneg, Int.tmod_eq_emod_of_nonneg]
   omega
 . refine done_tk ?_
   repeat' (first | exact trivial | exact rfl | refine leF_int ?_ | refine leF_bool ?_ | exact leF_ptr rfl | refine leF_e (leE_all ?_) | refine leF_tup ?_ | refine leC_int ?_ | refine leC_bool ?_ | exact leC_nils | exact leF_c leC_nils | apply And.intro)
   case right.left.left.right =>
    simp (disch := omega) only [IntWalk.i64_in, IntWalk.u8_in, IntWalk.u16_in, IntWalk.u32_in, IntWalk.u64_in, Int.tdiv_eq_ediv_of_nonneg, Int.tmod_eq_emod_of_nonneg]
    rfl
   all_goals rfl
def R1 : CsL := (63, some timeE) :: (78, some numE) :: (79, some beginE) :: []
theorem R1_ok : AllOk Try.prog R1 := ⟨pureE_ok ⟨_, Try.func63, rfl, by kernel_rfl⟩ fun a _ => tkTime_ok a.1, pureE_ok ⟨_, Try.func78, rfl, by kernel_rfl⟩ fun a _ => numbers_ok a.1 a.2.1 a.2.2.1, pureE_ok ⟨_, Try.func79, rfl, by kernel_rfl⟩ fun a h => begin_ok a.1 a.2.1 a.2.2.1 a.2.2.2.1 h.1 h.2.1 h.2.2, trivial⟩
theorem valid_ok (t : Trk) : PureOk Try.prog 69 [(cE eTk).enc t] (cB.enc (validT t)) := by
 have hv : validT t = (numbersB t.min t.dbl t.red && isTimeT t.start && decide (0 <= t.heard /\ t.heard <= 1048576) && fitsTo t.min t.len (t.dbl.toNat + 1) && decide (t.start + t.len / 2 <= t.fire /\ t.fire <= t.start + t.len - 1)) := rfl
 refine pure_intro (wd := 1) (Q := mkQ R1) (by decide) tysOk (q_of R1_ok) mixed Try.func69 rfl _ (by show 1 <= _; decide) _ ?_
 repeat' (first | (apply And.intro <;> intro hc <;> (first | exact Bool.noConfusion hc | (simp only [zb0, ne_eq, not_true_eq_false] at hc <;> first | exact absurd rfl hc | skip) | skip)) | (refine And.intro zp1 ?_) | (apply And.intro) | (intro s hs; (first | (have hs' : s = numbersB t.min t.dbl t.red := hs) | (have hs' : s = isTimeT t.start := hs)); clear hs; subst hs'))
 all_goals first
  | (refine Done.mk (leF_bool ?_); rw [hv]; simp [*]; done)
  | (refine Done.mk (leF_bool ?_); rw [hv]; simp [*]; omega)
  | skip
 rename_i h1 h2 h3
 have h4 := hc
 clear hc
 obtain ⟨n1, n2, n3, n4, n5, n6⟩ := numbersB_iff.1 h1
 obtain ⟨t1, t2⟩ := isTimeT_iff.1 h2
 have e1 : IntKind.i64.wrap (t.dbl + 1) = t.dbl + 1 := IntWalk.i64_in _ (by omega)
 clear e1
 refine loop_intro (mono_of R1_ok) (fun k : { k : Nat // k <= t.dbl.toNat + 1 } => (⟨[(1, one (.ptr 0 0 0 false)), (3, .e (.c (.bool (fitsTo t.min t.len k.1)))), (4, .e (.c (.int .i64 k.1)))], [(0, some ⟨82, 1, 8, true, fun _ => eTk.cell t⟩)], 1⟩ : Hd)) (fun k => t.dbl.toNat + 1 - k.1) (fun _ => rfl) ?_ ⟨0, by omega⟩ [] ?_
 . rintro ⟨k, hk⟩
   have hp : k <= 16 -> t.min <= t.min * 2 ^ k /\ t.min * 2 ^ k <= 268435456 := fun h => pow_bd ⟨n1, n2⟩ h
   have hsh : k <= 16 -> shlI .i64 t.min (IntKind.u64.wrap k) = t.min * 2 ^ k := fun h => by
    have := hp h
    rw [IntWalk.u64_in _ (by omega)]
    unfold shlI
    rw [show min ((k : Int).toNat) (IntKind.bits .i64) = k by simp [IntKind.bits]; omega]
    exact IntWalk.i64_in _ (by omega)
   have hk0 : k <= 16 -> 0 <= IntKind.u64.wrap (k : Int) := fun h => by rw [IntWalk.u64_in _ (by omega)]; omega
   dsimp only
   repeat' (first | (apply And.intro <;> intro hc <;> (first | exact Bool.noConfusion hc | (simp only [zb0] at hc) | skip)) | (refine And.intro zp0 ?_) | (apply And.intro) | (intro s hs))
   all_goals first
    | exact hk0 (by omega)
    | (refine ⟨⟨k + 1, by omega⟩, [], by dsimp only; omega, rfl, ?_, ?_⟩
       . repeat' (first | exact zw0 | refine leF_int ?_ | refine leF_bool ?_ | exact zw1 | apply And.intro)
         . first
            | (simp [fitsTo, *]; done)
            | (rw [hsh (by omega)]; simp [fitsTo, *])
         . exact zaw
       . repeat' (first | exact zw0 | refine leF_int ?_ | refine leF_bool ?_ | exact zw1 | apply And.intro))
    | skip
   all_goals refine Done.mk (leF_bool ?_)
   all_goals
    have hke : k = t.dbl.toNat + 1 := by omega
    subst hke
    clear hsh hp hk0
   . have q2 : fitsTo t.min t.len (t.dbl.toNat + 1) = true := by assumption
     have hl := fits_bd ⟨n1, n2⟩ ⟨n3, n4⟩ q2
     simp (disch := omega) only [IntWalk.i64_in, Int.tdiv_eq_ediv_of_nonneg] at *
     rw [hv, h1, h2, q2, decide_eq_true (show 0 <= t.heard /\ t.heard <= 1048576 by omega)]
     simp; omega
   . have q2 : fitsTo t.min t.len (t.dbl.toNat + 1) = true := by assumption
     have hl := fits_bd ⟨n1, n2⟩ ⟨n3, n4⟩ q2
     simp (disch := omega) only [IntWalk.i64_in, Int.tdiv_eq_ediv_of_nonneg] at *
     rw [hv, decide_eq_false (p := t.start + t.len / 2 <= t.fire /\ t.fire <= t.start + t.len - 1) (by omega)]
     simp
   . rw [hv]
     simp [*]
 . refine ⟨rfl, ?_, ?_⟩
   . repeat' (first | exact zw0 | refine leF_int ?_ | refine leF_bool ?_ | exact zw1 | apply And.intro)
   . repeat' (first | exact zw0 | refine leF_int ?_ | refine leF_bool ?_ | exact zw1 | apply And.intro)
def R2 : CsL := (69, some validE) :: R1
theorem R2_ok : AllOk Try.prog R2 := ⟨pureE_ok ⟨_, Try.func69, rfl, by kernel_rfl⟩ fun a _ => valid_ok a.1, R1_ok⟩
theorem newT_ok (m d r now draw : Int) (hd : drawOk draw) :
 PureOk Try.prog 67 [(cI .i64).enc m, (cI .i64).enc d, (cI .i64).enc r, (cI .i64).enc now, (cI .u32).enc draw] (enc2 (newT m d r now draw)) := by
 have hb : numbersB m d r = true -> 2 <= m /\ m <= 4096 := fun h => by have := numbersB_iff.1 h; omega
 have ht : isTimeT now = true -> 0 <= now /\ now <= 1099511627776 := isTimeT_iff.1
 refine pure_intro (wd := 1) (Q := mkQ R2) (by decide) tysOk (q_of R2_ok) mixed Try.func67 rfl _ (by show 5 <= _; decide) _ ?_
 repeat' (first | (apply And.intro <;> intro hc <;> (first | exact Bool.noConfusion hc | (simp only [zb0, ne_eq, not_true_eq_false] at hc <;> first | exact absurd rfl hc | skip) | skip)) | (refine And.intro zp1 ?_) | (apply And.intro) | (intro s hs; (first | (have hs' : s = numbersB m d r := hs) | (have hs' : s = isTimeT now := hs) | (have hs' : s = beginT ⟨m, d, r, 0, 0, 0, 0, false⟩ m now draw := hs)); clear hs; subst hs'))
 all_goals first
  | exact (hb (by assumption)).1
  | exact (ht (by assumption)).1
  | exact (ht (by assumption)).2
  | exact hd.1
  | exact hd.2
  | (have := hb (by assumption); dsimp only; omega)
  | (have e : newT m d r now draw = (zeroT, 2) := by simp [newT, *]
     rw [e]
     refine done_tk2 ?_ rfl
     repeat' (first | exact trivial | exact rfl | refine leF_int ?_ | refine leF_bool ?_ | exact leF_ptr rfl | refine leF_e (leE_all ?_) | refine leF_tup ?_ | refine leC_int ?_ | refine leC_bool ?_ | exact leC_nils | exact leF_c leC_nils | apply And.intro))
  | (have e : newT m d r now draw = (beginT ⟨m, d, r, 0, 0, 0, 0, false⟩ m now draw, 0) := by simp [newT, *]
     rw [e]
     refine done_tk2 ?_ rfl
     repeat' (first | exact trivial | exact rfl | refine leF_int ?_ | refine leF_bool ?_ | exact leF_ptr rfl | refine leF_e (leE_all ?_) | refine leF_tup ?_ | refine leC_int ?_ | refine leC_bool ?_ | exact leC_nils | exact leF_c leC_nils | apply And.intro))
theorem hear_ok (t : Trk) : PureOk Try.prog 65 [(cE eTk).enc t] ((cE eTk).enc (hearT t)) := by
 refine pure_intro (wd := 1) (Q := mkQ R2) (by decide) tysOk (q_of R2_ok) mixed Try.func65 rfl _ (by show 1 <= _; decide) _ ?_
 repeat' (first | (apply And.intro <;> intro hc <;> (first | exact Bool.noConfusion hc | (simp only [zb0, ne_eq, not_true_eq_false] at hc <;> first | exact absurd rfl hc | skip) | skip)) | (refine And.intro zp1 ?_) | (apply And.intro) | (intro s hs; (have hs' : s = validT t := hs); clear hs; subst hs'))
 . have e : hearT t = zeroT := by simp [hearT, *]
   rw [e]
   refine done_tk ?_
   repeat' (first | exact trivial | exact rfl | refine leF_int ?_ | refine leF_bool ?_ | exact leF_ptr rfl | refine leF_e (leE_all ?_) | refine leF_tup ?_ | refine leC_int ?_ | refine leC_bool ?_ | exact leC_nils | exact leF_c leC_nils | apply And.intro)
 . have hv : validT t = true := by assumption
   have hn := validT_num hv
   have w1 : IntKind.i64.wrap (t.heard + 1) = t.heard + 1 := IntWalk.i64_in _ (by omega)
   have e : hearT t = { t with heard := if (1048576 : Int) < t.heard + 1 then 1048576 else t.heard + 1 } := by
    unfold hearT
    rw [if_pos hv]
    by_cases hc' : t.heard < 1048576
    . rw [if_pos hc', if_neg (by omega)]
    . rw [if_neg hc', if_pos (by omega)]
      obtain ⟨a1, a2, a3, a4, a5, a6, a7, a8⟩ := t
      dsimp only at hc' hn ⊢
      rw [show a7 = 1048576 by omega]
   rw [e]
   refine done_tk ?_
   repeat' (first | exact trivial | exact rfl | refine leF_int ?_ | refine leF_bool ?_ | exact leF_ptr rfl | refine leF_e (leE_all ?_) | refine leF_tup ?_ | refine leC_int ?_ | refine leC_bool ?_ | exact leC_nils | exact leF_c leC_nils | apply And.intro)
   all_goals first | rfl | rw [w1]
theorem reset_ok (t : Trk) (now draw : Int) (hd : drawOk draw) :
 PureOk Try.prog 76 [(cE eTk).enc t, (cI .i64).enc now, (cI .u32).enc draw] (enc2 (resetT t now draw)) := by
 have hn := @validT_num t
 have ht : isTimeT now = true -> 0 <= now /\ now <= 1099511627776 := isTimeT_iff.1
 refine pure_intro (wd := 1) (Q := mkQ R2) (by decide) tysOk (q_of R2_ok) mixed Try.func76 rfl _ (by show 3 <= _; decide) _ ?_
 repeat' (first | (apply And.intro <;> intro hc <;> (first | exact Bool.noConfusion hc | (simp only [zb0, ne_eq, not_true_eq_false] at hc <;> first | exact absurd rfl hc | skip) | skip)) | (refine And.intro zp1 ?_) | (apply And.intro) | (intro s hs; (first | (have hs' : s = validT t := hs) | (have hs' : s = isTimeT now := hs) | (have hs' : s = beginT t t.min now draw := hs)); clear hs; subst hs'))
 all_goals first
  | exact (hn (by assumption)).1.1
  | exact (ht (by assumption)).1
  | exact (ht (by assumption)).2
  | exact hd.1
  | exact hd.2
  | (have := hn (by assumption); dsimp only; omega)
  | (have e : resetT t now draw = (zeroT, 1) := by simp [resetT, *]
     rw [e]
     refine done_tk2 ?_ rfl
     repeat' (first | exact trivial | exact rfl | refine leF_int ?_ | refine leF_bool ?_ | exact leF_ptr rfl | refine leF_e (leE_all ?_) | refine leF_tup ?_ | refine leC_int ?_ | refine leC_bool ?_ | exact leC_nils | exact leF_c leC_nils | apply And.intro))
  | (have e : resetT t now draw = (zeroT, 2) := by simp [resetT, *]
     rw [e]
     refine done_tk2 ?_ rfl
     repeat' (first | exact trivial | exact rfl | refine leF_int ?_ | refine leF_bool ?_ | exact leF_ptr rfl | refine leF_e (leE_all ?_) | refine leF_tup ?_ | refine leC_int ?_ | refine leC_bool ?_ | exact leC_nils | exact leF_c leC_nils | apply And.intro))
  | (have e : resetT t now draw = (t, 0) := by simp [resetT, *]
     rw [e]
     refine done_tk2 ?_ rfl
     repeat' (first | exact trivial | exact rfl | refine leF_int ?_ | refine leF_bool ?_ | exact leF_ptr rfl | refine leF_e (leE_all ?_) | refine leF_tup ?_ | refine leC_int ?_ | refine leC_bool ?_ | exact leC_nils | exact leF_c leC_nils | apply And.intro))
  | (have e : resetT t now draw = (beginT t t.min now draw, 0) := by simp [resetT, *]
     rw [e]
     refine done_tk2 ?_ rfl
     repeat' (first | exact trivial | exact rfl | refine leF_int ?_ | refine leF_bool ?_ | exact leF_ptr rfl | refine leF_e (leE_all ?_) | refine leF_tup ?_ | refine leC_int ?_ | refine leC_bool ?_ | exact leC_nils | exact leF_c leC_nils | apply And.intro))
theorem stepT_ok (t : Trk) (now draw : Int) (hd : drawOk draw) :
 PureOk Try.prog 72 [(cE eTk).enc t, (cI .i64).enc now, (cI .u32).enc draw] (enc3 (stepT t now draw)) := by
 have hvn := @validT_num t
 have ht : isTimeT now = true -> 0 <= now /\ now <= 1099511627776 := isTimeT_iff.1
 have hF1 : t.fired = false -> t.fire <= now -> fireT t now = ({ t with fired := true }, decide (t.red = 0 \/ t.heard < t.red)) := fun a b => by unfold fireT; rw [if_pos ⟨a, b⟩]
 have hF2 : t.fired = true -> fireT t now = (t, false) := fun a => by unfold fireT; rw [if_neg (by rw [a]; simp)]
 have hF3 : ¬ t.fire <= now -> fireT t now = (t, false) := fun a => by unfold fireT; rw [if_neg (fun h => a h.2)]
 by_cases hv : validT t = true
 case neg =>
  have hv' : validT t = false := by simpa using hv
  have e : stepT t now draw = (zeroT, false, 1) := by unfold stepT; rw [if_neg hv]
  rw [e]
  clear hF1 hF2 hF3
  refine pure_intro (wd := 1) (Q := mkQ R2) (by decide) tysOk (q_of R2_ok) mixed Try.func72 rfl _ (by show 3 <= _; decide) _ ?_
  repeat' (first | (apply And.intro <;> intro hc <;> (first | exact Bool.noConfusion hc | (simp only [zb0, ne_eq, not_true_eq_false] at hc <;> first | exact absurd rfl hc | skip) | skip)) | (refine And.intro zp1 ?_) | (apply And.intro) | (intro s hs; (first | (have hs' : s = false := hs.trans hv') | (have hs' : s = isTimeT now := hs)); clear hs; subst hs'))
  refine done_tk3 ?_ rfl rfl
  repeat' (first | exact trivial | exact rfl | refine leF_int ?_ | refine leF_bool ?_ | exact leF_ptr rfl | refine leF_e (leE_all ?_) | refine leF_tup ?_ | refine leC_int ?_ | refine leC_bool ?_ | exact leC_nils | exact leF_c leC_nils | apply And.intro)
 by_cases htm : isTimeT now = true
 case neg =>
  have htm' : isTimeT now = false := by simpa using htm
  have e : stepT t now draw = (zeroT, false, 2) := by unfold stepT; rw [if_pos hv, if_neg (fun h => htm h.1)]
  rw [e]
  clear hF1 hF2 hF3
  refine pure_intro (wd := 1) (Q := mkQ R2) (by decide) tysOk (q_of R2_ok) mixed Try.func72 rfl _ (by show 3 <= _; decide) _ ?_
  repeat' (first | (apply And.intro <;> intro hc <;> (first | exact Bool.noConfusion hc | (simp only [zb0, ne_eq, not_true_eq_false] at hc <;> first | exact absurd rfl hc | skip) | skip)) | (refine And.intro zp1 ?_) | (apply And.intro) | (intro s hs; (first | (have hs' : s = true := hs.trans hv) | (have hs' : s = false := hs.trans htm')); clear hs; subst hs'))
  all_goals (refine done_tk3 ?_ rfl rfl; repeat' (first | exact trivial | exact rfl | refine leF_int ?_ | refine leF_bool ?_ | exact leF_ptr rfl | refine leF_e (leE_all ?_) | refine leF_tup ?_ | refine leC_int ?_ | refine leC_bool ?_ | exact leC_nils | exact leF_c leC_nils | apply And.intro))
 by_cases hst : t.start <= now
 case neg =>
  have e : stepT t now draw = (zeroT, false, 2) := by unfold stepT; rw [if_pos hv, if_neg (fun h => hst h.2)]
  rw [e]
  clear hF1 hF2 hF3
  refine pure_intro (wd := 1) (Q := mkQ R2) (by decide) tysOk (q_of R2_ok) mixed Try.func72 rfl _ (by show 3 <= _; decide) _ ?_
  repeat' (first | (apply And.intro <;> intro hc <;> (first | exact Bool.noConfusion hc | (simp only [zb0, ne_eq, not_true_eq_false] at hc <;> first | exact absurd rfl hc | skip) | skip)) | (refine And.intro zp1 ?_) | (apply And.intro) | (intro s hs; (first | (have hs' : s = true := hs.trans hv) | (have hs' : s = true := hs.trans htm)); clear hs; subst hs'))
  all_goals first
   | (exfalso; omega)
   | (refine done_tk3 ?_ rfl rfl; repeat' (first | exact trivial | exact rfl | refine leF_int ?_ | refine leF_bool ?_ | exact leF_ptr rfl | refine leF_e (leE_all ?_) | refine leF_tup ?_ | refine leC_int ?_ | refine leC_bool ?_ | exact leC_nils | exact leF_c leC_nils | apply And.intro))
 have hn := hvn hv
 obtain ⟨j, hj, hlen⟩ := fitsTo_iff.1 hn.2.2.2.2.1
 have hp := pow_bd (j := t.dbl.toNat) ⟨hn.1.1, hn.1.2.1⟩ (by omega)
 have hu : IntKind.u64.wrap t.dbl = t.dbl := IntWalk.u64_in _ (by omega)
 have hu0 : 0 <= IntKind.u64.wrap t.dbl := by omega
 have hsh : shlI .i64 t.min (IntKind.u64.wrap t.dbl) = t.min * 2 ^ t.dbl.toNat := by
  rw [hu]
  unfold shlI
  rw [show min t.dbl.toNat (IntKind.bits .i64) = t.dbl.toNat by simp [IntKind.bits]; omega]
  exact IntWalk.i64_in _ (by omega)
 have ht' := ht htm
 have hw1 : IntKind.i64.wrap (t.start + t.len) = t.start + t.len := IntWalk.i64_in _ (by omega)
 have hw2 : IntKind.i64.wrap (2 * t.len) = 2 * t.len := IntWalk.i64_in _ (by omega)
 have hs : stepT t now draw = (if t.start + t.len <= now then beginT (fireT t now).1 (Min.min (2 * t.len) (t.min * 2 ^ t.dbl.toNat)) now draw else (fireT t now).1, (fireT t now).2, 0) := by
  unfold stepT; rw [if_pos hv, if_pos ⟨htm, hst⟩]
 have hmn : (if shlI .i64 t.min (IntKind.u64.wrap t.dbl) < IntKind.i64.wrap (2 * t.len) then shlI .i64 t.min (IntKind.u64.wrap t.dbl) else IntKind.i64.wrap (2 * t.len)) = Min.min (2 * t.len) (t.min * 2 ^ t.dbl.toNat) := by
  rw [hsh, hw2]; omega
 have hb1 : ∀ x : Trk, beginT x (if shlI .i64 t.min (IntKind.u64.wrap t.dbl) < IntKind.i64.wrap (2 * t.len) then shlI .i64 t.min (IntKind.u64.wrap t.dbl) else IntKind.i64.wrap (2 * t.len)) now draw = beginT x (Min.min (2 * t.len) (t.min * 2 ^ t.dbl.toNat)) now draw := fun x => by rw [hmn]
 have hst0 : ¬ now < t.start := by omega
 have hle : 2 <= (if shlI .i64 t.min (IntKind.u64.wrap t.dbl) < IntKind.i64.wrap (2 * t.len) then shlI .i64 t.min (IntKind.u64.wrap t.dbl) else IntKind.i64.wrap (2 * t.len)) /\ (if shlI .i64 t.min (IntKind.u64.wrap t.dbl) < IntKind.i64.wrap (2 * t.len) then shlI .i64 t.min (IntKind.u64.wrap t.dbl) else IntKind.i64.wrap (2 * t.len)) <= 268435456 := by rw [hmn]; omega
 have g1 : IntKind.i64.wrap (t.start + t.len) <= now -> t.start + t.len <= now := by rw [hw1]; exact id
 have g2 : ¬ IntKind.i64.wrap (t.start + t.len) <= now -> ¬ t.start + t.len <= now := by rw [hw1]; exact id
 have t3 : ∀ x : Trk × Bool, t.red = 0 -> x = ({ t with fired := true }, true) -> x = ({ t with fired := true }, decide (t.red = 0 \/ t.heard < t.red)) := fun x h h' => by rw [h', decide_eq_true (.inl h)]
 rw [hs]
 clear hs ht hvn
 refine pure_intro (wd := 1) (Q := mkQ R2) (by decide) tysOk (q_of R2_ok) mixed Try.func72 rfl _ (by show 3 <= _; decide) _ ?_
 repeat' (first | (apply And.intro <;> intro hc <;> (first | exact Bool.noConfusion hc | (simp only [zb0, ne_eq, not_true_eq_false] at hc <;> first | exact absurd rfl hc | skip) | skip)) | (refine And.intro zp1 ?_) | (apply And.intro) | (intro s hs; (first | (have hs' : s = true := hs.trans hv; clear hs; subst hs') | (have hs' : s = true := hs.trans htm; clear hs; subst hs') | (have hs' := hs.trans (hb1 _); clear hs; rename_i s0; try dsimp only at hs'))))
 all_goals first
  | exact absurd (by assumption) hst0
  | exact hle.1
  | exact hle.2
  | exact ht'.1
  | exact ht'.2
  | exact hd.1
  | exact hd.2
  | exact hu0
  | skip
 all_goals
  first | rw [hF1 (by assumption) (by assumption)] | rw [hF2 (by assumption)] | rw [hF3 (by assumption)]
  first | rw [if_pos (g1 (by assumption))] | rw [if_neg (g2 (by assumption))]
  try subst hs'
  refine done_tk3 ?_ ?_ rfl
  . repeat' (first | exact trivial | exact rfl | refine leF_int ?_ | refine leF_bool ?_ | exact leF_ptr rfl | refine leF_e (leE_all ?_) | refine leF_tup ?_ | refine leC_int ?_ | refine leC_bool ?_ | exact leC_nils | exact leF_c leC_nils | apply And.intro)
  . simp [*]
end Go.Proofs.Ytfaibcgakcmhcaa.AX.TkR
namespace Go.Proofs.Ytfaibcgakcmhcaa.AX
open Go.RowKit
theorem base_ok (n : Nat) (l : List Int) (q : Int) (ht : TapeOk n (rI l) q) :
 ∃ (r q' : Int), (0 <= r /\ r <= 1099511627776) /\ TapeOk n (rI l) q' /\ MethOk Try.prog 14 [] (tapeN n (rI l) q) ((cI .i64).enc r) (tapeN n (rI l) q') := by
 refine tape_intro (wd := 1) (Q := mkQ LTb) (by decide) tysOk (q_of LTb_ok) mixed Try.func14 rfl _ (by show 0 + 1 <= _; decide) (fun _ => nff_int) ?_
 repeat' (first | (apply And.intro <;> intro hc <;> (first | exact Bool.noConfusion hc | (simp only [zb0] at hc) | skip)) | (refine And.intro zp1 ?_) | (apply And.intro) | (intro s hs))
 . rename_i r hr
   have hr' : 0 <= r /\ r < 5 := hr
   exact ⟨(r, _), ⟨⟨by omega, by omega⟩, by assumption⟩, ⟨leF_int rfl, tapeN_le⟩⟩
 . rename_i r hr
   have hr' : 0 <= r /\ r < 40 := hr
   exact ⟨(1099511627776 - r, _), ⟨⟨by omega, by omega⟩, by assumption⟩, ⟨leF_int (IntWalk.i64_in _ (by omega)), tapeN_le⟩⟩
 . rename_i r hr
   have hr' : 0 <= r /\ r < 1000 := hr
   exact ⟨(r, _), ⟨⟨by omega, by omega⟩, by assumption⟩, ⟨leF_int rfl, tapeN_le⟩⟩
theorem time_ok (n : Nat) (l : List Int) (q b : Int) (ht : TapeOk n (rI l) q) (hb : 0 <= b /\ b <= 1099511627776) :
 ∃ (r q' : Int), (0 <= r /\ r <= 1099511627776) /\ TapeOk n (rI l) q' /\ MethOk Try.prog 17 [(cI .i64).enc b] (tapeN n (rI l) q) ((cI .i64).enc r) (tapeN n (rI l) q') := by
 refine tape_intro (wd := 1) (Q := mkQ LTb) (by decide) tysOk (q_of LTb_ok) mixed Try.func17 rfl _ (by show 1 + 1 <= _; decide) (fun _ => nff_int) ?_
 repeat' (first | (apply And.intro <;> intro hc <;> (first | exact Bool.noConfusion hc | (simp only [zb0] at hc) | skip)) | (refine And.intro zp1 ?_) | (apply And.intro) | (intro s hs))
 rename_i r hr
 have hr' : 0 <= r /\ r < 60 := hr
 refine ⟨(max 0 (min 1099511627776 (b + r - 30)), _), ⟨⟨by omega, by omega⟩, by assumption⟩, ⟨leF_int ?_, tapeN_le⟩⟩
 rw [IntWalk.i64_in (b + r) (by omega), IntWalk.i64_in (b + r - 30) (by omega)]
 split <;> split <;> omega
abbrev baseE : Entry := tapeE AC.nil (fun _ => True) (fun a (r : Int) => 0 <= r /\ r <= 1099511627776) (cI .i64).enc
abbrev wtimeE : Entry := tapeE (AC.cons (cI .i64) AC.nil) (fun a => 0 <= a.1 /\ a.1 <= 1099511627776) (fun a (r : Int) => 0 <= r /\ r <= 1099511627776) (cI .i64).enc
def LWd : CsL := (14, some baseE) :: (17, some wtimeE) :: LTb
theorem LWd_ok : AllOk Try.prog LWd := ⟨tapeE_ok ⟨_, Try.func14, rfl, by kernel_rfl⟩ fun n l q a ht hp => base_ok n l q ht, tapeE_ok ⟨_, Try.func17, rfl, by kernel_rfl⟩ fun n l q a ht hp => time_ok n l q a.1 ht hp, LTb_ok⟩
theorem step_valid {x : Trk} {now draw : Int} (h : validT x = true) (hn : 0 <= now /\ now <= 1099511627776) (hs : x.start <= now) : validT (stepT x now draw).1 = true := by
 have hv := validT_num h
 obtain ⟨f1, f2, f3, f4, f5, f6⟩ := fire_valid (now := now) h
 have e : stepT x now draw = (if x.start + x.len <= now then beginT (fireT x now).1 (min (2 * x.len) (x.min * 2 ^ x.dbl.toNat)) now draw else (fireT x now).1, (fireT x now).2, 0) := by
  unfold stepT
  rw [if_pos h, if_pos ⟨isTimeT_iff.2 (by omega), hs⟩]
 rw [e]
 show validT (if x.start + x.len <= now then _ else _) = true
 split
 . refine (begin_valid f1 ?_ hn).1
   rw [f5, f6]; exact fits_double (by omega) (by omega) hv.2.2.2.2.1
 . exact f1
theorem new_valid {m d r now draw : Int} (h : numbersB m d r = true) (hn : 0 <= now /\ now <= 1099511627776) : validT (newT m d r now draw).1 = true := by
 obtain ⟨h1, h2, h3, h4, h5, h6⟩ := numbersB_iff.1 h
 have e : newT m d r now draw = (beginT ⟨m, d, r, 0, 0, 0, 0, false⟩ m now draw, 0) := by unfold newT; rw [if_pos ⟨isTimeT_iff.2 hn, h⟩]
 rw [e]
 have hm : 0 <= draw % (m - m / 2) /\ draw % (m - m / 2) < m - m / 2 := ⟨Int.emod_nonneg _ (by omega), Int.emod_lt_of_pos _ (by omega)⟩
 refine validT_mk h (isTimeT_iff.2 hn) (by show 0 <= (0 : Int) /\ (0 : Int) <= _; omega) (fitsTo_iff.2 ⟨0, by omega, by show m = m * 2 ^ 0; simp⟩) ?_
 show now + m / 2 <= now + m / 2 + draw % (m - m / 2) /\ now + m / 2 + draw % (m - m / 2) <= now + m - 1
 omega
theorem heard_valid {x : Trk} {v : Int} (h : validT x = true) (hv : 0 <= v /\ v < 4) : validT { x with heard := v } = true := by
 have hn := validT_num h
 obtain ⟨p1, p2⟩ := validT_parts h
 exact validT_mk p1 p2 (by show 0 <= v /\ v <= _; omega) hn.2.2.2.2.1 hn.2.2.2.2.2
abbrev newTE : Entry := pureE (AC.cons (cI .i64) (AC.cons (cI .i64) (AC.cons (cI .i64) (AC.cons (cI .i64) (AC.cons (cI .u32) AC.nil))))) (fun a => drawOk a.2.2.2.2.1) (fun a => newT a.1 a.2.1 a.2.2.1 a.2.2.2.1 a.2.2.2.2.1) enc2
abbrev hearE : Entry := pureE TAC (fun _ => True) (fun a => hearT a.1) (cE eTk).enc
abbrev resetE : Entry := pureE T3 (fun a => drawOk a.2.2.1) (fun a => resetT a.1 a.2.1 a.2.2.1) enc2
abbrev stepE : Entry := pureE T3 (fun a => drawOk a.2.2.1) (fun a => stepT a.1 a.2.1 a.2.2.1) enc3
def LTk : CsL := (38, some newTE) :: (36, some hearE) :: (53, some resetE) :: (45, some stepE) ::
 (67, some newTE) :: (65, some hearE) :: (76, some resetE) :: (72, some stepE) :: (69, some validE) :: (58, some validE) :: LWd
theorem LTk_ok : AllOk Try.prog LTk := ⟨pureE_ok ⟨_, Try.func38, rfl, by kernel_rfl⟩ fun a h => newT_ok _ _ _ _ _ h, pureE_ok ⟨_, Try.func36, rfl, by kernel_rfl⟩ fun a h => hear_ok _, pureE_ok ⟨_, Try.func53, rfl, by kernel_rfl⟩ fun a h => reset_ok _ _ _ h, pureE_ok ⟨_, Try.func45, rfl, by kernel_rfl⟩ fun a h => stepT_ok _ _ _ h,
 pureE_ok ⟨_, Try.func67, rfl, by kernel_rfl⟩ fun a h => TkR.newT_ok _ _ _ _ _ h, pureE_ok ⟨_, Try.func65, rfl, by kernel_rfl⟩ fun a h => TkR.hear_ok _, pureE_ok ⟨_, Try.func76, rfl, by kernel_rfl⟩ fun a h => TkR.reset_ok _ _ _ h, pureE_ok ⟨_, Try.func72, rfl, by kernel_rfl⟩ fun a h => TkR.stepT_ok _ _ _ h,
 pureE_ok ⟨_, Try.func69, rfl, by kernel_rfl⟩ fun a h => TkR.valid_ok _, pureE_ok ⟨_, Try.func58, rfl, by kernel_rfl⟩ fun a h => valid_ok _, LWd_ok⟩
theorem wrap_u32 (x : Int) : drawOk (IntKind.u32.wrap x) := by unfold drawOk; rw [IntKind.wrap_u32']; omega
def rowFF {β : Type} [Inhabited β] (F : Elem β) (L : List (List β)) (i _j : Nat) : CV := .sl false (L.getD i []).length F.sz (rowF F (L.getD i []))
theorem cl_ll {β : Type} [Inhabited β] (F : Elem β) (L : List (List β)) : Cl (.sl false L.length 1 (rowFF F L)) := cl_sl fun i _ j _ => cl_sl fun i' _ j' _ => (F.flat _ _).cl
end Go.Proofs.Ytfaibcgakcmhcaa.AX
namespace Go.Proofs.Ytfaibcgakcmhcaa
def side (hi : Bool) (l : List UInt8) : Bool := hi ^^ decide (l.length % 2 = 1)
structure BL (l : List Int) : Prop where
 m : ∀ x ∈ l, 0 <= x /\ x < 256
theorem BL.nil : BL [] := ⟨fun x h => by cases h⟩
theorem BL.cons {x : Int} {l : List Int} (hx : 0 <= x /\ x < 256) (h : BL l) : BL (x :: l) := ⟨fun y hy => by
 rcases List.mem_cons.1 hy with rfl | hy
 . exact hx
 . exact h.m y hy⟩
theorem BL.append {l m : List Int} (h : BL l) (k : BL m) : BL (l ++ m) := ⟨fun y hy => by
 rcases List.mem_append.1 hy with hy | hy
 . exact h.m y hy
 . exact k.m y hy⟩
theorem BL.take {l : List Int} (h : BL l) (n : Nat) : BL (l.take n) := ⟨fun y hy => h.m y (List.mem_of_mem_take hy)⟩
theorem BL.drop {l : List Int} (h : BL l) (n : Nat) : BL (l.drop n) := ⟨fun y hy => h.m y (List.mem_of_mem_drop hy)⟩
end Go.Proofs.Ytfaibcgakcmhcaa
namespace Go.Proofs.Ytfaibcgakcmhcaa.AX
open Go.RowKit
abbrev eB : Elem Int := eI .u8
theorem eI_rd (k : IntKind) (a : Int) : (eI k).rd ((eI k).cell a) = a := rfl
theorem toL_b (l : List Int) : toL eB l.length (rowF eB l) = l := toL_row (eI_rd .u8) l
theorem leN_set {c : Wc} {t : TypeId} {α : Type} [Inhabited α] {E : Elem α} {L : List α} {idx n : Nat} {x : α} {f : Nat -> Nat -> CV} {g : Nat -> CV} (hn : n = L.length) (hi : idx < L.length)
 (hf : ∀ i, i < L.length -> ∀ j, j < E.sz -> LeC c (f i j) (rowF E L i j)) (hg : ∀ j, j < E.sz -> LeC c (g j) (E.cell x j)) : LeN c ⟨t, n, E.sz, false, updE false f idx g⟩ (ents E t (L.set idx x)) := by
 refine leN_row (by rw [hn]; simp) fun i hi' j hj => ?_
 subst hn
 by_cases h : i = idx
 . subst h
   refine selC_in (beq_of rfl) ?_
   refine leC_eq (hg j hj) ?_
   unfold rowF
   rw [List.getD_eq_getElem?_getD, List.getElem?_set_self hi]; rfl
 . refine selC_out (beq_ne h) ?_
   refine leC_eq (hf i hi' j hj) ?_
   unfold rowF
   rw [List.getD_eq_getElem?_getD, List.getD_eq_getElem?_getD, List.getElem?_set_ne (Ne.symm h)]
structure SmS (a b : List Int) where
 i : Nat
 hi : i <= a.length
 h : a.take i = b.take i
structure Hel where
 num : Int
 data : List Int
 tm : Trk
 til : Int
structure Sed where
 id : Int
 mn : Int
 held : List Hel
structure Cas where
 id : Int
 num : Int
 data : List Int
structure Smy where
 id : Int
 mn : Int
 bits : Int
instance : Inhabited Hel := ⟨⟨0, [], zeroT, 0⟩⟩
instance : Inhabited Sed := ⟨⟨0, 0, []⟩⟩
instance : Inhabited Cas := ⟨⟨0, 0, []⟩⟩
instance : Inhabited Smy := ⟨⟨0, 0, 0⟩⟩
theorem sh_tk (t : Trk) : ∀ j, j < 8 -> ShC (eTk.cell t j) := fun j hj => by
 iterate 8 (rcases j with _ | j; · first | exact .int _ _ | exact .bool _)
 exact absurd hj (by omega)
theorem sh_b (l : List Int) : ShC (slR eB l) := shC_flat (fun _ _ _ => .int _ _) l
def dataOf : CV -> List Int
 | .sl _ n _ f => toL eB n f
 | _ => []
def okD : CV -> Prop
 | .sl true n s f => s = 1 /\ ∀ i, i < n -> eB.ok (f i) = true
 | .nils => True
 | _ => False
theorem okD_rel {x : CV} (h : okD x) {r : Ren} {X W : Nat -> Prop} {w : World} {v : Value} (hx : x.rel r X W w v) : (slR eB (dataOf x)).rel r X W w v := by
 unfold okD at h
 split at h
 . rename_i n s f
   obtain ⟨rfl, hk⟩ := h
   show (CV.sl true (toL eB n f).length 1 (rowF eB (toL eB n f))).rel r X W w v
   rw [toL_len]
   obtain ⟨a, cap, rfl, h1, h2⟩ := hx
   refine ⟨a, cap, rfl, h1, fun h0 => ?_⟩
   obtain ⟨ad, rfl, hs, ho, hX, hlt, hc⟩ := h2 h0
   refine ⟨ad, rfl, hs, ho, hX, hlt, fun i hi j hj => ?_⟩
   obtain ⟨u, hu, hr⟩ := hc i hi j hj
   refine ⟨u, hu, ?_⟩
   have key : rowF eB (toL eB n f) i j = f i j := by
    unfold rowF
    rw [toL_get hi]
    exact (eB.ok_eq _ (hk i hi) j hj).symm
   rw [key]; exact hr
 . have : v = .slice none 0 0 := hx
   subst this
   exact ⟨none, 0, rfl, Nat.le_refl _, fun h => absurd h (Nat.lt_irrefl _)⟩
 . exact h.elim
theorem dataOf_sl (l : List Int) : dataOf (slR eB l) = l := toL_b l
theorem okD_sl (l : List Int) : okD (slR eB l) := ⟨rfl, fun _ _ => rfl⟩
def helC (h : Hel) (j : Nat) : CV := bif Nat.beq j 0 then .int .i64 h.num else bif Nat.beq j 1 then slR eB h.data else bif Nat.blt j 10 then eTk.cell h.tm (j - 2) else .int .i64 h.til
structure OkH (g : Nat -> CV) : Prop where
 a : (isK .i64 (g 0) && eTk.ok (fun q => g (2 + q)) && isK .i64 (g 10)) = true
 b : okD (g 1)
def neH : NElem Hel where
 sz := 11
 cell := helC
 rd g := ⟨valI (g 0), dataOf (g 1), eTk.rd fun q => g (2 + q), valI (g 10)⟩
 ok := OkH
 ok_rel g h j hj r X W w v hv := by
  obtain ⟨h1, h2⟩ := h
  simp only [Bool.and_eq_true] at h1
  rcases j with _ | _ | j
  . rw [isK_eq h1.1.1] at hv; exact hv
  . exact okD_rel h2 hv
  . by_cases h8 : j < 8
    . have e := eTk.ok_eq _ h1.1.2 j h8
      have e2 : helC ⟨valI (g 0), dataOf (g 1), eTk.rd fun q => g (2 + q), valI (g 10)⟩ (j + 1 + 1) = eTk.cell (eTk.rd fun q => g (2 + q)) j := by
       unfold helC
       rw [show Nat.beq (j + 1 + 1) 0 = false from rfl, show Nat.beq (j + 1 + 1) 1 = false from rfl, blt_lt (by omega : j + 1 + 1 < 10)]; rfl
      show (helC _ (j + 1 + 1)).rel r X W w v
      rw [e2]
      rw [show j + 1 + 1 = 2 + j by omega] at hv
      have e3 : g (2 + j) = eTk.cell (eTk.rd fun q => g (2 + q)) j := e
      rw [e3] at hv
      exact eTk.flat _ _ _ _ _ _ _ _ _ _ _ hv
    . have : j = 8 := by omega
      subst this
      rw [show (8 + 1 + 1) = 10 from rfl, isK_eq h1.2] at hv
      exact hv
 sh h j hj := by
  rcases j with _ | _ | j
  . exact .int _ _
  . exact sh_b _
  . by_cases h8 : j < 8
    . unfold helC
      rw [show Nat.beq (j + 1 + 1) 0 = false from rfl, show Nat.beq (j + 1 + 1) 1 = false from rfl, blt_lt (by omega : j + 1 + 1 < 10)]
      exact sh_tk h.tm j h8
    . have : j = 8 := by omega
      subst this
      exact .int _ _
theorem neH_sz : 0 < neH.sz := by decide
theorem neH_rd (h : Hel) : neH.rd (neH.cell h) = h := by
 show (⟨h.num, dataOf (slR eB h.data), h.tm, h.til⟩ : Hel) = h
 rw [dataOf_sl]
theorem neH_ok (h : Hel) : neH.ok (neH.cell h) := ⟨rfl, okD_sl _⟩
def heldOf : CV -> List Hel
 | .sl _ n _ f => toN neH n f
 | _ => []
def okHs : CV -> Prop
 | .sl true n s f => s = 11 /\ ∀ i, i < n -> neH.ok (f i)
 | .nils => True
 | _ => False
theorem heldOf_sl (l : List Hel) : heldOf (slN neH l) = l := toN_row neH_rd l
theorem okHs_sl (l : List Hel) : okHs (slN neH l) := ⟨rfl, fun _ _ => neH_ok _⟩
theorem okHs_rel {x : CV} (h : okHs x) {r : Ren} {X W : Nat -> Prop} {w : World} {v : Value} (hx : x.rel r X W w v) : (slN neH (heldOf x)).rel r X W w v := by
 unfold okHs at h
 split at h
 . obtain ⟨rfl, hk⟩ := h
   exact sl_toN (E := neH) hk hx
 . have : v = .slice none 0 0 := hx
   subst this
   exact ⟨none, 0, rfl, Nat.le_refl _, fun h => absurd h (Nat.lt_irrefl _)⟩
 . exact h.elim
def sedC (s : Sed) (j : Nat) : CV := bif Nat.beq j 0 then .int .u64 s.id else bif Nat.beq j 1 then .int .i64 s.mn else slN neH s.held
structure OkS (g : Nat -> CV) : Prop where
 a : (isK .u64 (g 0) && isK .i64 (g 1)) = true
 b : okHs (g 2)
def neS : NElem Sed where
 sz := 3
 cell := sedC
 rd g := ⟨valI (g 0), valI (g 1), heldOf (g 2)⟩
 ok := OkS
 ok_rel g h j hj r X W w v hv := by
  obtain ⟨h1, h2⟩ := h
  simp only [Bool.and_eq_true] at h1
  rcases j with _ | _ | _ | j
  . rw [isK_eq h1.1] at hv; exact hv
  . rw [show (0 + 1) = 1 from rfl, isK_eq h1.2] at hv; exact hv
  . exact okHs_rel h2 hv
  . exact absurd hj (by omega)
 sh s j hj := by
  rcases j with _ | _ | _ | j
  . exact .int _ _
  . exact .int _ _
  . exact sh_slN _
  . exact absurd hj (by omega)
theorem neS_sz : 0 < neS.sz := by decide
theorem neS_rd (s : Sed) : neS.rd (neS.cell s) = s := by
 show (⟨s.id, s.mn, heldOf (slN neH s.held)⟩ : Sed) = s
 rw [heldOf_sl]
def casC (s : Cas) (j : Nat) : CV := bif Nat.beq j 0 then .int .u64 s.id else bif Nat.beq j 1 then .int .i64 s.num else slR eB s.data
structure OkC (g : Nat -> CV) : Prop where
 a : (isK .u64 (g 0) && isK .i64 (g 1)) = true
 b : okD (g 2)
def neC : NElem Cas where
 sz := 3
 cell := casC
 rd g := ⟨valI (g 0), valI (g 1), dataOf (g 2)⟩
 ok := OkC
 ok_rel g h j hj r X W w v hv := by
  obtain ⟨h1, h2⟩ := h
  simp only [Bool.and_eq_true] at h1
  rcases j with _ | _ | _ | j
  . rw [isK_eq h1.1] at hv; exact hv
  . rw [show (0 + 1) = 1 from rfl, isK_eq h1.2] at hv; exact hv
  . exact okD_rel h2 hv
  . exact absurd hj (by omega)
 sh s j hj := by
  rcases j with _ | _ | _ | j
  . exact .int _ _
  . exact .int _ _
  . exact sh_b _
  . exact absurd hj (by omega)
theorem neC_rd (s : Cas) : neC.rd (neC.cell s) = s := by
 show (⟨s.id, s.num, dataOf (slR eB s.data)⟩ : Cas) = s
 rw [dataOf_sl]
def validHs (mn : Int) : Int -> List Hel -> Bool
 | _, [] => true
 | last, h :: t => decide (last < h.num) && decide (h.num < mn + 32) && decide (h.num < 1073741824) && decide (h.data.length <= 64) && validT h.tm && isTimeT h.til && validHs mn h.num t
def validSd (s : Sed) : Bool := decide (0 <= s.mn) && decide (s.mn <= 1073741824) && decide (s.held.length <= 32) && validHs s.mn (s.mn - 1) s.held
def validSs : Int -> List Sed -> Bool
 | _, [] => true
 | last, s :: t => decide (last < s.id) && validSd s && validSs s.id t
def validL (l : List Sed) : Bool := decide (l.length <= 8) && validSs 0 l
structure HelR (h : Hel) : Prop where
 b : BL h.data
 n : h.data.length <= 9223372036854775807
structure SedR (s : Sed) : Prop where
 id : 0 <= s.id /\ s.id < 18446744073709551616
 h : ∀ x ∈ s.held, HelR x
 n : s.held.length <= 9223372036854775807
theorem mcTime_ok (c : Int) : PureOk Try.prog 32 [(cI .i64).enc c] (cB.enc (isTimeT c)) := by
 refine pure_intro (wd := 1) (Q := mkQ LE0) (by decide) tysOk (q_of LE0_ok) mixed Try.func32 rfl _ (by show 1 <= _; decide) _ ?_
 repeat' (first | (apply And.intro <;> intro hc <;> (first | exact Bool.noConfusion hc | (simp only [zb0] at hc) | skip)) | (refine And.intro zp0 ?_) | (apply And.intro) | (intro s hs))
 all_goals (refine Done.mk (leF_bool ?_); simp_all [isTimeT]; try omega)
def LMc0 : CsL := (32, some timeE) :: (58, some validE) :: []
theorem LMc0_ok : AllOk Try.prog LMc0 := ⟨pureE_ok ⟨_, Try.func32, rfl, by kernel_rfl⟩ fun a _ => mcTime_ok a.1, pureE_ok ⟨_, Try.func58, rfl, by kernel_rfl⟩ fun a _ => valid_ok a.1, trivial⟩
theorem vh_step {mn last : Int} {L : List Hel} {i : Nat} {V : Bool} (hi : i < L.length) (hV : validHs mn last (L.drop i) = V) : V = (decide (last < (L.getD i default).num) && decide ((L.getD i default).num < mn + 32) && decide ((L.getD i default).num < 1073741824) && decide ((L.getD i default).data.length <= 64) && validT (L.getD i default).tm && isTimeT (L.getD i default).til && validHs mn (L.getD i default).num (L.drop (i + 1))) := by
 rw [<- hV, drop_at hi]; rfl
theorem vseed_ok (s : Sed) (hn : s.held.length <= 9223372036854775807) : PureOk Try.prog 55 [(cN neS).enc s] (cB.enc (validSd s)) := by
 obtain ⟨id, mn, L⟩ := s
 dsimp only at hn
 unfold validSd
 dsimp only
 obtain ⟨V, hV⟩ : ∃ V, validHs mn (mn - 1) L = V := ⟨_, rfl⟩
 rw [hV]
 refine pure_intro (wd := 1) (Q := mkQ LMc0) (by decide) tysOk (q_of LMc0_ok) mixed Try.func55 rfl _ (by show 1 <= _; decide) _ ?_
 have f1 : mn < 0 -> (decide (0 <= mn) && decide (mn <= 1073741824) && decide (L.length <= 32) && V) = false := fun h => by rw [decide_eq_false (p := 0 <= mn) (by omega)]; rfl
 have f2 : 1073741824 < mn -> (decide (0 <= mn) && decide (mn <= 1073741824) && decide (L.length <= 32) && V) = false := fun h => by rw [decide_eq_false (p := mn <= 1073741824) (by omega), Bool.and_false]; rfl
 have f3 : 32 < L.length -> (decide (0 <= mn) && decide (mn <= 1073741824) && decide (L.length <= 32) && V) = false := fun h => by rw [decide_eq_false (p := L.length <= 32) (by omega), Bool.and_false]; rfl
 have f4 : 0 <= mn -> mn <= 1073741824 -> L.length <= 32 -> (decide (0 <= mn) && decide (mn <= 1073741824) && decide (L.length <= 32) && V) = V := fun h1 h2 h3 => by rw [decide_eq_true (p := 0 <= mn) h1, decide_eq_true (p := mn <= 1073741824) h2, decide_eq_true (p := L.length <= 32) h3]; rfl
 obtain ⟨R, hR⟩ : ∃ R, (decide (0 <= mn) && decide (mn <= 1073741824) && decide (L.length <= 32) && V) = R := ⟨_, rfl⟩
 rw [hR] at f1 f2 f3 f4 ⊢
 clear hR
 repeat' (first | (apply And.intro <;> intro hc <;> (first | exact Bool.noConfusion hc | (exfalso; first | exact absurd rfl hc | omega) | (simp only [zb0, ne_eq, not_true_eq_false] at hc <;> first | exact absurd rfl hc | (exfalso; first | exact absurd rfl hc | omega) | skip) | skip)) | (refine And.intro zp1 ?_) | (apply And.intro) | (intro s hs; skip))
 . exact Done.mk (leF_bool (f1 (by assumption)).symm)
 . exact Done.mk (leF_bool (f2 (by assumption)).symm)
 . exact Done.mk (leF_bool (f3 (by omega)).symm)
 have hm0 : 0 <= mn := by omega
 have hm1 : mn <= 1073741824 := by omega
 have hl32 : L.length <= 32 := by omega
 rw [f4 hm0 hm1 hl32]
 clear f1 f2 f3 f4
 have w1 : IntKind.i64.wrap (mn - 1) = mn - 1 := IntWalk.i64_in _ (by omega)
 have w2 : IntKind.i64.wrap (mn + 32) = mn + 32 := IntWalk.i64_in _ (by omega)
 conv => whnf
 refine loop_intro (mono_of LMc0_ok) (fun s : {p : Nat × Int // p.1 <= L.length /\ validHs mn p.2 (L.drop p.1) = V} => (⟨[(1, one (.ptr 0 0 0 false)), (3, one (.int .i64 s.1.2)), (24, one (slN neH L)), (25, one (.int .i64 (L.length : Int))), (26, one (.int .i64 (s.1.1 : Int)))], [(0, some ⟨78, 1, 3, true, fun _ => sedC ⟨id, mn, L⟩⟩)], 1⟩ : Hd)) (fun s => L.length - s.1.1) (fun _ => rfl) ?_ ⟨(0, mn - 1), Nat.zero_le _, hV⟩ [] ⟨rfl, ⟨leF_ptr rfl, leF_int w1, leF_c (sh_slN L).le, leF_int rfl, leF_int rfl, trivial⟩, ⟨rfl, leN_varA fun j hj => (neS.sh _ j hj).le⟩, trivial⟩
 rintro ⟨⟨i, last⟩, hi, hVi⟩
 dsimp only at hi hVi ⊢
 by_cases hil : i < L.length
 . have hst := vh_step hil hVi
   have w3 : IntKind.i64.wrap ((i : Int) + 1) = ((i + 1 : Nat) : Int) := (IntWalk.i64_in _ (by omega)).trans (by omega)
   have n1 : ¬ last < (L.getD ((i : Int).toNat) default).num -> false = V := fun g => by rw [hst, decide_eq_false (p := last < (L.getD i default).num) g]; simp
   have n2 : ¬ (L.getD ((i : Int).toNat) default).num < mn + 32 -> false = V := fun g => by rw [hst, decide_eq_false (p := (L.getD i default).num < mn + 32) g]; simp
   have n3 : ¬ (L.getD ((i : Int).toNat) default).num < 1073741824 -> false = V := fun g => by rw [hst, decide_eq_false (p := (L.getD i default).num < 1073741824) g]; simp
   have n4 : ¬ (L.getD ((i : Int).toNat) default).data.length <= 64 -> false = V := fun g => by rw [hst, decide_eq_false (p := (L.getD i default).data.length <= 64) g]; simp
   have n5 : validT (L.getD ((i : Int).toNat) default).tm = false -> false = V := fun g => by rw [hst, show validT (L.getD i default).tm = false from g]; simp
   have n6 : isTimeT (L.getD ((i : Int).toNat) default).til = false -> false = V := fun g => by rw [hst, show isTimeT (L.getD i default).til = false from g]; simp
   have ny : last < (L.getD ((i : Int).toNat) default).num -> (L.getD ((i : Int).toNat) default).num < mn + 32 -> (L.getD ((i : Int).toNat) default).num < 1073741824 -> (L.getD ((i : Int).toNat) default).data.length <= 64 -> validT (L.getD ((i : Int).toNat) default).tm = true -> isTimeT (L.getD ((i : Int).toNat) default).til = true -> validHs mn (L.getD ((i : Int).toNat) default).num (L.drop (i + 1)) = V := fun g1 g2 g3 g4 g5 g6 => by
    rw [hst, decide_eq_true (p := last < (L.getD i default).num) g1, decide_eq_true (p := (L.getD i default).num < mn + 32) g2, decide_eq_true (p := (L.getD i default).num < 1073741824) g3, decide_eq_true (p := (L.getD i default).data.length <= 64) g4, show validT (L.getD i default).tm = true from g5, show isTimeT (L.getD i default).til = true from g6]; simp
   clear hst
   repeat' (first | (simp only [w2]) | (apply And.intro <;> intro hc <;> (first | exact Bool.noConfusion hc | (exfalso; first | exact absurd rfl hc | omega) | (simp only [zb0, ne_eq, not_true_eq_false] at hc <;> first | exact absurd rfl hc | (exfalso; first | exact absurd rfl hc | omega) | skip) | skip)) | (refine And.intro zp1 ?_) | (apply And.intro) | (intro s hs; skip))
   . exact Done.mk (leF_bool (n1 (by omega)))
   . exact Done.mk (leF_bool (n2 (by omega)))
   . exact Done.mk (leF_bool (n3 (by omega)))
   . exact Done.mk (leF_bool (n4 (by omega)))
   . exact Done.mk (leF_bool (n5 (by rename_i hs _ _; exact hs.symm.trans (by assumption))))
   . exact Done.mk (leF_bool (n6 (hs.symm.trans hc)))
   . rename_i s1 hs1 hc1
     refine ⟨⟨(i + 1, (L.getD ((i : Int).toNat) default).num), by dsimp only; omega, ny (by omega) (by omega) (by omega) (by omega) (hs1.symm.trans hc1) (hs.symm.trans hc)⟩, [], by dsimp only; omega, rfl, ⟨leF_ptr rfl, leF_int rfl, leF_c (sh_slN L).le, leF_int rfl, leF_int w3, trivial⟩, ⟨rfl, leN_varA fun j hj => (neS.sh _ j hj).le⟩, trivial⟩
 . have hVt : V = true := by rw [<- hVi, List.drop_of_length_le (by omega)]; rfl
   rw [hVt]
   repeat' (first | (apply And.intro <;> intro hc <;> (first | exact Bool.noConfusion hc | (exfalso; first | exact absurd rfl hc | omega) | (simp only [zb0, ne_eq, not_true_eq_false] at hc <;> first | exact absurd rfl hc | (exfalso; first | exact absurd rfl hc | omega) | skip) | skip)) | (refine And.intro zp1 ?_) | (apply And.intro) | (intro s hs; skip))
   exact Done.mk (leF_bool rfl)
abbrev vseedE : Entry := pureE (AC.cons (cN neS) AC.nil) (fun a => a.1.held.length <= 9223372036854775807) (fun a => validSd a.1) cB.enc
def slBN {α : Type} [Inhabited α] (E : NElem α) (l : List α) : CV := .sl false l.length E.sz (rowN E l)
theorem cl_slBN {α : Type} [Inhabited α] {E : NElem α} (l : List α) : Cl (slBN E l) := cl_sl fun i _ j hj => fun c _ => (E.sh _ j hj).le
theorem vs_step {last : Int} {L : List Sed} {i : Nat} {V : Bool} (hi : i < L.length) (hV : validSs last (L.drop i) = V) : V = (decide (last < (L.getD i default).id) && validSd (L.getD i default) && validSs (L.getD i default).id (L.drop (i + 1))) := by
 rw [<- hV, drop_at hi]; rfl
theorem getD_mem {α : Type} [Inhabited α] {L : List α} {i : Nat} (h : i < L.length) : L.getD i default ∈ L := by
 rw [List.getD_eq_getElem?_getD, List.getElem?_eq_getElem h]
 exact List.getElem_mem h
def LMc1 : CsL := (55, some vseedE) :: LMc0
theorem LMc1_ok : AllOk Try.prog LMc1 := ⟨pureE_ok ⟨_, Try.func55, rfl, by kernel_rfl⟩ fun a h => vseed_ok a.1 h, LMc0_ok⟩
structure LHn (L : List Sed) : Prop where
 h : ∀ x ∈ L, x.held.length <= 9223372036854775807
 n : L.length <= 9223372036854775807
theorem rd_eqS {s : Bool} {M m : Sed} (hs : s = validSd M) (h : M = m) : s = validSd m := by rw [hs, h]
theorem mvalid_ok (L : List Sed) (hL : LHn L) : PureOk Try.prog 31 [(cNS neS neS_sz).enc L] (cB.enc (validL L)) := by
 have hn := hL.n
 unfold validL
 obtain ⟨V, hV⟩ : ∃ V, validSs 0 L = V := ⟨_, rfl⟩
 rw [hV]
 refine pure_intro (wd := 1) (Q := mkQ LMc1) (by decide) tysOk (q_of LMc1_ok) mixed Try.func31 rfl _ (by show 1 <= _; decide) _ ?_
 repeat' (first | (apply And.intro <;> intro hc <;> (first | exact Bool.noConfusion hc | (exfalso; first | exact absurd rfl hc | omega) | (simp only [zb0, ne_eq, not_true_eq_false] at hc <;> first | exact absurd rfl hc | (exfalso; first | exact absurd rfl hc | omega) | skip) | skip)) | (refine And.intro zp1 ?_) | (apply And.intro) | (intro s hs; skip))
 . refine Done.mk (leF_bool ?_)
   rw [decide_eq_false (p := L.length <= 8) (by omega)]; rfl
 have hl8 : L.length <= 8 := by omega
 rw [decide_eq_true (p := L.length <= 8) hl8, Bool.true_and]
 conv => whnf
 refine loop_intro (mono_of LMc1_ok) (fun s : {p : Nat × Int // p.1 <= L.length /\ validSs p.2 (L.drop p.1) = V} => (⟨[(3, one (.int .u64 s.1.2)), (9, one (slBN neS L)), (10, one (.int .i64 (L.length : Int))), (11, one (.int .i64 (s.1.1 : Int)))], [], 1⟩ : Hd)) (fun s => L.length - s.1.1) (fun _ => rfl) ?_ ⟨(0, 0), Nat.zero_le _, hV⟩ [] ⟨rfl, ⟨leF_int rfl, leF_c (leC_cl (cl_slBN L)), leF_int rfl, leF_int rfl, trivial⟩, trivial⟩
 rintro ⟨⟨i, last⟩, hi, hVi⟩
 dsimp only at hi hVi ⊢
 unfold slBN
 by_cases hil : i < L.length
 . have hst := vs_step hil hVi
   have w3 : IntKind.i64.wrap ((i : Int) + 1) = ((i + 1 : Nat) : Int) := (IntWalk.i64_in _ (by omega)).trans (by omega)
   have hh := hL.h _ (getD_mem hil)
   have n1 : ¬ last < (L.getD ((i : Int).toNat) default).id -> false = V := fun g => by rw [hst, decide_eq_false (p := last < (L.getD i default).id) g]; simp
   have n2 : validSd (L.getD ((i : Int).toNat) default) = false -> false = V := fun g => by rw [hst, show validSd (L.getD i default) = false from g]; simp
   have ny : last < (L.getD ((i : Int).toNat) default).id -> validSd (L.getD ((i : Int).toNat) default) = true -> validSs (L.getD ((i : Int).toNat) default).id (L.drop (i + 1)) = V := fun g1 g2 => by
    rw [hst, decide_eq_true (p := last < (L.getD i default).id) g1, show validSd (L.getD i default) = true from g2]; simp
   clear hst
   repeat' (first | (apply And.intro <;> intro hc <;> (first | exact Bool.noConfusion hc | (exfalso; first | exact absurd rfl hc | omega) | (simp only [zb0, ne_eq, not_true_eq_false] at hc <;> first | exact absurd rfl hc | (exfalso; first | exact absurd rfl hc | omega) | skip) | skip)) | (refine And.intro zp1 ?_) | (apply And.intro) | (intro s hs; (have q := rd_eqS (m := L.getD ((i : Int).toNat) default) hs (neS_rd _); clear hs)))
   . exact Done.mk (leF_bool (n1 (by omega)))
   . exact ⟨rfl, okHs_sl _⟩
   . exact Eq.mpr (congrArg (fun z : Sed => z.held.length <= 9223372036854775807) (neS_rd _)) hh
   . exact Done.mk (leF_bool (n2 (q.symm.trans (by assumption))))
   . refine ⟨⟨(i + 1, (L.getD ((i : Int).toNat) default).id), by dsimp only; omega, ny (by omega) (q.symm.trans (by assumption))⟩, [], by dsimp only; omega, rfl, ⟨leF_int rfl, leF_c (leC_cl (cl_slBN L)), leF_int rfl, leF_int w3, trivial⟩, trivial⟩
 . have hVt : V = true := by rw [<- hVi, List.drop_of_length_le (by omega)]; rfl
   rw [hVt]
   repeat' (first | (apply And.intro <;> intro hc <;> (first | exact Bool.noConfusion hc | (exfalso; first | exact absurd rfl hc | omega) | (simp only [zb0, ne_eq, not_true_eq_false] at hc <;> first | exact absurd rfl hc | (exfalso; first | exact absurd rfl hc | omega) | skip) | skip)) | (refine And.intro zp1 ?_) | (apply And.intro) | (intro s hs; skip))
   exact Done.mk (leF_bool rfl)
abbrev mvalidE : Entry := pureE (AC.cons (cNS neS neS_sz) AC.nil) (fun a => LHn a.1) (fun a => validL a.1) cB.enc
def fndS (id : Int) : List Sed -> Nat -> Nat × Bool
 | [], k => (k, false)
 | s :: t, k => if id <= s.id then (k, decide (s.id = id)) else fndS id t (k + 1)
def plcH (num : Int) : List Hel -> Nat -> Nat × Bool
 | [], k => (k, false)
 | h :: t, k => if num <= h.num then (k, decide (h.num = num)) else plcH num t (k + 1)
def encNB (r : Nat × Bool) : FV := .tup [.c (.int .i64 (r.1 : Int)), .c (.bool r.2)]
theorem done_nb {H : Hp} {a : Int} {b : Bool} {R : Nat × Bool} (h1 : a = (R.1 : Int)) (h2 : b = R.2) : Done H (.tup [.c (.int .i64 a), .c (.bool b)]) (encNB R) := Done.mk (leF_tup ⟨leC_int h1, leC_bool h2, trivial⟩)
theorem mfind_ok (L : List Sed) (id : Int) (hn : L.length <= 9223372036854775807) : PureOk Try.prog 33 [(cNS neS neS_sz).enc L, (cI .u64).enc id] (encNB (fndS id L 0)) := by
 obtain ⟨R, hR⟩ : ∃ R, fndS id L 0 = R := ⟨_, rfl⟩
 rw [hR]
 refine pure_intro (wd := 1) (Q := mkQ LE0) (by decide) tysOk (q_of LE0_ok) mixed Try.func33 rfl _ (by show 2 <= _; decide) _ ?_
 repeat' (first | (apply And.intro <;> intro hc <;> (first | exact Bool.noConfusion hc | (exfalso; first | exact absurd rfl hc | omega) | (simp only [zb0, ne_eq, not_true_eq_false] at hc <;> first | exact absurd rfl hc | (exfalso; first | exact absurd rfl hc | omega) | skip) | skip)) | (refine And.intro zp1 ?_) | (apply And.intro) | (intro s hs; skip))
 conv => whnf
 refine loop_intro (mono_of LE0_ok) (fun s : {i : Nat // i <= L.length /\ fndS id (L.drop i) i = R} => (⟨[(0, one (slBN neS L)), (1, one (.int .u64 id)), (8, one (slBN neS L)), (9, one (.int .i64 (L.length : Int))), (10, one (.int .i64 (s.1 : Int)))], [], 1⟩ : Hd)) (fun s => L.length - s.1) (fun _ => rfl) ?_ ⟨0, Nat.zero_le _, hR⟩ [] ⟨rfl, ⟨leF_c (leC_cl (cl_slBN L)), leF_int rfl, leF_c (leC_cl (cl_slBN L)), leF_int rfl, leF_int rfl, trivial⟩, trivial⟩
 rintro ⟨i, hi, hV⟩
 dsimp only at hi hV ⊢
 unfold slBN
 by_cases hil : i < L.length
 . have w3 : IntKind.i64.wrap ((i : Int) + 1) = ((i + 1 : Nat) : Int) := (IntWalk.i64_in _ (by omega)).trans (by omega)
   rw [drop_at hil] at hV
   have ny : id <= (L.getD ((i : Int).toNat) default).id -> R = (i, decide ((L.getD ((i : Int).toNat) default).id = id)) := fun g => by rw [<- hV]; exact if_pos g
   have nn : ¬ id <= (L.getD ((i : Int).toNat) default).id -> fndS id (L.drop (i + 1)) (i + 1) = R := fun g => by rw [<- hV]; exact (if_neg g).symm
   clear hV
   repeat' (first | (apply And.intro <;> intro hc <;> (first | exact Bool.noConfusion hc | (exfalso; first | exact absurd rfl hc | omega) | (simp only [zb0, ne_eq, not_true_eq_false] at hc <;> first | exact absurd rfl hc | (exfalso; first | exact absurd rfl hc | omega) | skip) | skip)) | (refine And.intro zp1 ?_) | (apply And.intro) | (intro s hs; skip))
   . rw [ny (by omega)]
     exact done_nb rfl rfl
   . refine ⟨⟨i + 1, by omega, nn (by omega)⟩, [], by dsimp only; omega, rfl, ⟨leF_c (leC_cl (cl_slBN L)), leF_int rfl, leF_c (leC_cl (cl_slBN L)), leF_int rfl, leF_int w3, trivial⟩, trivial⟩
 . have hi2 : i = L.length := by omega
   rw [List.drop_of_length_le (by omega)] at hV
   have hV : (i, false) = R := hV
   rw [<- hV]
   repeat' (first | (apply And.intro <;> intro hc <;> (first | exact Bool.noConfusion hc | (exfalso; first | exact absurd rfl hc | omega) | (simp only [zb0, ne_eq, not_true_eq_false] at hc <;> first | exact absurd rfl hc | (exfalso; first | exact absurd rfl hc | omega) | skip) | skip)) | (refine And.intro zp1 ?_) | (apply And.intro) | (intro s hs; skip))
   exact done_nb (by rw [hi2]) rfl
abbrev mfindE : Entry := pureE (AC.cons (cNS neS neS_sz) (AC.cons (cI .u64) AC.nil)) (fun a => a.1.length <= 9223372036854775807) (fun a => fndS a.2.1 a.1 0) encNB
theorem mplace_ok (L : List Hel) (id : Int) (hn : L.length <= 9223372036854775807) : PureOk Try.prog 35 [(cNS neH neH_sz).enc L, (cI .i64).enc id] (encNB (plcH id L 0)) := by
 obtain ⟨R, hR⟩ : ∃ R, plcH id L 0 = R := ⟨_, rfl⟩
 rw [hR]
 refine pure_intro (wd := 1) (Q := mkQ LE0) (by decide) tysOk (q_of LE0_ok) mixed Try.func35 rfl _ (by show 2 <= _; decide) _ ?_
 repeat' (first | (apply And.intro <;> intro hc <;> (first | exact Bool.noConfusion hc | (exfalso; first | exact absurd rfl hc | omega) | (simp only [zb0, ne_eq, not_true_eq_false] at hc <;> first | exact absurd rfl hc | (exfalso; first | exact absurd rfl hc | omega) | skip) | skip)) | (refine And.intro zp1 ?_) | (apply And.intro) | (intro s hs; skip))
 conv => whnf
 refine loop_intro (mono_of LE0_ok) (fun s : {i : Nat // i <= L.length /\ plcH id (L.drop i) i = R} => (⟨[(0, one (slBN neH L)), (1, one (.int .i64 id)), (8, one (slBN neH L)), (9, one (.int .i64 (L.length : Int))), (10, one (.int .i64 (s.1 : Int)))], [], 1⟩ : Hd)) (fun s => L.length - s.1) (fun _ => rfl) ?_ ⟨0, Nat.zero_le _, hR⟩ [] ⟨rfl, ⟨leF_c (leC_cl (cl_slBN L)), leF_int rfl, leF_c (leC_cl (cl_slBN L)), leF_int rfl, leF_int rfl, trivial⟩, trivial⟩
 rintro ⟨i, hi, hV⟩
 dsimp only at hi hV ⊢
 unfold slBN
 by_cases hil : i < L.length
 . have w3 : IntKind.i64.wrap ((i : Int) + 1) = ((i + 1 : Nat) : Int) := (IntWalk.i64_in _ (by omega)).trans (by omega)
   rw [drop_at hil] at hV
   have ny : id <= (L.getD ((i : Int).toNat) default).num -> R = (i, decide ((L.getD ((i : Int).toNat) default).num = id)) := fun g => by rw [<- hV]; exact if_pos g
   have nn : ¬ id <= (L.getD ((i : Int).toNat) default).num -> plcH id (L.drop (i + 1)) (i + 1) = R := fun g => by rw [<- hV]; exact (if_neg g).symm
   clear hV
   repeat' (first | (apply And.intro <;> intro hc <;> (first | exact Bool.noConfusion hc | (exfalso; first | exact absurd rfl hc | omega) | (simp only [zb0, ne_eq, not_true_eq_false] at hc <;> first | exact absurd rfl hc | (exfalso; first | exact absurd rfl hc | omega) | skip) | skip)) | (refine And.intro zp1 ?_) | (apply And.intro) | (intro s hs; skip))
   . rw [ny (by omega)]
     exact done_nb rfl rfl
   . refine ⟨⟨i + 1, by omega, nn (by omega)⟩, [], by dsimp only; omega, rfl, ⟨leF_c (leC_cl (cl_slBN L)), leF_int rfl, leF_c (leC_cl (cl_slBN L)), leF_int rfl, leF_int w3, trivial⟩, trivial⟩
 . have hi2 : i = L.length := by omega
   rw [List.drop_of_length_le (by omega)] at hV
   have hV : (i, false) = R := hV
   rw [<- hV]
   repeat' (first | (apply And.intro <;> intro hc <;> (first | exact Bool.noConfusion hc | (exfalso; first | exact absurd rfl hc | omega) | (simp only [zb0, ne_eq, not_true_eq_false] at hc <;> first | exact absurd rfl hc | (exfalso; first | exact absurd rfl hc | omega) | skip) | skip)) | (refine And.intro zp1 ?_) | (apply And.intro) | (intro s hs; skip))
   exact done_nb (by rw [hi2]) rfl
abbrev mplaceE : Entry := pureE (AC.cons (cNS neH neH_sz) (AC.cons (cI .i64) AC.nil)) (fun a => a.1.length <= 9223372036854775807) (fun a => plcH a.2.1 a.1 0) encNB
theorem leN_snocN {c : Wc} {t : TypeId} {α : Type} [Inhabited α] {E : NElem α} {L : List α} {x : α} {n : Nat} {f : Nat -> Nat -> CV} (hn : n = L.length + 1) (h1 : ∀ i, i < L.length -> ∀ j, j < E.sz -> LeC c (f i j) (rowN E L i j)) (h2 : ∀ j, j < E.sz -> LeC c (f L.length j) (E.cell x j)) :
 LeN c ⟨t, n, E.sz, false, f⟩ (entN E t (L ++ [x])) := by
 refine ⟨rfl, by simp [entN, hn], rfl, rfl, fun i hi j hj => ?_⟩
 have hi' : i < n := hi
 show LeC c (f i j) (E.cell ((L ++ [x]).getD i default) j)
 by_cases h : i < L.length
 . have : (L ++ [x]).getD i default = L.getD i default := by
    simp [List.getD_eq_getElem?_getD, List.getElem?_append_left h]
   rw [this]
   exact h1 i h j hj
 . have hi2 : i = L.length := by omega
   subst hi2
   have : (L ++ [x]).getD L.length default = x := by simp [List.getD_eq_getElem?_getD]
   rw [this]
   exact h2 j hj
theorem leN_entN {c : Wc} {t : TypeId} {α : Type} [Inhabited α] {E : NElem α} {L : List α} : LeN c (entN E t L) (entN E t L) := ⟨rfl, rfl, rfl, rfl, fun _ _ j hj => (E.sh _ j hj).le⟩
theorem rowN_nf {α : Type} [Inhabited α] {E : NElem α} (L : List α) {i j : Nat} (hj : j < E.sz) : NF (rowN E L i j) := (E.sh _ j hj).nf
def cRp1 : Codec Int where
 enc a := .e (.c (.rp false 1 fun _ => .int .i64 a))
 dec H x := match x with
  | .e (.c (.rp _ m g)) => match g 0 with
    | .int .i64 v => bif Nat.beq m 1 then some (v, none, []) else none
    | _ => none
  | _ => none
 sound H H' x a p rd h hp hh := by
  split at h
  . rename_i sh m g
    split at h
    . rename_i v hg
      obtain ⟨hb, h5⟩ := cond_some h
      have hb := Nat.eq_of_beq_eq_true hb
      subst hb
      injection h5 with h6 h7
      injection h7 with h7 h8
      subst h6 h7 h8
      rintro cx r w u st ⟨ad, rfl, hs, ho, hx, hlt, hq⟩
      refine ⟨ad, rfl, hs, fun h => ho (wrBut_wr h), (fun h => by cases h), hlt, fun j hj => ?_⟩
      obtain ⟨u, hu, hr⟩ := hq j hj
      obtain rfl : j = 0 := by omega
      rw [hg] at hr
      exact ⟨u, hu, hr⟩
    . cases h
  . cases h
theorem leC_fnN {c : Wc} {f : FuncId} {n m : Nat} {a b : Nat -> CV} (h : ∀ k, k < n + m -> LeC c (a k) (b k)) : LeC c (.fn f n m a) (.fn f n m b) := by
 rintro hl cx r w v st ⟨fs, cs, rfl, h1, h2, h3, h4⟩
 refine ⟨fs, cs, rfl, h1, h2, fun k u hu => ?_, fun k u hu => ?_⟩
 . have := (Array.getElem?_eq_some_iff.1 hu).1
   exact h k (by omega) hl cx r w u st (h3 k u hu)
 . have := (Array.getElem?_eq_some_iff.1 hu).1
   exact h (n + k) (by omega) hl cx r w u st (h4 k u hu)
theorem leC_rp1 {c : Wc} {k : IntKind} {a : Int} (hf : c.fin = false) : LeC c (.rp false 1 fun _ => .int k a) (.rp false 1 fun _ => .int k a) := by
 rintro hl cx r w v st ⟨ad, rfl, hs, ho, hx, hlt, hq⟩
 refine ⟨ad, rfl, hs, ?_, (fun h => by cases h), hlt, hq⟩
 rintro (h | ⟨h, _⟩)
 . exact ho (wr_sub (cx := cx) hl h)
 . rw [hf] at h; cases h
def cWant : Codec (Option Int) where
 enc a := match a with
  | none => .e (.c (.fn 57 0 0 fun _ => .top))
  | some l => .e (.c (.fn 59 0 1 fun _ => .rp false 1 fun _ => .int .i64 l))
 dec H x := match x with
  | .e (.c (.fn f n m a)) =>
    bif Nat.beq f 57 && Nat.beq n 0 && Nat.beq m 0 then some (none, none, []) else
    bif Nat.beq f 59 && Nat.beq n 0 && Nat.beq m 1 then
     match a 0 with
     | .ptr k 0 0 _ => match hget H k with
       | some ⟨_, n0, z0, _, f0⟩ => match f0 0 0 with
         | .int .i64 v => bif Nat.blt 0 n0 && Nat.blt 0 z0 then some (some v, none, [k]) else none
         | _ => none
       | none => none
     | _ => none
    else none
  | _ => none
 sound H H' x a p rd h hp hh := by
  split at h
  . rename_i f n m a0
    cases hb : (Nat.beq f 57 && Nat.beq n 0 && Nat.beq m 0) with
    | true =>
      rw [hb, cond_true] at h
      injection h with h
      injection h with h h'
      injection h' with h' h''
      subst h h' h''
      simp only [Bool.and_eq_true] at hb
      have b1 := Nat.eq_of_beq_eq_true hb.1.1
      have b2 := Nat.eq_of_beq_eq_true hb.1.2
      have b3 := Nat.eq_of_beq_eq_true hb.2
      subst b1 b2 b3
      rintro cx r w v st ⟨fs, cs, rfl, h1, h2, h3, h4⟩
      refine ⟨fs, cs, rfl, h1, h2, fun k u hu => ?_, fun k u hu => ?_⟩
      . have := (Array.getElem?_eq_some_iff.1 hu).1; omega
      . have := (Array.getElem?_eq_some_iff.1 hu).1; omega
    | false =>
      rw [hb, cond_false] at h
      cases hb2 : (Nat.beq f 59 && Nat.beq n 0 && Nat.beq m 1) with
      | false => rw [hb2] at h; cases h
      | true =>
        rw [hb2, cond_true] at h
        simp only [Bool.and_eq_true] at hb2
        have b1 := Nat.eq_of_beq_eq_true hb2.1.1
        have b2 := Nat.eq_of_beq_eq_true hb2.1.2
        have b3 := Nat.eq_of_beq_eq_true hb2.2
        subst b1 b2 b3
        split at h
        . rename_i k fl ha0
          split at h
          . rename_i t0 n0 z0 v0 f0 he0
            split at h
            . rename_i l hc0
              cases hb3 : (Nat.blt 0 n0 && Nat.blt 0 z0) with
              | false => rw [hb3] at h; cases h
              | true =>
                rw [hb3, cond_true] at h
                injection h with h
                injection h with h h'
                injection h' with h' h''
                subst h h' h''
                simp only [Bool.and_eq_true] at hb3
                have g0 : hget H' k = some ⟨t0, n0, z0, v0, f0⟩ := by rw [<- hh k (by simp)]; exact he0
                rintro cx r w v st ⟨fs, cs, rfl, h1, h2, h3, h4⟩
                refine ⟨fs, cs, rfl, h1, h2, fun q u hu => ?_, fun q u hu => ?_⟩
                . have := (Array.getElem?_eq_some_iff.1 hu).1; omega
                . have hq := (Array.getElem?_eq_some_iff.1 hu).1
                  have hr := h4 q u hu
                  rw [Nat.zero_add] at hr
                  obtain rfl : q = 0 := by omega
                  rw [ha0] at hr
                  obtain ⟨y, hy, rfl⟩ := hr
                  refine ⟨⟨y.b, 0 * y.sz + 0, none⟩, rfl, rfl, ?_, (fun h => by cases h), (st.dom k y hy.1).1, fun j hj => ?_⟩
                  . rintro ⟨k2, e2, z, q1, q2, q3, q4⟩
                    have := st.inj k2 k e2 _ z y q1 g0 q2 hy.1 q3
                    exact q4 (by rw [this]; exact List.mem_singleton.2 rfl)
                  . obtain rfl : j = 0 := by omega
                    obtain ⟨u, hu, hr⟩ := blk_cell st g0 hy (i := 0) (j := 0) (Nat.le_of_ble_eq_true hb3.1) (Nat.le_of_ble_eq_true hb3.2)
                    refine ⟨u, hu, ?_⟩
                    have hr : (f0 0 0).rel r cx.X (wr r H') w u := hr
                    rw [hc0] at hr
                    exact hr
            . cases h
          . cases h
        . cases h
  . cases h
theorem all_ok (h : Hel) : PureOk Try.prog 57 [(cN neH).enc h] (cB.enc true) := by
 refine pure_intro (wd := 1) (Q := mkQ LE0) (by decide) tysOk (q_of LE0_ok) mixed Try.func57 rfl _ (by show 1 <= _; decide) _ ?_
 repeat' (first | (apply And.intro <;> intro hc <;> (first | exact Bool.noConfusion hc | (simp only [zb0] at hc) | skip)) | (refine And.intro zp0 ?_) | (apply And.intro) | (intro s hs))
 exact Done.mk (leF_bool rfl)
theorem from_ok (h : Hel) (l : Int) : PureOk Try.prog 59 [(cN neH).enc h, cRp1.enc l] (cB.enc (decide (l <= h.num))) := by
 refine pure_intro (wd := 1) (Q := mkQ LE0) (by decide) tysOk (q_of LE0_ok) mixed Try.func59 rfl _ (by show 2 <= _; decide) _ ?_
 repeat' (first | (apply And.intro <;> intro hc <;> (first | exact Bool.noConfusion hc | (exfalso; first | exact absurd rfl hc | omega) | (simp only [zb0, ne_eq, not_true_eq_false] at hc <;> first | exact absurd rfl hc | (exfalso; first | exact absurd rfl hc | omega) | skip) | skip)) | (refine And.intro zp1 ?_) | (apply And.intro) | (intro s hs; skip))
 all_goals first | exact Done.mk (leF_bool rfl) | skip
theorem take_snoc {α : Type} [Inhabited α] {L : List α} {i : Nat} (h : i < L.length) : L.take (i + 1) = L.take i ++ [L.getD i default] := by
 rw [List.take_add_one, List.getElem?_eq_getElem h, List.getD_eq_getElem?_getD, List.getElem?_eq_getElem h]; rfl
def LMk : CsL := (57, some (pureE (AC.cons (cN neH) AC.nil) (fun _ => True) (fun _ => true) cB.enc)) :: (59, some (pureE (AC.cons (cN neH) (AC.cons cRp1 AC.nil)) (fun _ => True) (fun a => decide (a.2.1 <= a.1.num)) cB.enc)) :: []
theorem LMk_ok : AllOk Try.prog LMk := ⟨pureE_ok ⟨_, Try.func57, rfl, by kernel_rfl⟩ fun a _ => all_ok a.1, pureE_ok ⟨_, Try.func59, rfl, by kernel_rfl⟩ fun a _ => from_ok a.1 a.2.1, trivial⟩
def wantB (W : Option Int) (h : Hel) : Bool := match W with
 | none => true
 | some l => decide (l <= h.num)
structure KpI (L : List Hel) : Prop where
 n : L.length <= 1000
 d : ∀ x ∈ L, x.data.length <= 1000
theorem keep_ok (L : List Hel) (W : Option Int) (hL : KpI L) : NewOk Try.prog 56 [(cNS neH neH_sz).enc L, cWant.enc W] (some (L.filter (wantB W)).length) none (entN neH 85 (L.filter (wantB W))) := by
 have hn := hL.n
 refine new_intro (wd := 1) (Q := mkQ LMk) (by decide) tysOk (q_of LMk_ok) mixed Try.func56 rfl _ (by show 2 <= _; decide) (fun i _ j hj => rowN_nf _ hj) ?_
 repeat' (first | (apply And.intro <;> intro hc <;> (first | exact Bool.noConfusion hc | (exfalso; first | exact absurd rfl hc | omega) | (simp only [zb0, ne_eq, not_true_eq_false] at hc <;> first | exact absurd rfl hc | (exfalso; first | exact absurd rfl hc | omega) | skip) | skip)) | (refine And.intro zp1 ?_) | (apply And.intro) | (intro s hs; skip) | (refine Exists.intro _ (And.intro ⟨rfl, rfl, rfl⟩ ?_)))
 conv => whnf
 have hfn : ∀ c : Wc, c.fin = false -> LeF c (cWant.enc W) (cWant.enc W) := fun c hc => by
  cases W with
  | none => exact leF_c (leC_fnN fun k hk => absurd hk (Nat.not_lt_zero k))
  | some l => exact leF_c (leC_fnN fun k hk => leC_rp1 hc)
 refine loop_intro (mono_of LMk_ok) (fun s : {i : Nat // i <= L.length} => (⟨[(1, cWant.enc W), (5, one (.os 50 0 ((L.take s.1).filter (wantB W)).length)), (8, one (slBN neH L)), (9, one (.int .i64 (L.length : Int))), (10, one (.int .i64 (s.1 : Int)))], [(50, some (entN neH 85 ((L.take s.1).filter (wantB W))))], 51⟩ : Hd)) (fun s => L.length - s.1) (fun _ => rfl) ?_ ⟨0, Nat.zero_le _⟩ [(50, none)] ⟨rfl, ⟨hfn _ rfl, leF_c (leC_nils_os rfl), leF_c (leC_cl (cl_slBN L)), leF_int rfl, leF_int rfl, trivial⟩, ⟨rfl, rfl, rfl, Nat.le_of_ble_eq_true rfl⟩, trivial⟩
 rintro ⟨i, hi⟩
 dsimp only at hi ⊢
 obtain ⟨A, eA'⟩ : ∃ A, (L.take i).filter (wantB W) = A := ⟨_, rfl⟩
 have hAl : A.length <= i := by rw [<- eA']; exact Nat.le_trans (List.length_filter_le _ _) (by rw [List.length_take]; omega)
 unfold slBN
 by_cases hil : i < L.length
 . have w3 : IntKind.i64.wrap ((i : Int) + 1) = ((i + 1 : Nat) : Int) := (IntWalk.i64_in _ (by omega)).trans (by omega)
   have hd := hL.d _ (getD_mem hil)
   have hd2 : (L.getD ((i : Int).toNat) default).data.length <= 1000 := hd
   have hst : (L.take (i + 1)).filter (wantB W) = if wantB W (L.getD i default) = true then A ++ [L.getD i default] else A := by
    rw [take_snoc hil, List.filter_append, eA']
    simp only [List.filter_cons, List.filter_nil]
    split <;> simp
   rw [eA']
   clear eA'
   rcases W with _ | l
   . have hst' : (L.take (i + 1)).filter (wantB none) = A ++ [L.getD i default] := by rw [hst]; exact if_pos rfl
     clear hst
     repeat' (first | (apply And.intro <;> intro hc <;> (first | exact Bool.noConfusion hc | (exfalso; first | exact absurd rfl hc | omega) | (simp only [zb0, ne_eq, not_true_eq_false] at hc <;> first | exact absurd rfl hc | (exfalso; first | exact absurd rfl hc | omega) | skip) | skip)) | (refine And.intro zp1 ?_) | (apply And.intro) | (intro s hs; (have q : s = true := hs; clear hs; subst q)) | (refine Exists.intro _ (And.intro ⟨rfl, rfl, rfl⟩ ?_)))
     . exact ⟨rfl, okD_sl _⟩
     . refine ⟨⟨i + 1, by omega⟩, [(50, some 67)], by dsimp only; omega, rfl, ⟨hfn _ rfl, leF_c (leC_os rfl (by rw [hst', List.length_append]; rfl)), leF_c (leC_cl (cl_slBN L)), leF_int rfl, leF_int w3, trivial⟩, ⟨rfl, ?_⟩, trivial⟩
       rw [hst']
       refine leN_snocN (x := L.getD i default) rfl (fun i hi j hj => selC_in (Nat.ble_eq_true_of_le hi) (neH.sh _ j hj).le) fun j hj => selC_out (blt_self _) ?_
       rw [Nat.sub_self]
       have hj : j < 11 := hj
       iterate 11 (rcases j with _ | j; · first | exact leC_int rfl | exact leC_bool rfl | exact leC_os_sl rfl rfl rfl (by first | rfl | exact Nat.zero_add _) (by first | exact Nat.le_refl _ | (simp; done)) fun q hq j hj => leC_cell (E := eB) (congrArg (fun z => (L.getD i default).data.getD z default) (Nat.zero_add q)))
       exact absurd hj (by omega)
   . repeat' (first | (apply And.intro <;> intro hc <;> (first | exact Bool.noConfusion hc | (exfalso; first | exact absurd rfl hc | omega) | (simp only [zb0, ne_eq, not_true_eq_false] at hc <;> first | exact absurd rfl hc | (exfalso; first | exact absurd rfl hc | omega) | skip) | skip)) | (refine And.intro zp1 ?_) | (apply And.intro) | (intro s hs; (have q : s = decide (l <= (L.getD ((i : Int).toNat) default).num) := hs; clear hs)) | (refine Exists.intro _ (And.intro ⟨rfl, rfl, rfl⟩ ?_)))
     . exact ⟨rfl, okD_sl _⟩
     . have hst' : (L.take (i + 1)).filter (wantB (some l)) = A ++ [L.getD i default] := by rw [hst]; exact if_pos (q.symm.trans (by assumption))
       clear hst
       refine ⟨⟨i + 1, by omega⟩, [(50, some 67)], by dsimp only; omega, rfl, ⟨hfn _ rfl, leF_c (leC_os rfl (by rw [hst', List.length_append]; rfl)), leF_c (leC_cl (cl_slBN L)), leF_int rfl, leF_int w3, trivial⟩, ⟨rfl, ?_⟩, trivial⟩
       rw [hst']
       refine leN_snocN (x := L.getD i default) rfl (fun i hi j hj => selC_in (Nat.ble_eq_true_of_le hi) (neH.sh _ j hj).le) fun j hj => selC_out (blt_self _) ?_
       rw [Nat.sub_self]
       have hj : j < 11 := hj
       iterate 11 (rcases j with _ | j; · first | exact leC_int rfl | exact leC_bool rfl | exact leC_os_sl rfl rfl rfl (by first | rfl | exact Nat.zero_add _) (by first | exact Nat.le_refl _ | (simp; done)) fun q hq j hj => leC_cell (E := eB) (congrArg (fun z => (L.getD i default).data.getD z default) (Nat.zero_add q)))
       exact absurd hj (by omega)
     . have hst' : (L.take (i + 1)).filter (wantB (some l)) = A := by rw [hst]; exact if_neg (fun h => Bool.noConfusion (h.symm.trans (q.symm.trans (by assumption))))
       refine ⟨⟨i + 1, by omega⟩, [], by dsimp only; omega, rfl, ⟨hfn _ rfl, leF_c (leC_os rfl (by rw [hst'])), leF_c (leC_cl (cl_slBN L)), leF_int rfl, leF_int w3, trivial⟩, ⟨rfl, ?_⟩, trivial⟩
       rw [hst']
       exact leN_entN
 . have hi2 : i = L.length := by omega
   subst hi2
   rw [List.take_length] at eA'
   rw [List.take_length, eA']
   repeat' (first | (apply And.intro <;> intro hc <;> (first | exact Bool.noConfusion hc | (exfalso; first | exact absurd rfl hc | omega) | (simp only [zb0, ne_eq, not_true_eq_false] at hc <;> first | exact absurd rfl hc | (exfalso; first | exact absurd rfl hc | omega) | skip) | skip)) | (refine And.intro zp1 ?_) | (apply And.intro) | (intro s hs; skip) | (refine Exists.intro _ (And.intro ⟨rfl, rfl, rfl⟩ ?_)))
   exact ⟨⟨some 50, leF_c (leC_os rfl rfl), leN_entN⟩⟩
abbrev keepE : Entry := newE (AC.cons (cNS neH neH_sz) (AC.cons cWant AC.nil)) (fun a => KpI a.1) (fun a => a.1.filter (wantB a.2.1)) (fun s => some s.length) (fun _ => none) (fun s => entN neH 85 s)
theorem keepE_ok : EntOk Try.prog 56 keepE := newE_ok ⟨_, Try.func56, rfl, by kernel_rfl⟩ (fun s l h => by cases h) fun a h => keep_ok a.1 a.2.1 h
structure Sem (P : Program) (nt np : Nat) (c : Code) (fr : Fr) (H : Hp) (nx : Nat) (K : Kt) : Prop where
 run : ∀ (cx : Cx) (fx : Ren), (∀ k b, cx.pin k = some b -> k < np) -> ∀ a w, Is cx nt np fx fr H nx a w -> c.wp P (lift cx nt np fx K) a w
section
variable {P : Program} {T : Tys} {Q : Qs} {wd nt np : Nat}
theorem sem_exec (hwd : 0 < wd) (hT : TysOk P T) (hQ : QsOk P Q) (hm : P.follows .mixedOrders = true) {c : Code} {fr : Fr} {H : Hp} {nx : Nat} {K : Kt} (h : exec T Q wd nt np c fr H nx K) : Sem P nt np c fr H nx K :=
 ⟨fun cx fx hpin => exec_ok hwd hT hQ hm hpin c fr H nx K h⟩
theorem sem_seq {a b : Code} {fr : Fr} {H : Hp} {nx : Nat} {K : Kt} (h : Sem P nt np a fr H nx (seqK (fun fr H nx => Sem P nt np b fr H nx K) K)) : Sem P nt np (.seq a b) fr H nx K := by
 refine ⟨fun cx fx hpin a' w hs => ?_⟩
 refine wp_seq (wp_mono (h.run cx fx hpin a' w hs) fun e a2 w2 hq => ?_)
 obtain ⟨fr', H', nx', hk, hs'⟩ := hq
 cases e <;> first | exact ⟨fr', H', nx', hk, hs'⟩ | exact hk.run cx fx hpin a2 w2 hs'
theorem sem_to {σ : Type} (S : σ -> Hd) (s : σ) (rho : List (Nat × Option Nat)) {c : Code} {fr : Fr} {H : Hp} {nx : Nat} {K : Kt} (hnp : Nat.ble np (S s).nx = true) (h0 : To S np fr H s rho) (h : Sem P nt np c (S s).fr (S s).H (S s).nx K) : Sem P nt np c fr H nx K := by
 refine ⟨fun cx fx hpin a w hs => ?_⟩
 obtain ⟨r, st, hf, hnm, hts, hdf, hnp', hfx⟩ := hs
 obtain ⟨g1, g2, g3, g4⟩ := weaken (c := ⟨H, (S s).H, rho, (S s).nx, false⟩) st hf hpin hnp h0.1 rfl h0.2.1 h0.2.2
 exact h.run cx fx hpin a w ⟨_, g1, g2, g3, hts, hdf, Nat.le_of_ble_eq_true hnp, fun k hk => (g4 k hk).trans (hfx k hk)⟩
theorem sem_cut (hwd : 0 < wd) (hT : TysOk P T) (hQ : QsOk P Q) (hM : QsMono Q) (hm : P.follows .mixedOrders = true) {a b : Code} {fr : Fr} {H : Hp} {nx : Nat} {K : Kt} {σ : Type} (S : σ -> Hd) (hnp : ∀ s, Nat.ble np (S s).nx = true)
 (h1 : exec T Q wd nt np a fr H nx (seqK (fun fr H _ => ∃ s rho, To S np fr H s rho) K)) (h2 : ∀ s, Sem P nt np b (S s).fr (S s).H (S s).nx K) : Sem P nt np (.seq a b) fr H nx K := by
 refine sem_seq (sem_exec hwd hT hQ hm (exec_mono hM a _ _ (seqK_mono (fun fr H nx h => ?_) (fun _ _ _ _ h => h)) _ _ _ h1))
 obtain ⟨s, rho, h⟩ := h
 exact sem_to S s rho (hnp s) h (h2 s)
theorem sem_step (hwd : 0 < wd) (hT : TysOk P T) (hQ : QsOk P Q) (hm : P.follows .mixedOrders = true) {a b : Code} {fr : Fr} {H : Hp} {nx : Nat} {K : Kt} (h : exec T Q wd nt np a fr H nx (seqK (fun fr H nx => Sem P nt np b fr H nx K) K)) : Sem P nt np (.seq a b) fr H nx K := sem_seq (sem_exec hwd hT hQ hm h)
theorem fn_runS {cx : Cx} {f : FuncId} (hT : TysOk P T) {fn : Func} {c : Code} (hf : P.funcs[f]? = some fn) (hb : fn.body = some c) {args : List FV} (hn : args.length <= fn.ntmps) {H0 : Hp} {post : FV -> Hp -> Nat -> Prop}
 (h : Sem P fn.ntmps np c (argFr args 0) H0 np (endH T fn.results.toList post)) (hpin : ∀ k b, cx.pin k = some b -> k < np) {r : Ren} {w : World} {vals : Array Value} (st : St cx r H0 w) (hrel : RelL r cx.X (wr r H0) w args vals) (hnm : ∀ k, np <= k -> r k = none /\ hget H0 k = none) :
 Calls P f vals w fun e w' => ∃ v r' x Hf nf, e = .returned v /\ post x Hf nf /\ St cx r' Hf w' /\ (∀ k, nf <= k -> r' k = none /\ hget Hf k = none) /\ x.rel r' cx.X (wr r' Hf) w' v /\ ∀ k, k < np -> r' k = r k := by
 refine calls_of_wp hf hb ?_
 have hsz : vals.size = args.length := hrel.1
 have fr0 : FrOk cx r H0 w (argFr args 0) (vals ++ Array.replicate (fn.ntmps - vals.size) undef) := by
  intro t
  rw [argFr_get, if_pos (Nat.zero_le _), Nat.sub_zero]
  cases hx : args[t]? with
  | none => trivial
  | some x =>
    have hlt : t < vals.size := by rw [hsz]; exact (List.getElem?_eq_some_iff.1 hx).1
    have hv : vals[t]? = some vals[t] := Array.getElem?_eq_getElem hlt
    have e1 : (vals ++ Array.replicate (fn.ntmps - vals.size) undef).getD t undef = vals[t] := by
     rw [Array.getD_eq_getD_getElem?, Array.getElem?_append_left hlt, hv]; rfl
    rw [e1]
    exact hrel.2 t x _ hx hv
 refine wp_mono (h.run cx r hpin _ w ⟨_, st, fr0, hnm, by simp; omega, rfl, Nat.le_refl _, fun _ _ => rfl⟩) fun e a' w' hq => ?_
 obtain ⟨fr, H, nx, hk, r', st', hfr, hnm', _, hdf, _, hfx'⟩ := hq
 have main : ∀ l, resL T fr H fn.results.toList = some l -> post (asF l) H nx -> a'.defers = [] /\ ∃ v, (results fn a'.tmps).run P w' = .ok v w' /\ ∃ u r' x Hf nf, Ending.returned v = .returned u /\ post x Hf nf /\ St cx r' Hf w' /\ (∀ k, nf <= k -> r' k = none /\ hget Hf k = none) /\ x.rel r' cx.X (wr r' Hf) w' u /\ ∀ k, k < np -> r' k = r k := by
  intro l hl hp
  obtain ⟨v, g1, g2⟩ := results_ok hT st' hfr hl
  exact ⟨hdf, v, g1, v, r', _, H, nx, rfl, hp, st', hnm', g2, hfx'⟩
 cases e with
 | ret =>
   simp only [endH] at hk
   split at hk
   . rename_i l hl; exact main l hl hk
   . exact hk.elim
 | normal =>
   simp only [endH] at hk
   split at hk
   . rename_i l hl; exact main l hl hk
   . exact hk.elim
 | exit => exact hk.elim
 | goto => exact hk.elim
 | panic => exact hk.elim
 | outgrown => exact hk.elim
theorem pure_introS (hT : TysOk P T) {f : FuncId} {fn : Func} {c : Code} (hf : P.funcs[f]? = some fn) (hb : fn.body = some c) (args : List FV) (hn : args.length <= fn.ntmps) (spec : FV)
 (h : Sem P fn.ntmps 0 c (argFr args 0) [] 0 (endH T fn.results.toList fun x H _ => Done H x spec)) : PureOk P f args spec := by
 intro X w vals hrel hX
 have hrel' : RelL (fun _ => none) X (wr (fun _ => none) []) w args vals := by rw [wr_nil]; exact hrel
 refine (fn_runS hT hf hb hn h (fun _ _ h => by cases h) (st_start hX) hrel' (fun _ _ => ⟨rfl, rfl⟩)).mono fun e w' he => ?_
 obtain ⟨v, r', x, Hf, nf, rfl, hfin, st, _, hx, _⟩ := he
 refine ⟨v, rfl, ⟨st.os, st.tape, st.output, st.size, fun b hb => st.kept b hb id⟩, ?_⟩
 have h1 := hfin.le (fun k e' h => by cases h) _ r' w' v st hx
 rw [ren_nil] at h1
 refine FV.rel_w (fun b hb => ?_) _ _ h1
 exact .inr ⟨rfl, hb⟩
end
def effL (nm : Nat) : List Ent -> Hp
 | [] => []
 | e :: t => (nm, some e) :: effL (nm + 1) t
theorem effL_get : ∀ (Es : List Ent) (nm k : Nat), hget (effL nm Es) k = if nm <= k then Es[k - nm]? else none := by
 intro Es
 induction Es with
 | nil => intro nm k; simp [effL, hget, look]
 | cons e Es ih =>
   intro nm k
   unfold effL
   by_cases hk : k = nm
   . subst hk
     rw [if_pos (Nat.le_refl _), Nat.sub_self]
     exact look_cons_eq _ _ _ _
   . have e1 : hget ((nm, some e) :: effL (nm + 1) Es) k = hget (effL (nm + 1) Es) k := look_cons_ne _ _ _ hk
     rw [e1, ih]
     by_cases hle : nm + 1 <= k
     . rw [if_pos hle, if_pos (by omega), show k - nm = (k - (nm + 1)) + 1 by omega, List.getElem?_cons_succ]
     . rw [if_neg hle, if_neg (by omega)]
theorem effL_key {Es : List Ent} {nm k : Nat} (h : hasKey (effL nm Es) k = true) : nm <= k /\ k < nm + Es.length := by
 induction Es generalizing nm with
 | nil => cases h
 | cons e Es ih =>
   unfold effL at h
   rw [hasKey_cons, Bool.or_eq_true] at h
   rw [List.length_cons]
   rcases h with h | h
   . have := Nat.eq_of_beq_eq_true h; omega
   . have := ih h; omega
theorem look_no_key {H : Hp} {k : Nat} (h : hasKey H k = false) : hget H k = none := by
 induction H with
 | nil => rfl
 | cons p H ih =>
   obtain ⟨a, b⟩ := p
   rw [hasKey_cons, Bool.or_eq_false_iff] at h
   have hne : k ≠ a := fun e => by subst e; simp at h
   exact (look_cons_ne _ _ _ hne).trans (ih h.2)
def rngB (X : Nat -> Prop) (r : Ren) (b : Nat) : Prop := X b \/ ∃ k y, r k = some y /\ y.b = b
structure NewsR (X : Nat -> Prop) (w w' : World) (v : Value) (x : FV) (Es : List Ent) (r : Ren) : Prop where
 bel : Below w.heap.size w w'
 dom : ∀ k y, r k = some y -> k < Es.length /\ w.heap.size <= y.b /\ y.b < w'.heap.size
 inj : ∀ k k' y y', r k = some y -> r k' = some y' -> y.b = y'.b -> k = k'
 ent : ∀ k e, Es[k]? = some e -> EntIn r X (rngB X r) w' e (r k) w'.heap
 val : x.rel r X (rngB X r) w' v
def NewsOk (P : Program) (f : FuncId) (args : List FV) (x : FV) (Es : List Ent) : Prop :=
 ∀ X w (vals : Array Value), RelL (fun _ => none) X (fun _ => False) w args vals -> Xw X w -> Calls P f vals w fun e w' => ∃ v r, e = .returned v /\ NewsR X w w' v x Es r
structure FinNs (y : FV) (Es : List Ent) (x : FV) (H : Hp) : Prop where
 ex : ∃ rho, rhoOk 0 ⟨H, effL 0 Es, rho, Es.length, true⟩ = true /\ LeF ⟨H, effL 0 Es, rho, Es.length, true⟩ x y /\ WkH ⟨H, effL 0 Es, rho, Es.length, true⟩ (effL 0 Es)
section
variable {P : Program} {T : Tys} {Q : Qs} {wd : Nat}
theorem news_intro (hwd : 0 < wd) (hT : TysOk P T) (hQ : QsOk P Q) (hm : P.follows .mixedOrders = true) {f : FuncId} {fn : Func} {c : Code} (hf : P.funcs[f]? = some fn) (hb : fn.body = some c) (args : List FV) (hn : args.length <= fn.ntmps) {y : FV} {Es : List Ent}
 (h : exec T Q wd fn.ntmps 0 c (argFr args 0) [] 0 (endH T fn.results.toList fun x H _ => FinNs y Es x H)) : NewsOk P f args y Es := by
 intro X w vals hrel hX
 have hrel' : RelL (fun _ => none) X (wr (fun _ => none) []) w args vals := by rw [wr_nil]; exact hrel
 refine (fn_run hwd hT hQ hm hf hb hn h (fun _ _ h => by cases h) (st_start hX) hrel' (fun _ _ => ⟨rfl, rfl⟩)).mono fun e w' he => ?_
 obtain ⟨v, r', x, Hf, nf, rfl, ⟨rho, hrho, hfin, hent⟩, st, _, hx, _⟩ := he
 obtain ⟨c, hc⟩ : ∃ c : Wc, c = ⟨Hf, effL 0 Es, rho, Es.length, true⟩ := ⟨_, rfl⟩
 rw [<- hc] at hrho hfin hent
 have cH : c.H = Hf := by rw [hc]
 have cH' : c.H' = effL 0 Es := by rw [hc]
 have cnx : c.nx = Es.length := by rw [hc]
 have cfin : c.fin = true := by rw [hc]
 rw [<- cH'] at hent
 have hlive := hent.live
 simp only [rhoOk, Bool.and_eq_true] at hrho
 have hkeys : ∀ k o, lookR c.rho k = some o -> k < c.nx := fun k o h => by
  obtain ⟨p, hp, rfl⟩ := lookR_mem h
  have := List.all_eq_true.1 hrho.1 p hp
  simp only [Bool.and_eq_true] at this
  exact Nat.le_of_ble_eq_true this.2
 have hren : ∀ k y, c.ren r' k = some y -> ∃ k0, c.src k = some k0 /\ r' k0 = some y := fun k y h => by
  unfold Wc.ren at h
  split at h
  . rename_i k0 hk0; exact ⟨k0, hk0, h⟩
  . cases h
 have hlt : ∀ k k0, c.src k = some k0 -> k < Es.length := fun k k0 h => by
  unfold Wc.src at h
  cases hl : lookR c.rho k with
  | some o => rw [<- cnx]; exact hkeys k o hl
  | none =>
    rw [hl] at h
    simp only at h
    cases hb : Nat.blt k c.nx with
    | true => rw [<- cnx]; exact Nat.le_of_ble_eq_true hb
    | false => rw [hb] at h; cases h
 have hget' : ∀ k, k < Es.length -> ∃ e, hget c.H' k = some e := fun k hk => by
  rw [cH', effL_get, if_pos (Nat.zero_le _), Nat.sub_zero]
  exact ⟨_, List.getElem?_eq_getElem hk⟩
 have st : St ⟨w, fun _ => False, fun _ => False, X, fun _ => none⟩ r' c.H w' := by rw [cH]; exact st
 have hw : ∀ b, rngB X (c.ren r') b -> c.wr ⟨w, fun _ => False, fun _ => False, X, fun _ => none⟩ r' b := fun b hb => by
  rcases hb with hb | ⟨k, y, hy, hyb⟩
  . exact .inr ⟨cfin, hb⟩
  . obtain ⟨k0, s1, _⟩ := hren k y hy
    obtain ⟨e, he⟩ := hget' k (hlt k k0 s1)
    exact .inl ⟨k, e, y, he, hy, hyb⟩
 refine ⟨v, c.ren r', rfl, ⟨⟨st.os, st.tape, st.output, st.size, fun b hb => st.kept b hb id⟩, fun k y hy => ?_, fun k k' y y' hy hy' hb => ?_, fun k e he => ?_, ?_⟩⟩
 . obtain ⟨k0, s1, hy⟩ := hren k y hy
   obtain ⟨d1, d2, _⟩ := st.dom k0 y hy
   exact ⟨hlt k k0 s1, d2.resolve_right id, d1⟩
 . obtain ⟨n0, s1, hx1⟩ := hren k y hy
   obtain ⟨m0, s2, hx2⟩ := hren k' y' hy'
   obtain ⟨e1, l1⟩ := hget' k (hlt k n0 s1)
   obtain ⟨e2, l2⟩ := hget' k' (hlt k' m0 s2)
   obtain ⟨f1, g1⟩ := hlive k e1 l1 n0 s1
   obtain ⟨f2, g2⟩ := hlive k' e2 l2 m0 s2
   have := st.inj n0 m0 f1 f2 y y' g1 g2 hx1 hx2 hb
   subst this
   exact srcs_inj hrho.2 k k' e1 e2 n0 l1 l2 s1 s2
 . have he' : hget c.H' k = some e := by rw [cH', effL_get, if_pos (Nat.zero_le _), Nat.sub_zero]; exact he
   obtain ⟨_, hwk⟩ := hent.at k e he'
   cases hs : c.src k with
   | none =>
     rw [hs] at hwk
     obtain ⟨g1, g2, g3⟩ := hwk
     exact ⟨g3, (fun h => by rw [g2] at h; cases h), .inl ⟨by unfold Wc.ren; rw [hs], g1⟩⟩
   | some k0 =>
     rw [hs] at hwk
     unfold WkE at hwk
     simp only at hwk
     split at hwk
     . rename_i e2 hh
       have hrk : c.ren r' k = r' k0 := by unfold Wc.ren; rw [hs]
       exact (st.blk k0 e2 hh).map hwk.t hwk.n hwk.sz hwk.v hrk.symm (fun _ _ => rfl) fun i hi j hj u hu => by
        have h1 := hwk.f i hi j hj hlive _ r' w' u st hu
        exact CV.rel_w hw _ _ h1
     . exact hwk.elim
 . have hx : x.rel r' X (wr r' c.H) w' v := by rw [cH]; exact hx
   have h1 := hfin hlive _ r' w' v st hx
   exact FV.rel_w hw _ _ h1
end
def Sft (m d : Nat) (x y : CV) : Prop := ∀ (r r2 : Ren) (X W X2 W2 : Nat -> Prop) (w : World) (v : Value), (∀ k, k < m -> r2 (d + k) = r k) -> (∀ b, X2 b -> X b \/ W b) -> (∀ b, W2 b -> X b \/ W b) -> x.rel r X W w v -> y.rel r2 X2 W2 w v
theorem sft_os {m d k i n : Nat} (h : k < m) : Sft m d (.os k i n) (.os (d + k) i n) := by
 rintro r r2 X W X2 W2 w v hr _ _ ⟨a, cap, rfl, h1, h2⟩
 refine ⟨a, cap, rfl, h1, fun h0 => ?_⟩
 obtain ⟨x, hx, h3⟩ := h2 h0
 exact ⟨x, ⟨by rw [hr k h]; exact hx.1, hx.2⟩, h3⟩
theorem sft_int {m d : Nat} {k : IntKind} {a : Int} : Sft m d (.int k a) (.int k a) := fun _ _ _ _ _ _ _ _ _ _ _ h => h
def SftF (m d : Nat) (x y : FV) : Prop := ∀ (r r2 : Ren) (X W X2 W2 : Nat -> Prop) (w : World) (v : Value), (∀ k, k < m -> r2 (d + k) = r k) -> (∀ b, X2 b -> X b \/ W b) -> (∀ b, W2 b -> X b \/ W b) -> x.rel r X W w v -> y.rel r2 X2 W2 w v
structure SftN (m d : Nat) (e e' : Ent) : Prop where
 t : e.t = e'.t
 n : e.n = e'.n
 sz : e.sz = e'.sz
 v : e.v = e'.v
 f : ∀ i, i < e.n -> ∀ j, j < e.sz -> Sft m d (e.f i j) (e'.f i j)
theorem callR_news {P : Program} {f : FuncId} (hb : hasBody P f) {args args' : List FV} {H : Hp} {rd : List Nat} {nm wd : Nat} {x y : FV} {Es Ds : List Ent} (hm : Es.length <= wd) (hl : Ds.length = Es.length) (hxy : SftF Es.length nm x y) (hE : ∀ (k : Nat) e e', Es[k]? = some e -> Ds[k]? = some e' -> SftN Es.length nm e e')
 (hbo : ∀ H', (∀ k ∈ rd, hget H k = hget H' k) -> BoL H' rd args args') (h : NewsOk P f args' x Es) : CallR P f args H nm wd ⟨none, y, effL nm Ds, rd⟩ := by
 refine ⟨hb, fun H' hh cx r w vals st hfr _ hrel => ?_⟩
 obtain ⟨h1, h2⟩ := hbo H' hh
 refine (h (fun b => cx.X b \/ wr r H' b) w vals ⟨hrel.1.trans h1, fun i y u hy hu => ?_⟩ (st_xw st)).mono fun e w' he => ?_
 . have hi : i < args.length := by rw [h1]; exact (List.getElem?_eq_some_iff.1 hy).1
   exact FV.rel_w (fun _ h => h.elim) _ _ (h2 i _ y (List.getElem?_eq_getElem hi) hy cx r w u st (hrel.2 i _ u (List.getElem?_eq_getElem hi) hu))
 . obtain ⟨v, r0, rfl, hR⟩ := he
   have hbel := hR.bel
   have inn : ∀ k, (nm <= k /\ k < nm + Es.length) -> r k = none /\ hget H' k = none := fun k hk => hfr k hk.1 (by omega)
   obtain ⟨r2, er2⟩ : ∃ r2 : Ren, r2 = fun k => if nm <= k /\ k < nm + Es.length then r0 (k - nm) else r k := ⟨_, rfl⟩
   have r2i : ∀ k, (nm <= k /\ k < nm + Es.length) -> r2 k = r0 (k - nm) := fun k hk => by rw [er2]; exact if_pos hk
   have r2o : ∀ k, ¬ (nm <= k /\ k < nm + Es.length) -> r2 k = r k := fun k hk => by rw [er2]; exact if_neg hk
   have hr2 : ∀ k x, r k = some x -> r2 k = some x := fun k x hx => by
    by_cases hk : nm <= k /\ k < nm + Es.length
    . rw [(inn k hk).1] at hx; cases hx
    . rw [r2o k hk]; exact hx
   have hgi : ∀ k, (nm <= k /\ k < nm + Es.length) -> hget (effL nm Ds ++ H') k = Ds[k - nm]? := fun k hk => by
    have e1 : hget (effL nm Ds ++ H') k = bif hasKey (effL nm Ds) k then hget (effL nm Ds) k else hget H' k := look_append _ _ _ _
    have e2 : hget (effL nm Ds) k = Ds[k - nm]? := by rw [effL_get, if_pos hk.1]
    cases hkey : hasKey (effL nm Ds) k with
    | true => rw [e1, hkey, cond_true, e2]
    | false =>
      exfalso
      have e3 : hget (effL nm Ds) k = none := look_no_key hkey
      rw [e2, List.getElem?_eq_getElem (by omega)] at e3
      cases e3
   have hgo : ∀ k, ¬ (nm <= k /\ k < nm + Es.length) -> hget (effL nm Ds ++ H') k = hget H' k := fun k hk => by
    have e1 : hget (effL nm Ds ++ H') k = bif hasKey (effL nm Ds) k then hget (effL nm Ds) k else hget H' k := look_append _ _ _ _
    cases hkey : hasKey (effL nm Ds) k with
    | false => rw [e1, hkey, cond_false]
    | true =>
      exfalso
      obtain ⟨a, b⟩ := effL_key hkey
      omega
   have hwr2 : ∀ b, wr r2 (effL nm Ds ++ H') b -> rngB (fun b => cx.X b \/ wr r H' b) r0 b := by
    rintro b ⟨k, e, x, he, hx, hxb⟩
    by_cases hk : nm <= k /\ k < nm + Es.length
    . rw [r2i k hk] at hx
      exact .inr ⟨_, x, hx, hxb⟩
    . rw [r2o k hk] at hx
      rw [hgo k hk] at he
      exact .inl (.inr ⟨k, e, x, he, hx, hxb⟩)
   have hsh : ∀ k, k < Es.length -> r2 (nm + k) = r0 k := fun k hk => by rw [r2i (nm + k) ⟨by omega, by omega⟩, Nat.add_sub_cancel_left]
   obtain ⟨g1, g2⟩ := st.below hbel
   have hdomo : ∀ k x, r0 k = some x -> x.b < w'.heap.size /\ cx.w0.heap.size <= x.b /\ ¬ cx.X x.b := fun k x hx => by
    obtain ⟨_, a1, a2⟩ := hR.dom k x hx
    refine ⟨a2, Nat.le_trans st.size a1, fun hX => ?_⟩
    have := Nat.lt_of_lt_of_le (st.xlt.lt _ hX) st.size
    omega
   have hE2 : Ext r (wr r H') w r2 (wr r2 (effL nm Ds ++ H')) w' := by
    refine ⟨hr2, hbel.size, fun b hb _ => hbel.block b hb, fun b hb hw => ?_⟩
    rcases hwr2 b hw with (hX | hw) | ⟨k, x, hx, hxb⟩
    . obtain ⟨k, e, x, he, hx, hxb⟩ := hw
      by_cases hk : nm <= k /\ k < nm + Es.length
      . rw [r2i k hk] at hx
        obtain ⟨_, a1, a2⟩ := hR.dom _ x hx
        omega
      . rw [r2o k hk] at hx
        rw [hgo k hk] at he
        exact ⟨k, e, x, he, hx, hxb⟩
    . exact hw
    . obtain ⟨_, a1, a2⟩ := hR.dom k x hx; omega
   refine ⟨v, rfl, r2, hE2, ⟨g2.os, g2.tape, g2.output, g2.size, g2.kept, g2.xlt, fun k x hx => ?_, fun k e x he hx => ?_, fun n m e1 e2 x y hn hm hx hy hxy => ?_, fun k b hk => hr2 k b (g2.pin k b hk), fun k e he => ?_⟩, fun k hk => r2o k (by omega), fun k e he => ?_, ?_⟩
   . by_cases hk : nm <= k /\ k < nm + Es.length
     . rw [r2i k hk] at hx
       obtain ⟨a1, a2, a3⟩ := hdomo _ x hx
       exact ⟨a1, .inl a2, a3⟩
     . rw [r2o k hk] at hx
       exact g2.dom k x hx
   . by_cases hk : nm <= k /\ k < nm + Es.length
     . rw [r2i k hk] at hx
       exact .inl (hdomo _ x hx).2.1
     . rw [r2o k hk] at hx
       have he' : hget (effL nm Ds ++ H') k = some e := he
       rw [hgo k hk] at he'
       exact g2.ow k e x he' hx
   . have lt : ∀ k x, ¬ (nm <= k /\ k < nm + Es.length) -> r2 k = some x -> x.b < w.heap.size := fun k x hk hx => by rw [r2o k hk] at hx; exact (st.dom k x hx).1
     have ge : ∀ k x, (nm <= k /\ k < nm + Es.length) -> r2 k = some x -> w.heap.size <= x.b := fun k x hk hx => by rw [r2i k hk] at hx; exact (hR.dom _ x hx).2.1
     by_cases h : nm <= n /\ n < nm + Es.length
     . by_cases h' : nm <= m /\ m < nm + Es.length
       . rw [r2i n h] at hx
         rw [r2i m h'] at hy
         have := hR.inj _ _ x y hx hy hxy
         omega
       . have := lt m y h' hy; have := ge n x h hx; omega
     . by_cases h' : nm <= m /\ m < nm + Es.length
       . have := lt n x h hx; have := ge m y h' hy; omega
       . have hn' : hget (effL nm Ds ++ H') n = some e1 := hn
         have hm' : hget (effL nm Ds ++ H') m = some e2 := hm
         rw [hgo n h] at hn'; rw [hgo m h'] at hm'
         rw [r2o n h] at hx; rw [r2o m h'] at hy
         exact st.inj n m e1 e2 x y hn' hm' hx hy hxy
   . have he' : hget (effL nm Ds ++ H') k = some e := he
     by_cases hk : nm <= k /\ k < nm + Es.length
     . rw [hgi k hk] at he'
       obtain ⟨e0, he0⟩ : ∃ e0, Es[k - nm]? = some e0 := ⟨_, List.getElem?_eq_getElem (by omega)⟩
       have hs := hE (k - nm) e0 e he0 he'
       rw [r2i k hk]
       exact (hR.ent (k - nm) e0 he0).map hs.t hs.n hs.sz hs.v rfl (fun _ _ => rfl) fun i hi j hj u hu => hs.f i hi j hj r0 r2 _ _ _ _ _ _ hsh (fun b hb => .inl (.inl hb)) (fun b hb => .inr (hwr2 b hb)) hu
     . rw [hgo k hk] at he'
       rw [r2o k hk]
       have hold := st.old he' rfl (w' := w') fun x hx => hbel.block _ (st.dom k x hx).1
       exact hold.ext hE2
   . have he' : hget (effL nm Ds ++ H') k = some e := he
     by_cases hk : nm <= k /\ k < nm + Es.length
     . exact .inl ⟨.inl (by omega), by omega⟩
     . rw [hgo k hk] at he'; exact .inr ⟨e, he'⟩
   . exact hxy r0 r2 _ _ _ _ _ _ hsh (fun b hb => .inl (.inl hb)) (fun b hb => .inr (hwr2 b hb)) hR.val
def newsE {α R : Type} (A : AC α) (p : α -> Prop) (F : α -> R) (m : Nat) (y : Nat -> R -> FV) (Ds : Nat -> R -> List Ent) : Entry := fun args H nm wd =>
 match A.dec H args with
 | some (a, q, rd) => bif Nat.ble m wd then some fun K => pAnd q (p a /\ ∀ s, s = F a -> K (y nm s) (effL nm (Ds nm s)) rd) else none
 | none => none
theorem newsE_ok {α R : Type} {A : AC α} {p : α -> Prop} {F : α -> R} {m : Nat} {y : Nat -> R -> FV} {Ds : Nat -> R -> List Ent} {P : Program} {f : FuncId} (hb : hasBody P f) (hl : ∀ nm s, (Ds nm s).length = m) (hxy : ∀ nm s, SftF m nm (y 0 s) (y nm s)) (hE : ∀ nm a, p a -> ∀ (k : Nat) e e', (Ds 0 (F a))[k]? = some e -> (Ds nm (F a))[k]? = some e' -> SftN m nm e e') (h : ∀ a, p a -> NewsOk P f (A.enc a) (y 0 (F a)) (Ds 0 (F a))) : EntOk P f (newsE A p F m y Ds) := by
 refine ⟨fun args H nm wd q hwd hq K hK => ?_, fun args H nm wd q hq K K' hKK hK => ?_⟩
 . unfold newsE at hq
   split at hq
   . rename_i a pr rd hd
     obtain ⟨hm, hq⟩ := cond_some hq
     subst hq
     obtain ⟨h1, h2, h3⟩ := pAnd_iff.1 hK
     refine ⟨_, _, _, callR_news hb (by rw [hl]; exact Nat.le_of_ble_eq_true hm) (by rw [hl, hl]) ?_ ?_ (fun H' hh => A.sound H H' args a pr rd hd h1 hh) (h a h2), h3 _ rfl⟩
     . rw [hl]; exact hxy nm _
     . rw [hl]; exact hE nm a h2
   . cases hq
 . unfold newsE at hq
   split at hq
   . obtain ⟨_, hq⟩ := cond_some hq
     subst hq
     obtain ⟨h1, h2, h3⟩ := pAnd_iff.1 hK
     exact pAnd_iff.2 ⟨h1, h2, fun s hs => hKK _ _ _ (h3 s hs)⟩
   . cases hq
theorem sftF_c {m d : Nat} {x y : CV} (h : Sft m d x y) : SftF m d (one x) (one y) := fun r r2 X W X2 W2 w v hr hX hW hx => h r r2 X W X2 W2 w v hr hX hW hx
theorem sft_sh {m d : Nat} {x : CV} (h : ShC x) : Sft m d x x := fun _ _ _ _ _ _ _ _ _ hX hW hx => h.bo hX hW hx
def rowG (d g : Nat) (L : List Sed) (i j : Nat) : CV := bif Nat.beq j 2 && Nat.beq i g then .os d 0 (L.getD i default).held.length else rowN neS L i j
theorem rowG_g {d g : Nat} {L : List Sed} : rowG d g L g 2 = .os d 0 (L.getD g default).held.length := by unfold rowG; simp
theorem rowG_i {d g : Nat} {L : List Sed} {i j : Nat} (h : i ≠ g \/ j ≠ 2) : rowG d g L i j = rowN neS L i j := by
 unfold rowG
 have : (Nat.beq j 2 && Nat.beq i g) = false := by
  rcases h with h | h
  . rw [beq_ne h, Bool.and_false]
  . rw [beq_ne h]; rfl
 rw [this]; rfl
theorem rowG_le {c : Wc} {d d' g : Nat} {L : List Sed} {i j : Nat} (hj : j < 3) (h : i = g -> c.src d' = some d) : LeC c (rowG d g L i j) (rowG d' g L i j) := by
 by_cases hi : i = g /\ j = 2
 . obtain ⟨rfl, rfl⟩ := hi
   rw [rowG_g, rowG_g]
   exact leC_os (h rfl) rfl
 . have h' : i ≠ g \/ j ≠ 2 := by omega
   rw [rowG_i h', rowG_i h']
   exact (neS.sh _ j hj).le
def entG (d g : Nat) (n : Nat) (L : List Sed) : Ent := ⟨78, n, 3, false, rowG d g L⟩
def hldG (g i : Nat) (L : List Sed) : List Hel := if g < i then (L.getD g default).held else []
theorem hldG_ne {g i : Nat} {L : List Sed} (h : i ≠ g) : hldG g (i + 1) L = hldG g i L := by
 unfold hldG
 by_cases h1 : g < i
 . rw [if_pos h1, if_pos (by omega)]
 . rw [if_neg h1, if_neg (by omega)]
theorem hldG_eq {g : Nat} {L : List Sed} : hldG g (g + 1) L = (L.getD g default).held := if_pos (Nat.lt_succ_self g)
structure ClI (L : List Sed) : Prop where
 n : L.length <= 1000
 k : ∀ x ∈ L, KpI x.held
def LMl : CsL := (56, some keepE) :: []
theorem LMl_ok : AllOk Try.prog LMl := ⟨keepE_ok, trivial⟩
theorem filter_all (L : List Hel) : L.filter (wantB none) = L := List.filter_eq_self.2 fun _ _ => rfl
theorem clone_ok (g : Nat) (L : List Sed) (hL : ClI L) : NewsOk Try.prog 34 [(cNS neS neS_sz).enc L] (one (.os 0 0 L.length)) [entG 1 g L.length L, entN neH 85 (L.getD g default).held] := by
 have hn := hL.n
 refine news_intro (wd := 1) (Q := mkQ LMl) (by decide) tysOk (q_of LMl_ok) mixed Try.func34 rfl _ (by show 1 <= _; decide) ?_
 have w0 : IntKind.i64.wrap ((L.length : Int) + 1) = ((L.length + 1 : Nat) : Int) := (IntWalk.i64_in _ (by omega)).trans (by omega)
 repeat' (first | (simp only [w0]) | (apply And.intro <;> intro hc <;> (first | exact Bool.noConfusion hc | (exfalso; first | exact absurd rfl hc | omega) | (simp only [zb0, ne_eq, not_true_eq_false] at hc <;> first | exact absurd rfl hc | (exfalso; first | exact absurd rfl hc | omega) | skip) | skip)) | (refine And.intro zp1 ?_) | (apply And.intro) | (intro s hs; skip) | (refine Exists.intro _ (And.intro ⟨rfl, rfl, rfl⟩ ?_)))
 conv => whnf
 refine loop_intro (mono_of LMl_ok) (fun s : {i : Nat // i <= L.length} => (⟨[(3, one (.os 50 0 s.1)), (10, one (slBN neS L)), (11, one (.int .i64 (L.length : Int))), (12, one (.int .i64 (s.1 : Int)))], [(50, some (entG 51 g s.1 L)), (51, some (entN neH 85 (hldG g s.1 L)))], 52⟩ : Hd)) (fun s => L.length - s.1) (fun _ => rfl) ?_ ⟨0, Nat.zero_le _⟩ [(50, some 4), (51, none)] ⟨rfl, ⟨leF_c (leC_os rfl rfl), leF_c (leC_cl (cl_slBN L)), leF_int rfl, leF_int rfl, trivial⟩, ⟨rfl, ⟨rfl, rfl, rfl, rfl, fun i hi => absurd hi (Nat.not_lt_zero i)⟩⟩, ⟨rfl, rfl, rfl, Nat.le_of_ble_eq_true rfl⟩, trivial⟩
 rintro ⟨i, hi⟩
 dsimp only at hi ⊢
 unfold slBN
 by_cases hil : i < L.length
 . have w3 : IntKind.i64.wrap ((i : Int) + 1) = ((i + 1 : Nat) : Int) := (IntWalk.i64_in _ (by omega)).trans (by omega)
   have hk := hL.k _ (getD_mem hil)
   obtain ⟨A, eA⟩ : ∃ A, hldG g i L = A := ⟨_, rfl⟩
   rw [eA]
   repeat' (first | (apply And.intro <;> intro hc <;> (first | exact Bool.noConfusion hc | (exfalso; first | exact absurd rfl hc | omega) | (simp only [zb0, ne_eq, not_true_eq_false] at hc <;> first | exact absurd rfl hc | (exfalso; first | exact absurd rfl hc | omega) | skip) | skip)) | (refine And.intro zp1 ?_) | (apply And.intro) | (intro s hs; (have q : s = (L.getD ((i : Int).toNat) default).held := hs.trans (by show (toN neH _ _).filter (wantB none) = _; rw [filter_all]; exact toN_row neH_rd _); clear hs; subst q)) | (refine Exists.intro _ (And.intro ⟨rfl, rfl, rfl⟩ ?_)))
   . exact fun _ _ => ⟨rfl, okD_sl _⟩
   . exact Eq.mpr (congrArg KpI (toN_row neH_rd _)) hk
   . by_cases hg : i = g
     . subst hg
       refine ⟨⟨i + 1, hil⟩, [(50, some 65), (51, some 59)], by dsimp only; omega, rfl, ⟨leF_c (leC_os rfl rfl), leF_c (leC_cl (cl_slBN L)), leF_int rfl, leF_int w3, trivial⟩, ?_⟩
       refine ⟨⟨rfl, ⟨rfl, rfl, rfl, rfl, fun p hp j hj => ?_⟩⟩, ⟨rfl, ?_⟩, trivial⟩
       . have hp' : p < i + 1 := hp
         have hj' : j < 3 := hj
         show LeC _ (selC (Nat.blt p i) (rowG 51 i L p j) _) (rowG 51 i L p j)
         by_cases hpi : p < i
         . exact selC_in (Nat.ble_eq_true_of_le hpi) (rowG_le hj' (fun h => by omega))
         . obtain rfl : p = i := by omega
           refine selC_out (blt_self _) ?_
           rw [Nat.sub_self]
           rcases j with _ | _ | _ | j
           . rw [rowG_i (.inr (by decide))]
             exact leC_int rfl
           . rw [rowG_i (.inr (by decide))]
             exact leC_int rfl
           . rw [rowG_g]
             exact leC_os rfl rfl
           . omega
       . dsimp only
         rw [hldG_eq]
         exact leN_entN
     . have eh : hldG g (i + 1) L = A := by rw [<- eA]; exact hldG_ne hg
       refine ⟨⟨i + 1, hil⟩, [(50, some 65)], by dsimp only; omega, rfl, ⟨leF_c (leC_os rfl rfl), leF_c (leC_cl (cl_slBN L)), leF_int rfl, leF_int w3, trivial⟩, ?_⟩
       dsimp only
       rw [eh]
       refine ⟨⟨rfl, ⟨rfl, rfl, rfl, rfl, fun p hp j hj => ?_⟩⟩, ⟨rfl, leN_entN⟩, trivial⟩
       have hp' : p < i + 1 := hp
       have hj' : j < 3 := hj
       show LeC _ (selC (Nat.blt p i) (rowG 51 g L p j) _) (rowG 51 g L p j)
       by_cases hpi : p < i
       . exact selC_in (Nat.ble_eq_true_of_le hpi) (rowG_le hj' (fun _ => rfl))
       . obtain rfl : p = i := by omega
         refine selC_out (blt_self _) ?_
         rw [Nat.sub_self, rowG_i (.inl hg)]
         rcases j with _ | _ | _ | j
         . exact leC_int rfl
         . exact leC_int rfl
         . exact leC_os_sl rfl rfl rfl rfl (by rw [Nat.zero_add]; exact Nat.le_refl _) fun q hq j hj => by
            have e : 0 + q = q := Nat.zero_add q
            rw [e]
            exact (neH.sh _ j hj).le
         . omega
 . have hi2 : i = L.length := by omega
   subst hi2
   repeat' (first | (apply And.intro <;> intro hc <;> (first | exact Bool.noConfusion hc | (exfalso; first | exact absurd rfl hc | omega) | (simp only [zb0, ne_eq, not_true_eq_false] at hc <;> first | exact absurd rfl hc | (exfalso; first | exact absurd rfl hc | omega) | skip) | skip)) | (refine And.intro zp1 ?_) | (apply And.intro) | (intro s hs; skip) | (refine Exists.intro _ (And.intro ⟨rfl, rfl, rfl⟩ ?_)))
   conv => whnf
   refine ⟨⟨[(0, some 50), (1, some 51)], rfl, leF_c (leC_os rfl rfl), ⟨rfl, ⟨rfl, rfl, rfl, rfl, fun p hp j hj => rowG_le hj fun _ => rfl⟩⟩, ⟨rfl, ?_⟩, trivial⟩⟩
   have : hldG g L.length L = (L.getD g default).held := by
    unfold hldG
    by_cases h : g < L.length
    . rw [if_pos h]
    . rw [if_neg h, List.getD_eq_getElem?_getD, List.getElem?_eq_none (by omega)]; rfl
   rw [this]
   exact leN_entN
abbrev cloneE (g : Nat) : Entry := newsE (AC.cons (cNS neS neS_sz) AC.nil) (fun a => ClI a.1) (fun a => a.1) 2 (fun nm L => one (.os nm 0 L.length)) (fun nm L => [entG (nm + 1) g L.length L, entN neH 85 (L.getD g default).held])
theorem sft_rowG {nm g : Nat} {L : List Sed} {i j : Nat} (hj : j < 3) : Sft 2 nm (rowG (0 + 1) g L i j) (rowG (nm + 1) g L i j) := by
 by_cases hi : i = g /\ j = 2
 . obtain ⟨rfl, rfl⟩ := hi
   rw [rowG_g, rowG_g]
   exact sft_os (by decide)
 . have h' : i ≠ g \/ j ≠ 2 := by omega
   rw [rowG_i h', rowG_i h']
   exact sft_sh (neS.sh _ j hj)
theorem cloneE_ok (g : Nat) : EntOk Try.prog 34 (cloneE g) := newsE_ok ⟨_, Try.func34, rfl, by kernel_rfl⟩ (fun _ _ => rfl) (fun nm s => sftF_c (by have h : Sft 2 nm (.os 0 0 s.length) (.os (nm + 0) 0 s.length) := sft_os (by decide); exact h)) (fun nm a _ k e e' h h' => by
 rcases k with _ | _ | k
 . injection h with h; injection h' with h'
   subst h h'
   exact ⟨rfl, rfl, rfl, rfl, fun i hi j hj => sft_rowG hj⟩
 . injection h with h; injection h' with h'
   subst h h'
   exact ⟨rfl, rfl, rfl, rfl, fun i hi j hj => sft_sh (neH.sh _ j hj)⟩
 . cases h) fun a h => clone_ok g a.1 h
section
variable {P : Program} {T : Tys}
theorem new_introS (hT : TysOk P T) {f : FuncId} {fn : Func} {c : Code} (hf : P.funcs[f]? = some fn) (hb : fn.body = some c) (args : List FV) (hn : args.length <= fn.ntmps) {kd : Option Nat} {rest : Option (List EV)} {e' : Ent}
 (hnf : ∀ i, i < e'.n -> ∀ j, j < e'.sz -> NF (e'.f i j)) (h : Sem P fn.ntmps 0 c (argFr args 0) [] 0 (endH T fn.results.toList fun x H _ => FinN kd rest e' x H)) : NewOk P f args kd rest e' := by
 intro X w vals hrel hX
 have hrel' : RelL (fun _ => none) X (wr (fun _ => none) []) w args vals := by rw [wr_nil]; exact hrel
 refine (fn_runS hT hf hb hn h (fun _ _ h => by cases h) (st_start hX) hrel' (fun _ _ => ⟨rfl, rfl⟩)).mono fun e w' he => ?_
 obtain ⟨v, r', x, Hf, nf, rfl, ⟨rho, hfin, hent⟩, st, _, hx, _⟩ := he
 have hsrc : ∀ k, Wc.src ⟨Hf, [(0, some e')], [(0, rho)], 1, true⟩ k = if k = 0 then rho else none := fun k => by
  unfold Wc.src
  simp only [lookR]
  by_cases hk : k = 0
  . subst hk; simp
  . have h1 : Nat.beq k 0 = false := by
     cases hb : Nat.beq k 0 with
     | false => rfl
     | true => exact absurd (Nat.eq_of_beq_eq_true hb) hk
    have h2 : Nat.blt k 1 = false := by
     cases hb : Nat.blt k 1 with
     | false => rfl
     | true => have := Nat.le_of_ble_eq_true hb; omega
    simp [h1, h2, hk]
 have hren : Wc.ren ⟨Hf, [(0, some e')], [(0, rho)], 1, true⟩ r' = at0 (rho.bind r') := by
  funext k
  unfold Wc.ren at0
  rw [hsrc]
  by_cases hk : k = 0
  . rw [if_pos hk, if_pos hk]; cases rho <;> rfl
  . rw [if_neg hk, if_neg hk]
 have hlive : Wc.Live ⟨Hf, [(0, some e')], [(0, rho)], 1, true⟩ := fun k e1 he1 k0 hk0 => by
  rw [hsrc] at hk0
  split at hk0
  . subst hk0
    unfold WkE at hent
    simp only at hent
    split at hent
    . rename_i e2 hh; exact ⟨e2, hh⟩
    . exact hent.elim
  . cases hk0
 have hwr : ∀ b, orB X (rho.bind r') b -> Wc.wr ⟨Hf, [(0, some e')], [(0, rho)], 1, true⟩ ⟨w, fun _ => False, fun _ => False, X, fun _ => none⟩ r' b := fun b hb => by
  rcases hb with hb | ⟨y, hy, hyb⟩
  . exact .inr ⟨rfl, hb⟩
  . refine .inl ⟨0, e', y, look_cons_eq _ _ _ _, ?_, hyb⟩
    rw [hren]; show (if 0 = 0 then _ else _) = _; rw [if_pos rfl]; exact hy
 refine ⟨v, rho.bind r', rfl, ⟨st.os, st.tape, st.output, st.size, fun b hb => st.kept b hb id⟩, fun y hy => ?_, ?_, ?_⟩
 . cases rho with
   | none => cases hy
   | some j =>
     have hy' : r' j = some y := hy
     obtain ⟨d1, d2, _⟩ := st.dom j y hy'
     exact ⟨d2.resolve_right id, d1⟩
 . cases rho with
   | none =>
     obtain ⟨g1, g2, g3⟩ := hent
     exact ⟨g3, (fun h => by rw [g2] at h; cases h), .inl ⟨rfl, g1⟩⟩
   | some j =>
     unfold WkE at hent
     simp only at hent
     split at hent
     . rename_i e2 hh
       exact (st.blk j e2 hh).map hent.t hent.n hent.sz hent.v rfl (fun _ _ => rfl) fun i hi j' hj u hu => by
        have h1 := hent.f i hi j' hj hlive _ r' w' u st hu
        exact CV.rel_w hwr _ _ (hnf i (by rw [<- hent.n]; exact hi) j' (by rw [<- hent.sz]; exact hj) _ _ _ _ _ _ h1)
     . exact hent.elim
 . have h1 := hfin hlive _ r' w' v st hx
   rw [hren] at h1
   exact FV.rel_w hwr _ _ h1
end
def normK : Hp -> List Nat -> Hp -> (Hp -> Prop) -> Prop
 | [], _, acc, k => k acc
 | (t, v) :: l, seen, acc, k => bif memN seen t then normK l seen acc k else normK l (t :: seen) ((t, v) :: acc) k
def killH (H : Hp) : Hp := H.map fun p => (p.1, none)
theorem memN_iff {l : List Nat} {t : Nat} : memN l t = true ↔ t ∈ l := by
 constructor
 . intro h
   obtain ⟨x, hx, hb⟩ := List.any_eq_true.1 h
   rw [Nat.eq_of_beq_eq_true hb]; exact hx
 . exact memN_of
def normL : Hp -> List Nat -> Hp -> Hp
 | [], _, acc => acc
 | (t, v) :: l, seen, acc => bif memN seen t then normL l seen acc else normL l (t :: seen) ((t, v) :: acc)
theorem normK_L : ∀ (l : Hp) (seen : List Nat) (acc : Hp) (k : Hp -> Prop), normK l seen acc k = k (normL l seen acc) := by
 intro l
 induction l with
 | nil => intro seen acc k; rfl
 | cons p l ih =>
   intro seen acc k
   obtain ⟨t0, v⟩ := p
   unfold normK normL
   cases memN seen t0 with
   | true => exact ih _ _ _
   | false => exact ih _ _ _
theorem normL_eq : ∀ (l : Hp) (seen : List Nat) (acc : Hp), (∀ t, t ∈ seen ↔ hasKey acc t = true) ->
 (∀ t, hasKey (normL l seen acc) t = (hasKey acc t || hasKey l t)) /\ ∀ t, look none (normL l seen acc) t = look none (acc ++ l) t := by
 intro l
 induction l with
 | nil => intro seen acc _; exact ⟨fun t => by simp [hasKey, normL], fun t => by simp [normL]⟩
 | cons p l ih =>
   intro seen acc hs
   obtain ⟨t0, v⟩ := p
   cases hb : memN seen t0 with
   | true =>
     obtain ⟨h2, h3⟩ := ih seen acc hs
     have hk : hasKey acc t0 = true := (hs t0).1 (memN_iff.1 hb)
     have hL : normL ((t0, v) :: l) seen acc = normL l seen acc := by show (bif memN seen t0 then _ else _) = _; rw [hb]; rfl
     rw [hL]
     refine ⟨fun t => ?_, fun t => ?_⟩
     . rw [h2 t, hasKey_cons]
       by_cases ht : t0 = t
       . subst ht; rw [hk]; simp
       . have : Nat.beq t0 t = false := by
          cases h : Nat.beq t0 t with
          | false => rfl
          | true => exact absurd (Nat.eq_of_beq_eq_true h) ht
         rw [this]; simp
     . rw [h3 t, look_append, look_append]
       cases hkt : hasKey acc t with
       | true => rfl
       | false =>
         have ht : t ≠ t0 := fun h => by subst h; rw [hk] at hkt; cases hkt
         rw [cond_false, cond_false]
         exact (look_cons_ne _ _ _ ht).symm
   | false =>
     have hk : hasKey acc t0 = false := by
      cases h : hasKey acc t0 with
      | false => rfl
      | true => have := memN_iff.2 ((hs t0).2 h); rw [hb] at this; cases this
     have hL : normL ((t0, v) :: l) seen acc = normL l (t0 :: seen) ((t0, v) :: acc) := by show (bif memN seen t0 then _ else _) = _; rw [hb]; rfl
     rw [hL]
     obtain ⟨h2, h3⟩ := ih (t0 :: seen) ((t0, v) :: acc) (fun t => by
      rw [hasKey_cons, List.mem_cons, hs t, Bool.or_eq_true]
      constructor
      . rintro (rfl | h)
        . exact .inl (by simp)
        . exact .inr h
      . rintro (h | h)
        . exact .inl (Nat.eq_of_beq_eq_true h).symm
        . exact .inr h)
     refine ⟨fun t => ?_, fun t => ?_⟩
     . rw [h2 t, hasKey_cons, hasKey_cons]
       cases Nat.beq t0 t <;> cases hasKey acc t <;> rfl
     . rw [h3 t]
       show look none (((t0, v) :: acc) ++ l) t = look none (acc ++ (t0, v) :: l) t
       rw [look_append, look_append, hasKey_cons]
       by_cases ht : t = t0
       . subst ht
         rw [hk, show Nat.beq t t = true by simp, Bool.true_or, cond_true, cond_false, look_cons_eq, look_cons_eq]
       . have e1 : Nat.beq t0 t = false := by
          cases h : Nat.beq t0 t with
          | false => rfl
          | true => exact absurd (Nat.eq_of_beq_eq_true h).symm ht
         rw [e1, Bool.false_or, look_cons_ne _ _ _ ht, look_cons_ne _ _ _ ht]
def inEnd (H Hf : Hp) (nf top : Nat) (k : Hp -> Prop) : Prop := Nat.ble nf top = true /\ normK (Hf ++ killH H) [] [] k
theorem inEnd_eq {H Hf : Hp} {nf top : Nat} {k : Hp -> Prop} (h : inEnd H Hf nf top k) : nf <= top /\ ∃ L, k L /\ ∀ t, hget (L ++ H) t = hget Hf t := by
 refine ⟨Nat.le_of_ble_eq_true h.1, ?_⟩
 obtain ⟨h2, h3⟩ := normL_eq (Hf ++ killH H) [] [] (fun t => by simp [hasKey])
 refine ⟨normL (Hf ++ killH H) [] [], by have := h.2; rw [normK_L] at this; exact this, fun t => ?_⟩
 have hkill : ∀ (H : Hp) t, hasKey (killH H) t = hasKey H t := fun H t => by
  unfold hasKey killH
  rw [List.any_map]; rfl
 have hnone : ∀ (H : Hp) t, look none (killH H) t = none := by
  intro H
  induction H with
  | nil => intro t; rfl
  | cons p H ih =>
    intro t
    show (bif Nat.beq t p.1 then none else look none (killH H) t) = none
    cases Nat.beq t p.1 with
    | true => rfl
    | false => exact ih t
 show look none (normL (Hf ++ killH H) [] [] ++ H) t = look none Hf t
 rw [look_append, h2 t, h3 t]
 have e0 : hasKey ([] : Hp) t = false := rfl
 have e1 : hasKey (Hf ++ killH H) t = (hasKey Hf t || hasKey H t) := by
  unfold hasKey; rw [List.any_append]; exact congrArg (_ || ·) (hkill H t)
 rw [e0, e1, Bool.false_or, List.nil_append, look_append]
 cases h4 : hasKey Hf t with
 | true => rfl
 | false =>
   have look_no : ∀ (H : Hp), hasKey H t = false -> look none H t = none := by
    intro H
    induction H with
    | nil => intro _; rfl
    | cons p H ih =>
      obtain ⟨k, v⟩ := p
      intro h
      rw [hasKey_cons] at h
      simp only [Bool.or_eq_false_iff] at h
      have : Nat.beq t k = false := by rw [beq_comm']; exact h.1
      show (bif Nat.beq t k then v else look none H t) = none
      rw [this]; exact ih h.2
   rw [cond_false, Bool.false_or, hnone, look_no Hf h4]
   cases h5 : hasKey H t with
   | true => rfl
   | false => rw [cond_false, look_no H h5]
def inlE (T : Tys) (Q : Qs) (wi nt : Nat) (rv : List ResultVar) (c : Code) : Entry := fun args H nm wd => some fun K =>
 Nat.ble args.length nt = true /\ exec T Q wi nt nm c (argFr args 0) H nm (endH T rv fun x Hf nf => inEnd H Hf nf (nm + wd) fun e => K x e [ALLN])
theorem endH_mono {T : Tys} {rv : List ResultVar} {p p' : FV -> Hp -> Nat -> Prop} (h : ∀ x H n, p x H n -> p' x H n) : ∀ e fr H nx, endH T rv p e fr H nx -> endH T rv p' e fr H nx := by
 intro e fr H nx hp
 cases e with
 | ret =>
   simp only [endH] at hp ⊢
   split at hp
   . exact h _ _ _ hp
   . exact hp.elim
 | normal =>
   simp only [endH] at hp ⊢
   split at hp
   . exact h _ _ _ hp
   . exact hp.elim
 | exit => exact hp.elim
 | goto => exact hp.elim
 | panic => exact hp.elim
 | outgrown => exact hp.elim
theorem gl_in {cx : Cx} {r : Ren} {H : Hp} {w : World} (st : St cx r H w) : GlobOk (fun b => cx.X b \/ (∃ k x, r k = some x /\ x.b = b) \/ wr r H b) w := fun p hp => by
 obtain ⟨h1, h2, h3⟩ := (st_xw st).2 p hp
 refine ⟨h1, ?_, h3⟩
 rintro (h | ⟨k, x, hk, hb⟩ | h)
 . exact h2 (.inl h)
 . obtain ⟨g1, g2, _⟩ := st.xlt.gl p hp
   rcases (st.dom k x hk).2.1 with hd | hd
   . omega
   . exact g2 (.inr (.inl (by rw [<- hb]; exact hd)))
 . exact h2 (.inr h)
theorem inlE_ok {P : Program} {T : Tys} {Q : Qs} {wi : Nat} (hwi : 0 < wi) (hT : TysOk P T) (hQ : QsOk P Q) (hM : QsMono Q) (hm : P.follows .mixedOrders = true) {f : FuncId} {fn : Func} {c : Code} (hf : P.funcs[f]? = some fn) (hb : fn.body = some c) (hnm : (fn.name == "runtime.NumGoroutine") = false) : EntOk P f (inlE T Q wi fn.ntmps fn.results.toList c) := by
 refine ⟨fun args H nm wd q hwd hq K hK => ?_, fun args H nm wd q hq K K' hKK hK => ?_⟩
 . injection hq with hq
   subst hq
   obtain ⟨hn, hK⟩ := hK
   have hn := Nat.le_of_ble_eq_true hn
   obtain ⟨⟨x, Hf, nf⟩, hend, hex⟩ := exec_some (α := FV × Hp × Nat) (post := fun a x H n => x = a.1 /\ H = a.2.1 /\ n = a.2.2) (S := fun a => inEnd H a.2.1 a.2.2 (nm + wd) fun e => K a.1 e [ALLN]) hwi hQ
    (exec_mono hM c _ _ (endH_mono fun x Hf nf h => ⟨(x, Hf, nf), h, rfl, rfl, rfl⟩) _ _ _ hK)
   obtain ⟨hle, L, hKL, hL⟩ := inEnd_eq hend
   refine ⟨x, L, [ALLN], ⟨⟨fn, hf, by rw [hb]; rfl, hnm⟩, fun H' hh cx r w vals st hfr hw hrel => ?_⟩, hKL⟩
   obtain ⟨w1, w2⟩ := hw (List.mem_singleton.2 rfl)
   have w1' : ∀ k, hget H' k = hget H k := fun k => (w1 k).symm
   have st := st.congr w1'
   rw [wr_congr (r := r) w1'] at hrel
   have w3 : ∀ k, nm <= k -> r k = none /\ hget H k = none := fun k hk => ⟨(w2 k hk).1, by rw [w1]; exact (w2 k hk).2⟩
   have hG := gl_in st
   refine (fn_run (np := nm) (cx := ⟨w, fun b => ∃ k x, r k = some x /\ x.b = b, wr r H, cx.X, fun k => if k < nm then r k else none⟩) hwi hT (QR_ok P) hm hf hb hn hex (fun k b hk => ?_)
    ⟨rfl, rfl, rfl, Nat.le_refl _, fun _ _ _ => rfl, ⟨fun b hb => Nat.lt_of_lt_of_le (st.xlt.lt b hb) st.size, hG⟩, fun k x hk => ⟨(st.dom k x hk).1, .inr ⟨k, x, hk, rfl⟩, (st.dom k x hk).2.2⟩, fun k e x he hx => .inr ⟨k, e, x, he, hx, rfl⟩, st.inj, fun k b hk => ?_, st.blk⟩ hrel w3).mono fun e w' he => ?_
   . by_cases h : k < nm
     . exact h
     . have hk' : (if k < nm then r k else none) = some b := hk
       rw [if_neg h] at hk'; cases hk'
   . by_cases h : k < nm
     . have hk' : (if k < nm then r k else none) = some b := hk
       rw [if_pos h] at hk'; exact hk'
     . have hk' : (if k < nm then r k else none) = some b := hk
       rw [if_neg h] at hk'; cases hk'
   . obtain ⟨v, r', x', Hf', nf', rfl, ⟨e1, e2, e3⟩, st', hn', hx, hlow⟩ := he
     dsimp only at e1 e2 e3
     rw [e2] at st' hx
     rw [e1] at hx
     rw [e2, e3] at hn'
     clear e1 e2 e3
     have hG : ∀ t, hget (L ++ H') t = hget Hf t := fun t => by
      rw [<- hL t]
      show look none (L ++ H') t = look none (L ++ H) t
      rw [look_append, look_append]
      cases hasKey L t with
      | true => rfl
      | false => exact w1' t
     have hle2 : ∀ k, nm + wd <= k -> r' k = none /\ hget Hf k = none := fun k hk => hn' k (Nat.le_trans hle hk)
     have stF : St cx r' Hf w' := by
      refine ⟨st'.os.trans st.os, st'.tape.trans st.tape, st'.output.trans st.output, Nat.le_trans st.size st'.size, fun b hb hE => ?_, st.xlt, fun k y hk => ?_, fun k e y he hy => ?_, st'.inj, fun k b hk => ?_, st'.blk⟩
      . rw [<- st.kept b hb hE]
        refine st'.kept b (Nat.lt_of_lt_of_le hb st.size) ?_
        rintro ⟨k, e, y, he, hy, rfl⟩
        rcases st.ow k e y he hy with h | h
        . omega
        . exact hE h
      . obtain ⟨d1, d2, d3⟩ := st'.dom k y hk
        refine ⟨d1, ?_, d3⟩
        rcases d2 with d2 | ⟨k0, x0, d4, d5⟩
        . exact .inl (Nat.le_trans st.size d2)
        . rw [<- d5]; exact (st.dom k0 x0 d4).2.1
      . rcases st'.ow k e y he hy with h | ⟨k0, e0, x0, h1, h2, h3⟩
        . exact .inl (Nat.le_trans st.size h)
        . rw [<- h3]; exact st.ow k0 e0 x0 h1 h2
      . have hr := st.pin k b hk
        have : k < nm := by
         rcases Nat.lt_or_ge k nm with h | h
         . exact h
         . rw [(w3 k h).1] at hr; cases hr
        rw [hlow k this]; exact hr
     have hwr : wr r' (L ++ H') = wr r' Hf := wr_congr hG
     have hwr0 : wr r H' = wr r H := wr_congr w1'
     refine ⟨v, rfl, r', ⟨fun k b hk => ?_, st'.size, fun b hb hW => st'.kept b hb (by rw [<- hwr0]; exact hW), fun b hb hW => ?_⟩, stF.congr fun t => (hG t).symm, fun k hk => ?_, fun k e hk => ?_, by rw [hwr]; exact hx⟩
     . have : k < nm := by
        rcases Nat.lt_or_ge k nm with h | h
        . exact h
        . rw [(w3 k h).1] at hk; cases hk
       rw [hlow k this]; exact hk
     . rw [hwr] at hW
       rw [hwr0]
       obtain ⟨k, e, y, he, hy, rfl⟩ := hW
       rcases st'.ow k e y he hy with h | h
       . have : w.heap.size <= y.b := h
         omega
       . exact h
     . rcases hk with hk | hk
       . exact hlow k hk
       . rw [(hle2 k hk).1, (w3 k (by omega)).1]
     . refine .inl ⟨.inr (List.mem_singleton.2 rfl), ?_⟩
       rcases Nat.lt_or_ge k (nm + wd) with h | h
       . exact h
       . have hk' : hget (L ++ H') k = some e := hk
         rw [hG k, (hle2 k h).2] at hk'; cases hk'
 . injection hq with hq
   subst hq
   refine ⟨hK.1, exec_mono hM c _ _ (endH_mono fun x Hf nf h => ⟨h.1, ?_⟩) _ _ _ hK.2⟩
   have h2 := h.2
   rw [normK_L] at h2 ⊢
   exact hKK _ _ _ h2
def insA {α : Type} (k : Nat) (x : α) (L : List α) : List α := L.take k ++ x :: L.drop k
def raiseS (s : Sed) (l : Int) : Sed := if l <= s.mn then s else ⟨s.id, l, s.held.filter (wantB (some l))⟩
def hearS (s : Sed) (i : Nat) : Sed := { s with held := s.held.set i { s.held.getD i default with tm := hearT (s.held.getD i default).tm } }
def newH (c : Cas) (now draw : Int) : Hel := ⟨c.num, c.data, (newT 2 3 2 now draw).1, if 1099511627776 < now + 20 then 1099511627776 else now + 20⟩
def addSd (s : Sed) (h : Hel) (i : Nat) : Sed := { s with held := insA i h s.held }
def accS (s : Sed) (now : Int) (c : Cas) (deaf : Bool) (draw : Int) : Sed × Bool :=
 if c.num < s.mn then (s, false) else
 if (plcH c.num s.held 0).2 = true then (hearS s (plcH c.num s.held 0).1, false) else
 if deaf = true then (raiseS (raiseS s (c.num - 31)) (c.num + 1), false) else
 (addSd (raiseS s (c.num - 31)) (newH c now draw) (plcH c.num (raiseS s (c.num - 31)).held 0).1, true)
def accL (c : Cas) (L : List Sed) : List Sed := if (fndS c.id L 0).2 = true then L else insA (fndS c.id L 0).1 ⟨c.id, c.num, []⟩ L
def acceptF (L : List Sed) (now : Int) (c : Cas) (deaf : Bool) (draw : Int) : List Sed × Bool × Int :=
 if validL L = false \/ c.id = 0 \/ 64 < c.data.length then ([], false, 1) else
 if isTimeT now = false \/ c.num < 0 \/ 1073741824 <= c.num then ([], false, 2) else
 if (fndS c.id L 0).2 = false /\ 8 <= L.length then ([], false, 10) else
 ((accL c L).set (fndS c.id L 0).1 (accS ((accL c L).getD (fndS c.id L 0).1 default) now c deaf draw).1, (accS ((accL c L).getD (fndS c.id L 0).1 default) now c deaf draw).2, 0)
theorem fnd_le {id : Int} : ∀ {L : List Sed} {k : Nat}, (fndS id L k).1 <= k + L.length /\ ((fndS id L k).2 = true -> (fndS id L k).1 < k + L.length) /\ k <= (fndS id L k).1 := by
 intro L
 induction L with
 | nil => intro k; exact ⟨Nat.le_refl _, (fun h => by cases h), Nat.le_refl _⟩
 | cons s t ih =>
   intro k
   unfold fndS
   by_cases h : id <= s.id
   . rw [if_pos h]
     exact ⟨by simp, fun _ => by simp, Nat.le_refl _⟩
   . rw [if_neg h]
     obtain ⟨h1, h2, h3⟩ := ih (k := k + 1)
     rw [List.length_cons]
     exact ⟨by omega, fun h => by have := h2 h; omega, by omega⟩
theorem plc_le {id : Int} : ∀ {L : List Hel} {k : Nat}, (plcH id L k).1 <= k + L.length /\ ((plcH id L k).2 = true -> (plcH id L k).1 < k + L.length) /\ k <= (plcH id L k).1 := by
 intro L
 induction L with
 | nil => intro k; exact ⟨Nat.le_refl _, (fun h => by cases h), Nat.le_refl _⟩
 | cons s t ih =>
   intro k
   unfold plcH
   by_cases h : id <= s.num
   . rw [if_pos h]
     exact ⟨by simp, fun _ => by simp, Nat.le_refl _⟩
   . rw [if_neg h]
     obtain ⟨h1, h2, h3⟩ := ih (k := k + 1)
     rw [List.length_cons]
     exact ⟨by omega, fun h => by have := h2 h; omega, by omega⟩
theorem insA_len {α : Type} {k : Nat} {x : α} {L : List α} (h : k <= L.length) : (insA k x L).length = L.length + 1 := by
 unfold insA
 rw [List.length_append, List.length_cons, List.length_take, List.length_drop]
 omega
theorem insA_lt {α : Type} [Inhabited α] {k : Nat} {x : α} {L : List α} {i : Nat} (hk : k <= L.length) (h : i < k) : (insA k x L).getD i default = L.getD i default := by
 unfold insA
 rw [List.getD_eq_getElem?_getD, List.getD_eq_getElem?_getD, List.getElem?_append_left (by rw [List.length_take]; omega), List.getElem?_take, if_pos h]
theorem insA_eq {α : Type} [Inhabited α] {k : Nat} {x : α} {L : List α} (hk : k <= L.length) : (insA k x L).getD k default = x := by
 unfold insA
 rw [List.getD_eq_getElem?_getD, List.getElem?_append_right (by rw [List.length_take]; omega), List.length_take, show k - min k L.length = 0 by omega]
 rfl
theorem insA_gt {α : Type} [Inhabited α] {k : Nat} {x : α} {L : List α} {i : Nat} (hk : k <= L.length) (h : k < i) : (insA k x L).getD i default = L.getD (i - 1) default := by
 unfold insA
 rw [List.getD_eq_getElem?_getD, List.getD_eq_getElem?_getD, List.getElem?_append_right (by rw [List.length_take]; omega), List.length_take, show i - min k L.length = (i - k - 1) + 1 by omega, List.getElem?_cons_succ, List.getElem?_drop]
 congr 2
 omega
theorem vh_mem {mn : Int} : ∀ {L : List Hel} {last : Int}, validHs mn last L = true -> ∀ h ∈ L, last < h.num /\ h.num < mn + 32 /\ h.num < 1073741824 /\ h.data.length <= 64 /\ validT h.tm = true /\ isTimeT h.til = true := by
 intro L
 induction L with
 | nil => intro last _ h hh; cases hh
 | cons a t ih =>
   intro last h x hx
   unfold validHs at h
   simp only [Bool.and_eq_true, decide_eq_true_eq] at h
   obtain ⟨⟨⟨⟨⟨⟨h1, h2⟩, h3⟩, h4⟩, h5⟩, h6⟩, h7⟩ := h
   rcases List.mem_cons.1 hx with rfl | hx
   . exact ⟨h1, h2, h3, h4, h5, h6⟩
   . obtain ⟨g1, g⟩ := ih h7 x hx
     exact ⟨by omega, g⟩
structure SdOk (s : Sed) : Prop where
 mn : 0 <= s.mn /\ s.mn <= 1073741824
 n : s.held.length <= 32
 h : validHs s.mn (s.mn - 1) s.held = true
theorem sd_ok {s : Sed} (h : validSd s = true) : SdOk s := by
 unfold validSd at h
 simp only [Bool.and_eq_true, decide_eq_true_eq] at h
 obtain ⟨⟨⟨h1, h2⟩, h3⟩, h4⟩ := h
 exact ⟨⟨h1, h2⟩, h3, h4⟩
theorem vs_mem : ∀ {L : List Sed} {last : Int}, validSs last L = true -> ∀ x ∈ L, last < x.id /\ SdOk x := by
 intro L
 induction L with
 | nil => intro last _ h hh; cases hh
 | cons a t ih =>
   intro last h x hx
   unfold validSs at h
   simp only [Bool.and_eq_true, decide_eq_true_eq] at h
   obtain ⟨⟨h1, h2⟩, h3⟩ := h
   rcases List.mem_cons.1 hx with rfl | hx
   . exact ⟨h1, sd_ok h2⟩
   . obtain ⟨g1, g⟩ := ih h3 x hx
     exact ⟨by omega, g⟩
theorem vl_len {L : List Sed} (h : validL L = true) : L.length <= 8 := by
 unfold validL at h
 simp only [Bool.and_eq_true, decide_eq_true_eq] at h
 exact h.1
theorem vl_mem {L : List Sed} (h : validL L = true) : ∀ x ∈ L, 0 < x.id /\ SdOk x := by
 unfold validL at h
 simp only [Bool.and_eq_true, decide_eq_true_eq] at h
 exact vs_mem h.2
theorem SdOk.k {s : Sed} (h : SdOk s) : KpI s.held := ⟨by have := h.n; omega, fun x hx => by have := (vh_mem h.h x hx).2.2.2.1; omega⟩
theorem vl_cl {L : List Sed} (h : validL L = true) : ClI L := ⟨by have := vl_len h; omega, fun x hx => (vl_mem h x hx).2.k⟩
theorem beq_refl_nat (n : Nat) : Nat.beq n n = true := Nat.beq_refl n
theorem ins_cells {c : Wc} {n a m : Nat} {r zf zz : Nat -> Nat -> CV} {e : Nat -> CV} {W : CV} {p j : Nat} (ha : a <= n) (hm : m = n - a) (hp : p < n + 1)
 (h1 : p < a -> LeC c (r p j) W) (h2 : p = a -> LeC c (e j) W) (h3 : a < p -> LeC c (r (p - 1) j) W) :
 LeC c (updE false (ovE (fun k j => selC (Nat.blt k n) (r k j) (zf k j)) (0 + (a + 1)) m (fun k j => selC (Nat.blt (0 + a + k) n) (r (0 + a + k) j) (zz k j))) (0 + a) e p j) W := by
 subst hm
 show LeC c (selC (Nat.beq p (0 + a)) (e j) (ovE _ _ _ _ p j)) W
 rw [Nat.zero_add]
 by_cases hpa : p = a
 . subst hpa
   exact selC_in (beq_refl_nat _) (h2 rfl)
 . refine selC_out (beq_ne hpa) ?_
   by_cases hlt : p < a
   . rw [ovE_out (by omega)]
     exact selC_in (Nat.ble_eq_true_of_le (by omega)) (h1 hlt)
   . rw [ovE_in (by omega)]
     have e1 : a + (p - (0 + (a + 1))) = p - 1 := by omega
     show LeC c (selC (Nat.blt (a + (p - (0 + (a + 1)))) n) (r (a + (p - (0 + (a + 1)))) j) _) W
     rw [e1]
     exact selC_in (Nat.ble_eq_true_of_le (by omega)) (h3 (by omega))
def dropC : Nat -> Code -> Code
 | 0, c => c
 | k + 1, .seq _ b => dropC k b
 | _ + 1, c => c
def LMr : CsL := (56, some keepE) :: []
theorem LMr_ok : AllOk Try.prog LMr := ⟨keepE_ok, trivial⟩
def raiseE : Entry := inlE T (mkQ LMr) 1 Try.f37.ntmps Try.f37.results.toList (Try.f37.body.getD Code.ret)
theorem raiseE_ok : EntOk Try.prog 37 raiseE := inlE_ok (by decide) tysOk (q_of LMr_ok) (mono_of LMr_ok) mixed Try.func37 rfl rfl
def LMa (g : Nat) : CsL := (31, some mvalidE) :: (32, some timeE) :: (33, some mfindE) :: (34, some (cloneE g)) :: (35, some mplaceE) :: (37, some raiseE) :: LTk
theorem LMa_ok (g : Nat) : AllOk Try.prog (LMa g) := ⟨pureE_ok ⟨_, Try.func31, rfl, by kernel_rfl⟩ fun a h => mvalid_ok a.1 h, pureE_ok ⟨_, Try.func32, rfl, by kernel_rfl⟩ fun a _ => mcTime_ok a.1, pureE_ok ⟨_, Try.func33, rfl, by kernel_rfl⟩ fun a h => mfind_ok a.1 a.2.1 h, cloneE_ok g, pureE_ok ⟨_, Try.func35, rfl, by kernel_rfl⟩ fun a h => mplace_ok a.1 a.2.1 h, raiseE_ok, LTk_ok⟩
end Go.Proofs.Ytfaibcgakcmhcaa.AX
namespace Go.Proofs.Ytfaibcgakcmhcaa.AX
theorem getD_cons1 {α : Type} {x d : α} {l : List α} {i : Nat} : (x :: l).getD (i + 1) d = l.getD i d := by simp [List.getD_eq_getElem?_getD]
theorem vs_cons {last : Int} {a : Sed} {t : List Sed} : validSs last (a :: t) = true ↔ last < a.id /\ validSd a = true /\ validSs a.id t = true := by
 show (decide (last < a.id) && validSd a && validSs a.id t) = true ↔ _
 simp only [Bool.and_eq_true, decide_eq_true_eq, and_assoc]
theorem fnd_mem : ∀ {L : List Sed} {last : Int} {k : Nat} {x : Sed}, validSs last L = true -> x ∈ L -> (fndS x.id L k).2 = true /\ L.getD ((fndS x.id L k).1 - k) default = x := by
 intro L
 induction L with
 | nil => intro _ _ _ _ h; cases h
 | cons a t ih =>
   intro last k x hv hx
   rw [vs_cons] at hv
   rcases List.mem_cons.1 hx with rfl | hx
   . unfold fndS
     rw [if_pos (Int.le_refl _), Nat.sub_self]
     exact ⟨decide_eq_true rfl, rfl⟩
   . have h1 := vs_mem hv.2.2 x hx
     unfold fndS
     rw [if_neg (by have := h1.1; omega)]
     obtain ⟨g1, g2⟩ := ih (k := k + 1) hv.2.2 hx
     refine ⟨g1, ?_⟩
     have := (fnd_le (id := x.id) (L := t) (k := k + 1)).2.2
     rw [show (fndS x.id t (k + 1)).1 - k = ((fndS x.id t (k + 1)).1 - (k + 1)) + 1 by omega, getD_cons1]
     exact g2
theorem fnd_true : ∀ {L : List Sed} {k : Nat} {id : Int}, (fndS id L k).2 = true -> (L.getD ((fndS id L k).1 - k) default).id = id /\ (fndS id L k).1 - k < L.length := by
 intro L
 induction L with
 | nil => intro _ _ h; cases h
 | cons a t ih =>
   intro k id h
   unfold fndS at h ⊢
   by_cases hc : id <= a.id
   . rw [if_pos hc] at h ⊢
     rw [Nat.sub_self]
     exact ⟨of_decide_eq_true h, by simp⟩
   . rw [if_neg hc] at h ⊢
     have := (fnd_le (id := id) (L := t) (k := k + 1)).2.2
     obtain ⟨g1, g2⟩ := ih h
     rw [show (fndS id t (k + 1)).1 - k = ((fndS id t (k + 1)).1 - (k + 1)) + 1 by omega, getD_cons1, List.length_cons]
     exact ⟨g1, by omega⟩
theorem vs_ins : ∀ {L : List Sed} {last : Int} {k : Nat} {x : Sed}, validSs last L = true -> last < x.id -> validSd x = true -> (fndS x.id L k).2 = false -> validSs last (insA ((fndS x.id L k).1 - k) x L) = true := by
 intro L
 induction L with
 | nil =>
   intro last k x _ hl hx _
   show validSs last (insA (k - k) x []) = true
   rw [Nat.sub_self]
   exact vs_cons.2 ⟨hl, hx, rfl⟩
 | cons a t ih =>
   intro last k x hv hl hx hf
   have hv' := vs_cons.1 hv
   unfold fndS at hf ⊢
   by_cases hc : x.id <= a.id
   . rw [if_pos hc] at hf ⊢
     have hne : ¬ a.id = x.id := of_decide_eq_false hf
     rw [Nat.sub_self]
     exact vs_cons.2 ⟨hl, hx, vs_cons.2 ⟨by omega, hv'.2⟩⟩
   . rw [if_neg hc] at hf ⊢
     have := (fnd_le (id := x.id) (L := t) (k := k + 1)).2.2
     rw [show (fndS x.id t (k + 1)).1 - k = ((fndS x.id t (k + 1)).1 - (k + 1)) + 1 by omega]
     exact vs_cons.2 ⟨hv'.1, hv'.2.1, ih hv'.2.2 (by omega) hx hf⟩
theorem vs_set : ∀ {L : List Sed} {last : Int} {i : Nat} {x : Sed}, validSs last L = true -> i < L.length -> x.id = (L.getD i default).id -> validSd x = true -> validSs last (L.set i x) = true := by
 intro L
 induction L with
 | nil => intro _ _ _ _ h; exact absurd h (Nat.not_lt_zero _)
 | cons a t ih =>
   intro last i x hv hi hid hx
   have hv' := vs_cons.1 hv
   cases i with
   | zero =>
     have hid : x.id = a.id := hid
     exact vs_cons.2 ⟨by omega, hx, by rw [hid]; exact hv'.2.2⟩
   | succ i =>
     rw [getD_cons1] at hid
     exact vs_cons.2 ⟨hv'.1, hv'.2.1, ih hv'.2.2 (by simpa using hi) hid hx⟩
structure HelOk (mn : Int) (h : Hel) : Prop where
 w : h.num < mn + 32
 b : h.num < 1073741824
 d : h.data.length <= 64
 t : validT h.tm = true
 u : isTimeT h.til = true
theorem vh_cons {mn last : Int} {a : Hel} {t : List Hel} : validHs mn last (a :: t) = true ↔ last < a.num /\ HelOk mn a /\ validHs mn a.num t = true := by
 show (decide (last < a.num) && decide (a.num < mn + 32) && decide (a.num < 1073741824) && decide (a.data.length <= 64) && validT a.tm && isTimeT a.til && validHs mn a.num t) = true ↔ _
 simp only [Bool.and_eq_true, decide_eq_true_eq]
 constructor
 . rintro ⟨⟨⟨⟨⟨⟨h1, h2⟩, h3⟩, h4⟩, h5⟩, h6⟩, h7⟩
   exact ⟨h1, ⟨h2, h3, h4, h5, h6⟩, h7⟩
 . rintro ⟨h1, ⟨h2, h3, h4, h5, h6⟩, h7⟩
   exact ⟨⟨⟨⟨⟨⟨h1, h2⟩, h3⟩, h4⟩, h5⟩, h6⟩, h7⟩
theorem plc_mem {mn : Int} : ∀ {L : List Hel} {last : Int} {k : Nat} {x : Hel}, validHs mn last L = true -> x ∈ L -> (plcH x.num L k).2 = true /\ L.getD ((plcH x.num L k).1 - k) default = x := by
 intro L
 induction L with
 | nil => intro _ _ _ _ h; cases h
 | cons a t ih =>
   intro last k x hv hx
   rw [vh_cons] at hv
   rcases List.mem_cons.1 hx with rfl | hx
   . unfold plcH
     rw [if_pos (Int.le_refl _), Nat.sub_self]
     exact ⟨decide_eq_true rfl, rfl⟩
   . have h1 := vh_mem hv.2.2 x hx
     unfold plcH
     rw [if_neg (by have := h1.1; omega)]
     obtain ⟨g1, g2⟩ := ih (k := k + 1) hv.2.2 hx
     refine ⟨g1, ?_⟩
     have := (plc_le (id := x.num) (L := t) (k := k + 1)).2.2
     rw [show (plcH x.num t (k + 1)).1 - k = ((plcH x.num t (k + 1)).1 - (k + 1)) + 1 by omega, getD_cons1]
     exact g2
theorem plc_true : ∀ {L : List Hel} {k : Nat} {id : Int}, (plcH id L k).2 = true -> (L.getD ((plcH id L k).1 - k) default).num = id /\ (plcH id L k).1 - k < L.length := by
 intro L
 induction L with
 | nil => intro _ _ h; cases h
 | cons a t ih =>
   intro k id h
   unfold plcH at h ⊢
   by_cases hc : id <= a.num
   . rw [if_pos hc] at h ⊢
     rw [Nat.sub_self]
     exact ⟨of_decide_eq_true h, by simp⟩
   . rw [if_neg hc] at h ⊢
     have := (plc_le (id := id) (L := t) (k := k + 1)).2.2
     obtain ⟨g1, g2⟩ := ih h
     rw [show (plcH id t (k + 1)).1 - k = ((plcH id t (k + 1)).1 - (k + 1)) + 1 by omega, getD_cons1, List.length_cons]
     exact ⟨g1, by omega⟩
theorem getD_in {α : Type} [Inhabited α] {L : List α} {i : Nat} (h : i < L.length) : L.getD i default ∈ L := by
 rw [List.getD_eq_getElem?_getD, List.getElem?_eq_getElem h]
 exact List.getElem_mem h
theorem plc_filter {mn last num : Int} {L : List Hel} {f : Hel -> Bool} (hv : validHs mn last L = true) (h : (plcH num L 0).2 = false) : (plcH num (L.filter f) 0).2 = false := by
 cases hc : (plcH num (L.filter f) 0).2 with
 | false => rfl
 | true =>
   obtain ⟨g1, g2⟩ := plc_true hc
   have hm := getD_in g2
   have := (plc_mem (k := 0) hv (List.mem_filter.1 hm).1).1
   rw [g1, h] at this
   cases this
theorem vh_ins {mn : Int} : ∀ {L : List Hel} {last : Int} {k : Nat} {x : Hel}, validHs mn last L = true -> last < x.num -> HelOk mn x -> (plcH x.num L k).2 = false -> validHs mn last (insA ((plcH x.num L k).1 - k) x L) = true := by
 intro L
 induction L with
 | nil =>
   intro last k x _ hl hx _
   show validHs mn last (insA (k - k) x []) = true
   rw [Nat.sub_self]
   exact vh_cons.2 ⟨hl, hx, rfl⟩
 | cons a t ih =>
   intro last k x hv hl hx hf
   have hv' := vh_cons.1 hv
   unfold plcH at hf ⊢
   by_cases hc : x.num <= a.num
   . rw [if_pos hc] at hf ⊢
     have hne : ¬ a.num = x.num := of_decide_eq_false hf
     rw [Nat.sub_self]
     exact vh_cons.2 ⟨hl, hx, vh_cons.2 ⟨by omega, hv'.2⟩⟩
   . rw [if_neg hc] at hf ⊢
     have := (plc_le (id := x.num) (L := t) (k := k + 1)).2.2
     rw [show (plcH x.num t (k + 1)).1 - k = ((plcH x.num t (k + 1)).1 - (k + 1)) + 1 by omega]
     exact vh_cons.2 ⟨hv'.1, hv'.2.1, ih hv'.2.2 (by omega) hx hf⟩
theorem vh_set {mn : Int} : ∀ {L : List Hel} {last : Int} {i : Nat} {x : Hel}, validHs mn last L = true -> i < L.length -> x.num = (L.getD i default).num -> HelOk mn x -> validHs mn last (L.set i x) = true := by
 intro L
 induction L with
 | nil => intro _ _ _ _ h; exact absurd h (Nat.not_lt_zero _)
 | cons a t ih =>
   intro last i x hv hi hid hx
   have hv' := vh_cons.1 hv
   cases i with
   | zero =>
     have hid : x.num = a.num := hid
     exact vh_cons.2 ⟨by omega, hx, by rw [hid]; exact hv'.2.2⟩
   | succ i =>
     rw [getD_cons1] at hid
     exact vh_cons.2 ⟨hv'.1, hv'.2.1, ih hv'.2.2 (by simpa using hi) hid hx⟩
theorem vh_filter {mn l : Int} (hl : mn <= l) : ∀ {L : List Hel} {last last' : Int}, validHs mn last L = true -> (last' <= last \/ last' < l) -> validHs l last' (L.filter (wantB (some l))) = true := by
 intro L
 induction L with
 | nil => intros; rfl
 | cons a t ih =>
   intro last last' hv hl'
   have hv' := vh_cons.1 hv
   rw [List.filter_cons]
   by_cases hw : wantB (some l) a = true
   . rw [if_pos hw]
     have hw' : l <= a.num := of_decide_eq_true hw
     exact vh_cons.2 ⟨by omega, ⟨by have := hv'.2.1.w; omega, hv'.2.1.b, hv'.2.1.d, hv'.2.1.t, hv'.2.1.u⟩, ih hv'.2.2 (.inl (Int.le_refl _))⟩
   . rw [if_neg hw]
     refine ih hv'.2.2 ?_
     have hw' : ¬ l <= a.num := fun h => hw (decide_eq_true h)
     omega
theorem sd_of {s : Sed} (h : SdOk s) : validSd s = true := by
 unfold validSd
 rw [decide_eq_true h.mn.1, decide_eq_true h.mn.2, decide_eq_true h.n, h.h]; rfl
theorem raise_ok {s : Sed} {l : Int} (h : SdOk s) (hl : l <= 1073741824) : SdOk (raiseS s l) := by
 unfold raiseS
 split
 . exact h
 . rename_i hc
   exact ⟨⟨by have := h.mn; show 0 <= l; omega, hl⟩, Nat.le_trans (List.length_filter_le _ _) h.n, (show validHs l (l - 1) (s.held.filter (wantB (some l))) = true from vh_filter (by omega) h.h (.inr (by omega)))⟩
theorem raise_mn {s : Sed} {l : Int} : l <= (raiseS s l).mn /\ s.mn <= (raiseS s l).mn := by
 unfold raiseS
 split
 . exact ⟨by assumption, Int.le_refl _⟩
 . exact ⟨Int.le_refl _, by dsimp only; omega⟩
theorem raise_id {s : Sed} {l : Int} : (raiseS s l).id = s.id := by
 unfold raiseS
 split <;> rfl
theorem hear_valid {t : Trk} (h : validT t = true) : validT (hearT t) = true := by
 have hn := validT_num h
 obtain ⟨p1, p2⟩ := validT_parts h
 unfold hearT
 rw [if_pos h]
 split
 . exact validT_mk p1 p2 (by show 0 <= t.heard + 1 /\ t.heard + 1 <= _; omega) hn.2.2.2.2.1 hn.2.2.2.2.2
 . exact h
theorem hels_ok {s : Sed} (h : SdOk s) {x : Hel} (hx : x ∈ s.held) : HelOk s.mn x := by
 obtain ⟨_, h1, h2, h3, h4, h5⟩ := vh_mem h.h x hx
 exact ⟨h1, h2, h3, h4, h5⟩
theorem hearS_ok {s : Sed} {i : Nat} (h : SdOk s) (hi : i < s.held.length) : SdOk (hearS s i) := by
 have hx := hels_ok h (getD_in hi)
 exact ⟨h.mn, by show (s.held.set _ _).length <= 32; rw [List.length_set]; exact h.n, vh_set h.h hi rfl ⟨hx.w, hx.b, hx.d, hear_valid hx.t, hx.u⟩⟩
theorem vh_len {mn : Int} : ∀ {L : List Hel} {last : Int}, validHs mn last L = true -> (L.length : Int) <= mn + 32 - last - 1 \/ L = [] := by
 intro L
 induction L with
 | nil => intro _ _; exact .inr rfl
 | cons a t ih =>
   intro last hv
   have hv' := vh_cons.1 hv
   have hw := hv'.2.1.w
   left
   rw [List.length_cons]
   rcases ih hv'.2.2 with h | h
   . omega
   . subst h
     show ((0 + 1 : Nat) : Int) <= _
     omega
theorem add_ok35 {s : Sed} {c : Cas} {now draw : Int} (h : SdOk s) (hn : 0 <= now /\ now <= 1099511627776) (hd : c.data.length <= 64) (h1 : s.mn <= c.num) (h2 : c.num < s.mn + 32) (h3 : c.num < 1073741824) (hf : (plcH c.num s.held 0).2 = false) : SdOk (addSd s (newH c now draw) (plcH c.num s.held 0).1) := by
 have hx : HelOk s.mn (newH c now draw) := ⟨h2, h3, hd, new_valid rfl hn, isTimeT_iff.2 (by unfold newH; dsimp only; split <;> omega)⟩
 have hv : validHs s.mn (s.mn - 1) (insA (plcH c.num s.held 0).1 (newH c now draw) s.held) = true := vh_ins (k := 0) (x := newH c now draw) h.h (by show s.mn - 1 < c.num; omega) hx hf
 refine ⟨h.mn, ?_, hv⟩
 show (insA _ _ s.held).length <= 32
 rcases vh_len hv with g | g
 . omega
 . rw [g]; exact Nat.zero_le _
structure AccV (s s' : Sed) : Prop where
 id : s'.id = s.id
 ok : SdOk s'
theorem acc_ok {s : Sed} {now : Int} {c : Cas} {deaf : Bool} {draw : Int} (h : SdOk s) (hn : 0 <= now /\ now <= 1099511627776) (hd : c.data.length <= 64) (h3 : c.num < 1073741824) : AccV s (accS s now c deaf draw).1 := by
 unfold accS
 split
 . exact ⟨rfl, h⟩
 . rename_i hm
   split
   . rename_i hp
     exact ⟨rfl, hearS_ok h (plc_true hp).2⟩
   . rename_i hp
     have hr := raise_ok (l := c.num - 31) h (by omega)
     split
     . exact ⟨by rw [raise_id, raise_id], raise_ok hr (by omega)⟩
     . refine ⟨raise_id, add_ok35 hr hn hd ?_ ?_ h3 ?_⟩
       . unfold raiseS; split
         . omega
         . dsimp only; omega
       . have := (raise_mn (s := s) (l := c.num - 31)).1; omega
       . unfold raiseS
         split
         . simpa using hp
         . exact plc_filter h.h (by simpa using hp)
theorem accL_ok {L : List Sed} {c : Cas} (hv : validL L = true) (hc0 : 0 < c.id) (hn : 0 <= c.num /\ c.num <= 1073741824) (hl : (fndS c.id L 0).2 = true \/ L.length < 8) : validL (accL c L) = true /\ (fndS c.id L 0).1 < (accL c L).length /\ ((accL c L).getD (fndS c.id L 0).1 default).id = c.id := by
 have hle := fnd_le (id := c.id) (L := L) (k := 0)
 unfold accL
 split
 . rename_i h
   exact ⟨hv, by have := hle.2.1 h; omega, (fnd_true h).1⟩
 . rename_i h
   have h8 : L.length < 8 := hl.resolve_left h
   unfold validL at hv ⊢
   simp only [Bool.and_eq_true, decide_eq_true_eq] at hv ⊢
   refine ⟨⟨by rw [insA_len (by omega)]; omega, ?_⟩, by rw [insA_len (by omega)]; omega, by rw [insA_eq (by omega)]⟩
   exact vs_ins (k := 0) (x := ⟨c.id, c.num, []⟩) hv.2 hc0 (sd_of ⟨hn, Nat.zero_le _, rfl⟩) (by simpa using h)
theorem acceptF_ok {L : List Sed} {now : Int} {c : Cas} {deaf : Bool} {draw : Int} (hid : 0 <= c.id) (h : (acceptF L now c deaf draw).2.2 = 0) : validL (acceptF L now c deaf draw).1 = true := by
 unfold acceptF at h ⊢
 split at h
 . cases h
 . rename_i h1
   rw [if_neg h1]
   split at h
   . cases h
   . rename_i h2
     rw [if_neg h2]
     split at h
     . cases h
     . rename_i h3
       rw [if_neg h3]
       have hv : validL L = true := by
        cases hh : validL L with
        | true => rfl
        | false => exact absurd (.inl hh) h1
       have ht : isTimeT now = true := by
        cases hh : isTimeT now with
        | true => rfl
        | false => exact absurd (.inl hh) h2
       have hl : (fndS c.id L 0).2 = true \/ L.length < 8 := by
        cases hh : (fndS c.id L 0).2 with
        | true => exact .inl rfl
        | false => exact .inr (by rcases Nat.lt_or_ge L.length 8 with g | g; exact g; exact absurd ⟨hh, g⟩ h3)
       obtain ⟨g1, g2, g3⟩ := accL_ok (c := c) hv (by omega) (by omega) hl
       have hs := vl_mem g1 _ (getD_in g2)
       obtain ⟨a1, a2⟩ := acc_ok (now := now) (c := c) (deaf := deaf) (draw := draw) hs.2 (isTimeT_iff.1 ht) (by omega) (by omega)
       unfold validL at g1 ⊢
       simp only [Bool.and_eq_true, decide_eq_true_eq] at g1 ⊢
       exact ⟨by rw [List.length_set]; exact g1.1, vs_set g1.2 g2 a1 (sd_of a2)⟩
theorem vl_vs {L : List Sed} (h : validL L = true) : validSs 0 L = true := by
 unfold validL at h
 simp only [Bool.and_eq_true, decide_eq_true_eq] at h
 exact h.2
structure DfI (l : List Sed) (H : List (Int × Int)) : Prop where
 v : validL l = true
 e : ∀ x ∈ l, (1 <= x.id /\ x.id <= 3) /\ x.held = []
 h : ∀ p ∈ H, ((1 <= p.1 /\ p.1 <= 3) /\ 0 <= p.2 /\ p.2 < 40) /\ ∃ x ∈ l, x.id = p.1 /\ p.2 < x.mn
def lastF (now : Int) : List Hel -> Int -> Int
 | [], l => l
 | h :: t, l => lastF now t (if h.til <= now then h.num + 1 else l)
def clsS (now : Int) (s : Sed) : Sed := raiseS s (lastF now s.held s.mn)
def runH (id now draw : Int) : List Hel -> Nat -> List Hel × List Cas
 | [], _ => ([], [])
 | h :: t, b =>
   if h.tm.start <= now then
    ({ h with tm := (stepT h.tm now (IntKind.u32.wrap (draw + (b : Int)))).1 } :: (runH id now draw t (b + 1)).1,
     if (stepT h.tm now (IntKind.u32.wrap (draw + (b : Int)))).2.1 = true then ⟨id, h.num, h.data⟩ :: (runH id now draw t (b + 1)).2 else (runH id now draw t (b + 1)).2)
   else (h :: (runH id now draw t (b + 1)).1, (runH id now draw t (b + 1)).2)
def runL (now draw : Int) : List Sed -> Nat -> List Sed × List Cas
 | [], _ => ([], [])
 | s :: t, b => ({ s with held := (runH s.id now draw s.held b).1 } :: (runL now draw t (b + s.held.length)).1, (runH s.id now draw s.held b).2 ++ (runL now draw t (b + s.held.length)).2)
def hasS (s : Sed) (n : Int) : Prop := n < s.mn \/ n ∈ s.held.map Hel.num
structure OnI (l : List Sed) (G : Nat -> Bool) : Prop where
 v : validL l = true
 r : ∀ x ∈ l, 1 <= x.id /\ x.id <= 5
 g : ∀ i n : Nat, i <= 5 -> n < 64 -> G (i * 64 + n) = true -> ∃ x ∈ l, x.id = (i : Int) /\ hasS x (n : Int)
end Go.Proofs.Ytfaibcgakcmhcaa.AX
namespace Go.Proofs.Ytfaibcgakcmhcaa.AX
open Go.RowKit
def SA (L : List Sed) (g : Nat) (now : Int) (c : Cas) (deaf : Bool) (draw : Int) (_ : Unit) : Hd :=
 ⟨[(1, one (.int .i64 now)), (3, one (.bool deaf)), (4, one (.int .u32 draw)), (7, one (.ptr 0 0 0 false)), (13, one (.int .i64 (g : Int))), (15, one (.os 1 0 L.length))],
  [(0, some ⟨32, 1, 3, true, fun _ => neC.cell c⟩), (1, some (entG 2 g L.length L)), (2, some (entN neH 85 (L.getD g default).held))], 3⟩
def encAc (R : List Sed × Bool × Int) : Option (List EV) := some [.c (.bool R.2.1), .c (.int .i64 R.2.2)]
theorem fin_err {R : List Sed × Bool × Int} {k : Int} {H : Hp} (h : R = ([], false, k)) : FinN (some R.1.length) (encAc R) (entN neS 78 R.1) (.tup [.c .nils, .c (.bool false), .c (.int .i64 k)]) H := by
 subst h
 exact ⟨none, leF_tup ⟨leC_nils_os rfl, leC_bool rfl, leC_int rfl, trivial⟩, ⟨rfl, rfl, Nat.le_of_ble_eq_true rfl⟩⟩
structure AcI (L : List Sed) (a : Nat) (now : Int) (c : Cas) (draw : Int) : Prop where
 lt : a < L.length
 n : L.length <= 9
 k : KpI (L.getD a default).held
 h : (L.getD a default).held.length <= 32
 mn : 0 <= (L.getD a default).mn /\ (L.getD a default).mn <= 1073741824
 num : 0 <= c.num /\ c.num < 1073741824
 d : c.data.length <= 64
 now : 0 <= now /\ now <= 1099511627776
 dr : drawOk draw
theorem set_ne {L : List Sed} {a p : Nat} {s : Sed} (h : p ≠ a) : (L.set a s).getD p default = L.getD p default := by
 rw [List.getD_eq_getElem?_getD, List.getD_eq_getElem?_getD, List.getElem?_set, if_neg (Ne.symm h)]
theorem set_at {L : List Sed} {a : Nat} {s : Sed} (h : a < L.length) : (L.set a s).getD a default = s := by
 rw [List.getD_eq_getElem?_getD, List.getElem?_set, if_pos rfl, if_pos h]; rfl
def rowA (d : Nat) (s : Sed) (a : Nat) (L : List Sed) (k j : Nat) : CV := bif Nat.beq k a then (bif Nat.beq j 2 then .os d 0 s.held.length else sedC s j) else rowN neS L k j
theorem rowA_at {d a j : Nat} {s : Sed} {L : List Sed} : rowA d s a L a j = bif Nat.beq j 2 then .os d 0 s.held.length else sedC s j := by unfold rowA; rw [beq_refl_nat]; rfl
theorem rowA_ne {d a k j : Nat} {s : Sed} {L : List Sed} (h : k ≠ a) : rowA d s a L k j = rowN neS L k j := by unfold rowA; rw [beq_ne h]; rfl
theorem entG_A {d a n : Nat} {L : List Sed} : entG d a n L = ⟨78, n, 3, false, rowA d (L.getD a default) a L⟩ := by
 unfold entG
 congr 1
 funext k j
 by_cases hk : k = a
 . subst hk
   rw [rowA_at]
   unfold rowG
   rw [beq_refl_nat, Bool.and_true]
   rfl
 . rw [rowA_ne hk, rowG_i (.inl hk)]
def SB (L : List Sed) (a : Nat) (s : Sed) (now : Int) (c : Cas) (deaf : Bool) (draw : Int) (_ : Unit) : Hd :=
 ⟨[(1, one (.int .i64 now)), (3, one (.bool deaf)), (4, one (.int .u32 draw)), (7, one (.ptr 0 0 0 false)), (15, one (.os 1 0 L.length)), (16, one (.ptr 1 a 0 false))],
  [(0, some ⟨32, 1, 3, true, fun _ => neC.cell c⟩), (1, some ⟨78, L.length, 3, false, rowA 2 s a L⟩), (2, some (entN neH 85 s.held))], 3⟩
theorem row_set {c : Wc} {L : List Sed} {a p j : Nat} {s : Sed} {x : CV} (ha : a < L.length) (hj : j < 3) (hne : p ≠ a -> x = rowN neS L p j) (h : p = a -> LeC c x (neS.cell s j)) : LeC c x (rowN neS (L.set a s) p j) := by
 by_cases hp : p = a
 . subst hp
   have e : rowN neS (L.set p s) p j = neS.cell s j := congrArg (fun z => neS.cell z j) (set_at ha)
   rw [e]
   exact h rfl
 . rw [hne hp]
   have e : rowN neS (L.set a s) p j = rowN neS L p j := congrArg (fun z => neS.cell z j) (set_ne hp)
   rw [e]
   exact (neS.sh _ j hj).le
theorem updE_ne {f : Nat -> Nat -> CV} {i p j : Nat} {g : Nat -> CV} (h : p ≠ i) : updE false f i g p j = f p j := by
 show selC (Nat.beq p i) (g j) (f p j) = f p j
 rw [selC_eq, beq_ne h]; rfl
theorem toN_row0 {α : Type} [Inhabited α] {E : NElem α} (hE : ∀ a, E.rd (E.cell a) = a) (l : List α) : toN E l.length (fun k j => rowN E l (0 + k) j) = l := by
 have e : (fun k j => rowN E l (0 + k) j) = rowN E l := by funext k j; rw [Nat.zero_add]
 rw [e]; exact toN_row hE l
theorem rd_plc {s F : Nat × Bool} {id : Int} {M L : List Hel} (hs : s = plcH id M 0) (h : M = L) (hF : plcH id L 0 = F) : F = s := by rw [hs, h, hF]
theorem rd_hear {s : Trk} {k i : Nat} {l : List Hel} (hs : s = hearT (eTk.rd fun q => rowN neH l k (0 + 2 + q))) (h : k = i) : s = hearT (l.getD i default).tm := by subst h; exact hs
theorem rowA_le {c : Wc} {d d' a k j : Nat} {s : Sed} {L : List Sed} (hj : j < 3) (h : c.src d' = some d) : LeC c (rowA d s a L k j) (rowA d' s a L k j) := by
 by_cases hk : k = a
 . subst hk
   rw [rowA_at, rowA_at]
   rcases j with _ | _ | _ | j
   . exact leC_int rfl
   . exact leC_int rfl
   . exact leC_os h rfl
   . omega
 . rw [rowA_ne hk, rowA_ne hk]
   exact (neS.sh _ j hj).le
theorem rowA_to {c : Wc} {d a k j : Nat} {s : Sed} {L : List Sed} {x : CV} (hj : j < 3) (hne : k ≠ a -> x = rowN neS L k j) (h : k = a -> LeC c x (bif Nat.beq j 2 then .os d 0 s.held.length else sedC s j)) : LeC c x (rowA d s a L k j) := by
 by_cases hk : k = a
 . subst hk
   rw [rowA_at]; exact h rfl
 . rw [rowA_ne hk, hne hk]
   exact (neS.sh _ j hj).le
theorem hel_row {c : Wc} {l : List Hel} {t : Trk} {i q j : Nat} (hi : i < l.length) (hj : j < 11) : LeC c (updE false (rowN neH l) (0 + i) (ovw false neH.sz (rowN neH l (0 + i)) (0 + 2) eTk.sz (eTk.cell t)) q j) (rowN neH (l.set i { l.getD i default with tm := t }) q j) := by
 rw [Nat.zero_add]
 by_cases hq : q = i
 . subst hq
   have e : rowN neH (l.set q { l.getD q default with tm := t }) q j = neH.cell { l.getD q default with tm := t } j := congrArg (fun z => neH.cell z j) (by rw [List.getD_eq_getElem?_getD, List.getElem?_set, if_pos rfl, if_pos hi]; rfl)
   rw [e]
   refine selC_in (beq_refl_nat _) ?_
   iterate 11 (rcases j with _ | j; · first | exact leC_int rfl | exact leC_bool rfl | exact (neH.sh _ 1 (by decide)).le)
   exact absurd hj (by omega)
 . have e : rowN neH (l.set i { l.getD i default with tm := t }) q j = rowN neH l q j := congrArg (fun z => neH.cell z j) (by simp only [List.getD_eq_getElem?_getD]; rw [List.getElem?_set, if_neg (Ne.symm hq)])
   rw [e, updE_ne hq]
   exact (neH.sh _ j hj).le
theorem fin_acc {H : Hp} {L : List Sed} {a k d : Nat} {s : Sed} {b : Bool} {R : List Sed × Bool × Int} (hR : R = (L.set a s, b, 0)) (ha : a < L.length) {f : Nat -> Nat -> CV} (hk : hget H k = some ⟨78, L.length, 3, false, f⟩) (hne : ∀ p, p ≠ a -> ∀ j, f p j = rowN neS L p j)
 (h0 : f a 0 = .int .u64 s.id) (h1 : f a 1 = .int .i64 s.mn) (h2 : f a 2 = .os d 0 s.held.length) {e : Ent} (hd : hget H d = some e) (hdk : Nat.beq d k = false) (en : e.n = s.held.length) (ez : e.sz = 11)
 (hc : ∀ q, q < s.held.length -> ∀ j, j < 11 -> LeC ⟨H, [(0, some (entN neS 78 R.1))], [(0, some k)], 1, true⟩ (e.f q j) (rowN neH s.held q j)) :
 FinN (some R.1.length) (encAc R) (entN neS 78 R.1) (.tup [.c (.os k 0 L.length), .c (.bool b), .c (.int .i64 0)]) H := by
 subst hR
 refine ⟨some k, leF_tup ⟨leC_os rfl (List.length_set).symm, leC_bool rfl, leC_int rfl, trivial⟩, ?_⟩
 unfold WkE
 simp only
 rw [hk]
 refine ⟨rfl, (List.length_set).symm, rfl, rfl, fun p hp j hj => ?_⟩
 have hj : j < 3 := hj
 refine row_set ha hj (fun h => hne p h j) fun h => ?_
 subst h
 rcases j with _ | _ | _ | j
 . show LeC _ (f p 0) _
   rw [h0]; exact leC_int rfl
 . show LeC _ (f p 1) _
   rw [h1]; exact leC_int rfl
 . show LeC _ (f p 2) _
   rw [h2]
   refine leC_os_sl hd ?_ ez rfl (by omega) fun q hq j hj => ?_
   . show (!(Nat.beq d k || false)) = true
     rw [hdk]; rfl
   . have e1 : 0 + q = q := Nat.zero_add q
     rw [e1]
     exact hc q hq j hj
 . omega
theorem raise_k {s : Sed} {l : Int} (h : KpI s.held) : KpI (raiseS s l).held := by
 unfold raiseS
 split
 . exact h
 . exact ⟨Nat.le_trans (List.length_filter_le _ _) h.n, fun x hx => h.d x (List.mem_filter.1 hx).1⟩
theorem raise_h {s : Sed} {l : Int} {n : Nat} (h : s.held.length <= n) : (raiseS s l).held.length <= n := by
 unfold raiseS
 split
 . exact h
 . exact Nat.le_trans (List.length_filter_le _ _) h
structure HsI (s : Smy) (n : Int) : Prop where
 m : 0 <= s.mn /\ s.mn <= 1073741824
 n : 0 <= n /\ n <= 4611686018427387904
structure LkI (L : List Sed) (s : Smy) : Prop where
 n : L.length <= 9223372036854775807
 h : ∀ x ∈ L, x.held.length <= 9223372036854775807
 m : 0 <= s.mn /\ s.mn <= 1073741824
end Go.Proofs.Ytfaibcgakcmhcaa.AX
namespace Go.Proofs.Ytfaibcgakcmhcaa.AX
def bitsF (mn : Int) : List Hel -> Int -> Int
 | [], b => b
 | h :: t, b => bitsF mn t (bits .or .u32 b (shlI .u32 1 (h.num - mn)))
def sumS (s : Sed) : Smy := ⟨s.id, s.mn, bitsF s.mn s.held 0⟩
end Go.Proofs.Ytfaibcgakcmhcaa.AX
