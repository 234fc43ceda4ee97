/- The table of the types (written by a program out of the dump), and that it is right. -/
import Derived.Test.YtolliidpmgncdaaChecked
import Derived.Test.YtolliidpmgncdaaBExec
namespace Go.Proofs.Ytolliidpmgncdaa.AX
set_option linter.unusedVariables false
def tyO : List (Nat × Option TI) := [
  (1, some ⟨.other, 1, [.top], [], 8⟩),
  (2, some ⟨.int .i64, 1, [.int .i64 0], [], 8⟩),
  (3, some ⟨.int .i64, 1, [.int .i64 0], [], 8⟩),
  (4, some ⟨.bool, 1, [.bool false], [], 1⟩),
  (5, some ⟨.int .u8, 1, [.int .u8 0], [], 1⟩),
  (6, some ⟨.int .u8, 1, [.int .u8 0], [], 1⟩),
  (7, some ⟨.struct [(0, 1, some false), (1, 1, some false), (2, 1, some false), (3, 1, some false)], 4, [.int .i64 0, .int .i64 0, .bool false, .int .u8 0], [], 24⟩),
  (8, some ⟨.struct [(0, 1, some false), (1, 1, some false), (2, 1, some false), (3, 1, some false)], 4, [.int .i64 0, .int .i64 0, .bool false, .int .u8 0], [], 24⟩),
  (12, some ⟨.int .u64, 1, [.int .u64 0], [], 8⟩),
  (13, some ⟨.struct [(0, 1, some false), (1, 1, some false)], 2, [.top, .int .u64 0], [], 24⟩),
  (14, some ⟨.struct [(0, 1, some false), (1, 1, some false)], 2, [.top, .int .u64 0], [], 24⟩),
  (15, some ⟨.ptr 80, 1, [.nilp], [], 8⟩),
  (16, some ⟨.ptr 83, 1, [.nilp], [], 8⟩),
  (17, some ⟨.ptr 92, 1, [.nilp], [], 8⟩),
  (18, some ⟨.struct [(0, 1, some false)], 1, [.nilp], [], 8⟩),
  (19, some ⟨.struct [(0, 1, some false)], 1, [.nilp], [], 8⟩),
  (21, some ⟨.int .i32, 1, [.int .i32 0], [], 4⟩),
  (22, some ⟨.slice 3 1 true, 1, [.nils], [], 24⟩),
  (23, some ⟨.ptr 72, 1, [.nilp], [], 8⟩),
  (24, some ⟨.other, 1, [.top], [], 8⟩),
  (25, some ⟨.struct [(0, 1, some false), (1, 1, some false), (2, 1, some false), (3, 1, some false), (4, 1, some false), (5, 1, some false), (6, 1, some false), (7, 1, some false)], 8, [.int .i64 0, .int .i64 0, .int .i64 0, .int .i64 0, .int .i64 0, .int .i64 0, .int .i64 0, .bool false], [false, false, false, false, false, false, false, true], 64⟩),
  (26, some ⟨.struct [(0, 1, some false), (1, 1, some false), (2, 1, some false), (3, 1, some false), (4, 1, some false), (5, 1, some false), (6, 1, some false), (7, 1, some false)], 8, [.int .i64 0, .int .i64 0, .int .i64 0, .int .i64 0, .int .i64 0, .int .i64 0, .int .i64 0, .bool false], [false, false, false, false, false, false, false, true], 64⟩),
  (27, some ⟨.int .i64, 1, [.int .i64 0], [], 8⟩),
  (29, some ⟨.other, 1, [.top], [], 8⟩),
  (30, some ⟨.other, 1, [.top], [], 8⟩),
  (31, some ⟨.int .u32, 1, [.int .u32 0], [], 4⟩),
  (32, some ⟨.other, 1, [.top], [], 8⟩),
  (34, some ⟨.other, 1, [.top], [], 8⟩),
  (35, some ⟨.int .u64, 1, [.int .u64 0], [], 8⟩),
  (36, some ⟨.other, 1, [.top], [], 8⟩),
  (37, some ⟨.other, 1, [.top], [], 8⟩),
  (38, some ⟨.arr 5 31 1 (some false), 5, [.int .u32 0, .int .u32 0, .int .u32 0, .int .u32 0, .int .u32 0], [false, false, false, false, false], 20⟩),
  (39, some ⟨.other, 1, [.top], [], 8⟩),
  (40, some ⟨.arr 5 26 8 (some true), 40, [.int .i64 0, .int .i64 0, .int .i64 0, .int .i64 0, .int .i64 0, .int .i64 0, .int .i64 0, .bool false, .int .i64 0, .int .i64 0, .int .i64 0, .int .i64 0, .int .i64 0, .int .i64 0, .int .i64 0, .bool false, .int .i64 0, .int .i64 0, .int .i64 0, .int .i64 0, .int .i64 0, .int .i64 0, .int .i64 0, .bool false, .int .i64 0, .int .i64 0, .int .i64 0, .int .i64 0, .int .i64 0, .int .i64 0, .int .i64 0, .bool false, .int .i64 0, .int .i64 0, .int .i64 0, .int .i64 0, .int .i64 0, .int .i64 0, .int .i64 0, .bool false], [false, false, false, false, false, false, false, true, false, false, false, false, false, false, false, true, false, false, false, false, false, false, false, true, false, false, false, false, false, false, false, true, false, false, false, false, false, false, false, true], 320⟩),
  (41, some ⟨.arr 5 4 1 (some false), 5, [.bool false, .bool false, .bool false, .bool false, .bool false], [true, true, true, true, true], 5⟩),
  (42, some ⟨.other, 1, [.top], [], 8⟩),
  (43, some ⟨.other, 1, [.top], [], 8⟩),
  (44, some ⟨.other, 1, [.top], [], 8⟩),
  (45, some ⟨.other, 1, [.top], [], 8⟩),
  (46, some ⟨.other, 1, [.top], [], 8⟩),
  (47, some ⟨.other, 1, [.top], [], 8⟩),
  (48, some ⟨.other, 1, [.top], [], 8⟩),
  (49, some ⟨.other, 1, [.top], [], 8⟩),
  (50, some ⟨.other, 1, [.top], [], 8⟩),
  (51, some ⟨.other, 1, [.top], [], 8⟩),
  (52, some ⟨.other, 1, [.top], [], 8⟩),
  (53, some ⟨.other, 1, [.top], [], 8⟩),
  (54, some ⟨.other, 1, [.top], [], 8⟩),
  (55, some ⟨.other, 1, [.top], [], 8⟩),
  (56, some ⟨.slice 61 2 true, 1, [.nils], [], 24⟩),
  (57, some ⟨.other, 1, [.top], [], 8⟩),
  (58, some ⟨.int .u64, 1, [.int .u64 0], [], 8⟩),
  (59, some ⟨.int .u64, 1, [.int .u64 0], [], 8⟩),
  (60, some ⟨.struct [(0, 1, some false), (1, 1, some false)], 2, [.int .u64 0, .int .i64 0], [false, false], 16⟩),
  (61, some ⟨.struct [(0, 1, some false), (1, 1, some false)], 2, [.int .u64 0, .int .i64 0], [false, false], 16⟩),
  (62, some ⟨.struct [(0, 1, some false), (1, 1, some false), (2, 1, some false)], 3, [.int .u64 0, .int .i64 0, .int .i64 0], [false, false, false], 24⟩),
  (63, some ⟨.struct [(0, 1, some false), (1, 1, some false), (2, 1, some false)], 3, [.int .u64 0, .int .i64 0, .int .i64 0], [false, false, false], 24⟩),
  (65, some ⟨.other, 1, [.top], [], 8⟩),
  (66, some ⟨.other, 1, [.top], [], 8⟩),
  (67, some ⟨.other, 1, [.top], [], 8⟩),
  (68, some ⟨.other, 1, [.top], [], 8⟩),
  (69, some ⟨.other, 1, [.top], [], 8⟩),
  (70, some ⟨.other, 1, [.top], [], 8⟩),
  (71, some ⟨.struct [(0, 1, some false), (1, 1, some false)], 2, [.nils, .int .i64 0], [], 32⟩),
  (72, some ⟨.struct [(0, 1, some false), (1, 1, some false)], 2, [.nils, .int .i64 0], [], 32⟩),
  (73, some ⟨.other, 1, [.top], [], 8⟩),
  (74, some ⟨.other, 1, [.top], [], 8⟩),
  (75, some ⟨.other, 1, [.top], [], 8⟩),
  (76, some ⟨.other, 1, [.top], [], 8⟩),
  (77, some ⟨.other, 1, [.top], [], 8⟩),
  (78, some ⟨.other, 1, [.top], [], 8⟩),
  (79, some ⟨.struct [(0, 1, some false), (1, 1, some false), (2, 1, some false), (3, 1, some false)], 4, [.nilp, .nilp, .nilp, .top], [], 40⟩),
  (80, some ⟨.struct [(0, 1, some false), (1, 1, some false), (2, 1, some false), (3, 1, some false)], 4, [.nilp, .nilp, .nilp, .top], [], 40⟩),
  (81, some ⟨.arr 0 16 1 (some false), 0, [], [], 0⟩),
  (82, some ⟨.struct [(0, 0, some true)], 0, [], [], 0⟩),
  (83, some ⟨.struct [(0, 0, some true)], 0, [], [], 0⟩),
  (84, some ⟨.other, 1, [.top], [], 8⟩),
  (85, some ⟨.int .u8, 1, [.int .u8 0], [], 1⟩),
  (86, some ⟨.int .u8, 1, [.int .u8 0], [], 1⟩),
  (87, some ⟨.other, 1, [.top], [], 8⟩),
  (88, some ⟨.ptr 5, 1, [.nilp], [], 8⟩),
  (89, some ⟨.int .i32, 1, [.int .i32 0], [], 4⟩),
  (90, some ⟨.int .i32, 1, [.int .i32 0], [], 4⟩),
  (91, some ⟨.struct [(0, 1, some false), (1, 1, some false), (2, 1, some false), (3, 1, some false), (4, 1, some false), (5, 1, some false), (6, 1, some false), (7, 1, some false), (8, 1, some false), (9, 1, some false), (10, 1, some false)], 11, [.int .u64 0, .int .u64 0, .int .u32 0, .int .u8 0, .int .u8 0, .int .u8 0, .int .u8 0, .top, .nilp, .int .i32 0, .int .i32 0], [], 48⟩),
  (92, some ⟨.struct [(0, 1, some false), (1, 1, some false), (2, 1, some false), (3, 1, some false), (4, 1, some false), (5, 1, some false), (6, 1, some false), (7, 1, some false), (8, 1, some false), (9, 1, some false), (10, 1, some false)], 11, [.int .u64 0, .int .u64 0, .int .u32 0, .int .u8 0, .int .u8 0, .int .u8 0, .int .u8 0, .top, .nilp, .int .i32 0, .int .i32 0], [], 48⟩)]
def T : Tys := fun t => look none tyO t
def TysAll (P : Program) : List (Nat × Option TI) → Prop
  | [] => True
  | (_, none) :: rest => TysAll P rest
  | (t, some ti) :: rest => tyChk P t ti ∧ TysAll P rest
theorem TysAll.at {P : Program} : ∀ {l : List (Nat × Option TI)}, TysAll P l → ∀ t ti, look none l t = some ti → tyChk P t ti := by
  intro l
  induction l with
  | nil => intro _ t ti h; cases h
  | cons p l ih =>
    obtain ⟨k, x⟩ := p
    intro h t ti ht
    by_cases hk : t = k
    · subst hk
      rw [look_cons_eq] at ht
      subst ht
      exact h.1
    · rw [look_cons_ne _ _ _ hk] at ht
      cases x with
      | none => exact ih h t ti ht
      | some y => exact ih h.2 t ti ht
theorem ty1 : tyChk Try.prog 1 ⟨.other, 1, [.top], [], 8⟩ := ⟨by kernel_rfl, by kernel_rfl, by kernel_rfl⟩
theorem ty2 : tyChk Try.prog 2 ⟨.int .i64, 1, [.int .i64 0], [], 8⟩ := ⟨by kernel_rfl, by kernel_rfl, by kernel_rfl⟩
theorem ty3 : tyChk Try.prog 3 ⟨.int .i64, 1, [.int .i64 0], [], 8⟩ := ⟨by kernel_rfl, by kernel_rfl, by kernel_rfl⟩
theorem ty4 : tyChk Try.prog 4 ⟨.bool, 1, [.bool false], [], 1⟩ := ⟨by kernel_rfl, by kernel_rfl, by kernel_rfl⟩
theorem ty5 : tyChk Try.prog 5 ⟨.int .u8, 1, [.int .u8 0], [], 1⟩ := ⟨by kernel_rfl, by kernel_rfl, by kernel_rfl⟩
theorem ty6 : tyChk Try.prog 6 ⟨.int .u8, 1, [.int .u8 0], [], 1⟩ := ⟨by kernel_rfl, by kernel_rfl, by kernel_rfl⟩
theorem ty7 : tyChk Try.prog 7 ⟨.struct [(0, 1, some false), (1, 1, some false), (2, 1, some false), (3, 1, some false)], 4, [.int .i64 0, .int .i64 0, .bool false, .int .u8 0], [], 24⟩ := ⟨by kernel_rfl, by kernel_rfl, by kernel_rfl⟩
theorem ty8 : tyChk Try.prog 8 ⟨.struct [(0, 1, some false), (1, 1, some false), (2, 1, some false), (3, 1, some false)], 4, [.int .i64 0, .int .i64 0, .bool false, .int .u8 0], [], 24⟩ := ⟨by kernel_rfl, by kernel_rfl, by kernel_rfl⟩
theorem ty12 : tyChk Try.prog 12 ⟨.int .u64, 1, [.int .u64 0], [], 8⟩ := ⟨by kernel_rfl, by kernel_rfl, by kernel_rfl⟩
theorem ty13 : tyChk Try.prog 13 ⟨.struct [(0, 1, some false), (1, 1, some false)], 2, [.top, .int .u64 0], [], 24⟩ := ⟨by kernel_rfl, by kernel_rfl, by kernel_rfl⟩
theorem ty14 : tyChk Try.prog 14 ⟨.struct [(0, 1, some false), (1, 1, some false)], 2, [.top, .int .u64 0], [], 24⟩ := ⟨by kernel_rfl, by kernel_rfl, by kernel_rfl⟩
theorem ty15 : tyChk Try.prog 15 ⟨.ptr 80, 1, [.nilp], [], 8⟩ := ⟨by kernel_rfl, by kernel_rfl, by kernel_rfl⟩
theorem ty16 : tyChk Try.prog 16 ⟨.ptr 83, 1, [.nilp], [], 8⟩ := ⟨by kernel_rfl, by kernel_rfl, by kernel_rfl⟩
theorem ty17 : tyChk Try.prog 17 ⟨.ptr 92, 1, [.nilp], [], 8⟩ := ⟨by kernel_rfl, by kernel_rfl, by kernel_rfl⟩
theorem ty18 : tyChk Try.prog 18 ⟨.struct [(0, 1, some false)], 1, [.nilp], [], 8⟩ := ⟨by kernel_rfl, by kernel_rfl, by kernel_rfl⟩
theorem ty19 : tyChk Try.prog 19 ⟨.struct [(0, 1, some false)], 1, [.nilp], [], 8⟩ := ⟨by kernel_rfl, by kernel_rfl, by kernel_rfl⟩
theorem ty21 : tyChk Try.prog 21 ⟨.int .i32, 1, [.int .i32 0], [], 4⟩ := ⟨by kernel_rfl, by kernel_rfl, by kernel_rfl⟩
theorem ty22 : tyChk Try.prog 22 ⟨.slice 3 1 true, 1, [.nils], [], 24⟩ := ⟨by kernel_rfl, by kernel_rfl, by kernel_rfl⟩
theorem ty23 : tyChk Try.prog 23 ⟨.ptr 72, 1, [.nilp], [], 8⟩ := ⟨by kernel_rfl, by kernel_rfl, by kernel_rfl⟩
theorem ty24 : tyChk Try.prog 24 ⟨.other, 1, [.top], [], 8⟩ := ⟨by kernel_rfl, by kernel_rfl, by kernel_rfl⟩
theorem ty25 : tyChk Try.prog 25 ⟨.struct [(0, 1, some false), (1, 1, some false), (2, 1, some false), (3, 1, some false), (4, 1, some false), (5, 1, some false), (6, 1, some false), (7, 1, some false)], 8, [.int .i64 0, .int .i64 0, .int .i64 0, .int .i64 0, .int .i64 0, .int .i64 0, .int .i64 0, .bool false], [false, false, false, false, false, false, false, true], 64⟩ := ⟨by kernel_rfl, by kernel_rfl, by kernel_rfl⟩
theorem ty26 : tyChk Try.prog 26 ⟨.struct [(0, 1, some false), (1, 1, some false), (2, 1, some false), (3, 1, some false), (4, 1, some false), (5, 1, some false), (6, 1, some false), (7, 1, some false)], 8, [.int .i64 0, .int .i64 0, .int .i64 0, .int .i64 0, .int .i64 0, .int .i64 0, .int .i64 0, .bool false], [false, false, false, false, false, false, false, true], 64⟩ := ⟨by kernel_rfl, by kernel_rfl, by kernel_rfl⟩
theorem ty27 : tyChk Try.prog 27 ⟨.int .i64, 1, [.int .i64 0], [], 8⟩ := ⟨by kernel_rfl, by kernel_rfl, by kernel_rfl⟩
theorem ty29 : tyChk Try.prog 29 ⟨.other, 1, [.top], [], 8⟩ := ⟨by kernel_rfl, by kernel_rfl, by kernel_rfl⟩
theorem ty30 : tyChk Try.prog 30 ⟨.other, 1, [.top], [], 8⟩ := ⟨by kernel_rfl, by kernel_rfl, by kernel_rfl⟩
theorem ty31 : tyChk Try.prog 31 ⟨.int .u32, 1, [.int .u32 0], [], 4⟩ := ⟨by kernel_rfl, by kernel_rfl, by kernel_rfl⟩
theorem ty32 : tyChk Try.prog 32 ⟨.other, 1, [.top], [], 8⟩ := ⟨by kernel_rfl, by kernel_rfl, by kernel_rfl⟩
theorem ty34 : tyChk Try.prog 34 ⟨.other, 1, [.top], [], 8⟩ := ⟨by kernel_rfl, by kernel_rfl, by kernel_rfl⟩
theorem ty35 : tyChk Try.prog 35 ⟨.int .u64, 1, [.int .u64 0], [], 8⟩ := ⟨by kernel_rfl, by kernel_rfl, by kernel_rfl⟩
theorem ty36 : tyChk Try.prog 36 ⟨.other, 1, [.top], [], 8⟩ := ⟨by kernel_rfl, by kernel_rfl, by kernel_rfl⟩
theorem ty37 : tyChk Try.prog 37 ⟨.other, 1, [.top], [], 8⟩ := ⟨by kernel_rfl, by kernel_rfl, by kernel_rfl⟩
theorem ty38 : tyChk Try.prog 38 ⟨.arr 5 31 1 (some false), 5, [.int .u32 0, .int .u32 0, .int .u32 0, .int .u32 0, .int .u32 0], [false, false, false, false, false], 20⟩ := ⟨by kernel_rfl, by kernel_rfl, by kernel_rfl⟩
theorem ty39 : tyChk Try.prog 39 ⟨.other, 1, [.top], [], 8⟩ := ⟨by kernel_rfl, by kernel_rfl, by kernel_rfl⟩
theorem ty40 : tyChk Try.prog 40 ⟨.arr 5 26 8 (some true), 40, [.int .i64 0, .int .i64 0, .int .i64 0, .int .i64 0, .int .i64 0, .int .i64 0, .int .i64 0, .bool false, .int .i64 0, .int .i64 0, .int .i64 0, .int .i64 0, .int .i64 0, .int .i64 0, .int .i64 0, .bool false, .int .i64 0, .int .i64 0, .int .i64 0, .int .i64 0, .int .i64 0, .int .i64 0, .int .i64 0, .bool false, .int .i64 0, .int .i64 0, .int .i64 0, .int .i64 0, .int .i64 0, .int .i64 0, .int .i64 0, .bool false, .int .i64 0, .int .i64 0, .int .i64 0, .int .i64 0, .int .i64 0, .int .i64 0, .int .i64 0, .bool false], [false, false, false, false, false, false, false, true, false, false, false, false, false, false, false, true, false, false, false, false, false, false, false, true, false, false, false, false, false, false, false, true, false, false, false, false, false, false, false, true], 320⟩ := ⟨by kernel_rfl, by kernel_rfl, by kernel_rfl⟩
theorem ty41 : tyChk Try.prog 41 ⟨.arr 5 4 1 (some false), 5, [.bool false, .bool false, .bool false, .bool false, .bool false], [true, true, true, true, true], 5⟩ := ⟨by kernel_rfl, by kernel_rfl, by kernel_rfl⟩
theorem ty42 : tyChk Try.prog 42 ⟨.other, 1, [.top], [], 8⟩ := ⟨by kernel_rfl, by kernel_rfl, by kernel_rfl⟩
theorem ty43 : tyChk Try.prog 43 ⟨.other, 1, [.top], [], 8⟩ := ⟨by kernel_rfl, by kernel_rfl, by kernel_rfl⟩
theorem ty44 : tyChk Try.prog 44 ⟨.other, 1, [.top], [], 8⟩ := ⟨by kernel_rfl, by kernel_rfl, by kernel_rfl⟩
theorem ty45 : tyChk Try.prog 45 ⟨.other, 1, [.top], [], 8⟩ := ⟨by kernel_rfl, by kernel_rfl, by kernel_rfl⟩
theorem ty46 : tyChk Try.prog 46 ⟨.other, 1, [.top], [], 8⟩ := ⟨by kernel_rfl, by kernel_rfl, by kernel_rfl⟩
theorem ty47 : tyChk Try.prog 47 ⟨.other, 1, [.top], [], 8⟩ := ⟨by kernel_rfl, by kernel_rfl, by kernel_rfl⟩
theorem ty48 : tyChk Try.prog 48 ⟨.other, 1, [.top], [], 8⟩ := ⟨by kernel_rfl, by kernel_rfl, by kernel_rfl⟩
theorem ty49 : tyChk Try.prog 49 ⟨.other, 1, [.top], [], 8⟩ := ⟨by kernel_rfl, by kernel_rfl, by kernel_rfl⟩
theorem ty50 : tyChk Try.prog 50 ⟨.other, 1, [.top], [], 8⟩ := ⟨by kernel_rfl, by kernel_rfl, by kernel_rfl⟩
theorem ty51 : tyChk Try.prog 51 ⟨.other, 1, [.top], [], 8⟩ := ⟨by kernel_rfl, by kernel_rfl, by kernel_rfl⟩
theorem ty52 : tyChk Try.prog 52 ⟨.other, 1, [.top], [], 8⟩ := ⟨by kernel_rfl, by kernel_rfl, by kernel_rfl⟩
theorem ty53 : tyChk Try.prog 53 ⟨.other, 1, [.top], [], 8⟩ := ⟨by kernel_rfl, by kernel_rfl, by kernel_rfl⟩
theorem ty54 : tyChk Try.prog 54 ⟨.other, 1, [.top], [], 8⟩ := ⟨by kernel_rfl, by kernel_rfl, by kernel_rfl⟩
theorem ty55 : tyChk Try.prog 55 ⟨.other, 1, [.top], [], 8⟩ := ⟨by kernel_rfl, by kernel_rfl, by kernel_rfl⟩
theorem ty56 : tyChk Try.prog 56 ⟨.slice 61 2 true, 1, [.nils], [], 24⟩ := ⟨by kernel_rfl, by kernel_rfl, by kernel_rfl⟩
theorem ty57 : tyChk Try.prog 57 ⟨.other, 1, [.top], [], 8⟩ := ⟨by kernel_rfl, by kernel_rfl, by kernel_rfl⟩
theorem ty58 : tyChk Try.prog 58 ⟨.int .u64, 1, [.int .u64 0], [], 8⟩ := ⟨by kernel_rfl, by kernel_rfl, by kernel_rfl⟩
theorem ty59 : tyChk Try.prog 59 ⟨.int .u64, 1, [.int .u64 0], [], 8⟩ := ⟨by kernel_rfl, by kernel_rfl, by kernel_rfl⟩
theorem ty60 : tyChk Try.prog 60 ⟨.struct [(0, 1, some false), (1, 1, some false)], 2, [.int .u64 0, .int .i64 0], [false, false], 16⟩ := ⟨by kernel_rfl, by kernel_rfl, by kernel_rfl⟩
theorem ty61 : tyChk Try.prog 61 ⟨.struct [(0, 1, some false), (1, 1, some false)], 2, [.int .u64 0, .int .i64 0], [false, false], 16⟩ := ⟨by kernel_rfl, by kernel_rfl, by kernel_rfl⟩
theorem ty62 : tyChk Try.prog 62 ⟨.struct [(0, 1, some false), (1, 1, some false), (2, 1, some false)], 3, [.int .u64 0, .int .i64 0, .int .i64 0], [false, false, false], 24⟩ := ⟨by kernel_rfl, by kernel_rfl, by kernel_rfl⟩
theorem ty63 : tyChk Try.prog 63 ⟨.struct [(0, 1, some false), (1, 1, some false), (2, 1, some false)], 3, [.int .u64 0, .int .i64 0, .int .i64 0], [false, false, false], 24⟩ := ⟨by kernel_rfl, by kernel_rfl, by kernel_rfl⟩
theorem ty65 : tyChk Try.prog 65 ⟨.other, 1, [.top], [], 8⟩ := ⟨by kernel_rfl, by kernel_rfl, by kernel_rfl⟩
theorem ty66 : tyChk Try.prog 66 ⟨.other, 1, [.top], [], 8⟩ := ⟨by kernel_rfl, by kernel_rfl, by kernel_rfl⟩
theorem ty67 : tyChk Try.prog 67 ⟨.other, 1, [.top], [], 8⟩ := ⟨by kernel_rfl, by kernel_rfl, by kernel_rfl⟩
theorem ty68 : tyChk Try.prog 68 ⟨.other, 1, [.top], [], 8⟩ := ⟨by kernel_rfl, by kernel_rfl, by kernel_rfl⟩
theorem ty69 : tyChk Try.prog 69 ⟨.other, 1, [.top], [], 8⟩ := ⟨by kernel_rfl, by kernel_rfl, by kernel_rfl⟩
theorem ty70 : tyChk Try.prog 70 ⟨.other, 1, [.top], [], 8⟩ := ⟨by kernel_rfl, by kernel_rfl, by kernel_rfl⟩
theorem ty71 : tyChk Try.prog 71 ⟨.struct [(0, 1, some false), (1, 1, some false)], 2, [.nils, .int .i64 0], [], 32⟩ := ⟨by kernel_rfl, by kernel_rfl, by kernel_rfl⟩
theorem ty72 : tyChk Try.prog 72 ⟨.struct [(0, 1, some false), (1, 1, some false)], 2, [.nils, .int .i64 0], [], 32⟩ := ⟨by kernel_rfl, by kernel_rfl, by kernel_rfl⟩
theorem ty73 : tyChk Try.prog 73 ⟨.other, 1, [.top], [], 8⟩ := ⟨by kernel_rfl, by kernel_rfl, by kernel_rfl⟩
theorem ty74 : tyChk Try.prog 74 ⟨.other, 1, [.top], [], 8⟩ := ⟨by kernel_rfl, by kernel_rfl, by kernel_rfl⟩
theorem ty75 : tyChk Try.prog 75 ⟨.other, 1, [.top], [], 8⟩ := ⟨by kernel_rfl, by kernel_rfl, by kernel_rfl⟩
theorem ty76 : tyChk Try.prog 76 ⟨.other, 1, [.top], [], 8⟩ := ⟨by kernel_rfl, by kernel_rfl, by kernel_rfl⟩
theorem ty77 : tyChk Try.prog 77 ⟨.other, 1, [.top], [], 8⟩ := ⟨by kernel_rfl, by kernel_rfl, by kernel_rfl⟩
theorem ty78 : tyChk Try.prog 78 ⟨.other, 1, [.top], [], 8⟩ := ⟨by kernel_rfl, by kernel_rfl, by kernel_rfl⟩
theorem ty79 : tyChk Try.prog 79 ⟨.struct [(0, 1, some false), (1, 1, some false), (2, 1, some false), (3, 1, some false)], 4, [.nilp, .nilp, .nilp, .top], [], 40⟩ := ⟨by kernel_rfl, by kernel_rfl, by kernel_rfl⟩
theorem ty80 : tyChk Try.prog 80 ⟨.struct [(0, 1, some false), (1, 1, some false), (2, 1, some false), (3, 1, some false)], 4, [.nilp, .nilp, .nilp, .top], [], 40⟩ := ⟨by kernel_rfl, by kernel_rfl, by kernel_rfl⟩
theorem ty81 : tyChk Try.prog 81 ⟨.arr 0 16 1 (some false), 0, [], [], 0⟩ := ⟨by kernel_rfl, by kernel_rfl, by kernel_rfl⟩
theorem ty82 : tyChk Try.prog 82 ⟨.struct [(0, 0, some true)], 0, [], [], 0⟩ := ⟨by kernel_rfl, by kernel_rfl, by kernel_rfl⟩
theorem ty83 : tyChk Try.prog 83 ⟨.struct [(0, 0, some true)], 0, [], [], 0⟩ := ⟨by kernel_rfl, by kernel_rfl, by kernel_rfl⟩
theorem ty84 : tyChk Try.prog 84 ⟨.other, 1, [.top], [], 8⟩ := ⟨by kernel_rfl, by kernel_rfl, by kernel_rfl⟩
theorem ty85 : tyChk Try.prog 85 ⟨.int .u8, 1, [.int .u8 0], [], 1⟩ := ⟨by kernel_rfl, by kernel_rfl, by kernel_rfl⟩
theorem ty86 : tyChk Try.prog 86 ⟨.int .u8, 1, [.int .u8 0], [], 1⟩ := ⟨by kernel_rfl, by kernel_rfl, by kernel_rfl⟩
theorem ty87 : tyChk Try.prog 87 ⟨.other, 1, [.top], [], 8⟩ := ⟨by kernel_rfl, by kernel_rfl, by kernel_rfl⟩
theorem ty88 : tyChk Try.prog 88 ⟨.ptr 5, 1, [.nilp], [], 8⟩ := ⟨by kernel_rfl, by kernel_rfl, by kernel_rfl⟩
theorem ty89 : tyChk Try.prog 89 ⟨.int .i32, 1, [.int .i32 0], [], 4⟩ := ⟨by kernel_rfl, by kernel_rfl, by kernel_rfl⟩
theorem ty90 : tyChk Try.prog 90 ⟨.int .i32, 1, [.int .i32 0], [], 4⟩ := ⟨by kernel_rfl, by kernel_rfl, by kernel_rfl⟩
theorem ty91 : tyChk Try.prog 91 ⟨.struct [(0, 1, some false), (1, 1, some false), (2, 1, some false), (3, 1, some false), (4, 1, some false), (5, 1, some false), (6, 1, some false), (7, 1, some false), (8, 1, some false), (9, 1, some false), (10, 1, some false)], 11, [.int .u64 0, .int .u64 0, .int .u32 0, .int .u8 0, .int .u8 0, .int .u8 0, .int .u8 0, .top, .nilp, .int .i32 0, .int .i32 0], [], 48⟩ := ⟨by kernel_rfl, by kernel_rfl, by kernel_rfl⟩
theorem ty92 : tyChk Try.prog 92 ⟨.struct [(0, 1, some false), (1, 1, some false), (2, 1, some false), (3, 1, some false), (4, 1, some false), (5, 1, some false), (6, 1, some false), (7, 1, some false), (8, 1, some false), (9, 1, some false), (10, 1, some false)], 11, [.int .u64 0, .int .u64 0, .int .u32 0, .int .u8 0, .int .u8 0, .int .u8 0, .int .u8 0, .top, .nilp, .int .i32 0, .int .i32 0], [], 48⟩ := ⟨by kernel_rfl, by kernel_rfl, by kernel_rfl⟩
theorem tysOk : TysOk Try.prog T := (show TysAll Try.prog tyO from ⟨ty1, ty2, ty3, ty4, ty5, ty6, ty7, ty8, ty12, ty13, ty14, ty15, ty16, ty17, ty18, ty19, ty21, ty22, ty23, ty24, ty25, ty26, ty27, ty29, ty30, ty31, ty32, ty34, ty35, ty36, ty37, ty38, ty39, ty40, ty41, ty42, ty43, ty44, ty45, ty46, ty47, ty48, ty49, ty50, ty51, ty52, ty53, ty54, ty55, ty56, ty57, ty58, ty59, ty60, ty61, ty62, ty63, ty65, ty66, ty67, ty68, ty69, ty70, ty71, ty72, ty73, ty74, ty75, ty76, ty77, ty78, ty79, ty80, ty81, ty82, ty83, ty84, ty85, ty86, ty87, ty88, ty89, ty90, ty91, ty92, trivial⟩).at
theorem mixed : Try.prog.follows .mixedOrders = true := by kernel_rfl
end Go.Proofs.Ytolliidpmgncdaa.AX
