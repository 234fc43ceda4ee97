/- What the makers draw from a tape: prefixes, contexts, devices, addresses. -/
import Derived.Test.YtjknkfjhcapocaaRf2
import Derived.Test.YtjknkfjhcapocaaTp
namespace Go.Proofs.Ytjknkfjhcapocaa.AX
open Go.RowKit
set_option linter.unusedVariables false
set_option linter.unusedSimpArgs false
structure Adr where
  mode : Int
  short : Int
  eui : Int
def eAdrC (x : Adr) (j : Nat) : CV := bif Nat.beq j 0 then .int .i64 x.mode else bif Nat.beq j 1 then .int .u16 x.short else (.int .u64 x.eui)
def eAdr : Elem Adr where
  sz := 3
  cell := eAdrC
  rd g := ⟨valI (g 0), valI (g 1), valI (g 2)⟩
  ok g := isK .i64 (g 0) && isK .u16 (g 1) && isK .u64 (g 2)
  ok_eq g h j hj := by
    simp only [Bool.and_eq_true] at h
    unfold eAdrC
    by_cases c0 : j < 1
    · have e : j = 0 := by omega
      subst e
      exact isK_eq h.1.1
    by_cases c1 : j < 2
    · have e : j = 1 := by omega
      subst e
      exact isK_eq h.1.2
    by_cases c2 : j < 3
    · have e : j = 2 := by omega
      subst e
      exact isK_eq h.2
    omega
  flat a j := by
    unfold eAdrC
    cases Nat.beq j 0 with
    | true => exact flat_int
    | false =>
    cases Nat.beq j 1 with
    | true => exact flat_int
    | false =>
    exact flat_int
theorem eAdr_sz : 0 < eAdr.sz := by decide
theorem eAdr_rd (x : Adr) : eAdr.rd (eAdr.cell x) = x := by
  show (⟨x.mode, x.short, x.eui⟩ : Adr) = x
  rfl
theorem eAdr_ok (x : Adr) : eAdr.ok (eAdr.cell x) = true := rfl
theorem rd_adr (x : Adr) : eAdr.rd (fun q => eAdr.cell x (0 + q)) = x := by
  simp only [Nat.zero_add]; exact eAdr_rd x
theorem word_ok (n : Nat) (l : List Int) (q : Int) (ht : TapeOk n (rI l) q) :
    ∃ (r q' : Int), True ∧ TapeOk n (rI l) q' ∧ MethOk Try.prog 52 [] (tapeN n (rI l) q) ((cI .u64).enc r) (tapeN n (rI l) q') := by
  refine tape_intro (wd := 1) (Q := mkQ LT0) (by decide) tysOk (q_of LT0_ok) mixed Try.func52 rfl _ (by show 0 + 1 ≤ _; decide) (fun _ => nff_int) ?_
  repeat' (first | (apply And.intro <;> intro hc <;> (first | exact Bool.noConfusion hc | (simp only [decide_eq_true_eq, decide_eq_false_iff_not, Bool.not_eq_true', Bool.not_eq_false', beq_iff_eq, beq_eq_false_iff_ne, bne_iff_ne, bne_eq_false_iff_eq, Bool.true_eq_false, Bool.false_eq_true] at hc) | skip)) | (refine And.intro (by first | exact trivial | decide | omega | (dsimp only; omega) | exact fun _ _ => rfl | exact ⟨by assumption, by first | exact trivial | decide | omega | (dsimp only; omega)⟩) ?_) | (apply And.intro) | (intro s hs))
  all_goals exact ⟨(_, _), ⟨trivial, by assumption⟩, ⟨leF_int rfl, tapeN_le⟩⟩
abbrev wordE : Entry := tapeE AC.nil (fun _ => True) (fun a (r : Int) => True) (cI .u64).enc
def LT1 : CsL := (75, some boolE) :: (52, some wordE) :: LT0 ++ LR2
theorem LT1_ok : AllOk Try.prog LT1 := append_ok (a := (75, some boolE) :: (52, some wordE) :: LT0) ⟨tapeE_ok ⟨_, Try.func75, rfl, by kernel_rfl⟩ fun n l q a ht hp => bool_ok n l q a.1 ht hp.1 hp.2, tapeE_ok ⟨_, Try.func52, rfl, by kernel_rfl⟩ fun n l q a ht _ => word_ok n l q ht, LT0_ok⟩ LR2_ok
set_option maxRecDepth 10000 in
theorem prefix_ok (n : Nat) (l : List Int) (q : Int) (ht : TapeOk n (rI l) q) :
    ∃ (r : Pfx) (q' : Int), (vpf r = true ∧ byteOk r.ip) ∧ TapeOk n (rI l) q' ∧ MethOk Try.prog 43 [] (tapeN n (rI l) q) ((cE ePfx).enc r) (tapeN n (rI l) q') := by
  refine tape_intro (wd := 1) (Q := mkQ LT1) (by decide) tysOk (q_of LT1_ok) mixed Try.func43 rfl _ (by show 0 + 1 ≤ _; decide) (nff_elem ePfx) ?_
  repeat' (first | (apply And.intro <;> intro hc <;> (first | exact Bool.noConfusion hc | (simp only [decide_eq_true_eq, decide_eq_false_iff_not, Bool.not_eq_true', Bool.not_eq_false', beq_iff_eq, beq_eq_false_iff_ne, bne_iff_ne, bne_eq_false_iff_eq, Bool.true_eq_false, Bool.false_eq_true] at hc) | skip)) | (refine And.intro (by first | exact trivial | decide | omega | (dsimp only; omega) | exact fun _ _ => rfl | exact ⟨by assumption, by first | exact trivial | decide | omega | (dsimp only; omega)⟩) ?_) | (apply And.intro) | (intro s hs))
  · rename_i so hso sn hsn
    show byteOk ((eA .u8 16).rd ((eA .u8 16).cell so))
    rw [eA_rd, hso]; exact of_byteOk _ _
  · rename_i so hso sn hsn sq hsq
    have hb : byteOk so := by rw [hso]; exact of_byteOk _ _
    obtain ⟨b, e⟩ : ∃ b, s = maskP so b := ⟨_, hs.trans (congrArg (maskP · _) (eA_rd (k := .u8) so))⟩
    exact ⟨(s, _), ⟨⟨by rw [e]; exact mask_vpf hb b, by rw [e]; exact mask_byteOk hb b⟩, by assumption⟩, ⟨leF_e (leE_all (by repeat' (first | exact trivial | exact rfl | exact leC_int rfl | exact leC_bool rfl | refine leE_all ?_ | exact leC_bool (by assumption) | apply And.intro))), tapeN_le⟩⟩
set_option maxRecDepth 10000 in
theorem device_ok (n : Nat) (l : List Int) (q : Int) (ht : TapeOk n (rI l) q) :
    ∃ (r : Adr) (q' : Int), True ∧ TapeOk n (rI l) q' ∧ MethOk Try.prog 42 [] (tapeN n (rI l) q) ((cE eAdr).enc r) (tapeN n (rI l) q') := by
  refine tape_intro (wd := 1) (Q := mkQ LT1) (by decide) tysOk (q_of LT1_ok) mixed Try.func42 rfl _ (by show 0 + 1 ≤ _; decide) (nff_elem eAdr) ?_
  repeat' (first | (apply And.intro <;> intro hc <;> (first | exact Bool.noConfusion hc | (simp only [decide_eq_true_eq, decide_eq_false_iff_not, Bool.not_eq_true', Bool.not_eq_false', beq_iff_eq, beq_eq_false_iff_ne, bne_iff_ne, bne_eq_false_iff_eq, Bool.true_eq_false, Bool.false_eq_true] at hc) | skip)) | (refine And.intro (by first | exact trivial | decide | omega | (dsimp only; omega) | exact fun _ _ => rfl | exact ⟨by assumption, by first | exact trivial | decide | omega | (dsimp only; omega)⟩) ?_) | (apply And.intro) | (intro s hs))
  · exact ⟨(⟨3, 0, _⟩, _), ⟨trivial, by assumption⟩, ⟨leF_e (leE_all ⟨⟨⟨trivial, leC_int rfl⟩, leC_int rfl⟩, leC_int rfl⟩), tapeN_le⟩⟩
  · exact ⟨(⟨2, _, 0⟩, _), ⟨trivial, by assumption⟩, ⟨leF_e (leE_all ⟨⟨⟨trivial, leC_int rfl⟩, leC_int rfl⟩, leC_int rfl⟩), tapeN_le⟩⟩
def adrValid (a : Adr) : Bool := if a.mode = 0 then (a.short == 0) && (a.eui == 0) else if a.mode = 2 then (a.eui == 0) else if a.mode = 3 then (a.short == 0) else false
theorem adrValid_ok (a : Adr) : PureOk Try.prog 124 [(cE eAdr).enc a] (cB.enc (adrValid a)) := by
  refine pure_intro (wd := 1) (Q := mkQ LE0) (by decide) tysOk (q_of LE0_ok) mixed Try.func124 rfl _ (by show 1 ≤ _; decide) _ ?_
  repeat' (first | (apply And.intro <;> intro hc <;> (first | exact Bool.noConfusion hc | (simp only [decide_eq_true_eq, decide_eq_false_iff_not, Bool.not_eq_true', Bool.not_eq_false', beq_iff_eq, beq_eq_false_iff_ne, bne_iff_ne, bne_eq_false_iff_eq, Bool.true_eq_false, Bool.false_eq_true] at hc) | skip)) | (refine And.intro (by first | exact trivial | decide | omega | (dsimp only; omega) | exact fun _ _ => rfl) ?_) | (apply And.intro) | (intro s hs))
  all_goals (refine Done.mk (leF_bool ?_); simp [adrValid, *])
def adrSome (a : Adr) : Bool := adrValid a && (a.mode != 0)
def LA0 : CsL := (124, some (pureE (AC.cons (cE eAdr) AC.nil) (fun _ => True) (fun a => adrValid a.1) cB.enc)) :: []
theorem LA0_ok : AllOk Try.prog LA0 := ⟨pureE_ok ⟨_, Try.func124, rfl, by kernel_rfl⟩ fun a _ => adrValid_ok a.1, trivial⟩
theorem adrSome_ok (a : Adr) : PureOk Try.prog 85 [(cE eAdr).enc a] (cB.enc (adrSome a)) := by
  refine pure_intro (wd := 1) (Q := mkQ LA0) (by decide) tysOk (q_of LA0_ok) mixed Try.func85 rfl _ (by show 1 ≤ _; decide) _ ?_
  repeat' (first | (apply And.intro <;> intro hc <;> (first | exact Bool.noConfusion hc | (simp only [decide_eq_true_eq, decide_eq_false_iff_not, Bool.not_eq_true', Bool.not_eq_false', beq_iff_eq, beq_eq_false_iff_ne, bne_iff_ne, bne_eq_false_iff_eq, Bool.true_eq_false, Bool.false_eq_true] at hc) | skip)) | (refine And.intro (by first | exact trivial | decide | omega | (dsimp only; omega) | exact fun _ _ => rfl) ?_) | (apply And.intro) | (intro s hs))
  all_goals (
    have e1 : s = adrValid a := hs.trans (congrArg adrValid (rd_adr a))
    refine Done.mk (leF_bool ?_)
    simp [adrSome, ← e1, hc])
def iidF (a : Adr) : Int × Bool := if adrSome a = true then (if a.mode = 3 then (bits .xor .u64 a.eui 144115188075855872, true) else (IntKind.u64.wrap (1099478073344 + IntKind.u64.wrap a.short), true)) else (0, false)
def encIB (r : Int × Bool) : FV := .tup [.c (.int .u64 r.1), .c (.bool r.2)]
def LA1 : CsL := (85, some (pureE (AC.cons (cE eAdr) AC.nil) (fun _ => True) (fun a => adrSome a.1) cB.enc)) :: LA0
theorem LA1_ok : AllOk Try.prog LA1 := ⟨pureE_ok ⟨_, Try.func85, rfl, by kernel_rfl⟩ fun a _ => adrSome_ok a.1, LA0_ok⟩
theorem iid_ok (a : Adr) : PureOk Try.prog 46 [(cE eAdr).enc a] (encIB (iidF a)) := by
  refine pure_intro (wd := 1) (Q := mkQ LA1) (by decide) tysOk (q_of LA1_ok) mixed Try.func46 rfl _ (by show 1 ≤ _; decide) _ ?_
  repeat' (first | (apply And.intro <;> intro hc <;> (first | exact Bool.noConfusion hc | (simp only [decide_eq_true_eq, decide_eq_false_iff_not, Bool.not_eq_true', Bool.not_eq_false', beq_iff_eq, beq_eq_false_iff_ne, bne_iff_ne, bne_eq_false_iff_eq, Bool.true_eq_false, Bool.false_eq_true] at hc) | skip)) | (refine And.intro (by first | exact trivial | decide | omega | (dsimp only; omega) | exact fun _ _ => rfl) ?_) | (apply And.intro) | (intro s hs))
  all_goals (
    have e1 : s = adrSome a := hs.trans (congrArg adrSome (rd_adr a))
    clear hs
    subst e1
    refine Done.mk (leF_tup ⟨leC_int ?_, leC_bool ?_, trivial⟩) <;> simp [iidF, *])
def setV (a : Fin 16 → Int) (i : Nat) (v : Int) : Fin 16 → Int := fun q => if q.1 = i then v else a q
theorem setV_ok {a : Fin 16 → Int} {i : Nat} {v : Int} (ha : byteOk a) (hv : 0 ≤ v ∧ v < 256) : byteOk (setV a i v) := ⟨fun q => by
  unfold setV
  split
  · exact hv
  · exact ha.q q⟩
theorem setV_at {a : Fin 16 → Int} {i off j : Nat} {v : Int} (h : off = i) (hj : j < 16) : (bif Nat.ble off j && Nat.blt j (off + 1) then v else vget a j) = vget (setV a i v) j := by
  rw [vget_lt _ hj, vget_lt _ hj]
  unfold setV
  by_cases e : j = i
  · rw [rng_in (by omega), cond_true, if_pos e]
  · rw [rng_out (by omega), cond_false, if_neg e]
theorem u8r (z : Int) : 0 ≤ IntKind.u8.wrap z ∧ IntKind.u8.wrap z < 256 := by
  simp only [IntKind.wrap, IntKind.signed, IntKind.bits]
  constructor
  · exact Int.emod_nonneg _ (by decide)
  · exact Int.emod_lt_of_pos _ (by decide)
structure GrpS (n : Nat) (l : List Int) where
  i : Nat
  a : Fin 16 → Int
  q : Int
  hi : i ≤ 15
  ha : byteOk a
  ht : TapeOk n (rI l) q
set_option maxRecDepth 10000 in
theorem group_ok (n : Nat) (l : List Int) (q : Int) (ht : TapeOk n (rI l) q) :
    ∃ (r : Fin 16 → Int) (q' : Int), byteOk r ∧ TapeOk n (rI l) q' ∧ MethOk Try.prog 62 [] (tapeN n (rI l) q) ((cE (eA .u8 16)).enc r) (tapeN n (rI l) q') := by
  refine tape_intro (wd := 1) (Q := mkQ LT1) (by decide) tysOk (q_of LT1_ok) mixed Try.func62 rfl _ (by show 0 + 1 ≤ _; decide) (nff_elem (eA .u8 16)) ?_
  repeat' (first | (apply And.intro <;> intro hc <;> (first | exact Bool.noConfusion hc | (simp only [decide_eq_true_eq, decide_eq_false_iff_not, Bool.not_eq_true', Bool.not_eq_false', beq_iff_eq, beq_eq_false_iff_ne, bne_iff_ne, bne_eq_false_iff_eq, Bool.true_eq_false, Bool.false_eq_true] at hc) | skip)) | (refine And.intro (by first | exact trivial | decide | omega | (dsimp only; omega) | exact fun _ _ => rfl | exact ⟨by assumption, by first | exact trivial | decide | omega | (dsimp only; omega)⟩) ?_) | (apply And.intro) | (intro s hs))
  · rename_i s1 hs1
    refine loop_intro (mono_of LT1_ok) (fun s : GrpS n l => (⟨[(0, one (.ptr 0 0 0 false)), (2, one (.ptr 1 0 0 false)), (3, one (.ptr 3 0 0 false)), (4, one (.int .i64 (s.i : Int)))],
      [(0, some (tapeN n (rI l) s.q)), (1, some ⟨24, 1, 16, true, fun _ _ => .top⟩), (3, some ⟨24, 1, 16, true, fun _ => (eA .u8 16).cell s.a⟩)], 50⟩ : Hd)) (fun s => s.i) (fun _ => rfl) ?_ ⟨15, fun q => if q.1 = 0 then 255 else if q.1 = 1 then IntKind.u8.wrap s1 else 0, _, by omega, ⟨fun q => by have := u8r s1; split <;> (try split) <;> omega⟩, hs⟩ [] ?_
    · rintro ⟨i, a, q1, hi, ha, ht1⟩
      dsimp only at hi ⊢
      repeat' (first | (apply And.intro <;> intro hc <;> (first | exact Bool.noConfusion hc | (simp only [decide_eq_true_eq, decide_eq_false_iff_not, Bool.not_eq_true', Bool.not_eq_false', beq_iff_eq, beq_eq_false_iff_ne, bne_iff_ne, bne_eq_false_iff_eq, Bool.true_eq_false, Bool.false_eq_true] at hc) | skip)) | (refine And.intro (by first | exact trivial | decide | omega | (dsimp only; omega) | exact fun _ _ => rfl | exact ⟨by assumption, by first | exact trivial | decide | omega | (dsimp only; omega)⟩) ?_) | (apply And.intro) | (intro s hs))
      · rename_i s1 hs1 sq1 hsq1 s2 hs2
        have hs1' : 0 ≤ s1 ∧ s1 < 15 := hs1
        have hw : IntKind.i64.wrap (15 - s1) = 15 - s1 := IntWalk.i64_in _ (by omega)
        have hc' : IntKind.i64.wrap (15 - s1) < (i : Int) := by assumption
        have hi2 : 1 ≤ i := by omega
        refine ⟨⟨i - 1, setV a i (IntKind.u8.wrap s2), _, by omega, setV_ok ha (u8r _), hs⟩, [], by dsimp only; omega, rfl, ?_, ?_⟩
        · repeat' (first | exact trivial | exact rfl | exact leF_ptr rfl | exact leF_int rfl | exact leF_bool rfl | exact leF_cl (cl_slB _ _) | exact leF_cl (cl_slR _ _) | exact leF_cl (cl_ll _ _) | exact leF_c (leC_os rfl rfl) | refine leF_int ?_ | refine leF_bool ?_ | exact leN_varA (fun _ _ => (Elem.flat _ _ _).le) | exact leN_varA (fun _ _ => leC_top) | apply And.intro)
          refine (IntWalk.i64_in _ ?_).trans ?_
          · constructor <;> omega
          · dsimp only
            omega
        · repeat' (first | exact trivial | exact rfl | exact leF_ptr rfl | exact leF_int rfl | exact leF_bool rfl | exact leF_cl (cl_slB _ _) | exact leF_cl (cl_slR _ _) | exact leF_cl (cl_ll _ _) | exact leF_c (leC_os rfl rfl) | refine leF_int ?_ | refine leF_bool ?_ | exact leN_varA (fun _ _ => (Elem.flat _ _ _).le) | exact leN_varA (fun _ _ => leC_top) | apply And.intro)
          · exact tapeN_le
          · refine leN_varA fun j hj => ?_
            exact leC_int (setV_at (j := j) (by omega) hj)
      · exact ⟨(a, _), ⟨ha, by assumption⟩, ⟨leF_e (leE_all (by repeat' (first | exact trivial | exact rfl | exact leC_int rfl | exact leC_bool rfl | refine leE_all ?_ | exact leC_bool (by assumption) | apply And.intro))), tapeN_le⟩⟩
    · refine ⟨rfl, ?_, ?_⟩
      · repeat' (first | exact trivial | exact rfl | exact leF_ptr rfl | exact leF_int rfl | exact leF_bool rfl | exact leF_cl (cl_slB _ _) | exact leF_cl (cl_slR _ _) | exact leF_cl (cl_ll _ _) | exact leF_c (leC_os rfl rfl) | refine leF_int ?_ | refine leF_bool ?_ | exact leN_varA (fun _ _ => (Elem.flat _ _ _).le) | exact leN_varA (fun _ _ => leC_top) | apply And.intro)
      · repeat' (first | exact trivial | exact rfl | exact leF_ptr rfl | exact leF_int rfl | exact leF_bool rfl | exact leF_cl (cl_slB _ _) | exact leF_cl (cl_slR _ _) | exact leF_cl (cl_ll _ _) | exact leF_c (leC_os rfl rfl) | refine leF_int ?_ | refine leF_bool ?_ | exact leN_varA (fun _ _ => (Elem.flat _ _ _).le) | exact leN_varA (fun _ _ => leC_top) | apply And.intro)
        · exact tapeN_le
        · refine leN_var ?_
          repeat' (first | exact trivial | exact leC_int rfl | apply And.intro)
  · skip
    refine loop_intro (mono_of LT1_ok) (fun s : GrpS n l => (⟨[(0, one (.ptr 0 0 0 false)), (2, one (.ptr 1 0 0 false)), (3, one (.ptr 3 0 0 false)), (4, one (.int .i64 (s.i : Int)))],
      [(0, some (tapeN n (rI l) s.q)), (1, some ⟨24, 1, 16, true, fun _ _ => .top⟩), (3, some ⟨24, 1, 16, true, fun _ => (eA .u8 16).cell s.a⟩)], 50⟩ : Hd)) (fun s => s.i) (fun _ => rfl) ?_ ⟨15, fun q => if q.1 = 0 then 255 else if q.1 = 1 then 2 else 0, _, by omega, ⟨fun q => by split <;> (try split) <;> omega⟩, hs⟩ [] ?_
    · rintro ⟨i, a, q1, hi, ha, ht1⟩
      dsimp only at hi ⊢
      repeat' (first | (apply And.intro <;> intro hc <;> (first | exact Bool.noConfusion hc | (simp only [decide_eq_true_eq, decide_eq_false_iff_not, Bool.not_eq_true', Bool.not_eq_false', beq_iff_eq, beq_eq_false_iff_ne, bne_iff_ne, bne_eq_false_iff_eq, Bool.true_eq_false, Bool.false_eq_true] at hc) | skip)) | (refine And.intro (by first | exact trivial | decide | omega | (dsimp only; omega) | exact fun _ _ => rfl | exact ⟨by assumption, by first | exact trivial | decide | omega | (dsimp only; omega)⟩) ?_) | (apply And.intro) | (intro s hs))
      · rename_i s1 hs1 sq1 hsq1 s2 hs2
        have hs1' : 0 ≤ s1 ∧ s1 < 15 := hs1
        have hw : IntKind.i64.wrap (15 - s1) = 15 - s1 := IntWalk.i64_in _ (by omega)
        have hc' : IntKind.i64.wrap (15 - s1) < (i : Int) := by assumption
        have hi2 : 1 ≤ i := by omega
        refine ⟨⟨i - 1, setV a i (IntKind.u8.wrap s2), _, by omega, setV_ok ha (u8r _), hs⟩, [], by dsimp only; omega, rfl, ?_, ?_⟩
        · repeat' (first | exact trivial | exact rfl | exact leF_ptr rfl | exact leF_int rfl | exact leF_bool rfl | exact leF_cl (cl_slB _ _) | exact leF_cl (cl_slR _ _) | exact leF_cl (cl_ll _ _) | exact leF_c (leC_os rfl rfl) | refine leF_int ?_ | refine leF_bool ?_ | exact leN_varA (fun _ _ => (Elem.flat _ _ _).le) | exact leN_varA (fun _ _ => leC_top) | apply And.intro)
          refine (IntWalk.i64_in _ ?_).trans ?_
          · constructor <;> omega
          · dsimp only
            omega
        · repeat' (first | exact trivial | exact rfl | exact leF_ptr rfl | exact leF_int rfl | exact leF_bool rfl | exact leF_cl (cl_slB _ _) | exact leF_cl (cl_slR _ _) | exact leF_cl (cl_ll _ _) | exact leF_c (leC_os rfl rfl) | refine leF_int ?_ | refine leF_bool ?_ | exact leN_varA (fun _ _ => (Elem.flat _ _ _).le) | exact leN_varA (fun _ _ => leC_top) | apply And.intro)
          · exact tapeN_le
          · refine leN_varA fun j hj => ?_
            exact leC_int (setV_at (j := j) (by omega) hj)
      · exact ⟨(a, _), ⟨ha, by assumption⟩, ⟨leF_e (leE_all (by repeat' (first | exact trivial | exact rfl | exact leC_int rfl | exact leC_bool rfl | refine leE_all ?_ | exact leC_bool (by assumption) | apply And.intro))), tapeN_le⟩⟩
    · refine ⟨rfl, ?_, ?_⟩
      · repeat' (first | exact trivial | exact rfl | exact leF_ptr rfl | exact leF_int rfl | exact leF_bool rfl | exact leF_cl (cl_slB _ _) | exact leF_cl (cl_slR _ _) | exact leF_cl (cl_ll _ _) | exact leF_c (leC_os rfl rfl) | refine leF_int ?_ | refine leF_bool ?_ | exact leN_varA (fun _ _ => (Elem.flat _ _ _).le) | exact leN_varA (fun _ _ => leC_top) | apply And.intro)
      · repeat' (first | exact trivial | exact rfl | exact leF_ptr rfl | exact leF_int rfl | exact leF_bool rfl | exact leF_cl (cl_slB _ _) | exact leF_cl (cl_slR _ _) | exact leF_cl (cl_ll _ _) | exact leF_c (leC_os rfl rfl) | refine leF_int ?_ | refine leF_bool ?_ | exact leN_varA (fun _ _ => (Elem.flat _ _ _).le) | exact leN_varA (fun _ _ => leC_top) | apply And.intro)
        · exact tapeN_le
        · refine leN_var ?_
          repeat' (first | exact trivial | exact leC_int rfl | apply And.intro)
abbrev pfxE : Entry := tapeE AC.nil (fun _ => True) (fun a (r : Pfx) => vpf r = true ∧ byteOk r.ip) (cE ePfx).enc
abbrev devE : Entry := tapeE AC.nil (fun _ => True) (fun a (r : Adr) => True) (cE eAdr).enc
abbrev grpE : Entry := tapeE AC.nil (fun _ => True) (fun a (r : Fin 16 → Int) => byteOk r) (cE (eA .u8 16)).enc
def LT2a : CsL := (43, some pfxE) :: (42, some devE) :: (62, some grpE) :: (46, some (pureE (AC.cons (cE eAdr) AC.nil) (fun _ => True) (fun a => iidF a.1) encIB)) :: []
theorem LT2a_ok : AllOk Try.prog LT2a := ⟨tapeE_ok ⟨_, Try.func43, rfl, by kernel_rfl⟩ fun n l q a ht hp => prefix_ok n l q ht, tapeE_ok ⟨_, Try.func42, rfl, by kernel_rfl⟩ fun n l q a ht hp => device_ok n l q ht, tapeE_ok ⟨_, Try.func62, rfl, by kernel_rfl⟩ fun n l q a ht hp => group_ok n l q ht, pureE_ok ⟨_, Try.func46, rfl, by kernel_rfl⟩ fun a _ => iid_ok a.1, trivial⟩
def LT2 : CsL := LT2a ++ LT1
theorem LT2_ok : AllOk Try.prog LT2 := append_ok LT2a_ok LT1_ok
end Go.Proofs.Ytjknkfjhcapocaa.AX
