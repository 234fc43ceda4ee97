/- Package metric: Valid, isTime, ValidChoice, ValidOptions, and their references (by AX2). -/
import Derived.Test.YtolliidpmgncdaaTp
namespace Go.Proofs.Ytolliidpmgncdaa.AX
open Go.RowKit
set_option linter.unusedVariables false
set_option linter.unusedSimpArgs false
structure Opt where
  nb : Int
  cost : Int
structure Cho where
  nb : Int
  cost : Int
  bt : Int
instance : Inhabited Opt := ⟨⟨0, 0⟩⟩
instance : Inhabited Cho := ⟨⟨0, 0, 0⟩⟩
def eOpC (x : Opt) (j : Nat) : CV := bif Nat.beq j 0 then .int .u64 x.nb else (.int .i64 x.cost)
def eOp : Elem Opt where
  sz := 2
  cell := eOpC
  rd g := ⟨valI (g 0), valI (g 1)⟩
  ok g := isK .u64 (g 0) && isK .i64 (g 1)
  ok_eq g h j hj := by
    simp only [Bool.and_eq_true] at h
    unfold eOpC
    by_cases c0 : j < 1
    · have e : j = 0 := by omega
      subst e
      exact isK_eq h.1
    by_cases c1 : j < 2
    · have e : j = 1 := by omega
      subst e
      exact isK_eq h.2
    omega
  flat a j := by
    unfold eOpC
    cases Nat.beq j 0 with
    | true => exact flat_int
    | false =>
    exact flat_int
theorem eOp_sz : 0 < eOp.sz := by decide
theorem eOp_rd (x : Opt) : eOp.rd (eOp.cell x) = x := by
  show (⟨x.nb, x.cost⟩ : Opt) = x
  rfl
theorem eOp_ok (x : Opt) : eOp.ok (eOp.cell x) = true := rfl
def eChC (x : Cho) (j : Nat) : CV := bif Nat.beq j 0 then .int .u64 x.nb else bif Nat.beq j 1 then .int .i64 x.cost else (.int .i64 x.bt)
def eCh : Elem Cho where
  sz := 3
  cell := eChC
  rd g := ⟨valI (g 0), valI (g 1), valI (g 2)⟩
  ok g := isK .u64 (g 0) && isK .i64 (g 1) && isK .i64 (g 2)
  ok_eq g h j hj := by
    simp only [Bool.and_eq_true] at h
    unfold eChC
    by_cases c0 : j < 1
    · have e : j = 0 := by omega
      subst e
      exact isK_eq h.1.1
    by_cases c1 : j < 2
    · have e : j = 1 := by omega
      subst e
      exact isK_eq h.1.2
    by_cases c2 : j < 3
    · have e : j = 2 := by omega
      subst e
      exact isK_eq h.2
    omega
  flat a j := by
    unfold eChC
    cases Nat.beq j 0 with
    | true => exact flat_int
    | false =>
    cases Nat.beq j 1 with
    | true => exact flat_int
    | false =>
    exact flat_int
theorem eCh_sz : 0 < eCh.sz := by decide
theorem eCh_rd (x : Cho) : eCh.rd (eCh.cell x) = x := by
  show (⟨x.nb, x.cost, x.bt⟩ : Cho) = x
  rfl
theorem eCh_ok (x : Cho) : eCh.ok (eCh.cell x) = true := rfl
theorem toL_op (l : List Opt) : toL eOp l.length (rowF eOp l) = l := toL_row eOp_rd l
theorem rd_op (b : Opt) : (eOp.rd fun q => eOp.cell b (0 + q)) = b := rfl
theorem rd_ch (b : Cho) : (eCh.rd fun q => eCh.cell b (0 + q)) = b := rfl
def vt (t : Int) : Bool := decide (0 ≤ t) && decide (t ≤ 1099511627776)
theorem vt_rng {t : Int} : vt t = true ↔ 0 ≤ t ∧ t ≤ 1099511627776 := by simp [vt]
def mvl (c : Int) : Bool := decide (0 ≤ c) && decide (c ≤ 65535)
theorem mvl_rng {t : Int} : mvl t = true ↔ 0 ≤ t ∧ t ≤ 65535 := by simp [mvl]
theorem mval_ok (c : Int) : PureOk Try.prog 29 [(cI .i64).enc c] (cB.enc (mvl c)) := by
  refine pure_intro (wd := 1) (Q := mkQ LE0) (by decide) tysOk (q_of LE0_ok) mixed Try.func29 rfl _ (by show 1 ≤ _; decide) _ ?_
  repeat' (first | (apply And.intro <;> intro hc <;> (first | exact Bool.noConfusion hc | (simp only [decide_eq_true_eq, decide_eq_false_iff_not, Bool.not_eq_true', Bool.not_eq_false', beq_iff_eq, beq_eq_false_iff_ne, bne_iff_ne, bne_eq_false_iff_eq, Bool.true_eq_false, Bool.false_eq_true] at hc) | skip)) | (refine And.intro (by first | exact trivial | decide | omega | (dsimp only; omega) | exact fun _ _ => rfl) ?_) | (apply And.intro) | (intro s hs))
  all_goals (refine Done.mk (leF_bool ?_); simp [mvl, *])
theorem rmval_ok (c : Int) : PureOk Try.prog 30 [(cI .i64).enc c] (cB.enc (mvl c)) := by
  refine pure_intro (wd := 1) (Q := mkQ LE0) (by decide) tysOk (q_of LE0_ok) mixed Try.func30 rfl _ (by show 1 ≤ _; decide) _ ?_
  repeat' (first | (apply And.intro <;> intro hc <;> (first | exact Bool.noConfusion hc | (simp only [decide_eq_true_eq, decide_eq_false_iff_not, Bool.not_eq_true', Bool.not_eq_false', beq_iff_eq, beq_eq_false_iff_ne, bne_iff_ne, bne_eq_false_iff_eq, Bool.true_eq_false, Bool.false_eq_true] at hc) | skip)) | (refine And.intro (by first | exact trivial | decide | omega | (dsimp only; omega) | exact fun _ _ => rfl) ?_) | (apply And.intro) | (intro s hs))
  all_goals (refine Done.mk (leF_bool ?_); simp [mvl, *])
theorem mtm_ok (c : Int) : PureOk Try.prog 55 [(cI .i64).enc c] (cB.enc (vt c)) := by
  refine pure_intro (wd := 1) (Q := mkQ LE0) (by decide) tysOk (q_of LE0_ok) mixed Try.func55 rfl _ (by show 1 ≤ _; decide) _ ?_
  repeat' (first | (apply And.intro <;> intro hc <;> (first | exact Bool.noConfusion hc | (simp only [decide_eq_true_eq, decide_eq_false_iff_not, Bool.not_eq_true', Bool.not_eq_false', beq_iff_eq, beq_eq_false_iff_ne, bne_iff_ne, bne_eq_false_iff_eq, Bool.true_eq_false, Bool.false_eq_true] at hc) | skip)) | (refine And.intro (by first | exact trivial | decide | omega | (dsimp only; omega) | exact fun _ _ => rfl) ?_) | (apply And.intro) | (intro s hs))
  all_goals (refine Done.mk (leF_bool ?_); simp [vt, *])
theorem rtm_ok (c : Int) : PureOk Try.prog 47 [(cI .i64).enc c] (cB.enc (vt c)) := by
  refine pure_intro (wd := 1) (Q := mkQ LE0) (by decide) tysOk (q_of LE0_ok) mixed Try.func47 rfl _ (by show 1 ≤ _; decide) _ ?_
  repeat' (first | (apply And.intro <;> intro hc <;> (first | exact Bool.noConfusion hc | (simp only [decide_eq_true_eq, decide_eq_false_iff_not, Bool.not_eq_true', Bool.not_eq_false', beq_iff_eq, beq_eq_false_iff_ne, bne_iff_ne, bne_eq_false_iff_eq, Bool.true_eq_false, Bool.false_eq_true] at hc) | skip)) | (refine And.intro (by first | exact trivial | decide | omega | (dsimp only; omega) | exact fun _ _ => rfl) ?_) | (apply And.intro) | (intro s hs))
  all_goals (refine Done.mk (leF_bool ?_); simp [vt, *])
abbrev I1 : AC (Int × Unit) := AC.cons (cI .i64) AC.nil
def LX0 : CsL := (29, some (pureE I1 (fun _ => True) (fun a => mvl a.1) cB.enc)) :: (30, some (pureE I1 (fun _ => True) (fun a => mvl a.1) cB.enc)) ::
  (55, some (pureE I1 (fun _ => True) (fun a => vt a.1) cB.enc)) :: (47, some (pureE I1 (fun _ => True) (fun a => vt a.1) cB.enc)) :: []
theorem LX0_ok : AllOk Try.prog LX0 := ⟨pureE_ok ⟨_, Try.func29, rfl, by kernel_rfl⟩ fun a _ => mval_ok a.1, pureE_ok ⟨_, Try.func30, rfl, by kernel_rfl⟩ fun a _ => rmval_ok a.1, pureE_ok ⟨_, Try.func55, rfl, by kernel_rfl⟩ fun a _ => mtm_ok a.1, pureE_ok ⟨_, Try.func47, rfl, by kernel_rfl⟩ fun a _ => rtm_ok a.1, trivial⟩
def vchoice (c : Cho) : Bool := mvl c.cost && (decide (c.bt = -1) || vt c.bt)
theorem vch_ok (c : Cho) : PureOk Try.prog 53 [(cE eCh).enc c] (cB.enc (vchoice c)) := by
  refine pure_intro (wd := 1) (Q := mkQ LX0) (by decide) tysOk (q_of LX0_ok) mixed Try.func53 rfl _ (by show 1 ≤ _; decide) _ ?_
  repeat' (first | (apply And.intro <;> intro hc <;> (first | exact Bool.noConfusion hc | (simp only [decide_eq_true_eq, decide_eq_false_iff_not, Bool.not_eq_true', Bool.not_eq_false', beq_iff_eq, beq_eq_false_iff_ne, bne_iff_ne, bne_eq_false_iff_eq, Bool.true_eq_false, Bool.false_eq_true, ne_eq, not_true_eq_false] at hc <;> first | exact absurd rfl hc | skip) | skip)) | (refine And.intro (by first | exact trivial | decide | omega | (dsimp only; omega) | exact fun _ _ => rfl | exact ⟨by assumption, by first | exact trivial | decide | omega | (dsimp only; omega)⟩) ?_) | (apply And.intro) | (intro s hs; (first | (have hs' : s = mvl c.cost := hs) | (have hs' : s = vt c.bt := hs)); clear hs; subst hs'))
  all_goals (refine Done.mk (leF_bool ?_); simp [vchoice, *])
theorem rvch_ok (c : Cho) : PureOk Try.prog 58 [(cE eCh).enc c] (cB.enc (vchoice c)) := by
  refine pure_intro (wd := 1) (Q := mkQ LX0) (by decide) tysOk (q_of LX0_ok) mixed Try.func58 rfl _ (by show 1 ≤ _; decide) _ ?_
  repeat' (first | (apply And.intro <;> intro hc <;> (first | exact Bool.noConfusion hc | (simp only [decide_eq_true_eq, decide_eq_false_iff_not, Bool.not_eq_true', Bool.not_eq_false', beq_iff_eq, beq_eq_false_iff_ne, bne_iff_ne, bne_eq_false_iff_eq, Bool.true_eq_false, Bool.false_eq_true, ne_eq, not_true_eq_false] at hc <;> first | exact absurd rfl hc | skip) | skip)) | (refine And.intro (by first | exact trivial | decide | omega | (dsimp only; omega) | exact fun _ _ => rfl | exact ⟨by assumption, by first | exact trivial | decide | omega | (dsimp only; omega)⟩) ?_) | (apply And.intro) | (intro s hs; (first | (have hs' : s = mvl c.cost := hs) | (have hs' : s = vt c.bt := hs)); clear hs; subst hs'))
  all_goals (refine Done.mk (leF_bool ?_); simp [vchoice, *])
def ordN : Option Int → Int → Bool
  | none, _ => true
  | some h, a => decide (h < a)
def opOk (o : Opt) : Bool := decide (o.nb ≠ 0) && mvl o.cost
def voF : Option Int → List Opt → Bool
  | _, [] => true
  | p, o :: l => opOk o && ordN p o.nb && voF (some o.nb) l
def vopts (l : List Opt) : Bool := decide (l.length ≤ 16) && voF none l
def pvO (l : List Opt) (i : Nat) : Option Int := if i = 0 then none else some (l.getD (i - 1) default).nb
theorem vo_step {l : List Opt} {i : Nat} (p : Option Int) (h : i < l.length) : voF p (l.drop i) = (opOk (l.getD i default) && ordN p (l.getD i default).nb && voF (pvO l (i + 1)) (l.drop (i + 1))) := by
  rw [drop_at h, voF]; simp [pvO]
set_option maxHeartbeats 4000000 in
set_option maxRecDepth 20000 in
theorem vopts_ok (l : List Opt) (hn : l.length ≤ 8796093022208) : PureOk Try.prog 54 [(cSl eOp eOp_sz).enc l] (cB.enc (vopts l)) := by
  refine pure_intro (wd := 1) (Q := mkQ LX0) (by decide) tysOk (q_of LX0_ok) mixed Try.func54 rfl _ (by show 1 ≤ _; decide) _ ?_
  repeat' (first | (apply And.intro <;> intro hc <;> (first | exact Bool.noConfusion hc | (simp only [decide_eq_true_eq, decide_eq_false_iff_not, Bool.not_eq_true', Bool.not_eq_false', beq_iff_eq, beq_eq_false_iff_ne, bne_iff_ne, bne_eq_false_iff_eq, Bool.true_eq_false, Bool.false_eq_true] at hc) | skip)) | (refine And.intro (by first | exact trivial | decide | omega | (dsimp only; omega) | exact fun _ _ => rfl) ?_) | (apply And.intro) | (intro s hs))
  · have e : vopts l = false := by unfold vopts; rw [decide_eq_false (by omega)]; rfl
    rw [e]
    exact Done.mk (leF_bool rfl)
  have e : vopts l = voF none l := by unfold vopts; rw [decide_eq_true (by omega)]; rfl
  rw [e]
  refine loop_intro (mono_of LX0_ok) (fun i : {i : Nat // i ≤ l.length ∧ voF none l = voF (pvO l i) (l.drop i)} => (⟨[(0, one (.sl false l.length eOp.sz (rowF eOp l))), (8, one (.sl false l.length eOp.sz (rowF eOp l))), (9, one (.int .i64 (l.length : Int))), (10, one (.int .i64 (i.1 : Int)))], [], 10⟩ : Hd)) (fun i => l.length - i.1) (fun _ => rfl) ?_ ⟨0, by omega, rfl⟩ [] ?_
  · rintro ⟨i, hi, hv⟩
    dsimp only at hi hv ⊢
    have hcmp : 0 < (i : Int) → (0 ≤ IntKind.i64.wrap ((i : Int) - 1) ∧ IntKind.i64.wrap ((i : Int) - 1) < (l.length : Int)) ∧ pvO l i = some (l.getD (IntKind.i64.wrap ((i : Int) - 1)).toNat default).nb := fun h => by
      rw [show IntKind.i64.wrap ((i : Int) - 1) = (i : Int) - 1 from IntWalk.i64_in _ (by omega)]
      exact ⟨⟨by omega, by omega⟩, by rw [pvO, if_neg (by omega), show ((i : Int) - 1).toNat = i - 1 by omega]⟩
    have hp0 : ¬ 0 < (i : Int) → pvO l i = none := fun h => by rw [pvO, if_pos (by omega)]
    repeat' (first | (apply And.intro <;> intro hc <;> (first | exact Bool.noConfusion hc | (simp only [decide_eq_true_eq, decide_eq_false_iff_not, Bool.not_eq_true', Bool.not_eq_false', beq_iff_eq, beq_eq_false_iff_ne, bne_iff_ne, bne_eq_false_iff_eq, Bool.true_eq_false, Bool.false_eq_true, ne_eq, not_true_eq_false] at hc <;> first | exact absurd rfl hc | skip) | skip)) | (refine And.intro (by first | exact trivial | decide | omega | (dsimp only; omega) | exact fun _ _ => rfl | exact ⟨by assumption, by first | exact trivial | decide | omega | (dsimp only; omega)⟩) ?_) | (apply And.intro) | (intro s hs; (have hs' : s = mvl (l.getD i default).cost := hs); clear hs; subst hs'))
    all_goals first
      | exact (hcmp (by assumption)).1.1
      | exact (hcmp (by assumption)).1.2
      | (refine Done.mk (leF_bool ?_)
         have hlt : i < l.length := by omega
         symm
         rw [hv, vo_step _ hlt, Bool.eq_false_iff]
         intro h
         simp only [Bool.and_eq_true, opOk, decide_eq_true_eq] at h
         obtain ⟨⟨⟨h1, h2⟩, h4⟩, _⟩ := h
         first
           | exact h1 (by assumption)
           | (have q2 : mvl (l.getD i default).cost = false := by assumption
              rw [h2] at q2; cases q2)
           | (have q2 : 0 < (i : Int) := by assumption
              have q3 : (l.getD i default).nb ≤ (l.getD (IntKind.i64.wrap ((i : Int) - 1)).toNat default).nb := by assumption
              rw [(hcmp q2).2] at h4
              simp only [ordN, decide_eq_true_eq] at h4
              omega))
      | (have hlt : i < l.length := by omega
         have b1 : ¬ (l.getD i default).nb = 0 := by assumption
         have b2 : mvl (l.getD i default).cost = true := by assumption
         have b4 : ordN (pvO l i) (l.getD i default).nb = true := by
           first
             | (rw [hp0 (by assumption)]; rfl)
             | (have q2 : 0 < (i : Int) := by assumption
                have q3 : ¬ (l.getD i default).nb ≤ (l.getD (IntKind.i64.wrap ((i : Int) - 1)).toNat default).nb := by assumption
                rw [(hcmp q2).2]
                simp only [ordN, decide_eq_true_eq]
                omega)
         refine ⟨⟨i + 1, by omega, ?_⟩, [], by dsimp only; omega, rfl, ?_, ?_⟩
         · rw [hv, vo_step _ hlt, opOk, b4, b2, decide_eq_true b1]; rfl
         · repeat' (first | exact trivial | exact rfl | exact leF_ptr rfl | exact leF_int rfl | exact leF_bool rfl | exact leF_cl (cl_slB _ _) | exact leF_cl (cl_slR _ _) | exact leF_c (leC_os rfl rfl) | refine leF_int ?_ | refine leF_bool ?_ | exact leN_varA (fun _ _ => (Elem.flat _ _ _).le) | exact leN_varA (fun _ _ => leC_top) | apply And.intro)
           (dsimp only; rw [IntWalk.i64_in _ (by omega)]; omega)
         · repeat' (first | exact trivial | exact rfl | exact leF_ptr rfl | exact leF_int rfl | exact leF_bool rfl | exact leF_cl (cl_slB _ _) | exact leF_cl (cl_slR _ _) | exact leF_c (leC_os rfl rfl) | refine leF_int ?_ | refine leF_bool ?_ | exact leN_varA (fun _ _ => (Elem.flat _ _ _).le) | exact leN_varA (fun _ _ => leC_top) | apply And.intro))
      | (refine Done.mk (leF_bool ?_)
         have hil : i = l.length := by omega
         rw [hv, hil, List.drop_length]; rfl)
  · refine ⟨rfl, ?_, ?_⟩
    · repeat' (first | exact trivial | exact rfl | exact leF_ptr rfl | exact leF_int rfl | exact leF_bool rfl | exact leF_cl (cl_slB _ _) | exact leF_cl (cl_slR _ _) | exact leF_c (leC_os rfl rfl) | refine leF_int ?_ | refine leF_bool ?_ | exact leN_varA (fun _ _ => (Elem.flat _ _ _).le) | exact leN_varA (fun _ _ => leC_top) | apply And.intro)
    · repeat' (first | exact trivial | exact rfl | exact leF_ptr rfl | exact leF_int rfl | exact leF_bool rfl | exact leF_cl (cl_slB _ _) | exact leF_cl (cl_slR _ _) | exact leF_c (leC_os rfl rfl) | refine leF_int ?_ | refine leF_bool ?_ | exact leN_varA (fun _ _ => (Elem.flat _ _ _).le) | exact leN_varA (fun _ _ => leC_top) | apply And.intro)
set_option maxHeartbeats 4000000 in
set_option maxRecDepth 20000 in
theorem rvopts_ok (l : List Opt) (hn : l.length ≤ 8796093022208) : PureOk Try.prog 59 [(cSl eOp eOp_sz).enc l] (cB.enc (vopts l)) := by
  refine pure_intro (wd := 1) (Q := mkQ LX0) (by decide) tysOk (q_of LX0_ok) mixed Try.func59 rfl _ (by show 1 ≤ _; decide) _ ?_
  repeat' (first | (apply And.intro <;> intro hc <;> (first | exact Bool.noConfusion hc | (simp only [decide_eq_true_eq, decide_eq_false_iff_not, Bool.not_eq_true', Bool.not_eq_false', beq_iff_eq, beq_eq_false_iff_ne, bne_iff_ne, bne_eq_false_iff_eq, Bool.true_eq_false, Bool.false_eq_true] at hc) | skip)) | (refine And.intro (by first | exact trivial | decide | omega | (dsimp only; omega) | exact fun _ _ => rfl) ?_) | (apply And.intro) | (intro s hs))
  · have e : vopts l = false := by unfold vopts; rw [decide_eq_false (by omega)]; rfl
    rw [e]
    exact Done.mk (leF_bool rfl)
  have e : vopts l = voF none l := by unfold vopts; rw [decide_eq_true (by omega)]; rfl
  rw [e]
  refine loop_intro (mono_of LX0_ok) (fun i : {i : Nat // i ≤ l.length ∧ voF none l = voF (pvO l i) (l.drop i)} => (⟨[(0, one (.sl false l.length eOp.sz (rowF eOp l))), (8, one (.int .i64 (l.length : Int))), (9, one (.int .i64 (i.1 : Int)))], [], 10⟩ : Hd)) (fun i => l.length - i.1) (fun _ => rfl) ?_ ⟨0, by omega, rfl⟩ [] ?_
  · rintro ⟨i, hi, hv⟩
    dsimp only at hi hv ⊢
    have hcmp : 0 < (i : Int) → (0 ≤ IntKind.i64.wrap ((i : Int) - 1) ∧ IntKind.i64.wrap ((i : Int) - 1) < (l.length : Int)) ∧ pvO l i = some (l.getD (IntKind.i64.wrap ((i : Int) - 1)).toNat default).nb := fun h => by
      rw [show IntKind.i64.wrap ((i : Int) - 1) = (i : Int) - 1 from IntWalk.i64_in _ (by omega)]
      exact ⟨⟨by omega, by omega⟩, by rw [pvO, if_neg (by omega), show ((i : Int) - 1).toNat = i - 1 by omega]⟩
    have hp0 : ¬ 0 < (i : Int) → pvO l i = none := fun h => by rw [pvO, if_pos (by omega)]
    repeat' (first | (apply And.intro <;> intro hc <;> (first | exact Bool.noConfusion hc | (simp only [decide_eq_true_eq, decide_eq_false_iff_not, Bool.not_eq_true', Bool.not_eq_false', beq_iff_eq, beq_eq_false_iff_ne, bne_iff_ne, bne_eq_false_iff_eq, Bool.true_eq_false, Bool.false_eq_true, ne_eq, not_true_eq_false] at hc <;> first | exact absurd rfl hc | skip) | skip)) | (refine And.intro (by first | exact trivial | decide | omega | (dsimp only; omega) | exact fun _ _ => rfl | exact ⟨by assumption, by first | exact trivial | decide | omega | (dsimp only; omega)⟩) ?_) | (apply And.intro) | (intro s hs; (have hs' : s = mvl (l.getD i default).cost := hs); clear hs; subst hs'))
    all_goals first
      | exact (hcmp (by assumption)).1.1
      | exact (hcmp (by assumption)).1.2
      | (refine Done.mk (leF_bool ?_)
         have hlt : i < l.length := by omega
         symm
         rw [hv, vo_step _ hlt, Bool.eq_false_iff]
         intro h
         simp only [Bool.and_eq_true, opOk, decide_eq_true_eq] at h
         obtain ⟨⟨⟨h1, h2⟩, h4⟩, _⟩ := h
         first
           | exact h1 (by assumption)
           | (have q2 : mvl (l.getD i default).cost = false := by assumption
              rw [h2] at q2; cases q2)
           | (have q2 : 0 < (i : Int) := by assumption
              have q3 : (l.getD i default).nb ≤ (l.getD (IntKind.i64.wrap ((i : Int) - 1)).toNat default).nb := by assumption
              rw [(hcmp q2).2] at h4
              simp only [ordN, decide_eq_true_eq] at h4
              omega))
      | (have hlt : i < l.length := by omega
         have b1 : ¬ (l.getD i default).nb = 0 := by assumption
         have b2 : mvl (l.getD i default).cost = true := by assumption
         have b4 : ordN (pvO l i) (l.getD i default).nb = true := by
           first
             | (rw [hp0 (by assumption)]; rfl)
             | (have q2 : 0 < (i : Int) := by assumption
                have q3 : ¬ (l.getD i default).nb ≤ (l.getD (IntKind.i64.wrap ((i : Int) - 1)).toNat default).nb := by assumption
                rw [(hcmp q2).2]
                simp only [ordN, decide_eq_true_eq]
                omega)
         refine ⟨⟨i + 1, by omega, ?_⟩, [], by dsimp only; omega, rfl, ?_, ?_⟩
         · rw [hv, vo_step _ hlt, opOk, b4, b2, decide_eq_true b1]; rfl
         · repeat' (first | exact trivial | exact rfl | exact leF_ptr rfl | exact leF_int rfl | exact leF_bool rfl | exact leF_cl (cl_slB _ _) | exact leF_cl (cl_slR _ _) | exact leF_c (leC_os rfl rfl) | refine leF_int ?_ | refine leF_bool ?_ | exact leN_varA (fun _ _ => (Elem.flat _ _ _).le) | exact leN_varA (fun _ _ => leC_top) | apply And.intro)
           (dsimp only; rw [IntWalk.i64_in _ (by omega)]; omega)
         · repeat' (first | exact trivial | exact rfl | exact leF_ptr rfl | exact leF_int rfl | exact leF_bool rfl | exact leF_cl (cl_slB _ _) | exact leF_cl (cl_slR _ _) | exact leF_c (leC_os rfl rfl) | refine leF_int ?_ | refine leF_bool ?_ | exact leN_varA (fun _ _ => (Elem.flat _ _ _).le) | exact leN_varA (fun _ _ => leC_top) | apply And.intro))
      | (refine Done.mk (leF_bool ?_)
         have hil : i = l.length := by omega
         rw [hv, hil, List.drop_length]; rfl)
  · refine ⟨rfl, ?_, ?_⟩
    · repeat' (first | exact trivial | exact rfl | exact leF_ptr rfl | exact leF_int rfl | exact leF_bool rfl | exact leF_cl (cl_slB _ _) | exact leF_cl (cl_slR _ _) | exact leF_c (leC_os rfl rfl) | refine leF_int ?_ | refine leF_bool ?_ | exact leN_varA (fun _ _ => (Elem.flat _ _ _).le) | exact leN_varA (fun _ _ => leC_top) | apply And.intro)
    · repeat' (first | exact trivial | exact rfl | exact leF_ptr rfl | exact leF_int rfl | exact leF_bool rfl | exact leF_cl (cl_slB _ _) | exact leF_cl (cl_slR _ _) | exact leF_c (leC_os rfl rfl) | refine leF_int ?_ | refine leF_bool ?_ | exact leN_varA (fun _ _ => (Elem.flat _ _ _).le) | exact leN_varA (fun _ _ => leC_top) | apply And.intro)
abbrev Ao : AC (List Opt × Unit) := AC.cons (cSl eOp eOp_sz) AC.nil
def LX1 : CsL := (53, some (pureE (AC.cons (cE eCh) AC.nil) (fun _ => True) (fun a => vchoice a.1) cB.enc)) :: (58, some (pureE (AC.cons (cE eCh) AC.nil) (fun _ => True) (fun a => vchoice a.1) cB.enc)) ::
  (54, some (pureE Ao (fun a => a.1.length ≤ 8796093022208) (fun a => vopts a.1) cB.enc)) :: (59, some (pureE Ao (fun a => a.1.length ≤ 8796093022208) (fun a => vopts a.1) cB.enc)) :: LX0
theorem LX1_ok : AllOk Try.prog LX1 := ⟨pureE_ok ⟨_, Try.func53, rfl, by kernel_rfl⟩ fun a _ => vch_ok a.1, pureE_ok ⟨_, Try.func58, rfl, by kernel_rfl⟩ fun a _ => rvch_ok a.1, pureE_ok ⟨_, Try.func54, rfl, by kernel_rfl⟩ fun a h => vopts_ok a.1 h, pureE_ok ⟨_, Try.func59, rfl, by kernel_rfl⟩ fun a h => rvopts_ok a.1 h, LX0_ok⟩
end Go.Proofs.Ytolliidpmgncdaa.AX
