/- The reference of layer 12: Time, compresses, expands, Valid, ForDecompression (by AX2). -/
import Derived.Test.YtcnfjifokeancaaLp
import Derived.Test.YtcnfjifokeancaaRf2
namespace Go.Proofs.Ytcnfjifokeancaa.AX
open Go.RowKit
set_option linter.unusedVariables false
set_option linter.unusedSimpArgs false
theorem rtime_ok (t : Int) : PureOk Try.prog 76 [(cI .i64).enc t] (cB.enc (vt t)) := by
  refine pure_intro (wd := 1) (Q := mkQ LE0) (by decide) tysOk (q_of LE0_ok) mixed Try.func76 rfl _ (by show 1 ≤ _; decide) _ ?_
  repeat' (first | (apply And.intro <;> intro hc <;> (first | exact Bool.noConfusion hc | (simp only [decide_eq_true_eq, decide_eq_false_iff_not, Bool.not_eq_true', Bool.not_eq_false', beq_iff_eq, beq_eq_false_iff_ne, bne_iff_ne, bne_eq_false_iff_eq, Bool.true_eq_false, Bool.false_eq_true] at hc) | skip)) | (refine And.intro (by first | exact trivial | decide | omega | (dsimp only; omega) | exact fun _ _ => rfl) ?_) | (apply And.intro) | (intro s hs))
  all_goals (refine Done.mk (leF_bool ?_); simp [vt, *])
theorem rcompr_ok (c : Ctx) (now : Int) : PureOk Try.prog 78 [(cE eCtx).enc c, (cI .i64).enc now] (cB.enc (compr c now)) := by
  refine pure_intro (wd := 1) (Q := mkQ LE0) (by decide) tysOk (q_of LE0_ok) mixed Try.func78 rfl _ (by show 2 ≤ _; decide) _ ?_
  repeat' (first | (apply And.intro <;> intro hc <;> (first | exact Bool.noConfusion hc | (simp only [decide_eq_true_eq, decide_eq_false_iff_not, Bool.not_eq_true', Bool.not_eq_false', beq_iff_eq, beq_eq_false_iff_ne, bne_iff_ne, bne_eq_false_iff_eq, Bool.true_eq_false, Bool.false_eq_true] at hc) | skip)) | (refine And.intro (by first | exact trivial | decide | omega | (dsimp only; omega) | exact fun _ _ => rfl) ?_) | (apply And.intro) | (intro s hs))
  all_goals (refine Done.mk (leF_bool ?_); simp [compr, *])
theorem rexp_ok (c : Ctx) (now : Int) : PureOk Try.prog 77 [(cE eCtx).enc c, (cI .i64).enc now] (cB.enc (decom c now)) := by
  refine pure_intro (wd := 1) (Q := mkQ LE0) (by decide) tysOk (q_of LE0_ok) mixed Try.func77 rfl _ (by show 2 ≤ _; decide) _ ?_
  repeat' (first | (apply And.intro <;> intro hc <;> (first | exact Bool.noConfusion hc | (simp only [decide_eq_true_eq, decide_eq_false_iff_not, Bool.not_eq_true', Bool.not_eq_false', beq_iff_eq, beq_eq_false_iff_ne, bne_iff_ne, bne_eq_false_iff_eq, Bool.true_eq_false, Bool.false_eq_true] at hc) | skip)) | (refine And.intro (by first | exact trivial | decide | omega | (dsimp only; omega) | exact fun _ _ => rfl) ?_) | (apply And.intro) | (intro s hs))
  all_goals (refine Done.mk (leF_bool ?_); simp [decom, *])
structure bytesL (l : List Ctx) : Prop where
  b : ∀ c ∈ l, byteOk c.ip
  n : l.length ≤ 2932031007317
theorem mem_getD {L : List Ctx} {i : Nat} (h : i < L.length) : L.getD i default ∈ L := by
  rw [List.getD_eq_getElem?_getD, List.getElem?_eq_getElem h]
  exact List.getElem_mem h
def LQ0 : CsL := (76, some (pureE (AC.cons (cI .i64) AC.nil) (fun _ => True) (fun a => vt a.1) cB.enc)) ::
  (78, some (pureE (AC.cons (cE eCtx) (AC.cons (cI .i64) AC.nil)) (fun _ => True) (fun a => compr a.1 a.2.1) cB.enc)) ::
  (77, some (pureE (AC.cons (cE eCtx) (AC.cons (cI .i64) AC.nil)) (fun _ => True) (fun a => decom a.1 a.2.1) cB.enc)) :: LR2
theorem LQ0_ok : AllOk Try.prog LQ0 := ⟨pureE_ok ⟨_, Try.func76, rfl, by kernel_rfl⟩ fun a _ => rtime_ok a.1, pureE_ok ⟨_, Try.func78, rfl, by kernel_rfl⟩ fun a _ => rcompr_ok a.1 a.2.1, pureE_ok ⟨_, Try.func77, rfl, by kernel_rfl⟩ fun a _ => rexp_ok a.1 a.2.1, LR2_ok⟩
def pv (l : List Ctx) (i : Nat) : Int := if i = 0 then -1 else (l.getD (i - 1) default).id
set_option maxHeartbeats 4000000 in
set_option maxRecDepth 20000 in
theorem rvalid_ok (l : List Ctx) (hl : bytesL l) : PureOk Try.prog 65 [(cSl eCtx eCtx_sz).enc l] (cB.enc (validT l)) := by
  have hn := hl.n
  refine pure_intro (wd := 1) (Q := mkQ LQ0) (by decide) tysOk (q_of LQ0_ok) mixed Try.func65 rfl _ (by show 1 ≤ _; decide) _ ?_
  refine loop_intro (mono_of LQ0_ok) (fun i : {i : Nat // i ≤ l.length ∧ validT l = validFrom (pv l i) (l.drop i) ∧ -1 ≤ pv l i} => (⟨[(0, one (.sl false l.length eCtx.sz (rowF eCtx l))), (3, one (.int .i64 (i.1 : Int)))], [], 5⟩ : Hd)) (fun i => l.length - i.1) (fun _ => rfl) ?_ ⟨0, by omega, rfl, by simp [pv]⟩ [] ?_
  · rintro ⟨i, hi, hv, hm⟩
    dsimp only at hi hv hm ⊢
    have w1 : IntKind.i64.wrap ((i : Int) - 1) = (i : Int) - 1 := IntWalk.i64_in _ (by omega)
    have hpv : 0 < (i : Int) → pv l i = (l.getD (IntKind.i64.wrap ((i : Int) - 1)).toNat default).id := fun h => by
      rw [w1, show ((i : Int) - 1).toNat = i - 1 by omega, pv, if_neg (by omega)]
    have hp0 : ¬ 0 < (i : Int) → pv l i = -1 := fun h => by rw [pv, if_pos (by omega)]
    have hps : pv l (i + 1) = (l.getD i default).id := by simp [pv]
    have hpr : ePfx.rd (fun j => eCtx.cell (l.getD i default) (0 + 1 + j)) = pfxOf (l.getD i default) := by simp only [Nat.zero_add]; exact pfx_of_ctx _
    repeat' (first | (apply And.intro <;> intro hc <;> (first | exact Bool.noConfusion hc | (simp only [decide_eq_true_eq, decide_eq_false_iff_not, Bool.not_eq_true', Bool.not_eq_false', beq_iff_eq, beq_eq_false_iff_ne, bne_iff_ne, bne_eq_false_iff_eq, Bool.true_eq_false, Bool.false_eq_true] at hc) | skip)) | (refine And.intro (by first | exact trivial | decide | omega | (dsimp only; omega) | exact fun _ _ => rfl) ?_) | (apply And.intro) | (intro s hs))
    all_goals first
      | (show byteOk (ePfx.rd fun j => eCtx.cell (l.getD i default) (0 + 1 + j)).ip
         rw [hpr]
         exact hl.b _ (mem_getD (by omega)))
      | (refine Done.mk (leF_bool ?_)
         symm
         rw [hv, valid_step _ (show i < l.length by omega), Bool.eq_false_iff]
         intro h
         simp only [Bool.and_eq_true, decide_eq_true_eq] at h
         obtain ⟨⟨⟨⟨h1, h2⟩, h3⟩, h4⟩, _⟩ := h
         first
           | (have q : (l.getD i default).id < 0 := by assumption
              omega)
           | (have q : 16 ≤ (l.getD i default).id := by assumption
              omega)
           | (have q := hpv (by assumption)
              have q2 : (l.getD i default).id ≤ (l.getD (IntKind.i64.wrap ((i : Int) - 1)).toNat default).id := by assumption
              omega)
           | (have q : s = false := by assumption
              have e : s = vt (l.getD i default).til := hs
              rw [e, h4] at q; cases q)
           | (have q : s = false := by assumption
              have e : s = vpf (ePfx.rd fun j => eCtx.cell (l.getD i default) (0 + 1 + j)) := hs
              rw [hpr, h3, q] at e; cases e))
      | (rename_i s1 hs1 c1
         have e1 : s1 = vpf (ePfx.rd fun j => eCtx.cell (l.getD i default) (0 + 1 + j)) := hs1
         rw [hpr] at e1
         have e2 : s = vt (l.getD i default).til := hs
         have g1 : ¬ (l.getD i default).id < 0 := by assumption
         have g2 : ¬ 16 ≤ (l.getD i default).id := by assumption
         have d1 : decide (pv l i < (l.getD i default).id) = true := decide_eq_true (by
           first
             | (have q := hp0 (by assumption)
                omega)
             | (have q := hpv (by assumption)
                have q2 : ¬ (l.getD i default).id ≤ (l.getD (IntKind.i64.wrap ((i : Int) - 1)).toNat default).id := by assumption
                omega))
         have d2 : decide ((l.getD i default).id < 16) = true := decide_eq_true (by omega)
         refine ⟨⟨i + 1, by omega, ?_, by rw [hps]; omega⟩, [], by dsimp only; omega, rfl, ?_, ?_⟩
         · rw [hv, valid_step _ (show i < l.length by omega), hps, d1, d2, ← e1, ← e2, c1, hc]; rfl
         · repeat' (first | exact trivial | exact rfl | exact leF_ptr rfl | exact leF_int rfl | exact leF_bool rfl | exact leF_cl (cl_slB _ _) | exact leF_cl (cl_slR _ _) | exact leF_c (leC_os rfl rfl) | refine leF_int ?_ | refine leF_bool ?_ | exact leN_varA (fun _ _ => (Elem.flat _ _ _).le) | exact leN_varA (fun _ _ => leC_top) | apply And.intro)
           refine (IntWalk.i64_in _ ?_).trans ?_
           · constructor <;> omega
           · dsimp only
             omega
         · repeat' (first | exact trivial | exact rfl | exact leF_ptr rfl | exact leF_int rfl | exact leF_bool rfl | exact leF_cl (cl_slB _ _) | exact leF_cl (cl_slR _ _) | exact leF_c (leC_os rfl rfl) | refine leF_int ?_ | refine leF_bool ?_ | exact leN_varA (fun _ _ => (Elem.flat _ _ _).le) | exact leN_varA (fun _ _ => leC_top) | apply And.intro))
      | (refine Done.mk (leF_bool ?_)
         have hil : i = l.length := by omega
         rw [hv, hil, List.drop_length]; rfl)
  · refine ⟨rfl, ?_, ?_⟩
    · repeat' (first | exact trivial | exact rfl | exact leF_ptr rfl | exact leF_int rfl | exact leF_bool rfl | exact leF_cl (cl_slB _ _) | exact leF_cl (cl_slR _ _) | exact leF_c (leC_os rfl rfl) | refine leF_int ?_ | refine leF_bool ?_ | exact leN_varA (fun _ _ => (Elem.flat _ _ _).le) | exact leN_varA (fun _ _ => leC_top) | apply And.intro)
    · repeat' (first | exact trivial | exact rfl | exact leF_ptr rfl | exact leF_int rfl | exact leF_bool rfl | exact leF_cl (cl_slB _ _) | exact leF_cl (cl_slR _ _) | exact leF_c (leC_os rfl rfl) | refine leF_int ?_ | refine leF_bool ?_ | exact leN_varA (fun _ _ => (Elem.flat _ _ _).le) | exact leN_varA (fun _ _ => leC_top) | apply And.intro)
def LQ1 : CsL := (65, some (pureE (AC.cons (cSl eCtx eCtx_sz) AC.nil) (fun a => bytesL a.1) (fun a => validT a.1) cB.enc)) :: LQ0
theorem LQ1_ok : AllOk Try.prog LQ1 := ⟨pureE_ok ⟨_, Try.func65, rfl, by kernel_rfl⟩ fun a h => rvalid_ok a.1 h, LQ0_ok⟩
end Go.Proofs.Ytcnfjifokeancaa.AX
