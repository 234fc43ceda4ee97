/- The reference of layer 12: ForCompression (by AX2). -/
import Derived.Test.YtcnfjifokeancaaR12
namespace Go.Proofs.Ytcnfjifokeancaa.AX
open Go.RowKit
set_option linter.unusedVariables false
set_option linter.unusedSimpArgs false
structure FcS (l : List Ctx) (a : Fin 16 → Int) (now : Int) where
  i : Nat
  best : Ctx
  found : Bool
  hi : i ≤ l.length
  h1 : validT l = true ∧ vt now = true → foldC a now (default, false) l = foldC a now (best, found) (l.drop i)
  h2 : ¬ (validT l = true ∧ vt now = true) → (best, found) = (default, false)
set_option maxHeartbeats 4000000 in
set_option maxRecDepth 20000 in
theorem rforCom_ok (l : List Ctx) (a : Fin 16 → Int) (now : Int) (hl : bytesL l) (ha : byteOk a) : PureOk Try.prog 63 [(cSl eCtx eCtx_sz).enc l, (cE (eA .u8 16)).enc a, (cI .i64).enc now] (encCB (forCom l a now)) := by
  have hn := hl.n
  refine pure_intro (wd := 1) (Q := mkQ LQ1) (by decide) tysOk (q_of LQ1_ok) mixed Try.func63 rfl _ (by show 3 ≤ _; decide) _ ?_
  refine loop_intro (mono_of LQ1_ok) (fun s : FcS l a now => (⟨[(0, one (.sl false l.length eCtx.sz (rowF eCtx l))), (2, one (.int .i64 now)), (4, one (.ptr 0 0 0 false)), (6, one (.ptr 1 0 0 false)), (8, one (.ptr 4 0 0 false)), (9, one (.bool s.found)), (10, one (.int .i64 (s.i : Int)))],
    [(0, some ⟨28, 1, 16, true, fun _ => (eA .u8 16).cell a⟩), (1, some ⟨41, 1, 20, true, fun _ _ => .top⟩), (4, some ⟨41, 1, 20, true, fun _ => eCtx.cell s.best⟩)], 8⟩ : Hd)) (fun s => l.length - s.i) (fun _ => rfl) ?_ ⟨0, default, false, by omega, fun _ => rfl, fun _ => rfl⟩ [] ?_
  · rintro ⟨i, best, found, hi, h1, h2⟩
    dsimp only at hi h1 h2 ⊢
    have hV : ∀ s : Bool, s = validT (toL eCtx l.length (rowF eCtx l)) → s = validT l := fun s h => h.trans (congrArg validT (toL_ctx l))
    repeat' (first | (apply And.intro <;> intro hc <;> (first | exact Bool.noConfusion hc | (simp only [decide_eq_true_eq, decide_eq_false_iff_not, Bool.not_eq_true', Bool.not_eq_false', beq_iff_eq, beq_eq_false_iff_ne, bne_iff_ne, bne_eq_false_iff_eq, Bool.true_eq_false, Bool.false_eq_true] at hc) | skip)) | (refine And.intro (by first | exact trivial | decide | omega | (dsimp only; omega) | exact fun _ _ => rfl) ?_) | (apply And.intro) | (intro s hs))
    · show bytesL (toL eCtx l.length (rowF eCtx l))
      rw [toL_ctx]; exact hl
    · show byteOk (ePfx.rd fun j => eCtx.cell (l.getD i default) (1 + j)).ip
      rw [pfx_of_ctx]; exact hl.b _ (mem_getD (by omega))
    · show byteOk ((eA .u8 16).rd fun q => (eA .u8 16).cell a (0 + q))
      rw [rd_ip]; exact ha
    · rename_i sv hsv c0 st hst c1 c2 sc hsc c3 c4 c5
      have v : validT l = true ∧ vt now = true := ⟨by rw [← hV sv hsv]; exact c0, by rw [← (show st = vt now from hst)]; exact c1⟩
      have ec : sc = compr (l.getD i default) now := hsc.trans (by
        show compr (eCtx.rd (eCtx.cell (l.getD i default))) now = _
        rw [eCtx_rd])
      have en : s = pEq (maskP a (l.getD i default).bits) (pfxOf (l.getD i default)) := hs.trans (by
        show containsF (ePfx.rd fun j => eCtx.cell (l.getD i default) (1 + j)) ((eA .u8 16).rd fun q => (eA .u8 16).cell a (0 + q)) = _
        rw [pfx_of_ctx, rd_ip]; rfl)
      have hb : better a now (best, found) (l.getD i default) = true := by
        unfold better; rw [← ec, ← en, c3, c4]; simp [c5]
      refine ⟨⟨i + 1, l.getD i default, true, by omega, fun _ => ?_, fun h => absurd v h⟩, [], by dsimp only; omega, rfl, ?_, ?_⟩
      · rw [h1 v, fold_step _ _ _ (show i < l.length by omega), if_pos hb]
      · repeat' (first | exact trivial | exact rfl | exact leF_ptr rfl | exact leF_int rfl | exact leF_bool rfl | exact leF_cl (cl_slB _ _) | exact leF_cl (cl_slR _ _) | exact leF_c (leC_os rfl rfl) | refine leF_int ?_ | refine leF_bool ?_ | exact leN_varA (fun _ _ => (Elem.flat _ _ _).le) | exact leN_varA (fun _ _ => leC_top) | apply And.intro)
        refine (IntWalk.i64_in _ ?_).trans ?_
        · constructor <;> omega
        · dsimp only
          omega
      · repeat' (first | exact trivial | exact rfl | exact leF_ptr rfl | exact leF_int rfl | exact leF_bool rfl | exact leF_cl (cl_slB _ _) | exact leF_cl (cl_slR _ _) | exact leF_c (leC_os rfl rfl) | refine leF_int ?_ | refine leF_bool ?_ | exact leN_varA (fun _ _ => (Elem.flat _ _ _).le) | exact leN_varA (fun _ _ => leC_top) | apply And.intro)
        all_goals (refine leN_var ?_; repeat' (first | exact trivial | exact rfl | exact leC_int rfl | exact leC_bool rfl | refine leE_all ?_ | exact leC_bool (by assumption) | apply And.intro))
    · rename_i sv hsv c0 st hst c1 c2 sc hsc c3 c4 c5
      have v : validT l = true ∧ vt now = true := ⟨by rw [← hV sv hsv]; exact c0, by rw [← (show st = vt now from hst)]; exact c1⟩
      have ec : sc = compr (l.getD i default) now := hsc.trans (by
        show compr (eCtx.rd (eCtx.cell (l.getD i default))) now = _
        rw [eCtx_rd])
      have en : s = pEq (maskP a (l.getD i default).bits) (pfxOf (l.getD i default)) := hs.trans (by
        show containsF (ePfx.rd fun j => eCtx.cell (l.getD i default) (1 + j)) ((eA .u8 16).rd fun q => (eA .u8 16).cell a (0 + q)) = _
        rw [pfx_of_ctx, rd_ip]; rfl)
      have hb : better a now (best, found) (l.getD i default) = true := by
        unfold better
        rw [← ec, ← en, c3, c4, show decide (best.bits < (l.getD i default).bits) = true from decide_eq_true hc]; simp
      refine ⟨⟨i + 1, l.getD i default, true, by omega, fun _ => ?_, fun h => absurd v h⟩, [], by dsimp only; omega, rfl, ?_, ?_⟩
      · rw [h1 v, fold_step _ _ _ (show i < l.length by omega), if_pos hb]
      · repeat' (first | exact trivial | exact rfl | exact leF_ptr rfl | exact leF_int rfl | exact leF_bool rfl | exact leF_cl (cl_slB _ _) | exact leF_cl (cl_slR _ _) | exact leF_c (leC_os rfl rfl) | refine leF_int ?_ | refine leF_bool ?_ | exact leN_varA (fun _ _ => (Elem.flat _ _ _).le) | exact leN_varA (fun _ _ => leC_top) | apply And.intro)
        refine (IntWalk.i64_in _ ?_).trans ?_
        · constructor <;> omega
        · dsimp only
          omega
      · repeat' (first | exact trivial | exact rfl | exact leF_ptr rfl | exact leF_int rfl | exact leF_bool rfl | exact leF_cl (cl_slB _ _) | exact leF_cl (cl_slR _ _) | exact leF_c (leC_os rfl rfl) | refine leF_int ?_ | refine leF_bool ?_ | exact leN_varA (fun _ _ => (Elem.flat _ _ _).le) | exact leN_varA (fun _ _ => leC_top) | apply And.intro)
        all_goals (refine leN_var ?_; repeat' (first | exact trivial | exact rfl | exact leC_int rfl | exact leC_bool rfl | refine leE_all ?_ | exact leC_bool (by assumption) | apply And.intro))
    · rename_i sv hsv c0 st hst c1 c2 sc hsc c3 c4 c5
      have v : validT l = true ∧ vt now = true := ⟨by rw [← hV sv hsv]; exact c0, by rw [← (show st = vt now from hst)]; exact c1⟩
      have hb : ¬ better a now (best, found) (l.getD i default) = true := by
        unfold better
        rw [show decide (best.bits < (l.getD i default).bits) = false from decide_eq_false hc]; simp [c5]
      refine ⟨⟨i + 1, best, found, by omega, fun _ => ?_, h2⟩, [], by dsimp only; omega, rfl, ?_, ?_⟩
      · rw [h1 v, fold_step _ _ _ (show i < l.length by omega), if_neg hb]
      · repeat' (first | exact trivial | exact rfl | exact leF_ptr rfl | exact leF_int rfl | exact leF_bool rfl | exact leF_cl (cl_slB _ _) | exact leF_cl (cl_slR _ _) | exact leF_c (leC_os rfl rfl) | refine leF_int ?_ | refine leF_bool ?_ | exact leN_varA (fun _ _ => (Elem.flat _ _ _).le) | exact leN_varA (fun _ _ => leC_top) | apply And.intro)
        refine (IntWalk.i64_in _ ?_).trans ?_
        · constructor <;> omega
        · dsimp only
          omega
      · repeat' (first | exact trivial | exact rfl | exact leF_ptr rfl | exact leF_int rfl | exact leF_bool rfl | exact leF_cl (cl_slB _ _) | exact leF_cl (cl_slR _ _) | exact leF_c (leC_os rfl rfl) | refine leF_int ?_ | refine leF_bool ?_ | exact leN_varA (fun _ _ => (Elem.flat _ _ _).le) | exact leN_varA (fun _ _ => leC_top) | apply And.intro)
        all_goals (refine leN_var ?_; repeat' (first | exact trivial | exact rfl | exact leC_int rfl | exact leC_bool rfl | refine leE_all ?_ | exact leC_bool (by assumption) | apply And.intro))
    · rename_i sv hsv c0 st hst c1 c2 sc hsc c3 c4
      have v : validT l = true ∧ vt now = true := ⟨by rw [← hV sv hsv]; exact c0, by rw [← (show st = vt now from hst)]; exact c1⟩
      have en : s = pEq (maskP a (l.getD i default).bits) (pfxOf (l.getD i default)) := hs.trans (by
        show containsF (ePfx.rd fun j => eCtx.cell (l.getD i default) (1 + j)) ((eA .u8 16).rd fun q => (eA .u8 16).cell a (0 + q)) = _
        rw [pfx_of_ctx, rd_ip]; rfl)
      have hb : ¬ better a now (best, found) (l.getD i default) = true := by
        unfold better; rw [← en, c4]; simp
      refine ⟨⟨i + 1, best, found, by omega, fun _ => ?_, h2⟩, [], by dsimp only; omega, rfl, ?_, ?_⟩
      · rw [h1 v, fold_step _ _ _ (show i < l.length by omega), if_neg hb]
      · repeat' (first | exact trivial | exact rfl | exact leF_ptr rfl | exact leF_int rfl | exact leF_bool rfl | exact leF_cl (cl_slB _ _) | exact leF_cl (cl_slR _ _) | exact leF_c (leC_os rfl rfl) | refine leF_int ?_ | refine leF_bool ?_ | exact leN_varA (fun _ _ => (Elem.flat _ _ _).le) | exact leN_varA (fun _ _ => leC_top) | apply And.intro)
        refine (IntWalk.i64_in _ ?_).trans ?_
        · constructor <;> omega
        · dsimp only
          omega
      · repeat' (first | exact trivial | exact rfl | exact leF_ptr rfl | exact leF_int rfl | exact leF_bool rfl | exact leF_cl (cl_slB _ _) | exact leF_cl (cl_slR _ _) | exact leF_c (leC_os rfl rfl) | refine leF_int ?_ | refine leF_bool ?_ | exact leN_varA (fun _ _ => (Elem.flat _ _ _).le) | exact leN_varA (fun _ _ => leC_top) | apply And.intro)
        all_goals (refine leN_var ?_; repeat' (first | exact trivial | exact rfl | exact leC_int rfl | exact leC_bool rfl | refine leE_all ?_ | exact leC_bool (by assumption) | apply And.intro))
    · rename_i sv hsv c0 st hst c1 c2 c3 c4
      have v : validT l = true ∧ vt now = true := ⟨by rw [← hV sv hsv]; exact c0, by rw [← (show st = vt now from hst)]; exact c1⟩
      have ec : s = compr (l.getD i default) now := hs.trans (by
        show compr (eCtx.rd (eCtx.cell (l.getD i default))) now = _
        rw [eCtx_rd])
      have hb : ¬ better a now (best, found) (l.getD i default) = true := by
        unfold better; rw [← ec, c3]; simp
      refine ⟨⟨i + 1, best, found, by omega, fun _ => ?_, h2⟩, [], by dsimp only; omega, rfl, ?_, ?_⟩
      · rw [h1 v, fold_step _ _ _ (show i < l.length by omega), if_neg hb]
      · repeat' (first | exact trivial | exact rfl | exact leF_ptr rfl | exact leF_int rfl | exact leF_bool rfl | exact leF_cl (cl_slB _ _) | exact leF_cl (cl_slR _ _) | exact leF_c (leC_os rfl rfl) | refine leF_int ?_ | refine leF_bool ?_ | exact leN_varA (fun _ _ => (Elem.flat _ _ _).le) | exact leN_varA (fun _ _ => leC_top) | apply And.intro)
        refine (IntWalk.i64_in _ ?_).trans ?_
        · constructor <;> omega
        · dsimp only
          omega
      · repeat' (first | exact trivial | exact rfl | exact leF_ptr rfl | exact leF_int rfl | exact leF_bool rfl | exact leF_cl (cl_slB _ _) | exact leF_cl (cl_slR _ _) | exact leF_c (leC_os rfl rfl) | refine leF_int ?_ | refine leF_bool ?_ | exact leN_varA (fun _ _ => (Elem.flat _ _ _).le) | exact leN_varA (fun _ _ => leC_top) | apply And.intro)
        all_goals (refine leN_var ?_; repeat' (first | exact trivial | exact rfl | exact leC_int rfl | exact leC_bool rfl | refine leE_all ?_ | exact leC_bool (by assumption) | apply And.intro))
    · rename_i sv hsv c0 c1
      have v : validT l = true ∧ vt now = true := ⟨by rw [← hV sv hsv]; exact c0, by rw [← (show s = vt now from hs)]; exact c1⟩
      have hil : i = l.length := by omega
      have e : forCom l a now = (best, found) := by
        rw [forCom_eq v.1 v.2, h1 v, hil, List.drop_length]; rfl
      rw [e]
      refine Done.mk (leF_tup ?_)
      repeat' (first | exact trivial | exact rfl | exact leC_int rfl | exact leC_bool rfl | refine leE_all ?_ | exact leC_bool (by assumption) | apply And.intro)
    · have v2 : vt now = false := by rw [← (show s = vt now from hs)]; assumption
      have hnv : ¬ (validT l = true ∧ vt now = true) := by rw [v2]; simp
      have e : forCom l a now = (best, found) := by rw [forCom, if_neg hnv, h2 hnv]
      rw [e]
      refine Done.mk (leF_tup ?_)
      repeat' (first | exact trivial | exact rfl | exact leC_int rfl | exact leC_bool rfl | refine leE_all ?_ | exact leC_bool (by assumption) | apply And.intro)
    · have v1 : validT l = false := by rw [← hV s hs]; assumption
      have hnv : ¬ (validT l = true ∧ vt now = true) := by rw [v1]; simp
      have e : forCom l a now = (best, found) := by rw [forCom, if_neg hnv, h2 hnv]
      rw [e]
      refine Done.mk (leF_tup ?_)
      repeat' (first | exact trivial | exact rfl | exact leC_int rfl | exact leC_bool rfl | refine leE_all ?_ | exact leC_bool (by assumption) | apply And.intro)
  · refine ⟨rfl, ?_, ?_⟩
    · repeat' (first | exact trivial | exact rfl | exact leF_ptr rfl | exact leF_int rfl | exact leF_bool rfl | exact leF_cl (cl_slB _ _) | exact leF_cl (cl_slR _ _) | exact leF_c (leC_os rfl rfl) | refine leF_int ?_ | refine leF_bool ?_ | exact leN_varA (fun _ _ => (Elem.flat _ _ _).le) | exact leN_varA (fun _ _ => leC_top) | apply And.intro)
    · repeat' (first | exact trivial | exact rfl | exact leF_ptr rfl | exact leF_int rfl | exact leF_bool rfl | exact leF_cl (cl_slB _ _) | exact leF_cl (cl_slR _ _) | exact leF_c (leC_os rfl rfl) | refine leF_int ?_ | refine leF_bool ?_ | exact leN_varA (fun _ _ => (Elem.flat _ _ _).le) | exact leN_varA (fun _ _ => leC_top) | apply And.intro)
      all_goals (refine leN_var ?_; repeat' (first | exact trivial | exact rfl | exact leC_int rfl | exact leC_bool rfl | refine leE_all ?_ | exact leC_bool (by assumption) | apply And.intro))
end Go.Proofs.Ytcnfjifokeancaa.AX
