/- Texts of one's own in one file: R12d, Ja, Jb, Is, Ju, Jc, IphcShortA, Jd, IphcEncodesA, Wt, IphcEncodesW. -/
import Derived.Test.YtjknkfjhcapocaaJaabbaoonll
import Derived.Test.YtjknkfjhcapocaaJgkpejeemle
import Derived.Test.YtjknkfjhcapocaaJbhdnjmaflk
import Derived.Test.YtjknkfjhcapocaaJbcodmecmgl
/- The reference of layer 12: ForCompression (by AX2). -/
namespace Go.Proofs.Ytjknkfjhcapocaa.AX
open Go.RowKit
set_option linter.unusedVariables false
set_option linter.unusedSimpArgs false
structure FcS (l : List Ctx) (a : Fin 16 → Int) (now : Int) where
  i : Nat
  best : Ctx
  found : Bool
  hi : i ≤ l.length
  h1 : validT l = true ∧ vt now = true → foldC a now (default, false) l = foldC a now (best, found) (l.drop i)
  h2 : ¬ (validT l = true ∧ vt now = true) → (best, found) = (default, false)
set_option maxHeartbeats 4000000 in
set_option maxRecDepth 20000 in
theorem rforCom_ok (l : List Ctx) (a : Fin 16 → Int) (now : Int) (hl : bytesL l) (ha : byteOk a) : PureOk Try.prog 132 [(cSl eCtx eCtx_sz).enc l, (cE (eA .u8 16)).enc a, (cI .i64).enc now] (encCB (forCom l a now)) := by
  have hn := hl.n
  refine pure_intro (wd := 1) (Q := mkQ LQ1) (by decide) tysOk (q_of LQ1_ok) mixed Try.func132 rfl _ (by show 3 ≤ _; decide) _ ?_
  refine loop_intro (mono_of LQ1_ok) (fun s : FcS l a now => (⟨[(0, one (.sl false l.length eCtx.sz (rowF eCtx l))), (2, one (.int .i64 now)), (4, one (.ptr 0 0 0 false)), (6, one (.ptr 1 0 0 false)), (8, one (.ptr 4 0 0 false)), (9, one (.bool s.found)), (10, one (.int .i64 (s.i : Int)))],
    [(0, some ⟨24, 1, 16, true, fun _ => (eA .u8 16).cell a⟩), (1, some ⟨82, 1, 20, true, fun _ _ => .top⟩), (4, some ⟨82, 1, 20, true, fun _ => eCtx.cell s.best⟩)], 8⟩ : Hd)) (fun s => l.length - s.i) (fun _ => rfl) ?_ ⟨0, default, false, by omega, fun _ => rfl, fun _ => rfl⟩ [] ?_
  · rintro ⟨i, best, found, hi, h1, h2⟩
    dsimp only at hi h1 h2 ⊢
    have hV : ∀ s : Bool, s = validT (toL eCtx l.length (rowF eCtx l)) → s = validT l := fun s h => h.trans (congrArg validT (toL_ctx l))
    repeat' (first | (apply And.intro <;> intro hc <;> (first | exact Bool.noConfusion hc | (simp only [decide_eq_true_eq, decide_eq_false_iff_not, Bool.not_eq_true', Bool.not_eq_false', beq_iff_eq, beq_eq_false_iff_ne, bne_iff_ne, bne_eq_false_iff_eq, Bool.true_eq_false, Bool.false_eq_true] at hc) | skip)) | (refine And.intro (by first | exact trivial | decide | omega | (dsimp only; omega) | exact fun _ _ => rfl) ?_) | (apply And.intro) | (intro s hs))
    · show bytesL (toL eCtx l.length (rowF eCtx l))
      rw [toL_ctx]; exact hl
    · show byteOk (ePfx.rd fun j => eCtx.cell (l.getD i default) (1 + j)).ip
      rw [pfx_of_ctx]; exact hl.b _ (mem_getD (by omega))
    · show byteOk ((eA .u8 16).rd fun q => (eA .u8 16).cell a (0 + q))
      rw [rd_ip]; exact ha
    · rename_i sv hsv c0 st hst c1 c2 sc hsc c3 c4 c5
      have v : validT l = true ∧ vt now = true := ⟨by rw [← hV sv hsv]; exact c0, by rw [← (show st = vt now from hst)]; exact c1⟩
      have ec : sc = compr (l.getD i default) now := hsc.trans (by
        show compr (eCtx.rd (eCtx.cell (l.getD i default))) now = _
        rw [eCtx_rd])
      have en : s = pEq (maskP a (l.getD i default).bits) (pfxOf (l.getD i default)) := hs.trans (by
        show containsF (ePfx.rd fun j => eCtx.cell (l.getD i default) (1 + j)) ((eA .u8 16).rd fun q => (eA .u8 16).cell a (0 + q)) = _
        rw [pfx_of_ctx, rd_ip]; rfl)
      have hb : better a now (best, found) (l.getD i default) = true := by
        unfold better; rw [← ec, ← en, c3, c4]; simp [c5]
      refine ⟨⟨i + 1, l.getD i default, true, by omega, fun _ => ?_, fun h => absurd v h⟩, [], by dsimp only; omega, rfl, ?_, ?_⟩
      · rw [h1 v, fold_step _ _ _ (show i < l.length by omega), if_pos hb]
      · repeat' (first | exact trivial | exact rfl | exact leF_ptr rfl | exact leF_int rfl | exact leF_bool rfl | exact leF_cl (cl_slB _ _) | exact leF_cl (cl_slR _ _) | exact leF_cl (cl_ll _ _) | exact leF_c (leC_os rfl rfl) | refine leF_int ?_ | refine leF_bool ?_ | exact leN_varA (fun _ _ => (Elem.flat _ _ _).le) | exact leN_varA (fun _ _ => leC_top) | apply And.intro)
        refine (IntWalk.i64_in _ ?_).trans ?_
        · constructor <;> omega
        · dsimp only
          omega
      · repeat' (first | exact trivial | exact rfl | exact leF_ptr rfl | exact leF_int rfl | exact leF_bool rfl | exact leF_cl (cl_slB _ _) | exact leF_cl (cl_slR _ _) | exact leF_cl (cl_ll _ _) | exact leF_c (leC_os rfl rfl) | refine leF_int ?_ | refine leF_bool ?_ | exact leN_varA (fun _ _ => (Elem.flat _ _ _).le) | exact leN_varA (fun _ _ => leC_top) | apply And.intro)
        all_goals (refine leN_var ?_; repeat' (first | exact trivial | exact rfl | exact leC_int rfl | exact leC_bool rfl | refine leE_all ?_ | exact leC_bool (by assumption) | apply And.intro))
    · rename_i sv hsv c0 st hst c1 c2 sc hsc c3 c4 c5
      have v : validT l = true ∧ vt now = true := ⟨by rw [← hV sv hsv]; exact c0, by rw [← (show st = vt now from hst)]; exact c1⟩
      have ec : sc = compr (l.getD i default) now := hsc.trans (by
        show compr (eCtx.rd (eCtx.cell (l.getD i default))) now = _
        rw [eCtx_rd])
      have en : s = pEq (maskP a (l.getD i default).bits) (pfxOf (l.getD i default)) := hs.trans (by
        show containsF (ePfx.rd fun j => eCtx.cell (l.getD i default) (1 + j)) ((eA .u8 16).rd fun q => (eA .u8 16).cell a (0 + q)) = _
        rw [pfx_of_ctx, rd_ip]; rfl)
      have hb : better a now (best, found) (l.getD i default) = true := by
        unfold better
        rw [← ec, ← en, c3, c4, show decide (best.bits < (l.getD i default).bits) = true from decide_eq_true hc]; simp
      refine ⟨⟨i + 1, l.getD i default, true, by omega, fun _ => ?_, fun h => absurd v h⟩, [], by dsimp only; omega, rfl, ?_, ?_⟩
      · rw [h1 v, fold_step _ _ _ (show i < l.length by omega), if_pos hb]
      · repeat' (first | exact trivial | exact rfl | exact leF_ptr rfl | exact leF_int rfl | exact leF_bool rfl | exact leF_cl (cl_slB _ _) | exact leF_cl (cl_slR _ _) | exact leF_cl (cl_ll _ _) | exact leF_c (leC_os rfl rfl) | refine leF_int ?_ | refine leF_bool ?_ | exact leN_varA (fun _ _ => (Elem.flat _ _ _).le) | exact leN_varA (fun _ _ => leC_top) | apply And.intro)
        refine (IntWalk.i64_in _ ?_).trans ?_
        · constructor <;> omega
        · dsimp only
          omega
      · repeat' (first | exact trivial | exact rfl | exact leF_ptr rfl | exact leF_int rfl | exact leF_bool rfl | exact leF_cl (cl_slB _ _) | exact leF_cl (cl_slR _ _) | exact leF_cl (cl_ll _ _) | exact leF_c (leC_os rfl rfl) | refine leF_int ?_ | refine leF_bool ?_ | exact leN_varA (fun _ _ => (Elem.flat _ _ _).le) | exact leN_varA (fun _ _ => leC_top) | apply And.intro)
        all_goals (refine leN_var ?_; repeat' (first | exact trivial | exact rfl | exact leC_int rfl | exact leC_bool rfl | refine leE_all ?_ | exact leC_bool (by assumption) | apply And.intro))
    · rename_i sv hsv c0 st hst c1 c2 sc hsc c3 c4 c5
      have v : validT l = true ∧ vt now = true := ⟨by rw [← hV sv hsv]; exact c0, by rw [← (show st = vt now from hst)]; exact c1⟩
      have hb : ¬ better a now (best, found) (l.getD i default) = true := by
        unfold better
        rw [show decide (best.bits < (l.getD i default).bits) = false from decide_eq_false hc]; simp [c5]
      refine ⟨⟨i + 1, best, found, by omega, fun _ => ?_, h2⟩, [], by dsimp only; omega, rfl, ?_, ?_⟩
      · rw [h1 v, fold_step _ _ _ (show i < l.length by omega), if_neg hb]
      · repeat' (first | exact trivial | exact rfl | exact leF_ptr rfl | exact leF_int rfl | exact leF_bool rfl | exact leF_cl (cl_slB _ _) | exact leF_cl (cl_slR _ _) | exact leF_cl (cl_ll _ _) | exact leF_c (leC_os rfl rfl) | refine leF_int ?_ | refine leF_bool ?_ | exact leN_varA (fun _ _ => (Elem.flat _ _ _).le) | exact leN_varA (fun _ _ => leC_top) | apply And.intro)
        refine (IntWalk.i64_in _ ?_).trans ?_
        · constructor <;> omega
        · dsimp only
          omega
      · repeat' (first | exact trivial | exact rfl | exact leF_ptr rfl | exact leF_int rfl | exact leF_bool rfl | exact leF_cl (cl_slB _ _) | exact leF_cl (cl_slR _ _) | exact leF_cl (cl_ll _ _) | exact leF_c (leC_os rfl rfl) | refine leF_int ?_ | refine leF_bool ?_ | exact leN_varA (fun _ _ => (Elem.flat _ _ _).le) | exact leN_varA (fun _ _ => leC_top) | apply And.intro)
        all_goals (refine leN_var ?_; repeat' (first | exact trivial | exact rfl | exact leC_int rfl | exact leC_bool rfl | refine leE_all ?_ | exact leC_bool (by assumption) | apply And.intro))
    · rename_i sv hsv c0 st hst c1 c2 sc hsc c3 c4
      have v : validT l = true ∧ vt now = true := ⟨by rw [← hV sv hsv]; exact c0, by rw [← (show st = vt now from hst)]; exact c1⟩
      have en : s = pEq (maskP a (l.getD i default).bits) (pfxOf (l.getD i default)) := hs.trans (by
        show containsF (ePfx.rd fun j => eCtx.cell (l.getD i default) (1 + j)) ((eA .u8 16).rd fun q => (eA .u8 16).cell a (0 + q)) = _
        rw [pfx_of_ctx, rd_ip]; rfl)
      have hb : ¬ better a now (best, found) (l.getD i default) = true := by
        unfold better; rw [← en, c4]; simp
      refine ⟨⟨i + 1, best, found, by omega, fun _ => ?_, h2⟩, [], by dsimp only; omega, rfl, ?_, ?_⟩
      · rw [h1 v, fold_step _ _ _ (show i < l.length by omega), if_neg hb]
      · repeat' (first | exact trivial | exact rfl | exact leF_ptr rfl | exact leF_int rfl | exact leF_bool rfl | exact leF_cl (cl_slB _ _) | exact leF_cl (cl_slR _ _) | exact leF_cl (cl_ll _ _) | exact leF_c (leC_os rfl rfl) | refine leF_int ?_ | refine leF_bool ?_ | exact leN_varA (fun _ _ => (Elem.flat _ _ _).le) | exact leN_varA (fun _ _ => leC_top) | apply And.intro)
        refine (IntWalk.i64_in _ ?_).trans ?_
        · constructor <;> omega
        · dsimp only
          omega
      · repeat' (first | exact trivial | exact rfl | exact leF_ptr rfl | exact leF_int rfl | exact leF_bool rfl | exact leF_cl (cl_slB _ _) | exact leF_cl (cl_slR _ _) | exact leF_cl (cl_ll _ _) | exact leF_c (leC_os rfl rfl) | refine leF_int ?_ | refine leF_bool ?_ | exact leN_varA (fun _ _ => (Elem.flat _ _ _).le) | exact leN_varA (fun _ _ => leC_top) | apply And.intro)
        all_goals (refine leN_var ?_; repeat' (first | exact trivial | exact rfl | exact leC_int rfl | exact leC_bool rfl | refine leE_all ?_ | exact leC_bool (by assumption) | apply And.intro))
    · rename_i sv hsv c0 st hst c1 c2 c3 c4
      have v : validT l = true ∧ vt now = true := ⟨by rw [← hV sv hsv]; exact c0, by rw [← (show st = vt now from hst)]; exact c1⟩
      have ec : s = compr (l.getD i default) now := hs.trans (by
        show compr (eCtx.rd (eCtx.cell (l.getD i default))) now = _
        rw [eCtx_rd])
      have hb : ¬ better a now (best, found) (l.getD i default) = true := by
        unfold better; rw [← ec, c3]; simp
      refine ⟨⟨i + 1, best, found, by omega, fun _ => ?_, h2⟩, [], by dsimp only; omega, rfl, ?_, ?_⟩
      · rw [h1 v, fold_step _ _ _ (show i < l.length by omega), if_neg hb]
      · repeat' (first | exact trivial | exact rfl | exact leF_ptr rfl | exact leF_int rfl | exact leF_bool rfl | exact leF_cl (cl_slB _ _) | exact leF_cl (cl_slR _ _) | exact leF_cl (cl_ll _ _) | exact leF_c (leC_os rfl rfl) | refine leF_int ?_ | refine leF_bool ?_ | exact leN_varA (fun _ _ => (Elem.flat _ _ _).le) | exact leN_varA (fun _ _ => leC_top) | apply And.intro)
        refine (IntWalk.i64_in _ ?_).trans ?_
        · constructor <;> omega
        · dsimp only
          omega
      · repeat' (first | exact trivial | exact rfl | exact leF_ptr rfl | exact leF_int rfl | exact leF_bool rfl | exact leF_cl (cl_slB _ _) | exact leF_cl (cl_slR _ _) | exact leF_cl (cl_ll _ _) | exact leF_c (leC_os rfl rfl) | refine leF_int ?_ | refine leF_bool ?_ | exact leN_varA (fun _ _ => (Elem.flat _ _ _).le) | exact leN_varA (fun _ _ => leC_top) | apply And.intro)
        all_goals (refine leN_var ?_; repeat' (first | exact trivial | exact rfl | exact leC_int rfl | exact leC_bool rfl | refine leE_all ?_ | exact leC_bool (by assumption) | apply And.intro))
    · rename_i sv hsv c0 c1
      have v : validT l = true ∧ vt now = true := ⟨by rw [← hV sv hsv]; exact c0, by rw [← (show s = vt now from hs)]; exact c1⟩
      have hil : i = l.length := by omega
      have e : forCom l a now = (best, found) := by
        rw [forCom_eq v.1 v.2, h1 v, hil, List.drop_length]; rfl
      rw [e]
      refine Done.mk (leF_tup ?_)
      repeat' (first | exact trivial | exact rfl | exact leC_int rfl | exact leC_bool rfl | refine leE_all ?_ | exact leC_bool (by assumption) | apply And.intro)
    · have v2 : vt now = false := by rw [← (show s = vt now from hs)]; assumption
      have hnv : ¬ (validT l = true ∧ vt now = true) := by rw [v2]; simp
      have e : forCom l a now = (best, found) := by rw [forCom, if_neg hnv, h2 hnv]
      rw [e]
      refine Done.mk (leF_tup ?_)
      repeat' (first | exact trivial | exact rfl | exact leC_int rfl | exact leC_bool rfl | refine leE_all ?_ | exact leC_bool (by assumption) | apply And.intro)
    · have v1 : validT l = false := by rw [← hV s hs]; assumption
      have hnv : ¬ (validT l = true ∧ vt now = true) := by rw [v1]; simp
      have e : forCom l a now = (best, found) := by rw [forCom, if_neg hnv, h2 hnv]
      rw [e]
      refine Done.mk (leF_tup ?_)
      repeat' (first | exact trivial | exact rfl | exact leC_int rfl | exact leC_bool rfl | refine leE_all ?_ | exact leC_bool (by assumption) | apply And.intro)
  · refine ⟨rfl, ?_, ?_⟩
    · repeat' (first | exact trivial | exact rfl | exact leF_ptr rfl | exact leF_int rfl | exact leF_bool rfl | exact leF_cl (cl_slB _ _) | exact leF_cl (cl_slR _ _) | exact leF_cl (cl_ll _ _) | exact leF_c (leC_os rfl rfl) | refine leF_int ?_ | refine leF_bool ?_ | exact leN_varA (fun _ _ => (Elem.flat _ _ _).le) | exact leN_varA (fun _ _ => leC_top) | apply And.intro)
    · repeat' (first | exact trivial | exact rfl | exact leF_ptr rfl | exact leF_int rfl | exact leF_bool rfl | exact leF_cl (cl_slB _ _) | exact leF_cl (cl_slR _ _) | exact leF_cl (cl_ll _ _) | exact leF_c (leC_os rfl rfl) | refine leF_int ?_ | refine leF_bool ?_ | exact leN_varA (fun _ _ => (Elem.flat _ _ _).le) | exact leN_varA (fun _ _ => leC_top) | apply And.intro)
      all_goals (refine leN_var ?_; repeat' (first | exact trivial | exact rfl | exact leC_int rfl | exact leC_bool rfl | refine leE_all ?_ | exact leC_bool (by assumption) | apply And.intro))
end Go.Proofs.Ytjknkfjhcapocaa.AX
/- The reference of layer 14 by AX2: bit, hops, zeros, flow, iids, ready. -/
namespace Go.Proofs.Ytjknkfjhcapocaa.AX
open Go.RowKit
set_option linter.unusedVariables false
set_option linter.unusedSimpArgs false
theorem rbit_ok (b : Bool) (v : Int) : PureOk Try.prog 96 [cB.enc b, (cI .i64).enc v] ((cI .i64).enc (bitV b v)) := by
  refine pure_intro (wd := 1) (Q := mkQ LE0) (by decide) tysOk (q_of LE0_ok) mixed Try.func96 rfl _ (by show 2 ≤ _; decide) _ ?_
  repeat' (first | (apply And.intro <;> intro hc <;> (first | exact Bool.noConfusion hc | (simp only [decide_eq_true_eq, decide_eq_false_iff_not, Bool.not_eq_true', Bool.not_eq_false', beq_iff_eq, beq_eq_false_iff_ne, bne_iff_ne, bne_eq_false_iff_eq, Bool.true_eq_false, Bool.false_eq_true] at hc) | skip)) | (refine And.intro (by first | exact trivial | decide | omega | (dsimp only; omega) | exact fun _ _ => rfl) ?_) | (apply And.intro) | (intro s hs))
  all_goals exact Done.mk (leF_int (by simp [bitV, *]))
theorem rhops_ok (h : Int) : PureOk Try.prog 93 [(cI .u8).enc h] ((cI .i64).enc (hopF h)) := by
  refine pure_intro (wd := 1) (Q := mkQ LE0) (by decide) tysOk (q_of LE0_ok) mixed Try.func93 rfl _ (by show 1 ≤ _; decide) _ ?_
  repeat' (first | (apply And.intro <;> intro hc <;> (first | exact Bool.noConfusion hc | (simp only [decide_eq_true_eq, decide_eq_false_iff_not, Bool.not_eq_true', Bool.not_eq_false', beq_iff_eq, beq_eq_false_iff_ne, bne_iff_ne, bne_eq_false_iff_eq, Bool.true_eq_false, Bool.false_eq_true] at hc) | skip)) | (refine And.intro (by first | exact trivial | decide | omega | (dsimp only; omega) | exact fun _ _ => rfl) ?_) | (apply And.intro) | (intro s hs))
  all_goals exact Done.mk (leF_int (by unfold hopF; simp [*]))
abbrev forComE : Entry := pureE (AC.cons (cSl eCtx eCtx_sz) (AC.cons (cE (eA .u8 16)) (AC.cons (cI .i64) AC.nil))) (fun a => bytesL a.1 ∧ byteOk a.2.1) (fun a => forCom a.1 a.2.1 a.2.2.1) encCB
def LJ0 : CsL := (96, some (pureE (AC.cons cB (AC.cons (cI .i64) AC.nil)) (fun _ => True) (fun a => bitV a.1 a.2.1) (cI .i64).enc)) ::
  (93, some (pureE (AC.cons (cI .u8) AC.nil) (fun _ => True) (fun a => hopF a.1) (cI .i64).enc)) ::
  (132, some forComE) :: (LQ1 ++ (LRa ++ (LA0 ++ LRp0)))
theorem LJ0_ok : AllOk Try.prog LJ0 := ⟨pureE_ok ⟨_, Try.func96, rfl, by kernel_rfl⟩ fun a _ => rbit_ok a.1 a.2.1, pureE_ok ⟨_, Try.func93, rfl, by kernel_rfl⟩ fun a _ => rhops_ok a.1,
  pureE_ok ⟨_, Try.func132, rfl, by kernel_rfl⟩ fun a h => rforCom_ok a.1 a.2.1 a.2.2.1 h.1 h.2, append_ok LQ1_ok (append_ok LRa_ok (append_ok LA0_ok LRp0_ok))⟩
theorem rready_ok (f t : Adr) (l : List Ctx) (now : Int) (hl : bytesL l) : PureOk Try.prog 91 [(cE eAdr).enc f, (cE eAdr).enc t, (cSl eCtx eCtx_sz).enc l, (cI .i64).enc now] ((cI .i64).enc (checkF f t l now)) := by
  obtain ⟨x, ex⟩ : ∃ x, adrValid f = x := ⟨_, rfl⟩
  obtain ⟨y, ey⟩ : ∃ x, adrValid t = x := ⟨_, rfl⟩
  obtain ⟨z, ez⟩ : ∃ x, validT l = x := ⟨_, rfl⟩
  obtain ⟨v, ev⟩ : ∃ x, vt now = x := ⟨_, rfl⟩
  obtain ⟨W, eW⟩ : ∃ W, checkF f t l now = W := ⟨_, rfl⟩
  rw [eW]
  unfold checkF at eW
  rw [ex, ey, ez, ev] at eW
  have g1 : True := trivial
  have g2 : True := trivial
  have g3 : True := trivial
  refine pure_intro (wd := 1) (Q := mkQ LJ0) (by decide) tysOk (q_of LJ0_ok) mixed Try.func91 rfl _ (by show 4 ≤ _; decide) _ ?_
  repeat' (first | (apply And.intro <;> intro hc <;> (first | exact Bool.noConfusion hc | (simp only [decide_eq_true_eq, decide_eq_false_iff_not, Bool.not_eq_true', Bool.not_eq_false', beq_iff_eq, beq_eq_false_iff_ne, bne_iff_ne, bne_eq_false_iff_eq, Bool.true_eq_false, Bool.false_eq_true, ne_eq, not_true_eq_false] at hc <;> first | exact absurd rfl hc | skip) | skip)) | (refine And.intro (by first | exact trivial | decide | omega | (dsimp only; omega) | exact fun _ _ => rfl | exact ⟨by assumption, by first | exact trivial | decide | omega | (dsimp only; omega)⟩) ?_) | (apply And.intro) | (intro s hs; (first | (clear g1; have q : x = s := (hs.trans ((congrArg adrValid (rd_adr f)).trans ex)).symm; clear hs; subst q) | (clear g2; have q : y = s := (hs.trans ((congrArg adrValid (rd_adr t)).trans ey)).symm; clear hs; subst q) | (clear g3; have q : z = s := (hs.trans ((congrArg validT (toL_ctx l)).trans ez)).symm; clear hs; subst q) | (have q : v = s := (hs.trans ev).symm; clear hs; subst q))))
  all_goals first
    | exact Eq.mp (congrArg bytesL (toL_ctx l).symm) hl
    | (refine Done.mk (leF_int ?_)
       rw [← eW]
       simp [*]
       done)
    | skip
theorem rflow_ok (p : Pkt) (hf : 0 ≤ p.1.flow ∧ p.1.flow < 4294967296) : PureOk Try.prog 92 [cPk.enc p] (encIS (flowF p)) := by
  have w1 : IntKind.u64.wrap p.1.flow = p.1.flow := IntWalk.u64_in _ (by omega)
  have c0 : ¬ p.1.cls = 0 → ¬ p.1.flow = 0 → flowF p = (0, [p.1.cls] ++ beB p.1.flow 3) := fun h g => by unfold flowF; rw [if_pos ⟨h, g⟩]
  have c1 : p.1.cls = 0 → ¬ p.1.flow = 0 → flowF p = (1, [] ++ beB p.1.flow 3) := fun h g => by unfold flowF; rw [if_neg (fun x => x.1 h), if_pos g]
  have c2 : p.1.flow = 0 → ¬ p.1.cls = 0 → flowF p = (2, [p.1.cls]) := fun h g => by unfold flowF; rw [if_neg (fun x => x.2 h), if_neg (fun x => x h), if_pos g]
  have c3 : p.1.flow = 0 → p.1.cls = 0 → flowF p = (3, []) := fun h g => by unfold flowF; rw [if_neg (fun x => x.2 h), if_neg (fun x => x h), if_neg (fun x => x g)]
  obtain ⟨W, eW⟩ : ∃ W, flowF p = W := ⟨_, rfl⟩
  have eF : beB (IntKind.u64.wrap p.1.flow) 3 = beB p.1.flow 3 := by rw [w1]
  obtain ⟨B, eB'⟩ : ∃ B, beB p.1.flow 3 = B := ⟨_, rfl⟩
  rw [eB'] at eF c0 c1
  rw [eW] at c0 c1 c2 c3 ⊢
  clear eW w1 eB'
  refine pure_intro (wd := 1) (Q := mkQ LJ0) (by decide) tysOk (q_of LJ0_ok) mixed Try.func92 rfl _ (by show 1 ≤ _; decide) _ ?_
  repeat' (first | (apply And.intro <;> intro hc <;> (first | exact Bool.noConfusion hc | (exfalso; first | exact absurd (by assumption : p.1.flow = 0) hc | exact absurd hc (by assumption : ¬ p.1.flow = 0) | exact absurd (by assumption : p.1.cls = 0) hc | exact absurd hc (by assumption : ¬ p.1.cls = 0)) | (simp only [decide_eq_true_eq, decide_eq_false_iff_not, Bool.not_eq_true', Bool.not_eq_false', beq_iff_eq, beq_eq_false_iff_ne, bne_iff_ne, bne_eq_false_iff_eq, Bool.true_eq_false, Bool.false_eq_true, ne_eq, not_true_eq_false] at hc <;> first | exact absurd rfl hc | (exfalso; first | exact absurd (by assumption : p.1.flow = 0) hc | exact absurd hc (by assumption : ¬ p.1.flow = 0) | exact absurd (by assumption : p.1.cls = 0) hc | exact absurd hc (by assumption : ¬ p.1.cls = 0)) | skip) | skip)) | (refine And.intro (by first | exact trivial | decide | omega | (dsimp only; omega) | exact fun _ _ => rfl | exact ⟨by assumption, by first | exact trivial | decide | omega | (dsimp only; omega)⟩) ?_) | (apply And.intro) | (intro s hs; (first | (have q : s = [p.1.cls] ++ B := hs.trans (congrArg ([p.1.cls] ++ ·) eF); clear hs; subst q) | (have q : s = [] ++ B := hs.trans (congrArg ([] ++ ·) eF); clear hs; subst q))))
  all_goals first
    | exact Nat.zero_le _
    | exact Nat.le_of_ble_eq_true rfl
    | (intro i hi
       rcases i with _ | i
       · exact rfl
       · exact absurd hi (by omega))
    | (rw [c0 (by assumption) (by assumption)]
       exact Done.mk (leF_tup ⟨leC_int rfl, leC_row_fin rfl rfl, trivial⟩))
    | (rw [c1 (by assumption) (by assumption)]
       exact Done.mk (leF_tup ⟨leC_int rfl, leC_row_fin rfl rfl, trivial⟩))
    | (rw [c3 (by assumption) (by assumption)]
       exact Done.mk (leF_tup ⟨leC_int rfl, leC_nils_sl rfl, trivial⟩))
    | (rw [c2 (by assumption) (by assumption)]
       refine Done.mk (leF_tup ⟨leC_int rfl, leC_os_is (l := [p.1.cls]) rfl rfl rfl rfl (Nat.le_of_eq rfl) ⟨fun k hk => ?_⟩, trivial⟩)
       iterate 1 (rcases k with _ | k; exact rfl)
       exact absurd hk (by show ¬ _ < 1; omega))
    | skip
theorem riids_ok (y : Int) (k : Adr) : PureOk Try.prog 131 [(cI .u64).enc y, (cE eAdr).enc k] (encIS (iidsF y k)) := by
  have i3 := fun h => iids_own (k := k) (y := y) h
  have i2 := fun h g => iids_2 (k := k) (y := y) h g
  have i1 := fun h g => iids_1 (k := k) (y := y) h g
  obtain ⟨I, eI⟩ : ∃ x, iidF k = x := ⟨_, rfl⟩
  obtain ⟨W, eW⟩ : ∃ x, iidsF y k = x := ⟨_, rfl⟩
  rw [eI, eW] at i1 i2 i3
  rw [eW]
  clear eW
  have g1 : True := trivial
  refine pure_intro (wd := 1) (Q := mkQ LJ0) (by decide) tysOk (q_of LJ0_ok) mixed Try.func131 rfl _ (by show 2 ≤ _; decide) _ ?_
  repeat' (first | (apply And.intro <;> intro hc <;> (first | exact Bool.noConfusion hc | (simp only [decide_eq_true_eq, decide_eq_false_iff_not, Bool.not_eq_true', Bool.not_eq_false', beq_iff_eq, beq_eq_false_iff_ne, bne_iff_ne, bne_eq_false_iff_eq, Bool.true_eq_false, Bool.false_eq_true, ne_eq, not_true_eq_false] at hc <;> first | exact absurd rfl hc | skip) | skip)) | (refine And.intro (by first | exact trivial | decide | omega | (dsimp only; omega) | exact fun _ _ => rfl | exact ⟨by assumption, by first | exact trivial | decide | omega | (dsimp only; omega)⟩) ?_) | (apply And.intro) | (intro s hs; (first | (clear g1; have q : I = s := (hs.trans ((congrArg iidF (rd_adr k)).trans eI)).symm; clear hs; subst q) | (have q : s = beB y 2 := hs; clear hs; subst q) | (have q : s = beB y 8 := hs; clear hs; subst q))))
  all_goals first
    | exact Nat.zero_le _
    | (rw [i3 (Prod.ext (by assumption : I.1 = y) (by assumption : I.2 = true))]
       exact Done.mk (leF_tup ⟨leC_int rfl, leC_nils_sl rfl, trivial⟩))
    | (rw [i2 (fun h => Bool.noConfusion ((congrArg Prod.snd h).symm.trans (by assumption : I.2 = false))) (by assumption)]
       exact Done.mk (leF_tup ⟨leC_int rfl, leC_row_fin rfl rfl, trivial⟩))
    | (rw [i2 (fun h => (by assumption : ¬ I.1 = y) (congrArg Prod.fst h)) (by assumption)]
       exact Done.mk (leF_tup ⟨leC_int rfl, leC_row_fin rfl rfl, trivial⟩))
    | (rw [i1 (fun h => Bool.noConfusion ((congrArg Prod.snd h).symm.trans (by assumption : I.2 = false))) (by assumption)]
       exact Done.mk (leF_tup ⟨leC_int rfl, leC_row_fin rfl rfl, trivial⟩))
    | (rw [i1 (fun h => (by assumption : ¬ I.1 = y) (congrArg Prod.fst h)) (by assumption)]
       exact Done.mk (leF_tup ⟨leC_int rfl, leC_row_fin rfl rfl, trivial⟩))
    | skip
end Go.Proofs.Ytjknkfjhcapocaa.AX
/- The reference of layer 14 by AX2: zeros, multicast, unicast. -/
namespace Go.Proofs.Ytjknkfjhcapocaa.AX
open Go.RowKit
set_option linter.unusedVariables false
set_option linter.unusedSimpArgs false
structure RzS (a : Fin 16 → Int) (i j : Nat) where
  k : Nat
  hk : i ≤ k ∧ k ≤ j
  h : ∀ q, i ≤ q → q < k → vget a q = 0
set_option maxRecDepth 20000 in
theorem rzero_ok (a : Fin 16 → Int) (i j : Nat) (hij : i ≤ j ∧ j ≤ 16) : PureOk Try.prog 133 [(cE (eA .u8 16)).enc a, (cI .i64).enc (i : Int), (cI .i64).enc (j : Int)] (cB.enc (zr a i j)) := by
  obtain ⟨w, eW⟩ : ∃ w, zr a i j = w := ⟨_, rfl⟩
  have w0 : ∀ k, i ≤ k → k < j → vget a k ≠ 0 → w = false := fun k h1 h2 h => by rw [← eW]; exact zr_no h1 h2 (by omega) h
  have w1 : (∀ k, i ≤ k → k < j → vget a k = 0) → w = true := fun h => by rw [← eW]; exact zr_of fun k h1 h2 h3 => h k h1 h2
  rw [eW]
  clear eW
  refine pure_intro (wd := 1) (Q := mkQ LE0) (by decide) tysOk (q_of LE0_ok) mixed Try.func133 rfl _ (by show 3 ≤ _; decide) _ ?_
  refine loop_intro (mono_of LE0_ok) (fun s : RzS a i j => (⟨[(2, one (.int .i64 (j : Int))), (3, one (.ptr 0 0 0 false)), (7, one (.int .i64 (s.k : Int)))], [(0, some ⟨24, 1, 16, true, fun _ => (eA .u8 16).cell a⟩)], 5⟩ : Hd)) (fun s => j - s.k) (fun _ => rfl) ?_ ⟨i, by omega, fun q h1 h2 => absurd h2 (by omega)⟩ [] ?_
  · rintro ⟨k, hk, h⟩
    dsimp only at hk h ⊢
    repeat' (first | (apply And.intro <;> intro hc <;> (first | exact Bool.noConfusion hc | (simp only [decide_eq_true_eq, decide_eq_false_iff_not, Bool.not_eq_true', Bool.not_eq_false', beq_iff_eq, beq_eq_false_iff_ne, bne_iff_ne, bne_eq_false_iff_eq, Bool.true_eq_false, Bool.false_eq_true] at hc) | skip)) | (refine And.intro (by first | exact trivial | decide | omega | (dsimp only; omega) | exact fun _ _ => rfl) ?_) | (apply And.intro) | (intro s hs))
    · rw [w0 k (by omega) (by omega) (fun e => hc ((congrArg (vget a) (by omega)).trans e))]
      exact Done.mk (leF_bool rfl)
    · refine ⟨⟨k + 1, by omega, fun q h1 h2 => ?_⟩, [], by dsimp only <;> omega, rfl, ?_, ?_⟩
      · by_cases e : q = k
        · rw [e]; exact (congrArg (vget a) (by omega)).trans hc
        · exact h q h1 (by omega)
      · repeat' (first | exact trivial | exact rfl | exact leF_ptr rfl | exact leF_int rfl | exact leF_bool rfl | exact leF_cl (cl_slB _ _) | exact leF_cl (cl_slR _ _) | exact leF_cl (cl_ll _ _) | exact leF_c (leC_os rfl rfl) | refine leF_int ?_ | refine leF_bool ?_ | exact leN_varA (fun _ _ => (Elem.flat _ _ _).le) | exact leN_varA (fun _ _ => leC_top) | apply And.intro)
        first | (dsimp only; rw [IntWalk.i64_in _ (by omega)]; omega) | (dsimp only; rw [IntWalk.i64_in _ (by omega)]; done) | (dsimp only; exact IntWalk.i64_in _ (by omega)) | exact IntWalk.i64_in _ (by omega) | (rw [IntWalk.i64_in _ (by omega)]; omega)
      · repeat' (first | exact trivial | exact rfl | exact leF_ptr rfl | exact leF_int rfl | exact leF_bool rfl | exact leF_cl (cl_slB _ _) | exact leF_cl (cl_slR _ _) | exact leF_cl (cl_ll _ _) | exact leF_c (leC_os rfl rfl) | refine leF_int ?_ | refine leF_bool ?_ | exact leN_varA (fun _ _ => (Elem.flat _ _ _).le) | exact leN_varA (fun _ _ => leC_top) | apply And.intro)
    · rw [w1 fun q h1 h2 => h q h1 (by omega)]
      exact Done.mk (leF_bool rfl)
  · refine ⟨rfl, ?_, ?_⟩
    · repeat' (first | exact trivial | exact rfl | exact leF_ptr rfl | exact leF_int rfl | exact leF_bool rfl | exact leF_cl (cl_slB _ _) | exact leF_cl (cl_slR _ _) | exact leF_cl (cl_ll _ _) | exact leF_c (leC_os rfl rfl) | refine leF_int ?_ | refine leF_bool ?_ | exact leN_varA (fun _ _ => (Elem.flat _ _ _).le) | exact leN_varA (fun _ _ => leC_top) | apply And.intro)
    · repeat' (first | exact trivial | exact rfl | exact leF_ptr rfl | exact leF_int rfl | exact leF_bool rfl | exact leF_cl (cl_slB _ _) | exact leF_cl (cl_slR _ _) | exact leF_cl (cl_ll _ _) | exact leF_c (leC_os rfl rfl) | refine leF_int ?_ | refine leF_bool ?_ | exact leN_varA (fun _ _ => (Elem.flat _ _ _).le) | exact leN_varA (fun _ _ => leC_top) | apply And.intro)
theorem rzero_okI (a : Fin 16 → Int) (i j : Int) (h : 0 ≤ i ∧ i ≤ j ∧ j ≤ 16) : PureOk Try.prog 133 [(cE (eA .u8 16)).enc a, (cI .i64).enc i, (cI .i64).enc j] (cB.enc (zr a i.toNat j.toNat)) := by
  obtain ⟨m, rfl⟩ : ∃ m : Nat, i = m := ⟨i.toNat, by omega⟩
  obtain ⟨n, rfl⟩ : ∃ n : Nat, j = n := ⟨j.toNat, by omega⟩
  exact rzero_ok a m n (by omega)
abbrev rzeroE : Entry := pureE (AC.cons (cE (eA .u8 16)) (AC.cons (cI .i64) (AC.cons (cI .i64) AC.nil))) (fun a => 0 ≤ a.2.1 ∧ a.2.1 ≤ a.2.2.1 ∧ a.2.2.1 ≤ 16) (fun a => zr a.1 a.2.1.toNat a.2.2.1.toNat) cB.enc
def LJ1 : CsL := (133, some rzeroE) :: (131, some (pureE (AC.cons (cI .u64) (AC.cons (cE eAdr) AC.nil)) (fun _ => True) (fun a => iidsF a.1 a.2.1) encIS)) :: LJ0
theorem LJ1_ok : AllOk Try.prog LJ1 := ⟨pureE_ok ⟨_, Try.func133, rfl, by kernel_rfl⟩ fun a h => rzero_okI a.1 a.2.1 a.2.2.1 h, pureE_ok ⟨_, Try.func131, rfl, by kernel_rfl⟩ fun a _ => riids_ok a.1 a.2.1, LJ0_ok⟩
set_option maxHeartbeats 8000000 in
set_option maxRecDepth 20000 in
theorem rgrp_ok (a : Fin 16 → Int) : PureOk Try.prog 95 [(cE (eA .u8 16)).enc a] (encFmG (grpF a)) := by
  obtain ⟨z15, e15⟩ : ∃ x, zr a 2 15 = x := ⟨_, rfl⟩
  obtain ⟨z13, e13⟩ : ∃ x, zr a 2 13 = x := ⟨_, rfl⟩
  obtain ⟨z11, e11⟩ : ∃ x, zr a 2 11 = x := ⟨_, rfl⟩
  obtain ⟨W, eW⟩ : ∃ W, grpF a = W := ⟨_, rfl⟩
  rw [eW]
  unfold grpF at eW
  rw [e15, e13, e11] at eW
  have k1 : vget a (0 + Int.toNat 1 * 1 + 0) = 2 → z15 = true → W = (⟨false, 0, 3⟩, [vget a 15]) := fun h g => by rw [← eW]; exact if_pos ⟨h, g⟩
  have k0 : (¬ vget a (0 + Int.toNat 1 * 1 + 0) = 2 ∨ z15 = false) → ¬ (vget a 1 = 2 ∧ z15 = true) := fun h g => h.elim (fun h => h g.1) (fun h => Bool.noConfusion (h.symm.trans g.2))
  have k2 : (¬ vget a (0 + Int.toNat 1 * 1 + 0) = 2 ∨ z15 = false) → z13 = true → W = (⟨false, 0, 2⟩, [vget a 1, vget a 13, vget a 14, vget a 15]) := fun h g => by rw [← eW, if_neg (k0 h), if_pos g]
  have k3 : (¬ vget a (0 + Int.toNat 1 * 1 + 0) = 2 ∨ z15 = false) → z13 = false → z11 = true → W = (⟨false, 0, 1⟩, [vget a 1, vget a 11, vget a 12, vget a 13, vget a 14, vget a 15]) := fun h g g' => by rw [← eW, if_neg (k0 h), if_neg (fun f => Bool.noConfusion (g.symm.trans f)), if_pos g']
  have k4 : (¬ vget a (0 + Int.toNat 1 * 1 + 0) = 2 ∨ z15 = false) → z13 = false → z11 = false → W = (⟨false, 0, 0⟩, ipL a) := fun h g g' => by rw [← eW, if_neg (k0 h), if_neg (fun f => Bool.noConfusion (g.symm.trans f)), if_neg (fun f => Bool.noConfusion (g'.symm.trans f))]
  clear eW k0
  refine pure_intro (wd := 1) (Q := mkQ LJ1) (by decide) tysOk (q_of LJ1_ok) mixed Try.func95 rfl _ (by show 1 ≤ _; decide) _ ?_
  repeat' (first | (apply And.intro <;> intro hc <;> (first | exact Bool.noConfusion hc | (simp only [decide_eq_true_eq, decide_eq_false_iff_not, Bool.not_eq_true', Bool.not_eq_false', beq_iff_eq, beq_eq_false_iff_ne, bne_iff_ne, bne_eq_false_iff_eq, Bool.true_eq_false, Bool.false_eq_true, ne_eq, not_true_eq_false] at hc <;> first | exact absurd rfl hc | skip) | skip)) | (refine And.intro (by first | exact trivial | decide | omega | (dsimp only; omega) | exact fun _ _ => rfl | exact ⟨by assumption, by first | exact trivial | decide | omega | (dsimp only; omega)⟩) ?_) | (apply And.intro) | (intro s hs; (first | (have q : z15 = s := (hs.trans ((congrArg (fun b => zr b 2 15) (rd_ip a)).trans e15)).symm; clear hs; subst q) | (have q : z13 = s := (hs.trans ((congrArg (fun b => zr b 2 13) (rd_ip a)).trans e13)).symm; clear hs; subst q) | (have q : z11 = s := (hs.trans ((congrArg (fun b => zr b 2 11) (rd_ip a)).trans e11)).symm; clear hs; subst q))))
  all_goals first
    | (rw [k1 (by assumption) (by assumption)]
       refine Done.mk (leF_e (leE_tail rfl (fun j hj => ?_) (leC_os_is (l := [vget a 15]) rfl rfl rfl rfl (Nat.le_of_eq rfl) ⟨fun k hk => ?_⟩)))
       · iterate 3 (rcases j with _ | j; (first | exact leC_int rfl | exact leC_bool rfl))
         exact absurd hj (by show ¬ _ < 3; omega)
       · iterate 1 (rcases k with _ | k; exact rfl)
         exact absurd hk (by show ¬ _ < 1; omega))
    | (rw [k2 (.inl (by assumption)) (by assumption)]
       refine Done.mk (leF_e (leE_tail rfl (fun j hj => ?_) (leC_os_is (l := [vget a 1, vget a 13, vget a 14, vget a 15]) rfl rfl rfl rfl (Nat.le_of_eq rfl) ⟨fun k hk => ?_⟩)))
       · iterate 3 (rcases j with _ | j; (first | exact leC_int rfl | exact leC_bool rfl))
         exact absurd hj (by show ¬ _ < 3; omega)
       · iterate 4 (rcases k with _ | k; exact rfl)
         exact absurd hk (by show ¬ _ < 4; omega))
    | (rw [k3 (.inl (by assumption)) (by assumption) (by assumption)]
       refine Done.mk (leF_e (leE_tail rfl (fun j hj => ?_) (leC_os_is (l := [vget a 1, vget a 11, vget a 12, vget a 13, vget a 14, vget a 15]) rfl rfl rfl rfl (Nat.le_of_eq rfl) ⟨fun k hk => ?_⟩)))
       · iterate 3 (rcases j with _ | j; (first | exact leC_int rfl | exact leC_bool rfl))
         exact absurd hj (by show ¬ _ < 3; omega)
       · iterate 6 (rcases k with _ | k; exact rfl)
         exact absurd hk (by show ¬ _ < 6; omega))
    | (rw [k4 (.inl (by assumption)) (by assumption) (by assumption)]
       refine Done.mk (leF_e (leE_tail rfl (fun j hj => ?_) (leC_os_is (l := ipL a) rfl rfl rfl rfl (Nat.le_of_eq rfl) ⟨fun k hk => ?_⟩)))
       · iterate 3 (rcases j with _ | j; (first | exact leC_int rfl | exact leC_bool rfl))
         exact absurd hj (by show ¬ _ < 3; omega)
       · iterate 16 (rcases k with _ | k; exact rfl)
         exact absurd hk (by show ¬ _ < 16; omega))
    | (rw [k2 (.inr (by assumption)) (by assumption)]
       refine Done.mk (leF_e (leE_tail rfl (fun j hj => ?_) (leC_os_is (l := [vget a 1, vget a 13, vget a 14, vget a 15]) rfl rfl rfl rfl (Nat.le_of_eq rfl) ⟨fun k hk => ?_⟩)))
       · iterate 3 (rcases j with _ | j; (first | exact leC_int rfl | exact leC_bool rfl))
         exact absurd hj (by show ¬ _ < 3; omega)
       · iterate 4 (rcases k with _ | k; exact rfl)
         exact absurd hk (by show ¬ _ < 4; omega))
    | (rw [k3 (.inr (by assumption)) (by assumption) (by assumption)]
       refine Done.mk (leF_e (leE_tail rfl (fun j hj => ?_) (leC_os_is (l := [vget a 1, vget a 11, vget a 12, vget a 13, vget a 14, vget a 15]) rfl rfl rfl rfl (Nat.le_of_eq rfl) ⟨fun k hk => ?_⟩)))
       · iterate 3 (rcases j with _ | j; (first | exact leC_int rfl | exact leC_bool rfl))
         exact absurd hj (by show ¬ _ < 3; omega)
       · iterate 6 (rcases k with _ | k; exact rfl)
         exact absurd hk (by show ¬ _ < 6; omega))
    | (rw [k4 (.inr (by assumption)) (by assumption) (by assumption)]
       refine Done.mk (leF_e (leE_tail rfl (fun j hj => ?_) (leC_os_is (l := ipL a) rfl rfl rfl rfl (Nat.le_of_eq rfl) ⟨fun k hk => ?_⟩)))
       · iterate 3 (rcases j with _ | j; (first | exact leC_int rfl | exact leC_bool rfl))
         exact absurd hj (by show ¬ _ < 3; omega)
       · iterate 16 (rcases k with _ | k; exact rfl)
         exact absurd hk (by show ¬ _ < 16; omega))
    | skip
end Go.Proofs.Ytjknkfjhcapocaa.AX
/- Structs that are read back out of cells. -/
namespace Go.Proofs.Ytjknkfjhcapocaa.AX
open Go.RowKit
set_option linter.unusedVariables false
set_option linter.unusedSimpArgs false
theorem ctx_is {G : Nat → CV} {c : Ctx} (h : ∀ j, j < 20 → G j = eCtx.cell c j) : eCtx.rd G = c := by
  have e : eCtx.rd G = eCtx.rd (eCtx.cell c) := by
    show Ctx.mk (valI (G 0)) (fun q : Fin 16 => valI (G (1 + q.1))) (valI (G 17)) (valB (G 18)) (valI (G 19)) = Ctx.mk (valI (eCtx.cell c 0)) (fun q : Fin 16 => valI (eCtx.cell c (1 + q.1))) (valI (eCtx.cell c 17)) (valB (eCtx.cell c 18)) (valI (eCtx.cell c 19))
    rw [h 0 (by decide), h 17 (by decide), h 18 (by decide), h 19 (by decide), show (fun q : Fin 16 => valI (G (1 + q.1))) = (fun q : Fin 16 => valI (eCtx.cell c (1 + q.1))) from funext fun q => congrArg valI (h (1 + q.1) (by omega))]
  exact e.trans (eCtx_rd c)
theorem toL_1 {F : Nat → Nat → CV} {c : Ctx} (h : ∀ j, j < 20 → F 0 j = eCtx.cell c j) : toL eCtx 1 F = [c] := by
  show [eCtx.rd (F 0)] = [c]
  rw [ctx_is h]
theorem ip_is {G : Nat → CV} {a : Fin 16 → Int} (h : ∀ j, j < 16 → G j = (eA .u8 16).cell a j) : (eA .u8 16).rd G = a := by
  funext q
  show valI (G q.1) = a q
  rw [h q.1 q.2]
  show vget a q.1 = a q
  exact vget_lt _ q.2
theorem pfx_is {G : Nat → CV} {p : Pfx} (h : ∀ j, j < 17 → G j = ePfx.cell p j) : ePfx.rd G = p := by
  have e : ePfx.rd G = ePfx.rd (ePfx.cell p) := by
    show Pfx.mk (fun q : Fin 16 => valI (G (0 + q.1))) (valI (G 16)) = Pfx.mk (fun q : Fin 16 => valI (ePfx.cell p (0 + q.1))) (valI (ePfx.cell p 16))
    rw [h 16 (by decide), show (fun q : Fin 16 => valI (G (0 + q.1))) = (fun q : Fin 16 => valI (ePfx.cell p (0 + q.1))) from funext fun q => congrArg valI (h (0 + q.1) (by omega))]
  exact e.trans (ePfx_rd p)
end Go.Proofs.Ytjknkfjhcapocaa.AX
/- The reference of layer 14 by AX2: unicast. -/
namespace Go.Proofs.Ytjknkfjhcapocaa.AX
open Go.RowKit
set_option linter.unusedVariables false
set_option linter.unusedSimpArgs false
set_option maxHeartbeats 8000000 in
set_option maxRecDepth 20000 in
theorem runi_ok0 (a : Fin 16 → Int) (k : Adr) (source : Bool) (l : List Ctx) (now : Int) (ha : byteOk a) (hl : bytesL l) (Z : source = true ∧ ipEq a zeroA = true) : PureOk Try.prog 94 [(cE (eA .u8 16)).enc a, (cE eAdr).enc k, cB.enc source, (cSl eCtx eCtx_sz).enc l, (cI .i64).enc now] (encFm (uniF a k source l now)) := by
  rw [uni_0 Z]
  obtain ⟨Z1, Z2⟩ := Z
  have Z3 := (zero_from a).trans Z2
  refine pure_intro (wd := 1) (Q := mkQ LJ1) (by decide) tysOk (q_of LJ1_ok) mixed Try.func94 rfl _ (by show 5 ≤ _; decide) _ ?_
  repeat' (first | (apply And.intro <;> intro hc <;> (first | exact Bool.noConfusion hc | (exfalso; first | exact Bool.noConfusion (Z1.symm.trans hc) | exact Bool.noConfusion (Z3.symm.trans hc)) | (simp only [decide_eq_true_eq, decide_eq_false_iff_not, Bool.not_eq_true', Bool.not_eq_false', beq_iff_eq, beq_eq_false_iff_ne, bne_iff_ne, bne_eq_false_iff_eq, Bool.true_eq_false, Bool.false_eq_true, ne_eq, not_true_eq_false] at hc <;> first | exact absurd rfl hc | (exfalso; first | exact Bool.noConfusion (Z1.symm.trans hc) | exact Bool.noConfusion (Z3.symm.trans hc)) | skip) | skip)) | (refine And.intro (by first | exact trivial | decide | omega | (dsimp only; omega) | exact fun _ _ => rfl | exact ⟨by assumption, by first | exact trivial | decide | omega | (dsimp only; omega)⟩) ?_) | (apply And.intro) | (intro s hs; skip))
  refine Done.mk (leF_e (leE_tail rfl (fun j hj => ?_) (leC_nils_sl rfl)))
  iterate 3 (rcases j with _ | j; (first | exact leC_int rfl | exact leC_bool rfl))
  exact absurd hj (by show ¬ _ < 3; omega)
set_option maxHeartbeats 8000000 in
set_option maxRecDepth 20000 in
theorem runi_ok1 (a : Fin 16 → Int) (k : Adr) (source : Bool) (l : List Ctx) (now : Int) (ha : byteOk a) (hl : bytesL l) (Z : ¬ (source = true ∧ ipEq a zeroA = true)) : PureOk Try.prog 94 [(cE (eA .u8 16)).enc a, (cE eAdr).enc k, cB.enc source, (cSl eCtx eCtx_sz).enc l, (cI .i64).enc now] (encFm (uniF a k source l now)) := by
  have u1 := fun h => uni_1 (k := k) (l := l) (now := now) Z h
  have u2 := fun h g => uni_2 (k := k) (l := l) (now := now) Z h g
  have u3 := fun h g => uni_3 (k := k) (l := l) (now := now) Z h g
  have hK : coverF a l now = ((forCom l a now).2 && decide ((forCom l a now).1.bits ≤ 64) && decide (hiF (forCom l a now).1.ip = hiF a)) := rfl
  have hbC : (forCom l a now).2 = true → byteOk (forCom l a now).1.ip := fun h => hl.b _ (forCom_in h).2.2.1
  have eS : splF a = (hiF a, loF a) := rfl
  have eS2 : splF (forCom l a now).1.ip = (hiF (forCom l a now).1.ip, loF (forCom l a now).1.ip) := rfl
  have Z3 := zero_from a
  obtain ⟨W, eW⟩ : ∃ W, uniF a k source l now = W := ⟨_, rfl⟩
  rw [eW] at u1 u2 u3 ⊢
  obtain ⟨C, eC⟩ : ∃ C, forCom l a now = C := ⟨_, rfl⟩
  obtain ⟨Hi, eHi⟩ : ∃ x, hiF a = x := ⟨_, rfl⟩
  obtain ⟨Lo, eLo⟩ : ∃ x, loF a = x := ⟨_, rfl⟩
  obtain ⟨V, eV⟩ : ∃ x, coverF a l now = x := ⟨_, rfl⟩
  obtain ⟨D, eD⟩ : ∃ x, iidsF (loF a) k = x := ⟨_, rfl⟩
  rw [eLo] at eD
  rw [eC] at eS2 hbC
  obtain ⟨Hc, eHc⟩ : ∃ x, hiF C.1.ip = x := ⟨_, rfl⟩
  obtain ⟨Lc, eLc⟩ : ∃ x, loF C.1.ip = x := ⟨_, rfl⟩
  rw [eC, eV, eHc, eHi] at hK
  rw [eHc, eLc] at eS2
  rw [eHi, eLo] at eS
  rw [eHi, eLo, eD] at u1
  rw [eHi, eLo, eD, eV, eC] at u2
  rw [eHi, eV] at u3
  clear eW eV
  have g1 : True := trivial
  refine pure_intro (wd := 1) (Q := mkQ LJ1) (by decide) tysOk (q_of LJ1_ok) mixed Try.func94 rfl _ (by show 5 ≤ _; decide) _ ?_
  repeat' (first | (apply And.intro <;> intro hc <;> (first | exact Bool.noConfusion hc | (exfalso; first | exact Z ⟨(by assumption), (Z3.symm.trans hc)⟩ | exact absurd hc (by assumption : ¬ C.1.bits ≤ 64) | exact absurd (by assumption : C.1.bits ≤ 64) hc | exact absurd hc (by assumption : ¬ Hc = Hi) | exact absurd (by assumption : Hc = Hi) hc | exact Bool.noConfusion ((by assumption : C.2 = true).symm.trans hc) | exact Bool.noConfusion ((by assumption : C.2 = false).symm.trans hc)) | (simp only [decide_eq_true_eq, decide_eq_false_iff_not, Bool.not_eq_true', Bool.not_eq_false', beq_iff_eq, beq_eq_false_iff_ne, bne_iff_ne, bne_eq_false_iff_eq, Bool.true_eq_false, Bool.false_eq_true, ne_eq, not_true_eq_false] at hc <;> first | exact absurd rfl hc | (exfalso; first | exact Z ⟨(by assumption), (Z3.symm.trans hc)⟩ | exact absurd hc (by assumption : ¬ C.1.bits ≤ 64) | exact absurd (by assumption : C.1.bits ≤ 64) hc | exact absurd hc (by assumption : ¬ Hc = Hi) | exact absurd (by assumption : Hc = Hi) hc | exact Bool.noConfusion ((by assumption : C.2 = true).symm.trans hc) | exact Bool.noConfusion ((by assumption : C.2 = false).symm.trans hc)) | skip) | skip)) | (refine And.intro (by first | exact trivial | decide | omega | (dsimp only; omega) | exact fun _ _ => rfl | exact ⟨by assumption, by first | exact trivial | decide | omega | (dsimp only; omega)⟩) ?_) | (apply And.intro) | (intro s hs; (first | (clear g1; have q : (Hi, Lo) = s := (hs.trans ((congrArg splF (rd_ip a)).trans eS)).symm; clear hs; subst q) | (have q : D = s := (hs.trans ((congrArg (iidsF Lo) (rd_adr k)).trans eD)).symm; clear hs; subst q) | (have q : C = s := (hs.trans ((congr (congrArg (fun l b => forCom l b now) (toL_ctx l)) (rd_ip a)).trans eC)).symm; clear hs; subst q) | (have q : s = (Hc, Lc) := (by (dsimp only at hs; refine hs.trans ((congrArg splF (ip_is (a := C.1.ip) (fun j hj => ?_))).trans eS2); (iterate 16 (rcases j with _ | j; exact rfl)); exact absurd hj (by omega))); clear hs; subst q) | skip)))
  all_goals first
    | exact Eq.mp (congrArg byteOk (rd_ip a).symm) ha
    | exact Eq.mp (congrArg bytesL (toL_ctx l).symm) hl
    | (dsimp only
       refine Eq.mp (congrArg byteOk (ip_is (a := C.1.ip) (fun j hj => ?_)).symm) (hbC (by assumption))
       iterate 16 (rcases j with _ | j; exact rfl)
       exact absurd hj (by omega))
    | (rw [u1 (by assumption)]
       refine Done.mk (leF_e (leE_tail rfl (fun j hj => ?_) (leC_sl (fun _ => rfl) rfl rfl (fun i hi j hj => leC_cell rfl))))
       iterate 3 (rcases j with _ | j; (first | exact leC_int rfl | exact leC_bool rfl))
       exact absurd hj (by show ¬ _ < 3; omega))
    | (rw [u2 (by assumption) (hK.trans (by rw [show C.2 = true by assumption, decide_eq_true (show C.1.bits ≤ 64 by assumption), decide_eq_true (show Hc = Hi by assumption)]; rfl))]
       refine Done.mk (leF_e (leE_tail rfl (fun j hj => ?_) (leC_sl (fun _ => rfl) rfl rfl (fun i hi j hj => leC_cell rfl))))
       iterate 3 (rcases j with _ | j; (first | exact leC_int rfl | exact leC_bool rfl))
       exact absurd hj (by show ¬ _ < 3; omega))
    | (rw [u3 (by assumption) (hK.trans (by rw [show C.2 = false by assumption]; rfl))]
       refine Done.mk (leF_e (leE_tail rfl (fun j hj => ?_) (leC_os_is (l := ipL a) rfl rfl rfl rfl (Nat.le_of_eq rfl) ⟨fun k hk => ?_⟩)))
       · iterate 3 (rcases j with _ | j; (first | exact leC_int rfl | exact leC_bool rfl))
         exact absurd hj (by show ¬ _ < 3; omega)
       · iterate 16 (rcases k with _ | k; exact rfl)
         exact absurd hk (by show ¬ _ < 16; omega))
    | (rw [u3 (by assumption) (hK.trans (by rw [show C.2 = true by assumption, decide_eq_false (show ¬ C.1.bits ≤ 64 by assumption)]; rfl))]
       refine Done.mk (leF_e (leE_tail rfl (fun j hj => ?_) (leC_os_is (l := ipL a) rfl rfl rfl rfl (Nat.le_of_eq rfl) ⟨fun k hk => ?_⟩)))
       · iterate 3 (rcases j with _ | j; (first | exact leC_int rfl | exact leC_bool rfl))
         exact absurd hj (by show ¬ _ < 3; omega)
       · iterate 16 (rcases k with _ | k; exact rfl)
         exact absurd hk (by show ¬ _ < 16; omega))
    | (rw [u3 (by assumption) (hK.trans (by rw [decide_eq_false (show ¬ Hc = Hi by assumption), Bool.and_false]))]
       refine Done.mk (leF_e (leE_tail rfl (fun j hj => ?_) (leC_os_is (l := ipL a) rfl rfl rfl rfl (Nat.le_of_eq rfl) ⟨fun k hk => ?_⟩)))
       · iterate 3 (rcases j with _ | j; (first | exact leC_int rfl | exact leC_bool rfl))
         exact absurd hj (by show ¬ _ < 3; omega)
       · iterate 16 (rcases k with _ | k; exact rfl)
         exact absurd hk (by show ¬ _ < 16; omega))
    | skip
theorem runi_ok (a : Fin 16 → Int) (k : Adr) (source : Bool) (l : List Ctx) (now : Int) (ha : byteOk a) (hl : bytesL l) : PureOk Try.prog 94 [(cE (eA .u8 16)).enc a, (cE eAdr).enc k, cB.enc source, (cSl eCtx eCtx_sz).enc l, (cI .i64).enc now] (encFm (uniF a k source l now)) := by
  by_cases Z : source = true ∧ ipEq a zeroA = true
  · exact runi_ok0 a k source l now ha hl Z
  · exact runi_ok1 a k source l now ha hl Z
end Go.Proofs.Ytjknkfjhcapocaa.AX
/- The reference of layer 14 by AX2: Encode. (Printed by gen/jenc.py.) -/
namespace Go.Proofs.Ytjknkfjhcapocaa.AX
open Go.RowKit
set_option linter.unusedVariables false
set_option linter.unusedSimpArgs false
def LJ5 : CsL := (94, some uniE) :: (95, some grpFE) :: (91, some (pureE chkA (fun a => bytesL a.2.2.1) (fun a => checkF a.1 a.2.1 a.2.2.1 a.2.2.2.1) (cI .i64).enc)) :: (92, some (pureE PA (fun a => 0 ≤ a.1.1.flow ∧ a.1.1.flow < 4294967296) (fun a => flowF a.1) encIS)) :: LJ1
theorem LJ5_ok : AllOk Try.prog LJ5 := ⟨pureE_ok ⟨_, Try.func94, rfl, by kernel_rfl⟩ fun a h => runi_ok a.1 a.2.1 a.2.2.1 a.2.2.2.1 a.2.2.2.2.1 h.1 h.2, pureE_ok ⟨_, Try.func95, rfl, by kernel_rfl⟩ fun a _ => rgrp_ok a.1, pureE_ok ⟨_, Try.func91, rfl, by kernel_rfl⟩ fun a h => rready_ok a.1 a.2.1 a.2.2.1 a.2.2.2.1 h, pureE_ok ⟨_, Try.func92, rfl, by kernel_rfl⟩ fun a h => rflow_ok a.1 h, LJ1_ok⟩
theorem jflow_r (p : Pkt) : 0 ≤ (flowF p).1 ∧ (flowF p).1 ≤ 3 := by
  unfold flowF
  split
  · exact ⟨(by decide : (0 : Int) ≤ 0), (by decide : (0 : Int) ≤ 3)⟩
  · split
    · exact ⟨(by decide : (0 : Int) ≤ 1), (by decide : (1 : Int) ≤ 3)⟩
    · split
      · exact ⟨(by decide : (0 : Int) ≤ 2), (by decide : (2 : Int) ≤ 3)⟩
      · exact ⟨(by decide : (0 : Int) ≤ 3), (by decide : (3 : Int) ≤ 3)⟩
theorem flow_l (p : Pkt) : (flowF p).2.length ≤ 4 := by
  have h3 := beB_n p.1.flow 3 (by decide)
  have h3' : (beB p.1.flow 3).length = 3 := h3
  unfold flowF
  split
  · simp [h3']
  · split
    · simp [h3']
    · split <;> simp
theorem hop_r (h : Int) : 0 ≤ hopF h ∧ hopF h ≤ 3 := by
  unfold hopF
  split <;> (try split) <;> (try split) <;> omega
theorem ids_l {s d : Fm} (hs : FmW s) (hd : FmW d) (h : ¬ s.id = 0) : 16 * s.id + d.id ≠ 0 := by
  have := hs.id
  have := hd.id
  omega
theorem ids_r {s d : Fm} (hs : FmW s) (hd : FmW d) (h0 : s.id = 0) (h : ¬ d.id = 0) : 16 * s.id + d.id ≠ 0 := by omega
theorem ids_cell {x y z : Int} {k m : Nat} (hk : k < [y].length) (h : x = y) : CV.int .u8 (bif Nat.beq (0 + (m + k - m)) 0 then x else z) = .int .u8 ([y].getD k default) := by
  obtain rfl : k = 0 := (by have hk' : k < 1 := hk; omega)
  rw [show 0 + (m + 0 - m) = 0 by omega]
  exact congrArg (CV.int .u8) h
theorem one_cell {y : Int} {k m : Nat} {c : CV} (hk : k < [y].length) : selC (Nat.beq (0 + (m + k - m)) 0) (.int .u8 y) c = .int .u8 ([y].getD k default) := by
  obtain rfl : k = 0 := (by have hk' : k < 1 := hk; omega)
  rw [show 0 + (m + 0 - m) = 0 by omega]
  exact selC_true _ _
theorem first_eq {F H : Int} (n : Bool) (hF : 0 ≤ F ∧ F ≤ 3) (hH : 0 ≤ H ∧ H ≤ 3) : IntKind.u8.wrap (IntKind.i64.wrap (IntKind.i64.wrap (IntKind.i64.wrap (96 + IntKind.i64.wrap (8 * F)) + bitV n 4) + H)) = 96 + 8 * F + bitV n 4 + H := by
  have := bitV_r n 4 (by decide)
  rw [IntWalk.i64_in (8 * F) (by omega), IntWalk.i64_in (96 + 8 * F) (by omega), IntWalk.i64_in (96 + 8 * F + bitV n 4) (by omega), IntWalk.i64_in _ (by omega), IntWalk.u8_in _ (by omega)]
theorem sec_eq2 {s d : Fm} (hs : FmW s) (hd : FmW d) (m b : Bool) (hb : decide (16 * s.id + d.id ≠ 0) = b) : IntKind.u8.wrap (IntKind.i64.wrap (IntKind.i64.wrap (IntKind.i64.wrap (IntKind.i64.wrap (IntKind.i64.wrap (bitV b 128 + bitV s.ctx 64) + IntKind.i64.wrap (16 * s.mode)) + bitV m 8) + bitV d.ctx 4) + d.mode)) = secF s d m := by
  have h1 := hs.mode
  have h2 := hd.mode
  unfold secF
  rw [hb]
  have b1 := bitV_r b 128 (by decide)
  have b2 := bitV_r s.ctx 64 (by decide)
  have b3 := bitV_r m 8 (by decide)
  have b4 := bitV_r d.ctx 4 (by decide)
  rw [IntWalk.i64_in (16 * s.mode) (by omega), IntWalk.i64_in (bitV b 128 + bitV s.ctx 64) (by omega), IntWalk.i64_in (bitV b 128 + bitV s.ctx 64 + 16 * s.mode) (by omega), IntWalk.i64_in (bitV b 128 + bitV s.ctx 64 + 16 * s.mode + bitV m 8) (by omega),
    IntWalk.i64_in (bitV b 128 + bitV s.ctx 64 + 16 * s.mode + bitV m 8 + bitV d.ctx 4) (by omega), IntWalk.i64_in _ (by omega), IntWalk.u8_in _ (by omega)]
theorem ids_u8 {s d : Fm} (hs : FmW s) (hd : FmW d) : IntKind.u8.wrap (IntKind.i64.wrap (IntKind.i64.wrap (16 * s.id) + d.id)) = 16 * s.id + d.id := by
  have h1 := hs.id
  have h2 := hd.id
  rw [ids_eq hs hd]
  exact u8_id (by omega)
theorem dec_ne {s d : Fm} (h0 : s.id = 0) : decide (16 * s.id + d.id ≠ 0) = (d.id != 0) := by
  rw [show 16 * s.id + d.id = d.id by omega]
  by_cases h : d.id = 0 <;> simp [h]
set_option maxHeartbeats 16000000 in
set_option maxRecDepth 20000 in
theorem renc_true (p : Pkt) (f t : Adr) (l : List Ctx) (now : Int) (hp : PkW p) (hpl : p.2.length ≤ 140737488355328) (hl : bytesL l) (hm : mcast p.1.dst = true) : NewOk Try.prog 58 [cPk.enc p, (cE eAdr).enc f, (cE eAdr).enc t, (cSl eCtx eCtx_sz).enc l, (cI .i64).enc now] (some (encI p f t l now).1.length) (some [i64V (encI p f t l now).2]) (ents eB 5 (encI p f t l now).1) := by
  obtain ⟨W, eW⟩ : ∃ W, encI p f t l now = W := ⟨_, rfl⟩
  rw [eW]
  unfold encI joinH firstF inlF at eW
  have wU := uni_w p.1.src f true l now
  have sl1 := uni_len p.1.src f true l now
  have hFl := jflow_r p
  have hHp := hop_r p.1.hops
  have slF := flow_l p
  have wX := grp_w p.1.dst
  have sl2 := (grp_len p.1.dst).1
  have eDst : dstF p t l now = grpF p.1.dst := by unfold dstF; rw [if_pos hm]
  obtain ⟨G, eG⟩ : ∃ x, grpF p.1.dst = x := ⟨_, rfl⟩
  obtain ⟨V, eV⟩ : ∃ x, validP p = x := ⟨_, rfl⟩
  obtain ⟨Ck, eC⟩ : ∃ x, checkF f t l now = x := ⟨_, rfl⟩
  obtain ⟨Fl, eF⟩ : ∃ x, flowF p = x := ⟨_, rfl⟩
  obtain ⟨Hp, eH⟩ : ∃ x, hopF p.1.hops = x := ⟨_, rfl⟩
  obtain ⟨U, eU⟩ : ∃ x, uniF p.1.src f true l now = x := ⟨_, rfl⟩
  rw [eG] at eDst wX sl2
  rw [eV, eC, eF, eH, eU, eDst, hm] at eW
  rw [eU] at wU sl1
  rw [eF] at hFl slF
  rw [eH] at hHp
  have hb1 : byteOk p.1.src := ⟨fun q => by have := hp.src q.1; rw [vget_lt _ q.2] at this; exact this⟩
  have hb2 : byteOk p.1.dst := ⟨fun q => by have := hp.dst q.1; rw [vget_lt _ q.2] at this; exact this⟩
  have e1 : V = false → W = ([], 1) := fun h => by rw [← eW, if_pos h]
  have e2 : V = true → ¬ Ck = 0 → W = ([], Ck) := fun h g => by rw [← eW, if_neg (by rw [h]; decide), if_pos g]
  have e3_000 : V = true → Ck = 0 → 16 * U.1.id + G.1.id = 0 → ¬ p.1.nxt = 17 → ¬ Hp = 0 → W = ([96 + 8 * Fl.1 + bitV (decide (p.1.nxt = 17)) 4 + Hp, secF U.1 G.1 true] ++ Fl.2 ++ [p.1.nxt] ++ U.2 ++ G.2, 0) := fun h g i n k => by rw [← eW, if_neg (by rw [h]; decide), if_neg (fun x => x g), if_neg (fun x => x i), if_neg n, if_neg k]; simp only [List.append_assoc, List.nil_append, List.append_nil]
  have e3_001 : V = true → Ck = 0 → 16 * U.1.id + G.1.id = 0 → ¬ p.1.nxt = 17 → Hp = 0 → W = ([96 + 8 * Fl.1 + bitV (decide (p.1.nxt = 17)) 4 + Hp, secF U.1 G.1 true] ++ Fl.2 ++ [p.1.nxt] ++ [p.1.hops] ++ U.2 ++ G.2, 0) := fun h g i n k => by rw [← eW, if_neg (by rw [h]; decide), if_neg (fun x => x g), if_neg (fun x => x i), if_neg n, if_pos k]; simp only [List.append_assoc, List.nil_append, List.append_nil]
  have e3_010 : V = true → Ck = 0 → 16 * U.1.id + G.1.id = 0 → p.1.nxt = 17 → ¬ Hp = 0 → W = ([96 + 8 * Fl.1 + bitV (decide (p.1.nxt = 17)) 4 + Hp, secF U.1 G.1 true] ++ Fl.2 ++ U.2 ++ G.2, 0) := fun h g i n k => by rw [← eW, if_neg (by rw [h]; decide), if_neg (fun x => x g), if_neg (fun x => x i), if_pos n, if_neg k]; simp only [List.append_assoc, List.nil_append, List.append_nil]
  have e3_011 : V = true → Ck = 0 → 16 * U.1.id + G.1.id = 0 → p.1.nxt = 17 → Hp = 0 → W = ([96 + 8 * Fl.1 + bitV (decide (p.1.nxt = 17)) 4 + Hp, secF U.1 G.1 true] ++ Fl.2 ++ [p.1.hops] ++ U.2 ++ G.2, 0) := fun h g i n k => by rw [← eW, if_neg (by rw [h]; decide), if_neg (fun x => x g), if_neg (fun x => x i), if_pos n, if_pos k]; simp only [List.append_assoc, List.nil_append, List.append_nil]
  have e3_100 : V = true → Ck = 0 → 16 * U.1.id + G.1.id ≠ 0 → ¬ p.1.nxt = 17 → ¬ Hp = 0 → W = ([96 + 8 * Fl.1 + bitV (decide (p.1.nxt = 17)) 4 + Hp, secF U.1 G.1 true] ++ [16 * U.1.id + G.1.id] ++ Fl.2 ++ [p.1.nxt] ++ U.2 ++ G.2, 0) := fun h g i n k => by rw [← eW, if_neg (by rw [h]; decide), if_neg (fun x => x g), if_pos i, if_neg n, if_neg k]; simp only [List.append_assoc, List.nil_append, List.append_nil]
  have e3_101 : V = true → Ck = 0 → 16 * U.1.id + G.1.id ≠ 0 → ¬ p.1.nxt = 17 → Hp = 0 → W = ([96 + 8 * Fl.1 + bitV (decide (p.1.nxt = 17)) 4 + Hp, secF U.1 G.1 true] ++ [16 * U.1.id + G.1.id] ++ Fl.2 ++ [p.1.nxt] ++ [p.1.hops] ++ U.2 ++ G.2, 0) := fun h g i n k => by rw [← eW, if_neg (by rw [h]; decide), if_neg (fun x => x g), if_pos i, if_neg n, if_pos k]; simp only [List.append_assoc, List.nil_append, List.append_nil]
  have e3_110 : V = true → Ck = 0 → 16 * U.1.id + G.1.id ≠ 0 → p.1.nxt = 17 → ¬ Hp = 0 → W = ([96 + 8 * Fl.1 + bitV (decide (p.1.nxt = 17)) 4 + Hp, secF U.1 G.1 true] ++ [16 * U.1.id + G.1.id] ++ Fl.2 ++ U.2 ++ G.2, 0) := fun h g i n k => by rw [← eW, if_neg (by rw [h]; decide), if_neg (fun x => x g), if_pos i, if_pos n, if_neg k]; simp only [List.append_assoc, List.nil_append, List.append_nil]
  have e3_111 : V = true → Ck = 0 → 16 * U.1.id + G.1.id ≠ 0 → p.1.nxt = 17 → Hp = 0 → W = ([96 + 8 * Fl.1 + bitV (decide (p.1.nxt = 17)) 4 + Hp, secF U.1 G.1 true] ++ [16 * U.1.id + G.1.id] ++ Fl.2 ++ [p.1.hops] ++ U.2 ++ G.2, 0) := fun h g i n k => by rw [← eW, if_neg (by rw [h]; decide), if_neg (fun x => x g), if_pos i, if_pos n, if_pos k]; simp only [List.append_assoc, List.nil_append, List.append_nil]
  have eI8 := ids_u8 wU wX
  have eF' := eF
  have eH' := eH
  have eF' := eF
  have eH' := eH
  clear eW eDst eF eH
  have g1 : True := trivial
  have g2 : True := trivial
  refine new_intro (wd := 1) (Q := mkQ LJ5) (by decide) tysOk (q_of LJ5_ok) mixed Try.func58 rfl _ (by show 5 ≤ _; decide) (fun i _ j _ => row_nf eB _ i j) ?_
  repeat' (first | (apply And.intro <;> intro hc <;> (first | exact Bool.noConfusion hc | (exfalso; first | exact Bool.noConfusion hc) | (simp only [decide_eq_true_eq, decide_eq_false_iff_not, Bool.not_eq_true', Bool.not_eq_false', beq_iff_eq, beq_eq_false_iff_ne, bne_iff_ne, bne_eq_false_iff_eq, Bool.true_eq_false, Bool.false_eq_true, ne_eq, not_true_eq_false] at hc <;> first | exact absurd rfl hc | (exfalso; first | exact Bool.noConfusion hc) | skip) | skip)) | (refine And.intro (by first | exact trivial | decide | omega | (dsimp only; omega) | exact fun _ _ => rfl | exact ⟨by assumption, by first | exact trivial | decide | omega | (dsimp only; omega)⟩) ?_) | (apply And.intro) | (intro s hs; (first | (have q : V = s := (hs.trans ((congrArg validP (pk_eq p _)).trans eV)).symm; clear hs; subst q) | (have q : Ck = s := (hs.trans ((congr (congr (congrArg (fun a b c => checkF a b c now) (rd_adr f)) (rd_adr t)) (toL_ctx l)).trans eC)).symm; clear hs; subst q) | (clear g2; have q : Fl = s := (hs.trans ((congrArg flowF (pk_eq p _)).trans eF')).symm; clear hs; subst q) | (have q : Hp = s := (hs.trans eH').symm; clear hs; subst q) | (clear g1; have q : U = s := (hs.trans ((congr (congr (congrArg (fun a b c => uniF a b true c now) (src_eq p.1 _)) (rd_adr f)) (toL_ctx l)).trans eU)).symm; clear hs; subst q) | (have q : s = true := hs.trans ((congrArg mcast (dst_eq p.1 _)).trans hm); clear hs; subst q) | (have q : G = s := (hs.trans ((congrArg grpF (dst_eq p.1 _)).trans eG)).symm; clear hs; subst q) | (have q := hs; dsimp only at q; clear hs; subst q) | skip)))
  all_goals first
    | (show (toL eB p.2.length _).length ≤ _; rw [toL_len]; exact hpl)
    | (rw [e1 (by assumption)]
       exact ⟨⟨none, leF_tup ⟨leC_nils_os rfl, leC_int rfl, trivial⟩, rfl, rfl, (by show 0 < 1; omega)⟩⟩)
    | (rw [e2 (by assumption) (by assumption)]
       exact ⟨⟨none, leF_tup ⟨leC_nils_os rfl, leC_int rfl, trivial⟩, rfl, rfl, (by show 0 < 1; omega)⟩⟩)
    | exact Eq.mp (congrArg PkW (pk_eq p _).symm) hp
    | exact Eq.mp (congrArg (fun p : Pkt => 0 ≤ p.1.flow) (pk_eq p _).symm) hp.flow.1
    | exact Eq.mp (congrArg (fun p : Pkt => p.1.flow < 4294967296) (pk_eq p _).symm) hp.flow.2
    | exact Eq.mp (congrArg byteOk (src_eq p.1 _).symm) hb1
    | exact Eq.mp (congrArg byteOk (dst_eq p.1 _).symm) hb2
    | exact Eq.mp (congrArg bytesL (toL_ctx l).symm) hl
    | omega
    | skip
  all_goals first
    | (have hne := (show 16 * U.1.id + G.1.id = 0 by rw [show U.1.id = 0 by assumption, show G.1.id = 0 by assumption]; rfl)
       have e := e3_000 (by assumption) (by assumption) hne (by assumption) (by assumption)
       have hid : decide (16 * U.1.id + G.1.id ≠ 0) = (G.1.id != 0) := dec_ne (by assumption)
       rw [e]
       refine ⟨⟨some _, leF_tup ⟨leC_os rfl ?_, leC_int rfl, trivial⟩, leN_is ?_ (isRow_sel ?_ (isRow_sel ?_ (isRow_sel ?_ (isRow_sel rfl (isRow_2 (congrArg (CV.int .u8) (first_eq _ hFl hHp)) (congrArg (CV.int .u8) (sec_eq2 wU wX true (G.1.id != 0) hid))) (fun k hk => rowF_at (by omega))) (fun k hk => one_cell hk)) (fun k hk => rowF_at (by omega))) (fun k hk => rowF_at (by omega)))⟩⟩
       all_goals first
         | (simp only [List.length_append, List.length_cons, List.length_nil]; done)
         | rfl
         | skip)
    | (have hne := (show 16 * U.1.id + G.1.id = 0 by rw [show U.1.id = 0 by assumption, show G.1.id = 0 by assumption]; rfl)
       have e := e3_001 (by assumption) (by assumption) hne (by assumption) (by assumption)
       have hid : decide (16 * U.1.id + G.1.id ≠ 0) = (G.1.id != 0) := dec_ne (by assumption)
       rw [e]
       refine ⟨⟨some _, leF_tup ⟨leC_os rfl ?_, leC_int rfl, trivial⟩, leN_is ?_ (isRow_sel ?_ (isRow_sel ?_ (isRow_sel ?_ (isRow_sel ?_ (isRow_sel rfl (isRow_2 (congrArg (CV.int .u8) (first_eq _ hFl hHp)) (congrArg (CV.int .u8) (sec_eq2 wU wX true (G.1.id != 0) hid))) (fun k hk => rowF_at (by omega))) (fun k hk => one_cell hk)) (fun k hk => one_cell hk)) (fun k hk => rowF_at (by omega))) (fun k hk => rowF_at (by omega)))⟩⟩
       all_goals first
         | (simp only [List.length_append, List.length_cons, List.length_nil]; done)
         | rfl
         | skip)
    | (have hne := (show 16 * U.1.id + G.1.id = 0 by rw [show U.1.id = 0 by assumption, show G.1.id = 0 by assumption]; rfl)
       have e := e3_010 (by assumption) (by assumption) hne (by assumption) (by assumption)
       have hid : decide (16 * U.1.id + G.1.id ≠ 0) = (G.1.id != 0) := dec_ne (by assumption)
       rw [e]
       refine ⟨⟨some _, leF_tup ⟨leC_os rfl ?_, leC_int rfl, trivial⟩, leN_is ?_ (isRow_sel ?_ (isRow_sel ?_ (isRow_sel rfl (isRow_2 (congrArg (CV.int .u8) (first_eq _ hFl hHp)) (congrArg (CV.int .u8) (sec_eq2 wU wX true (G.1.id != 0) hid))) (fun k hk => rowF_at (by omega))) (fun k hk => rowF_at (by omega))) (fun k hk => rowF_at (by omega)))⟩⟩
       all_goals first
         | (simp only [List.length_append, List.length_cons, List.length_nil]; done)
         | rfl
         | skip)
    | (have hne := (show 16 * U.1.id + G.1.id = 0 by rw [show U.1.id = 0 by assumption, show G.1.id = 0 by assumption]; rfl)
       have e := e3_011 (by assumption) (by assumption) hne (by assumption) (by assumption)
       have hid : decide (16 * U.1.id + G.1.id ≠ 0) = (G.1.id != 0) := dec_ne (by assumption)
       rw [e]
       refine ⟨⟨some _, leF_tup ⟨leC_os rfl ?_, leC_int rfl, trivial⟩, leN_is ?_ (isRow_sel ?_ (isRow_sel ?_ (isRow_sel ?_ (isRow_sel rfl (isRow_2 (congrArg (CV.int .u8) (first_eq _ hFl hHp)) (congrArg (CV.int .u8) (sec_eq2 wU wX true (G.1.id != 0) hid))) (fun k hk => rowF_at (by omega))) (fun k hk => one_cell hk)) (fun k hk => rowF_at (by omega))) (fun k hk => rowF_at (by omega)))⟩⟩
       all_goals first
         | (simp only [List.length_append, List.length_cons, List.length_nil]; done)
         | rfl
         | skip)
    | (have hne := (ids_l wU wX (by assumption))
       have e := e3_100 (by assumption) (by assumption) hne (by assumption) (by assumption)
       have hid : decide (16 * U.1.id + G.1.id ≠ 0) = true := decide_eq_true hne
       rw [e]
       refine ⟨⟨some _, leF_tup ⟨leC_os rfl ?_, leC_int rfl, trivial⟩, leN_is ?_ (isRow_sel ?_ (isRow_sel ?_ (isRow_sel ?_ (isRow_sel ?_ (isRow_sel rfl (isRow_2 (congrArg (CV.int .u8) (first_eq _ hFl hHp)) (congrArg (CV.int .u8) (sec_eq2 wU wX true true hid))) (fun k hk => ids_cell hk eI8)) (fun k hk => rowF_at (by omega))) (fun k hk => one_cell hk)) (fun k hk => rowF_at (by omega))) (fun k hk => rowF_at (by omega)))⟩⟩
       all_goals first
         | (simp only [List.length_append, List.length_cons, List.length_nil]; done)
         | rfl
         | skip)
    | (have hne := (ids_r wU wX (by assumption) (by assumption))
       have e := e3_100 (by assumption) (by assumption) hne (by assumption) (by assumption)
       have hid : decide (16 * U.1.id + G.1.id ≠ 0) = (G.1.id != 0) := dec_ne (by assumption)
       rw [e]
       refine ⟨⟨some _, leF_tup ⟨leC_os rfl ?_, leC_int rfl, trivial⟩, leN_is ?_ (isRow_sel ?_ (isRow_sel ?_ (isRow_sel ?_ (isRow_sel ?_ (isRow_sel rfl (isRow_2 (congrArg (CV.int .u8) (first_eq _ hFl hHp)) (congrArg (CV.int .u8) (sec_eq2 wU wX true (G.1.id != 0) hid))) (fun k hk => ids_cell hk eI8)) (fun k hk => rowF_at (by omega))) (fun k hk => one_cell hk)) (fun k hk => rowF_at (by omega))) (fun k hk => rowF_at (by omega)))⟩⟩
       all_goals first
         | (simp only [List.length_append, List.length_cons, List.length_nil]; done)
         | rfl
         | skip)
    | (have hne := (ids_l wU wX (by assumption))
       have e := e3_101 (by assumption) (by assumption) hne (by assumption) (by assumption)
       have hid : decide (16 * U.1.id + G.1.id ≠ 0) = true := decide_eq_true hne
       rw [e]
       refine ⟨⟨some _, leF_tup ⟨leC_os rfl ?_, leC_int rfl, trivial⟩, leN_is ?_ (isRow_sel ?_ (isRow_sel ?_ (isRow_sel ?_ (isRow_sel ?_ (isRow_sel ?_ (isRow_sel rfl (isRow_2 (congrArg (CV.int .u8) (first_eq _ hFl hHp)) (congrArg (CV.int .u8) (sec_eq2 wU wX true true hid))) (fun k hk => ids_cell hk eI8)) (fun k hk => rowF_at (by omega))) (fun k hk => one_cell hk)) (fun k hk => one_cell hk)) (fun k hk => rowF_at (by omega))) (fun k hk => rowF_at (by omega)))⟩⟩
       all_goals first
         | (simp only [List.length_append, List.length_cons, List.length_nil]; done)
         | rfl
         | skip)
    | (have hne := (ids_r wU wX (by assumption) (by assumption))
       have e := e3_101 (by assumption) (by assumption) hne (by assumption) (by assumption)
       have hid : decide (16 * U.1.id + G.1.id ≠ 0) = (G.1.id != 0) := dec_ne (by assumption)
       rw [e]
       refine ⟨⟨some _, leF_tup ⟨leC_os rfl ?_, leC_int rfl, trivial⟩, leN_is ?_ (isRow_sel ?_ (isRow_sel ?_ (isRow_sel ?_ (isRow_sel ?_ (isRow_sel ?_ (isRow_sel rfl (isRow_2 (congrArg (CV.int .u8) (first_eq _ hFl hHp)) (congrArg (CV.int .u8) (sec_eq2 wU wX true (G.1.id != 0) hid))) (fun k hk => ids_cell hk eI8)) (fun k hk => rowF_at (by omega))) (fun k hk => one_cell hk)) (fun k hk => one_cell hk)) (fun k hk => rowF_at (by omega))) (fun k hk => rowF_at (by omega)))⟩⟩
       all_goals first
         | (simp only [List.length_append, List.length_cons, List.length_nil]; done)
         | rfl
         | skip)
    | (have hne := (ids_l wU wX (by assumption))
       have e := e3_110 (by assumption) (by assumption) hne (by assumption) (by assumption)
       have hid : decide (16 * U.1.id + G.1.id ≠ 0) = true := decide_eq_true hne
       rw [e]
       refine ⟨⟨some _, leF_tup ⟨leC_os rfl ?_, leC_int rfl, trivial⟩, leN_is ?_ (isRow_sel ?_ (isRow_sel ?_ (isRow_sel ?_ (isRow_sel rfl (isRow_2 (congrArg (CV.int .u8) (first_eq _ hFl hHp)) (congrArg (CV.int .u8) (sec_eq2 wU wX true true hid))) (fun k hk => ids_cell hk eI8)) (fun k hk => rowF_at (by omega))) (fun k hk => rowF_at (by omega))) (fun k hk => rowF_at (by omega)))⟩⟩
       all_goals first
         | (simp only [List.length_append, List.length_cons, List.length_nil]; done)
         | rfl
         | skip)
    | (have hne := (ids_r wU wX (by assumption) (by assumption))
       have e := e3_110 (by assumption) (by assumption) hne (by assumption) (by assumption)
       have hid : decide (16 * U.1.id + G.1.id ≠ 0) = (G.1.id != 0) := dec_ne (by assumption)
       rw [e]
       refine ⟨⟨some _, leF_tup ⟨leC_os rfl ?_, leC_int rfl, trivial⟩, leN_is ?_ (isRow_sel ?_ (isRow_sel ?_ (isRow_sel ?_ (isRow_sel rfl (isRow_2 (congrArg (CV.int .u8) (first_eq _ hFl hHp)) (congrArg (CV.int .u8) (sec_eq2 wU wX true (G.1.id != 0) hid))) (fun k hk => ids_cell hk eI8)) (fun k hk => rowF_at (by omega))) (fun k hk => rowF_at (by omega))) (fun k hk => rowF_at (by omega)))⟩⟩
       all_goals first
         | (simp only [List.length_append, List.length_cons, List.length_nil]; done)
         | rfl
         | skip)
    | (have hne := (ids_l wU wX (by assumption))
       have e := e3_111 (by assumption) (by assumption) hne (by assumption) (by assumption)
       have hid : decide (16 * U.1.id + G.1.id ≠ 0) = true := decide_eq_true hne
       rw [e]
       refine ⟨⟨some _, leF_tup ⟨leC_os rfl ?_, leC_int rfl, trivial⟩, leN_is ?_ (isRow_sel ?_ (isRow_sel ?_ (isRow_sel ?_ (isRow_sel ?_ (isRow_sel rfl (isRow_2 (congrArg (CV.int .u8) (first_eq _ hFl hHp)) (congrArg (CV.int .u8) (sec_eq2 wU wX true true hid))) (fun k hk => ids_cell hk eI8)) (fun k hk => rowF_at (by omega))) (fun k hk => one_cell hk)) (fun k hk => rowF_at (by omega))) (fun k hk => rowF_at (by omega)))⟩⟩
       all_goals first
         | (simp only [List.length_append, List.length_cons, List.length_nil]; done)
         | rfl
         | skip)
    | (have hne := (ids_r wU wX (by assumption) (by assumption))
       have e := e3_111 (by assumption) (by assumption) hne (by assumption) (by assumption)
       have hid : decide (16 * U.1.id + G.1.id ≠ 0) = (G.1.id != 0) := dec_ne (by assumption)
       rw [e]
       refine ⟨⟨some _, leF_tup ⟨leC_os rfl ?_, leC_int rfl, trivial⟩, leN_is ?_ (isRow_sel ?_ (isRow_sel ?_ (isRow_sel ?_ (isRow_sel ?_ (isRow_sel rfl (isRow_2 (congrArg (CV.int .u8) (first_eq _ hFl hHp)) (congrArg (CV.int .u8) (sec_eq2 wU wX true (G.1.id != 0) hid))) (fun k hk => ids_cell hk eI8)) (fun k hk => rowF_at (by omega))) (fun k hk => one_cell hk)) (fun k hk => rowF_at (by omega))) (fun k hk => rowF_at (by omega)))⟩⟩
       all_goals first
         | (simp only [List.length_append, List.length_cons, List.length_nil]; done)
         | rfl
         | skip)
    | skip
set_option maxHeartbeats 16000000 in
set_option maxRecDepth 20000 in
theorem renc_false (p : Pkt) (f t : Adr) (l : List Ctx) (now : Int) (hp : PkW p) (hpl : p.2.length ≤ 140737488355328) (hl : bytesL l) (hm : mcast p.1.dst = false) : NewOk Try.prog 58 [cPk.enc p, (cE eAdr).enc f, (cE eAdr).enc t, (cSl eCtx eCtx_sz).enc l, (cI .i64).enc now] (some (encI p f t l now).1.length) (some [i64V (encI p f t l now).2]) (ents eB 5 (encI p f t l now).1) := by
  obtain ⟨W, eW⟩ : ∃ W, encI p f t l now = W := ⟨_, rfl⟩
  rw [eW]
  unfold encI joinH firstF inlF at eW
  have wU := uni_w p.1.src f true l now
  have sl1 := uni_len p.1.src f true l now
  have hFl := jflow_r p
  have hHp := hop_r p.1.hops
  have slF := flow_l p
  have wX := uni_w p.1.dst t false l now
  have sl2 := uni_len p.1.dst t false l now
  have eDst : dstF p t l now = uniF p.1.dst t false l now := by unfold dstF; rw [if_neg (by rw [hm]; decide)]
  obtain ⟨D, eG⟩ : ∃ x, uniF p.1.dst t false l now = x := ⟨_, rfl⟩
  obtain ⟨V, eV⟩ : ∃ x, validP p = x := ⟨_, rfl⟩
  obtain ⟨Ck, eC⟩ : ∃ x, checkF f t l now = x := ⟨_, rfl⟩
  obtain ⟨Fl, eF⟩ : ∃ x, flowF p = x := ⟨_, rfl⟩
  obtain ⟨Hp, eH⟩ : ∃ x, hopF p.1.hops = x := ⟨_, rfl⟩
  obtain ⟨U, eU⟩ : ∃ x, uniF p.1.src f true l now = x := ⟨_, rfl⟩
  rw [eG] at eDst wX sl2
  rw [eV, eC, eF, eH, eU, eDst, hm] at eW
  rw [eU] at wU sl1
  rw [eF] at hFl slF
  rw [eH] at hHp
  have hb1 : byteOk p.1.src := ⟨fun q => by have := hp.src q.1; rw [vget_lt _ q.2] at this; exact this⟩
  have hb2 : byteOk p.1.dst := ⟨fun q => by have := hp.dst q.1; rw [vget_lt _ q.2] at this; exact this⟩
  have e1 : V = false → W = ([], 1) := fun h => by rw [← eW, if_pos h]
  have e2 : V = true → ¬ Ck = 0 → W = ([], Ck) := fun h g => by rw [← eW, if_neg (by rw [h]; decide), if_pos g]
  have e3_000 : V = true → Ck = 0 → 16 * U.1.id + D.1.id = 0 → ¬ p.1.nxt = 17 → ¬ Hp = 0 → W = ([96 + 8 * Fl.1 + bitV (decide (p.1.nxt = 17)) 4 + Hp, secF U.1 D.1 false] ++ Fl.2 ++ [p.1.nxt] ++ U.2 ++ D.2, 0) := fun h g i n k => by rw [← eW, if_neg (by rw [h]; decide), if_neg (fun x => x g), if_neg (fun x => x i), if_neg n, if_neg k]; simp only [List.append_assoc, List.nil_append, List.append_nil]
  have e3_001 : V = true → Ck = 0 → 16 * U.1.id + D.1.id = 0 → ¬ p.1.nxt = 17 → Hp = 0 → W = ([96 + 8 * Fl.1 + bitV (decide (p.1.nxt = 17)) 4 + Hp, secF U.1 D.1 false] ++ Fl.2 ++ [p.1.nxt] ++ [p.1.hops] ++ U.2 ++ D.2, 0) := fun h g i n k => by rw [← eW, if_neg (by rw [h]; decide), if_neg (fun x => x g), if_neg (fun x => x i), if_neg n, if_pos k]; simp only [List.append_assoc, List.nil_append, List.append_nil]
  have e3_010 : V = true → Ck = 0 → 16 * U.1.id + D.1.id = 0 → p.1.nxt = 17 → ¬ Hp = 0 → W = ([96 + 8 * Fl.1 + bitV (decide (p.1.nxt = 17)) 4 + Hp, secF U.1 D.1 false] ++ Fl.2 ++ U.2 ++ D.2, 0) := fun h g i n k => by rw [← eW, if_neg (by rw [h]; decide), if_neg (fun x => x g), if_neg (fun x => x i), if_pos n, if_neg k]; simp only [List.append_assoc, List.nil_append, List.append_nil]
  have e3_011 : V = true → Ck = 0 → 16 * U.1.id + D.1.id = 0 → p.1.nxt = 17 → Hp = 0 → W = ([96 + 8 * Fl.1 + bitV (decide (p.1.nxt = 17)) 4 + Hp, secF U.1 D.1 false] ++ Fl.2 ++ [p.1.hops] ++ U.2 ++ D.2, 0) := fun h g i n k => by rw [← eW, if_neg (by rw [h]; decide), if_neg (fun x => x g), if_neg (fun x => x i), if_pos n, if_pos k]; simp only [List.append_assoc, List.nil_append, List.append_nil]
  have e3_100 : V = true → Ck = 0 → 16 * U.1.id + D.1.id ≠ 0 → ¬ p.1.nxt = 17 → ¬ Hp = 0 → W = ([96 + 8 * Fl.1 + bitV (decide (p.1.nxt = 17)) 4 + Hp, secF U.1 D.1 false] ++ [16 * U.1.id + D.1.id] ++ Fl.2 ++ [p.1.nxt] ++ U.2 ++ D.2, 0) := fun h g i n k => by rw [← eW, if_neg (by rw [h]; decide), if_neg (fun x => x g), if_pos i, if_neg n, if_neg k]; simp only [List.append_assoc, List.nil_append, List.append_nil]
  have e3_101 : V = true → Ck = 0 → 16 * U.1.id + D.1.id ≠ 0 → ¬ p.1.nxt = 17 → Hp = 0 → W = ([96 + 8 * Fl.1 + bitV (decide (p.1.nxt = 17)) 4 + Hp, secF U.1 D.1 false] ++ [16 * U.1.id + D.1.id] ++ Fl.2 ++ [p.1.nxt] ++ [p.1.hops] ++ U.2 ++ D.2, 0) := fun h g i n k => by rw [← eW, if_neg (by rw [h]; decide), if_neg (fun x => x g), if_pos i, if_neg n, if_pos k]; simp only [List.append_assoc, List.nil_append, List.append_nil]
  have e3_110 : V = true → Ck = 0 → 16 * U.1.id + D.1.id ≠ 0 → p.1.nxt = 17 → ¬ Hp = 0 → W = ([96 + 8 * Fl.1 + bitV (decide (p.1.nxt = 17)) 4 + Hp, secF U.1 D.1 false] ++ [16 * U.1.id + D.1.id] ++ Fl.2 ++ U.2 ++ D.2, 0) := fun h g i n k => by rw [← eW, if_neg (by rw [h]; decide), if_neg (fun x => x g), if_pos i, if_pos n, if_neg k]; simp only [List.append_assoc, List.nil_append, List.append_nil]
  have e3_111 : V = true → Ck = 0 → 16 * U.1.id + D.1.id ≠ 0 → p.1.nxt = 17 → Hp = 0 → W = ([96 + 8 * Fl.1 + bitV (decide (p.1.nxt = 17)) 4 + Hp, secF U.1 D.1 false] ++ [16 * U.1.id + D.1.id] ++ Fl.2 ++ [p.1.hops] ++ U.2 ++ D.2, 0) := fun h g i n k => by rw [← eW, if_neg (by rw [h]; decide), if_neg (fun x => x g), if_pos i, if_pos n, if_pos k]; simp only [List.append_assoc, List.nil_append, List.append_nil]
  have eI8 := ids_u8 wU wX
  have eF' := eF
  have eH' := eH
  clear eW eDst eF eH
  have g1 : True := trivial
  have g2 : True := trivial
  refine new_intro (wd := 1) (Q := mkQ LJ5) (by decide) tysOk (q_of LJ5_ok) mixed Try.func58 rfl _ (by show 5 ≤ _; decide) (fun i _ j _ => row_nf eB _ i j) ?_
  repeat' (first | (apply And.intro <;> intro hc <;> (first | exact Bool.noConfusion hc | (exfalso; first | exact Bool.noConfusion hc) | (simp only [decide_eq_true_eq, decide_eq_false_iff_not, Bool.not_eq_true', Bool.not_eq_false', beq_iff_eq, beq_eq_false_iff_ne, bne_iff_ne, bne_eq_false_iff_eq, Bool.true_eq_false, Bool.false_eq_true, ne_eq, not_true_eq_false] at hc <;> first | exact absurd rfl hc | (exfalso; first | exact Bool.noConfusion hc) | skip) | skip)) | (refine And.intro (by first | exact trivial | decide | omega | (dsimp only; omega) | exact fun _ _ => rfl | exact ⟨by assumption, by first | exact trivial | decide | omega | (dsimp only; omega)⟩) ?_) | (apply And.intro) | (intro s hs; (first | (have q : V = s := (hs.trans ((congrArg validP (pk_eq p _)).trans eV)).symm; clear hs; subst q) | (have q : Ck = s := (hs.trans ((congr (congr (congrArg (fun a b c => checkF a b c now) (rd_adr f)) (rd_adr t)) (toL_ctx l)).trans eC)).symm; clear hs; subst q) | (clear g2; have q : Fl = s := (hs.trans ((congrArg flowF (pk_eq p _)).trans eF')).symm; clear hs; subst q) | (have q : Hp = s := (hs.trans eH').symm; clear hs; subst q) | (clear g1; have q : U = s := (hs.trans ((congr (congr (congrArg (fun a b c => uniF a b true c now) (src_eq p.1 _)) (rd_adr f)) (toL_ctx l)).trans eU)).symm; clear hs; subst q) | (have q : s = false := hs.trans ((congrArg mcast (dst_eq p.1 _)).trans hm); clear hs; subst q) | (have q : D = s := (hs.trans ((congr (congr (congrArg (fun a b c => uniF a b false c now) (dst_eq p.1 _)) (rd_adr t)) (toL_ctx l)).trans eG)).symm; clear hs; subst q) | (have q := hs; dsimp only at q; clear hs; subst q) | skip)))
  all_goals first
    | (show (toL eB p.2.length _).length ≤ _; rw [toL_len]; exact hpl)
    | (rw [e1 (by assumption)]
       exact ⟨⟨none, leF_tup ⟨leC_nils_os rfl, leC_int rfl, trivial⟩, rfl, rfl, (by show 0 < 1; omega)⟩⟩)
    | (rw [e2 (by assumption) (by assumption)]
       exact ⟨⟨none, leF_tup ⟨leC_nils_os rfl, leC_int rfl, trivial⟩, rfl, rfl, (by show 0 < 1; omega)⟩⟩)
    | exact Eq.mp (congrArg PkW (pk_eq p _).symm) hp
    | exact Eq.mp (congrArg (fun p : Pkt => 0 ≤ p.1.flow) (pk_eq p _).symm) hp.flow.1
    | exact Eq.mp (congrArg (fun p : Pkt => p.1.flow < 4294967296) (pk_eq p _).symm) hp.flow.2
    | exact Eq.mp (congrArg byteOk (src_eq p.1 _).symm) hb1
    | exact Eq.mp (congrArg byteOk (dst_eq p.1 _).symm) hb2
    | exact Eq.mp (congrArg bytesL (toL_ctx l).symm) hl
    | omega
    | skip
  all_goals first
    | (have hne := (show 16 * U.1.id + D.1.id = 0 by rw [show U.1.id = 0 by assumption, show D.1.id = 0 by assumption]; rfl)
       have e := e3_000 (by assumption) (by assumption) hne (by assumption) (by assumption)
       have hid : decide (16 * U.1.id + D.1.id ≠ 0) = (D.1.id != 0) := dec_ne (by assumption)
       rw [e]
       refine ⟨⟨some _, leF_tup ⟨leC_os rfl ?_, leC_int rfl, trivial⟩, leN_is ?_ (isRow_sel ?_ (isRow_sel ?_ (isRow_sel ?_ (isRow_sel rfl (isRow_2 (congrArg (CV.int .u8) (first_eq _ hFl hHp)) (congrArg (CV.int .u8) (sec_eq2 wU wX false (D.1.id != 0) hid))) (fun k hk => rowF_at (by omega))) (fun k hk => one_cell hk)) (fun k hk => rowF_at (by omega))) (fun k hk => rowF_at (by omega)))⟩⟩
       all_goals first
         | (simp only [List.length_append, List.length_cons, List.length_nil]; done)
         | rfl
         | skip)
    | (have hne := (show 16 * U.1.id + D.1.id = 0 by rw [show U.1.id = 0 by assumption, show D.1.id = 0 by assumption]; rfl)
       have e := e3_001 (by assumption) (by assumption) hne (by assumption) (by assumption)
       have hid : decide (16 * U.1.id + D.1.id ≠ 0) = (D.1.id != 0) := dec_ne (by assumption)
       rw [e]
       refine ⟨⟨some _, leF_tup ⟨leC_os rfl ?_, leC_int rfl, trivial⟩, leN_is ?_ (isRow_sel ?_ (isRow_sel ?_ (isRow_sel ?_ (isRow_sel ?_ (isRow_sel rfl (isRow_2 (congrArg (CV.int .u8) (first_eq _ hFl hHp)) (congrArg (CV.int .u8) (sec_eq2 wU wX false (D.1.id != 0) hid))) (fun k hk => rowF_at (by omega))) (fun k hk => one_cell hk)) (fun k hk => one_cell hk)) (fun k hk => rowF_at (by omega))) (fun k hk => rowF_at (by omega)))⟩⟩
       all_goals first
         | (simp only [List.length_append, List.length_cons, List.length_nil]; done)
         | rfl
         | skip)
    | (have hne := (show 16 * U.1.id + D.1.id = 0 by rw [show U.1.id = 0 by assumption, show D.1.id = 0 by assumption]; rfl)
       have e := e3_010 (by assumption) (by assumption) hne (by assumption) (by assumption)
       have hid : decide (16 * U.1.id + D.1.id ≠ 0) = (D.1.id != 0) := dec_ne (by assumption)
       rw [e]
       refine ⟨⟨some _, leF_tup ⟨leC_os rfl ?_, leC_int rfl, trivial⟩, leN_is ?_ (isRow_sel ?_ (isRow_sel ?_ (isRow_sel rfl (isRow_2 (congrArg (CV.int .u8) (first_eq _ hFl hHp)) (congrArg (CV.int .u8) (sec_eq2 wU wX false (D.1.id != 0) hid))) (fun k hk => rowF_at (by omega))) (fun k hk => rowF_at (by omega))) (fun k hk => rowF_at (by omega)))⟩⟩
       all_goals first
         | (simp only [List.length_append, List.length_cons, List.length_nil]; done)
         | rfl
         | skip)
    | (have hne := (show 16 * U.1.id + D.1.id = 0 by rw [show U.1.id = 0 by assumption, show D.1.id = 0 by assumption]; rfl)
       have e := e3_011 (by assumption) (by assumption) hne (by assumption) (by assumption)
       have hid : decide (16 * U.1.id + D.1.id ≠ 0) = (D.1.id != 0) := dec_ne (by assumption)
       rw [e]
       refine ⟨⟨some _, leF_tup ⟨leC_os rfl ?_, leC_int rfl, trivial⟩, leN_is ?_ (isRow_sel ?_ (isRow_sel ?_ (isRow_sel ?_ (isRow_sel rfl (isRow_2 (congrArg (CV.int .u8) (first_eq _ hFl hHp)) (congrArg (CV.int .u8) (sec_eq2 wU wX false (D.1.id != 0) hid))) (fun k hk => rowF_at (by omega))) (fun k hk => one_cell hk)) (fun k hk => rowF_at (by omega))) (fun k hk => rowF_at (by omega)))⟩⟩
       all_goals first
         | (simp only [List.length_append, List.length_cons, List.length_nil]; done)
         | rfl
         | skip)
    | (have hne := (ids_l wU wX (by assumption))
       have e := e3_100 (by assumption) (by assumption) hne (by assumption) (by assumption)
       have hid : decide (16 * U.1.id + D.1.id ≠ 0) = true := decide_eq_true hne
       rw [e]
       refine ⟨⟨some _, leF_tup ⟨leC_os rfl ?_, leC_int rfl, trivial⟩, leN_is ?_ (isRow_sel ?_ (isRow_sel ?_ (isRow_sel ?_ (isRow_sel ?_ (isRow_sel rfl (isRow_2 (congrArg (CV.int .u8) (first_eq _ hFl hHp)) (congrArg (CV.int .u8) (sec_eq2 wU wX false true hid))) (fun k hk => ids_cell hk eI8)) (fun k hk => rowF_at (by omega))) (fun k hk => one_cell hk)) (fun k hk => rowF_at (by omega))) (fun k hk => rowF_at (by omega)))⟩⟩
       all_goals first
         | (simp only [List.length_append, List.length_cons, List.length_nil]; done)
         | rfl
         | skip)
    | (have hne := (ids_r wU wX (by assumption) (by assumption))
       have e := e3_100 (by assumption) (by assumption) hne (by assumption) (by assumption)
       have hid : decide (16 * U.1.id + D.1.id ≠ 0) = (D.1.id != 0) := dec_ne (by assumption)
       rw [e]
       refine ⟨⟨some _, leF_tup ⟨leC_os rfl ?_, leC_int rfl, trivial⟩, leN_is ?_ (isRow_sel ?_ (isRow_sel ?_ (isRow_sel ?_ (isRow_sel ?_ (isRow_sel rfl (isRow_2 (congrArg (CV.int .u8) (first_eq _ hFl hHp)) (congrArg (CV.int .u8) (sec_eq2 wU wX false (D.1.id != 0) hid))) (fun k hk => ids_cell hk eI8)) (fun k hk => rowF_at (by omega))) (fun k hk => one_cell hk)) (fun k hk => rowF_at (by omega))) (fun k hk => rowF_at (by omega)))⟩⟩
       all_goals first
         | (simp only [List.length_append, List.length_cons, List.length_nil]; done)
         | rfl
         | skip)
    | (have hne := (ids_l wU wX (by assumption))
       have e := e3_101 (by assumption) (by assumption) hne (by assumption) (by assumption)
       have hid : decide (16 * U.1.id + D.1.id ≠ 0) = true := decide_eq_true hne
       rw [e]
       refine ⟨⟨some _, leF_tup ⟨leC_os rfl ?_, leC_int rfl, trivial⟩, leN_is ?_ (isRow_sel ?_ (isRow_sel ?_ (isRow_sel ?_ (isRow_sel ?_ (isRow_sel ?_ (isRow_sel rfl (isRow_2 (congrArg (CV.int .u8) (first_eq _ hFl hHp)) (congrArg (CV.int .u8) (sec_eq2 wU wX false true hid))) (fun k hk => ids_cell hk eI8)) (fun k hk => rowF_at (by omega))) (fun k hk => one_cell hk)) (fun k hk => one_cell hk)) (fun k hk => rowF_at (by omega))) (fun k hk => rowF_at (by omega)))⟩⟩
       all_goals first
         | (simp only [List.length_append, List.length_cons, List.length_nil]; done)
         | rfl
         | skip)
    | (have hne := (ids_r wU wX (by assumption) (by assumption))
       have e := e3_101 (by assumption) (by assumption) hne (by assumption) (by assumption)
       have hid : decide (16 * U.1.id + D.1.id ≠ 0) = (D.1.id != 0) := dec_ne (by assumption)
       rw [e]
       refine ⟨⟨some _, leF_tup ⟨leC_os rfl ?_, leC_int rfl, trivial⟩, leN_is ?_ (isRow_sel ?_ (isRow_sel ?_ (isRow_sel ?_ (isRow_sel ?_ (isRow_sel ?_ (isRow_sel rfl (isRow_2 (congrArg (CV.int .u8) (first_eq _ hFl hHp)) (congrArg (CV.int .u8) (sec_eq2 wU wX false (D.1.id != 0) hid))) (fun k hk => ids_cell hk eI8)) (fun k hk => rowF_at (by omega))) (fun k hk => one_cell hk)) (fun k hk => one_cell hk)) (fun k hk => rowF_at (by omega))) (fun k hk => rowF_at (by omega)))⟩⟩
       all_goals first
         | (simp only [List.length_append, List.length_cons, List.length_nil]; done)
         | rfl
         | skip)
    | (have hne := (ids_l wU wX (by assumption))
       have e := e3_110 (by assumption) (by assumption) hne (by assumption) (by assumption)
       have hid : decide (16 * U.1.id + D.1.id ≠ 0) = true := decide_eq_true hne
       rw [e]
       refine ⟨⟨some _, leF_tup ⟨leC_os rfl ?_, leC_int rfl, trivial⟩, leN_is ?_ (isRow_sel ?_ (isRow_sel ?_ (isRow_sel ?_ (isRow_sel rfl (isRow_2 (congrArg (CV.int .u8) (first_eq _ hFl hHp)) (congrArg (CV.int .u8) (sec_eq2 wU wX false true hid))) (fun k hk => ids_cell hk eI8)) (fun k hk => rowF_at (by omega))) (fun k hk => rowF_at (by omega))) (fun k hk => rowF_at (by omega)))⟩⟩
       all_goals first
         | (simp only [List.length_append, List.length_cons, List.length_nil]; done)
         | rfl
         | skip)
    | (have hne := (ids_r wU wX (by assumption) (by assumption))
       have e := e3_110 (by assumption) (by assumption) hne (by assumption) (by assumption)
       have hid : decide (16 * U.1.id + D.1.id ≠ 0) = (D.1.id != 0) := dec_ne (by assumption)
       rw [e]
       refine ⟨⟨some _, leF_tup ⟨leC_os rfl ?_, leC_int rfl, trivial⟩, leN_is ?_ (isRow_sel ?_ (isRow_sel ?_ (isRow_sel ?_ (isRow_sel rfl (isRow_2 (congrArg (CV.int .u8) (first_eq _ hFl hHp)) (congrArg (CV.int .u8) (sec_eq2 wU wX false (D.1.id != 0) hid))) (fun k hk => ids_cell hk eI8)) (fun k hk => rowF_at (by omega))) (fun k hk => rowF_at (by omega))) (fun k hk => rowF_at (by omega)))⟩⟩
       all_goals first
         | (simp only [List.length_append, List.length_cons, List.length_nil]; done)
         | rfl
         | skip)
    | (have hne := (ids_l wU wX (by assumption))
       have e := e3_111 (by assumption) (by assumption) hne (by assumption) (by assumption)
       have hid : decide (16 * U.1.id + D.1.id ≠ 0) = true := decide_eq_true hne
       rw [e]
       refine ⟨⟨some _, leF_tup ⟨leC_os rfl ?_, leC_int rfl, trivial⟩, leN_is ?_ (isRow_sel ?_ (isRow_sel ?_ (isRow_sel ?_ (isRow_sel ?_ (isRow_sel rfl (isRow_2 (congrArg (CV.int .u8) (first_eq _ hFl hHp)) (congrArg (CV.int .u8) (sec_eq2 wU wX false true hid))) (fun k hk => ids_cell hk eI8)) (fun k hk => rowF_at (by omega))) (fun k hk => one_cell hk)) (fun k hk => rowF_at (by omega))) (fun k hk => rowF_at (by omega)))⟩⟩
       all_goals first
         | (simp only [List.length_append, List.length_cons, List.length_nil]; done)
         | rfl
         | skip)
    | (have hne := (ids_r wU wX (by assumption) (by assumption))
       have e := e3_111 (by assumption) (by assumption) hne (by assumption) (by assumption)
       have hid : decide (16 * U.1.id + D.1.id ≠ 0) = (D.1.id != 0) := dec_ne (by assumption)
       rw [e]
       refine ⟨⟨some _, leF_tup ⟨leC_os rfl ?_, leC_int rfl, trivial⟩, leN_is ?_ (isRow_sel ?_ (isRow_sel ?_ (isRow_sel ?_ (isRow_sel ?_ (isRow_sel rfl (isRow_2 (congrArg (CV.int .u8) (first_eq _ hFl hHp)) (congrArg (CV.int .u8) (sec_eq2 wU wX false (D.1.id != 0) hid))) (fun k hk => ids_cell hk eI8)) (fun k hk => rowF_at (by omega))) (fun k hk => one_cell hk)) (fun k hk => rowF_at (by omega))) (fun k hk => rowF_at (by omega)))⟩⟩
       all_goals first
         | (simp only [List.length_append, List.length_cons, List.length_nil]; done)
         | rfl
         | skip)
    | skip
theorem riencode_ok (p : Pkt) (f t : Adr) (l : List Ctx) (now : Int) (hp : PkW p) (hpl : p.2.length ≤ 140737488355328) (hl : bytesL l) : NewOk Try.prog 58 [cPk.enc p, (cE eAdr).enc f, (cE eAdr).enc t, (cSl eCtx eCtx_sz).enc l, (cI .i64).enc now] (some (encI p f t l now).1.length) (some [i64V (encI p f t l now).2]) (ents eB 5 (encI p f t l now).1) := by
  cases hm : mcast p.1.dst with
  | true => exact renc_true p f t l now hp hpl hl hm
  | false => exact renc_false p f t l now hp hpl hl hm
theorem renIE_ok : EntOk Try.prog 58 enIE := newE_ok ⟨_, Try.func58, rfl, by kernel_rfl⟩ (fun s l h x hx => by injection h with h; subst h; obtain rfl := List.mem_singleton.1 hx; exact nfE_c nf_int) fun a h => riencode_ok a.1 a.2.1 a.2.2.1 a.2.2.2.1 a.2.2.2.2.1 h.1 h.2.1 h.2.2
end Go.Proofs.Ytjknkfjhcapocaa.AX
/- IphcShort, by AX2: the law returns true. -/
namespace Go.Proofs.Ytjknkfjhcapocaa.AX
open Go.RowKit
set_option linter.unusedVariables false
set_option linter.unusedSimpArgs false
theorem encI_congr {p p' : Pkt} {a a' b b' : Adr} {l l' : List Ctx} {n : Int} (h1 : p' = p) (h2 : a' = a) (h3 : b' = b) (h4 : l' = l) : encI p' a' b' l' n = encI p a b l n := by rw [h1, h2, h3, h4]
theorem vt_mod (x : Int) : vt (modF x 60) = true := by
  have := modF_lt (v := x) (n := 60) (by decide)
  simp [vt]
  omega
set_option maxHeartbeats 8000000 in
set_option maxRecDepth 20000 in
theorem ishort_ok (n : Nat) (l : List Int) (hl : rngL l) (now : Int) : PureOk Try.prog 11 [.e (.c (.sl true n 1 (rI l))), (cI .i64).enc now] (.e (.c (.bool true))) := by
  have hN := vt_mod now
  obtain ⟨N, eN⟩ : ∃ N, modF now 60 = N := ⟨_, rfl⟩
  rw [eN] at hN
  have g1 : True := trivial
  have g2 : True := trivial
  have g3 : True := trivial
  refine pure_intro (wd := 1) (Q := mkQ LWi) (by decide) tysOk (q_of LWi_ok) mixed Try.func11 rfl _ (by show 2 ≤ _; decide) _ ?_
  repeat' (first | (apply And.intro <;> intro hc <;> (first | exact Bool.noConfusion hc | (simp only [decide_eq_true_eq, decide_eq_false_iff_not, Bool.not_eq_true', Bool.not_eq_false', beq_iff_eq, beq_eq_false_iff_ne, bne_iff_ne, bne_eq_false_iff_eq, Bool.true_eq_false, Bool.false_eq_true] at hc) | skip)) | (refine And.intro (by first | exact trivial | decide | omega | (dsimp only; omega) | exact fun _ _ => rfl | exact ⟨by assumption, by first | exact trivial | decide | omega | (dsimp only; omega)⟩) ?_) | (apply And.intro) | (intro s hs))
  · exact ⟨l, rfl, hl⟩
  intro ht0
  repeat' (first | (apply And.intro <;> intro hc <;> (first | exact Bool.noConfusion hc | (simp only [decide_eq_true_eq, decide_eq_false_iff_not, Bool.not_eq_true', Bool.not_eq_false', beq_iff_eq, beq_eq_false_iff_ne, bne_iff_ne, bne_eq_false_iff_eq, Bool.true_eq_false, Bool.false_eq_true, ne_eq, not_true_eq_false] at hc <;> first | exact absurd rfl hc | skip) | skip)) | (refine And.intro (by first | exact trivial | decide | omega | (dsimp only; omega) | exact fun _ _ => rfl | exact ⟨by assumption, by first | exact trivial | decide | omega | (dsimp only; omega)⟩) ?_) | (apply And.intro) | (intro s hs; (first | (clear g1; have q : N = s := (hs.trans eN).symm; clear hs; subst q; rename_i a ha q1 t1 b hb q2 t2 L hL q3 t3 r hm; obtain ⟨c, d, ec, ed, x1, x2, x3⟩ := short_law hm.v ha.v hb.v hL.v hN) | (clear g2; have q : s = (c, 0) := (by (refine hs.trans ((encI_congr (pk_is (h := r.1) (l := r.2) (fun j hj => ?_) (toL_b r.2)) rfl rfl (toL_ctx L)).trans ec); (iterate 38 (rcases j with _ | j; exact rfl)); exact absurd hj (by omega))); clear hs; subst q) | (clear g3; have q : s = (d, 0) := (by (refine hs.trans ((encI_congr (pk_is (h := r.1) (l := r.2) (fun j hj => ?_) (toL_b r.2)) rfl rfl rfl).trans ed); (iterate 38 (rcases j with _ | j; exact rfl)); exact absurd hj (by omega))); clear hs; subst q) | (have q : s = true := hs; clear hs; subst q) | skip)))
  all_goals first
    | exact fun _ => rfl
    | exact fun h => absurd h (Nat.not_lt_zero _)
    | (refine Eq.mp (congrArg PkW (pk_is (h := r.1) (l := r.2) (fun j hj => ?_) (toL_b r.2)).symm) hm.w
       iterate 38 (rcases j with _ | j; exact rfl)
       exact absurd hj (by omega))
    | (show (toL eB r.2.length _).length ≤ _
       rw [toL_len]
       have := valid_len hm.v
       omega)
    | exact Eq.mp (congrArg bytesL (toL_ctx L).symm) ⟨hL.b, Nat.le_trans hL.n (by decide)⟩
    | exact bytes_nil
    | exact Done.mk (leF_bool rfl)
    | exact Done.mk (leF_bool (decide_eq_true (show (d.length : Int) ≤ 40 by omega)))
    | (exact absurd (by assumption) (by omega))
    | skip
end Go.Proofs.Ytjknkfjhcapocaa.AX
/- The laws about compressed headers: encoded. -/
namespace Go.Proofs.Ytjknkfjhcapocaa.AX
open Go.RowKit
set_option linter.unusedVariables false
set_option linter.unusedSimpArgs false
theorem encI_len (p : Pkt) (f t : Adr) (l : List Ctx) (now : Int) : (encI p f t l now).1.length ≤ 41 := by
  have h1 := uni_len p.1.src f true l now
  have h2 := dst_len p t l now
  have h3 := inl_len p
  unfold encI
  split
  · exact Nat.zero_le _
  · split
    · exact Nat.zero_le _
    · dsimp only
      rw [join_len]
      split <;> omega
def LJe : CsL := (58, some enIE) :: (27, some sameE) :: LIe
theorem LJe_ok : AllOk Try.prog LJe := ⟨renIE_ok, sameE_ok, LIe_ok⟩
set_option maxHeartbeats 8000000 in
set_option maxRecDepth 20000 in
theorem encoded_ok (p : Pkt) (f t : Adr) (l : List Ctx) (now : Int) (hp : PkW p) (hpl : p.2.length ≤ 140737488355328) (hl : bytesL l) : PureOk Try.prog 39 [cPk.enc p, (cE eAdr).enc f, (cE eAdr).enc t, (cSl eCtx eCtx_sz).enc l, (cI .i64).enc now] (cB.enc true) := by
  have hL := encI_len p f t l now
  obtain ⟨E, eE⟩ : ∃ E, encI p f t l now = E := ⟨_, rfl⟩
  rw [eE] at hL
  have g1 : True := trivial
  have g2 : True := trivial
  refine pure_intro (wd := 1) (Q := mkQ LJe) (by decide) tysOk (q_of LJe_ok) mixed Try.func39 rfl _ (by show 5 ≤ _; decide) _ ?_
  repeat' (first | (apply And.intro <;> intro hc <;> (first | exact Bool.noConfusion hc | (simp only [decide_eq_true_eq, decide_eq_false_iff_not, Bool.not_eq_true', Bool.not_eq_false', beq_iff_eq, beq_eq_false_iff_ne, bne_iff_ne, bne_eq_false_iff_eq, Bool.true_eq_false, Bool.false_eq_true, ne_eq, not_true_eq_false] at hc <;> first | exact absurd rfl hc | skip) | skip)) | (refine And.intro (by first | exact trivial | decide | omega | (dsimp only; omega) | exact fun _ _ => rfl | exact ⟨by assumption, by first | exact trivial | decide | omega | (dsimp only; omega)⟩) ?_) | (apply And.intro) | (intro s hs; (first | (clear g1; have q : E = s := (hs.trans ((encI_congr (pk_eq p _) (rd_adr f) (rd_adr t) (toL_ctx l)).trans eE)).symm; clear hs; subst q) | (clear g2; have q : E = s := (hs.trans ((encI_congr (pk_eq p _) (rd_adr f) (rd_adr t) (toL_ctx l)).trans eE)).symm; clear hs; subst q) | (have q : s = true := hs.trans (decide_eq_true rfl); clear hs; subst q) | skip)))
  all_goals first
    | exact Eq.mp (congrArg PkW (pk_eq p _).symm) hp
    | (show (toL eB p.2.length _).length ≤ _; rw [toL_len]; exact hpl)
    | exact Eq.mp (congrArg bytesL (toL_ctx l).symm) hl
    | (show (toL eB E.1.length _).length ≤ _; rw [toL_len]; exact Nat.le_trans hL (by decide))
    | exact Done.mk (leF_bool rfl)
    | exact fun _ => rfl
    | exact rfl
    | skip
end Go.Proofs.Ytjknkfjhcapocaa.AX
/- IphcEncodes, by AX2: the law returns true. -/
namespace Go.Proofs.Ytjknkfjhcapocaa.AX
open Go.RowKit
set_option linter.unusedVariables false
set_option linter.unusedSimpArgs false
theorem now_ok (n : Nat) (l : List Int) (q : Int) (ht : TapeOk n (rI l) q) :
    ∃ (r q' : Int), True ∧ TapeOk n (rI l) q' ∧ MethOk Try.prog 40 [] (tapeN n (rI l) q) ((cI .i64).enc r) (tapeN n (rI l) q') := by
  refine tape_intro (wd := 1) (Q := mkQ LT2) (by decide) tysOk (q_of LT2_ok) mixed Try.func40 rfl _ (by show 0 + 1 ≤ _; decide) (fun _ => nff_int) ?_
  repeat' (first | (apply And.intro <;> intro hc <;> (first | exact Bool.noConfusion hc | (simp only [decide_eq_true_eq, decide_eq_false_iff_not, Bool.not_eq_true', Bool.not_eq_false', beq_iff_eq, beq_eq_false_iff_ne, bne_iff_ne, bne_eq_false_iff_eq, Bool.true_eq_false, Bool.false_eq_true] at hc) | skip)) | (refine And.intro (by first | exact trivial | decide | omega | (dsimp only; omega) | exact fun _ _ => rfl | exact ⟨by assumption, by first | exact trivial | decide | omega | (dsimp only; omega)⟩) ?_) | (apply And.intro) | (intro s hs))
  all_goals exact ⟨(_, _), ⟨trivial, by assumption⟩, ⟨leF_int rfl, tapeN_le⟩⟩
abbrev nowE : Entry := tapeE AC.nil (fun _ => True) (fun a (r : Int) => True) (cI .i64).enc
abbrev ecdE : Entry := pureE (AC.cons cPk (AC.cons (cE eAdr) (AC.cons (cE eAdr) (AC.cons (cSl eCtx eCtx_sz) (AC.cons (cI .i64) AC.nil))))) (fun a => PkW a.1 ∧ a.1.2.length ≤ 140737488355328 ∧ bytesL a.2.2.2.1) (fun _ => true) cB.enc
def LJw : CsL := (40, some nowE) :: (39, some ecdE) :: LWi
theorem LJw_ok : AllOk Try.prog LJw := ⟨tapeE_ok ⟨_, Try.func40, rfl, by kernel_rfl⟩ fun n l q a ht hp => now_ok n l q ht, pureE_ok ⟨_, Try.func39, rfl, by kernel_rfl⟩ fun a h => encoded_ok a.1 a.2.1 a.2.2.1 a.2.2.2.1 a.2.2.2.2.1 h.1 h.2.1 h.2.2, LWi_ok⟩
set_option maxHeartbeats 8000000 in
set_option maxRecDepth 20000 in
theorem iencodes_ok (raw : Pkt) (hw : PkW raw) (hwl : raw.2.length ≤ 140737488355328) (f t : Adr) (tab : List Ctx) (htab : bytesL tab) (now : Int) (n : Nat) (l : List Int) (hl : rngL l) : PureOk Try.prog 10 [.e (.agg 39 (tailC eHd raw.1 (slR eB raw.2))), (cE eAdr).enc f, (cE eAdr).enc t, .e (.c (slR eCtx tab)), (cI .i64).enc now, .e (.c (.sl true n 1 (rI l)))] (.e (.c (.bool true))) := by
  refine pure_intro (wd := 1) (Q := mkQ LJw) (by decide) tysOk (q_of LJw_ok) mixed Try.func10 rfl _ (by show 6 ≤ _; decide) _ ?_
  repeat' (first | (apply And.intro <;> intro hc <;> (first | exact Bool.noConfusion hc | (simp only [decide_eq_true_eq, decide_eq_false_iff_not, Bool.not_eq_true', Bool.not_eq_false', beq_iff_eq, beq_eq_false_iff_ne, bne_iff_ne, bne_eq_false_iff_eq, Bool.true_eq_false, Bool.false_eq_true] at hc) | skip)) | (refine And.intro (by first | exact trivial | decide | omega | (dsimp only; omega) | exact fun _ _ => rfl | exact ⟨by assumption, by first | exact trivial | decide | omega | (dsimp only; omega)⟩) ?_) | (apply And.intro) | (intro s hs))
  · exact ⟨l, rfl, hl⟩
  intro ht0
  repeat' (first | (apply And.intro <;> intro hc <;> (first | exact Bool.noConfusion hc | (simp only [decide_eq_true_eq, decide_eq_false_iff_not, Bool.not_eq_true', Bool.not_eq_false', beq_iff_eq, beq_eq_false_iff_ne, bne_iff_ne, bne_eq_false_iff_eq, Bool.true_eq_false, Bool.false_eq_true, ne_eq, not_true_eq_false] at hc <;> first | exact absurd rfl hc | skip) | skip)) | (refine And.intro (by first | exact trivial | decide | omega | (dsimp only; omega) | exact fun _ _ => rfl | exact ⟨by assumption, by first | exact trivial | decide | omega | (dsimp only; omega)⟩) ?_) | (apply And.intro) | (intro s hs; (first | (have q : s = true := hs; clear hs; subst q) | skip)))
  all_goals first
    | exact Eq.mp (congrArg PkW (pk_eq raw _).symm) hw
    | (show (toL eB raw.2.length _).length ≤ _; rw [toL_len]; exact hwl)
    | exact Eq.mp (congrArg bytesL (toL_ctx tab).symm) htab
    | exact bytes_nil
    | exact Done.mk (leF_bool rfl)
    | exact fun _ => rfl
    | exact fun h => absurd h (Nat.not_lt_zero _)
    | (rename madeL _ => hL
       rename List Ctx => L
       exact Eq.mp (congrArg bytesL (toL_ctx L).symm) ⟨hL.b, Nat.le_trans hL.n (by decide)⟩)
    | (rename PkM _ => hm
       rename Pkt => r
       refine Eq.mp (congrArg PkW (pk_is (h := r.1) (l := r.2) (fun j hj => ?_) (toL_b r.2)).symm) hm.w
       iterate 38 (rcases j with _ | j; exact rfl)
       exact absurd hj (by omega))
    | (rename PkM _ => hm
       rename Pkt => r
       show (toL eB r.2.length _).length ≤ _
       rw [toL_len]
       have := valid_len hm.v
       omega)
    | skip
end Go.Proofs.Ytjknkfjhcapocaa.AX
/- Kinds of cells of packets, contexts, addresses as arguments of laws. -/
namespace Go.Proofs.Ytjknkfjhcapocaa
open Go.RowKit AX
set_option linter.unusedVariables false
abbrev ksPk : List (Option IntKind) := [some .u8, some .u32, some .u8, some .u8, some .u8, some .u8, some .u8, some .u8, some .u8, some .u8, some .u8, some .u8, some .u8, some .u8, some .u8, some .u8, some .u8, some .u8, some .u8, some .u8, some .u8, some .u8, some .u8, some .u8, some .u8, some .u8, some .u8, some .u8, some .u8, some .u8, some .u8, some .u8, some .u8, some .u8, some .u8, some .u8, some .u16, some .u16]
theorem ksPk_8 {i : Nat} (h : i < 32) : ksPk[4 + i]? = some (some .u8) := by
  iterate 32 (rcases i with _ | i; rfl)
  omega
theorem ok_pk (g : Nat → CV) (h : MtC ksPk g) : eHd.ok g = true := by
  have a1 : okA .u8 g 4 16 = true := okA_of fun i hi => h.k (j := 4 + i) (ksPk_8 (by omega))
  have a2 : okA .u8 g 20 16 = true := okA_of fun i hi => h.k (j := 20 + i) (by have := ksPk_8 (i := 16 + i) (by omega); rw [show 4 + (16 + i) = 20 + i by omega] at this; exact this)
  show (isK .u8 (g 0) && isK .u32 (g 1) && isK .u8 (g 2) && isK .u8 (g 3) && okA .u8 g 4 16 && okA .u8 g 20 16 && isK .u16 (g 36) && isK .u16 (g 37)) = true
  rw [h.k (j := 0) rfl, h.k (j := 1) rfl, h.k (j := 2) rfl, h.k (j := 3) rfl, h.k (j := 36) rfl, h.k (j := 37) rfl, a1, a2]; rfl
theorem wf_u16p {n : Int} (h : (Lit.int .u16 n).wf = true) : 0 ≤ n ∧ n < 65536 := by
  simp [Lit.wf, IntKind.min, IntKind.max, IntKind.bits, IntKind.signed] at h
  omega
/-- The numbers of a packet that came in are in their ranges. -/
theorem pk_wf {g : Nat → CV} (h : MtC ksPk g) {l : List Int} (hl : BL l) : PkW (eHd.rd g, l) := by
  have v8 : ∀ o i, i < 16 → (o = 4 ∨ o = 20) → 0 ≤ valI (g (o + i)) ∧ valI (g (o + i)) < 256 := fun o i hi ho => by
    rcases ho with rfl | rfl
    · exact wf_u8 (h.wf (j := 4 + i) (ksPk_8 (by omega)))
    · exact wf_u8 (h.wf (j := 20 + i) (by have := ksPk_8 (i := 16 + i) (by omega); rw [show 4 + (16 + i) = 20 + i by omega] at this; exact this))
  refine ⟨wf_u8 (h.wf (j := 0) rfl), wf_u32p (h.wf (j := 1) rfl), wf_u8 (h.wf (j := 2) rfl), wf_u8 (h.wf (j := 3) rfl), fun i => ?_, fun i => ?_, wf_u16p (h.wf (j := 36) rfl), wf_u16p (h.wf (j := 37) rfl), hl⟩
  · unfold vget
    split
    · exact v8 4 i (by assumption) (.inl rfl)
    · omega
  · unfold vget
    split
    · exact v8 20 i (by assumption) (.inr rfl)
    · omega
abbrev ksCtx : List (Option IntKind) := [some .i64, some .u8, some .u8, some .u8, some .u8, some .u8, some .u8, some .u8, some .u8, some .u8, some .u8, some .u8, some .u8, some .u8, some .u8, some .u8, some .u8, some .i64, none, some .i64]
abbrev ksIP : List (Option IntKind) := [some .u8, some .u8, some .u8, some .u8, some .u8, some .u8, some .u8, some .u8, some .u8, some .u8, some .u8, some .u8, some .u8, some .u8, some .u8, some .u8]
theorem ctx_at : ∀ i, i < 16 → ksCtx[1 + i]? = some (some .u8) := by decide
theorem ksIP_at : ∀ i, i < 16 → ksIP[0 + i]? = some (some .u8) := by decide
theorem ok_ctx (g : Nat → CV) (h : MtC ksCtx g) : eCtx.ok g = true := by
  show (isK .i64 (g 0) && okA .u8 g 1 16 && isK .i64 (g 17) && isB (g 18) && isK .i64 (g 19)) = true
  rw [h.k (j := 0) rfl, okA_of fun i hi => h.k (ctx_at i hi), h.k (j := 17) rfl, h.b (j := 18) rfl, h.k (j := 19) rfl]; rfl
theorem ok_ip (g : Nat → CV) (h : MtC ksIP g) : (eA .u8 16).ok g = true := okA_of fun i hi => h.k (ksIP_at i hi)
theorem by_ctx {c : Ctx} (h : ∃ g, MtC ksCtx g ∧ c = eCtx.rd g) : byteOk c.ip := by
  obtain ⟨g, hg, rfl⟩ := h
  exact ⟨fun q => wf_u8 (hg.wf (ctx_at q.1 q.2))⟩
theorem by_ip {c : Fin 16 → Int} (h : ∃ g, MtC ksIP g ∧ c = (eA .u8 16).rd g) : byteOk c := by
  obtain ⟨g, hg, rfl⟩ := h
  exact ⟨fun q => wf_u8 (by have := hg.wf (ksIP_at q.1 q.2); rw [Nat.zero_add] at this; exact this)⟩
abbrev ksAdr : List (Option IntKind) := [some .i64, some .u16, some .u64]
theorem ok_adr (g : Nat → CV) (h : MtC ksAdr g) : eAdr.ok g = true := by
  show (isK .i64 (g 0) && isK .u16 (g 1) && isK .u64 (g 2)) = true
  rw [h.k (j := 0) rfl, h.k (j := 1) rfl, h.k (j := 2) rfl]; rfl
end Go.Proofs.Ytjknkfjhcapocaa
/- IphcEncodes: the walk. -/
namespace Go.Proofs.Ytjknkfjhcapocaa
open Go.RowKit AX
set_option linter.unusedVariables false
theorem walkIphcEncodes (x0 : Array Value) (x1 : Array Value) (x2 : Array Value) (a3 : Option Addr) (len3 cap3 : Nat) (a4 : Int) (a5 : Option Addr) (len5 cap5 : Nat) (z5 : List Int) (w : World) (w0 : TailArg w ksPk .u8 1 x0) (w1 : Mt ksAdr x1.toList) (w2 : Mt ksAdr x2.toList) (w3 : IsRows w ksCtx a3 len3 cap3) (rr3 : len3 * 48 ≤ 140737488351232) (w4 : (Lit.int .i64 a4).wf = true) (w5 : IsRow .i64 w a5 len5 cap5 z5) (rr5 : cap5 * 8 ≤ 140737488351232) :
    Calls Try.prog 10 #[.agg x0, .agg x1, .agg x2, .slice a3 len3 cap3, .int .i64 a4, .slice a5 len5 cap5] w fun e w' => e = .returned (.bool true) ∧ Below w.heap.size w w' := by
  obtain ⟨h, l, ⟨g, hg, hh⟩, hl, hlen, hrel⟩ := tail_rel w0 (E := eHd) rfl ok_pk
  have hb := reachBytes_lt
  obtain ⟨f, hf, h1⟩ := flat_rel w1 (E := eAdr) (w := w) rfl ok_adr
  obtain ⟨t, ht, h2⟩ := flat_rel w2 (E := eAdr) (w := w) rfl ok_adr
  obtain ⟨raw, hn, hraw, h3⟩ := rows_rel w3 (E := eCtx) (by decide) rfl ok_ctx
  exact walk_of (iencodes_ok (h, l) (by rw [hh]; exact pk_wf hg hl) (by show l.length ≤ _; omega) f t raw ⟨fun d hd => by_ctx (hraw d hd), by omega⟩ a4 len5 z5 (rng_of w5)) (relL_cons hrel (relL_cons h1 (relL_cons h2 (relL_cons h3 (relL_cons rfl (relL1 (row_rel w5)))))))
end Go.Proofs.Ytjknkfjhcapocaa
