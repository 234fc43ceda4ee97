/- Package contexts: ForDecompression (by AX2). -/
import Derived.Test.YtjknkfjhcapocaaCt
namespace Go.Proofs.Ytjknkfjhcapocaa.AX
set_option linter.unusedVariables false
set_option linter.unusedSimpArgs false
def LE3 : CsL := (112, some (pureE (AC.cons (cSl eCtx eCtx_sz) AC.nil) (fun a => a.1.length ≤ 9223372036854775807) (fun a => validT a.1) cB.enc)) :: LE2
theorem LE3_ok : AllOk Try.prog LE3 := ⟨pureE_ok ⟨_, Try.func112, rfl, by kernel_rfl⟩ fun a h => valid_ok a.1 h, LE2_ok⟩
def findDec (id now : Int) : List Ctx → Ctx × Bool
  | [] => (default, false)
  | c :: l => if c.id = id ∧ decom c now = true then (c, true) else findDec id now l
def forDec (l : List Ctx) (id now : Int) : Ctx × Bool := if validT l = true ∧ vt now = true then findDec id now l else (default, false)
def encCB (r : Ctx × Bool) : FV := .tup [.agg eCtx.sz (eCtx.cell r.1), .c (.bool r.2)]
theorem toL_ctx (l : List Ctx) : toL eCtx l.length (rowF eCtx l) = l := toL_row eCtx_rd l
theorem forDec_ok (l : List Ctx) (id now : Int) (hl : l.length ≤ 9223372036854775807) : PureOk Try.prog 102 [(cSl eCtx eCtx_sz).enc l, (cI .i64).enc id, (cI .i64).enc now] (encCB (forDec l id now)) := by
  refine pure_intro (wd := 1) (Q := mkQ LE3) (by decide) tysOk (q_of LE3_ok) mixed Try.func102 rfl _ (by show 3 ≤ _; decide) _ ?_
  repeat' (first | (apply And.intro <;> intro hc <;> (first | exact Bool.noConfusion hc | (simp only [decide_eq_true_eq, decide_eq_false_iff_not, Bool.not_eq_true', Bool.not_eq_false', beq_iff_eq, beq_eq_false_iff_ne, bne_iff_ne, bne_eq_false_iff_eq, Bool.true_eq_false, Bool.false_eq_true] at hc) | skip)) | (refine And.intro (by first | exact trivial | decide | omega | (dsimp only; omega) | exact fun _ _ => rfl) ?_) | (apply And.intro) | (intro s hs))
  · show (toL eCtx l.length (rowF eCtx l)).length ≤ _
    rw [toL_ctx]; exact hl
  · have hs' : s = validT l := by rw [hs, toL_ctx]
    have hf : s = false := by assumption
    have e : forDec l id now = (default, false) := by simp [forDec, ← hs', hf]
    rw [e]
    refine Done.mk (leF_tup ?_)
    repeat' (first | exact trivial | exact rfl | exact leC_int rfl | exact leC_bool rfl | refine leE_all ?_ | exact leC_bool (by assumption) | apply And.intro)
  · have hs' : s = vt now := hs
    have e : forDec l id now = (default, false) := by simp [forDec, ← hs', hc]
    rw [e]
    refine Done.mk (leF_tup ?_)
    repeat' (first | exact trivial | exact rfl | exact leC_int rfl | exact leC_bool rfl | refine leE_all ?_ | exact leC_bool (by assumption) | apply And.intro)
  · rename_i s1 hs1 hc1
    have hs1' : s1 = validT l := by rw [hs1, toL_ctx]
    have hs' : s = vt now := hs
    have e : forDec l id now = findDec id now l := by simp [forDec, ← hs', ← hs1', hc, hc1]
    rw [e]
    clear hs hs1 hs' hs1' hc hc1 e
    refine loop_intro (mono_of LE3_ok) (fun i : {i : Nat // i ≤ l.length ∧ findDec id now l = findDec id now (l.drop i)} => (⟨[(1, one (.int .i64 id)), (2, one (.int .i64 now)), (6, one (.ptr 0 0 0 false)), (19, one (.sl false l.length eCtx.sz (rowF eCtx l))), (20, one (.int .i64 (l.length : Int))), (21, one (.int .i64 (i.1 : Int)))],
      [(0, some ⟨82, 1, 20, true, fun _ _ => .top⟩)], 13⟩ : Hd)) (fun i => l.length - i.1) (fun _ => rfl) ?_ ⟨0, by omega, rfl⟩ [] ?_
    · rintro ⟨i, hi, hv⟩
      dsimp only at hi hv ⊢
      repeat' (first | (apply And.intro <;> intro hc <;> (first | exact Bool.noConfusion hc | (simp only [decide_eq_true_eq, decide_eq_false_iff_not, Bool.not_eq_true', Bool.not_eq_false', beq_iff_eq, beq_eq_false_iff_ne, bne_iff_ne, bne_eq_false_iff_eq, Bool.true_eq_false, Bool.false_eq_true] at hc) | skip)) | (refine And.intro (by first | exact trivial | decide | omega | (dsimp only; omega) | exact fun _ _ => rfl) ?_) | (apply And.intro) | (intro s hs))
      · have hs' : s = decom (l.getD i default) now := by
          rw [hs]
          simp only [Int.toNat_natCast, Nat.zero_add]
          show decom (eCtx.rd (eCtx.cell (l.getD i default))) now = _
          rw [eCtx_rd]
        have hid : (l.getD i default).id = id := by assumption
        have e : findDec id now l = (l.getD i default, true) := by
          rw [hv, drop_at (by omega), findDec, if_pos ⟨hid, by rw [← hs']; exact hc⟩]
        rw [e]
        refine Done.mk (leF_tup ?_)
        repeat' (first | exact trivial | exact rfl | exact leC_int rfl | exact leC_bool rfl | refine leE_all ?_ | exact leC_bool (by assumption) | apply And.intro)
      · have hs' : s = decom (l.getD i default) now := by
          rw [hs]
          simp only [Int.toNat_natCast, Nat.zero_add]
          show decom (eCtx.rd (eCtx.cell (l.getD i default))) now = _
          rw [eCtx_rd]
        refine ⟨⟨i + 1, by omega, ?_⟩, [], by dsimp only; omega, rfl, ?_, ?_⟩
        · rw [hv, drop_at (by omega), findDec, if_neg]
          rw [← hs', hc]; simp
        · repeat' (first | exact trivial | exact rfl | exact leF_ptr rfl | exact leF_int rfl | exact leF_bool rfl | exact leF_cl (cl_slB _ _) | exact leF_cl (cl_slR _ _) | exact leF_cl (cl_ll _ _) | exact leF_c (leC_os rfl rfl) | refine leF_int ?_ | refine leF_bool ?_ | exact leN_varA (fun _ _ => (Elem.flat _ _ _).le) | exact leN_varA (fun _ _ => leC_top) | apply And.intro)
          refine (IntWalk.i64_in _ ?_).trans ?_
          · constructor <;> omega
          · dsimp only
            omega
        · repeat' (first | exact trivial | exact rfl | exact leF_ptr rfl | exact leF_int rfl | exact leF_bool rfl | exact leF_cl (cl_slB _ _) | exact leF_cl (cl_slR _ _) | exact leF_cl (cl_ll _ _) | exact leF_c (leC_os rfl rfl) | refine leF_int ?_ | refine leF_bool ?_ | exact leN_varA (fun _ _ => (Elem.flat _ _ _).le) | exact leN_varA (fun _ _ => leC_top) | apply And.intro)
      · have hid : (l.getD i default).id ≠ id := by assumption
        refine ⟨⟨i + 1, by omega, ?_⟩, [], by dsimp only; omega, rfl, ?_, ?_⟩
        · rw [hv, drop_at (by omega), findDec, if_neg]
          exact fun h => hid h.1
        · repeat' (first | exact trivial | exact rfl | exact leF_ptr rfl | exact leF_int rfl | exact leF_bool rfl | exact leF_cl (cl_slB _ _) | exact leF_cl (cl_slR _ _) | exact leF_cl (cl_ll _ _) | exact leF_c (leC_os rfl rfl) | refine leF_int ?_ | refine leF_bool ?_ | exact leN_varA (fun _ _ => (Elem.flat _ _ _).le) | exact leN_varA (fun _ _ => leC_top) | apply And.intro)
          refine (IntWalk.i64_in _ ?_).trans ?_
          · constructor <;> omega
          · dsimp only
            omega
        · repeat' (first | exact trivial | exact rfl | exact leF_ptr rfl | exact leF_int rfl | exact leF_bool rfl | exact leF_cl (cl_slB _ _) | exact leF_cl (cl_slR _ _) | exact leF_cl (cl_ll _ _) | exact leF_c (leC_os rfl rfl) | refine leF_int ?_ | refine leF_bool ?_ | exact leN_varA (fun _ _ => (Elem.flat _ _ _).le) | exact leN_varA (fun _ _ => leC_top) | apply And.intro)
      · have hil : i = l.length := by omega
        have e : findDec id now l = (default, false) := by rw [hv, hil, List.drop_length]; rfl
        rw [e]
        refine Done.mk (leF_tup ?_)
        repeat' (first | exact trivial | exact rfl | exact leC_int rfl | exact leC_bool rfl | refine leE_all ?_ | exact leC_bool (by assumption) | apply And.intro)
    · refine ⟨rfl, ?_, ?_⟩
      · repeat' (first | exact trivial | exact rfl | exact leF_ptr rfl | exact leF_int rfl | exact leF_bool rfl | exact leF_cl (cl_slB _ _) | exact leF_cl (cl_slR _ _) | exact leF_cl (cl_ll _ _) | exact leF_c (leC_os rfl rfl) | refine leF_int ?_ | refine leF_bool ?_ | exact leN_varA (fun _ _ => (Elem.flat _ _ _).le) | exact leN_varA (fun _ _ => leC_top) | apply And.intro)
      · repeat' (first | exact trivial | exact rfl | exact leF_ptr rfl | exact leF_int rfl | exact leF_bool rfl | exact leF_cl (cl_slB _ _) | exact leF_cl (cl_slR _ _) | exact leF_cl (cl_ll _ _) | exact leF_c (leC_os rfl rfl) | refine leF_int ?_ | refine leF_bool ?_ | exact leN_varA (fun _ _ => (Elem.flat _ _ _).le) | exact leN_varA (fun _ _ => leC_top) | apply And.intro)
end Go.Proofs.Ytjknkfjhcapocaa.AX
