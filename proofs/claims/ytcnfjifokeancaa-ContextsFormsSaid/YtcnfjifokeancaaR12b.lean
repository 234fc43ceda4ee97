/- The reference of layer 12: ForDecompression, Same (by AX2). -/
import Derived.Test.YtcnfjifokeancaaR12
namespace Go.Proofs.Ytcnfjifokeancaa.AX
open Go.RowKit
set_option linter.unusedVariables false
set_option linter.unusedSimpArgs false
def fdI (l : List Ctx) (id now : Int) (i : Nat) : Ctx × Bool := if validT l = true ∧ vt now = true then findDec id now (l.drop i) else (default, false)
set_option maxHeartbeats 4000000 in
set_option maxRecDepth 20000 in
theorem rforDec_ok (l : List Ctx) (id now : Int) (hl : bytesL l) : PureOk Try.prog 64 [(cSl eCtx eCtx_sz).enc l, (cI .i64).enc id, (cI .i64).enc now] (encCB (forDec l id now)) := by
  have hn := hl.n
  refine pure_intro (wd := 1) (Q := mkQ LQ1) (by decide) tysOk (q_of LQ1_ok) mixed Try.func64 rfl _ (by show 3 ≤ _; decide) _ ?_
  refine loop_intro (mono_of LQ1_ok) (fun i : {i : Nat // i ≤ l.length ∧ forDec l id now = fdI l id now i} => (⟨[(0, one (.sl false l.length eCtx.sz (rowF eCtx l))), (1, one (.int .i64 id)), (2, one (.int .i64 now)), (6, one (.ptr 0 0 0 false)), (8, one (.int .i64 (i.1 : Int)))],
    [(0, some ⟨41, 1, 20, true, fun _ _ => .top⟩)], 5⟩ : Hd)) (fun i => l.length - i.1) (fun _ => rfl) ?_ ⟨0, by omega, rfl⟩ [] ?_
  · rintro ⟨i, hi, hv⟩
    dsimp only at hi hv ⊢
    have hV : ∀ s : Bool, s = validT (toL eCtx l.length (rowF eCtx l)) → s = validT l := fun s h => h.trans (congrArg validT (toL_ctx l))
    repeat' (first | (apply And.intro <;> intro hc <;> (first | exact Bool.noConfusion hc | (simp only [decide_eq_true_eq, decide_eq_false_iff_not, Bool.not_eq_true', Bool.not_eq_false', beq_iff_eq, beq_eq_false_iff_ne, bne_iff_ne, bne_eq_false_iff_eq, Bool.true_eq_false, Bool.false_eq_true] at hc) | skip)) | (refine And.intro (by first | exact trivial | decide | omega | (dsimp only; omega) | exact fun _ _ => rfl) ?_) | (apply And.intro) | (intro s hs))
    · show bytesL (toL eCtx l.length (rowF eCtx l))
      rw [toL_ctx]; exact hl
    · rename_i sv hsv c0 st hst c1 c2 c3
      have v1 : validT l = true := by rw [← hV sv hsv]; exact c0
      have v2 : vt now = true := by rw [← (show st = vt now from hst)]; exact c1
      have hd : s = decom (l.getD i default) now := hs.trans (by
        show decom (eCtx.rd (eCtx.cell (l.getD i default))) now = _
        rw [eCtx_rd])
      have e : forDec l id now = (l.getD i default, true) := by
        rw [hv, fdI, if_pos ⟨v1, v2⟩, drop_at (by omega), findDec, if_pos ⟨c3, by rw [← hd]; exact hc⟩]
      rw [e]
      refine Done.mk (leF_tup ?_)
      repeat' (first | exact trivial | exact rfl | exact leC_int rfl | exact leC_bool rfl | refine leE_all ?_ | exact leC_bool (by assumption) | apply And.intro)
    · rename_i sv hsv c0 st hst c1 c2 c3
      have v1 : validT l = true := by rw [← hV sv hsv]; exact c0
      have v2 : vt now = true := by rw [← (show st = vt now from hst)]; exact c1
      have hd : s = decom (l.getD i default) now := hs.trans (by
        show decom (eCtx.rd (eCtx.cell (l.getD i default))) now = _
        rw [eCtx_rd])
      refine ⟨⟨i + 1, by omega, ?_⟩, [], by dsimp only; omega, rfl, ?_, ?_⟩
      · rw [hv, fdI, fdI, if_pos ⟨v1, v2⟩, if_pos ⟨v1, v2⟩, drop_at (show i < l.length by omega), findDec, if_neg (by rw [← hd, hc]; simp)]
      · repeat' (first | exact trivial | exact rfl | exact leF_ptr rfl | exact leF_int rfl | exact leF_bool rfl | exact leF_cl (cl_slB _ _) | exact leF_cl (cl_slR _ _) | exact leF_c (leC_os rfl rfl) | refine leF_int ?_ | refine leF_bool ?_ | exact leN_varA (fun _ _ => (Elem.flat _ _ _).le) | exact leN_varA (fun _ _ => leC_top) | apply And.intro)
        refine (IntWalk.i64_in _ ?_).trans ?_
        · constructor <;> omega
        · dsimp only
          omega
      · repeat' (first | exact trivial | exact rfl | exact leF_ptr rfl | exact leF_int rfl | exact leF_bool rfl | exact leF_cl (cl_slB _ _) | exact leF_cl (cl_slR _ _) | exact leF_c (leC_os rfl rfl) | refine leF_int ?_ | refine leF_bool ?_ | exact leN_varA (fun _ _ => (Elem.flat _ _ _).le) | exact leN_varA (fun _ _ => leC_top) | apply And.intro)
    · rename_i sv hsv c0 c1 c2 c3
      have v1 : validT l = true := by rw [← hV sv hsv]; exact c0
      have v2 : vt now = true := by rw [← (show s = vt now from hs)]; exact c1
      have hne : (l.getD i default).id ≠ id := c3
      refine ⟨⟨i + 1, by omega, ?_⟩, [], by dsimp only; omega, rfl, ?_, ?_⟩
      · rw [hv, fdI, fdI, if_pos ⟨v1, v2⟩, if_pos ⟨v1, v2⟩, drop_at (show i < l.length by omega), findDec, if_neg (fun h => hne h.1)]
      · repeat' (first | exact trivial | exact rfl | exact leF_ptr rfl | exact leF_int rfl | exact leF_bool rfl | exact leF_cl (cl_slB _ _) | exact leF_cl (cl_slR _ _) | exact leF_c (leC_os rfl rfl) | refine leF_int ?_ | refine leF_bool ?_ | exact leN_varA (fun _ _ => (Elem.flat _ _ _).le) | exact leN_varA (fun _ _ => leC_top) | apply And.intro)
        refine (IntWalk.i64_in _ ?_).trans ?_
        · constructor <;> omega
        · dsimp only
          omega
      · repeat' (first | exact trivial | exact rfl | exact leF_ptr rfl | exact leF_int rfl | exact leF_bool rfl | exact leF_cl (cl_slB _ _) | exact leF_cl (cl_slR _ _) | exact leF_c (leC_os rfl rfl) | refine leF_int ?_ | refine leF_bool ?_ | exact leN_varA (fun _ _ => (Elem.flat _ _ _).le) | exact leN_varA (fun _ _ => leC_top) | apply And.intro)
    · have hil : i = l.length := by omega
      have e : forDec l id now = (default, false) := by
        rw [hv, fdI, hil, List.drop_length]
        split <;> rfl
      rw [e]
      refine Done.mk (leF_tup ?_)
      repeat' (first | exact trivial | exact rfl | exact leC_int rfl | exact leC_bool rfl | refine leE_all ?_ | exact leC_bool (by assumption) | apply And.intro)
    · have v2 : vt now = false := by rw [← (show s = vt now from hs)]; assumption
      have e : forDec l id now = (default, false) := by
        rw [hv, fdI, if_neg (by rw [v2]; simp)]
      rw [e]
      refine Done.mk (leF_tup ?_)
      repeat' (first | exact trivial | exact rfl | exact leC_int rfl | exact leC_bool rfl | refine leE_all ?_ | exact leC_bool (by assumption) | apply And.intro)
    · have v1 : validT l = false := by rw [← hV s hs]; assumption
      have e : forDec l id now = (default, false) := by
        rw [hv, fdI, if_neg (by rw [v1]; simp)]
      rw [e]
      refine Done.mk (leF_tup ?_)
      repeat' (first | exact trivial | exact rfl | exact leC_int rfl | exact leC_bool rfl | refine leE_all ?_ | exact leC_bool (by assumption) | apply And.intro)
  · refine ⟨rfl, ?_, ?_⟩
    · repeat' (first | exact trivial | exact rfl | exact leF_ptr rfl | exact leF_int rfl | exact leF_bool rfl | exact leF_cl (cl_slB _ _) | exact leF_cl (cl_slR _ _) | exact leF_c (leC_os rfl rfl) | refine leF_int ?_ | refine leF_bool ?_ | exact leN_varA (fun _ _ => (Elem.flat _ _ _).le) | exact leN_varA (fun _ _ => leC_top) | apply And.intro)
    · repeat' (first | exact trivial | exact rfl | exact leF_ptr rfl | exact leF_int rfl | exact leF_bool rfl | exact leF_cl (cl_slB _ _) | exact leF_cl (cl_slR _ _) | exact leF_c (leC_os rfl rfl) | refine leF_int ?_ | refine leF_bool ?_ | exact leN_varA (fun _ _ => (Elem.flat _ _ _).le) | exact leN_varA (fun _ _ => leC_top) | apply And.intro)
theorem ctxC_eq {c d : Ctx} (h : eqFrom (eCtx.cell c) (eCtx.cell d) 20 0 = true) : c = d := by
  rw [eqFrom_iff] at h
  simp only [Nat.zero_add] at h
  obtain ⟨a1, a2, a3, a4, a5⟩ := c
  obtain ⟨b1, b2, b3, b4, b5⟩ := d
  have e1 : a1 = b1 := by simpa [eqCell] using (show eqCell (.int .i64 a1) (.int .i64 b1) = true from h 0 (by omega))
  have e2 : a2 = b2 := by
    funext q
    have := h (1 + q.1) (by omega)
    rw [eCtx_ip_at _ _ q.2, eCtx_ip_at _ _ q.2] at this
    simp only [eqCell, beq_iff_eq] at this
    rw [vget_lt _ q.2, vget_lt _ q.2] at this
    exact this
  have e3 : a3 = b3 := by simpa [eqCell] using (show eqCell (.int .i64 a3) (.int .i64 b3) = true from h 17 (by omega))
  have e4 : a4 = b4 := by simpa [eqCell] using (show eqCell (.bool a4) (.bool b4) = true from h 18 (by omega))
  have e5 : a5 = b5 := by simpa [eqCell] using (show eqCell (.int .i64 a5) (.int .i64 b5) = true from h 19 (by omega))
  rw [e1, e2, e3, e4, e5]
theorem ctxC_refl (c : Ctx) : eqFrom (eCtx.cell c) (eCtx.cell c) 20 0 = true := by
  rw [eqFrom_iff]
  intro i _
  show eqCell (eCtxC c (0 + i)) (eCtxC c (0 + i)) = true
  unfold eCtxC
  cases Nat.beq (0 + i) 0 <;> cases Nat.blt (0 + i) 17 <;> cases Nat.beq (0 + i) 17 <;> cases Nat.beq (0 + i) 18 <;> simp [eqCell]
open Classical in
noncomputable def sameF (a b : List Ctx) : Bool := decide (a = b)
open Classical in
theorem same_t {a b : List Ctx} (h : a = b) : sameF a b = true := by unfold sameF; exact decide_eq_true h
open Classical in
theorem same_f {a b : List Ctx} (h : a ≠ b) : sameF a b = false := by unfold sameF; exact decide_eq_false h
theorem list_ext {a b : List Ctx} (hn : a.length = b.length) (h : ∀ i, i < a.length → a.getD i default = b.getD i default) : a = b := by
  apply List.ext_getElem hn
  intro i h1 h2
  have := h i h1
  rw [List.getD_eq_getElem?_getD, List.getD_eq_getElem?_getD, List.getElem?_eq_getElem h1, List.getElem?_eq_getElem h2] at this
  exact this
set_option maxHeartbeats 4000000 in
set_option maxRecDepth 20000 in
theorem same_ok (a b : List Ctx) (ha : a.length ≤ 2932031007317) : PureOk Try.prog 66 [(cSl eCtx eCtx_sz).enc a, (cSl eCtx eCtx_sz).enc b] (cB.enc (sameF a b)) := by
  refine pure_intro (wd := 1) (Q := mkQ LQ1) (by decide) tysOk (q_of LQ1_ok) mixed Try.func66 rfl _ (by show 2 ≤ _; decide) _ ?_
  repeat' (first | (apply And.intro <;> intro hc <;> (first | exact Bool.noConfusion hc | (simp only [decide_eq_true_eq, decide_eq_false_iff_not, Bool.not_eq_true', Bool.not_eq_false', beq_iff_eq, beq_eq_false_iff_ne, bne_iff_ne, bne_eq_false_iff_eq, Bool.true_eq_false, Bool.false_eq_true] at hc) | skip)) | (refine And.intro (by first | exact trivial | decide | omega | (dsimp only; omega) | exact fun _ _ => rfl) ?_) | (apply And.intro) | (intro s hs))
  · refine Done.mk (leF_bool ?_)
    symm
    exact same_f fun h => hc (by rw [h])
  · refine loop_intro (mono_of LQ1_ok) (fun i : {i : Nat // i ≤ a.length ∧ ∀ j, j < i → a.getD j default = b.getD j default} => (⟨[(0, one (.sl false a.length eCtx.sz (rowF eCtx a))), (1, one (.sl false b.length eCtx.sz (rowF eCtx b))), (5, one (.int .i64 (i.1 : Int)))], [], 30⟩ : Hd)) (fun i => a.length - i.1) (fun _ => rfl) ?_ ⟨0, by omega, fun j h => by omega⟩ [] ?_
    · have hab : a.length = b.length := by omega
      rintro ⟨i, hi, hv⟩
      dsimp only at hi hv ⊢
      repeat' (first | (apply And.intro <;> intro hc <;> (first | exact Bool.noConfusion hc | (simp only [decide_eq_true_eq, decide_eq_false_iff_not, Bool.not_eq_true', Bool.not_eq_false', beq_iff_eq, beq_eq_false_iff_ne, bne_iff_ne, bne_eq_false_iff_eq, Bool.true_eq_false, Bool.false_eq_true] at hc) | skip)) | (refine And.intro (by first | exact trivial | decide | omega | (dsimp only; omega) | exact fun _ _ => rfl) ?_) | (apply And.intro) | (intro s hs))
      · refine Done.mk (leF_bool ?_)
        symm
        refine same_f fun h => ?_
        have h2 : eqFrom (eCtx.cell (a.getD i default)) (eCtx.cell (b.getD i default)) 20 0 = false := by assumption
        rw [h, ctxC_refl] at h2; cases h2
      · have h2 : eqFrom (eCtx.cell (a.getD i default)) (eCtx.cell (b.getD i default)) 20 0 = true := by assumption
        refine ⟨⟨i + 1, by omega, fun j hj => ?_⟩, [], by dsimp only; omega, rfl, ?_, ?_⟩
        · by_cases e : j = i
          · rw [e]; exact ctxC_eq h2
          · exact hv j (by omega)
        · repeat' (first | exact trivial | exact rfl | exact leF_ptr rfl | exact leF_int rfl | exact leF_bool rfl | exact leF_cl (cl_slB _ _) | exact leF_cl (cl_slR _ _) | exact leF_c (leC_os rfl rfl) | refine leF_int ?_ | refine leF_bool ?_ | exact leN_varA (fun _ _ => (Elem.flat _ _ _).le) | exact leN_varA (fun _ _ => leC_top) | apply And.intro)
          refine (IntWalk.i64_in _ ?_).trans ?_
          · constructor <;> omega
          · dsimp only
            omega
        · repeat' (first | exact trivial | exact rfl | exact leF_ptr rfl | exact leF_int rfl | exact leF_bool rfl | exact leF_cl (cl_slB _ _) | exact leF_cl (cl_slR _ _) | exact leF_c (leC_os rfl rfl) | refine leF_int ?_ | refine leF_bool ?_ | exact leN_varA (fun _ _ => (Elem.flat _ _ _).le) | exact leN_varA (fun _ _ => leC_top) | apply And.intro)
      · refine Done.mk (leF_bool ?_)
        symm
        exact same_t (list_ext hab fun j hj => hv j (by omega))
    · refine ⟨rfl, ?_, ?_⟩
      · repeat' (first | exact trivial | exact rfl | exact leF_ptr rfl | exact leF_int rfl | exact leF_bool rfl | exact leF_cl (cl_slB _ _) | exact leF_cl (cl_slR _ _) | exact leF_c (leC_os rfl rfl) | refine leF_int ?_ | refine leF_bool ?_ | exact leN_varA (fun _ _ => (Elem.flat _ _ _).le) | exact leN_varA (fun _ _ => leC_top) | apply And.intro)
      · repeat' (first | exact trivial | exact rfl | exact leF_ptr rfl | exact leF_int rfl | exact leF_bool rfl | exact leF_cl (cl_slB _ _) | exact leF_cl (cl_slR _ _) | exact leF_c (leC_os rfl rfl) | refine leF_int ?_ | refine leF_bool ?_ | exact leN_varA (fun _ _ => (Elem.flat _ _ _).le) | exact leN_varA (fun _ _ => leC_top) | apply And.intro)
end Go.Proofs.Ytcnfjifokeancaa.AX
