/- Package contexts: ForCompression (by AX2). -/
import Derived.Test.YtjknkfjhcapocaaCt2
namespace Go.Proofs.Ytjknkfjhcapocaa.AX
set_option linter.unusedVariables false
set_option linter.unusedSimpArgs false
def better (a : Fin 16 → Int) (now : Int) (r : Ctx × Bool) (c : Ctx) : Bool := compr c now && pEq (maskP a c.bits) (pfxOf c) && (!r.2 || decide (r.1.bits < c.bits))
def foldC (a : Fin 16 → Int) (now : Int) : Ctx × Bool → List Ctx → Ctx × Bool
  | r, [] => r
  | r, c :: l => foldC a now (if better a now r c = true then (c, true) else r) l
def forCom (l : List Ctx) (a : Fin 16 → Int) (now : Int) : Ctx × Bool := if validT l = true ∧ vt now = true then foldC a now (default, false) l else (default, false)
theorem eqFrom_congr {f f' g g' : Nat → CV} {n : Nat} (h1 : ∀ j, j < n → f j = f' j) (h2 : ∀ j, j < n → g j = g' j) : eqFrom f g n 0 = eqFrom f' g' n 0 := by
  rw [Bool.eq_iff_iff, eqFrom_iff, eqFrom_iff]
  simp only [Nat.zero_add]
  constructor
  · intro h i hi; rw [← h1 i hi, ← h2 i hi]; exact h i hi
  · intro h i hi; rw [h1 i hi, h2 i hi]; exact h i hi
theorem ctx_pfx_cell (c : Ctx) : ∀ j, j < 17 → eCtx.cell c (1 + j) = ePfx.cell (pfxOf c) j := by
  intro j hj
  by_cases h : j < 16
  · rw [eCtx_ip_at _ _ h]
    have := ePfx_ip_at (pfxOf c) j h
    rw [Nat.zero_add] at this
    rw [this]; rfl
  · have : j = 16 := by omega
    subst this; rfl
theorem fold_step {l : List Ctx} {i : Nat} (a : Fin 16 → Int) (now : Int) (r : Ctx × Bool) (h : i < l.length) : foldC a now r (l.drop i) = foldC a now (if better a now r (l.getD i default) = true then (l.getD i default, true) else r) (l.drop (i + 1)) := by
  rw [drop_at h, foldC]
theorem rd_ctx (c : Ctx) : eCtx.rd (fun q => eCtx.cell c (0 + q)) = c := by
  simp only [Nat.zero_add]; exact eCtx_rd c
theorem rd_ip (a : Fin 16 → Int) : (eA .u8 16).rd (fun q => (eA .u8 16).cell a (0 + q)) = a := by
  simp only [Nat.zero_add]; exact eA_rd a
theorem eq_pfx (s : Pfx) (c : Ctx) : eqFrom (ePfx.cell s) (fun q => eCtx.cell c (0 + 1 + q)) 17 0 = pEq s (pfxOf c) := by
  rw [← pEq_from]
  exact eqFrom_congr (fun _ _ => rfl) (fun j hj => by rw [Nat.zero_add]; exact ctx_pfx_cell c j hj)
theorem forCom_ok (l : List Ctx) (a : Fin 16 → Int) (now : Int) (hl : l.length ≤ 9223372036854775807) : PureOk Try.prog 117 [(cSl eCtx eCtx_sz).enc l, (cE (eA .u8 16)).enc a, (cI .i64).enc now] (encCB (forCom l a now)) := by
  refine pure_intro (wd := 1) (Q := mkQ LE3) (by decide) tysOk (q_of LE3_ok) mixed Try.func117 rfl _ (by show 3 ≤ _; decide) _ ?_
  repeat' (first | (apply And.intro <;> intro hc <;> (first | exact Bool.noConfusion hc | (simp only [decide_eq_true_eq, decide_eq_false_iff_not, Bool.not_eq_true', Bool.not_eq_false', beq_iff_eq, beq_eq_false_iff_ne, bne_iff_ne, bne_eq_false_iff_eq, Bool.true_eq_false, Bool.false_eq_true] at hc) | skip)) | (refine And.intro (by first | exact trivial | decide | omega | (dsimp only; omega) | exact fun _ _ => rfl) ?_) | (apply And.intro) | (intro s hs))
  · show (toL eCtx l.length (rowF eCtx l)).length ≤ _
    rw [toL_ctx]; exact hl
  · have hs' : s = validT l := by rw [hs, toL_ctx]
    have hf : s = false := by assumption
    have e : forCom l a now = (default, false) := by simp [forCom, ← hs', hf]
    rw [e]
    refine Done.mk (leF_tup ?_)
    repeat' (first | exact trivial | exact rfl | exact leC_int rfl | exact leC_bool rfl | refine leE_all ?_ | exact leC_bool (by assumption) | apply And.intro)
  · have hs' : s = vt now := hs
    have e : forCom l a now = (default, false) := by simp [forCom, ← hs', hc]
    rw [e]
    refine Done.mk (leF_tup ?_)
    repeat' (first | exact trivial | exact rfl | exact leC_int rfl | exact leC_bool rfl | refine leE_all ?_ | exact leC_bool (by assumption) | apply And.intro)
  · rename_i s1 hs1 hc1
    have hs1' : s1 = validT l := by rw [hs1, toL_ctx]
    have hs' : s = vt now := hs
    have e : forCom l a now = foldC a now (default, false) l := by simp [forCom, ← hs', ← hs1', hc, hc1]
    rw [e]
    clear hs hs1 hs' hs1' hc hc1 e
    refine loop_intro (mono_of LE3_ok) (fun s : {s : Nat × Ctx × Bool // s.1 ≤ l.length ∧ foldC a now (default, false) l = foldC a now s.2 (l.drop s.1)} => (⟨[(2, one (.int .i64 now)), (4, one (.ptr 0 0 0 false)), (6, one (.ptr 1 0 0 false)), (8, one (.ptr 12 0 0 false)), (9, one (.bool s.1.2.2)), (22, one (.sl false l.length eCtx.sz (rowF eCtx l))), (23, one (.int .i64 (l.length : Int))), (24, one (.int .i64 (s.1.1 : Int)))],
      [(0, some ⟨24, 1, 16, true, fun _ => (eA .u8 16).cell a⟩), (1, some ⟨82, 1, 20, true, fun _ _ => .top⟩), (12, some ⟨82, 1, 20, true, fun _ => eCtx.cell s.1.2.1⟩)], 18⟩ : Hd)) (fun s => l.length - s.1.1) (fun _ => rfl) ?_ ⟨(0, default, false), by simp, rfl⟩ [] ?_
    · rintro ⟨⟨i, best, found⟩, hi, hv⟩
      dsimp only at hi hv ⊢
      repeat' (first | (apply And.intro <;> intro hc <;> (first | exact Bool.noConfusion hc | (simp only [decide_eq_true_eq, decide_eq_false_iff_not, Bool.not_eq_true', Bool.not_eq_false', beq_iff_eq, beq_eq_false_iff_ne, bne_iff_ne, bne_eq_false_iff_eq, Bool.true_eq_false, Bool.false_eq_true] at hc) | skip)) | (refine And.intro (by first | exact trivial | decide | omega | (dsimp only; omega) | exact fun _ _ => rfl) ?_) | (apply And.intro) | (intro s hs))
      · have hf : s = false := by assumption
        have hs0 : s = compr (l.getD i default) now := by
          refine hs.trans ?_
          show compr (eCtx.rd fun q => eCtx.cell (l.getD i default) (0 + q)) now = _
          rw [rd_ctx]
        refine ⟨⟨(i + 1, best, found), by dsimp only; omega, ?_⟩, [], by dsimp only; omega, rfl, ?_, ?_⟩
        · dsimp only
          rw [hv, fold_step _ _ _ (by omega), if_neg (by simp only [better, ← hs0, hf, Bool.false_and]; decide)]
        · repeat' (first | exact trivial | exact rfl | exact leF_ptr rfl | exact leF_int rfl | exact leF_bool rfl | exact leF_cl (cl_slB _ _) | exact leF_cl (cl_slR _ _) | exact leF_cl (cl_ll _ _) | exact leF_c (leC_os rfl rfl) | refine leF_int ?_ | refine leF_bool ?_ | exact leN_varA (fun _ _ => (Elem.flat _ _ _).le) | exact leN_varA (fun _ _ => leC_top) | apply And.intro)
          refine (IntWalk.i64_in _ ?_).trans ?_
          · constructor <;> omega
          · dsimp only
            omega
        · repeat' (first | exact trivial | exact rfl | exact leF_ptr rfl | exact leF_int rfl | exact leF_bool rfl | exact leF_cl (cl_slB _ _) | exact leF_cl (cl_slR _ _) | exact leF_cl (cl_ll _ _) | exact leF_c (leC_os rfl rfl) | refine leF_int ?_ | refine leF_bool ?_ | exact leN_varA (fun _ _ => (Elem.flat _ _ _).le) | exact leN_varA (fun _ _ => leC_top) | apply And.intro)
          all_goals (refine leN_var ?_; repeat' (first | exact trivial | exact rfl | exact leC_int rfl | exact leC_bool rfl | refine leE_all ?_ | exact leC_bool (by assumption) | apply And.intro))
      · rename_i s0 h0 c0
        have hs0 : s0 = compr (l.getD i default) now := by
          refine h0.trans ?_
          show compr (eCtx.rd fun q => eCtx.cell (l.getD i default) (0 + q)) now = _
          rw [rd_ctx]
        have hm : s = maskP a (l.getD i default).bits := by
          refine hs.trans ?_
          show maskP ((eA .u8 16).rd fun q => (eA .u8 16).cell a (0 + q)) (l.getD i default).bits = _
          rw [rd_ip]
        have hq : pEq s (pfxOf (l.getD i default)) = false := by
          rw [← eq_pfx]; exact hc
        refine ⟨⟨(i + 1, best, found), by dsimp only; omega, ?_⟩, [], by dsimp only; omega, rfl, ?_, ?_⟩
        · dsimp only
          rw [hv, fold_step _ _ _ (by omega), if_neg (by simp only [better, ← hm, hq, Bool.and_false, Bool.false_and]; decide)]
        · repeat' (first | exact trivial | exact rfl | exact leF_ptr rfl | exact leF_int rfl | exact leF_bool rfl | exact leF_cl (cl_slB _ _) | exact leF_cl (cl_slR _ _) | exact leF_cl (cl_ll _ _) | exact leF_c (leC_os rfl rfl) | refine leF_int ?_ | refine leF_bool ?_ | exact leN_varA (fun _ _ => (Elem.flat _ _ _).le) | exact leN_varA (fun _ _ => leC_top) | apply And.intro)
          refine (IntWalk.i64_in _ ?_).trans ?_
          · constructor <;> omega
          · dsimp only
            omega
        · repeat' (first | exact trivial | exact rfl | exact leF_ptr rfl | exact leF_int rfl | exact leF_bool rfl | exact leF_cl (cl_slB _ _) | exact leF_cl (cl_slR _ _) | exact leF_cl (cl_ll _ _) | exact leF_c (leC_os rfl rfl) | refine leF_int ?_ | refine leF_bool ?_ | exact leN_varA (fun _ _ => (Elem.flat _ _ _).le) | exact leN_varA (fun _ _ => leC_top) | apply And.intro)
          all_goals (refine leN_var ?_; repeat' (first | exact trivial | exact rfl | exact leC_int rfl | exact leC_bool rfl | refine leE_all ?_ | exact leC_bool (by assumption) | apply And.intro))
      · rename_i s0 h0 c0 c1 c2
        have hs0 : s0 = compr (l.getD i default) now := by
          refine h0.trans ?_
          show compr (eCtx.rd fun q => eCtx.cell (l.getD i default) (0 + q)) now = _
          rw [rd_ctx]
        have hm : s = maskP a (l.getD i default).bits := by
          refine hs.trans ?_
          show maskP ((eA .u8 16).rd fun q => (eA .u8 16).cell a (0 + q)) (l.getD i default).bits = _
          rw [rd_ip]
        have hq : pEq s (pfxOf (l.getD i default)) = true := by
          rw [← eq_pfx]; exact c1
        refine ⟨⟨(i + 1, l.getD i default, true), by dsimp only; omega, ?_⟩, [], by dsimp only; omega, rfl, ?_, ?_⟩
        · dsimp only
          rw [hv, fold_step _ _ _ (by omega), if_pos (by simp only [better, ← hm, hq, ← hs0, c0, c2]; rfl)]
        · repeat' (first | exact trivial | exact rfl | exact leF_ptr rfl | exact leF_int rfl | exact leF_bool rfl | exact leF_cl (cl_slB _ _) | exact leF_cl (cl_slR _ _) | exact leF_cl (cl_ll _ _) | exact leF_c (leC_os rfl rfl) | refine leF_int ?_ | refine leF_bool ?_ | exact leN_varA (fun _ _ => (Elem.flat _ _ _).le) | exact leN_varA (fun _ _ => leC_top) | apply And.intro)
          refine (IntWalk.i64_in _ ?_).trans ?_
          · constructor <;> omega
          · dsimp only
            omega
        · repeat' (first | exact trivial | exact rfl | exact leF_ptr rfl | exact leF_int rfl | exact leF_bool rfl | exact leF_cl (cl_slB _ _) | exact leF_cl (cl_slR _ _) | exact leF_cl (cl_ll _ _) | exact leF_c (leC_os rfl rfl) | refine leF_int ?_ | refine leF_bool ?_ | exact leN_varA (fun _ _ => (Elem.flat _ _ _).le) | exact leN_varA (fun _ _ => leC_top) | apply And.intro)
          all_goals (refine leN_var ?_; repeat' (first | exact trivial | exact rfl | exact leC_int rfl | exact leC_bool rfl | refine leE_all ?_ | exact leC_bool (by assumption) | apply And.intro))
      · rename_i s0 h0 c0 c1 c2
        have hs0 : s0 = compr (l.getD i default) now := by
          refine h0.trans ?_
          show compr (eCtx.rd fun q => eCtx.cell (l.getD i default) (0 + q)) now = _
          rw [rd_ctx]
        have hm : s = maskP a (l.getD i default).bits := by
          refine hs.trans ?_
          show maskP ((eA .u8 16).rd fun q => (eA .u8 16).cell a (0 + q)) (l.getD i default).bits = _
          rw [rd_ip]
        have hq : pEq s (pfxOf (l.getD i default)) = true := by
          rw [← eq_pfx]; exact c1
        have hc' : best.bits < (l.getD i default).bits := hc
        refine ⟨⟨(i + 1, l.getD i default, true), by dsimp only; omega, ?_⟩, [], by dsimp only; omega, rfl, ?_, ?_⟩
        · dsimp only
          rw [hv, fold_step _ _ _ (by omega), if_pos (by simp only [better, ← hm, hq, ← hs0, c0, decide_eq_true hc', Bool.or_true]; rfl)]
        · repeat' (first | exact trivial | exact rfl | exact leF_ptr rfl | exact leF_int rfl | exact leF_bool rfl | exact leF_cl (cl_slB _ _) | exact leF_cl (cl_slR _ _) | exact leF_cl (cl_ll _ _) | exact leF_c (leC_os rfl rfl) | refine leF_int ?_ | refine leF_bool ?_ | exact leN_varA (fun _ _ => (Elem.flat _ _ _).le) | exact leN_varA (fun _ _ => leC_top) | apply And.intro)
          refine (IntWalk.i64_in _ ?_).trans ?_
          · constructor <;> omega
          · dsimp only
            omega
        · repeat' (first | exact trivial | exact rfl | exact leF_ptr rfl | exact leF_int rfl | exact leF_bool rfl | exact leF_cl (cl_slB _ _) | exact leF_cl (cl_slR _ _) | exact leF_cl (cl_ll _ _) | exact leF_c (leC_os rfl rfl) | refine leF_int ?_ | refine leF_bool ?_ | exact leN_varA (fun _ _ => (Elem.flat _ _ _).le) | exact leN_varA (fun _ _ => leC_top) | apply And.intro)
          all_goals (refine leN_var ?_; repeat' (first | exact trivial | exact rfl | exact leC_int rfl | exact leC_bool rfl | refine leE_all ?_ | exact leC_bool (by assumption) | apply And.intro))
      · rename_i s0 h0 c0 c1 c2
        have hs0 : s0 = compr (l.getD i default) now := by
          refine h0.trans ?_
          show compr (eCtx.rd fun q => eCtx.cell (l.getD i default) (0 + q)) now = _
          rw [rd_ctx]
        have hm : s = maskP a (l.getD i default).bits := by
          refine hs.trans ?_
          show maskP ((eA .u8 16).rd fun q => (eA .u8 16).cell a (0 + q)) (l.getD i default).bits = _
          rw [rd_ip]
        have hq : pEq s (pfxOf (l.getD i default)) = true := by
          rw [← eq_pfx]; exact c1
        have hc' : ¬ best.bits < (l.getD i default).bits := hc
        refine ⟨⟨(i + 1, best, found), by dsimp only; omega, ?_⟩, [], by dsimp only; omega, rfl, ?_, ?_⟩
        · dsimp only
          rw [hv, fold_step _ _ _ (by omega), if_neg (by simp only [better, c2, decide_eq_false hc', Bool.not_true, Bool.or_false, Bool.and_false]; decide)]
        · repeat' (first | exact trivial | exact rfl | exact leF_ptr rfl | exact leF_int rfl | exact leF_bool rfl | exact leF_cl (cl_slB _ _) | exact leF_cl (cl_slR _ _) | exact leF_cl (cl_ll _ _) | exact leF_c (leC_os rfl rfl) | refine leF_int ?_ | refine leF_bool ?_ | exact leN_varA (fun _ _ => (Elem.flat _ _ _).le) | exact leN_varA (fun _ _ => leC_top) | apply And.intro)
          refine (IntWalk.i64_in _ ?_).trans ?_
          · constructor <;> omega
          · dsimp only
            omega
        · repeat' (first | exact trivial | exact rfl | exact leF_ptr rfl | exact leF_int rfl | exact leF_bool rfl | exact leF_cl (cl_slB _ _) | exact leF_cl (cl_slR _ _) | exact leF_cl (cl_ll _ _) | exact leF_c (leC_os rfl rfl) | refine leF_int ?_ | refine leF_bool ?_ | exact leN_varA (fun _ _ => (Elem.flat _ _ _).le) | exact leN_varA (fun _ _ => leC_top) | apply And.intro)
          all_goals (refine leN_var ?_; repeat' (first | exact trivial | exact rfl | exact leC_int rfl | exact leC_bool rfl | refine leE_all ?_ | exact leC_bool (by assumption) | apply And.intro))
      · have hil : i = l.length := by omega
        have e : foldC a now (default, false) l = (best, found) := by rw [hv, hil, List.drop_length]; rfl
        rw [e]
        refine Done.mk (leF_tup ?_)
        repeat' (first | exact trivial | exact rfl | exact leC_int rfl | exact leC_bool rfl | refine leE_all ?_ | exact leC_bool (by assumption) | apply And.intro)
    · refine ⟨rfl, ?_, ?_⟩
      · repeat' (first | exact trivial | exact rfl | exact leF_ptr rfl | exact leF_int rfl | exact leF_bool rfl | exact leF_cl (cl_slB _ _) | exact leF_cl (cl_slR _ _) | exact leF_cl (cl_ll _ _) | exact leF_c (leC_os rfl rfl) | refine leF_int ?_ | refine leF_bool ?_ | exact leN_varA (fun _ _ => (Elem.flat _ _ _).le) | exact leN_varA (fun _ _ => leC_top) | apply And.intro)
      · repeat' (first | exact trivial | exact rfl | exact leF_ptr rfl | exact leF_int rfl | exact leF_bool rfl | exact leF_cl (cl_slB _ _) | exact leF_cl (cl_slR _ _) | exact leF_cl (cl_ll _ _) | exact leF_c (leC_os rfl rfl) | refine leF_int ?_ | refine leF_bool ?_ | exact leN_varA (fun _ _ => (Elem.flat _ _ _).le) | exact leN_varA (fun _ _ => leC_top) | apply And.intro)
        all_goals (refine leN_var ?_; repeat' (first | exact trivial | exact rfl | exact leC_int rfl | exact leC_bool rfl | refine leE_all ?_ | exact leC_bool (by assumption) | apply And.intro))
end Go.Proofs.Ytjknkfjhcapocaa.AX
