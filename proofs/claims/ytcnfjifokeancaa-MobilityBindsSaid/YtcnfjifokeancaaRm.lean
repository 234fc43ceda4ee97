/- The references of layers 22 and 36: IsTime, After, CompareIP, Valid (by AX2). -/
import Derived.Test.YtcnfjifokeancaaMbK
import Derived.Test.YtcnfjifokeancaaMp
namespace Go.Proofs.Ytcnfjifokeancaa.AX
open Go.RowKit
set_option linter.unusedVariables false
set_option linter.unusedSimpArgs false
theorem rtm_ok (t : Int) : PureOk Try.prog 73 [(cI .i64).enc t] (cB.enc (vt t)) := by
  refine pure_intro (wd := 1) (Q := mkQ LE0) (by decide) tysOk (q_of LE0_ok) mixed Try.func73 rfl _ (by show 1 ≤ _; decide) _ ?_
  repeat' (first | (apply And.intro <;> intro hc <;> (first | exact Bool.noConfusion hc | (simp only [decide_eq_true_eq, decide_eq_false_iff_not, Bool.not_eq_true', Bool.not_eq_false', beq_iff_eq, beq_eq_false_iff_ne, bne_iff_ne, bne_eq_false_iff_eq, Bool.true_eq_false, Bool.false_eq_true] at hc) | skip)) | (refine And.intro (by first | exact trivial | decide | omega | (dsimp only; omega) | exact fun _ _ => rfl) ?_) | (apply And.intro) | (intro s hs))
  all_goals (refine Done.mk (leF_bool ?_); simp [vt, *])
theorem after_ok (t d : Int) (h : 0 ≤ t ∧ t ≤ 1099511627776) (h' : 0 ≤ d ∧ d ≤ 60) : PureOk Try.prog 74 [(cI .i64).enc t, (cI .i64).enc d] ((cI .i64).enc (minT t d)) := by
  refine pure_intro (wd := 1) (Q := mkQ LE0) (by decide) tysOk (q_of LE0_ok) mixed Try.func74 rfl _ (by show 2 ≤ _; decide) _ ?_
  refine Done.mk (leF_int ?_)
  rw [IntWalk.i64_in _ (by omega)]; rfl
theorem ipL_drop (a : Fin 16 → Int) {i : Nat} (h : i < 16) : (ipL a).drop i = vget a i :: (ipL a).drop (i + 1) := by
  rw [List.drop_eq_getElem_cons (by rw [ipL_len]; exact h)]
  simp [ipL]
set_option maxRecDepth 10000 in
theorem cmpIP_ok (a b : Fin 16 → Int) : PureOk Try.prog 75 [(cE (eA .u8 16)).enc a, (cE (eA .u8 16)).enc b] ((cI .i64).enc (ipC a b)) := by
  refine pure_intro (wd := 1) (Q := mkQ LE0) (by decide) tysOk (q_of LE0_ok) mixed Try.func75 rfl _ (by show 2 ≤ _; decide) _ ?_
  refine loop_intro (mono_of LE0_ok) (fun i : {i : Nat // i ≤ 16 ∧ ipC a b = cmpI ((ipL a).drop i) ((ipL b).drop i)} => (⟨[(2, one (.ptr 0 0 0 false)), (3, one (.ptr 1 0 0 false)), (5, one (.int .i64 (i.1 : Int)))],
    [(0, some ⟨28, 1, 16, true, fun _ => (eA .u8 16).cell a⟩), (1, some ⟨28, 1, 16, true, fun _ => (eA .u8 16).cell b⟩)], 5⟩ : Hd)) (fun i => 16 - i.1) (fun _ => rfl) ?_ ⟨0, by omega, rfl⟩ [] ?_
  · rintro ⟨i, hi, hv⟩
    dsimp only at hi hv ⊢
    have hlt : (i : Int) < 16 → ipC a b = if vget a i < vget b i then -1 else if vget b i < vget a i then 1 else cmpI ((ipL a).drop (i + 1)) ((ipL b).drop (i + 1)) := fun h => by
      rw [hv, ipL_drop a (by omega), ipL_drop b (by omega), cmpI]
    have e0 : 0 + (i : Int).toNat * 1 + 0 = i := by omega
    repeat' (first | (apply And.intro <;> intro hc <;> (first | exact Bool.noConfusion hc | (simp only [decide_eq_true_eq, decide_eq_false_iff_not, Bool.not_eq_true', Bool.not_eq_false', beq_iff_eq, beq_eq_false_iff_ne, bne_iff_ne, bne_eq_false_iff_eq, Bool.true_eq_false, Bool.false_eq_true] at hc) | skip)) | (refine And.intro (by first | exact trivial | decide | omega | (dsimp only; omega) | exact fun _ _ => rfl) ?_) | (apply And.intro) | (intro s hs))
    all_goals first
      | (show 1 ≤ 16 - _; omega)
      | (have h1 : vget a (0 + (i : Int).toNat * 1 + 0) < vget b (0 + (i : Int).toNat * 1 + 0) := by assumption
         rw [e0] at h1
         rw [hlt (by assumption), if_pos h1]
         exact Done.mk (leF_int rfl))
      | (have h1 : ¬ vget a (0 + (i : Int).toNat * 1 + 0) < vget b (0 + (i : Int).toNat * 1 + 0) := by assumption
         rw [e0] at h1
         first
           | (have h2 : vget b (0 + (i : Int).toNat * 1 + 0) < vget a (0 + (i : Int).toNat * 1 + 0) := by assumption
              rw [e0] at h2
              rw [hlt (by assumption), if_neg h1, if_pos h2]
              exact Done.mk (leF_int rfl))
           | (have h2 : ¬ vget b (0 + (i : Int).toNat * 1 + 0) < vget a (0 + (i : Int).toNat * 1 + 0) := by assumption
              rw [e0] at h2
              refine ⟨⟨i + 1, by omega, ?_⟩, [], by dsimp only; omega, rfl, ?_, ?_⟩
              · rw [hlt (by assumption), if_neg h1, if_neg h2]
              · repeat' (first | exact trivial | exact rfl | exact leF_ptr rfl | exact leF_int rfl | exact leF_bool rfl | exact leF_cl (cl_slB _ _) | exact leF_cl (cl_slR _ _) | exact leF_c (leC_os rfl rfl) | refine leF_int ?_ | refine leF_bool ?_ | exact leN_varA (fun _ _ => (Elem.flat _ _ _).le) | exact leN_varA (fun _ _ => leC_top) | apply And.intro)
                (dsimp only; rw [IntWalk.i64_in _ (by omega)]; omega)
              · repeat' (first | exact trivial | exact rfl | exact leF_ptr rfl | exact leF_int rfl | exact leF_bool rfl | exact leF_cl (cl_slB _ _) | exact leF_cl (cl_slR _ _) | exact leF_c (leC_os rfl rfl) | refine leF_int ?_ | refine leF_bool ?_ | exact leN_varA (fun _ _ => (Elem.flat _ _ _).le) | exact leN_varA (fun _ _ => leC_top) | apply And.intro)))
      | (have h16 : i = 16 := by omega
         have e : ipC a b = 0 := by rw [hv, h16, List.drop_eq_nil_of_le (by rw [ipL_len]; omega), List.drop_eq_nil_of_le (by rw [ipL_len]; omega)]; rfl
         rw [e]
         exact Done.mk (leF_int rfl))
  · refine ⟨rfl, ?_, ?_⟩
    · repeat' (first | exact trivial | exact rfl | exact leF_ptr rfl | exact leF_int rfl | exact leF_bool rfl | exact leF_cl (cl_slB _ _) | exact leF_cl (cl_slR _ _) | exact leF_c (leC_os rfl rfl) | refine leF_int ?_ | refine leF_bool ?_ | exact leN_varA (fun _ _ => (Elem.flat _ _ _).le) | exact leN_varA (fun _ _ => leC_top) | apply And.intro)
    · repeat' (first | exact trivial | exact rfl | exact leF_ptr rfl | exact leF_int rfl | exact leF_bool rfl | exact leF_cl (cl_slB _ _) | exact leF_cl (cl_slR _ _) | exact leF_c (leC_os rfl rfl) | refine leF_int ?_ | refine leF_bool ?_ | exact leN_varA (fun _ _ => (Elem.flat _ _ _).le) | exact leN_varA (fun _ _ => leC_top) | apply And.intro)
def LN0 : CsL := (73, some (pureE (AC.cons (cI .i64) AC.nil) (fun _ => True) (fun a => vt a.1) cB.enc)) ::
  (74, some (pureE (AC.cons (cI .i64) (AC.cons (cI .i64) AC.nil)) (fun a => (0 ≤ a.1 ∧ a.1 ≤ 1099511627776) ∧ (0 ≤ a.2.1 ∧ a.2.1 ≤ 60)) (fun a => minT a.1 a.2.1) (cI .i64).enc)) ::
  (75, some (pureE (AC.cons (cE (eA .u8 16)) (AC.cons (cE (eA .u8 16)) AC.nil)) (fun _ => True) (fun a => ipC a.1 a.2.1) (cI .i64).enc)) :: []
theorem LN0_ok : AllOk Try.prog LN0 := ⟨pureE_ok ⟨_, Try.func73, rfl, by kernel_rfl⟩ fun a _ => rtm_ok a.1, pureE_ok ⟨_, Try.func74, rfl, by kernel_rfl⟩ fun a h => after_ok a.1 a.2.1 h.1 h.2, pureE_ok ⟨_, Try.func75, rfl, by kernel_rfl⟩ fun a _ => cmpIP_ok a.1 a.2.1, trivial⟩
theorem ipC_congr {a a' b b' : Fin 16 → Int} (h1 : a = a') (h2 : b = b') : ipC a b = ipC a' b' := by rw [h1, h2]
theorem sq_iff {s : Int} : sqOk s = true ↔ ¬ s < 0 ∧ ¬ 1073741824 < s := by simp [sqOk]
set_option maxHeartbeats 4000000 in
set_option maxRecDepth 20000 in
theorem rmvalid_ok (l : List Bd) (hl : bdL l) : PureOk Try.prog 69 [(cSl eBd eBd_sz).enc l] (cB.enc (bvalid l)) := by
  have hn := hl.n
  refine pure_intro (wd := 1) (Q := mkQ LN0) (by decide) tysOk (q_of LN0_ok) mixed Try.func69 rfl _ (by show 1 ≤ _; decide) _ ?_
  repeat' (first | (apply And.intro <;> intro hc <;> (first | exact Bool.noConfusion hc | (simp only [decide_eq_true_eq, decide_eq_false_iff_not, Bool.not_eq_true', Bool.not_eq_false', beq_iff_eq, beq_eq_false_iff_ne, bne_iff_ne, bne_eq_false_iff_eq, Bool.true_eq_false, Bool.false_eq_true] at hc) | skip)) | (refine And.intro (by first | exact trivial | decide | omega | (dsimp only; omega) | exact fun _ _ => rfl) ?_) | (apply And.intro) | (intro s hs))
  · have e : bvalid l = false := by unfold bvalid; rw [decide_eq_false (by omega)]; rfl
    rw [e]
    exact Done.mk (leF_bool rfl)
  have e : bvalid l = bvF none l := by unfold bvalid; rw [decide_eq_true (by omega)]; rfl
  rw [e]
  refine loop_intro (mono_of LN0_ok) (fun i : {i : Nat // i ≤ l.length ∧ bvF none l = bvF (pvB l i) (l.drop i)} => (⟨[(0, one (.sl false l.length eBd.sz (rowF eBd l))), (8, one (.sl false l.length eBd.sz (rowF eBd l))), (9, one (.int .i64 (l.length : Int))), (10, one (.int .i64 (i.1 : Int)))], [], 10⟩ : Hd)) (fun i => l.length - i.1) (fun _ => rfl) ?_ ⟨0, by omega, rfl⟩ [] ?_
  · rintro ⟨i, hi, hv⟩
    dsimp only at hi hv ⊢
    have hcmp : 0 < (i : Int) → (0 ≤ IntKind.i64.wrap ((i : Int) - 1) ∧ IntKind.i64.wrap ((i : Int) - 1) < (l.length : Int)) ∧ (IntKind.i64.wrap ((i : Int) - 1)).toNat < l.length ∧ pvB l i = some (l.getD (IntKind.i64.wrap ((i : Int) - 1)).toNat default).home := fun h => by
      rw [show IntKind.i64.wrap ((i : Int) - 1) = (i : Int) - 1 from IntWalk.i64_in _ (by omega)]
      exact ⟨⟨by omega, by omega⟩, by omega, by rw [pvB, if_neg (by omega), show ((i : Int) - 1).toNat = i - 1 by omega]⟩
    have hp0 : ¬ 0 < (i : Int) → pvB l i = none := fun h => by rw [pvB, if_pos (by omega)]
    repeat' (first | (apply And.intro <;> intro hc <;> (first | exact Bool.noConfusion hc | (simp only [decide_eq_true_eq, decide_eq_false_iff_not, Bool.not_eq_true', Bool.not_eq_false', beq_iff_eq, beq_eq_false_iff_ne, bne_iff_ne, bne_eq_false_iff_eq, Bool.true_eq_false, Bool.false_eq_true] at hc) | skip)) | (refine And.intro (by first | exact trivial | decide | omega | (dsimp only; omega) | exact fun _ _ => rfl) ?_) | (apply And.intro) | (intro s hs))
    all_goals first
      | exact (hcmp (by assumption)).1.1
      | exact (hcmp (by assumption)).1.2
      | (refine Done.mk (leF_bool ?_)
         have hlt : i < l.length := by omega
         symm
         rw [hv, bv_step _ hlt, Bool.eq_false_iff]
         intro h
         simp only [Bool.and_eq_true, bdOk, Bool.not_eq_true', sq_iff] at h
         obtain ⟨⟨⟨⟨h1, h2, h2'⟩, h3⟩, h4⟩, _⟩ := h
         first
           | (have q : ipEq (l.getD i default).place (l.getD i default).home = true := by assumption
              rw [h1] at q; cases q)
           | exact h2 (by assumption)
           | exact h2' (by assumption)
           | (have q : s = vt (l.getD i default).til := hs
              have q2 : s = false := by assumption
              rw [q, h3] at q2; cases q2)
           | (have q2 : 0 < (i : Int) := by assumption
              have q : s = ipC (l.getD (IntKind.i64.wrap ((i : Int) - 1)).toNat default).home (l.getD i default).home := by rw [hs]; dsimp only; refine ipC_congr (ip_rd fun k hk => ?_) (ip_rd fun k hk => ?_) <;> exact home_cell (by omega) hk
              have q3 : 0 ≤ s := by assumption
              rw [(hcmp q2).2.2] at h4
              simp only [ordOk, decide_eq_true_eq] at h4
              omega))
      | (have hlt : i < l.length := by omega
         have b1 : ipEq (l.getD i default).place (l.getD i default).home = false := by assumption
         have b2 : sqOk (l.getD i default).seq = true := sq_iff.2 ⟨by assumption, by assumption⟩
         have b4 : ordOk (pvB l i) (l.getD i default).home = true := by
           first
             | (rw [hp0 (by assumption)]; rfl)
             | (have q2 : 0 < (i : Int) := by assumption
                have q : s = ipC (l.getD (IntKind.i64.wrap ((i : Int) - 1)).toNat default).home (l.getD i default).home := by rw [hs]; dsimp only; refine ipC_congr (ip_rd fun k hk => ?_) (ip_rd fun k hk => ?_) <;> exact home_cell (by omega) hk
                have q3 : ¬ 0 ≤ s := by assumption
                rw [(hcmp q2).2.2]
                simp only [ordOk, decide_eq_true_eq]
                omega)
         have b3 : vt (l.getD i default).til = true := by
           first
             | exact (show _ = s from hs.symm).trans (by assumption)
             | (rename Bool => sb
                rename sb = _ => hsb
                first
                  | exact (show _ = sb from (by assumption : sb = _).symm).trans (by assumption))
         refine ⟨⟨i + 1, by omega, ?_⟩, [], by dsimp only; omega, rfl, ?_, ?_⟩
         · rw [hv, bv_step _ hlt, bdOk, b1, b4, b2, b3]; rfl
         · repeat' (first | exact trivial | exact rfl | exact leF_ptr rfl | exact leF_int rfl | exact leF_bool rfl | exact leF_cl (cl_slB _ _) | exact leF_cl (cl_slR _ _) | exact leF_c (leC_os rfl rfl) | refine leF_int ?_ | refine leF_bool ?_ | exact leN_varA (fun _ _ => (Elem.flat _ _ _).le) | exact leN_varA (fun _ _ => leC_top) | apply And.intro)
           (dsimp only; rw [IntWalk.i64_in _ (by omega)]; omega)
         · repeat' (first | exact trivial | exact rfl | exact leF_ptr rfl | exact leF_int rfl | exact leF_bool rfl | exact leF_cl (cl_slB _ _) | exact leF_cl (cl_slR _ _) | exact leF_c (leC_os rfl rfl) | refine leF_int ?_ | refine leF_bool ?_ | exact leN_varA (fun _ _ => (Elem.flat _ _ _).le) | exact leN_varA (fun _ _ => leC_top) | apply And.intro))
      | (refine Done.mk (leF_bool ?_)
         have hil : i = l.length := by omega
         rw [hv, hil, List.drop_length]; rfl)
  · refine ⟨rfl, ?_, ?_⟩
    · repeat' (first | exact trivial | exact rfl | exact leF_ptr rfl | exact leF_int rfl | exact leF_bool rfl | exact leF_cl (cl_slB _ _) | exact leF_cl (cl_slR _ _) | exact leF_c (leC_os rfl rfl) | refine leF_int ?_ | refine leF_bool ?_ | exact leN_varA (fun _ _ => (Elem.flat _ _ _).le) | exact leN_varA (fun _ _ => leC_top) | apply And.intro)
    · repeat' (first | exact trivial | exact rfl | exact leF_ptr rfl | exact leF_int rfl | exact leF_bool rfl | exact leF_cl (cl_slB _ _) | exact leF_cl (cl_slR _ _) | exact leF_c (leC_os rfl rfl) | refine leF_int ?_ | refine leF_bool ?_ | exact leN_varA (fun _ _ => (Elem.flat _ _ _).le) | exact leN_varA (fun _ _ => leC_top) | apply And.intro)
end Go.Proofs.Ytcnfjifokeancaa.AX
