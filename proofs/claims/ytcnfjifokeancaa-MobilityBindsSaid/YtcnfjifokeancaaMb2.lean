/- Package mobility: Place (by AX2). -/
import Derived.Test.YtcnfjifokeancaaMb
namespace Go.Proofs.Ytcnfjifokeancaa.AX
open Go.RowKit
set_option linter.unusedVariables false
set_option linter.unusedSimpArgs false
def LM1 : CsL := (52, some (pureE (AC.cons (cSl eBd eBd_sz) AC.nil) (fun a => bdL a.1) (fun a => bvalid a.1) cB.enc)) :: LM0
theorem LM1_ok : AllOk Try.prog LM1 := ⟨pureE_ok ⟨_, Try.func52, rfl, by kernel_rfl⟩ fun a h => mvalid_ok a.1 h, LM0_ok⟩
def ip0 : Fin 16 → Int := fun _ => 0
def findP (now : Int) (home : Fin 16 → Int) : List Bd → (Fin 16 → Int) × Bool
  | [] => (ip0, false)
  | b :: l => if ipEq b.home home = true ∧ now < b.til then (b.place, true) else findP now home l
def placeF (l : List Bd) (now : Int) (home : Fin 16 → Int) : (Fin 16 → Int) × Bool := if bvalid l = true ∧ vt now = true then findP now home l else (ip0, false)
def encPB (r : (Fin 16 → Int) × Bool) : FV := .tup [.agg 16 ((eA .u8 16).cell r.1), .c (.bool r.2)]
set_option maxHeartbeats 4000000 in
set_option maxRecDepth 20000 in
theorem place_ok (l : List Bd) (now : Int) (home : Fin 16 → Int) (hl : bdL l) : PureOk Try.prog 24 [(cSl eBd eBd_sz).enc l, (cI .i64).enc now, (cE (eA .u8 16)).enc home] (encPB (placeF l now home)) := by
  have hn := hl.n
  refine pure_intro (wd := 1) (Q := mkQ LM1) (by decide) tysOk (q_of LM1_ok) mixed Try.func24 rfl _ (by show 3 ≤ _; decide) _ ?_
  repeat' (first | (apply And.intro <;> intro hc <;> (first | exact Bool.noConfusion hc | (simp only [decide_eq_true_eq, decide_eq_false_iff_not, Bool.not_eq_true', Bool.not_eq_false', beq_iff_eq, beq_eq_false_iff_ne, bne_iff_ne, bne_eq_false_iff_eq, Bool.true_eq_false, Bool.false_eq_true, ne_eq, not_true_eq_false] at hc <;> first | exact absurd rfl hc | skip) | skip)) | (refine And.intro (by first | exact trivial | decide | omega | (dsimp only; omega) | exact fun _ _ => rfl | exact ⟨by assumption, by first | exact trivial | decide | omega | (dsimp only; omega)⟩) ?_) | (apply And.intro) | (intro s hs; (first | (have hs' : s = bvalid l := hs.trans (by show bvalid (toL eBd l.length (rowF eBd l)) = _; rw [toL_bd])) | (have hs' : s = vt now := hs)); clear hs; subst hs'))
  · show bdL (toL eBd l.length (rowF eBd l)); rw [toL_bd]; exact hl
  · have e : placeF l now home = (ip0, false) := by simp [placeF, *]
    rw [e]
    refine Done.mk (leF_tup ?_)
    repeat' (first | exact trivial | exact rfl | exact leC_int rfl | exact leC_bool rfl | refine leE_all ?_ | exact leC_bool (by assumption) | apply And.intro)
  · have e : placeF l now home = (ip0, false) := by simp [placeF, *]
    rw [e]
    refine Done.mk (leF_tup ?_)
    repeat' (first | exact trivial | exact rfl | exact leC_int rfl | exact leC_bool rfl | refine leE_all ?_ | exact leC_bool (by assumption) | apply And.intro)
  · have e : placeF l now home = findP now home l := by simp [placeF, *]
    rw [e]
    refine loop_intro (mono_of LM1_ok) (fun i : {i : Nat // i ≤ l.length ∧ findP now home l = findP now home (l.drop i)} => (⟨[(1, one (.int .i64 now)), (5, one (.ptr 0 0 0 false)), (6, one (.ptr 1 0 0 false)), (19, one (.sl false l.length eBd.sz (rowF eBd l))), (20, one (.int .i64 (l.length : Int))), (21, one (.int .i64 (i.1 : Int)))],
      [(0, some ⟨28, 1, 16, true, fun _ => (eA .u8 16).cell home⟩), (1, some ⟨28, 1, 16, true, fun _ _ => .top⟩)], 13⟩ : Hd)) (fun i => l.length - i.1) (fun _ => rfl) ?_ ⟨0, by omega, rfl⟩ [] ?_
    · rintro ⟨i, hi, hv⟩
      dsimp only at hi hv ⊢
      repeat' (first | (apply And.intro <;> intro hc <;> (first | exact Bool.noConfusion hc | (simp only [decide_eq_true_eq, decide_eq_false_iff_not, Bool.not_eq_true', Bool.not_eq_false', beq_iff_eq, beq_eq_false_iff_ne, bne_iff_ne, bne_eq_false_iff_eq, Bool.true_eq_false, Bool.false_eq_true] at hc) | skip)) | (refine And.intro (by first | exact trivial | decide | omega | (dsimp only; omega) | exact fun _ _ => rfl) ?_) | (apply And.intro) | (intro s hs))
      all_goals first
        | (have hlt : i < l.length := by omega
           have h1 : ipEq (l.getD i default).home home = true := by assumption
           have h2 : now < (l.getD i default).til := by assumption
           have e : findP now home l = ((l.getD i default).place, true) := by rw [hv, drop_at hlt, findP, if_pos ⟨h1, h2⟩]
           rw [e]
           refine Done.mk (leF_tup ?_)
           repeat' (first | exact trivial | exact rfl | exact leC_int rfl | exact leC_bool rfl | refine leE_all ?_ | exact leC_bool (by assumption) | apply And.intro))
        | (have hlt : i < l.length := by omega
           have h1 : ¬ (ipEq (l.getD i default).home home = true ∧ now < (l.getD i default).til) := by
             first
               | (have h1 : ipEq (l.getD i default).home home = false := by assumption
                  rw [h1]; simp)
               | (have h2 : ¬ now < (l.getD i default).til := by assumption
                  exact fun h => h2 h.2)
           refine ⟨⟨i + 1, by omega, ?_⟩, [], by dsimp only; omega, rfl, ?_, ?_⟩
           · rw [hv, drop_at hlt, findP, if_neg h1]
           · repeat' (first | exact trivial | exact rfl | exact leF_ptr rfl | exact leF_int rfl | exact leF_bool rfl | exact leF_cl (cl_slB _ _) | exact leF_cl (cl_slR _ _) | exact leF_c (leC_os rfl rfl) | refine leF_int ?_ | refine leF_bool ?_ | exact leN_varA (fun _ _ => (Elem.flat _ _ _).le) | exact leN_varA (fun _ _ => leC_top) | apply And.intro)
             (dsimp only; rw [IntWalk.i64_in _ (by omega)]; omega)
           · repeat' (first | exact trivial | exact rfl | exact leF_ptr rfl | exact leF_int rfl | exact leF_bool rfl | exact leF_cl (cl_slB _ _) | exact leF_cl (cl_slR _ _) | exact leF_c (leC_os rfl rfl) | refine leF_int ?_ | refine leF_bool ?_ | exact leN_varA (fun _ _ => (Elem.flat _ _ _).le) | exact leN_varA (fun _ _ => leC_top) | apply And.intro))
        | (have hil : i = l.length := by omega
           have e : findP now home l = (ip0, false) := by rw [hv, hil, List.drop_length]; rfl
           rw [e]
           refine Done.mk (leF_tup ?_)
           repeat' (first | exact trivial | exact rfl | exact leC_int rfl | exact leC_bool rfl | refine leE_all ?_ | exact leC_bool (by assumption) | apply And.intro))
    · refine ⟨rfl, ?_, ?_⟩
      · repeat' (first | exact trivial | exact rfl | exact leF_ptr rfl | exact leF_int rfl | exact leF_bool rfl | exact leF_cl (cl_slB _ _) | exact leF_cl (cl_slR _ _) | exact leF_c (leC_os rfl rfl) | refine leF_int ?_ | refine leF_bool ?_ | exact leN_varA (fun _ _ => (Elem.flat _ _ _).le) | exact leN_varA (fun _ _ => leC_top) | apply And.intro)
      · repeat' (first | exact trivial | exact rfl | exact leF_ptr rfl | exact leF_int rfl | exact leF_bool rfl | exact leF_cl (cl_slB _ _) | exact leF_cl (cl_slR _ _) | exact leF_c (leC_os rfl rfl) | refine leF_int ?_ | refine leF_bool ?_ | exact leN_varA (fun _ _ => (Elem.flat _ _ _).le) | exact leN_varA (fun _ _ => leC_top) | apply And.intro)
end Go.Proofs.Ytcnfjifokeancaa.AX
