/- MetricChooses, by AX2: the law returns true. -/
import Derived.Test.YtolliidpmgncdaaNs
namespace Go.Proofs.Ytolliidpmgncdaa.AX
open Go.RowKit
set_option linter.unusedVariables false
set_option linter.unusedSimpArgs false
theorem wrap_len {l : List Opt} (h : vopts l = true) : l.length ≤ 8796093022208 := Nat.le_trans (vop_len h) (by decide)
abbrev optsE : Entry := tapeE AC.nil (fun _ => True) (fun a (r : List Opt) => vopts r = true) (fun r => .e (.c (slR eOp r)))
abbrev spoil24E : Entry := tapeE (AC.cons (cSl eOp eOp_sz) AC.nil) (fun a => a.1.length ≤ 16) (fun a (r : List Opt) => r.length ≤ 8796093022208) (fun r => .e (.c (slR eOp r)))
def LZ : CsL := (38, some optsE) :: (42, some spoil24E) ::
  (41, some (pureE (AC.cons (cI .i64) (AC.cons (cE eCh) (AC.cons (cSl eOp eOp_sz) AC.nil))) (fun a => a.2.2.1.length ≤ 8796093022208) (fun _ => true) cB.enc)) ::
  (37, some (pureE AC.nil (fun _ => True) (fun _ => true) cB.enc)) :: (39, some chE) :: LY0
theorem LZ_ok : AllOk Try.prog LZ := ⟨tapeE_ok ⟨_, Try.func38, rfl, by kernel_rfl⟩ fun n l q a ht hp => options_ok n l q ht, tapeE_ok ⟨_, Try.func42, rfl, by kernel_rfl⟩ fun n l q a ht hp => spoil24_ok n l q a.1 ht hp,
  pureE_ok ⟨_, Try.func41, rfl, by kernel_rfl⟩ fun a h => chooses_ok a.1 a.2.1 a.2.2.1 h, pureE_ok ⟨_, Try.func37, rfl, by kernel_rfl⟩ fun a _ => known24_ok, pureE_ok ⟨_, Try.func39, rfl, by kernel_rfl⟩ fun a h => choose_ok a.1 a.2.1 a.2.2.1 h, LY0_ok⟩
structure LcS (m : Nat) (l : List Int) where
  i : Nat
  q : Int
  hi : i ≤ 4
  ht : TapeOk m (rI l) q
set_option maxHeartbeats 4000000 in
set_option maxRecDepth 20000 in
theorem mchooses_ok (now : Int) (c : Cho) (raw : List Opt) (n : Nat) (l : List Int) (hl : rngL l) :
    PureOk Try.prog 12 [(cI .i64).enc now, (cE eCh).enc c, .e (.c (slR eOp raw)), .e (.c (.sl true n 1 (rI l)))] (.e (.c (.bool true))) := by
  refine pure_intro (wd := 1) (Q := mkQ LZ) (by decide) tysOk (q_of LZ_ok) mixed Try.func12 rfl _ (by show 4 ≤ _; decide) _ ?_
  repeat' (first | (apply And.intro <;> intro hc <;> (first | exact Bool.noConfusion hc | (simp only [decide_eq_true_eq, decide_eq_false_iff_not, Bool.not_eq_true', Bool.not_eq_false', beq_iff_eq, beq_eq_false_iff_ne, bne_iff_ne, bne_eq_false_iff_eq, Bool.true_eq_false, Bool.false_eq_true] at hc) | skip)) | (refine And.intro (by first | exact trivial | decide | omega | (dsimp only; omega) | exact fun _ _ => rfl | exact ⟨by assumption, by first | exact trivial | decide | omega | (dsimp only; omega)⟩) ?_) | (apply And.intro) | (intro s hs))
  · exact Done.mk (leF_bool hs)
  · exact ⟨l, rfl, hl⟩
  intro ht0
  obtain ⟨m, em⟩ : ∃ m, m = s := ⟨s, rfl⟩
  obtain ⟨q0, eq0⟩ : ∃ q0, q0 = hs := ⟨hs, rfl⟩
  subst em eq0
  repeat' (first | (apply And.intro <;> intro hc <;> (first | exact Bool.noConfusion hc | (simp only [decide_eq_true_eq, decide_eq_false_iff_not, Bool.not_eq_true', Bool.not_eq_false', beq_iff_eq, beq_eq_false_iff_ne, bne_iff_ne, bne_eq_false_iff_eq, Bool.true_eq_false, Bool.false_eq_true] at hc) | skip)) | (refine And.intro (by first | exact trivial | decide | omega | (dsimp only; omega) | exact fun _ _ => rfl | exact ⟨by assumption, by first | exact trivial | decide | omega | (dsimp only; omega)⟩) ?_) | (apply And.intro) | (intro s hs))
  rename_i base hbase q1 hq1 L hL
  have hbase' : 0 ≤ base ∧ base ≤ 1099511627776 := hbase
  have hL' : vopts L = true := hL
  have hLn := vop_len hL'
  have hrawn : raw.length ≤ 40 := by omega
  refine loop_intro (mono_of LZ_ok) (fun s : LcS m l => (⟨[(0, one (.int .i64 now)), (2, one (slR eOp raw)), (5, one (.ptr 0 0 0 false)), (9, one (.ptr 6 0 0 false)), (10, one (.int .i64 base)), (11, one (slR eOp L)), (12, one (.int .i64 (s.i : Int)))],
    [(0, some ⟨63, 1, 3, true, fun _ => eCh.cell c⟩), (6, some (tapeN m (rI l) s.q))], 15⟩ : Hd)) (fun s => 4 - s.i) (fun _ => rfl) ?_ ⟨0, s, by omega, hs⟩ [] ?_
  · rintro ⟨i, q, hi, ht⟩
    dsimp only at hi ⊢
    repeat' (first | (apply And.intro <;> intro hc <;> (first | exact Bool.noConfusion hc | (simp only [decide_eq_true_eq, decide_eq_false_iff_not, Bool.not_eq_true', Bool.not_eq_false', beq_iff_eq, beq_eq_false_iff_ne, bne_iff_ne, bne_eq_false_iff_eq, Bool.true_eq_false, Bool.false_eq_true, ne_eq, not_true_eq_false] at hc <;> first | exact absurd rfl hc | skip) | skip)) | (refine And.intro (by first | exact trivial | decide | omega | (dsimp only; omega) | exact fun _ _ => rfl | exact ⟨by assumption, by first | exact trivial | decide | omega | (dsimp only; omega)⟩) ?_) | (apply And.intro) | (intro s hs; (first | (have hs' : s = true := hs; clear hs; subst hs') | skip)))
    all_goals first
      | assumption
      | (dsimp only; rw [toL_op]; omega)
      | (rename List Opt => R; dsimp only; rw [toL_op]; assumption)
      | (dsimp only; omega)
      | exact Done.mk (leF_bool rfl)
      | (refine ⟨⟨i + 1, _, by omega, by assumption⟩, [], by dsimp only; omega, rfl, ?_, ?_⟩
         · repeat' (first | exact trivial | exact rfl | exact leF_ptr rfl | exact leF_int rfl | exact leF_bool rfl | exact leF_cl (cl_slB _ _) | exact leF_cl (cl_slR _ _) | exact leF_c (leC_os rfl rfl) | refine leF_int ?_ | refine leF_bool ?_ | exact leN_varA (fun _ _ => (Elem.flat _ _ _).le) | exact leN_varA (fun _ _ => leC_top) | apply And.intro)
           (dsimp only; rw [IntWalk.i64_in _ (by omega)]; omega)
         · repeat' (first | exact trivial | exact rfl | exact leF_ptr rfl | exact leF_int rfl | exact leF_bool rfl | exact leF_cl (cl_slB _ _) | exact leF_cl (cl_slR _ _) | exact leF_c (leC_os rfl rfl) | refine leF_int ?_ | refine leF_bool ?_ | exact leN_varA (fun _ _ => (Elem.flat _ _ _).le) | exact leN_varA (fun _ _ => leC_top) | apply And.intro)
           exact tapeN_le)
      | skip
  · refine ⟨rfl, ?_, ?_⟩
    · repeat' (first | exact trivial | exact rfl | exact leF_ptr rfl | exact leF_int rfl | exact leF_bool rfl | exact leF_cl (cl_slB _ _) | exact leF_cl (cl_slR _ _) | exact leF_c (leC_os rfl rfl) | refine leF_int ?_ | refine leF_bool ?_ | exact leN_varA (fun _ _ => (Elem.flat _ _ _).le) | exact leN_varA (fun _ _ => leC_top) | apply And.intro)
    · repeat' (first | exact trivial | exact rfl | exact leF_ptr rfl | exact leF_int rfl | exact leF_bool rfl | exact leF_cl (cl_slB _ _) | exact leF_cl (cl_slR _ _) | exact leF_c (leC_os rfl rfl) | refine leF_int ?_ | refine leF_bool ?_ | exact leN_varA (fun _ _ => (Elem.flat _ _ _).le) | exact leN_varA (fun _ _ => leC_top) | apply And.intro)
      exact tapeN_le
end Go.Proofs.Ytolliidpmgncdaa.AX
