/- MobilityBinds, by AX2: the law returns true. -/
import Derived.Test.YtcnfjifokeancaaMbS
namespace Go.Proofs.Ytcnfjifokeancaa.AX
open Go.RowKit
set_option linter.unusedVariables false
set_option linter.unusedSimpArgs false
theorem by_place {g : Nat → CV} {a : Fin 16 → Int} (h1 : allLt 16 fun q => g (16 + q) = .int .u8 (vget a q)) (hb : byteOk a) : byteOk (eBd.rd g).place := ⟨fun q => by
  show 0 ≤ valI (g (16 + q.1)) ∧ valI (g (16 + q.1)) < 256
  rw [allLt_at h1 q.1 q.2]
  show 0 ≤ vget a q.1 ∧ vget a q.1 < 256
  rw [vget_lt _ q.2]
  exact hb.q q⟩
abbrev bgsE : Entry := tapeE (AC.cons (cI .i64) AC.nil) (fun a => 0 ≤ a.1 ∧ a.1 ≤ 1099511627776) (fun a (r : List Bd) => mkB r) (fun r => .e (.c (slR eBd r)))
abbrev homeE : Entry := tapeE (AC.cons (cSl eBd eBd_sz) AC.nil) (fun a => bdL a.1) (fun a (r : Fin 16 → Int) => byteOk r) (cE (eA .u8 16)).enc
abbrev spoilE : Entry := tapeE (AC.cons (cSl eBd eBd_sz) AC.nil) (fun a => bdL a.1 ∧ a.1.length ≤ 32) (fun a (r : List Bd) => bdL r) (fun r => .e (.c (slR eBd r)))
def LB : CsL := (32, some bgsE) :: (33, some homeE) :: (36, some spoilE) ::
  (34, some (pureE (AC.cons (cSl eBd eBd_sz) (AC.cons (cI .i64) (AC.cons (cE eBd) (AC.cons (cI .i64) AC.nil)))) (fun a => bdL a.1 ∧ (byteOk a.2.2.1.home ∧ byteOk a.2.2.1.place) ∧ (-9223372036854775808 ≤ a.2.2.2.1 ∧ a.2.2.2.1 ≤ 9223372036854775807)) (fun _ => true) cB.enc)) ::
  (25, some (pureE AC.nil (fun _ => True) (fun _ => true) cB.enc)) :: LN2
theorem LB_ok : AllOk Try.prog LB := ⟨tapeE_ok ⟨_, Try.func32, rfl, by kernel_rfl⟩ fun n l q a ht hp => bindings_ok n l q a.1 ht hp, tapeE_ok ⟨_, Try.func33, rfl, by kernel_rfl⟩ fun n l q a ht hp => home_ok' n l q a.1 ht hp, tapeE_ok ⟨_, Try.func36, rfl, by kernel_rfl⟩ fun n l q a ht hp => spoiled_ok n l q a.1 ht hp.1 hp.2,
  pureE_ok ⟨_, Try.func34, rfl, by kernel_rfl⟩ fun a h => binds_ok a.1 a.2.1 a.2.2.1 a.2.2.2.1 h.1 h.2.1 h.2.2, pureE_ok ⟨_, Try.func25, rfl, by kernel_rfl⟩ fun a _ => known36_ok, LN2_ok⟩
structure LbS (m : Nat) (l : List Int) where
  i : Nat
  q : Int
  hi : i ≤ 4
  ht : TapeOk m (rI l) q
set_option maxHeartbeats 4000000 in
set_option maxRecDepth 20000 in
theorem mbinds_ok (raw : List Bd) (n : Nat) (l : List Int) (now : Int) (b : Bd) (life : Int) (hl : rngL l) (hr : bdL raw) (hb : byteOk b.home ∧ byteOk b.place) (hlife : -9223372036854775808 ≤ life ∧ life ≤ 9223372036854775807) :
    PureOk Try.prog 7 [.e (.c (slR eBd raw)), .e (.c (.sl true n 1 (rI l))), (cI .i64).enc now, (cE eBd).enc b, (cI .i64).enc life] (.e (.c (.bool true))) := by
  refine pure_intro (wd := 1) (Q := mkQ LB) (by decide) tysOk (q_of LB_ok) mixed Try.func7 rfl _ (by show 5 ≤ _; decide) _ ?_
  repeat' (first | (apply And.intro <;> intro hc <;> (first | exact Bool.noConfusion hc | (simp only [decide_eq_true_eq, decide_eq_false_iff_not, Bool.not_eq_true', Bool.not_eq_false', beq_iff_eq, beq_eq_false_iff_ne, bne_iff_ne, bne_eq_false_iff_eq, Bool.true_eq_false, Bool.false_eq_true] at hc) | skip)) | (refine And.intro (by first | exact trivial | decide | omega | (dsimp only; omega) | exact fun _ _ => rfl | exact ⟨by assumption, by first | exact trivial | decide | omega | (dsimp only; omega)⟩) ?_) | (apply And.intro) | (intro s hs))
  · exact Done.mk (leF_bool hs)
  · exact ⟨l, rfl, hl⟩
  intro ht0
  obtain ⟨m, em⟩ : ∃ m, m = s := ⟨s, rfl⟩
  obtain ⟨q0, eq0⟩ : ∃ q0, q0 = hs := ⟨hs, rfl⟩
  subst em eq0
  repeat' (first | (apply And.intro <;> intro hc <;> (first | exact Bool.noConfusion hc | (simp only [decide_eq_true_eq, decide_eq_false_iff_not, Bool.not_eq_true', Bool.not_eq_false', beq_iff_eq, beq_eq_false_iff_ne, bne_iff_ne, bne_eq_false_iff_eq, Bool.true_eq_false, Bool.false_eq_true] at hc) | skip)) | (refine And.intro (by first | exact trivial | decide | omega | (dsimp only; omega) | exact fun _ _ => rfl | exact ⟨by assumption, by first | exact trivial | decide | omega | (dsimp only; omega)⟩) ?_) | (apply And.intro) | (intro s hs))
  rename_i base hbase q1 hq1 L hL
  have hbase' : 0 ≤ base ∧ base ≤ 1099511627776 := hbase
  refine loop_intro (mono_of LB_ok) (fun s : LbS m l => (⟨[(0, one (slR eBd raw)), (2, one (.int .i64 now)), (4, one (.int .i64 life)), (8, one (.ptr 0 0 0 false)), (11, one (.ptr 6 0 0 false)), (12, one (.int .i64 base)), (13, one (slR eBd L)), (14, one (.int .i64 (s.i : Int)))],
    [(0, some ⟨51, 1, 34, true, fun _ => eBd.cell b⟩), (6, some (tapeN m (rI l) s.q))], 16⟩ : Hd)) (fun s => 4 - s.i) (fun _ => rfl) ?_ ⟨0, s, by omega, hs⟩ [] ?_
  · rintro ⟨i, q, hi, ht⟩
    dsimp only at hi ⊢
    repeat' (first | (apply And.intro <;> intro hc <;> (first | exact Bool.noConfusion hc | (simp only [decide_eq_true_eq, decide_eq_false_iff_not, Bool.not_eq_true', Bool.not_eq_false', beq_iff_eq, beq_eq_false_iff_ne, bne_iff_ne, bne_eq_false_iff_eq, Bool.true_eq_false, Bool.false_eq_true, ne_eq, not_true_eq_false] at hc <;> first | exact absurd rfl hc | skip) | skip)) | (refine And.intro (by first | exact trivial | decide | omega | (dsimp only; omega) | exact fun _ _ => rfl | exact ⟨by assumption, by first | exact trivial | decide | omega | (dsimp only; omega)⟩) ?_) | (apply And.intro) | (intro s hs; (first | (have hs' : s = true := hs; clear hs; subst hs') | skip)))
    all_goals first
      | assumption
      | (dsimp only; rw [toL_bd]; exact hL.d)
      | (dsimp only; rw [toL_bd]; exact hr)
      | (dsimp only; rw [toL_bd]; exact bv_len hL.v)
      | (rename List Bd => R; dsimp only; rw [toL_bd]; assumption)
      | (show byteOk (eBd.rd fun q => eBd.cell b (0 + q)).home; rw [rd_bd]; exact hb.1)
      | (show byteOk (eBd.rd fun q => eBd.cell b (0 + q)).place; rw [rd_bd]; exact hb.2)
      | exact hlife.1
      | exact hlife.2
      | (dsimp only; omega)
      | exact Done.mk (leF_bool rfl)
      | (refine ⟨⟨i + 1, _, by omega, by assumption⟩, [], by dsimp only; omega, rfl, ?_, ?_⟩
         · repeat' (first | exact trivial | exact rfl | exact leF_ptr rfl | exact leF_int rfl | exact leF_bool rfl | exact leF_cl (cl_slB _ _) | exact leF_cl (cl_slR _ _) | exact leF_c (leC_os rfl rfl) | refine leF_int ?_ | refine leF_bool ?_ | exact leN_varA (fun _ _ => (Elem.flat _ _ _).le) | exact leN_varA (fun _ _ => leC_top) | apply And.intro)
           (dsimp only; rw [IntWalk.i64_in _ (by omega)]; omega)
         · repeat' (first | exact trivial | exact rfl | exact leF_ptr rfl | exact leF_int rfl | exact leF_bool rfl | exact leF_cl (cl_slB _ _) | exact leF_cl (cl_slR _ _) | exact leF_c (leC_os rfl rfl) | refine leF_int ?_ | refine leF_bool ?_ | exact leN_varA (fun _ _ => (Elem.flat _ _ _).le) | exact leN_varA (fun _ _ => leC_top) | apply And.intro)
           exact tapeN_le)
      | (rename_i r1 hr1 a1 a2 r2 hr2 a3 a4 a5 a6 a7 a8 a9 a10 a11 a12 a13 a14 a15 a16 a17 a18
         dsimp only
         first
           | (refine by_home (a := r1) ?_ hr1
              repeat' (first | exact trivial | exact rfl | apply And.intro))
           | (refine by_place (a := r2) ?_ hr2.1
              repeat' (first | exact trivial | exact rfl | apply And.intro)))
  · refine ⟨rfl, ?_, ?_⟩
    · repeat' (first | exact trivial | exact rfl | exact leF_ptr rfl | exact leF_int rfl | exact leF_bool rfl | exact leF_cl (cl_slB _ _) | exact leF_cl (cl_slR _ _) | exact leF_c (leC_os rfl rfl) | refine leF_int ?_ | refine leF_bool ?_ | exact leN_varA (fun _ _ => (Elem.flat _ _ _).le) | exact leN_varA (fun _ _ => leC_top) | apply And.intro)
    · repeat' (first | exact trivial | exact rfl | exact leF_ptr rfl | exact leF_int rfl | exact leF_bool rfl | exact leF_cl (cl_slB _ _) | exact leF_cl (cl_slR _ _) | exact leF_c (leC_os rfl rfl) | refine leF_int ?_ | refine leF_bool ?_ | exact leN_varA (fun _ _ => (Elem.flat _ _ _).le) | exact leN_varA (fun _ _ => leC_top) | apply And.intro)
      exact tapeN_le
end Go.Proofs.Ytcnfjifokeancaa.AX
