/- TrickleForms, by AX2: the law returns true. -/
import Derived.Test.YtolliidpmgncdaaTkG
namespace Go.Proofs.Ytolliidpmgncdaa.AX
open Go.RowKit
set_option linter.unusedVariables false
set_option linter.unusedSimpArgs false
structure TfS (m : Nat) (l : List Int) where
  i : Nat
  q : Int
  hi : i ≤ 4
  ht : TapeOk m (rI l) q
set_option maxHeartbeats 8000000 in
set_option maxRecDepth 20000 in
theorem tforms_ok (raw : Trk) (n : Nat) (l : List Int) (now mn dbl red draw : Int) (hl : rngL l) (hd : drawOk draw) :
    PureOk Try.prog 6 [(cE eTk).enc raw, .e (.c (.sl true n 1 (rI l))), (cI .i64).enc now, (cI .i64).enc mn, (cI .i64).enc dbl, (cI .i64).enc red, (cI .u32).enc draw] (.e (.c (.bool true))) := by
  refine pure_intro (wd := 1) (Q := mkQ LTg) (by decide) tysOk (q_of LTg_ok) mixed Try.func6 rfl _ (by show 7 ≤ _; decide) _ ?_
  repeat' (first | (apply And.intro <;> intro hc <;> (first | exact Bool.noConfusion hc | (simp only [decide_eq_true_eq, decide_eq_false_iff_not, Bool.not_eq_true', Bool.not_eq_false', beq_iff_eq, beq_eq_false_iff_ne, bne_iff_ne, bne_eq_false_iff_eq, Bool.true_eq_false, Bool.false_eq_true] at hc) | skip)) | (refine And.intro (by first | exact trivial | decide | omega | (dsimp only; omega) | exact fun _ _ => rfl | exact ⟨by assumption, by first | exact trivial | decide | omega | (dsimp only; omega)⟩) ?_) | (apply And.intro) | (intro s hs))
  · exact ⟨l, rfl, hl⟩
  intro ht0
  obtain ⟨m, em⟩ : ∃ m, m = s := ⟨s, rfl⟩
  obtain ⟨q0, eq0⟩ : ∃ q0, q0 = hs := ⟨hs, rfl⟩
  subst em eq0
  repeat' (first | (apply And.intro <;> intro hc <;> (first | exact Bool.noConfusion hc | (simp only [decide_eq_true_eq, decide_eq_false_iff_not, Bool.not_eq_true', Bool.not_eq_false', beq_iff_eq, beq_eq_false_iff_ne, bne_iff_ne, bne_eq_false_iff_eq, Bool.true_eq_false, Bool.false_eq_true] at hc) | skip)) | (refine And.intro (by first | exact trivial | decide | omega | (dsimp only; omega) | exact fun _ _ => rfl | exact ⟨by assumption, by first | exact trivial | decide | omega | (dsimp only; omega)⟩) ?_) | (apply And.intro) | (intro s hs))
  all_goals first
    | assumption
    | skip
  rename_i base hbase q1 hq1 x hx q2 hq2
  have hbase' : 0 ≤ base ∧ base ≤ 1099511627776 := hbase
  have hxv : validT x = true := hx
  have hxn := validT_num hxv
  have es : s = modF mn 5000 := hs
  clear hs
  subst es
  refine loop_intro (mono_of LTg_ok) (fun i : {i : Nat // i ≤ 2} => (⟨[(2, one (.int .i64 now)), (4, one (.int .i64 dbl)), (5, one (.int .i64 red)), (6, one (.int .u32 draw)), (7, one (.ptr 0 0 0 false)), (15, one (.ptr 3 0 0 false)), (16, one (.int .i64 base)), (17, one (.ptr 11 0 0 false)), (39, one (.os 16 0 2)), (40, one (.int .i64 2)), (41, one (.int .i64 (i.1 : Int)))],
    [(0, some ⟨26, 1, 8, true, fun _ => eTk.cell raw⟩), (3, some (tapeN m (rI l) q2)), (11, some ⟨26, 1, 8, true, fun _ => eTk.cell x⟩), (16, some (ents (eI .i64) 3 [mn, modF mn 5000]))], 19⟩ : Hd)) (fun i => 2 - i.1) (fun _ => rfl) ?_ ⟨0, by omega⟩ [] ?_
  · rintro ⟨i, hi⟩
    dsimp only at hi ⊢
    rcases (show i = 0 ∨ i = 1 ∨ i = 2 by omega) with rfl | rfl | rfl
    · obtain ⟨a, ea⟩ : ∃ a, newT mn (IntKind.i64.wrap (modF dbl 19 - 1)) (IntKind.i64.wrap (modF red 67 - 1)) base draw = a := ⟨_, rfl⟩
      obtain ⟨c, ec⟩ : ∃ c, newT mn dbl red now draw = c := ⟨_, rfl⟩
      have v1 : a.2 = 0 → validT a.1 = true := by rw [← ea]; exact new_valid'
      obtain ⟨va, eva⟩ : ∃ v, validT a.1 = v := ⟨_, rfl⟩
      obtain ⟨dm, edm⟩ : ∃ v, modF dbl 19 = v := ⟨_, rfl⟩
      obtain ⟨rm, erm⟩ : ∃ v, modF red 67 = v := ⟨_, rfl⟩
      rw [edm, erm] at ea
      rw [eva] at v1
      repeat' (first | (apply And.intro <;> intro hc <;> (first | exact Bool.noConfusion hc | (exfalso; first | exact no8 hc | exact hc rfl | omega | (have := v1 (by assumption); simp [this] at hc; done)) | (simp only [decide_eq_true_eq, decide_eq_false_iff_not, Bool.not_eq_true', Bool.not_eq_false', beq_iff_eq, beq_eq_false_iff_ne, bne_iff_ne, bne_eq_false_iff_eq, Bool.true_eq_false, Bool.false_eq_true, ne_eq, not_true_eq_false] at hc <;> first | exact absurd rfl hc | (exfalso; first | exact no8 hc | exact hc rfl | omega | (have := v1 (by assumption); simp [this] at hc; done)) | skip) | skip)) | (refine And.intro (by first | exact trivial | decide | omega | (dsimp only; omega) | exact fun _ _ => rfl | exact ⟨by assumption, by first | exact trivial | decide | omega | (dsimp only; omega)⟩) ?_) | (apply And.intro) | (intro s hs; (first | (have hs' := hs.trans ea; clear hs; subst hs') | (have hs' := hs.trans ec; clear hs; subst hs') | (have hs' := hs.trans edm; clear hs; subst hs') | (have hs' := hs.trans erm; clear hs; subst hs') | (have hs' := hs.trans eva; clear hs; subst hs') | skip)))
      all_goals first
        | exact (by decide : (1 : Nat) ≤ 2)
        | exact hd.1
        | exact hd.2
        | (refine ⟨⟨0 + 1, by omega⟩, [], by dsimp only <;> omega, rfl, ?_, ?_⟩
           · repeat' (first | exact trivial | exact rfl | exact leF_ptr rfl | exact leF_int rfl | exact leF_bool rfl | exact leF_cl (cl_slB _ _) | exact leF_cl (cl_slR _ _) | exact leF_c (leC_os rfl rfl) | refine leF_int ?_ | refine leF_bool ?_ | exact leN_varA (fun _ _ => (Elem.flat _ _ _).le) | exact leN_varA (fun _ _ => leC_top) | apply And.intro)
           · repeat' (first | exact trivial | exact rfl | exact leF_ptr rfl | exact leF_int rfl | exact leF_bool rfl | exact leF_cl (cl_slB _ _) | exact leF_cl (cl_slR _ _) | exact leF_c (leC_os rfl rfl) | refine leF_int ?_ | refine leF_bool ?_ | exact leN_varA (fun _ _ => (Elem.flat _ _ _).le) | exact leN_varA (fun _ _ => leC_top) | apply And.intro)
             all_goals first
               | exact tapeN_le
               | exact leN_ents)
        | skip
    · obtain ⟨a, ea⟩ : ∃ a, newT (modF mn 5000) (IntKind.i64.wrap (modF dbl 19 - 1)) (IntKind.i64.wrap (modF red 67 - 1)) base draw = a := ⟨_, rfl⟩
      obtain ⟨c, ec⟩ : ∃ c, newT (modF mn 5000) dbl red now draw = c := ⟨_, rfl⟩
      have v1 : a.2 = 0 → validT a.1 = true := by rw [← ea]; exact new_valid'
      obtain ⟨va, eva⟩ : ∃ v, validT a.1 = v := ⟨_, rfl⟩
      obtain ⟨dm, edm⟩ : ∃ v, modF dbl 19 = v := ⟨_, rfl⟩
      obtain ⟨rm, erm⟩ : ∃ v, modF red 67 = v := ⟨_, rfl⟩
      rw [edm, erm] at ea
      rw [eva] at v1
      repeat' (first | (apply And.intro <;> intro hc <;> (first | exact Bool.noConfusion hc | (exfalso; first | exact no8 hc | exact hc rfl | omega | (have := v1 (by assumption); simp [this] at hc; done)) | (simp only [decide_eq_true_eq, decide_eq_false_iff_not, Bool.not_eq_true', Bool.not_eq_false', beq_iff_eq, beq_eq_false_iff_ne, bne_iff_ne, bne_eq_false_iff_eq, Bool.true_eq_false, Bool.false_eq_true, ne_eq, not_true_eq_false] at hc <;> first | exact absurd rfl hc | (exfalso; first | exact no8 hc | exact hc rfl | omega | (have := v1 (by assumption); simp [this] at hc; done)) | skip) | skip)) | (refine And.intro (by first | exact trivial | decide | omega | (dsimp only; omega) | exact fun _ _ => rfl | exact ⟨by assumption, by first | exact trivial | decide | omega | (dsimp only; omega)⟩) ?_) | (apply And.intro) | (intro s hs; (first | (have hs' := hs.trans ea; clear hs; subst hs') | (have hs' := hs.trans ec; clear hs; subst hs') | (have hs' := hs.trans edm; clear hs; subst hs') | (have hs' := hs.trans erm; clear hs; subst hs') | (have hs' := hs.trans eva; clear hs; subst hs') | skip)))
      all_goals first
        | exact (by decide : (2 : Nat) ≤ 2)
        | exact hd.1
        | exact hd.2
        | (refine ⟨⟨1 + 1, by omega⟩, [], by dsimp only <;> omega, rfl, ?_, ?_⟩
           · repeat' (first | exact trivial | exact rfl | exact leF_ptr rfl | exact leF_int rfl | exact leF_bool rfl | exact leF_cl (cl_slB _ _) | exact leF_cl (cl_slR _ _) | exact leF_c (leC_os rfl rfl) | refine leF_int ?_ | refine leF_bool ?_ | exact leN_varA (fun _ _ => (Elem.flat _ _ _).le) | exact leN_varA (fun _ _ => leC_top) | apply And.intro)
           · repeat' (first | exact trivial | exact rfl | exact leF_ptr rfl | exact leF_int rfl | exact leF_bool rfl | exact leF_cl (cl_slB _ _) | exact leF_cl (cl_slR _ _) | exact leF_c (leC_os rfl rfl) | refine leF_int ?_ | refine leF_bool ?_ | exact leN_varA (fun _ _ => (Elem.flat _ _ _).le) | exact leN_varA (fun _ _ => leC_top) | apply And.intro)
             all_goals first
               | exact tapeN_le
               | exact leN_ents)
        | skip
    · repeat' (first | (apply And.intro <;> intro hc <;> (first | exact Bool.noConfusion hc | (simp only [decide_eq_true_eq, decide_eq_false_iff_not, Bool.not_eq_true', Bool.not_eq_false', beq_iff_eq, beq_eq_false_iff_ne, bne_iff_ne, bne_eq_false_iff_eq, Bool.true_eq_false, Bool.false_eq_true, ne_eq, not_true_eq_false] at hc <;> first | exact absurd rfl hc | skip) | skip)) | (refine And.intro (by first | exact trivial | decide | omega | (dsimp only; omega) | exact fun _ _ => rfl | exact ⟨by assumption, by first | exact trivial | decide | omega | (dsimp only; omega)⟩) ?_) | (apply And.intro) | (intro s hs; (first | (have hs' : s = true := hs; clear hs; subst hs') | skip)))
      all_goals first
        | (exfalso; omega)
        | skip
      refine loop_intro (mono_of LTg_ok) (fun s : TfS m l => (⟨[(2, one (.int .i64 now)), (6, one (.int .u32 draw)), (7, one (.ptr 0 0 0 false)), (15, one (.ptr 3 0 0 false)), (16, one (.int .i64 base)), (17, one (.ptr 11 0 0 false)), (28, one (.int .i64 (s.i : Int)))],
        [(0, some ⟨26, 1, 8, true, fun _ => eTk.cell raw⟩), (3, some (tapeN m (rI l) s.q)), (11, some ⟨26, 1, 8, true, fun _ => eTk.cell x⟩)], 19⟩ : Hd)) (fun s => 4 - s.i) (fun _ => rfl) ?_ ⟨0, q2, by omega, hq2⟩ [] ?_
      · rintro ⟨i, q, hi, ht⟩
        dsimp only at hi ⊢
        have w1 : IntKind.i64.wrap (x.len + 3) = x.len + 3 := IntWalk.i64_in _ (by omega)
        have w2 : 1 ≤ IntKind.i64.wrap (x.len + 3) ∧ IntKind.i64.wrap (x.len + 3) ≤ 4611686018427387904 := by rw [w1]; omega
        repeat' (first | (apply And.intro <;> intro hc <;> (first | exact Bool.noConfusion hc | (simp only [decide_eq_true_eq, decide_eq_false_iff_not, Bool.not_eq_true', Bool.not_eq_false', beq_iff_eq, beq_eq_false_iff_ne, bne_iff_ne, bne_eq_false_iff_eq, Bool.true_eq_false, Bool.false_eq_true, ne_eq, not_true_eq_false] at hc <;> first | exact absurd rfl hc | skip) | skip)) | (refine And.intro (by first | exact trivial | decide | omega | (dsimp only; omega) | exact fun _ _ => rfl | exact ⟨by assumption, by first | exact trivial | decide | omega | (dsimp only; omega)⟩) ?_) | (apply And.intro) | (intro s hs; (first | (have hs' : s = true := hs; clear hs; subst hs') | skip)))
        all_goals first
          | assumption
          | exact w2.1
          | exact w2.2
          | exact hd.1
          | exact hd.2
          | exact hbase'.1
          | exact hbase'.2
          | exact Done.mk (leF_bool rfl)
          | (refine ⟨⟨i + 1, _, by omega, by assumption⟩, [], by dsimp only <;> omega, rfl, ?_, ?_⟩
             · repeat' (first | exact trivial | exact rfl | exact leF_ptr rfl | exact leF_int rfl | exact leF_bool rfl | exact leF_cl (cl_slB _ _) | exact leF_cl (cl_slR _ _) | exact leF_c (leC_os rfl rfl) | refine leF_int ?_ | refine leF_bool ?_ | exact leN_varA (fun _ _ => (Elem.flat _ _ _).le) | exact leN_varA (fun _ _ => leC_top) | apply And.intro)
               (dsimp only; rw [IntWalk.i64_in _ (by omega)]; omega)
             · repeat' (first | exact trivial | exact rfl | exact leF_ptr rfl | exact leF_int rfl | exact leF_bool rfl | exact leF_cl (cl_slB _ _) | exact leF_cl (cl_slR _ _) | exact leF_c (leC_os rfl rfl) | refine leF_int ?_ | refine leF_bool ?_ | exact leN_varA (fun _ _ => (Elem.flat _ _ _).le) | exact leN_varA (fun _ _ => leC_top) | apply And.intro)
               all_goals exact tapeN_le)
          | skip
      · refine ⟨rfl, ?_, ?_⟩
        · repeat' (first | exact trivial | exact rfl | exact leF_ptr rfl | exact leF_int rfl | exact leF_bool rfl | exact leF_cl (cl_slB _ _) | exact leF_cl (cl_slR _ _) | exact leF_c (leC_os rfl rfl) | refine leF_int ?_ | refine leF_bool ?_ | exact leN_varA (fun _ _ => (Elem.flat _ _ _).le) | exact leN_varA (fun _ _ => leC_top) | apply And.intro)
        · repeat' (first | exact trivial | exact rfl | exact leF_ptr rfl | exact leF_int rfl | exact leF_bool rfl | exact leF_cl (cl_slB _ _) | exact leF_cl (cl_slR _ _) | exact leF_c (leC_os rfl rfl) | refine leF_int ?_ | refine leF_bool ?_ | exact leN_varA (fun _ _ => (Elem.flat _ _ _).le) | exact leN_varA (fun _ _ => leC_top) | apply And.intro)
          all_goals exact tapeN_le
  · refine ⟨rfl, ?_, ?_⟩
    · repeat' (first | exact trivial | exact rfl | exact leF_ptr rfl | exact leF_int rfl | exact leF_bool rfl | exact leF_cl (cl_slB _ _) | exact leF_cl (cl_slR _ _) | exact leF_c (leC_os rfl rfl) | refine leF_int ?_ | refine leF_bool ?_ | exact leN_varA (fun _ _ => (Elem.flat _ _ _).le) | exact leN_varA (fun _ _ => leC_top) | apply And.intro)
    · repeat' (first | exact trivial | exact rfl | exact leF_ptr rfl | exact leF_int rfl | exact leF_bool rfl | exact leF_cl (cl_slB _ _) | exact leF_cl (cl_slR _ _) | exact leF_c (leC_os rfl rfl) | refine leF_int ?_ | refine leF_bool ?_ | exact leN_varA (fun _ _ => (Elem.flat _ _ _).le) | exact leN_varA (fun _ _ => leC_top) | apply And.intro)
      all_goals first
        | exact tapeN_le
        | (change LeN _ _ _; refine leN_row rfl fun i hi j hj => ?_
           have hi' : i < 2 := hi
           have hj' : j < 1 := hj
           obtain rfl : j = 0 := by omega
           rcases (show i = 0 ∨ i = 1 by omega) with rfl | rfl
           · exact leC_int rfl
           · exact leC_int rfl)
        | (change LeN _ _ _; refine leN_var ?_; repeat' (first | exact trivial | exact rfl | exact leC_int rfl | exact leC_bool rfl | refine leE_all ?_ | exact leC_bool (by assumption) | apply And.intro))
end Go.Proofs.Ytolliidpmgncdaa.AX
