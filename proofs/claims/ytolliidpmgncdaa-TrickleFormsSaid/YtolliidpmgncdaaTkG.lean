/- Layer 34 (by AX2): the makers Trickle and spoiled. -/
import Derived.Test.YtolliidpmgncdaaTkF
namespace Go.Proofs.Ytolliidpmgncdaa.AX
open Go.RowKit
set_option linter.unusedVariables false
set_option linter.unusedSimpArgs false
structure TrkS (n : Nat) (l : List Int) where
  k : Int
  x : Trk
  q : Int
  hk : 0 ≤ k ∧ k ≤ 4
  hx : validT x = true
  ht : TapeOk n (rI l) q
set_option maxHeartbeats 4000000 in
set_option maxRecDepth 20000 in
theorem trickle_ok (n : Nat) (l : List Int) (q b : Int) (ht : TapeOk n (rI l) q) (hb : 0 ≤ b ∧ b ≤ 1099511627776) :
    ∃ (r : Trk) (q' : Int), validT r = true ∧ TapeOk n (rI l) q' ∧ MethOk Try.prog 22 [(cI .i64).enc b] (tapeN n (rI l) q) ((cE eTk).enc r) (tapeN n (rI l) q') := by
  refine tape_intro (enc := (cE eTk).enc) (wd := 1) (Q := mkQ LTk) (by decide) tysOk (q_of LTk_ok) mixed Try.func22 rfl _ (by show 1 + 1 ≤ _; decide) (fun r => nff_elem eTk r) ?_
  repeat' (first | (apply And.intro <;> intro hc <;> (first | exact Bool.noConfusion hc | (simp only [decide_eq_true_eq, decide_eq_false_iff_not, Bool.not_eq_true', Bool.not_eq_false', beq_iff_eq, beq_eq_false_iff_ne, bne_iff_ne, bne_eq_false_iff_eq, Bool.true_eq_false, Bool.false_eq_true] at hc) | skip)) | (refine And.intro (by first | exact trivial | decide | omega | (dsimp only; omega) | exact fun _ _ => rfl | exact ⟨by assumption, by first | exact trivial | decide | omega | (dsimp only; omega)⟩) ?_) | (apply And.intro) | (intro s hs))
  all_goals first
    | assumption
    | exact hb.1
    | exact hb.2
    | exact (wrap_u32 _).1
    | exact (wrap_u32 _).2
    | skip
  rename_i v1 hv1 q1 hq1 v2 hv2 q2 hq2 v3 hv3 q3 hq3 v4 hv4 q4 hq4 v5 hv5 q5 hq5 s0 hs0 v6 hv6
  have hv1' : 0 ≤ v1 ∧ v1 < 9 := hv1
  have hv2' : 0 ≤ v2 ∧ v2 < 5 := hv2
  have hv3' : 0 ≤ v3 ∧ v3 < 4 := hv3
  have hv4' : 0 ≤ v4 ∧ v4 ≤ 1099511627776 := hv4
  have hv6' : 0 ≤ v6 ∧ v6 < 5 := hv6
  have hsv : validT s0.1 = true := by
    have e : s0 = newT (IntKind.i64.wrap (2 + v1)) v2 v3 v4 (IntKind.u32.wrap v5) := hs0
    rw [e, IntWalk.i64_in (2 + v1) (by omega)]
    exact new_valid (numbersB_iff.2 (by omega)) hv4'
  clear hs0
  refine loop_intro (mono_of LTk_ok) (fun s : TrkS n l => (⟨[(0, one (.ptr 0 0 0 false)), (4, one (.ptr 1 0 0 false)), (5, one (.ptr 19 0 0 false)), (7, one (.int .i64 s.k))],
    [(0, some (tapeN n (rI l) s.q)), (1, some ⟨26, 1, 8, true, fun _ => eTk.cell zeroT⟩), (19, some ⟨26, 1, 8, true, fun _ => eTk.cell s.x⟩)], 20⟩ : Hd)) (fun s => s.k.toNat) (fun _ => rfl) ?_ ⟨v6, s0.1, s, by omega, hsv, hs⟩ [] ?_
  · rintro ⟨k, x, q, hk, hx, ht⟩
    dsimp only
    have hxn := validT_num hx
    have w1 : IntKind.i64.wrap (x.start + x.len) = x.start + x.len := IntWalk.i64_in _ (by omega)
    repeat' (first | (apply And.intro <;> intro hc <;> (first | exact Bool.noConfusion hc | (simp only [decide_eq_true_eq, decide_eq_false_iff_not, Bool.not_eq_true', Bool.not_eq_false', beq_iff_eq, beq_eq_false_iff_ne, bne_iff_ne, bne_eq_false_iff_eq, Bool.true_eq_false, Bool.false_eq_true] at hc) | skip)) | (refine And.intro (by first | exact trivial | decide | omega | (dsimp only; omega) | exact fun _ _ => rfl | exact ⟨by assumption, by first | exact trivial | decide | omega | (dsimp only; omega)⟩) ?_) | (apply And.intro) | (intro s hs))
    all_goals first
      | exact (wrap_u32 _).1
      | exact (wrap_u32 _).2
      | skip
    · rename_i y1 hy1 p1 hp1 y2 hy2 p2 hp2
      have hy1' : 0 ≤ y1 ∧ y1 < 2 := hy1
      have w2 : IntKind.i64.wrap (x.start + x.len - y1) = x.start + x.len - y1 := IntWalk.i64_in _ (by omega)
      have hzv : validT s.1 = true := by
        have e : s = stepT x (if IntKind.i64.wrap (IntKind.i64.wrap (x.start + x.len) - y1) < 1099511627776 then IntKind.i64.wrap (IntKind.i64.wrap (x.start + x.len) - y1) else 1099511627776) (IntKind.u32.wrap y2) := hs
        rw [e, w1, w2]
        refine step_valid hx ?_ ?_
        · split <;> omega
        · split <;> omega
      refine ⟨⟨k - 1, s.1, p2, by omega, hzv, by assumption⟩, [], by dsimp only <;> omega, rfl, ?_, ?_⟩
      · repeat' (first | exact trivial | exact rfl | exact leF_ptr rfl | exact leF_int rfl | exact leF_bool rfl | exact leF_cl (cl_slB _ _) | exact leF_cl (cl_slR _ _) | exact leF_c (leC_os rfl rfl) | refine leF_int ?_ | refine leF_bool ?_ | exact leN_varA (fun _ _ => (Elem.flat _ _ _).le) | exact leN_varA (fun _ _ => leC_top) | apply And.intro)
        exact IntWalk.i64_in _ (by omega)
      · repeat' (first | exact trivial | exact rfl | exact leF_ptr rfl | exact leF_int rfl | exact leF_bool rfl | exact leF_cl (cl_slB _ _) | exact leF_cl (cl_slR _ _) | exact leF_c (leC_os rfl rfl) | refine leF_int ?_ | refine leF_bool ?_ | exact leN_varA (fun _ _ => (Elem.flat _ _ _).le) | exact leN_varA (fun _ _ => leC_top) | apply And.intro)
        all_goals first
          | exact tapeN_le
          | (change LeN _ _ _; refine leN_var ?_; repeat' (first | exact trivial | exact rfl | exact leC_int rfl | exact leC_bool rfl | refine leE_all ?_ | exact leC_bool (by assumption) | apply And.intro))
    · rename_i y1 hy1
      refine ⟨({ x with heard := y1 }, _), ⟨heard_valid hx hy1, by assumption⟩, ⟨leF_e (leE_all ?_), tapeN_le⟩⟩
      repeat' (first | exact trivial | exact rfl | exact leC_int rfl | exact leC_bool rfl | refine leE_all ?_ | exact leC_bool (by assumption) | apply And.intro)
  · refine ⟨rfl, ?_, ?_⟩
    · repeat' (first | exact trivial | exact rfl | exact leF_ptr rfl | exact leF_int rfl | exact leF_bool rfl | exact leF_cl (cl_slB _ _) | exact leF_cl (cl_slR _ _) | exact leF_c (leC_os rfl rfl) | refine leF_int ?_ | refine leF_bool ?_ | exact leN_varA (fun _ _ => (Elem.flat _ _ _).le) | exact leN_varA (fun _ _ => leC_top) | apply And.intro)
    · repeat' (first | exact trivial | exact rfl | exact leF_ptr rfl | exact leF_int rfl | exact leF_bool rfl | exact leF_cl (cl_slB _ _) | exact leF_cl (cl_slR _ _) | exact leF_c (leC_os rfl rfl) | refine leF_int ?_ | refine leF_bool ?_ | exact leN_varA (fun _ _ => (Elem.flat _ _ _).le) | exact leN_varA (fun _ _ => leC_top) | apply And.intro)
      · exact tapeN_le
      all_goals (change LeN _ _ _; refine leN_var ?_; repeat' (first | exact trivial | exact rfl | exact leC_int rfl | exact leC_bool rfl | refine leE_all ?_ | exact leC_bool (by assumption) | apply And.intro))
set_option maxHeartbeats 4000000 in
set_option maxRecDepth 20000 in
theorem spoil34_ok (n : Nat) (l : List Int) (q : Int) (x : Trk) (ht : TapeOk n (rI l) q) :
    ∃ (r : Trk) (q' : Int), True ∧ TapeOk n (rI l) q' ∧ MethOk Try.prog 27 [(cE eTk).enc x] (tapeN n (rI l) q) ((cE eTk).enc r) (tapeN n (rI l) q') := by
  refine tape_intro (enc := (cE eTk).enc) (wd := 1) (Q := mkQ LTk) (by decide) tysOk (q_of LTk_ok) mixed Try.func27 rfl _ (by show 1 + 1 ≤ _; decide) (fun r => nff_elem eTk r) ?_
  repeat' (first | (apply And.intro <;> intro hc <;> (first | exact Bool.noConfusion hc | (simp only [decide_eq_true_eq, decide_eq_false_iff_not, Bool.not_eq_true', Bool.not_eq_false', beq_iff_eq, beq_eq_false_iff_ne, bne_iff_ne, bne_eq_false_iff_eq, Bool.true_eq_false, Bool.false_eq_true] at hc) | skip)) | (refine And.intro (by first | exact trivial | decide | omega | (dsimp only; omega) | exact fun _ _ => rfl | exact ⟨by assumption, by first | exact trivial | decide | omega | (dsimp only; omega)⟩) ?_) | (apply And.intro) | (intro s hs))
  all_goals refine ⟨(eTk.rd _, _), ⟨trivial, by assumption⟩, ⟨leF_e (leE_rd (E := eTk) ?_), tapeN_le⟩⟩
  all_goals rfl
abbrev trickleE : Entry := tapeE (AC.cons (cI .i64) AC.nil) (fun a => 0 ≤ a.1 ∧ a.1 ≤ 1099511627776) (fun a (r : Trk) => validT r = true) (cE eTk).enc
abbrev spoil34E : Entry := tapeE TAC (fun _ => True) (fun a (r : Trk) => True) (cE eTk).enc
abbrev alikeE : Entry := pureE T3 (fun a => drawOk a.2.2.1) (fun _ => true) cB.enc
def LTg : CsL := (22, some trickleE) :: (27, some spoil34E) :: (25, some alikeE) ::
  (18, some (pureE AC.nil (fun _ => True) (fun _ => true) cB.enc)) :: LTk
theorem LTg_ok : AllOk Try.prog LTg := ⟨tapeE_ok ⟨_, Try.func22, rfl, by kernel_rfl⟩ fun n l q a ht hp => trickle_ok n l q a.1 ht hp, tapeE_ok ⟨_, Try.func27, rfl, by kernel_rfl⟩ fun n l q a ht hp => spoil34_ok n l q a.1 ht,
  pureE_ok ⟨_, Try.func25, rfl, by kernel_rfl⟩ fun a h => alike_ok _ _ _ h, pureE_ok ⟨_, Try.func18, rfl, by kernel_rfl⟩ fun a h => known34_ok, LTk_ok⟩
end Go.Proofs.Ytolliidpmgncdaa.AX
