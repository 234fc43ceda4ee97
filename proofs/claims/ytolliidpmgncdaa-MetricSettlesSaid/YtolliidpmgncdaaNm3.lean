/- The reference of layer 24: Choose (by AX2). -/
import Derived.Test.YtolliidpmgncdaaNm2
namespace Go.Proofs.Ytolliidpmgncdaa.AX
open Go.RowKit
set_option linter.unusedVariables false
set_option linter.unusedSimpArgs false
set_option maxHeartbeats 8000000 in
set_option maxRecDepth 20000 in
theorem rchoose_ok (now : Int) (old : Cho) (l : List Opt) (hn : l.length ≤ 8796093022208) : PureOk Try.prog 57 [(cI .i64).enc now, (cE eCh).enc old, (cSl eOp eOp_sz).enc l] (encCE (chooseF now old l)) := by
  refine pure_intro (wd := 1) (Q := mkQ LX1) (by decide) tysOk (q_of LX1_ok) mixed Try.func57 rfl _ (by show 3 ≤ _; decide) _ ?_
  repeat' (first | (apply And.intro <;> intro hc <;> (first | exact Bool.noConfusion hc | (simp only [decide_eq_true_eq, decide_eq_false_iff_not, Bool.not_eq_true', Bool.not_eq_false', beq_iff_eq, beq_eq_false_iff_ne, bne_iff_ne, bne_eq_false_iff_eq, Bool.true_eq_false, Bool.false_eq_true, ne_eq, not_true_eq_false] at hc <;> first | exact absurd rfl hc | skip) | skip)) | (refine And.intro (by first | exact trivial | decide | omega | (dsimp only; omega) | exact fun _ _ => rfl | exact ⟨by assumption, by first | exact trivial | decide | omega | (dsimp only; omega)⟩) ?_) | (apply And.intro) | (intro s hs; (first | (have hs' : s = vopts l := hs.trans (by show vopts (toL eOp l.length (rowF eOp l)) = _; rw [toL_op])) | (have hs' : s = vchoice old := hs) | (have hs' : s = vt now := hs)); clear hs; subst hs'))
  all_goals first
    | (show (toL eOp l.length (rowF eOp l)).length ≤ _; rw [toL_op]; exact hn)
    | (have e : chooseF now old l = (default, 1) := by simp [chooseF, *]
       rw [e]
       refine Done.mk (leF_tup ?_)
       repeat' (first | exact trivial | exact rfl | exact leC_int rfl | exact leC_bool rfl | refine leE_all ?_ | exact leC_bool (by assumption) | apply And.intro))
    | (have e : chooseF now old l = (default, 2) := by simp [chooseF, *]
       rw [e]
       refine Done.mk (leF_tup ?_)
       repeat' (first | exact trivial | exact rfl | exact leC_int rfl | exact leC_bool rfl | refine leE_all ?_ | exact leC_bool (by assumption) | apply And.intro))
    | skip
  have h1 : vchoice old = true := by assumption
  have h2 : vopts l = true := by assumption
  have h3 : vt now = true := by assumption
  have e : chooseF now old l = (pickF now old (cfold old.nb l).1 (cfold old.nb l).2, 0) := by rw [chooseF, if_pos ⟨h1, h2⟩, if_pos h3]
  rw [e]
  have hm := vop_mem h2
  have hlen := vop_len h2
  have hbt := ch_bt h1
  have hnow := vt_rng.1 h3
  clear h1 h2 h3 e
  refine loop_intro (mono_of LX1_ok) (fun s : ChS l old.nb => (⟨[(0, one (.int .i64 now)), (4, one (.ptr 0 0 0 false)), (6, one (.ptr 1 0 0 false)), (8, one (.ptr 15 0 0 false)), (9, one (.ptr 18 0 0 false)), (27, one (.sl false l.length eOp.sz (rowF eOp l))), (28, one (.int .i64 (l.length : Int))), (29, one (.int .i64 (s.i : Int)))],
    [(0, some ⟨63, 1, 3, true, fun _ => eCh.cell old⟩), (1, some ⟨63, 1, 3, true, fun _ _ => .top⟩), (15, some ⟨63, 1, 3, true, fun _ => eCh.cell ⟨s.b.nb, s.b.cost, -1⟩⟩), (18, some ⟨63, 1, 3, true, fun _ => eCh.cell ⟨s.c.nb, s.c.cost, -1⟩⟩)], 23⟩ : Hd)) (fun s => l.length - s.i) (fun _ => rfl) ?_ ⟨0, n0, n0, by omega, rfl, by simp [n0], by simp [n0], by simp [n0]⟩ [] ?_
  · rintro ⟨i, b, c, hi, hv, hb, hc0, hz⟩
    dsimp only at hi hv hb hc0 hz ⊢
    have w1 : IntKind.i64.wrap (c.cost - b.cost) = c.cost - b.cost := IntWalk.i64_in _ (by omega)
    have w2 : IntKind.i64.wrap (old.bt + 6) = old.bt + 6 := IntWalk.i64_in _ (by omega)
    have hstep : (i : Int) < l.length → ∀ b' c', b' = (if (l.getD i default).cost < b.cost then l.getD i default else b) → c' = (if (l.getD i default).cost < 65535 ∧ (l.getD i default).nb = old.nb then l.getD i default else c) → cfold old.nb l = (l.drop (i + 1)).foldl (cstep old.nb) (b', c') := fun hlt b' c' e1 e2 => by
      rw [hv, drop_at (by omega), List.foldl_cons, e1, e2]; rfl
    have hel : (i : Int) < l.length → (l.getD i default).nb ≠ 0 ∧ 0 ≤ (l.getD i default).cost ∧ (l.getD i default).cost ≤ 65535 := fun h => hm _ (memO (by omega))
    have hend : ¬ (i : Int) < l.length → cfold old.nb l = (b, c) := fun h => by
      rw [hv, List.drop_eq_nil_of_le (by omega)]; rfl
    repeat' (first | (apply And.intro <;> intro hc <;> (first | exact Bool.noConfusion hc | (simp only [decide_eq_true_eq, decide_eq_false_iff_not, Bool.not_eq_true', Bool.not_eq_false', beq_iff_eq, beq_eq_false_iff_ne, bne_iff_ne, bne_eq_false_iff_eq, Bool.true_eq_false, Bool.false_eq_true] at hc) | skip)) | (refine And.intro (by first | exact trivial | decide | omega | (dsimp only; omega) | exact fun _ _ => rfl) ?_) | (apply And.intro) | (intro s hs))
    all_goals first
      | (have hlt : (i : Int) < l.length := by assumption
         have hE := hel hlt
         first
           | (have g1 : (l.getD i default).cost < b.cost := by assumption
              first
                | (have g2 : (l.getD i default).cost < 65535 := by assumption
                   have g3 : (l.getD i default).nb = old.nb := by assumption
                   refine ⟨⟨i + 1, l.getD i default, l.getD i default, by omega, hstep hlt _ _ (if_pos g1).symm (if_pos ⟨g2, g3⟩).symm, ⟨by omega, by omega⟩, ⟨by omega, by omega⟩, fun h => absurd h hE.1⟩, [], by dsimp only; omega, rfl, ?_, ?_⟩
                   · repeat' (first | exact trivial | exact rfl | exact leF_ptr rfl | exact leF_int rfl | exact leF_bool rfl | exact leF_cl (cl_slB _ _) | exact leF_cl (cl_slR _ _) | exact leF_c (leC_os rfl rfl) | refine leF_int ?_ | refine leF_bool ?_ | exact leN_varA (fun _ _ => (Elem.flat _ _ _).le) | exact leN_varA (fun _ _ => leC_top) | apply And.intro)
                     (dsimp only; rw [IntWalk.i64_in _ (by omega)]; omega)
                   · repeat' (first | exact trivial | exact rfl | exact leF_ptr rfl | exact leF_int rfl | exact leF_bool rfl | exact leF_cl (cl_slB _ _) | exact leF_cl (cl_slR _ _) | exact leF_c (leC_os rfl rfl) | refine leF_int ?_ | refine leF_bool ?_ | exact leN_varA (fun _ _ => (Elem.flat _ _ _).le) | exact leN_varA (fun _ _ => leC_top) | apply And.intro)
                     all_goals (refine leN_var ?_; repeat' (first | exact trivial | exact rfl | exact leC_int rfl | exact leC_bool rfl | refine leE_all ?_ | exact leC_bool (by assumption) | apply And.intro)))
                | (have g2 : ¬ ((l.getD i default).cost < 65535 ∧ (l.getD i default).nb = old.nb) := by
                     first
                       | (have g2 : ¬ (l.getD i default).cost < 65535 := by assumption
                          exact fun h => g2 h.1)
                       | (have g3 : ¬ (l.getD i default).nb = old.nb := by assumption
                          exact fun h => g3 h.2)
                   refine ⟨⟨i + 1, l.getD i default, c, by omega, hstep hlt _ _ (if_pos g1).symm (if_neg g2).symm, ⟨by omega, by omega⟩, hc0, hz⟩, [], by dsimp only; omega, rfl, ?_, ?_⟩
                   · repeat' (first | exact trivial | exact rfl | exact leF_ptr rfl | exact leF_int rfl | exact leF_bool rfl | exact leF_cl (cl_slB _ _) | exact leF_cl (cl_slR _ _) | exact leF_c (leC_os rfl rfl) | refine leF_int ?_ | refine leF_bool ?_ | exact leN_varA (fun _ _ => (Elem.flat _ _ _).le) | exact leN_varA (fun _ _ => leC_top) | apply And.intro)
                     (dsimp only; rw [IntWalk.i64_in _ (by omega)]; omega)
                   · repeat' (first | exact trivial | exact rfl | exact leF_ptr rfl | exact leF_int rfl | exact leF_bool rfl | exact leF_cl (cl_slB _ _) | exact leF_cl (cl_slR _ _) | exact leF_c (leC_os rfl rfl) | refine leF_int ?_ | refine leF_bool ?_ | exact leN_varA (fun _ _ => (Elem.flat _ _ _).le) | exact leN_varA (fun _ _ => leC_top) | apply And.intro)
                     all_goals (refine leN_var ?_; repeat' (first | exact trivial | exact rfl | exact leC_int rfl | exact leC_bool rfl | refine leE_all ?_ | exact leC_bool (by assumption) | apply And.intro))))
           | (have g1 : ¬ (l.getD i default).cost < b.cost := by assumption
              first
                | (have g2 : (l.getD i default).cost < 65535 := by assumption
                   have g3 : (l.getD i default).nb = old.nb := by assumption
                   refine ⟨⟨i + 1, b, l.getD i default, by omega, hstep hlt _ _ (if_neg g1).symm (if_pos ⟨g2, g3⟩).symm, hb, ⟨by omega, by omega⟩, fun h => absurd h hE.1⟩, [], by dsimp only; omega, rfl, ?_, ?_⟩
                   · repeat' (first | exact trivial | exact rfl | exact leF_ptr rfl | exact leF_int rfl | exact leF_bool rfl | exact leF_cl (cl_slB _ _) | exact leF_cl (cl_slR _ _) | exact leF_c (leC_os rfl rfl) | refine leF_int ?_ | refine leF_bool ?_ | exact leN_varA (fun _ _ => (Elem.flat _ _ _).le) | exact leN_varA (fun _ _ => leC_top) | apply And.intro)
                     (dsimp only; rw [IntWalk.i64_in _ (by omega)]; omega)
                   · repeat' (first | exact trivial | exact rfl | exact leF_ptr rfl | exact leF_int rfl | exact leF_bool rfl | exact leF_cl (cl_slB _ _) | exact leF_cl (cl_slR _ _) | exact leF_c (leC_os rfl rfl) | refine leF_int ?_ | refine leF_bool ?_ | exact leN_varA (fun _ _ => (Elem.flat _ _ _).le) | exact leN_varA (fun _ _ => leC_top) | apply And.intro)
                     all_goals (refine leN_var ?_; repeat' (first | exact trivial | exact rfl | exact leC_int rfl | exact leC_bool rfl | refine leE_all ?_ | exact leC_bool (by assumption) | apply And.intro)))
                | (have g2 : ¬ ((l.getD i default).cost < 65535 ∧ (l.getD i default).nb = old.nb) := by
                     first
                       | (have g2 : ¬ (l.getD i default).cost < 65535 := by assumption
                          exact fun h => g2 h.1)
                       | (have g3 : ¬ (l.getD i default).nb = old.nb := by assumption
                          exact fun h => g3 h.2)
                   refine ⟨⟨i + 1, b, c, by omega, hstep hlt _ _ (if_neg g1).symm (if_neg g2).symm, hb, hc0, hz⟩, [], by dsimp only; omega, rfl, ?_, ?_⟩
                   · repeat' (first | exact trivial | exact rfl | exact leF_ptr rfl | exact leF_int rfl | exact leF_bool rfl | exact leF_cl (cl_slB _ _) | exact leF_cl (cl_slR _ _) | exact leF_c (leC_os rfl rfl) | refine leF_int ?_ | refine leF_bool ?_ | exact leN_varA (fun _ _ => (Elem.flat _ _ _).le) | exact leN_varA (fun _ _ => leC_top) | apply And.intro)
                     (dsimp only; rw [IntWalk.i64_in _ (by omega)]; omega)
                   · repeat' (first | exact trivial | exact rfl | exact leF_ptr rfl | exact leF_int rfl | exact leF_bool rfl | exact leF_cl (cl_slB _ _) | exact leF_cl (cl_slR _ _) | exact leF_c (leC_os rfl rfl) | refine leF_int ?_ | refine leF_bool ?_ | exact leN_varA (fun _ _ => (Elem.flat _ _ _).le) | exact leN_varA (fun _ _ => leC_top) | apply And.intro))))
      | (have hil : ¬ (i : Int) < l.length := by assumption
         rw [hend hil]
         dsimp only
         first
           | (have k : c.nb = 0 := by assumption
              have k1 : c.nb = 0 ∧ c.cost = 65535 := ⟨k, hz k⟩
              rw [show pickF now old b c = ⟨b.nb, b.cost, -1⟩ from if_pos k1]
              refine Done.mk (leF_tup ?_)
              repeat' (first | exact trivial | exact rfl | exact leC_int rfl | exact leC_bool rfl | refine leE_all ?_ | exact leC_bool (by assumption) | apply And.intro))
           | (have k : ¬ c.nb = 0 := by assumption
              have k1 : ¬ (c.nb = 0 ∧ c.cost = 65535) := fun h => k h.1
              first
                | (have g1 : b.cost = c.cost := by assumption
                   rw [show pickF now old b c = ⟨c.nb, c.cost, -1⟩ from (if_neg k1).trans (if_pos g1)]
                   refine Done.mk (leF_tup ?_)
                   repeat' (first | exact trivial | exact rfl | exact leC_int rfl | exact leC_bool rfl | refine leE_all ?_ | exact leC_bool (by assumption) | apply And.intro))
                | (have g1 : ¬ b.cost = c.cost := by assumption
                   first
                     | (have g2 : 256 ≤ IntKind.i64.wrap (c.cost - b.cost) := by assumption
                        rw [w1] at g2
                        rw [show pickF now old b c = ⟨b.nb, b.cost, -1⟩ from (if_neg k1).trans ((if_neg g1).trans (if_pos g2))]
                        refine Done.mk (leF_tup ?_)
                        repeat' (first | exact trivial | exact rfl | exact leC_int rfl | exact leC_bool rfl | refine leE_all ?_ | exact leC_bool (by assumption) | apply And.intro))
                     | (have g2 : ¬ 256 ≤ IntKind.i64.wrap (c.cost - b.cost) := by assumption
                        rw [w1] at g2
                        first
                          | (have g3 : ¬ old.bt = -1 := by assumption
                             first
                               | (have g5 : old.bt = -1 := by assumption
                                  exact absurd g5 g3)
                               | (have g4 : IntKind.i64.wrap (old.bt + 6) ≤ now := by assumption
                                  rw [w2] at g4
                                  rw [show pickF now old b c = ⟨b.nb, b.cost, -1⟩ from (if_neg k1).trans ((if_neg g1).trans ((if_neg g2).trans ((if_neg g3).trans (if_pos g4))))]
                                  refine Done.mk (leF_tup ?_)
                                  repeat' (first | exact trivial | exact rfl | exact leC_int rfl | exact leC_bool rfl | refine leE_all ?_ | exact leC_bool (by assumption) | apply And.intro))
                               | (have g4 : ¬ IntKind.i64.wrap (old.bt + 6) ≤ now := by assumption
                                  rw [w2] at g4
                                  rw [show pickF now old b c = ⟨c.nb, c.cost, old.bt⟩ from (if_neg k1).trans ((if_neg g1).trans ((if_neg g2).trans ((if_neg g3).trans (if_neg g4))))]
                                  refine Done.mk (leF_tup ?_)
                                  repeat' (first | exact trivial | exact rfl | exact leC_int rfl | exact leC_bool rfl | refine leE_all ?_ | exact leC_bool (by assumption) | apply And.intro)))
                          | (have g3 : old.bt = -1 := by assumption
                             rw [show pickF now old b c = ⟨c.nb, c.cost, now⟩ from (if_neg k1).trans ((if_neg g1).trans ((if_neg g2).trans (if_pos g3)))]
                             refine Done.mk (leF_tup ?_)
                             repeat' (first | exact trivial | exact rfl | exact leC_int rfl | exact leC_bool rfl | refine leE_all ?_ | exact leC_bool (by assumption) | apply And.intro))))))
  · refine ⟨rfl, ?_, ?_⟩
    · repeat' (first | exact trivial | exact rfl | exact leF_ptr rfl | exact leF_int rfl | exact leF_bool rfl | exact leF_cl (cl_slB _ _) | exact leF_cl (cl_slR _ _) | exact leF_c (leC_os rfl rfl) | refine leF_int ?_ | refine leF_bool ?_ | exact leN_varA (fun _ _ => (Elem.flat _ _ _).le) | exact leN_varA (fun _ _ => leC_top) | apply And.intro)
    · repeat' (first | exact trivial | exact rfl | exact leF_ptr rfl | exact leF_int rfl | exact leF_bool rfl | exact leF_cl (cl_slB _ _) | exact leF_cl (cl_slR _ _) | exact leF_c (leC_os rfl rfl) | refine leF_int ?_ | refine leF_bool ?_ | exact leN_varA (fun _ _ => (Elem.flat _ _ _).le) | exact leN_varA (fun _ _ => leC_top) | apply And.intro)
      all_goals (refine leN_var ?_; repeat' (first | exact trivial | exact rfl | exact leC_int rfl | exact leC_bool rfl | refine leE_all ?_ | exact leC_bool (by assumption) | apply And.intro))
end Go.Proofs.Ytolliidpmgncdaa.AX
