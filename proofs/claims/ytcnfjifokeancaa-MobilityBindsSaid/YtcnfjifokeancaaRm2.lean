/- The reference of layer 36: Bind (by AX2). -/
import Derived.Test.YtcnfjifokeancaaRm
namespace Go.Proofs.Ytcnfjifokeancaa.AX
open Go.RowKit
set_option linter.unusedVariables false
set_option linter.unusedSimpArgs false
def LN1 : CsL := (69, some (pureE (AC.cons (cSl eBd eBd_sz) AC.nil) (fun a => bdL a.1) (fun a => bvalid a.1) cB.enc)) :: LN0
theorem LN1_ok : AllOk Try.prog LN1 := ⟨pureE_ok ⟨_, Try.func69, rfl, by kernel_rfl⟩ fun a h => rmvalid_ok a.1 h, LN0_ok⟩
theorem bindF_r {l : List Bd} {now life : Int} {b : Bd} (h1 : bvalid l = true) (h0 : ipEq b.place b.home = false) (h2 : vt now = true) (h3 : sqOk b.seq = true) (h4 : ¬ life < 0) (h5 : ¬ 60 < life) : bindF l now b life = bindE (rbindL now { b with til := minT now life } false l) := by
  rw [bindF, if_pos ⟨h1, h0⟩, if_pos ⟨h2, h3, by omega, by omega⟩]
  unfold bvalid at h1
  simp only [Bool.and_eq_true] at h1
  rw [bind_same h1.2]
structure RbS (l : List Bd) (b : Bd) (now : Int) where
  i : Nat
  out : List Bd
  done : Bool
  hi : i ≤ l.length
  hn : out.length ≤ 2 * i
  h : rbindL now b false l = (rbindL now b done (l.drop i)).map (out ++ ·)
set_option maxHeartbeats 8000000 in
set_option maxRecDepth 20000 in
theorem rbind_ok (l : List Bd) (now : Int) (b : Bd) (life : Int) (hl : bdL l) (hb : byteOk b.home) (hlife : -9223372036854775808 ≤ life ∧ life ≤ 9223372036854775807) : PureOk Try.prog 58 [(cSl eBd eBd_sz).enc l, (cI .i64).enc now, (cE eBd).enc b, (cI .i64).enc life] (encBE (bindF l now b life)) := by
  have hn := hl.n
  have hv2 : vt now = true → 0 ≤ now ∧ now ≤ 1099511627776 := fun h2 => by
    unfold vt at h2
    simp only [Bool.and_eq_true, decide_eq_true_eq] at h2
    exact h2
  refine pure_intro (wd := 1) (Q := mkQ LN1) (by decide) tysOk (q_of LN1_ok) mixed Try.func58 rfl _ (by show 4 ≤ _; decide) _ ?_
  repeat' (first | (apply And.intro <;> intro hc <;> (first | exact Bool.noConfusion hc | (simp only [decide_eq_true_eq, decide_eq_false_iff_not, Bool.not_eq_true', Bool.not_eq_false', beq_iff_eq, beq_eq_false_iff_ne, bne_iff_ne, bne_eq_false_iff_eq, Bool.true_eq_false, Bool.false_eq_true, ne_eq, not_true_eq_false] at hc <;> first | exact absurd rfl hc | skip) | skip)) | (refine And.intro (by first | exact trivial | decide | omega | (dsimp only; omega) | exact fun _ _ => rfl | exact ⟨by assumption, by first | exact trivial | decide | omega | (dsimp only; omega)⟩) ?_) | (apply And.intro) | (intro s hs; (first | (have hs' : s = bvalid l := hs.trans (by show bvalid (toL eBd l.length (rowF eBd l)) = _; rw [toL_bd])) | (have hs' : s = vt now := hs) | (have hs' : s = minT now life := hs)); clear hs; subst hs'))
  all_goals first
    | (show bdL (toL eBd l.length (rowF eBd l)); rw [toL_bd]; exact hl)
    | exact (hv2 (by assumption)).1
    | exact (hv2 (by assumption)).2
    | (show 0 ≤ life; omega)
    | (show life ≤ 60; omega)
    | (have e : bindF l now b life = ([], 1) := by
         first
           | (have h1 : bvalid l = false := by assumption
              simp [bindF, h1])
           | (have h1 : ipEq b.place b.home = true := by assumption
              simp [bindF, h1])
       rw [e]
       exact Done.mk (leF_tup ⟨leC_nils_sl rfl, leC_int rfl, trivial⟩))
    | (have e : bindF l now b life = ([], 2) := by
         have h0 : ipEq b.place b.home = false := by assumption
         have h1 : bvalid l = true := by assumption
         rw [bindF, if_pos ⟨h1, h0⟩, if_neg]
         rintro ⟨g1, g2, g3, g4⟩
         have g2' := sq_iff.1 g2
         first
           | omega
           | (have q : vt now = false := by assumption
              rw [g1] at q; cases q)
       rw [e]
       exact Done.mk (leF_tup ⟨leC_nils_sl rfl, leC_int rfl, trivial⟩))
    | skip
  have h0 : ipEq b.place b.home = false := by assumption
  have h1 : bvalid l = true := by assumption
  have h2 : vt now = true := by assumption
  have h3 : sqOk b.seq = true := sq_iff.2 ⟨by assumption, by assumption⟩
  have h4 : ¬ life < 0 := by assumption
  have h5 : ¬ 60 < life := by assumption
  have h32 := bv_len h1
  rw [bindF_r h1 h0 h2 h3 h4 h5]
  generalize hb' : ({ b with til := minT now life } : Bd) = b'
  have b1 : b'.home = b.home := by rw [← hb']
  clear h0 h1 h2 h3 hv2
  refine loop_intro (mono_of LN1_ok) (fun s : RbS l b' now => (⟨[(0, one (.sl false l.length eBd.sz (rowF eBd l))), (1, one (.int .i64 now)), (6, one (.ptr 0 0 0 false)), (10, one (.os 7 0 s.out.length)), (11, one (.bool s.done)), (50, one (.sl false l.length eBd.sz (rowF eBd l))), (51, one (.int .i64 (l.length : Int))), (52, one (.int .i64 (s.i : Int)))],
    [(0, some ⟨51, 1, 34, true, fun _ => eBd.cell b'⟩), (7, some (ents eBd 51 s.out))], 45⟩ : Hd)) (fun s => l.length - s.i) (fun _ => rfl) ?_ ⟨0, [], false, by omega, by simp, map_nil.symm⟩ [(7, none)] ?_
  · rintro ⟨i, out, done, hi, hno, hv⟩
    dsimp only at hi hno hv ⊢
    clear hb' b1
    repeat' (first | (apply And.intro <;> intro hc <;> (first | exact Bool.noConfusion hc | (simp only [decide_eq_true_eq, decide_eq_false_iff_not, Bool.not_eq_true', Bool.not_eq_false', beq_iff_eq, beq_eq_false_iff_ne, bne_iff_ne, bne_eq_false_iff_eq, Bool.true_eq_false, Bool.false_eq_true, ne_eq, not_true_eq_false] at hc <;> first | exact absurd rfl hc | skip) | skip)) | (refine And.intro (by first | exact trivial | decide | omega | (dsimp only; omega) | exact fun _ _ => rfl | exact ⟨by assumption, by first | exact trivial | decide | omega | (dsimp only; omega)⟩) ?_) | (apply And.intro) | (intro s hs; (have hs' : s = ipC (l.getD i default).home b'.home := by (rw [hs]; dsimp only; refine ipC_congr (ip_rd fun k hk => ?_) (ip_rd fun k hk => ?_) <;> exact home_cell (by omega) hk)); clear hs; subst hs'))
    all_goals first
      | (have hlt : i < l.length := by omega
         first
           | (have g1 : ipC (l.getD i default).home b'.home = 0 := by assumption
              have g2 : b'.seq ≤ (l.getD i default).seq := by assumption
              have e : rbindL now b' false l = none := by rw [hv, drop_at hlt, rbindL, if_pos ⟨g1, g2⟩]; rfl
              rw [e]
              exact Done.mk (leF_tup ⟨leC_nils_sl rfl, leC_int rfl, trivial⟩))
           | (have g0 : ¬ (ipC (l.getD i default).home b'.home = 0 ∧ b'.seq ≤ (l.getD i default).seq) := by
                first
                  | (have g1 : ¬ ipC (l.getD i default).home b'.home = 0 := by assumption
                     exact fun h => g1 h.1)
                  | (have g2 : ¬ b'.seq ≤ (l.getD i default).seq := by assumption
                     exact fun h => g2 h.2)
              have est := hv
              rw [drop_at hlt, rbindL, if_neg g0, map_app] at est
              first
                | (have k1 : 0 ≤ ipC (l.getD i default).home b'.home := by assumption
                   have k2 : done = false := by assumption
                   rw [if_pos ⟨k1, k2⟩, decide_eq_true k1, Bool.or_true] at est
                   first
                     | (have k3 : ¬ ipC (l.getD i default).home b'.home = 0 := by assumption
                        have k4 : now < (l.getD i default).til := by assumption
                        rw [if_pos ⟨k3, k4⟩] at est
                        refine ⟨⟨i + 1, out ++ [b', l.getD i default], true, by omega, by simp; omega, est⟩, [(7, some 88)], by dsimp only; omega, rfl, ?_, ?_⟩
                        · repeat' (first | exact trivial | exact rfl | exact leF_ptr rfl | exact leF_int rfl | exact leF_bool rfl | exact leF_cl (cl_slB _ _) | exact leF_cl (cl_slR _ _) | exact leF_c (leC_os rfl rfl) | refine leF_int ?_ | refine leF_bool ?_ | exact leN_varA (fun _ _ => (Elem.flat _ _ _).le) | exact leN_varA (fun _ _ => leC_top) | apply And.intro)
                          · exact leF_c (leC_os rfl (by simp))
                          · (dsimp only; rw [IntWalk.i64_in _ (by omega)]; omega)
                        · repeat' (first | exact trivial | exact rfl | exact leF_ptr rfl | exact leF_int rfl | exact leF_bool rfl | exact leF_cl (cl_slB _ _) | exact leF_cl (cl_slR _ _) | exact leF_c (leC_os rfl rfl) | refine leF_int ?_ | refine leF_bool ?_ | exact leN_varA (fun _ _ => (Elem.flat _ _ _).le) | exact leN_varA (fun _ _ => leC_top) | apply And.intro)
                          change LeN _ _ _
                          refine leN_snoc2 (E := eBd) (L := out) (x := b') (y := l.getD i default) rfl (fun q hq j hj => selC_in (blt_lt (by omega)) (selC_in (blt_lt hq) (Elem.flat _ _ _).le)) ?_ ?_
                          · repeat' (first | exact trivial | (refine selC_in (blt_lt (by omega)) (selC_out (blt_self _) ?_); rw [Nat.sub_self]; exact leC_int rfl) | apply And.intro)
                          · repeat' (first | exact trivial | (refine selC_out (blt_self _) ?_; rw [Nat.sub_self]; exact leC_int rfl) | apply And.intro))
                     | (have k3 : ¬ (ipC (l.getD i default).home b'.home ≠ 0 ∧ now < (l.getD i default).til) := by
                          first
                            | (have k3 : ipC (l.getD i default).home b'.home = 0 := by assumption
                               exact fun h => h.1 k3)
                            | (have k4 : ¬ now < (l.getD i default).til := by assumption
                               exact fun h => k4 h.2)
                        rw [if_neg k3, List.append_nil] at est
                        refine ⟨⟨i + 1, out ++ [b'], true, by omega, by simp; omega, est⟩, [(7, some 74)], by dsimp only; omega, rfl, ?_, ?_⟩
                        · repeat' (first | exact trivial | exact rfl | exact leF_ptr rfl | exact leF_int rfl | exact leF_bool rfl | exact leF_cl (cl_slB _ _) | exact leF_cl (cl_slR _ _) | exact leF_c (leC_os rfl rfl) | refine leF_int ?_ | refine leF_bool ?_ | exact leN_varA (fun _ _ => (Elem.flat _ _ _).le) | exact leN_varA (fun _ _ => leC_top) | apply And.intro)
                          · exact leF_c (leC_os rfl (by simp))
                          · (dsimp only; rw [IntWalk.i64_in _ (by omega)]; omega)
                        · repeat' (first | exact trivial | exact rfl | exact leF_ptr rfl | exact leF_int rfl | exact leF_bool rfl | exact leF_cl (cl_slB _ _) | exact leF_cl (cl_slR _ _) | exact leF_c (leC_os rfl rfl) | refine leF_int ?_ | refine leF_bool ?_ | exact leN_varA (fun _ _ => (Elem.flat _ _ _).le) | exact leN_varA (fun _ _ => leC_top) | apply And.intro)
                          (change LeN _ _ _; refine leN_snoc (E := eBd) (L := out) (x := b') rfl (fun i hi j hj => selC_in (Nat.ble_eq_true_of_le hi) (Elem.flat _ _ _).le) ?_; repeat' (first | exact trivial | (refine selC_out (blt_self _) ?_; rw [Nat.sub_self]; first | exact leC_int rfl | exact leC_bool rfl | exact leC_bool (by assumption)) | apply And.intro))))
                | (have k1 : ¬ (0 ≤ ipC (l.getD i default).home b'.home ∧ done = false) := by
                     first
                       | (have k1 : ¬ 0 ≤ ipC (l.getD i default).home b'.home := by assumption
                          exact fun h => k1 h.1)
                       | (have k2 : done = true := by assumption
                          exact fun h => by rw [k2] at h; cases h.2)
                   have k2 : (done || decide (0 ≤ ipC (l.getD i default).home b'.home)) = done := by
                     first
                       | (have k1 : ¬ 0 ≤ ipC (l.getD i default).home b'.home := by assumption
                          rw [decide_eq_false k1, Bool.or_false])
                       | (have k2 : done = true := by assumption
                          rw [k2, Bool.true_or])
                   rw [if_neg k1, k2, List.nil_append] at est
                   first
                     | (have k3 : ¬ ipC (l.getD i default).home b'.home = 0 := by assumption
                        have k4 : now < (l.getD i default).til := by assumption
                        rw [if_pos ⟨k3, k4⟩] at est
                        refine ⟨⟨i + 1, out ++ [l.getD i default], done, by omega, by simp; omega, est⟩, [(7, some 82)], by dsimp only; omega, rfl, ?_, ?_⟩
                        · repeat' (first | exact trivial | exact rfl | exact leF_ptr rfl | exact leF_int rfl | exact leF_bool rfl | exact leF_cl (cl_slB _ _) | exact leF_cl (cl_slR _ _) | exact leF_c (leC_os rfl rfl) | refine leF_int ?_ | refine leF_bool ?_ | exact leN_varA (fun _ _ => (Elem.flat _ _ _).le) | exact leN_varA (fun _ _ => leC_top) | apply And.intro)
                          · exact leF_c (leC_os rfl (by simp))
                          · (dsimp only; rw [IntWalk.i64_in _ (by omega)]; omega)
                        · repeat' (first | exact trivial | exact rfl | exact leF_ptr rfl | exact leF_int rfl | exact leF_bool rfl | exact leF_cl (cl_slB _ _) | exact leF_cl (cl_slR _ _) | exact leF_c (leC_os rfl rfl) | refine leF_int ?_ | refine leF_bool ?_ | exact leN_varA (fun _ _ => (Elem.flat _ _ _).le) | exact leN_varA (fun _ _ => leC_top) | apply And.intro)
                          (change LeN _ _ _; refine leN_snoc (E := eBd) (L := out) (x := l.getD i default) rfl (fun i hi j hj => selC_in (Nat.ble_eq_true_of_le hi) (Elem.flat _ _ _).le) ?_; repeat' (first | exact trivial | (refine selC_out (blt_self _) ?_; rw [Nat.sub_self]; first | exact leC_int rfl | exact leC_bool rfl | exact leC_bool (by assumption)) | apply And.intro)))
                     | (have k3 : ¬ (ipC (l.getD i default).home b'.home ≠ 0 ∧ now < (l.getD i default).til) := by
                          first
                            | (have k3 : ipC (l.getD i default).home b'.home = 0 := by assumption
                               exact fun h => h.1 k3)
                            | (have k4 : ¬ now < (l.getD i default).til := by assumption
                               exact fun h => k4 h.2)
                        rw [if_neg k3, List.append_nil] at est
                        refine ⟨⟨i + 1, out, done, by omega, by omega, est⟩, [], by dsimp only; omega, rfl, ?_, ?_⟩
                        · repeat' (first | exact trivial | exact rfl | exact leF_ptr rfl | exact leF_int rfl | exact leF_bool rfl | exact leF_cl (cl_slB _ _) | exact leF_cl (cl_slR _ _) | exact leF_c (leC_os rfl rfl) | refine leF_int ?_ | refine leF_bool ?_ | exact leN_varA (fun _ _ => (Elem.flat _ _ _).le) | exact leN_varA (fun _ _ => leC_top) | apply And.intro)
                          (dsimp only; rw [IntWalk.i64_in _ (by omega)]; omega)
                        · repeat' (first | exact trivial | exact rfl | exact leF_ptr rfl | exact leF_int rfl | exact leF_bool rfl | exact leF_cl (cl_slB _ _) | exact leF_cl (cl_slR _ _) | exact leF_c (leC_os rfl rfl) | refine leF_int ?_ | refine leF_bool ?_ | exact leN_varA (fun _ _ => (Elem.flat _ _ _).le) | exact leN_varA (fun _ _ => leC_top) | apply And.intro)
                          exact leN_ents))))
      | (have hil : i = l.length := by omega
         first
           | (have hP : done = false := by assumption
              have e : rbindL now b' false l = some (out ++ [b']) := by rw [hv, hil, List.drop_length, rbindL, hP]; rfl
              rw [e]
              first
                | (have hF : (32 : Int) < ((out.length + 1 : Nat) : Int) := by assumption
                   rw [show bindE (some (out ++ [b'])) = ([], 10) from if_neg (by simp; omega)]
                   exact Done.mk (leF_tup ⟨leC_nils_sl rfl, leC_int rfl, trivial⟩))
                | (have hF : ¬ (32 : Int) < ((out.length + 1 : Nat) : Int) := by assumption
                   rw [show bindE (some (out ++ [b'])) = (out ++ [b'], 0) from if_pos (by simp; omega)]
                   refine Done.mk (leF_tup ⟨leC_fin (t := 51) rfl rfl (by simp) ?_, leC_int rfl, trivial⟩)
                   (change LeN _ _ _; refine leN_snoc (E := eBd) (L := out) (x := b') rfl (fun i hi j hj => selC_in (Nat.ble_eq_true_of_le hi) (Elem.flat _ _ _).le) ?_; repeat' (first | exact trivial | (refine selC_out (blt_self _) ?_; rw [Nat.sub_self]; first | exact leC_int rfl | exact leC_bool rfl | exact leC_bool (by assumption)) | apply And.intro))))
           | (have hP : done = true := by assumption
              have e : rbindL now b' false l = some out := by rw [hv, hil, List.drop_length, rbindL, hP]; simp
              rw [e]
              first
                | (have hF : (32 : Int) < (out.length : Int) := by assumption
                   rw [show bindE (some out) = ([], 10) from if_neg (by omega)]
                   exact Done.mk (leF_tup ⟨leC_nils_sl rfl, leC_int rfl, trivial⟩))
                | (have hF : ¬ (32 : Int) < (out.length : Int) := by assumption
                   rw [show bindE (some out) = (out, 0) from if_pos (by omega)]
                   exact Done.mk (leF_tup ⟨leC_row_fin rfl rfl, leC_int rfl, trivial⟩))))
  · refine ⟨rfl, ?_, ?_⟩
    · repeat' (first | exact trivial | exact rfl | exact leF_ptr rfl | exact leF_int rfl | exact leF_bool rfl | exact leF_cl (cl_slB _ _) | exact leF_cl (cl_slR _ _) | exact leF_c (leC_os rfl rfl) | refine leF_int ?_ | refine leF_bool ?_ | exact leN_varA (fun _ _ => (Elem.flat _ _ _).le) | exact leN_varA (fun _ _ => leC_top) | apply And.intro)
      exact leF_c (leC_nils_os rfl)
    · repeat' (first | exact trivial | exact rfl | exact leF_ptr rfl | exact leF_int rfl | exact leF_bool rfl | exact leF_cl (cl_slB _ _) | exact leF_cl (cl_slR _ _) | exact leF_c (leC_os rfl rfl) | refine leF_int ?_ | refine leF_bool ?_ | exact leN_varA (fun _ _ => (Elem.flat _ _ _).le) | exact leN_varA (fun _ _ => leC_top) | apply And.intro)
      · subst hb'
        refine leN_var ?_
        repeat' (first | exact trivial | exact leC_int rfl | apply And.intro)
      · exact eBd_sz
end Go.Proofs.Ytcnfjifokeancaa.AX
