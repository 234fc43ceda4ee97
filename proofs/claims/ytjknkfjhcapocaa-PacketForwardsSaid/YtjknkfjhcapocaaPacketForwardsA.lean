/- PacketForwards, by AX2: the law returns true. -/
import Derived.Test.YtjknkfjhcapocaaPkU
namespace Go.Proofs.Ytjknkfjhcapocaa.AX
open Go.RowKit
set_option linter.unusedVariables false
set_option linter.unusedSimpArgs false
/-- The encoding of a packet with other hops. -/
def encH13 (r : Pkt) (h : Int) : List Int := encB (withHops r h) (sumP r)
theorem encH_dec {r : Pkt} (hm : PkM r) {h : Int} (hh : 0 ≤ h ∧ h < 256) : decF (encH13 r h) = (withHops r h, 0) := by
  unfold encH13
  rw [← sumP_hops r h]
  exact enc_dec (withHops_m hm hh)
theorem encH_fwd {r : Pkt} (hm : PkM r) {h : Int} (hh : 0 ≤ h ∧ h < 256) : fwdF (encH13 r h) = if h < 2 then ([], 2) else (encH13 r (h - 1), 0) := by
  unfold encH13
  have e := fwd_enc (withHops_m hm hh)
  rw [sumP_hops] at e
  rw [e]; rfl
theorem encH_facts {r : Pkt} (hm : PkM r) {h : Int} (hh : 0 ≤ h ∧ h < 256) : encR (withHops r h) = some (encH13 r h) ∧ BL (encH13 r h) ∧ (encH13 r h).length ≤ 1280 := by
  have h1 := withHops_m hm hh
  refine ⟨by unfold encR encH13; rw [if_pos h1.v, sumP_hops], encB_BL h1.w _, ?_⟩
  have h2 := encB_len (withHops r h) (sumP r)
  have h3 := valid_size h1.v
  unfold encH13
  omega
structure FwS (r : Pkt) where
  n : Int
  L : List Int
  hn : 0 ≤ n ∧ n < 256
  hL : L = encH13 r n
set_option maxHeartbeats 4000000 in
set_option maxRecDepth 20000 in
theorem forwards_ok (n : Nat) (l : List Int) (hl : rngL l) (hops : Int) (h1 : 0 ≤ hops ∧ hops < 256) : PureOk Try.prog 7 [.e (.c (.sl true n 1 (rI l))), (cI .u8).enc hops] (.e (.c (.bool true))) := by
  refine pure_intro (wd := 1) (Q := mkQ LWp) (by decide) tysOk (q_of LWp_ok) mixed Try.func7 rfl _ (by show 2 ≤ _; decide) _ ?_
  repeat' (first | (apply And.intro <;> intro hc <;> (first | exact Bool.noConfusion hc | (simp only [decide_eq_true_eq, decide_eq_false_iff_not, Bool.not_eq_true', Bool.not_eq_false', beq_iff_eq, beq_eq_false_iff_ne, bne_iff_ne, bne_eq_false_iff_eq, Bool.true_eq_false, Bool.false_eq_true, ne_eq, not_true_eq_false] at hc <;> first | exact absurd rfl hc | skip) | skip)) | (refine And.intro (by first | exact trivial | decide | omega | (dsimp only; omega) | exact fun _ _ => rfl | exact ⟨by assumption, by first | exact trivial | decide | omega | (dsimp only; omega)⟩) ?_) | (apply And.intro) | (intro s hs; (first | (have q : s = encR (withHops r hops) := (by (refine hs.trans (congrArg encR (hops_eq (P := r) (h := hops) (fun j hj => ?_) (toL_b r.2))); (iterate 38 (rcases j with _ | j; exact rfl)); exact absurd hj (by omega))); clear hs; rw [hE] at q; subst q) | (rename PkM _ => hm; rename Pkt => r; obtain ⟨L, hL⟩ : ∃ L, L = encH13 r hops := ⟨_, rfl⟩; obtain ⟨hE, hLb, hLn⟩ := encH_facts hm h1; rw [← hL] at hE hLb hLn))))
  · exact ⟨l, rfl, hl⟩
  all_goals
    have hw := valid_len hm.v
  all_goals first
    | exact rfl
    | (refine Eq.mp (congrArg PkW (hops_eq (P := r) (h := hops) (fun j hj => ?_) (toL_b r.2)).symm) (withHops_m hm h1).w
       iterate 38 (rcases j with _ | j; exact rfl)
       exact absurd hj (by omega))
    | (show (toL eB r.2.length _).length ≤ _
       rw [toL_len]
       omega)
    | exact absurd rfl (by assumption : ¬ ecR (some L) = 0)
    | skip
  refine loop_intro (mono_of LWp_ok) (fun z : FwS r => (⟨[(4, one (.bool false)), (6, one (.os 9 0 z.L.length)), (8, one (.int .i64 z.n))], [(9, some (ents eB 5 z.L))], 20⟩ : Hd)) (fun z => z.n.toNat) (fun _ => rfl) ?_ ⟨hops, L, h1, hL⟩ [] ?_
  · rintro ⟨m, M, hm1, hM⟩
    obtain ⟨_, hMb, hMn⟩ := encH_facts hm hm1
    rw [← hM] at hMb hMn
    have hF := encH_fwd hm hm1
    rw [← hM] at hF
    have hD := encH_dec hm hm1
    rw [← hM] at hD
    dsimp only at hm1 hM ⊢
    clear hE hL hLb hLn
    by_cases hc2 : 1 < m
    · rw [if_neg (by omega)] at hF
      obtain ⟨N, hN⟩ : ∃ N, N = encH13 r (m - 1) := ⟨_, rfl⟩
      obtain ⟨_, hNb, hNn⟩ := encH_facts hm (show 0 ≤ m - 1 ∧ m - 1 < 256 by omega)
      have hDN := encH_dec hm (show 0 ≤ m - 1 ∧ m - 1 < 256 by omega)
      rw [← hN] at hF hNb hNn hDN
      have wq : IntKind.u8.wrap (m - 1 + 1) = m := by rw [show m - 1 + 1 = m by omega]; exact IntWalk.u8_in _ (by omega)
      have wi : IntKind.i64.wrap m = m := IntWalk.i64_in _ (by omega)
      have hX : withHops (withHops r (m - 1)) (IntKind.u8.wrap (m - 1 + 1)) = withHops r m := by rw [wq]; rfl
      repeat' (first | (apply And.intro <;> intro hc <;> (first | exact Bool.noConfusion hc | (exfalso; first | exact absurd hc2 hc | exact absurd hc hc2 | exact absurd rfl hc | exact absurd (wq.trans wi.symm) hc | exact absurd wq hc) | (simp only [decide_eq_true_eq, decide_eq_false_iff_not, Bool.not_eq_true', Bool.not_eq_false', beq_iff_eq, beq_eq_false_iff_ne, bne_iff_ne, bne_eq_false_iff_eq, Bool.true_eq_false, Bool.false_eq_true, ne_eq, not_true_eq_false] at hc <;> first | exact absurd rfl hc | (exfalso; first | exact absurd hc2 hc | exact absurd hc hc2 | exact absurd rfl hc | exact absurd (wq.trans wi.symm) hc | exact absurd wq hc) | skip) | skip)) | (refine And.intro (by first | exact trivial | decide | omega | (dsimp only; omega) | exact fun _ _ => rfl | exact ⟨by assumption, by first | exact trivial | decide | omega | (dsimp only; omega)⟩) ?_) | (apply And.intro) | (intro s hs; (first | (have q : s = (N, 0) := (by (refine hs.trans ?_; show fwdF (toL eB M.length fun k j => rowF eB M (0 + k) j) = _; rw [toL_b0]; exact hF)); clear hs; subst q) | (have q : s = (withHops r (m - 1), 0) := (by (refine hs.trans ?_; show decF (toL eB N.length fun k j => rowF eB N (0 + k) j) = _; rw [toL_b0]; exact hDN)); clear hs; subst q) | (have q : s = (withHops r m, 0) := (by (refine hs.trans ?_; show decF (toL eB M.length fun k j => rowF eB M (0 + k) j) = _; rw [toL_b0]; exact hD)); clear hs; subst q) | (have q : s = true := hs; clear hs; subst q) | skip)))
      all_goals first
        | exact rfl
        | exact fun _ => rfl
        | (show BL (toL eB M.length fun k j => rowF eB M (0 + k) j); rw [toL_b0]; exact hMb)
        | (show (toL eB M.length fun k j => rowF eB M (0 + k) j).length ≤ _; rw [toL_len]; omega)
        | (show BL (toL eB N.length fun k j => rowF eB N (0 + k) j); rw [toL_b0]; exact hNb)
        | (show (toL eB N.length fun k j => rowF eB N (0 + k) j).length ≤ _; rw [toL_len]; omega)
        | (show (toL eB r.2.length _).length ≤ _
           rw [toL_len]
           omega)
        | (refine (hops_eq (P := withHops r (m - 1)) (h := IntKind.u8.wrap (m - 1 + 1)) (fun j hj => ?_) (toL_b r.2)).trans (hX.trans (pk_eq (withHops r m) _).symm)
           iterate 38 (rcases j with _ | j; exact rfl)
           exact absurd hj (by omega))
        | exact absurd (show IntKind.i64.wrap (IntKind.u8.wrap (m - 1 + 1)) = m by rw [wq, wi]) hc
        | skip
      refine ⟨⟨m - 1, N, by omega, hN⟩, [(9, some 23)], by dsimp only; omega, rfl, ?_, ?_⟩
      · repeat' (first | exact trivial | exact rfl | exact leF_ptr rfl | exact leF_int rfl | exact leF_bool rfl | exact leF_cl (cl_slB _ _) | exact leF_cl (cl_slR _ _) | exact leF_cl (cl_ll _ _) | exact leF_c (leC_os rfl rfl) | refine leF_int ?_ | refine leF_bool ?_ | exact leN_varA (fun _ _ => (Elem.flat _ _ _).le) | exact leN_varA (fun _ _ => leC_top) | apply And.intro)
        all_goals first
          | exact IntWalk.i64_in _ (by omega)
          | skip
      · repeat' (first | exact trivial | exact rfl | exact leF_ptr rfl | exact leF_int rfl | exact leF_bool rfl | exact leF_cl (cl_slB _ _) | exact leF_cl (cl_slR _ _) | exact leF_cl (cl_ll _ _) | exact leF_c (leC_os rfl rfl) | refine leF_int ?_ | refine leF_bool ?_ | exact leN_varA (fun _ _ => (Elem.flat _ _ _).le) | exact leN_varA (fun _ _ => leC_top) | apply And.intro)
        all_goals first | exact leN_ents | skip
    · rw [if_pos (by omega)] at hF
      repeat' (first | (apply And.intro <;> intro hc <;> (first | exact Bool.noConfusion hc | (exfalso; first | exact absurd hc hc2 | exact absurd hc2 hc) | (simp only [decide_eq_true_eq, decide_eq_false_iff_not, Bool.not_eq_true', Bool.not_eq_false', beq_iff_eq, beq_eq_false_iff_ne, bne_iff_ne, bne_eq_false_iff_eq, Bool.true_eq_false, Bool.false_eq_true, ne_eq, not_true_eq_false] at hc <;> first | exact absurd rfl hc | (exfalso; first | exact absurd hc hc2 | exact absurd hc2 hc) | skip) | skip)) | (refine And.intro (by first | exact trivial | decide | omega | (dsimp only; omega) | exact fun _ _ => rfl | exact ⟨by assumption, by first | exact trivial | decide | omega | (dsimp only; omega)⟩) ?_) | (apply And.intro) | (intro s hs; (first | (have q : s = ([], 2) := (by (refine hs.trans ?_; show fwdF (toL eB M.length fun k j => rowF eB M (0 + k) j) = _; rw [toL_b0]; exact hF)); clear hs; subst q) | (have q : s = true := hs; clear hs; subst q) | skip)))
      all_goals first
        | exact rfl
        | exact fun _ => rfl
        | (show BL (toL eB M.length fun k j => rowF eB M (0 + k) j); rw [toL_b0]; exact hMb)
        | (show (toL eB M.length fun k j => rowF eB M (0 + k) j).length ≤ _; rw [toL_len]; omega)
        | exact Done.mk (leF_bool rfl)
        | skip
      all_goals skip
  · refine ⟨rfl, ?_, ?_⟩
    · repeat' (first | exact trivial | exact rfl | exact leF_ptr rfl | exact leF_int rfl | exact leF_bool rfl | exact leF_cl (cl_slB _ _) | exact leF_cl (cl_slR _ _) | exact leF_cl (cl_ll _ _) | exact leF_c (leC_os rfl rfl) | refine leF_int ?_ | refine leF_bool ?_ | exact leN_varA (fun _ _ => (Elem.flat _ _ _).le) | exact leN_varA (fun _ _ => leC_top) | apply And.intro)
      exact IntWalk.i64_in _ (by omega)
    · repeat' (first | exact trivial | exact rfl | exact leF_ptr rfl | exact leF_int rfl | exact leF_bool rfl | exact leF_cl (cl_slB _ _) | exact leF_cl (cl_slR _ _) | exact leF_cl (cl_ll _ _) | exact leF_c (leC_os rfl rfl) | refine leF_int ?_ | refine leF_bool ?_ | exact leN_varA (fun _ _ => (Elem.flat _ _ _).le) | exact leN_varA (fun _ _ => leC_top) | apply And.intro)
      all_goals first | exact leN_ents | skip
end Go.Proofs.Ytjknkfjhcapocaa.AX
