/- PacketForms, by AX2: the law returns true. (Printed by gen/forms.py.) -/
import Derived.Test.YtjknkfjhcapocaaPkU
namespace Go.Proofs.Ytjknkfjhcapocaa.AX
open Go.RowKit
set_option linter.unusedVariables false
set_option linter.unusedSimpArgs false
/-- The list of three packets: the last one's payload as it lies. -/
def lst3F (X Y : Pkt) (Z : Hdr) (last : CV) (k j : Nat) : CV := bif Nat.beq k 0 then tailC eHd X.1 (slR eB X.2) j else bif Nat.beq k 1 then tailC eHd Y.1 (slR eB Y.2) j else tailC eHd Z last j
theorem tailS_le {c : Wc} {h : Hdr} {last : CV} {j : Nat} (hl : LeC c last last) : LeC c (tailC eHd h last j) (tailC eHd h last j) := by
  unfold tailC
  cases Nat.blt j eHd.sz with
  | true => exact (eHd.flat _ _).le
  | false => exact hl
theorem lst3_le {c : Wc} {X Y : Pkt} {Z : Hdr} {last : CV} {k j : Nat} (hf : c.fin = false) (hl : LeC c last last) : LeC c (lst3F X Y Z last k j) (lst3F X Y Z last k j) := by
  unfold lst3F
  cases Nat.beq k 0 with
  | true => exact tailS_le ((cl_slR eB _) c hf)
  | false =>
    cases Nat.beq k 1 with
    | true => exact tailS_le ((cl_slR eB _) c hf)
    | false => exact tailS_le hl
theorem encR_len {p : Pkt} : ((encR p).getD []).length ≤ 1280 := by
  unfold encR
  split
  · rename_i h
    have h1 := encB_len p (sumP p)
    have h2 := valid_size h
    show (encB p (sumP p)).length ≤ 1280
    omega
  · exact Nat.zero_le _
theorem pk_eq0 (p : Pkt) (last : CV) : ((eHd.rd fun q => tailC eHd p.1 last (0 + q), toL eB p.2.length fun k j => rowF eB p.2 (0 + k) j) : Pkt) = p := by rw [hd_tail, toL_b0]
theorem tdiv5 {x : Int} (h : -9223372036854775808 ≤ x ∧ x ≤ 9223372036854775807) : -9223372036854775808 ≤ x.tdiv 5 ∧ x.tdiv 5 ≤ 9223372036854775807 := by
  rcases Int.le_total 0 x with h0 | h0
  · rw [Int.tdiv_eq_ediv_of_nonneg h0]; omega
  · obtain ⟨y, rfl⟩ : ∃ y, x = -y := ⟨-x, by omega⟩
    rw [Int.neg_tdiv, Int.tdiv_eq_ediv_of_nonneg (by omega)]; omega
theorem set255 {a : Fin 16 → Int} (h : ∀ i, 0 ≤ vget a i ∧ vget a i < 256) (i : Nat) : 0 ≤ vget (setV a 0 255) i ∧ vget (setV a 0 255) i < 256 := by
  by_cases hi : i < 16
  · rw [vget_lt _ hi]
    unfold setV
    split
    · decide
    · have := h i; rw [vget_lt _ hi] at this; exact this
  · unfold vget; rw [dif_neg hi]; decide
theorem rep_BL (n : Nat) : BL (List.replicate n 0) := bl_rep n
set_option maxHeartbeats 16000000 in
set_option maxRecDepth 20000 in
theorem forms_ok (X : Pkt) (hXw : PkW X) (hXl : X.2.length ≤ 140737488355328) (n : Nat) (l : List Int) (hl : rngL l) (by_ : Int) (hby : -9223372036854775808 ≤ by_ ∧ by_ ≤ 9223372036854775807) : PureOk Try.prog 3 [.e (.agg 39 (tailC eHd X.1 (slR eB X.2))), .e (.c (.sl true n 1 (rI l))), (cI .i64).enc by_] (.e (.c (.bool true))) := by
  have hm20 := modF_lt (v := by_.tdiv 5) (n := 20) (by omega)
  have wd5 : IntKind.i64.wrap (by_.tdiv 5) = by_.tdiv 5 := IntWalk.i64_in _ (by have := tdiv5 hby; omega)
  refine pure_intro (wd := 1) (Q := mkQ LWp) (by decide) tysOk (q_of LWp_ok) mixed Try.func3 rfl _ (by show 3 ≤ _; decide) _ ?_
  repeat' (first | (apply And.intro <;> intro hc <;> (first | exact Bool.noConfusion hc | (simp only [decide_eq_true_eq, decide_eq_false_iff_not, Bool.not_eq_true', Bool.not_eq_false', beq_iff_eq, beq_eq_false_iff_ne, bne_iff_ne, bne_eq_false_iff_eq, Bool.true_eq_false, Bool.false_eq_true, ne_eq, not_true_eq_false] at hc <;> first | exact absurd rfl hc | skip) | skip)) | (refine And.intro (by first | exact trivial | decide | omega | (dsimp only; omega) | exact fun _ _ => rfl | exact ⟨by assumption, by first | exact trivial | decide | omega | (dsimp only; omega)⟩) ?_) | (apply And.intro) | (intro s hs; (first | (have hm : PkM s := hs; clear hs; rename Pkt => r) | (have h20 : 0 ≤ s ∧ s < 20 := (by (rw [show s = modF (IntKind.i64.wrap (by_.tdiv 5)) 20 from hs, wd5]; exact hm20)); have w20 : IntKind.i64.wrap (1230 + s) = 1230 + s := IntWalk.i64_in _ (by omega); clear hs; rename Int => t20) | (have h5 : 0 ≤ s ∧ s < 5 := (by (rw [show s = modF by_ 5 from hs]; exact modF_lt (by omega))); clear hs) | skip)))
  · exact ⟨l, rfl, hl⟩
  all_goals first
    | (rw [w20]; omega)
    | (rw [w20]; decide)
    | skip
  all_goals have hrl := valid_len hm.v
  all_goals have hrw := hm.w
  all_goals skip
  · obtain ⟨Y, eY⟩ : ∃ Y : Pkt, Y = ({ r.1 with flow := IntKind.u32.wrap (r.1.flow + 1048576) }, r.2) := ⟨_, rfl⟩
    have hYw : PkW Y := by rw [eY]; exact ⟨hrw.cls, (by simp only [IntKind.wrap, IntKind.signed, IntKind.bits]; exact ⟨Int.emod_nonneg _ (by decide), Int.emod_lt_of_pos _ (by decide)⟩), hrw.nxt, hrw.hops, hrw.src, hrw.dst, hrw.sp, hrw.dp, hrw.pay⟩
    have hYl : Y.2.length ≤ 5000 := by rw [eY]; first | (show r.2.length ≤ 5000; omega) | (simp; omega)
    refine loop_intro (mono_of LWp_ok) (fun z : {i : Nat // i ≤ 3} => (⟨[(6, one (.bool false)), (9, one (.os 21 0 3)), (10, one (.int .i64 (z.1 : Int)))], [(21, some ⟨28, 3, 39, false, lst3F X r Y.1 (slR eB Y.2)⟩)], 24⟩ : Hd)) (fun z => 3 - z.1) (fun _ => rfl) ?_ ⟨0, by omega⟩ [] ?_
    · rintro ⟨i, hi⟩
      rcases i with _ | _ | _ | _ | i
      · dsimp only
        obtain ⟨E, eE⟩ : ∃ E, encR X = E := ⟨_, rfl⟩
        obtain ⟨V, eV⟩ : ∃ V, validP X = V := ⟨_, rfl⟩
        obtain ⟨Z, eZ⟩ : ∃ Z, sizeP X = Z := ⟨_, rfl⟩
        obtain ⟨U, eU⟩ : ∃ U, sumP X = U := ⟨_, rfl⟩
        have hEl : (E.getD []).length ≤ 1280 := by rw [← eE]; exact encR_len
        repeat' (first | (apply And.intro <;> intro hc <;> (first | exact Bool.noConfusion hc | (exfalso; first | exact absurd rfl hc | omega) | (simp only [decide_eq_true_eq, decide_eq_false_iff_not, Bool.not_eq_true', Bool.not_eq_false', beq_iff_eq, beq_eq_false_iff_ne, bne_iff_ne, bne_eq_false_iff_eq, Bool.true_eq_false, Bool.false_eq_true, ne_eq, not_true_eq_false] at hc <;> first | exact absurd rfl hc | (exfalso; first | exact absurd rfl hc | omega) | skip) | skip)) | (refine And.intro (by first | exact trivial | decide | omega | (dsimp only; omega) | exact fun _ _ => rfl | exact ⟨by assumption, by first | exact trivial | decide | omega | (dsimp only; omega)⟩) ?_) | (apply And.intro) | (intro s hs; (first | (have q : E = s := (hs.trans ((congrArg encR (pk_eq X _)).trans eE)).symm; clear hs; subst q) | (have q : V = s := (hs.trans ((congrArg validP (pk_eq X _)).trans eV)).symm; clear hs; subst q) | (have q : Z = s := (hs.trans ((congrArg sizeP (pk_eq X _)).trans eZ)).symm; clear hs; subst q) | (have q : U = s := (hs.trans ((congrArg sumP (pk_eq X _)).trans eU)).symm; clear hs; subst q) | (have q : s = true := (by (rw [hs]; dsimp only; exact decide_eq_true rfl)); clear hs; subst q) | skip)))
        all_goals first
          | exact rfl
          | exact fun _ => rfl
          | exact Eq.mp (congrArg PkW (pk_eq X _).symm) hXw
          | (show (toL eB X.2.length _).length ≤ _; rw [toL_len]; omega)
          | (show (toL eB (E.getD []).length _).length ≤ _; rw [toL_len]; omega)
          | (refine ⟨⟨1, by omega⟩, [], by first | omega | (dsimp only; omega) | decide, rfl, ?_, ?_⟩
             · repeat' (first | exact trivial | exact rfl | exact leF_ptr rfl | exact leF_int rfl | exact leF_bool rfl | exact leF_cl (cl_slB _ _) | exact leF_cl (cl_slR _ _) | exact leF_cl (cl_ll _ _) | exact leF_c (leC_os rfl rfl) | refine leF_int ?_ | refine leF_bool ?_ | exact leN_varA (fun _ _ => (Elem.flat _ _ _).le) | exact leN_varA (fun _ _ => leC_top) | apply And.intro)
             · repeat' (first | exact trivial | exact rfl | exact leF_ptr rfl | exact leF_int rfl | exact leF_bool rfl | exact leF_cl (cl_slB _ _) | exact leF_cl (cl_slR _ _) | exact leF_cl (cl_ll _ _) | exact leF_c (leC_os rfl rfl) | refine leF_int ?_ | refine leF_bool ?_ | exact leN_varA (fun _ _ => (Elem.flat _ _ _).le) | exact leN_varA (fun _ _ => leC_top) | apply And.intro)
               all_goals first
                 | exact leN_ents
                 | exact leN_row rfl fun i hi j hj => lst3_le rfl (cl_slR eB _ _ rfl)
                 | skip)
          | skip
      · dsimp only
        obtain ⟨E, eE⟩ : ∃ E, encR r = E := ⟨_, rfl⟩
        obtain ⟨V, eV⟩ : ∃ V, validP r = V := ⟨_, rfl⟩
        obtain ⟨Z, eZ⟩ : ∃ Z, sizeP r = Z := ⟨_, rfl⟩
        obtain ⟨U, eU⟩ : ∃ U, sumP r = U := ⟨_, rfl⟩
        have hEl : (E.getD []).length ≤ 1280 := by rw [← eE]; exact encR_len
        repeat' (first | (apply And.intro <;> intro hc <;> (first | exact Bool.noConfusion hc | (exfalso; first | exact absurd rfl hc | omega) | (simp only [decide_eq_true_eq, decide_eq_false_iff_not, Bool.not_eq_true', Bool.not_eq_false', beq_iff_eq, beq_eq_false_iff_ne, bne_iff_ne, bne_eq_false_iff_eq, Bool.true_eq_false, Bool.false_eq_true, ne_eq, not_true_eq_false] at hc <;> first | exact absurd rfl hc | (exfalso; first | exact absurd rfl hc | omega) | skip) | skip)) | (refine And.intro (by first | exact trivial | decide | omega | (dsimp only; omega) | exact fun _ _ => rfl | exact ⟨by assumption, by first | exact trivial | decide | omega | (dsimp only; omega)⟩) ?_) | (apply And.intro) | (intro s hs; (first | (have q : E = s := (hs.trans ((congrArg encR (pk_eq r _)).trans eE)).symm; clear hs; subst q) | (have q : V = s := (hs.trans ((congrArg validP (pk_eq r _)).trans eV)).symm; clear hs; subst q) | (have q : Z = s := (hs.trans ((congrArg sizeP (pk_eq r _)).trans eZ)).symm; clear hs; subst q) | (have q : U = s := (hs.trans ((congrArg sumP (pk_eq r _)).trans eU)).symm; clear hs; subst q) | (have q : s = true := (by (rw [hs]; dsimp only; exact decide_eq_true rfl)); clear hs; subst q) | skip)))
        all_goals first
          | exact rfl
          | exact fun _ => rfl
          | exact Eq.mp (congrArg PkW (pk_eq r _).symm) hrw
          | (show (toL eB r.2.length _).length ≤ _; rw [toL_len]; omega)
          | (show (toL eB (E.getD []).length _).length ≤ _; rw [toL_len]; omega)
          | (refine ⟨⟨2, by omega⟩, [], by first | omega | (dsimp only; omega) | decide, rfl, ?_, ?_⟩
             · repeat' (first | exact trivial | exact rfl | exact leF_ptr rfl | exact leF_int rfl | exact leF_bool rfl | exact leF_cl (cl_slB _ _) | exact leF_cl (cl_slR _ _) | exact leF_cl (cl_ll _ _) | exact leF_c (leC_os rfl rfl) | refine leF_int ?_ | refine leF_bool ?_ | exact leN_varA (fun _ _ => (Elem.flat _ _ _).le) | exact leN_varA (fun _ _ => leC_top) | apply And.intro)
             · repeat' (first | exact trivial | exact rfl | exact leF_ptr rfl | exact leF_int rfl | exact leF_bool rfl | exact leF_cl (cl_slB _ _) | exact leF_cl (cl_slR _ _) | exact leF_cl (cl_ll _ _) | exact leF_c (leC_os rfl rfl) | refine leF_int ?_ | refine leF_bool ?_ | exact leN_varA (fun _ _ => (Elem.flat _ _ _).le) | exact leN_varA (fun _ _ => leC_top) | apply And.intro)
               all_goals first
                 | exact leN_ents
                 | exact leN_row rfl fun i hi j hj => lst3_le rfl (cl_slR eB _ _ rfl)
                 | skip)
          | skip
      · dsimp only
        obtain ⟨E, eE⟩ : ∃ E, encR Y = E := ⟨_, rfl⟩
        obtain ⟨V, eV⟩ : ∃ V, validP Y = V := ⟨_, rfl⟩
        obtain ⟨Z, eZ⟩ : ∃ Z, sizeP Y = Z := ⟨_, rfl⟩
        obtain ⟨U, eU⟩ : ∃ U, sumP Y = U := ⟨_, rfl⟩
        have hEl : (E.getD []).length ≤ 1280 := by rw [← eE]; exact encR_len
        repeat' (first | (apply And.intro <;> intro hc <;> (first | exact Bool.noConfusion hc | (exfalso; first | exact absurd rfl hc | omega) | (simp only [decide_eq_true_eq, decide_eq_false_iff_not, Bool.not_eq_true', Bool.not_eq_false', beq_iff_eq, beq_eq_false_iff_ne, bne_iff_ne, bne_eq_false_iff_eq, Bool.true_eq_false, Bool.false_eq_true, ne_eq, not_true_eq_false] at hc <;> first | exact absurd rfl hc | (exfalso; first | exact absurd rfl hc | omega) | skip) | skip)) | (refine And.intro (by first | exact trivial | decide | omega | (dsimp only; omega) | exact fun _ _ => rfl | exact ⟨by assumption, by first | exact trivial | decide | omega | (dsimp only; omega)⟩) ?_) | (apply And.intro) | (intro s hs; (first | (have q : E = s := (hs.trans ((congrArg encR (pk_eq Y _)).trans eE)).symm; clear hs; subst q) | (have q : V = s := (hs.trans ((congrArg validP (pk_eq Y _)).trans eV)).symm; clear hs; subst q) | (have q : Z = s := (hs.trans ((congrArg sizeP (pk_eq Y _)).trans eZ)).symm; clear hs; subst q) | (have q : U = s := (hs.trans ((congrArg sumP (pk_eq Y _)).trans eU)).symm; clear hs; subst q) | (have q : s = true := (by (rw [hs]; dsimp only; exact decide_eq_true rfl)); clear hs; subst q) | skip)))
        all_goals first
          | exact rfl
          | exact fun _ => rfl
          | exact Eq.mp (congrArg PkW (pk_eq Y _).symm) hYw
          | (show (toL eB Y.2.length _).length ≤ _; rw [toL_len]; omega)
          | (show (toL eB (E.getD []).length _).length ≤ _; rw [toL_len]; omega)
          | (refine ⟨⟨3, by omega⟩, [], by first | omega | (dsimp only; omega) | decide, rfl, ?_, ?_⟩
             · repeat' (first | exact trivial | exact rfl | exact leF_ptr rfl | exact leF_int rfl | exact leF_bool rfl | exact leF_cl (cl_slB _ _) | exact leF_cl (cl_slR _ _) | exact leF_cl (cl_ll _ _) | exact leF_c (leC_os rfl rfl) | refine leF_int ?_ | refine leF_bool ?_ | exact leN_varA (fun _ _ => (Elem.flat _ _ _).le) | exact leN_varA (fun _ _ => leC_top) | apply And.intro)
             · repeat' (first | exact trivial | exact rfl | exact leF_ptr rfl | exact leF_int rfl | exact leF_bool rfl | exact leF_cl (cl_slB _ _) | exact leF_cl (cl_slR _ _) | exact leF_cl (cl_ll _ _) | exact leF_c (leC_os rfl rfl) | refine leF_int ?_ | refine leF_bool ?_ | exact leN_varA (fun _ _ => (Elem.flat _ _ _).le) | exact leN_varA (fun _ _ => leC_top) | apply And.intro)
               all_goals first
                 | exact leN_ents
                 | exact leN_row rfl fun i hi j hj => lst3_le rfl (cl_slR eB _ _ rfl)
                 | skip)
          | skip
      · dsimp only
        repeat' (first | (apply And.intro <;> intro hc <;> (first | exact Bool.noConfusion hc | (simp only [decide_eq_true_eq, decide_eq_false_iff_not, Bool.not_eq_true', Bool.not_eq_false', beq_iff_eq, beq_eq_false_iff_ne, bne_iff_ne, bne_eq_false_iff_eq, Bool.true_eq_false, Bool.false_eq_true, ne_eq, not_true_eq_false] at hc <;> first | exact absurd rfl hc | skip) | skip)) | (refine And.intro (by first | exact trivial | decide | omega | (dsimp only; omega) | exact fun _ _ => rfl | exact ⟨by assumption, by first | exact trivial | decide | omega | (dsimp only; omega)⟩) ?_) | (apply And.intro) | (intro s hs; (have q : s = true := hs; clear hs; subst q)))
        all_goals first
          | exact Done.mk (leF_bool rfl)
          | skip
      · omega
    · refine ⟨rfl, ?_, ?_⟩
      · repeat' (first | exact trivial | exact rfl | exact leF_ptr rfl | exact leF_int rfl | exact leF_bool rfl | exact leF_cl (cl_slB _ _) | exact leF_cl (cl_slR _ _) | exact leF_cl (cl_ll _ _) | exact leF_c (leC_os rfl rfl) | refine leF_int ?_ | refine leF_bool ?_ | exact leN_varA (fun _ _ => (Elem.flat _ _ _).le) | exact leN_varA (fun _ _ => leC_top) | apply And.intro)
      · repeat' (first | exact trivial | exact rfl | exact leF_ptr rfl | exact leF_int rfl | exact leF_bool rfl | exact leF_cl (cl_slB _ _) | exact leF_cl (cl_slR _ _) | exact leF_cl (cl_ll _ _) | exact leF_c (leC_os rfl rfl) | refine leF_int ?_ | refine leF_bool ?_ | exact leN_varA (fun _ _ => (Elem.flat _ _ _).le) | exact leN_varA (fun _ _ => leC_top) | apply And.intro)
        all_goals first
          | (refine leN_row rfl fun i hi j hj => ?_
             have hi : i < 3 := hi
             have hj : j < 39 := hj
             rcases i with _ | _ | _ | i
             · iterate 38 (rcases j with _ | j; exact leC_int rfl)
               rcases j with _ | j
               · exact cl_slR eB X.2 _ rfl
               · exact absurd hj (by omega)
             · iterate 38 (rcases j with _ | j; exact leC_int rfl)
               rcases j with _ | j
               · exact cl_slR eB r.2 _ rfl
               · exact absurd hj (by omega)
             · rw [eY]
               iterate 38 (rcases j with _ | j; exact leC_int rfl)
               rcases j with _ | j
               · exact (cl_slR eB _ _ rfl)
               · exact absurd hj (by omega)
             · omega)
          | (rw [eY]; exact leN_is (by simp) (isRow_rep _))
          | skip
  · obtain ⟨Y, eY⟩ : ∃ Y : Pkt, Y = ({ r.1 with nxt := 6 }, r.2) := ⟨_, rfl⟩
    have hYw : PkW Y := by rw [eY]; exact ⟨hrw.cls, hrw.flow, (by show (0 : Int) ≤ 6 ∧ (6 : Int) < 256; decide), hrw.hops, hrw.src, hrw.dst, hrw.sp, hrw.dp, hrw.pay⟩
    have hYl : Y.2.length ≤ 5000 := by rw [eY]; first | (show r.2.length ≤ 5000; omega) | (simp; omega)
    refine loop_intro (mono_of LWp_ok) (fun z : {i : Nat // i ≤ 3} => (⟨[(6, one (.bool false)), (9, one (.os 20 0 3)), (10, one (.int .i64 (z.1 : Int)))], [(20, some ⟨28, 3, 39, false, lst3F X r Y.1 (slR eB Y.2)⟩)], 23⟩ : Hd)) (fun z => 3 - z.1) (fun _ => rfl) ?_ ⟨0, by omega⟩ [] ?_
    · rintro ⟨i, hi⟩
      rcases i with _ | _ | _ | _ | i
      · dsimp only
        obtain ⟨E, eE⟩ : ∃ E, encR X = E := ⟨_, rfl⟩
        obtain ⟨V, eV⟩ : ∃ V, validP X = V := ⟨_, rfl⟩
        obtain ⟨Z, eZ⟩ : ∃ Z, sizeP X = Z := ⟨_, rfl⟩
        obtain ⟨U, eU⟩ : ∃ U, sumP X = U := ⟨_, rfl⟩
        have hEl : (E.getD []).length ≤ 1280 := by rw [← eE]; exact encR_len
        repeat' (first | (apply And.intro <;> intro hc <;> (first | exact Bool.noConfusion hc | (exfalso; first | exact absurd rfl hc | omega) | (simp only [decide_eq_true_eq, decide_eq_false_iff_not, Bool.not_eq_true', Bool.not_eq_false', beq_iff_eq, beq_eq_false_iff_ne, bne_iff_ne, bne_eq_false_iff_eq, Bool.true_eq_false, Bool.false_eq_true, ne_eq, not_true_eq_false] at hc <;> first | exact absurd rfl hc | (exfalso; first | exact absurd rfl hc | omega) | skip) | skip)) | (refine And.intro (by first | exact trivial | decide | omega | (dsimp only; omega) | exact fun _ _ => rfl | exact ⟨by assumption, by first | exact trivial | decide | omega | (dsimp only; omega)⟩) ?_) | (apply And.intro) | (intro s hs; (first | (have q : E = s := (hs.trans ((congrArg encR (pk_eq X _)).trans eE)).symm; clear hs; subst q) | (have q : V = s := (hs.trans ((congrArg validP (pk_eq X _)).trans eV)).symm; clear hs; subst q) | (have q : Z = s := (hs.trans ((congrArg sizeP (pk_eq X _)).trans eZ)).symm; clear hs; subst q) | (have q : U = s := (hs.trans ((congrArg sumP (pk_eq X _)).trans eU)).symm; clear hs; subst q) | (have q : s = true := (by (rw [hs]; dsimp only; exact decide_eq_true rfl)); clear hs; subst q) | skip)))
        all_goals first
          | exact rfl
          | exact fun _ => rfl
          | exact Eq.mp (congrArg PkW (pk_eq X _).symm) hXw
          | (show (toL eB X.2.length _).length ≤ _; rw [toL_len]; omega)
          | (show (toL eB (E.getD []).length _).length ≤ _; rw [toL_len]; omega)
          | (refine ⟨⟨1, by omega⟩, [], by first | omega | (dsimp only; omega) | decide, rfl, ?_, ?_⟩
             · repeat' (first | exact trivial | exact rfl | exact leF_ptr rfl | exact leF_int rfl | exact leF_bool rfl | exact leF_cl (cl_slB _ _) | exact leF_cl (cl_slR _ _) | exact leF_cl (cl_ll _ _) | exact leF_c (leC_os rfl rfl) | refine leF_int ?_ | refine leF_bool ?_ | exact leN_varA (fun _ _ => (Elem.flat _ _ _).le) | exact leN_varA (fun _ _ => leC_top) | apply And.intro)
             · repeat' (first | exact trivial | exact rfl | exact leF_ptr rfl | exact leF_int rfl | exact leF_bool rfl | exact leF_cl (cl_slB _ _) | exact leF_cl (cl_slR _ _) | exact leF_cl (cl_ll _ _) | exact leF_c (leC_os rfl rfl) | refine leF_int ?_ | refine leF_bool ?_ | exact leN_varA (fun _ _ => (Elem.flat _ _ _).le) | exact leN_varA (fun _ _ => leC_top) | apply And.intro)
               all_goals first
                 | exact leN_ents
                 | exact leN_row rfl fun i hi j hj => lst3_le rfl (cl_slR eB _ _ rfl)
                 | skip)
          | skip
      · dsimp only
        obtain ⟨E, eE⟩ : ∃ E, encR r = E := ⟨_, rfl⟩
        obtain ⟨V, eV⟩ : ∃ V, validP r = V := ⟨_, rfl⟩
        obtain ⟨Z, eZ⟩ : ∃ Z, sizeP r = Z := ⟨_, rfl⟩
        obtain ⟨U, eU⟩ : ∃ U, sumP r = U := ⟨_, rfl⟩
        have hEl : (E.getD []).length ≤ 1280 := by rw [← eE]; exact encR_len
        repeat' (first | (apply And.intro <;> intro hc <;> (first | exact Bool.noConfusion hc | (exfalso; first | exact absurd rfl hc | omega) | (simp only [decide_eq_true_eq, decide_eq_false_iff_not, Bool.not_eq_true', Bool.not_eq_false', beq_iff_eq, beq_eq_false_iff_ne, bne_iff_ne, bne_eq_false_iff_eq, Bool.true_eq_false, Bool.false_eq_true, ne_eq, not_true_eq_false] at hc <;> first | exact absurd rfl hc | (exfalso; first | exact absurd rfl hc | omega) | skip) | skip)) | (refine And.intro (by first | exact trivial | decide | omega | (dsimp only; omega) | exact fun _ _ => rfl | exact ⟨by assumption, by first | exact trivial | decide | omega | (dsimp only; omega)⟩) ?_) | (apply And.intro) | (intro s hs; (first | (have q : E = s := (hs.trans ((congrArg encR (pk_eq r _)).trans eE)).symm; clear hs; subst q) | (have q : V = s := (hs.trans ((congrArg validP (pk_eq r _)).trans eV)).symm; clear hs; subst q) | (have q : Z = s := (hs.trans ((congrArg sizeP (pk_eq r _)).trans eZ)).symm; clear hs; subst q) | (have q : U = s := (hs.trans ((congrArg sumP (pk_eq r _)).trans eU)).symm; clear hs; subst q) | (have q : s = true := (by (rw [hs]; dsimp only; exact decide_eq_true rfl)); clear hs; subst q) | skip)))
        all_goals first
          | exact rfl
          | exact fun _ => rfl
          | exact Eq.mp (congrArg PkW (pk_eq r _).symm) hrw
          | (show (toL eB r.2.length _).length ≤ _; rw [toL_len]; omega)
          | (show (toL eB (E.getD []).length _).length ≤ _; rw [toL_len]; omega)
          | (refine ⟨⟨2, by omega⟩, [], by first | omega | (dsimp only; omega) | decide, rfl, ?_, ?_⟩
             · repeat' (first | exact trivial | exact rfl | exact leF_ptr rfl | exact leF_int rfl | exact leF_bool rfl | exact leF_cl (cl_slB _ _) | exact leF_cl (cl_slR _ _) | exact leF_cl (cl_ll _ _) | exact leF_c (leC_os rfl rfl) | refine leF_int ?_ | refine leF_bool ?_ | exact leN_varA (fun _ _ => (Elem.flat _ _ _).le) | exact leN_varA (fun _ _ => leC_top) | apply And.intro)
             · repeat' (first | exact trivial | exact rfl | exact leF_ptr rfl | exact leF_int rfl | exact leF_bool rfl | exact leF_cl (cl_slB _ _) | exact leF_cl (cl_slR _ _) | exact leF_cl (cl_ll _ _) | exact leF_c (leC_os rfl rfl) | refine leF_int ?_ | refine leF_bool ?_ | exact leN_varA (fun _ _ => (Elem.flat _ _ _).le) | exact leN_varA (fun _ _ => leC_top) | apply And.intro)
               all_goals first
                 | exact leN_ents
                 | exact leN_row rfl fun i hi j hj => lst3_le rfl (cl_slR eB _ _ rfl)
                 | skip)
          | skip
      · dsimp only
        obtain ⟨E, eE⟩ : ∃ E, encR Y = E := ⟨_, rfl⟩
        obtain ⟨V, eV⟩ : ∃ V, validP Y = V := ⟨_, rfl⟩
        obtain ⟨Z, eZ⟩ : ∃ Z, sizeP Y = Z := ⟨_, rfl⟩
        obtain ⟨U, eU⟩ : ∃ U, sumP Y = U := ⟨_, rfl⟩
        have hEl : (E.getD []).length ≤ 1280 := by rw [← eE]; exact encR_len
        repeat' (first | (apply And.intro <;> intro hc <;> (first | exact Bool.noConfusion hc | (exfalso; first | exact absurd rfl hc | omega) | (simp only [decide_eq_true_eq, decide_eq_false_iff_not, Bool.not_eq_true', Bool.not_eq_false', beq_iff_eq, beq_eq_false_iff_ne, bne_iff_ne, bne_eq_false_iff_eq, Bool.true_eq_false, Bool.false_eq_true, ne_eq, not_true_eq_false] at hc <;> first | exact absurd rfl hc | (exfalso; first | exact absurd rfl hc | omega) | skip) | skip)) | (refine And.intro (by first | exact trivial | decide | omega | (dsimp only; omega) | exact fun _ _ => rfl | exact ⟨by assumption, by first | exact trivial | decide | omega | (dsimp only; omega)⟩) ?_) | (apply And.intro) | (intro s hs; (first | (have q : E = s := (hs.trans ((congrArg encR (pk_eq Y _)).trans eE)).symm; clear hs; subst q) | (have q : V = s := (hs.trans ((congrArg validP (pk_eq Y _)).trans eV)).symm; clear hs; subst q) | (have q : Z = s := (hs.trans ((congrArg sizeP (pk_eq Y _)).trans eZ)).symm; clear hs; subst q) | (have q : U = s := (hs.trans ((congrArg sumP (pk_eq Y _)).trans eU)).symm; clear hs; subst q) | (have q : s = true := (by (rw [hs]; dsimp only; exact decide_eq_true rfl)); clear hs; subst q) | skip)))
        all_goals first
          | exact rfl
          | exact fun _ => rfl
          | exact Eq.mp (congrArg PkW (pk_eq Y _).symm) hYw
          | (show (toL eB Y.2.length _).length ≤ _; rw [toL_len]; omega)
          | (show (toL eB (E.getD []).length _).length ≤ _; rw [toL_len]; omega)
          | (refine ⟨⟨3, by omega⟩, [], by first | omega | (dsimp only; omega) | decide, rfl, ?_, ?_⟩
             · repeat' (first | exact trivial | exact rfl | exact leF_ptr rfl | exact leF_int rfl | exact leF_bool rfl | exact leF_cl (cl_slB _ _) | exact leF_cl (cl_slR _ _) | exact leF_cl (cl_ll _ _) | exact leF_c (leC_os rfl rfl) | refine leF_int ?_ | refine leF_bool ?_ | exact leN_varA (fun _ _ => (Elem.flat _ _ _).le) | exact leN_varA (fun _ _ => leC_top) | apply And.intro)
             · repeat' (first | exact trivial | exact rfl | exact leF_ptr rfl | exact leF_int rfl | exact leF_bool rfl | exact leF_cl (cl_slB _ _) | exact leF_cl (cl_slR _ _) | exact leF_cl (cl_ll _ _) | exact leF_c (leC_os rfl rfl) | refine leF_int ?_ | refine leF_bool ?_ | exact leN_varA (fun _ _ => (Elem.flat _ _ _).le) | exact leN_varA (fun _ _ => leC_top) | apply And.intro)
               all_goals first
                 | exact leN_ents
                 | exact leN_row rfl fun i hi j hj => lst3_le rfl (cl_slR eB _ _ rfl)
                 | skip)
          | skip
      · dsimp only
        repeat' (first | (apply And.intro <;> intro hc <;> (first | exact Bool.noConfusion hc | (simp only [decide_eq_true_eq, decide_eq_false_iff_not, Bool.not_eq_true', Bool.not_eq_false', beq_iff_eq, beq_eq_false_iff_ne, bne_iff_ne, bne_eq_false_iff_eq, Bool.true_eq_false, Bool.false_eq_true, ne_eq, not_true_eq_false] at hc <;> first | exact absurd rfl hc | skip) | skip)) | (refine And.intro (by first | exact trivial | decide | omega | (dsimp only; omega) | exact fun _ _ => rfl | exact ⟨by assumption, by first | exact trivial | decide | omega | (dsimp only; omega)⟩) ?_) | (apply And.intro) | (intro s hs; (have q : s = true := hs; clear hs; subst q)))
        all_goals first
          | exact Done.mk (leF_bool rfl)
          | skip
      · omega
    · refine ⟨rfl, ?_, ?_⟩
      · repeat' (first | exact trivial | exact rfl | exact leF_ptr rfl | exact leF_int rfl | exact leF_bool rfl | exact leF_cl (cl_slB _ _) | exact leF_cl (cl_slR _ _) | exact leF_cl (cl_ll _ _) | exact leF_c (leC_os rfl rfl) | refine leF_int ?_ | refine leF_bool ?_ | exact leN_varA (fun _ _ => (Elem.flat _ _ _).le) | exact leN_varA (fun _ _ => leC_top) | apply And.intro)
      · repeat' (first | exact trivial | exact rfl | exact leF_ptr rfl | exact leF_int rfl | exact leF_bool rfl | exact leF_cl (cl_slB _ _) | exact leF_cl (cl_slR _ _) | exact leF_cl (cl_ll _ _) | exact leF_c (leC_os rfl rfl) | refine leF_int ?_ | refine leF_bool ?_ | exact leN_varA (fun _ _ => (Elem.flat _ _ _).le) | exact leN_varA (fun _ _ => leC_top) | apply And.intro)
        all_goals first
          | (refine leN_row rfl fun i hi j hj => ?_
             have hi : i < 3 := hi
             have hj : j < 39 := hj
             rcases i with _ | _ | _ | i
             · iterate 38 (rcases j with _ | j; exact leC_int rfl)
               rcases j with _ | j
               · exact cl_slR eB X.2 _ rfl
               · exact absurd hj (by omega)
             · iterate 38 (rcases j with _ | j; exact leC_int rfl)
               rcases j with _ | j
               · exact cl_slR eB r.2 _ rfl
               · exact absurd hj (by omega)
             · rw [eY]
               iterate 38 (rcases j with _ | j; exact leC_int rfl)
               rcases j with _ | j
               · exact (cl_slR eB _ _ rfl)
               · exact absurd hj (by omega)
             · omega)
          | (rw [eY]; exact leN_is (by simp) (isRow_rep _))
          | skip
  · obtain ⟨Y, eY⟩ : ∃ Y : Pkt, Y = ({ r.1 with src := setV r.1.src 0 255 }, r.2) := ⟨_, rfl⟩
    have hYw : PkW Y := by rw [eY]; exact ⟨hrw.cls, hrw.flow, hrw.nxt, hrw.hops, set255 hrw.src, hrw.dst, hrw.sp, hrw.dp, hrw.pay⟩
    have hYl : Y.2.length ≤ 5000 := by rw [eY]; first | (show r.2.length ≤ 5000; omega) | (simp; omega)
    refine loop_intro (mono_of LWp_ok) (fun z : {i : Nat // i ≤ 3} => (⟨[(6, one (.bool false)), (9, one (.os 23 0 3)), (10, one (.int .i64 (z.1 : Int)))], [(23, some ⟨28, 3, 39, false, lst3F X r Y.1 (slR eB Y.2)⟩)], 26⟩ : Hd)) (fun z => 3 - z.1) (fun _ => rfl) ?_ ⟨0, by omega⟩ [] ?_
    · rintro ⟨i, hi⟩
      rcases i with _ | _ | _ | _ | i
      · dsimp only
        obtain ⟨E, eE⟩ : ∃ E, encR X = E := ⟨_, rfl⟩
        obtain ⟨V, eV⟩ : ∃ V, validP X = V := ⟨_, rfl⟩
        obtain ⟨Z, eZ⟩ : ∃ Z, sizeP X = Z := ⟨_, rfl⟩
        obtain ⟨U, eU⟩ : ∃ U, sumP X = U := ⟨_, rfl⟩
        have hEl : (E.getD []).length ≤ 1280 := by rw [← eE]; exact encR_len
        repeat' (first | (apply And.intro <;> intro hc <;> (first | exact Bool.noConfusion hc | (exfalso; first | exact absurd rfl hc | omega) | (simp only [decide_eq_true_eq, decide_eq_false_iff_not, Bool.not_eq_true', Bool.not_eq_false', beq_iff_eq, beq_eq_false_iff_ne, bne_iff_ne, bne_eq_false_iff_eq, Bool.true_eq_false, Bool.false_eq_true, ne_eq, not_true_eq_false] at hc <;> first | exact absurd rfl hc | (exfalso; first | exact absurd rfl hc | omega) | skip) | skip)) | (refine And.intro (by first | exact trivial | decide | omega | (dsimp only; omega) | exact fun _ _ => rfl | exact ⟨by assumption, by first | exact trivial | decide | omega | (dsimp only; omega)⟩) ?_) | (apply And.intro) | (intro s hs; (first | (have q : E = s := (hs.trans ((congrArg encR (pk_eq X _)).trans eE)).symm; clear hs; subst q) | (have q : V = s := (hs.trans ((congrArg validP (pk_eq X _)).trans eV)).symm; clear hs; subst q) | (have q : Z = s := (hs.trans ((congrArg sizeP (pk_eq X _)).trans eZ)).symm; clear hs; subst q) | (have q : U = s := (hs.trans ((congrArg sumP (pk_eq X _)).trans eU)).symm; clear hs; subst q) | (have q : s = true := (by (rw [hs]; dsimp only; exact decide_eq_true rfl)); clear hs; subst q) | skip)))
        all_goals first
          | exact rfl
          | exact fun _ => rfl
          | exact Eq.mp (congrArg PkW (pk_eq X _).symm) hXw
          | (show (toL eB X.2.length _).length ≤ _; rw [toL_len]; omega)
          | (show (toL eB (E.getD []).length _).length ≤ _; rw [toL_len]; omega)
          | (refine ⟨⟨1, by omega⟩, [], by first | omega | (dsimp only; omega) | decide, rfl, ?_, ?_⟩
             · repeat' (first | exact trivial | exact rfl | exact leF_ptr rfl | exact leF_int rfl | exact leF_bool rfl | exact leF_cl (cl_slB _ _) | exact leF_cl (cl_slR _ _) | exact leF_cl (cl_ll _ _) | exact leF_c (leC_os rfl rfl) | refine leF_int ?_ | refine leF_bool ?_ | exact leN_varA (fun _ _ => (Elem.flat _ _ _).le) | exact leN_varA (fun _ _ => leC_top) | apply And.intro)
             · repeat' (first | exact trivial | exact rfl | exact leF_ptr rfl | exact leF_int rfl | exact leF_bool rfl | exact leF_cl (cl_slB _ _) | exact leF_cl (cl_slR _ _) | exact leF_cl (cl_ll _ _) | exact leF_c (leC_os rfl rfl) | refine leF_int ?_ | refine leF_bool ?_ | exact leN_varA (fun _ _ => (Elem.flat _ _ _).le) | exact leN_varA (fun _ _ => leC_top) | apply And.intro)
               all_goals first
                 | exact leN_ents
                 | exact leN_row rfl fun i hi j hj => lst3_le rfl (cl_slR eB _ _ rfl)
                 | skip)
          | skip
      · dsimp only
        obtain ⟨E, eE⟩ : ∃ E, encR r = E := ⟨_, rfl⟩
        obtain ⟨V, eV⟩ : ∃ V, validP r = V := ⟨_, rfl⟩
        obtain ⟨Z, eZ⟩ : ∃ Z, sizeP r = Z := ⟨_, rfl⟩
        obtain ⟨U, eU⟩ : ∃ U, sumP r = U := ⟨_, rfl⟩
        have hEl : (E.getD []).length ≤ 1280 := by rw [← eE]; exact encR_len
        repeat' (first | (apply And.intro <;> intro hc <;> (first | exact Bool.noConfusion hc | (exfalso; first | exact absurd rfl hc | omega) | (simp only [decide_eq_true_eq, decide_eq_false_iff_not, Bool.not_eq_true', Bool.not_eq_false', beq_iff_eq, beq_eq_false_iff_ne, bne_iff_ne, bne_eq_false_iff_eq, Bool.true_eq_false, Bool.false_eq_true, ne_eq, not_true_eq_false] at hc <;> first | exact absurd rfl hc | (exfalso; first | exact absurd rfl hc | omega) | skip) | skip)) | (refine And.intro (by first | exact trivial | decide | omega | (dsimp only; omega) | exact fun _ _ => rfl | exact ⟨by assumption, by first | exact trivial | decide | omega | (dsimp only; omega)⟩) ?_) | (apply And.intro) | (intro s hs; (first | (have q : E = s := (hs.trans ((congrArg encR (pk_eq r _)).trans eE)).symm; clear hs; subst q) | (have q : V = s := (hs.trans ((congrArg validP (pk_eq r _)).trans eV)).symm; clear hs; subst q) | (have q : Z = s := (hs.trans ((congrArg sizeP (pk_eq r _)).trans eZ)).symm; clear hs; subst q) | (have q : U = s := (hs.trans ((congrArg sumP (pk_eq r _)).trans eU)).symm; clear hs; subst q) | (have q : s = true := (by (rw [hs]; dsimp only; exact decide_eq_true rfl)); clear hs; subst q) | skip)))
        all_goals first
          | exact rfl
          | exact fun _ => rfl
          | exact Eq.mp (congrArg PkW (pk_eq r _).symm) hrw
          | (show (toL eB r.2.length _).length ≤ _; rw [toL_len]; omega)
          | (show (toL eB (E.getD []).length _).length ≤ _; rw [toL_len]; omega)
          | (refine ⟨⟨2, by omega⟩, [], by first | omega | (dsimp only; omega) | decide, rfl, ?_, ?_⟩
             · repeat' (first | exact trivial | exact rfl | exact leF_ptr rfl | exact leF_int rfl | exact leF_bool rfl | exact leF_cl (cl_slB _ _) | exact leF_cl (cl_slR _ _) | exact leF_cl (cl_ll _ _) | exact leF_c (leC_os rfl rfl) | refine leF_int ?_ | refine leF_bool ?_ | exact leN_varA (fun _ _ => (Elem.flat _ _ _).le) | exact leN_varA (fun _ _ => leC_top) | apply And.intro)
             · repeat' (first | exact trivial | exact rfl | exact leF_ptr rfl | exact leF_int rfl | exact leF_bool rfl | exact leF_cl (cl_slB _ _) | exact leF_cl (cl_slR _ _) | exact leF_cl (cl_ll _ _) | exact leF_c (leC_os rfl rfl) | refine leF_int ?_ | refine leF_bool ?_ | exact leN_varA (fun _ _ => (Elem.flat _ _ _).le) | exact leN_varA (fun _ _ => leC_top) | apply And.intro)
               all_goals first
                 | exact leN_ents
                 | exact leN_row rfl fun i hi j hj => lst3_le rfl (cl_slR eB _ _ rfl)
                 | skip)
          | skip
      · dsimp only
        obtain ⟨E, eE⟩ : ∃ E, encR Y = E := ⟨_, rfl⟩
        obtain ⟨V, eV⟩ : ∃ V, validP Y = V := ⟨_, rfl⟩
        obtain ⟨Z, eZ⟩ : ∃ Z, sizeP Y = Z := ⟨_, rfl⟩
        obtain ⟨U, eU⟩ : ∃ U, sumP Y = U := ⟨_, rfl⟩
        have hEl : (E.getD []).length ≤ 1280 := by rw [← eE]; exact encR_len
        repeat' (first | (apply And.intro <;> intro hc <;> (first | exact Bool.noConfusion hc | (exfalso; first | exact absurd rfl hc | omega) | (simp only [decide_eq_true_eq, decide_eq_false_iff_not, Bool.not_eq_true', Bool.not_eq_false', beq_iff_eq, beq_eq_false_iff_ne, bne_iff_ne, bne_eq_false_iff_eq, Bool.true_eq_false, Bool.false_eq_true, ne_eq, not_true_eq_false] at hc <;> first | exact absurd rfl hc | (exfalso; first | exact absurd rfl hc | omega) | skip) | skip)) | (refine And.intro (by first | exact trivial | decide | omega | (dsimp only; omega) | exact fun _ _ => rfl | exact ⟨by assumption, by first | exact trivial | decide | omega | (dsimp only; omega)⟩) ?_) | (apply And.intro) | (intro s hs; (first | (have q : E = s := (hs.trans ((congrArg encR (pk_eq Y _)).trans eE)).symm; clear hs; subst q) | (have q : V = s := (hs.trans ((congrArg validP (pk_eq Y _)).trans eV)).symm; clear hs; subst q) | (have q : Z = s := (hs.trans ((congrArg sizeP (pk_eq Y _)).trans eZ)).symm; clear hs; subst q) | (have q : U = s := (hs.trans ((congrArg sumP (pk_eq Y _)).trans eU)).symm; clear hs; subst q) | (have q : s = true := (by (rw [hs]; dsimp only; exact decide_eq_true rfl)); clear hs; subst q) | skip)))
        all_goals first
          | exact rfl
          | exact fun _ => rfl
          | exact Eq.mp (congrArg PkW (pk_eq Y _).symm) hYw
          | (show (toL eB Y.2.length _).length ≤ _; rw [toL_len]; omega)
          | (show (toL eB (E.getD []).length _).length ≤ _; rw [toL_len]; omega)
          | (refine ⟨⟨3, by omega⟩, [], by first | omega | (dsimp only; omega) | decide, rfl, ?_, ?_⟩
             · repeat' (first | exact trivial | exact rfl | exact leF_ptr rfl | exact leF_int rfl | exact leF_bool rfl | exact leF_cl (cl_slB _ _) | exact leF_cl (cl_slR _ _) | exact leF_cl (cl_ll _ _) | exact leF_c (leC_os rfl rfl) | refine leF_int ?_ | refine leF_bool ?_ | exact leN_varA (fun _ _ => (Elem.flat _ _ _).le) | exact leN_varA (fun _ _ => leC_top) | apply And.intro)
             · repeat' (first | exact trivial | exact rfl | exact leF_ptr rfl | exact leF_int rfl | exact leF_bool rfl | exact leF_cl (cl_slB _ _) | exact leF_cl (cl_slR _ _) | exact leF_cl (cl_ll _ _) | exact leF_c (leC_os rfl rfl) | refine leF_int ?_ | refine leF_bool ?_ | exact leN_varA (fun _ _ => (Elem.flat _ _ _).le) | exact leN_varA (fun _ _ => leC_top) | apply And.intro)
               all_goals first
                 | exact leN_ents
                 | exact leN_row rfl fun i hi j hj => lst3_le rfl (cl_slR eB _ _ rfl)
                 | skip)
          | skip
      · dsimp only
        repeat' (first | (apply And.intro <;> intro hc <;> (first | exact Bool.noConfusion hc | (simp only [decide_eq_true_eq, decide_eq_false_iff_not, Bool.not_eq_true', Bool.not_eq_false', beq_iff_eq, beq_eq_false_iff_ne, bne_iff_ne, bne_eq_false_iff_eq, Bool.true_eq_false, Bool.false_eq_true, ne_eq, not_true_eq_false] at hc <;> first | exact absurd rfl hc | skip) | skip)) | (refine And.intro (by first | exact trivial | decide | omega | (dsimp only; omega) | exact fun _ _ => rfl | exact ⟨by assumption, by first | exact trivial | decide | omega | (dsimp only; omega)⟩) ?_) | (apply And.intro) | (intro s hs; (have q : s = true := hs; clear hs; subst q)))
        all_goals first
          | exact Done.mk (leF_bool rfl)
          | skip
      · omega
    · refine ⟨rfl, ?_, ?_⟩
      · repeat' (first | exact trivial | exact rfl | exact leF_ptr rfl | exact leF_int rfl | exact leF_bool rfl | exact leF_cl (cl_slB _ _) | exact leF_cl (cl_slR _ _) | exact leF_cl (cl_ll _ _) | exact leF_c (leC_os rfl rfl) | refine leF_int ?_ | refine leF_bool ?_ | exact leN_varA (fun _ _ => (Elem.flat _ _ _).le) | exact leN_varA (fun _ _ => leC_top) | apply And.intro)
      · repeat' (first | exact trivial | exact rfl | exact leF_ptr rfl | exact leF_int rfl | exact leF_bool rfl | exact leF_cl (cl_slB _ _) | exact leF_cl (cl_slR _ _) | exact leF_cl (cl_ll _ _) | exact leF_c (leC_os rfl rfl) | refine leF_int ?_ | refine leF_bool ?_ | exact leN_varA (fun _ _ => (Elem.flat _ _ _).le) | exact leN_varA (fun _ _ => leC_top) | apply And.intro)
        all_goals first
          | (refine leN_row rfl fun i hi j hj => ?_
             have hi : i < 3 := hi
             have hj : j < 39 := hj
             rcases i with _ | _ | _ | i
             · iterate 38 (rcases j with _ | j; exact leC_int rfl)
               rcases j with _ | j
               · exact cl_slR eB X.2 _ rfl
               · exact absurd hj (by omega)
             · iterate 38 (rcases j with _ | j; exact leC_int rfl)
               rcases j with _ | j
               · exact cl_slR eB r.2 _ rfl
               · exact absurd hj (by omega)
             · rw [eY]
               iterate 38 (rcases j with _ | j; exact leC_int rfl)
               rcases j with _ | j
               · exact (cl_slR eB _ _ rfl)
               · exact absurd hj (by omega)
             · omega)
          | (rw [eY]; exact leN_is (by simp) (isRow_rep _))
          | skip
  · obtain ⟨Y, eY⟩ : ∃ Y : Pkt, Y = (r.1, List.replicate (IntKind.i64.wrap (1230 + t20)).toNat 0) := ⟨_, rfl⟩
    have hYw : PkW Y := by rw [eY]; exact ⟨hrw.cls, hrw.flow, hrw.nxt, hrw.hops, hrw.src, hrw.dst, hrw.sp, hrw.dp, rep_BL _⟩
    have hYl : Y.2.length ≤ 5000 := by rw [eY]; first | (show r.2.length ≤ 5000; omega) | (simp; omega)
    refine loop_intro (mono_of LWp_ok) (fun z : {i : Nat // i ≤ 3} => (⟨[(6, one (.bool false)), (9, one (.os 29 0 3)), (10, one (.int .i64 (z.1 : Int)))], [(23, some (ents eB 5 Y.2)), (29, some ⟨28, 3, 39, false, lst3F X r Y.1 (.os 23 0 Y.2.length)⟩)], 32⟩ : Hd)) (fun z => 3 - z.1) (fun _ => rfl) ?_ ⟨0, by omega⟩ [] ?_
    · rintro ⟨i, hi⟩
      rcases i with _ | _ | _ | _ | i
      · dsimp only
        obtain ⟨E, eE⟩ : ∃ E, encR X = E := ⟨_, rfl⟩
        obtain ⟨V, eV⟩ : ∃ V, validP X = V := ⟨_, rfl⟩
        obtain ⟨Z, eZ⟩ : ∃ Z, sizeP X = Z := ⟨_, rfl⟩
        obtain ⟨U, eU⟩ : ∃ U, sumP X = U := ⟨_, rfl⟩
        have hEl : (E.getD []).length ≤ 1280 := by rw [← eE]; exact encR_len
        repeat' (first | (apply And.intro <;> intro hc <;> (first | exact Bool.noConfusion hc | (exfalso; first | exact absurd rfl hc | omega) | (simp only [decide_eq_true_eq, decide_eq_false_iff_not, Bool.not_eq_true', Bool.not_eq_false', beq_iff_eq, beq_eq_false_iff_ne, bne_iff_ne, bne_eq_false_iff_eq, Bool.true_eq_false, Bool.false_eq_true, ne_eq, not_true_eq_false] at hc <;> first | exact absurd rfl hc | (exfalso; first | exact absurd rfl hc | omega) | skip) | skip)) | (refine And.intro (by first | exact trivial | decide | omega | (dsimp only; omega) | exact fun _ _ => rfl | exact ⟨by assumption, by first | exact trivial | decide | omega | (dsimp only; omega)⟩) ?_) | (apply And.intro) | (intro s hs; (first | (have q : E = s := (hs.trans ((congrArg encR (pk_eq X _)).trans eE)).symm; clear hs; subst q) | (have q : V = s := (hs.trans ((congrArg validP (pk_eq X _)).trans eV)).symm; clear hs; subst q) | (have q : Z = s := (hs.trans ((congrArg sizeP (pk_eq X _)).trans eZ)).symm; clear hs; subst q) | (have q : U = s := (hs.trans ((congrArg sumP (pk_eq X _)).trans eU)).symm; clear hs; subst q) | (have q : s = true := (by (rw [hs]; dsimp only; exact decide_eq_true rfl)); clear hs; subst q) | skip)))
        all_goals first
          | exact rfl
          | exact fun _ => rfl
          | exact Eq.mp (congrArg PkW (pk_eq X _).symm) hXw
          | (show (toL eB X.2.length _).length ≤ _; rw [toL_len]; omega)
          | (show (toL eB (E.getD []).length _).length ≤ _; rw [toL_len]; omega)
          | (refine ⟨⟨1, by omega⟩, [], by first | omega | (dsimp only; omega) | decide, rfl, ?_, ?_⟩
             · repeat' (first | exact trivial | exact rfl | exact leF_ptr rfl | exact leF_int rfl | exact leF_bool rfl | exact leF_cl (cl_slB _ _) | exact leF_cl (cl_slR _ _) | exact leF_cl (cl_ll _ _) | exact leF_c (leC_os rfl rfl) | refine leF_int ?_ | refine leF_bool ?_ | exact leN_varA (fun _ _ => (Elem.flat _ _ _).le) | exact leN_varA (fun _ _ => leC_top) | apply And.intro)
             · repeat' (first | exact trivial | exact rfl | exact leF_ptr rfl | exact leF_int rfl | exact leF_bool rfl | exact leF_cl (cl_slB _ _) | exact leF_cl (cl_slR _ _) | exact leF_cl (cl_ll _ _) | exact leF_c (leC_os rfl rfl) | refine leF_int ?_ | refine leF_bool ?_ | exact leN_varA (fun _ _ => (Elem.flat _ _ _).le) | exact leN_varA (fun _ _ => leC_top) | apply And.intro)
               all_goals first
                 | exact leN_ents
                 | exact leN_row rfl fun i hi j hj => lst3_le rfl (leC_os rfl rfl)
                 | skip)
          | skip
      · dsimp only
        obtain ⟨E, eE⟩ : ∃ E, encR r = E := ⟨_, rfl⟩
        obtain ⟨V, eV⟩ : ∃ V, validP r = V := ⟨_, rfl⟩
        obtain ⟨Z, eZ⟩ : ∃ Z, sizeP r = Z := ⟨_, rfl⟩
        obtain ⟨U, eU⟩ : ∃ U, sumP r = U := ⟨_, rfl⟩
        have hEl : (E.getD []).length ≤ 1280 := by rw [← eE]; exact encR_len
        repeat' (first | (apply And.intro <;> intro hc <;> (first | exact Bool.noConfusion hc | (exfalso; first | exact absurd rfl hc | omega) | (simp only [decide_eq_true_eq, decide_eq_false_iff_not, Bool.not_eq_true', Bool.not_eq_false', beq_iff_eq, beq_eq_false_iff_ne, bne_iff_ne, bne_eq_false_iff_eq, Bool.true_eq_false, Bool.false_eq_true, ne_eq, not_true_eq_false] at hc <;> first | exact absurd rfl hc | (exfalso; first | exact absurd rfl hc | omega) | skip) | skip)) | (refine And.intro (by first | exact trivial | decide | omega | (dsimp only; omega) | exact fun _ _ => rfl | exact ⟨by assumption, by first | exact trivial | decide | omega | (dsimp only; omega)⟩) ?_) | (apply And.intro) | (intro s hs; (first | (have q : E = s := (hs.trans ((congrArg encR (pk_eq r _)).trans eE)).symm; clear hs; subst q) | (have q : V = s := (hs.trans ((congrArg validP (pk_eq r _)).trans eV)).symm; clear hs; subst q) | (have q : Z = s := (hs.trans ((congrArg sizeP (pk_eq r _)).trans eZ)).symm; clear hs; subst q) | (have q : U = s := (hs.trans ((congrArg sumP (pk_eq r _)).trans eU)).symm; clear hs; subst q) | (have q : s = true := (by (rw [hs]; dsimp only; exact decide_eq_true rfl)); clear hs; subst q) | skip)))
        all_goals first
          | exact rfl
          | exact fun _ => rfl
          | exact Eq.mp (congrArg PkW (pk_eq r _).symm) hrw
          | (show (toL eB r.2.length _).length ≤ _; rw [toL_len]; omega)
          | (show (toL eB (E.getD []).length _).length ≤ _; rw [toL_len]; omega)
          | (refine ⟨⟨2, by omega⟩, [], by first | omega | (dsimp only; omega) | decide, rfl, ?_, ?_⟩
             · repeat' (first | exact trivial | exact rfl | exact leF_ptr rfl | exact leF_int rfl | exact leF_bool rfl | exact leF_cl (cl_slB _ _) | exact leF_cl (cl_slR _ _) | exact leF_cl (cl_ll _ _) | exact leF_c (leC_os rfl rfl) | refine leF_int ?_ | refine leF_bool ?_ | exact leN_varA (fun _ _ => (Elem.flat _ _ _).le) | exact leN_varA (fun _ _ => leC_top) | apply And.intro)
             · repeat' (first | exact trivial | exact rfl | exact leF_ptr rfl | exact leF_int rfl | exact leF_bool rfl | exact leF_cl (cl_slB _ _) | exact leF_cl (cl_slR _ _) | exact leF_cl (cl_ll _ _) | exact leF_c (leC_os rfl rfl) | refine leF_int ?_ | refine leF_bool ?_ | exact leN_varA (fun _ _ => (Elem.flat _ _ _).le) | exact leN_varA (fun _ _ => leC_top) | apply And.intro)
               all_goals first
                 | exact leN_ents
                 | exact leN_row rfl fun i hi j hj => lst3_le rfl (leC_os rfl rfl)
                 | skip)
          | skip
      · dsimp only
        obtain ⟨E, eE⟩ : ∃ E, encR Y = E := ⟨_, rfl⟩
        obtain ⟨V, eV⟩ : ∃ V, validP Y = V := ⟨_, rfl⟩
        obtain ⟨Z, eZ⟩ : ∃ Z, sizeP Y = Z := ⟨_, rfl⟩
        obtain ⟨U, eU⟩ : ∃ U, sumP Y = U := ⟨_, rfl⟩
        have hEl : (E.getD []).length ≤ 1280 := by rw [← eE]; exact encR_len
        repeat' (first | (apply And.intro <;> intro hc <;> (first | exact Bool.noConfusion hc | (exfalso; first | exact absurd rfl hc | omega) | (simp only [decide_eq_true_eq, decide_eq_false_iff_not, Bool.not_eq_true', Bool.not_eq_false', beq_iff_eq, beq_eq_false_iff_ne, bne_iff_ne, bne_eq_false_iff_eq, Bool.true_eq_false, Bool.false_eq_true, ne_eq, not_true_eq_false] at hc <;> first | exact absurd rfl hc | (exfalso; first | exact absurd rfl hc | omega) | skip) | skip)) | (refine And.intro (by first | exact trivial | decide | omega | (dsimp only; omega) | exact fun _ _ => rfl | exact ⟨by assumption, by first | exact trivial | decide | omega | (dsimp only; omega)⟩) ?_) | (apply And.intro) | (intro s hs; (first | (have q : E = s := (hs.trans ((congrArg encR (pk_eq0 Y _)).trans eE)).symm; clear hs; subst q) | (have q : V = s := (hs.trans ((congrArg validP (pk_eq0 Y _)).trans eV)).symm; clear hs; subst q) | (have q : Z = s := (hs.trans ((congrArg sizeP (pk_eq0 Y _)).trans eZ)).symm; clear hs; subst q) | (have q : U = s := (hs.trans ((congrArg sumP (pk_eq0 Y _)).trans eU)).symm; clear hs; subst q) | (have q : s = true := (by (rw [hs]; dsimp only; exact decide_eq_true rfl)); clear hs; subst q) | skip)))
        all_goals first
          | exact rfl
          | exact fun _ => rfl
          | exact Eq.mp (congrArg PkW (pk_eq0 Y _).symm) hYw
          | (show (toL eB Y.2.length _).length ≤ _; rw [toL_len]; omega)
          | (show (toL eB (E.getD []).length _).length ≤ _; rw [toL_len]; omega)
          | (refine ⟨⟨3, by omega⟩, [], by first | omega | (dsimp only; omega) | decide, rfl, ?_, ?_⟩
             · repeat' (first | exact trivial | exact rfl | exact leF_ptr rfl | exact leF_int rfl | exact leF_bool rfl | exact leF_cl (cl_slB _ _) | exact leF_cl (cl_slR _ _) | exact leF_cl (cl_ll _ _) | exact leF_c (leC_os rfl rfl) | refine leF_int ?_ | refine leF_bool ?_ | exact leN_varA (fun _ _ => (Elem.flat _ _ _).le) | exact leN_varA (fun _ _ => leC_top) | apply And.intro)
             · repeat' (first | exact trivial | exact rfl | exact leF_ptr rfl | exact leF_int rfl | exact leF_bool rfl | exact leF_cl (cl_slB _ _) | exact leF_cl (cl_slR _ _) | exact leF_cl (cl_ll _ _) | exact leF_c (leC_os rfl rfl) | refine leF_int ?_ | refine leF_bool ?_ | exact leN_varA (fun _ _ => (Elem.flat _ _ _).le) | exact leN_varA (fun _ _ => leC_top) | apply And.intro)
               all_goals first
                 | exact leN_ents
                 | exact leN_row rfl fun i hi j hj => lst3_le rfl (leC_os rfl rfl)
                 | skip)
          | skip
      · dsimp only
        repeat' (first | (apply And.intro <;> intro hc <;> (first | exact Bool.noConfusion hc | (simp only [decide_eq_true_eq, decide_eq_false_iff_not, Bool.not_eq_true', Bool.not_eq_false', beq_iff_eq, beq_eq_false_iff_ne, bne_iff_ne, bne_eq_false_iff_eq, Bool.true_eq_false, Bool.false_eq_true, ne_eq, not_true_eq_false] at hc <;> first | exact absurd rfl hc | skip) | skip)) | (refine And.intro (by first | exact trivial | decide | omega | (dsimp only; omega) | exact fun _ _ => rfl | exact ⟨by assumption, by first | exact trivial | decide | omega | (dsimp only; omega)⟩) ?_) | (apply And.intro) | (intro s hs; (have q : s = true := hs; clear hs; subst q)))
        all_goals first
          | exact Done.mk (leF_bool rfl)
          | skip
      · omega
    · refine ⟨rfl, ?_, ?_⟩
      · repeat' (first | exact trivial | exact rfl | exact leF_ptr rfl | exact leF_int rfl | exact leF_bool rfl | exact leF_cl (cl_slB _ _) | exact leF_cl (cl_slR _ _) | exact leF_cl (cl_ll _ _) | exact leF_c (leC_os rfl rfl) | refine leF_int ?_ | refine leF_bool ?_ | exact leN_varA (fun _ _ => (Elem.flat _ _ _).le) | exact leN_varA (fun _ _ => leC_top) | apply And.intro)
      · repeat' (first | exact trivial | exact rfl | exact leF_ptr rfl | exact leF_int rfl | exact leF_bool rfl | exact leF_cl (cl_slB _ _) | exact leF_cl (cl_slR _ _) | exact leF_cl (cl_ll _ _) | exact leF_c (leC_os rfl rfl) | refine leF_int ?_ | refine leF_bool ?_ | exact leN_varA (fun _ _ => (Elem.flat _ _ _).le) | exact leN_varA (fun _ _ => leC_top) | apply And.intro)
        all_goals first
          | (refine leN_row rfl fun i hi j hj => ?_
             have hi : i < 3 := hi
             have hj : j < 39 := hj
             rcases i with _ | _ | _ | i
             · iterate 38 (rcases j with _ | j; exact leC_int rfl)
               rcases j with _ | j
               · exact cl_slR eB X.2 _ rfl
               · exact absurd hj (by omega)
             · iterate 38 (rcases j with _ | j; exact leC_int rfl)
               rcases j with _ | j
               · exact cl_slR eB r.2 _ rfl
               · exact absurd hj (by omega)
             · rw [eY]
               iterate 38 (rcases j with _ | j; exact leC_int rfl)
               rcases j with _ | j
               · exact leC_os rfl (by simp)
               · exact absurd hj (by omega)
             · omega)
          | (rw [eY]; exact leN_is (by simp) (isRow_rep _))
          | skip
  · obtain ⟨Y, eY⟩ : ∃ Y : Pkt, Y = ({ r.1 with sp := IntKind.u16.wrap (r.1.sp + 1) }, r.2) := ⟨_, rfl⟩
    have hYw : PkW Y := by rw [eY]; exact ⟨hrw.cls, hrw.flow, hrw.nxt, hrw.hops, hrw.src, hrw.dst, u16r' _, hrw.dp, hrw.pay⟩
    have hYl : Y.2.length ≤ 5000 := by rw [eY]; first | (show r.2.length ≤ 5000; omega) | (simp; omega)
    refine loop_intro (mono_of LWp_ok) (fun z : {i : Nat // i ≤ 3} => (⟨[(6, one (.bool false)), (9, one (.os 27 0 3)), (10, one (.int .i64 (z.1 : Int)))], [(27, some ⟨28, 3, 39, false, lst3F X r Y.1 (slR eB Y.2)⟩)], 30⟩ : Hd)) (fun z => 3 - z.1) (fun _ => rfl) ?_ ⟨0, by omega⟩ [] ?_
    · rintro ⟨i, hi⟩
      rcases i with _ | _ | _ | _ | i
      · dsimp only
        obtain ⟨E, eE⟩ : ∃ E, encR X = E := ⟨_, rfl⟩
        obtain ⟨V, eV⟩ : ∃ V, validP X = V := ⟨_, rfl⟩
        obtain ⟨Z, eZ⟩ : ∃ Z, sizeP X = Z := ⟨_, rfl⟩
        obtain ⟨U, eU⟩ : ∃ U, sumP X = U := ⟨_, rfl⟩
        have hEl : (E.getD []).length ≤ 1280 := by rw [← eE]; exact encR_len
        repeat' (first | (apply And.intro <;> intro hc <;> (first | exact Bool.noConfusion hc | (exfalso; first | exact absurd rfl hc | omega) | (simp only [decide_eq_true_eq, decide_eq_false_iff_not, Bool.not_eq_true', Bool.not_eq_false', beq_iff_eq, beq_eq_false_iff_ne, bne_iff_ne, bne_eq_false_iff_eq, Bool.true_eq_false, Bool.false_eq_true, ne_eq, not_true_eq_false] at hc <;> first | exact absurd rfl hc | (exfalso; first | exact absurd rfl hc | omega) | skip) | skip)) | (refine And.intro (by first | exact trivial | decide | omega | (dsimp only; omega) | exact fun _ _ => rfl | exact ⟨by assumption, by first | exact trivial | decide | omega | (dsimp only; omega)⟩) ?_) | (apply And.intro) | (intro s hs; (first | (have q : E = s := (hs.trans ((congrArg encR (pk_eq X _)).trans eE)).symm; clear hs; subst q) | (have q : V = s := (hs.trans ((congrArg validP (pk_eq X _)).trans eV)).symm; clear hs; subst q) | (have q : Z = s := (hs.trans ((congrArg sizeP (pk_eq X _)).trans eZ)).symm; clear hs; subst q) | (have q : U = s := (hs.trans ((congrArg sumP (pk_eq X _)).trans eU)).symm; clear hs; subst q) | (have q : s = true := (by (rw [hs]; dsimp only; exact decide_eq_true rfl)); clear hs; subst q) | skip)))
        all_goals first
          | exact rfl
          | exact fun _ => rfl
          | exact Eq.mp (congrArg PkW (pk_eq X _).symm) hXw
          | (show (toL eB X.2.length _).length ≤ _; rw [toL_len]; omega)
          | (show (toL eB (E.getD []).length _).length ≤ _; rw [toL_len]; omega)
          | (refine ⟨⟨1, by omega⟩, [], by first | omega | (dsimp only; omega) | decide, rfl, ?_, ?_⟩
             · repeat' (first | exact trivial | exact rfl | exact leF_ptr rfl | exact leF_int rfl | exact leF_bool rfl | exact leF_cl (cl_slB _ _) | exact leF_cl (cl_slR _ _) | exact leF_cl (cl_ll _ _) | exact leF_c (leC_os rfl rfl) | refine leF_int ?_ | refine leF_bool ?_ | exact leN_varA (fun _ _ => (Elem.flat _ _ _).le) | exact leN_varA (fun _ _ => leC_top) | apply And.intro)
             · repeat' (first | exact trivial | exact rfl | exact leF_ptr rfl | exact leF_int rfl | exact leF_bool rfl | exact leF_cl (cl_slB _ _) | exact leF_cl (cl_slR _ _) | exact leF_cl (cl_ll _ _) | exact leF_c (leC_os rfl rfl) | refine leF_int ?_ | refine leF_bool ?_ | exact leN_varA (fun _ _ => (Elem.flat _ _ _).le) | exact leN_varA (fun _ _ => leC_top) | apply And.intro)
               all_goals first
                 | exact leN_ents
                 | exact leN_row rfl fun i hi j hj => lst3_le rfl (cl_slR eB _ _ rfl)
                 | skip)
          | skip
      · dsimp only
        obtain ⟨E, eE⟩ : ∃ E, encR r = E := ⟨_, rfl⟩
        obtain ⟨V, eV⟩ : ∃ V, validP r = V := ⟨_, rfl⟩
        obtain ⟨Z, eZ⟩ : ∃ Z, sizeP r = Z := ⟨_, rfl⟩
        obtain ⟨U, eU⟩ : ∃ U, sumP r = U := ⟨_, rfl⟩
        have hEl : (E.getD []).length ≤ 1280 := by rw [← eE]; exact encR_len
        repeat' (first | (apply And.intro <;> intro hc <;> (first | exact Bool.noConfusion hc | (exfalso; first | exact absurd rfl hc | omega) | (simp only [decide_eq_true_eq, decide_eq_false_iff_not, Bool.not_eq_true', Bool.not_eq_false', beq_iff_eq, beq_eq_false_iff_ne, bne_iff_ne, bne_eq_false_iff_eq, Bool.true_eq_false, Bool.false_eq_true, ne_eq, not_true_eq_false] at hc <;> first | exact absurd rfl hc | (exfalso; first | exact absurd rfl hc | omega) | skip) | skip)) | (refine And.intro (by first | exact trivial | decide | omega | (dsimp only; omega) | exact fun _ _ => rfl | exact ⟨by assumption, by first | exact trivial | decide | omega | (dsimp only; omega)⟩) ?_) | (apply And.intro) | (intro s hs; (first | (have q : E = s := (hs.trans ((congrArg encR (pk_eq r _)).trans eE)).symm; clear hs; subst q) | (have q : V = s := (hs.trans ((congrArg validP (pk_eq r _)).trans eV)).symm; clear hs; subst q) | (have q : Z = s := (hs.trans ((congrArg sizeP (pk_eq r _)).trans eZ)).symm; clear hs; subst q) | (have q : U = s := (hs.trans ((congrArg sumP (pk_eq r _)).trans eU)).symm; clear hs; subst q) | (have q : s = true := (by (rw [hs]; dsimp only; exact decide_eq_true rfl)); clear hs; subst q) | skip)))
        all_goals first
          | exact rfl
          | exact fun _ => rfl
          | exact Eq.mp (congrArg PkW (pk_eq r _).symm) hrw
          | (show (toL eB r.2.length _).length ≤ _; rw [toL_len]; omega)
          | (show (toL eB (E.getD []).length _).length ≤ _; rw [toL_len]; omega)
          | (refine ⟨⟨2, by omega⟩, [], by first | omega | (dsimp only; omega) | decide, rfl, ?_, ?_⟩
             · repeat' (first | exact trivial | exact rfl | exact leF_ptr rfl | exact leF_int rfl | exact leF_bool rfl | exact leF_cl (cl_slB _ _) | exact leF_cl (cl_slR _ _) | exact leF_cl (cl_ll _ _) | exact leF_c (leC_os rfl rfl) | refine leF_int ?_ | refine leF_bool ?_ | exact leN_varA (fun _ _ => (Elem.flat _ _ _).le) | exact leN_varA (fun _ _ => leC_top) | apply And.intro)
             · repeat' (first | exact trivial | exact rfl | exact leF_ptr rfl | exact leF_int rfl | exact leF_bool rfl | exact leF_cl (cl_slB _ _) | exact leF_cl (cl_slR _ _) | exact leF_cl (cl_ll _ _) | exact leF_c (leC_os rfl rfl) | refine leF_int ?_ | refine leF_bool ?_ | exact leN_varA (fun _ _ => (Elem.flat _ _ _).le) | exact leN_varA (fun _ _ => leC_top) | apply And.intro)
               all_goals first
                 | exact leN_ents
                 | exact leN_row rfl fun i hi j hj => lst3_le rfl (cl_slR eB _ _ rfl)
                 | skip)
          | skip
      · dsimp only
        obtain ⟨E, eE⟩ : ∃ E, encR Y = E := ⟨_, rfl⟩
        obtain ⟨V, eV⟩ : ∃ V, validP Y = V := ⟨_, rfl⟩
        obtain ⟨Z, eZ⟩ : ∃ Z, sizeP Y = Z := ⟨_, rfl⟩
        obtain ⟨U, eU⟩ : ∃ U, sumP Y = U := ⟨_, rfl⟩
        have hEl : (E.getD []).length ≤ 1280 := by rw [← eE]; exact encR_len
        repeat' (first | (apply And.intro <;> intro hc <;> (first | exact Bool.noConfusion hc | (exfalso; first | exact absurd rfl hc | omega) | (simp only [decide_eq_true_eq, decide_eq_false_iff_not, Bool.not_eq_true', Bool.not_eq_false', beq_iff_eq, beq_eq_false_iff_ne, bne_iff_ne, bne_eq_false_iff_eq, Bool.true_eq_false, Bool.false_eq_true, ne_eq, not_true_eq_false] at hc <;> first | exact absurd rfl hc | (exfalso; first | exact absurd rfl hc | omega) | skip) | skip)) | (refine And.intro (by first | exact trivial | decide | omega | (dsimp only; omega) | exact fun _ _ => rfl | exact ⟨by assumption, by first | exact trivial | decide | omega | (dsimp only; omega)⟩) ?_) | (apply And.intro) | (intro s hs; (first | (have q : E = s := (hs.trans ((congrArg encR (pk_eq Y _)).trans eE)).symm; clear hs; subst q) | (have q : V = s := (hs.trans ((congrArg validP (pk_eq Y _)).trans eV)).symm; clear hs; subst q) | (have q : Z = s := (hs.trans ((congrArg sizeP (pk_eq Y _)).trans eZ)).symm; clear hs; subst q) | (have q : U = s := (hs.trans ((congrArg sumP (pk_eq Y _)).trans eU)).symm; clear hs; subst q) | (have q : s = true := (by (rw [hs]; dsimp only; exact decide_eq_true rfl)); clear hs; subst q) | skip)))
        all_goals first
          | exact rfl
          | exact fun _ => rfl
          | exact Eq.mp (congrArg PkW (pk_eq Y _).symm) hYw
          | (show (toL eB Y.2.length _).length ≤ _; rw [toL_len]; omega)
          | (show (toL eB (E.getD []).length _).length ≤ _; rw [toL_len]; omega)
          | (refine ⟨⟨3, by omega⟩, [], by first | omega | (dsimp only; omega) | decide, rfl, ?_, ?_⟩
             · repeat' (first | exact trivial | exact rfl | exact leF_ptr rfl | exact leF_int rfl | exact leF_bool rfl | exact leF_cl (cl_slB _ _) | exact leF_cl (cl_slR _ _) | exact leF_cl (cl_ll _ _) | exact leF_c (leC_os rfl rfl) | refine leF_int ?_ | refine leF_bool ?_ | exact leN_varA (fun _ _ => (Elem.flat _ _ _).le) | exact leN_varA (fun _ _ => leC_top) | apply And.intro)
             · repeat' (first | exact trivial | exact rfl | exact leF_ptr rfl | exact leF_int rfl | exact leF_bool rfl | exact leF_cl (cl_slB _ _) | exact leF_cl (cl_slR _ _) | exact leF_cl (cl_ll _ _) | exact leF_c (leC_os rfl rfl) | refine leF_int ?_ | refine leF_bool ?_ | exact leN_varA (fun _ _ => (Elem.flat _ _ _).le) | exact leN_varA (fun _ _ => leC_top) | apply And.intro)
               all_goals first
                 | exact leN_ents
                 | exact leN_row rfl fun i hi j hj => lst3_le rfl (cl_slR eB _ _ rfl)
                 | skip)
          | skip
      · dsimp only
        repeat' (first | (apply And.intro <;> intro hc <;> (first | exact Bool.noConfusion hc | (simp only [decide_eq_true_eq, decide_eq_false_iff_not, Bool.not_eq_true', Bool.not_eq_false', beq_iff_eq, beq_eq_false_iff_ne, bne_iff_ne, bne_eq_false_iff_eq, Bool.true_eq_false, Bool.false_eq_true, ne_eq, not_true_eq_false] at hc <;> first | exact absurd rfl hc | skip) | skip)) | (refine And.intro (by first | exact trivial | decide | omega | (dsimp only; omega) | exact fun _ _ => rfl | exact ⟨by assumption, by first | exact trivial | decide | omega | (dsimp only; omega)⟩) ?_) | (apply And.intro) | (intro s hs; (have q : s = true := hs; clear hs; subst q)))
        all_goals first
          | exact Done.mk (leF_bool rfl)
          | skip
      · omega
    · refine ⟨rfl, ?_, ?_⟩
      · repeat' (first | exact trivial | exact rfl | exact leF_ptr rfl | exact leF_int rfl | exact leF_bool rfl | exact leF_cl (cl_slB _ _) | exact leF_cl (cl_slR _ _) | exact leF_cl (cl_ll _ _) | exact leF_c (leC_os rfl rfl) | refine leF_int ?_ | refine leF_bool ?_ | exact leN_varA (fun _ _ => (Elem.flat _ _ _).le) | exact leN_varA (fun _ _ => leC_top) | apply And.intro)
      · repeat' (first | exact trivial | exact rfl | exact leF_ptr rfl | exact leF_int rfl | exact leF_bool rfl | exact leF_cl (cl_slB _ _) | exact leF_cl (cl_slR _ _) | exact leF_cl (cl_ll _ _) | exact leF_c (leC_os rfl rfl) | refine leF_int ?_ | refine leF_bool ?_ | exact leN_varA (fun _ _ => (Elem.flat _ _ _).le) | exact leN_varA (fun _ _ => leC_top) | apply And.intro)
        all_goals first
          | (refine leN_row rfl fun i hi j hj => ?_
             have hi : i < 3 := hi
             have hj : j < 39 := hj
             rcases i with _ | _ | _ | i
             · iterate 38 (rcases j with _ | j; exact leC_int rfl)
               rcases j with _ | j
               · exact cl_slR eB X.2 _ rfl
               · exact absurd hj (by omega)
             · iterate 38 (rcases j with _ | j; exact leC_int rfl)
               rcases j with _ | j
               · exact cl_slR eB r.2 _ rfl
               · exact absurd hj (by omega)
             · rw [eY]
               iterate 38 (rcases j with _ | j; exact leC_int rfl)
               rcases j with _ | j
               · exact (cl_slR eB _ _ rfl)
               · exact absurd hj (by omega)
             · omega)
          | (rw [eY]; exact leN_is (by simp) (isRow_rep _))
          | skip
end Go.Proofs.Ytjknkfjhcapocaa.AX
