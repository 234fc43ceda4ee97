/- Layer 24: Add, Link, Smooth, known; the makers Cost, Base, Time, Options; Clone (by AX2). -/
import Derived.Test.YtolliidpmgncdaaNm3
import Derived.Laws.Cover3
import Derived.WalkKit
namespace Go.Proofs.Ytolliidpmgncdaa.AX
open Go.RowKit
set_option linter.unusedVariables false
set_option linter.unusedSimpArgs false
theorem add_ok : PureOk Try.prog 31 [(cI .i64).enc 65000, (cI .i64).enc 600] ((cI .i64).enc 65535) := by
  refine pure_intro (wd := 1) (Q := mkQ LX0) (by decide) tysOk (q_of LX0_ok) mixed Try.func31 rfl _ (by show 2 ≤ _; decide) _ ?_
  repeat' (first | (apply And.intro <;> intro hc <;> (first | exact Bool.noConfusion hc | (simp only [decide_eq_true_eq, decide_eq_false_iff_not, Bool.not_eq_true', Bool.not_eq_false', beq_iff_eq, beq_eq_false_iff_ne, bne_iff_ne, bne_eq_false_iff_eq, Bool.true_eq_false, Bool.false_eq_true, ne_eq, not_true_eq_false] at hc <;> first | exact absurd rfl hc | skip) | skip)) | (refine And.intro (by first | exact trivial | decide | omega | (dsimp only; omega) | exact fun _ _ => rfl | exact ⟨by assumption, by first | exact trivial | decide | omega | (dsimp only; omega)⟩) ?_) | (apply And.intro) | (intro s hs; (have hs' : s = true := hs); clear hs; subst hs'))
  exact Done.mk (leF_int rfl)
theorem link_ok : PureOk Try.prog 33 [(cI .i64).enc 256, (cI .i64).enc 300] ((cI .i64).enc 300) := by
  refine pure_intro (wd := 1) (Q := mkQ LX0) (by decide) tysOk (q_of LX0_ok) mixed Try.func33 rfl _ (by show 2 ≤ _; decide) _ ?_
  repeat' (first | (apply And.intro <;> intro hc <;> (first | exact Bool.noConfusion hc | (simp only [decide_eq_true_eq, decide_eq_false_iff_not, Bool.not_eq_true', Bool.not_eq_false', beq_iff_eq, beq_eq_false_iff_ne, bne_iff_ne, bne_eq_false_iff_eq, Bool.true_eq_false, Bool.false_eq_true, ne_eq, not_true_eq_false] at hc <;> first | exact absurd rfl hc | skip) | skip)) | (refine And.intro (by first | exact trivial | decide | omega | (dsimp only; omega) | exact fun _ _ => rfl | exact ⟨by assumption, by first | exact trivial | decide | omega | (dsimp only; omega)⟩) ?_) | (apply And.intro) | (intro s hs; (have hs' : s = true := hs); clear hs; subst hs'))
  all_goals first
    | exact Done.mk (leF_int rfl)
    | (exfalso; omega)
theorem smooth_ok : PureOk Try.prog 35 [(cI .i64).enc 256, (cI .i64).enc 266] ((cI .i64).enc 259) := by
  refine pure_intro (wd := 1) (Q := mkQ LX0) (by decide) tysOk (q_of LX0_ok) mixed Try.func35 rfl _ (by show 2 ≤ _; decide) _ ?_
  repeat' (first | (apply And.intro <;> intro hc <;> (first | exact Bool.noConfusion hc | (simp only [decide_eq_true_eq, decide_eq_false_iff_not, Bool.not_eq_true', Bool.not_eq_false', beq_iff_eq, beq_eq_false_iff_ne, bne_iff_ne, bne_eq_false_iff_eq, Bool.true_eq_false, Bool.false_eq_true, ne_eq, not_true_eq_false] at hc <;> first | exact absurd rfl hc | skip) | skip)) | (refine And.intro (by first | exact trivial | decide | omega | (dsimp only; omega) | exact fun _ _ => rfl | exact ⟨by assumption, by first | exact trivial | decide | omega | (dsimp only; omega)⟩) ?_) | (apply And.intro) | (intro s hs; (have hs' : s = true := hs); clear hs; subst hs'))
  all_goals first
    | exact Done.mk (leF_int rfl)
    | (exfalso; omega)
abbrev chE : Entry := pureE (AC.cons (cI .i64) (AC.cons (cE eCh) (AC.cons (cSl eOp eOp_sz) AC.nil))) (fun a => a.2.2.1.length ≤ 8796093022208) (fun a => chooseF a.1 a.2.1 a.2.2.1) encCE
abbrev I2 : AC (Int × Int × Unit) := AC.cons (cI .i64) (AC.cons (cI .i64) AC.nil)
def LX3 : CsL := (39, some chE) :: (57, some chE) :: (31, some (pureE I2 (fun a => a.1 = 65000 ∧ a.2.1 = 600) (fun _ => (65535 : Int)) (cI .i64).enc)) ::
  (33, some (pureE I2 (fun a => a.1 = 256 ∧ a.2.1 = 300) (fun _ => (300 : Int)) (cI .i64).enc)) :: (35, some (pureE I2 (fun a => a.1 = 256 ∧ a.2.1 = 266) (fun _ => (259 : Int)) (cI .i64).enc)) :: LX1
theorem LX3_ok : AllOk Try.prog LX3 := ⟨pureE_ok ⟨_, Try.func39, rfl, by kernel_rfl⟩ fun a h => choose_ok a.1 a.2.1 a.2.2.1 h, pureE_ok ⟨_, Try.func57, rfl, by kernel_rfl⟩ fun a h => rchoose_ok a.1 a.2.1 a.2.2.1 h,
  pureE_ok ⟨_, Try.func31, rfl, by kernel_rfl⟩ fun a h => by obtain ⟨x, y, u⟩ := a; obtain ⟨h1, h2⟩ := h; have h1' : x = 65000 := h1; have h2' : y = 600 := h2; subst h1' h2'; exact add_ok,
  pureE_ok ⟨_, Try.func33, rfl, by kernel_rfl⟩ fun a h => by obtain ⟨x, y, u⟩ := a; obtain ⟨h1, h2⟩ := h; have h1' : x = 256 := h1; have h2' : y = 300 := h2; subst h1' h2'; exact link_ok,
  pureE_ok ⟨_, Try.func35, rfl, by kernel_rfl⟩ fun a h => by obtain ⟨x, y, u⟩ := a; obtain ⟨h1, h2⟩ := h; have h1' : x = 256 := h1; have h2' : y = 266 := h2; subst h1' h2'; exact smooth_ok, LX1_ok⟩
def kch : Cho × Int := chooseF 5 ⟨1, 300, -1⟩ [⟨1, 300⟩, ⟨2, 290⟩]
theorem kn24 : kch.2 = 0 ∧ (kch.1.nb == 1 && (kch.1.cost == 300 && (kch.1.bt == 5 && true))) = true := by decide +kernel
set_option maxHeartbeats 4000000 in
set_option maxRecDepth 10000 in
theorem known24_ok : PureOk Try.prog 37 [] (cB.enc true) := by
  obtain ⟨k1, k2⟩ := kn24
  refine pure_intro (wd := 1) (Q := mkQ LX3) (by decide) tysOk (q_of LX3_ok) mixed Try.func37 rfl _ (by show 0 ≤ _; decide) _ ?_
  repeat' (first | (apply And.intro <;> intro hc <;> (first | exact Bool.noConfusion hc | (simp only [decide_eq_true_eq, decide_eq_false_iff_not, Bool.not_eq_true', Bool.not_eq_false', beq_iff_eq, beq_eq_false_iff_ne, bne_iff_ne, bne_eq_false_iff_eq, Bool.true_eq_false, Bool.false_eq_true, ne_eq, not_true_eq_false] at hc <;> first | exact absurd rfl hc | skip) | skip)) | (refine And.intro (by first | exact trivial | decide | omega | (dsimp only; omega) | exact fun _ _ => rfl | exact ⟨by assumption, by first | exact trivial | decide | omega | (dsimp only; omega)⟩) ?_) | (apply And.intro) | (intro s hs; (first | (have hs' : s = kch := hs) | (have hs' : s = (65535 : Int) := hs) | (have hs' : s = (300 : Int) := hs) | (have hs' : s = (259 : Int) := hs)); clear hs; subst hs'))
  all_goals first
    | (exfalso; rename ¬ kch.2 = 0 => h; exact h k1)
    | (exfalso
       have h : (kch.1.nb == 1 && (kch.1.cost == 300 && (kch.1.bt == 5 && true))) = false := by assumption
       rw [k2] at h; cases h)
    | exact Done.mk (leF_bool rfl)
    | exact fun _ => rfl
    | (show (2 : Nat) ≤ _; omega)
    | (intro h; rcases (show s = 0 ∨ s = 1 by omega) with rfl | rfl <;> rfl)
theorem base_ok (n : Nat) (l : List Int) (q : Int) (ht : TapeOk n (rI l) q) :
    ∃ (r q' : Int), (0 ≤ r ∧ r ≤ 1099511627776) ∧ TapeOk n (rI l) q' ∧ MethOk Try.prog 21 [] (tapeN n (rI l) q) ((cI .i64).enc r) (tapeN n (rI l) q') := by
  refine tape_intro (wd := 1) (Q := mkQ LTb) (by decide) tysOk (q_of LTb_ok) mixed Try.func21 rfl _ (by show 0 + 1 ≤ _; decide) (fun _ => nff_int) ?_
  repeat' (first | (apply And.intro <;> intro hc <;> (first | exact Bool.noConfusion hc | (simp only [decide_eq_true_eq, decide_eq_false_iff_not, Bool.not_eq_true', Bool.not_eq_false', beq_iff_eq, beq_eq_false_iff_ne, bne_iff_ne, bne_eq_false_iff_eq, Bool.true_eq_false, Bool.false_eq_true] at hc) | skip)) | (refine And.intro (by first | exact trivial | decide | omega | (dsimp only; omega) | exact fun _ _ => rfl | exact ⟨by assumption, by first | exact trivial | decide | omega | (dsimp only; omega)⟩) ?_) | (apply And.intro) | (intro s hs))
  · rename_i r hr
    have hr' : 0 ≤ r ∧ r < 5 := hr
    exact ⟨(r, _), ⟨⟨by omega, by omega⟩, by assumption⟩, ⟨leF_int rfl, tapeN_le⟩⟩
  · rename_i r hr
    have hr' : 0 ≤ r ∧ r < 40 := hr
    exact ⟨(1099511627776 - r, _), ⟨⟨by omega, by omega⟩, by assumption⟩, ⟨leF_int (IntWalk.i64_in _ (by omega)), tapeN_le⟩⟩
  · rename_i r hr
    have hr' : 0 ≤ r ∧ r < 1000 := hr
    exact ⟨(r, _), ⟨⟨by omega, by omega⟩, by assumption⟩, ⟨leF_int rfl, tapeN_le⟩⟩
theorem time_ok (n : Nat) (l : List Int) (q b : Int) (ht : TapeOk n (rI l) q) (hb : 0 ≤ b ∧ b ≤ 1099511627776) :
    ∃ (r q' : Int), (0 ≤ r ∧ r ≤ 1099511627776) ∧ TapeOk n (rI l) q' ∧ MethOk Try.prog 26 [(cI .i64).enc b] (tapeN n (rI l) q) ((cI .i64).enc r) (tapeN n (rI l) q') := by
  refine tape_intro (wd := 1) (Q := mkQ LTb) (by decide) tysOk (q_of LTb_ok) mixed Try.func26 rfl _ (by show 1 + 1 ≤ _; decide) (fun _ => nff_int) ?_
  repeat' (first | (apply And.intro <;> intro hc <;> (first | exact Bool.noConfusion hc | (simp only [decide_eq_true_eq, decide_eq_false_iff_not, Bool.not_eq_true', Bool.not_eq_false', beq_iff_eq, beq_eq_false_iff_ne, bne_iff_ne, bne_eq_false_iff_eq, Bool.true_eq_false, Bool.false_eq_true] at hc) | skip)) | (refine And.intro (by first | exact trivial | decide | omega | (dsimp only; omega) | exact fun _ _ => rfl | exact ⟨by assumption, by first | exact trivial | decide | omega | (dsimp only; omega)⟩) ?_) | (apply And.intro) | (intro s hs))
  rename_i r hr
  have hr' : 0 ≤ r ∧ r < 60 := hr
  refine ⟨(max 0 (min 1099511627776 (b + r - 30)), _), ⟨⟨by omega, by omega⟩, by assumption⟩, ⟨leF_int ?_, tapeN_le⟩⟩
  rw [IntWalk.i64_in (b + r) (by omega), IntWalk.i64_in (b + r - 30) (by omega)]
  split <;> split <;> omega
theorem cost_ok (n : Nat) (l : List Int) (q : Int) (ht : TapeOk n (rI l) q) :
    ∃ (r q' : Int), (0 ≤ r ∧ r < 65535) ∧ TapeOk n (rI l) q' ∧ MethOk Try.prog 28 [] (tapeN n (rI l) q) ((cI .i64).enc r) (tapeN n (rI l) q') := by
  refine tape_intro (wd := 1) (Q := mkQ LTb) (by decide) tysOk (q_of LTb_ok) mixed Try.func28 rfl _ (by show 0 + 1 ≤ _; decide) (fun _ => nff_int) ?_
  repeat' (first | (apply And.intro <;> intro hc <;> (first | exact Bool.noConfusion hc | (simp only [decide_eq_true_eq, decide_eq_false_iff_not, Bool.not_eq_true', Bool.not_eq_false', beq_iff_eq, beq_eq_false_iff_ne, bne_iff_ne, bne_eq_false_iff_eq, Bool.true_eq_false, Bool.false_eq_true] at hc) | skip)) | (refine And.intro (by first | exact trivial | decide | omega | (dsimp only; omega) | exact fun _ _ => rfl | exact ⟨by assumption, by first | exact trivial | decide | omega | (dsimp only; omega)⟩) ?_) | (apply And.intro) | (intro s hs))
  · rename_i r hr
    have hr' : 0 ≤ r ∧ r < 4 := hr
    exact ⟨(r, _), ⟨⟨by omega, by omega⟩, by assumption⟩, ⟨leF_int rfl, tapeN_le⟩⟩
  · rename_i r hr
    have hr' : 0 ≤ r ∧ r < 600 := hr
    exact ⟨(65534 - r, _), ⟨⟨by omega, by omega⟩, by assumption⟩, ⟨leF_int (IntWalk.i64_in _ (by omega)), tapeN_le⟩⟩
  · rename_i r hr
    have hr' : 0 ≤ r ∧ r < 30 := hr
    refine ⟨(256 + 32 * r, _), ⟨⟨by omega, by omega⟩, by assumption⟩, ⟨leF_int ?_, tapeN_le⟩⟩
    rw [IntWalk.i64_in (32 * r) (by omega)]
    exact IntWalk.i64_in _ (by omega)
abbrev baseE : Entry := tapeE AC.nil (fun _ => True) (fun a (r : Int) => 0 ≤ r ∧ r ≤ 1099511627776) (cI .i64).enc
abbrev timeE : Entry := tapeE (AC.cons (cI .i64) AC.nil) (fun a => 0 ≤ a.1 ∧ a.1 ≤ 1099511627776) (fun a (r : Int) => 0 ≤ r ∧ r ≤ 1099511627776) (cI .i64).enc
abbrev costE : Entry := tapeE AC.nil (fun _ => True) (fun a (r : Int) => 0 ≤ r ∧ r < 65535) (cI .i64).enc
def LY0 : CsL := (21, some baseE) :: (26, some timeE) :: (28, some costE) :: LTb
theorem LY0_ok : AllOk Try.prog LY0 := ⟨tapeE_ok ⟨_, Try.func21, rfl, by kernel_rfl⟩ fun n l q a ht hp => base_ok n l q ht, tapeE_ok ⟨_, Try.func26, rfl, by kernel_rfl⟩ fun n l q a ht hp => time_ok n l q a.1 ht hp, tapeE_ok ⟨_, Try.func28, rfl, by kernel_rfl⟩ fun n l q a ht hp => cost_ok n l q ht, LTb_ok⟩
theorem nff_op {L : List Opt} : NFF (.e (.c (slR eOp L))) := nff_c (nf_sl fun i _ j _ => (eOp.flat _ _).nf)
theorem vo_snoc {x : Opt} (h1 : opOk x = true) : ∀ (L : List Opt) (p : Option Int), voF p L = true → (∀ o ∈ L, o.nb < x.nb) → ordN p x.nb = true → voF p (L ++ [x]) = true := by
  intro L
  induction L with
  | nil => intro p _ _ hb; simp [voF, h1, hb]
  | cons c L ih =>
    intro p hv hid hb
    rw [voF] at hv
    simp only [Bool.and_eq_true] at hv
    rw [List.cons_append, voF]
    simp only [Bool.and_eq_true]
    refine ⟨hv.1, ih _ hv.2 (fun o ho => hid o (by simp [ho])) ?_⟩
    simp only [ordN, decide_eq_true_eq]
    exact hid c (by simp)
structure OpS (n : Nat) (l : List Int) where
  k : Nat
  L : List Opt
  q : Int
  hk : 1 ≤ k ∧ k ≤ 6
  hv : voF none L = true
  hid : ∀ o ∈ L, o.nb < k
  hn : L.length < k
  ht : TapeOk n (rI l) q
set_option maxHeartbeats 4000000 in
set_option maxRecDepth 10000 in
theorem options_ok (n : Nat) (l : List Int) (q : Int) (ht : TapeOk n (rI l) q) :
    ∃ (r : List Opt) (q' : Int), vopts r = true ∧ TapeOk n (rI l) q' ∧ MethOk Try.prog 38 [] (tapeN n (rI l) q) (.e (.c (slR eOp r))) (tapeN n (rI l) q') := by
  refine tape_intro (enc := fun r => .e (.c (slR eOp r))) (wd := 1) (Q := mkQ LY0) (by decide) tysOk (q_of LY0_ok) mixed Try.func38 rfl _ (by show 0 + 1 ≤ _; decide) (fun _ => nff_op) ?_
  refine loop_intro (mono_of LY0_ok) (fun s : OpS n l => (⟨[(0, one (.ptr 0 0 0 false)), (3, one (.os 7 0 s.L.length)), (4, one (.int .i64 (s.k : Int)))],
    [(0, some (tapeN n (rI l) s.q)), (7, some (ents eOp 61 s.L))], 8⟩ : Hd)) (fun s => 6 - s.k) (fun _ => rfl) ?_ ⟨1, [], q, by omega, rfl, by simp, by simp, ht⟩ [(7, none)] ?_
  · rintro ⟨k, L, q1, hk, hv, hid, hn, ht1⟩
    dsimp only at hk hv hid hn ⊢
    have wk : IntKind.u64.wrap (k : Int) = (k : Int) := IntWalk.u64_in _ (by omega)
    repeat' (first | (apply And.intro <;> intro hc <;> (first | exact Bool.noConfusion hc | (simp only [decide_eq_true_eq, decide_eq_false_iff_not, Bool.not_eq_true', Bool.not_eq_false', beq_iff_eq, beq_eq_false_iff_ne, bne_iff_ne, bne_eq_false_iff_eq, Bool.true_eq_false, Bool.false_eq_true] at hc) | skip)) | (refine And.intro (by first | exact trivial | decide | omega | (dsimp only; omega) | exact fun _ _ => rfl | exact ⟨by assumption, by first | exact trivial | decide | omega | (dsimp only; omega)⟩) ?_) | (apply And.intro) | (intro s hs))
    · rename_i sb hsb q2 hq2 c hc0 q3 hq3 sb2 hsb2
      refine ⟨⟨k + 1, L ++ [⟨k, 65535⟩], _, by omega, ?_, ?_, by simp; omega, by assumption⟩, [(7, some 24)], by dsimp only; omega, rfl, ?_, ?_⟩
      · exact vo_snoc (by simp [opOk, mvl]; omega) L none hv hid rfl
      · intro o ho
        rcases List.mem_append.1 ho with h | h
        · have := hid o h; omega
        · rw [List.mem_singleton.1 h]; show (k : Int) < ((k + 1 : Nat) : Int); omega
      · repeat' (first | exact trivial | exact rfl | exact leF_ptr rfl | exact leF_int rfl | exact leF_bool rfl | exact leF_cl (cl_slB _ _) | exact leF_cl (cl_slR _ _) | exact leF_c (leC_os rfl rfl) | refine leF_int ?_ | refine leF_bool ?_ | exact leN_varA (fun _ _ => (Elem.flat _ _ _).le) | exact leN_varA (fun _ _ => leC_top) | apply And.intro)
        · exact leF_c (leC_os rfl (by simp))
        · (dsimp only; rw [IntWalk.i64_in _ (by omega)]; omega)
      · repeat' (first | exact trivial | exact rfl | exact leF_ptr rfl | exact leF_int rfl | exact leF_bool rfl | exact leF_cl (cl_slB _ _) | exact leF_cl (cl_slR _ _) | exact leF_c (leC_os rfl rfl) | refine leF_int ?_ | refine leF_bool ?_ | exact leN_varA (fun _ _ => (Elem.flat _ _ _).le) | exact leN_varA (fun _ _ => leC_top) | apply And.intro)
        · exact tapeN_le
        · (change LeN _ _ _; refine leN_snoc (E := eOp) (L := L) (x := ⟨k, 65535⟩) rfl (fun i hi j hj => selC_in (Nat.ble_eq_true_of_le hi) (Elem.flat _ _ _).le) ?_; repeat' (first | exact trivial | (refine selC_out (blt_self _) ?_; rw [Nat.sub_self]; first | exact leC_int wk | exact leC_int rfl) | apply And.intro))
    · rename_i sb hsb q2 hq2 c hc0 q3 hq3 sb2 hsb2
      have hc0' : 0 ≤ c ∧ c < 65535 := hc0
      refine ⟨⟨k + 1, L ++ [⟨k, c⟩], _, by omega, ?_, ?_, by simp; omega, by assumption⟩, [(7, some 23)], by dsimp only; omega, rfl, ?_, ?_⟩
      · exact vo_snoc (by simp [opOk, mvl]; omega) L none hv hid rfl
      · intro o ho
        rcases List.mem_append.1 ho with h | h
        · have := hid o h; omega
        · rw [List.mem_singleton.1 h]; show (k : Int) < ((k + 1 : Nat) : Int); omega
      · repeat' (first | exact trivial | exact rfl | exact leF_ptr rfl | exact leF_int rfl | exact leF_bool rfl | exact leF_cl (cl_slB _ _) | exact leF_cl (cl_slR _ _) | exact leF_c (leC_os rfl rfl) | refine leF_int ?_ | refine leF_bool ?_ | exact leN_varA (fun _ _ => (Elem.flat _ _ _).le) | exact leN_varA (fun _ _ => leC_top) | apply And.intro)
        · exact leF_c (leC_os rfl (by simp))
        · (dsimp only; rw [IntWalk.i64_in _ (by omega)]; omega)
      · repeat' (first | exact trivial | exact rfl | exact leF_ptr rfl | exact leF_int rfl | exact leF_bool rfl | exact leF_cl (cl_slB _ _) | exact leF_cl (cl_slR _ _) | exact leF_c (leC_os rfl rfl) | refine leF_int ?_ | refine leF_bool ?_ | exact leN_varA (fun _ _ => (Elem.flat _ _ _).le) | exact leN_varA (fun _ _ => leC_top) | apply And.intro)
        · exact tapeN_le
        · (change LeN _ _ _; refine leN_snoc (E := eOp) (L := L) (x := ⟨k, c⟩) rfl (fun i hi j hj => selC_in (Nat.ble_eq_true_of_le hi) (Elem.flat _ _ _).le) ?_; repeat' (first | exact trivial | (refine selC_out (blt_self _) ?_; rw [Nat.sub_self]; first | exact leC_int wk | exact leC_int rfl) | apply And.intro))
    · refine ⟨⟨k + 1, L, _, by omega, hv, fun o ho => by have := hid o ho; omega, by omega, by assumption⟩, [], by dsimp only; omega, rfl, ?_, ?_⟩
      · repeat' (first | exact trivial | exact rfl | exact leF_ptr rfl | exact leF_int rfl | exact leF_bool rfl | exact leF_cl (cl_slB _ _) | exact leF_cl (cl_slR _ _) | exact leF_c (leC_os rfl rfl) | refine leF_int ?_ | refine leF_bool ?_ | exact leN_varA (fun _ _ => (Elem.flat _ _ _).le) | exact leN_varA (fun _ _ => leC_top) | apply And.intro)
        (dsimp only; rw [IntWalk.i64_in _ (by omega)]; omega)
      · repeat' (first | exact trivial | exact rfl | exact leF_ptr rfl | exact leF_int rfl | exact leF_bool rfl | exact leF_cl (cl_slB _ _) | exact leF_cl (cl_slR _ _) | exact leF_c (leC_os rfl rfl) | refine leF_int ?_ | refine leF_bool ?_ | exact leN_varA (fun _ _ => (Elem.flat _ _ _).le) | exact leN_varA (fun _ _ => leC_top) | apply And.intro)
        · exact tapeN_le
        · exact leN_ents
    · refine ⟨(L, _), ⟨?_, ht1⟩, ⟨leF_c (leC_row_fin rfl rfl), tapeN_le⟩⟩
      show vopts L = true
      unfold vopts
      rw [hv, decide_eq_true (by omega)]; rfl
  · refine ⟨rfl, ?_, ?_⟩
    · repeat' (first | exact trivial | exact rfl | exact leF_ptr rfl | exact leF_int rfl | exact leF_bool rfl | exact leF_cl (cl_slB _ _) | exact leF_cl (cl_slR _ _) | exact leF_c (leC_os rfl rfl) | refine leF_int ?_ | refine leF_bool ?_ | exact leN_varA (fun _ _ => (Elem.flat _ _ _).le) | exact leN_varA (fun _ _ => leC_top) | apply And.intro)
      exact leF_c (leC_nils_os rfl)
    · repeat' (first | exact trivial | exact rfl | exact leF_ptr rfl | exact leF_int rfl | exact leF_bool rfl | exact leF_cl (cl_slB _ _) | exact leF_cl (cl_slR _ _) | exact leF_c (leC_os rfl rfl) | refine leF_int ?_ | refine leF_bool ?_ | exact leN_varA (fun _ _ => (Elem.flat _ _ _).le) | exact leN_varA (fun _ _ => leC_top) | apply And.intro)
      · exact tapeN_le
      · exact eOp_sz
end Go.Proofs.Ytolliidpmgncdaa.AX
