/- Layer 36: slices.Equal, Base, Time, Bindings, home, binds (by AX2). -/
import Derived.Test.YtcnfjifokeancaaRm2
namespace Go.Proofs.Ytcnfjifokeancaa.AX
open Go.RowKit
set_option linter.unusedVariables false
set_option linter.unusedSimpArgs false
theorem minT_vt {now life : Int} (h : vt now = true) (h1 : 0 ≤ life) (h2 : life ≤ 60) : vt (minT now life) = true := by
  unfold vt at h ⊢
  simp only [Bool.and_eq_true, decide_eq_true_eq] at h ⊢
  unfold minT
  split <;> omega
theorem bind_valid {l : List Bd} {now life : Int} {b : Bd} (h : (bindF l now b life).2 = 0) : bvalid (bindF l now b life).1 = true := by
  unfold bindF at h ⊢
  split at h
  · rename_i h1
    rw [if_pos h1]
    split at h
    · rename_i h2
      rw [if_pos h2]
      cases hb : bindL now { b with til := minT now life } false l with
      | none => rw [hb] at h; exact absurd h (by decide)
      | some out =>
        rw [hb] at h
        unfold bindE at h ⊢
        simp only at h ⊢
        split at h
        · rename_i h3
          rw [if_pos h3]
          have hv := h1.1
          unfold bvalid at hv ⊢
          simp only [Bool.and_eq_true, decide_eq_true_eq] at hv ⊢
          refine ⟨h3, bind_bv ?_ hv.2 rfl hb⟩
          unfold bdOk
          simp only [h1.2, h2.2.1, minT_vt h2.1 h2.2.2.1 h2.2.2.2]; rfl
        · exact absurd h (by decide)
    · exact absurd h (by decide)
  · exact absurd h (by decide)
theorem bind_bd {l : List Bd} {now life : Int} {b : Bd} (hl : bdL l) (h1 : byteOk b.home) (h2 : byteOk b.place) : bdL (bindF l now b life).1 ∧ (bindF l now b life).1.length ≤ 32 := by
  have nil : bdL ([] : List Bd) ∧ ([] : List Bd).length ≤ 32 := ⟨⟨fun b hb => (by cases hb), by simp⟩, by simp⟩
  unfold bindF
  split
  · split
    · cases hb : bindL now { b with til := minT now life } false l with
      | none => exact nil
      | some out =>
        unfold bindE
        simp only
        split
        · rename_i h3
          refine ⟨⟨fun x hx => ?_, by show out.length ≤ _; omega⟩, h3⟩
          rcases bind_mem hb x hx with h | h
          · subst h; exact ⟨h1, h2⟩
          · exact hl.b x h
        · exact nil
    · exact nil
  · exact nil
/-! ### slices.Equal -/
theorem bdC_eq {c d : Bd} (h : eqFrom (eBd.cell c) (eBd.cell d) 34 0 = true) : c = d := by
  rw [eqFrom_iff] at h
  simp only [Nat.zero_add] at h
  obtain ⟨a1, a2, a3, a4⟩ := c
  obtain ⟨b1, b2, b3, b4⟩ := d
  have e1 : a1 = b1 := by
    funext q
    have := h (0 + q.1) (by omega)
    rw [eBd_home_at _ _ q.2, eBd_home_at _ _ q.2] at this
    simp only [eqCell, beq_iff_eq] at this
    rw [vget_lt _ q.2, vget_lt _ q.2] at this
    exact this
  have e2 : a2 = b2 := by
    funext q
    have := h (16 + q.1) (by omega)
    rw [eBd_place_at _ _ q.2, eBd_place_at _ _ q.2] at this
    simp only [eqCell, beq_iff_eq] at this
    rw [vget_lt _ q.2, vget_lt _ q.2] at this
    exact this
  have e3 : a3 = b3 := by simpa [eqCell] using (show eqCell (.int .i64 a3) (.int .i64 b3) = true from h 32 (by omega))
  have e4 : a4 = b4 := by simpa [eqCell] using (show eqCell (.int .i64 a4) (.int .i64 b4) = true from h 33 (by omega))
  rw [e1, e2, e3, e4]
theorem bdC_refl (c : Bd) : eqFrom (eBd.cell c) (eBd.cell c) 34 0 = true := by
  rw [eqFrom_iff]
  intro i _
  show eqCell (eBdC c (0 + i)) (eBdC c (0 + i)) = true
  unfold eBdC
  cases Nat.blt (0 + i) 16 <;> cases Nat.blt (0 + i) 32 <;> cases Nat.beq (0 + i) 32 <;> simp [eqCell]
set_option maxHeartbeats 4000000 in
set_option maxRecDepth 10000 in
theorem equal_ok (a : List Bd) (ha : a.length ≤ 2932031007317) : PureOk Try.prog 59 [(cSl eBd eBd_sz).enc a, (cSl eBd eBd_sz).enc a] (cB.enc true) := by
  refine pure_intro (wd := 1) (Q := mkQ LE0) (by decide) tysOk (q_of LE0_ok) mixed Try.func59 rfl _ (by show 2 ≤ _; decide) _ ?_
  repeat' (first | (apply And.intro <;> intro hc <;> (first | exact Bool.noConfusion hc | (simp only [decide_eq_true_eq, decide_eq_false_iff_not, Bool.not_eq_true', Bool.not_eq_false', beq_iff_eq, beq_eq_false_iff_ne, bne_iff_ne, bne_eq_false_iff_eq, Bool.true_eq_false, Bool.false_eq_true] at hc) | skip)) | (refine And.intro (by first | exact trivial | decide | omega | (dsimp only; omega) | exact fun _ _ => rfl) ?_) | (apply And.intro) | (intro s hs))
  · exact absurd rfl (by assumption)
  refine loop_intro (mono_of LE0_ok) (fun i : {i : Nat // i ≤ a.length} => (⟨[(0, one (.sl false a.length eBd.sz (rowF eBd a))), (1, one (.sl false a.length eBd.sz (rowF eBd a))), (12, one (.int .i64 (a.length : Int))), (13, one (.int .i64 (i.1 : Int)))], [], 30⟩ : Hd)) (fun i => a.length - i.1) (fun _ => rfl) ?_ ⟨0, by omega⟩ [] ?_
  · rintro ⟨i, hi⟩
    dsimp only at hi ⊢
    repeat' (first | (apply And.intro <;> intro hc <;> (first | exact Bool.noConfusion hc | (simp only [decide_eq_true_eq, decide_eq_false_iff_not, Bool.not_eq_true', Bool.not_eq_false', beq_iff_eq, beq_eq_false_iff_ne, bne_iff_ne, bne_eq_false_iff_eq, Bool.true_eq_false, Bool.false_eq_true] at hc) | skip)) | (refine And.intro (by first | exact trivial | decide | omega | (dsimp only; omega) | exact fun _ _ => rfl) ?_) | (apply And.intro) | (intro s hs))
    all_goals first
      | (exfalso
         have h : eqFrom (eBd.cell (a.getD i default)) (eBd.cell (a.getD i default)) 34 0 = false := by assumption
         rw [bdC_refl] at h
         exact Bool.noConfusion h)
      | (refine ⟨⟨i + 1, by omega⟩, [], by dsimp only; omega, rfl, ?_, ?_⟩
         · repeat' (first | exact trivial | exact rfl | exact leF_ptr rfl | exact leF_int rfl | exact leF_bool rfl | exact leF_cl (cl_slB _ _) | exact leF_cl (cl_slR _ _) | exact leF_c (leC_os rfl rfl) | refine leF_int ?_ | refine leF_bool ?_ | exact leN_varA (fun _ _ => (Elem.flat _ _ _).le) | exact leN_varA (fun _ _ => leC_top) | apply And.intro)
           (dsimp only; rw [IntWalk.i64_in _ (by omega)]; omega)
         · repeat' (first | exact trivial | exact rfl | exact leF_ptr rfl | exact leF_int rfl | exact leF_bool rfl | exact leF_cl (cl_slB _ _) | exact leF_cl (cl_slR _ _) | exact leF_c (leC_os rfl rfl) | refine leF_int ?_ | refine leF_bool ?_ | exact leN_varA (fun _ _ => (Elem.flat _ _ _).le) | exact leN_varA (fun _ _ => leC_top) | apply And.intro))
      | exact Done.mk (leF_bool rfl)
  · refine ⟨rfl, ?_, ?_⟩
    · repeat' (first | exact trivial | exact rfl | exact leF_ptr rfl | exact leF_int rfl | exact leF_bool rfl | exact leF_cl (cl_slB _ _) | exact leF_cl (cl_slR _ _) | exact leF_c (leC_os rfl rfl) | refine leF_int ?_ | refine leF_bool ?_ | exact leN_varA (fun _ _ => (Elem.flat _ _ _).le) | exact leN_varA (fun _ _ => leC_top) | apply And.intro)
    · repeat' (first | exact trivial | exact rfl | exact leF_ptr rfl | exact leF_int rfl | exact leF_bool rfl | exact leF_cl (cl_slB _ _) | exact leF_cl (cl_slR _ _) | exact leF_c (leC_os rfl rfl) | refine leF_int ?_ | refine leF_bool ?_ | exact leN_varA (fun _ _ => (Elem.flat _ _ _).le) | exact leN_varA (fun _ _ => leC_top) | apply And.intro)
/-! ### the makers -/
theorem base_ok (n : Nat) (l : List Int) (q : Int) (ht : TapeOk n (rI l) q) :
    ∃ (r q' : Int), (0 ≤ r ∧ r ≤ 1099511627776) ∧ TapeOk n (rI l) q' ∧ MethOk Try.prog 31 [] (tapeN n (rI l) q) ((cI .i64).enc r) (tapeN n (rI l) q') := by
  refine tape_intro (wd := 1) (Q := mkQ LT1) (by decide) tysOk (q_of LT1_ok) mixed Try.func31 rfl _ (by show 0 + 1 ≤ _; decide) (fun _ => nff_int) ?_
  repeat' (first | (apply And.intro <;> intro hc <;> (first | exact Bool.noConfusion hc | (simp only [decide_eq_true_eq, decide_eq_false_iff_not, Bool.not_eq_true', Bool.not_eq_false', beq_iff_eq, beq_eq_false_iff_ne, bne_iff_ne, bne_eq_false_iff_eq, Bool.true_eq_false, Bool.false_eq_true] at hc) | skip)) | (refine And.intro (by first | exact trivial | decide | omega | (dsimp only; omega) | exact fun _ _ => rfl | exact ⟨by assumption, by first | exact trivial | decide | omega | (dsimp only; omega)⟩) ?_) | (apply And.intro) | (intro s hs))
  · rename_i r hr
    have hr' : 0 ≤ r ∧ r < 5 := hr
    exact ⟨(r, _), ⟨⟨by omega, by omega⟩, by assumption⟩, ⟨leF_int rfl, tapeN_le⟩⟩
  · rename_i r hr
    have hr' : 0 ≤ r ∧ r < 40 := hr
    exact ⟨(1099511627776 - r, _), ⟨⟨by omega, by omega⟩, by assumption⟩, ⟨leF_int (IntWalk.i64_in _ (by omega)), tapeN_le⟩⟩
  · rename_i r hr
    have hr' : 0 ≤ r ∧ r < 1000 := hr
    exact ⟨(r, _), ⟨⟨by omega, by omega⟩, by assumption⟩, ⟨leF_int rfl, tapeN_le⟩⟩
theorem time_ok (n : Nat) (l : List Int) (q b : Int) (ht : TapeOk n (rI l) q) (hb : 0 ≤ b ∧ b ≤ 1099511627776) :
    ∃ (r q' : Int), (0 ≤ r ∧ r ≤ 1099511627776) ∧ TapeOk n (rI l) q' ∧ MethOk Try.prog 35 [(cI .i64).enc b] (tapeN n (rI l) q) ((cI .i64).enc r) (tapeN n (rI l) q') := by
  refine tape_intro (wd := 1) (Q := mkQ LT1) (by decide) tysOk (q_of LT1_ok) mixed Try.func35 rfl _ (by show 1 + 1 ≤ _; decide) (fun _ => nff_int) ?_
  repeat' (first | (apply And.intro <;> intro hc <;> (first | exact Bool.noConfusion hc | (simp only [decide_eq_true_eq, decide_eq_false_iff_not, Bool.not_eq_true', Bool.not_eq_false', beq_iff_eq, beq_eq_false_iff_ne, bne_iff_ne, bne_eq_false_iff_eq, Bool.true_eq_false, Bool.false_eq_true] at hc) | skip)) | (refine And.intro (by first | exact trivial | decide | omega | (dsimp only; omega) | exact fun _ _ => rfl | exact ⟨by assumption, by first | exact trivial | decide | omega | (dsimp only; omega)⟩) ?_) | (apply And.intro) | (intro s hs))
  rename_i r hr
  have hr' : 0 ≤ r ∧ r < 60 := hr
  refine ⟨(max 0 (min 1099511627776 (b + r - 30)), _), ⟨⟨by omega, by omega⟩, by assumption⟩, ⟨leF_int ?_, tapeN_le⟩⟩
  rw [IntWalk.i64_in (b + r) (by omega), IntWalk.i64_in (b + r - 30) (by omega)]
  split <;> split <;> omega
abbrev baseE : Entry := tapeE AC.nil (fun _ => True) (fun a (r : Int) => 0 ≤ r ∧ r ≤ 1099511627776) (cI .i64).enc
abbrev timeE : Entry := tapeE (AC.cons (cI .i64) AC.nil) (fun a => 0 ≤ a.1 ∧ a.1 ≤ 1099511627776) (fun a (r : Int) => 0 ≤ r ∧ r ≤ 1099511627776) (cI .i64).enc
def LN2 : CsL := (31, some baseE) :: (35, some timeE) ::
  (58, some (pureE (AC.cons (cSl eBd eBd_sz) (AC.cons (cI .i64) (AC.cons (cE eBd) (AC.cons (cI .i64) AC.nil)))) (fun a => (bdL a.1 ∧ byteOk a.2.2.1.home) ∧ (-9223372036854775808 ≤ a.2.2.2.1 ∧ a.2.2.2.1 ≤ 9223372036854775807)) (fun a => bindF a.1 a.2.1 a.2.2.1 a.2.2.2.1) encBE)) :: (LN1 ++ LM3)
theorem LN2_ok : AllOk Try.prog LN2 := ⟨tapeE_ok ⟨_, Try.func31, rfl, by kernel_rfl⟩ fun n l q a ht hp => base_ok n l q ht, tapeE_ok ⟨_, Try.func35, rfl, by kernel_rfl⟩ fun n l q a ht hp => time_ok n l q a.1 ht hp, pureE_ok ⟨_, Try.func58, rfl, by kernel_rfl⟩ fun a h => rbind_ok a.1 a.2.1 a.2.2.1 a.2.2.2.1 h.1.1 h.1.2 h.2, append_ok LN1_ok LM3_ok⟩
theorem nff_bd {L : List Bd} : NFF (.e (.c (slR eBd L))) := nff_c (nf_sl fun i _ j _ => (eBd.flat _ _).nf)
structure mkB (L : List Bd) : Prop where
  d : bdL L
  v : bvalid L = true
structure BgS (n : Nat) (l : List Int) where
  k : Nat
  L : List Bd
  q : Int
  hk : k ≤ 7
  h : mkB L
  ht : TapeOk n (rI l) q
theorem bd_eq4 {g : Nat → CV} {a r : Fin 16 → Int} {s t : Int} (h1 : allLt 16 fun q => g (0 + q) = .int .u8 (vget a q)) (h2 : allLt 16 fun q => g (16 + q) = .int .u8 (vget r q)) (h3 : g 32 = .int .i64 s) (h4 : g 33 = .int .i64 t) : eBd.rd g = ⟨a, r, s, t⟩ := bd_rd (allLt_at h1) (allLt_at h2) h3 h4
theorem by_home {g : Nat → CV} {a : Fin 16 → Int} (h1 : allLt 16 fun q => g (0 + q) = .int .u8 (vget a q)) (hb : byteOk a) : byteOk (eBd.rd g).home := ⟨fun q => by
  show 0 ≤ valI (g (0 + q.1)) ∧ valI (g (0 + q.1)) < 256
  rw [allLt_at h1 q.1 q.2]
  show 0 ≤ vget a q.1 ∧ vget a q.1 < 256
  rw [vget_lt _ q.2]
  exact hb.q q⟩
set_option maxHeartbeats 4000000 in
set_option maxRecDepth 10000 in
theorem bindings_ok (n : Nat) (l : List Int) (q now : Int) (ht : TapeOk n (rI l) q) (hnow : 0 ≤ now ∧ now ≤ 1099511627776) :
    ∃ (r : List Bd) (q' : Int), mkB r ∧ TapeOk n (rI l) q' ∧ MethOk Try.prog 32 [(cI .i64).enc now] (tapeN n (rI l) q) (.e (.c (slR eBd r))) (tapeN n (rI l) q') := by
  refine tape_intro (enc := fun r => .e (.c (slR eBd r))) (wd := 1) (Q := mkQ LN2) (by decide) tysOk (q_of LN2_ok) mixed Try.func32 rfl _ (by show 1 + 1 ≤ _; decide) (fun _ => nff_bd) ?_
  repeat' (first | (apply And.intro <;> intro hc <;> (first | exact Bool.noConfusion hc | (simp only [decide_eq_true_eq, decide_eq_false_iff_not, Bool.not_eq_true', Bool.not_eq_false', beq_iff_eq, beq_eq_false_iff_ne, bne_iff_ne, bne_eq_false_iff_eq, Bool.true_eq_false, Bool.false_eq_true] at hc) | skip)) | (refine And.intro (by first | exact trivial | decide | omega | (dsimp only; omega) | exact fun _ _ => rfl | exact ⟨by assumption, by first | exact trivial | decide | omega | (dsimp only; omega)⟩) ?_) | (apply And.intro) | (intro s hs))
  rename_i k0 hk0
  have hk0' : 0 ≤ k0 ∧ k0 < 8 := hk0
  refine loop_intro (mono_of LN2_ok) (fun s : BgS n l => (⟨[(0, one (.ptr 0 0 0 false)), (1, one (.int .i64 now)), (5, one (slR eBd s.L)), (6, one (.int .i64 (s.k : Int)))],
    [(0, some (tapeN n (rI l) s.q))], 8⟩ : Hd)) (fun s => s.k) (fun _ => rfl) ?_ ⟨k0.toNat, [], _, by omega, ⟨⟨fun b hb => (by cases hb), by simp⟩, rfl⟩, hs⟩ [] ?_
  · rintro ⟨k, L, q1, hk, hL, ht1⟩
    dsimp only at hk ⊢
    repeat' (first | (apply And.intro <;> intro hc <;> (first | exact Bool.noConfusion hc | (simp only [decide_eq_true_eq, decide_eq_false_iff_not, Bool.not_eq_true', Bool.not_eq_false', beq_iff_eq, beq_eq_false_iff_ne, bne_iff_ne, bne_eq_false_iff_eq, Bool.true_eq_false, Bool.false_eq_true] at hc) | skip)) | (refine And.intro (by first | exact trivial | decide | omega | (dsimp only; omega) | exact fun _ _ => rfl | exact ⟨by assumption, by first | exact trivial | decide | omega | (dsimp only; omega)⟩) ?_) | (apply And.intro) | (intro s hs))
    · dsimp only; rw [toL_bd]; exact hL.d
    · rename_i tm htm q2 hq2 r1 hr1 q3 hq3 r2 hr2 q4 hq4 sq hsq q5 hq5 lf hlf
      refine by_home (a := r1) ?_ hr1.1
      repeat' (first | exact trivial | exact rfl | apply And.intro)
    · rename_i tm htm q2 hq2 r1 hr1 q3 hq3 r2 hr2 q4 hq4 sq hsq q5 hq5 lf hlf
      have hlf' : 0 ≤ lf ∧ lf < 61 := hlf
      first
        | (show (-9223372036854775808 : Int) ≤ lf; omega)
        | (show lf ≤ (9223372036854775807 : Int); omega)
    · rename_i tm htm q2 hq2 r1 hr1 q3 hq3 r2 hr2 q4 hq4 sq hsq q5 hq5 lf hlf q6 hq6
      have hs' : s = bindF L tm ⟨r1, r2, sq, 0⟩ lf := by
        rw [hs]; dsimp only; refine bind_congr (toL_bd _) (bd_eq4 ?_ ?_ rfl rfl) <;> (repeat' (first | exact trivial | exact rfl | apply And.intro))
      refine ⟨⟨k - 1, s.1, _, by omega, ⟨by rw [hs']; exact (bind_bd hL.d hr1.1 hr2.1).1, by rw [hs']; exact bind_valid (by rw [← hs']; exact hc)⟩, hq6⟩, [], by dsimp only; omega, rfl, ?_, ?_⟩
      · repeat' (first | exact trivial | exact rfl | exact leF_ptr rfl | exact leF_int rfl | exact leF_bool rfl | exact leF_cl (cl_slB _ _) | exact leF_cl (cl_slR _ _) | exact leF_c (leC_os rfl rfl) | refine leF_int ?_ | refine leF_bool ?_ | exact leN_varA (fun _ _ => (Elem.flat _ _ _).le) | exact leN_varA (fun _ _ => leC_top) | apply And.intro)
        (dsimp only; rw [IntWalk.i64_in _ (by omega)]; omega)
      · repeat' (first | exact trivial | exact rfl | exact leF_ptr rfl | exact leF_int rfl | exact leF_bool rfl | exact leF_cl (cl_slB _ _) | exact leF_cl (cl_slR _ _) | exact leF_c (leC_os rfl rfl) | refine leF_int ?_ | refine leF_bool ?_ | exact leN_varA (fun _ _ => (Elem.flat _ _ _).le) | exact leN_varA (fun _ _ => leC_top) | apply And.intro)
        exact tapeN_le
    · rename_i tm htm q2 hq2 r1 hr1 q3 hq3 r2 hr2 q4 hq4 sq hsq q5 hq5 lf hlf q6 hq6
      refine ⟨⟨k - 1, L, _, by omega, hL, hq6⟩, [], by dsimp only; omega, rfl, ?_, ?_⟩
      · repeat' (first | exact trivial | exact rfl | exact leF_ptr rfl | exact leF_int rfl | exact leF_bool rfl | exact leF_cl (cl_slB _ _) | exact leF_cl (cl_slR _ _) | exact leF_c (leC_os rfl rfl) | refine leF_int ?_ | refine leF_bool ?_ | exact leN_varA (fun _ _ => (Elem.flat _ _ _).le) | exact leN_varA (fun _ _ => leC_top) | apply And.intro)
        (dsimp only; rw [IntWalk.i64_in _ (by omega)]; omega)
      · repeat' (first | exact trivial | exact rfl | exact leF_ptr rfl | exact leF_int rfl | exact leF_bool rfl | exact leF_cl (cl_slB _ _) | exact leF_cl (cl_slR _ _) | exact leF_c (leC_os rfl rfl) | refine leF_int ?_ | refine leF_bool ?_ | exact leN_varA (fun _ _ => (Elem.flat _ _ _).le) | exact leN_varA (fun _ _ => leC_top) | apply And.intro)
        exact tapeN_le
    · exact ⟨(L, _), ⟨hL, ht1⟩, ⟨leF_c (leC_sl (fun _ => rfl) rfl rfl fun i _ j _ => (eBd.flat _ _).le), tapeN_le⟩⟩
  · refine ⟨rfl, ?_, ?_⟩
    · repeat' (first | exact trivial | exact rfl | exact leF_ptr rfl | exact leF_int rfl | exact leF_bool rfl | exact leF_cl (cl_slB _ _) | exact leF_cl (cl_slR _ _) | exact leF_c (leC_os rfl rfl) | refine leF_int ?_ | refine leF_bool ?_ | exact leN_varA (fun _ _ => (Elem.flat _ _ _).le) | exact leN_varA (fun _ _ => leC_top) | apply And.intro)
      all_goals first
        | exact leF_c (leC_nils_sl rfl)
        | (dsimp only; omega)
        | skip
    · repeat' (first | exact trivial | exact rfl | exact leF_ptr rfl | exact leF_int rfl | exact leF_bool rfl | exact leF_cl (cl_slB _ _) | exact leF_cl (cl_slR _ _) | exact leF_c (leC_os rfl rfl) | refine leF_int ?_ | refine leF_bool ?_ | exact leN_varA (fun _ _ => (Elem.flat _ _ _).le) | exact leN_varA (fun _ _ => leC_top) | apply And.intro)
      exact tapeN_le
/-! ### home, binds -/
set_option maxRecDepth 10000 in
theorem home_ok' (n : Nat) (l : List Int) (q : Int) (L : List Bd) (ht : TapeOk n (rI l) q) (hL : bdL L) :
    ∃ (r : Fin 16 → Int) (q' : Int), byteOk r ∧ TapeOk n (rI l) q' ∧ MethOk Try.prog 33 [(cSl eBd eBd_sz).enc L] (tapeN n (rI l) q) ((cE (eA .u8 16)).enc r) (tapeN n (rI l) q') := by
  have hn := hL.n
  refine tape_intro (wd := 1) (Q := mkQ LN2) (by decide) tysOk (q_of LN2_ok) mixed Try.func33 rfl _ (by show 1 + 1 ≤ _; decide) (nff_elem (eA .u8 16)) ?_
  repeat' (first | (apply And.intro <;> intro hc <;> (first | exact Bool.noConfusion hc | (simp only [decide_eq_true_eq, decide_eq_false_iff_not, Bool.not_eq_true', Bool.not_eq_false', beq_iff_eq, beq_eq_false_iff_ne, bne_iff_ne, bne_eq_false_iff_eq, Bool.true_eq_false, Bool.false_eq_true] at hc) | skip)) | (refine And.intro (by first | exact trivial | decide | omega | (dsimp only; omega) | exact fun _ _ => rfl | exact ⟨by assumption, by first | exact trivial | decide | omega | (dsimp only; omega)⟩) ?_) | (apply And.intro) | (intro s hs))
  · rename_i ix hix
    have hix' : 0 ≤ ix ∧ ix < (L.length : Int) := hix
    exact ⟨((L.getD ix.toNat default).home, _), ⟨(hL.b _ (memB (by omega))).1, by assumption⟩, ⟨leF_e (leE_all (by repeat' (first | exact trivial | exact rfl | exact leC_int rfl | exact leC_bool rfl | refine leE_all ?_ | exact leC_bool (by assumption) | apply And.intro))), tapeN_le⟩⟩
  · rename_i r hr
    exact ⟨(r, _), ⟨hr.1, by assumption⟩, ⟨leF_e (leE_all (by repeat' (first | exact trivial | exact rfl | exact leC_int rfl | exact leC_bool rfl | refine leE_all ?_ | exact leC_bool (by assumption) | apply And.intro))), tapeN_le⟩⟩
  · rename_i r hr
    exact ⟨(r, _), ⟨hr.1, by assumption⟩, ⟨leF_e (leE_all (by repeat' (first | exact trivial | exact rfl | exact leC_int rfl | exact leC_bool rfl | refine leE_all ?_ | exact leC_bool (by assumption) | apply And.intro))), tapeN_le⟩⟩
theorem same_bd {a b : List Bd} (h : a = b) : a = b := h
abbrev eqBE : Entry := pureE (AC.cons (cSl eBd eBd_sz) (AC.cons (cSl eBd eBd_sz) AC.nil)) (fun a => a.1 = a.2.1 ∧ a.1.length ≤ 2932031007317) (fun _ => true) cB.enc
def LN3 : CsL := (59, some eqBE) :: LN2
theorem LN3_ok : AllOk Try.prog LN3 := ⟨pureE_ok ⟨_, Try.func59, rfl, by kernel_rfl⟩ fun a h => by
  obtain ⟨x, y, u⟩ := a
  obtain ⟨h1, h2⟩ := h
  have h1' : x = y := h1
  subst h1'
  exact equal_ok x h2, LN2_ok⟩
set_option maxHeartbeats 4000000 in
set_option maxRecDepth 10000 in
theorem binds_ok (l : List Bd) (now : Int) (b : Bd) (life : Int) (hl : bdL l) (hb : byteOk b.home ∧ byteOk b.place) (hlife : -9223372036854775808 ≤ life ∧ life ≤ 9223372036854775807) : PureOk Try.prog 34 [(cSl eBd eBd_sz).enc l, (cI .i64).enc now, (cE eBd).enc b, (cI .i64).enc life] (cB.enc true) := by
  have hn := hl.n
  have hv := @bind_valid l now life b
  have hd := (bind_bd (now := now) (life := life) hl hb.1 hb.2)
  refine pure_intro (wd := 1) (Q := mkQ LN3) (by decide) tysOk (q_of LN3_ok) mixed Try.func34 rfl _ (by show 4 ≤ _; decide) _ ?_
  repeat' (first | (apply And.intro <;> intro hc <;> (first | exact Bool.noConfusion hc | (simp only [decide_eq_true_eq, decide_eq_false_iff_not, Bool.not_eq_true', Bool.not_eq_false', beq_iff_eq, beq_eq_false_iff_ne, bne_iff_ne, bne_eq_false_iff_eq, Bool.true_eq_false, Bool.false_eq_true, ne_eq, not_true_eq_false] at hc <;> first | exact absurd rfl hc | skip) | skip)) | (refine And.intro (by first | exact trivial | decide | omega | (dsimp only; omega) | exact fun _ _ => rfl | exact ⟨by assumption, by first | exact trivial | decide | omega | (dsimp only; omega)⟩) ?_) | (apply And.intro) | (intro s hs; (try dsimp only at hs); (first | (have hs' : s = bindF l now b life := hs.trans (bind_congr (toL_bd l) (rd_bd b))) | (have hs' : s = true := hs) | (have hs' : s = bvalid (bindF l now b life).1 := hs.trans (congrArg bvalid (toL_bd _)))); clear hs; subst hs'))
  all_goals first
    | (dsimp only; rw [toL_bd]; exact hl)
    | (show byteOk (eBd.rd fun q => eBd.cell b (0 + q)).home; rw [rd_bd]; exact hb.1)
    | exact hlife.1
    | exact hlife.2
    | exact fun _ => eBd_ok _
    | rfl
    | (dsimp only; rw [toL_bd]; have := hd.2; omega)
    | (dsimp only; rw [toL_bd]; exact hd.1)
    | exact Done.mk (leF_bool rfl)
    | exact Done.mk (leF_bool (hv (by assumption)))
end Go.Proofs.Ytcnfjifokeancaa.AX
