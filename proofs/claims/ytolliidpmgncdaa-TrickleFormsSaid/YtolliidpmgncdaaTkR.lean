/- Package multihopref34, by AX2. Printed by wip/gen/tkref.py. -/
import Derived.Test.YtolliidpmgncdaaTk
namespace Go.Proofs.Ytolliidpmgncdaa.AX.TkR
open Go.Proofs.Ytolliidpmgncdaa.AX
open Go.RowKit
set_option linter.unusedVariables false
set_option linter.unusedSimpArgs false
theorem tkTime_ok (c : Int) : PureOk Try.prog 47 [(cI .i64).enc c] (cB.enc (isTimeT c)) := by
  refine pure_intro (wd := 1) (Q := mkQ LE0) (by decide) tysOk (q_of LE0_ok) mixed Try.func47 rfl _ (by show 1 ≤ _; decide) _ ?_
  repeat' (first | (apply And.intro <;> intro hc <;> (first | exact Bool.noConfusion hc | (simp only [decide_eq_true_eq, decide_eq_false_iff_not, Bool.not_eq_true', Bool.not_eq_false', beq_iff_eq, beq_eq_false_iff_ne, bne_iff_ne, bne_eq_false_iff_eq, Bool.true_eq_false, Bool.false_eq_true] at hc) | skip)) | (refine And.intro (by first | exact trivial | decide | omega | (dsimp only; omega) | exact fun _ _ => rfl) ?_) | (apply And.intro) | (intro s hs))
  all_goals (refine Done.mk (leF_bool ?_); simp_all [isTimeT]; try omega)
theorem numbers_ok (m d r : Int) : PureOk Try.prog 48 [(cI .i64).enc m, (cI .i64).enc d, (cI .i64).enc r] (cB.enc (numbersB m d r)) := by
  refine pure_intro (wd := 1) (Q := mkQ LE0) (by decide) tysOk (q_of LE0_ok) mixed Try.func48 rfl _ (by show 3 ≤ _; decide) _ ?_
  repeat' (first | (apply And.intro <;> intro hc <;> (first | exact Bool.noConfusion hc | (simp only [decide_eq_true_eq, decide_eq_false_iff_not, Bool.not_eq_true', Bool.not_eq_false', beq_iff_eq, beq_eq_false_iff_ne, bne_iff_ne, bne_eq_false_iff_eq, Bool.true_eq_false, Bool.false_eq_true] at hc) | skip)) | (refine And.intro (by first | exact trivial | decide | omega | (dsimp only; omega) | exact fun _ _ => rfl) ?_) | (apply And.intro) | (intro s hs))
  all_goals (refine Done.mk (leF_bool ?_); simp_all [numbersB]; try omega)
theorem begin_ok (t : Trk) (l now draw : Int) (hl : 2 ≤ l ∧ l ≤ 268435456) (hn : 0 ≤ now ∧ now ≤ 1099511627776) (hd : drawOk draw) :
    PureOk Try.prog 49 [(cE eTk).enc t, (cI .i64).enc l, (cI .i64).enc now, (cI .u32).enc draw] ((cE eTk).enc (beginT t l now draw)) := by
  unfold drawOk at hd
  have hm : 0 ≤ draw % (l - l / 2) ∧ draw % (l - l / 2) < l - l / 2 := ⟨Int.emod_nonneg _ (by omega), Int.emod_lt_of_pos _ (by omega)⟩
  refine pure_intro (wd := 1) (Q := mkQ LE0) (by decide) tysOk (q_of LE0_ok) mixed Try.func49 rfl _ (by show 4 ≤ _; decide) _ ?_
  repeat' (first | (apply And.intro <;> intro hc <;> (first | exact Bool.noConfusion hc | (simp only [decide_eq_true_eq, decide_eq_false_iff_not, Bool.not_eq_true', Bool.not_eq_false', beq_iff_eq, beq_eq_false_iff_ne, bne_iff_ne, bne_eq_false_iff_eq, Bool.true_eq_false, Bool.false_eq_true] at hc) | skip)) | (refine And.intro (by first | exact trivial | decide | omega | (dsimp only; omega) | exact fun _ _ => rfl) ?_) | (apply And.intro) | (intro s hs))
  · simp (disch := omega) only [IntWalk.i64_in, IntWalk.u8_in, IntWalk.u16_in, IntWalk.u32_in, IntWalk.u64_in, Int.tdiv_eq_ediv_of_nonneg, Int.tmod_eq_emod_of_nonneg]
    omega
  · refine done_tk ?_
    repeat' (first | exact trivial | exact rfl | refine leF_int ?_ | refine leF_bool ?_ | exact leF_ptr rfl | refine leF_e (leE_all ?_) | refine leF_tup ?_ | refine leC_int ?_ | refine leC_bool ?_ | exact leC_nils | exact leF_c leC_nils | apply And.intro)
    case right.left.left.right =>
      simp (disch := omega) only [IntWalk.i64_in, IntWalk.u8_in, IntWalk.u16_in, IntWalk.u32_in, IntWalk.u64_in, Int.tdiv_eq_ediv_of_nonneg, Int.tmod_eq_emod_of_nonneg]
      rfl
    all_goals rfl
def R1 : CsL := (47, some timeE) :: (48, some numE) :: (49, some beginE) :: []
theorem R1_ok : AllOk Try.prog R1 := ⟨pureE_ok ⟨_, Try.func47, rfl, by kernel_rfl⟩ fun a _ => tkTime_ok a.1, pureE_ok ⟨_, Try.func48, rfl, by kernel_rfl⟩ fun a _ => numbers_ok a.1 a.2.1 a.2.2.1, pureE_ok ⟨_, Try.func49, rfl, by kernel_rfl⟩ fun a h => begin_ok a.1 a.2.1 a.2.2.1 a.2.2.2.1 h.1 h.2.1 h.2.2, trivial⟩
set_option maxHeartbeats 4000000 in
set_option maxRecDepth 20000 in
theorem valid_ok (t : Trk) : PureOk Try.prog 51 [(cE eTk).enc t] (cB.enc (validT t)) := by
  have hv : validT t = (numbersB t.min t.dbl t.red && isTimeT t.start && decide (0 ≤ t.heard ∧ t.heard ≤ 1048576) && fitsTo t.min t.len (t.dbl.toNat + 1) && decide (t.start + t.len / 2 ≤ t.fire ∧ t.fire ≤ t.start + t.len - 1)) := rfl
  refine pure_intro (wd := 1) (Q := mkQ R1) (by decide) tysOk (q_of R1_ok) mixed Try.func51 rfl _ (by show 1 ≤ _; decide) _ ?_
  repeat' (first | (apply And.intro <;> intro hc <;> (first | exact Bool.noConfusion hc | (simp only [decide_eq_true_eq, decide_eq_false_iff_not, Bool.not_eq_true', Bool.not_eq_false', beq_iff_eq, beq_eq_false_iff_ne, bne_iff_ne, bne_eq_false_iff_eq, Bool.true_eq_false, Bool.false_eq_true, ne_eq, not_true_eq_false] at hc <;> first | exact absurd rfl hc | skip) | skip)) | (refine And.intro (by first | exact trivial | decide | omega | (dsimp only; omega) | exact fun _ _ => rfl | exact ⟨by assumption, by first | exact trivial | decide | omega | (dsimp only; omega)⟩) ?_) | (apply And.intro) | (intro s hs; (first | (have hs' : s = numbersB t.min t.dbl t.red := hs) | (have hs' : s = isTimeT t.start := hs)); clear hs; subst hs'))
  all_goals first
    | (refine Done.mk (leF_bool ?_); rw [hv]; simp [*]; done)
    | (refine Done.mk (leF_bool ?_); rw [hv]; simp [*]; omega)
    | skip
  rename_i h1 h2 h3
  have h4 := hc
  clear hc
  obtain ⟨n1, n2, n3, n4, n5, n6⟩ := numbersB_iff.1 h1
  obtain ⟨t1, t2⟩ := isTimeT_iff.1 h2
  have e1 : IntKind.i64.wrap (t.dbl + 1) = t.dbl + 1 := IntWalk.i64_in _ (by omega)
  clear e1
  refine loop_intro (mono_of R1_ok) (fun k : { k : Nat // k ≤ t.dbl.toNat + 1 } => (⟨[(1, one (.ptr 0 0 0 false)), (3, .e (.c (.bool (fitsTo t.min t.len k.1)))), (4, .e (.c (.int .i64 k.1)))], [(0, some ⟨26, 1, 8, true, fun _ => eTk.cell t⟩)], 1⟩ : Hd)) (fun k => t.dbl.toNat + 1 - k.1) (fun _ => rfl) ?_ ⟨0, by omega⟩ [] ?_
  · rintro ⟨k, hk⟩
    have hp : k ≤ 16 → t.min ≤ t.min * 2 ^ k ∧ t.min * 2 ^ k ≤ 268435456 := fun h => pow_bd ⟨n1, n2⟩ h
    have hsh : k ≤ 16 → shlI .i64 t.min (IntKind.u64.wrap k) = t.min * 2 ^ k := fun h => by
      have := hp h
      rw [IntWalk.u64_in _ (by omega)]
      unfold shlI
      rw [show min ((k : Int).toNat) (IntKind.bits .i64) = k by simp [IntKind.bits]; omega]
      exact IntWalk.i64_in _ (by omega)
    have hk0 : k ≤ 16 → 0 ≤ IntKind.u64.wrap (k : Int) := fun h => by rw [IntWalk.u64_in _ (by omega)]; omega
    dsimp only
    repeat' (first | (apply And.intro <;> intro hc <;> (first | exact Bool.noConfusion hc | (simp only [decide_eq_true_eq, decide_eq_false_iff_not, Bool.not_eq_true', Bool.not_eq_false', beq_iff_eq, beq_eq_false_iff_ne, bne_iff_ne, bne_eq_false_iff_eq, Bool.true_eq_false, Bool.false_eq_true] at hc) | skip)) | (refine And.intro (by first | exact trivial | decide | omega | (dsimp only; omega) | exact fun _ _ => rfl) ?_) | (apply And.intro) | (intro s hs))
    all_goals first
      | exact hk0 (by omega)
      | (refine ⟨⟨k + 1, by omega⟩, [], by dsimp only; omega, rfl, ?_, ?_⟩
         · repeat' (first | exact trivial | exact rfl | exact leF_ptr rfl | exact leF_int rfl | exact leF_bool rfl | exact leF_cl (cl_slB _ _) | exact leF_cl (cl_slR _ _) | exact leF_c (leC_os rfl rfl) | refine leF_int ?_ | refine leF_bool ?_ | exact leN_varA (fun _ _ => (Elem.flat _ _ _).le) | exact leN_varA (fun _ _ => leC_top) | apply And.intro)
           · first
               | (simp [fitsTo, *]; done)
               | (rw [hsh (by omega)]; simp [fitsTo, *])
           · (dsimp only; rw [IntWalk.i64_in _ (by omega)]; omega)
         · repeat' (first | exact trivial | exact rfl | exact leF_ptr rfl | exact leF_int rfl | exact leF_bool rfl | exact leF_cl (cl_slB _ _) | exact leF_cl (cl_slR _ _) | exact leF_c (leC_os rfl rfl) | refine leF_int ?_ | refine leF_bool ?_ | exact leN_varA (fun _ _ => (Elem.flat _ _ _).le) | exact leN_varA (fun _ _ => leC_top) | apply And.intro))
      | skip
    all_goals refine Done.mk (leF_bool ?_)
    all_goals
      have hke : k = t.dbl.toNat + 1 := by omega
      subst hke
      clear hsh hp hk0
    · have q2 : fitsTo t.min t.len (t.dbl.toNat + 1) = true := by assumption
      have hl := fits_bd ⟨n1, n2⟩ ⟨n3, n4⟩ q2
      simp (disch := omega) only [IntWalk.i64_in, Int.tdiv_eq_ediv_of_nonneg] at *
      rw [hv, h1, h2, q2, decide_eq_true (show 0 ≤ t.heard ∧ t.heard ≤ 1048576 by omega)]
      simp; omega
    · have q2 : fitsTo t.min t.len (t.dbl.toNat + 1) = true := by assumption
      have hl := fits_bd ⟨n1, n2⟩ ⟨n3, n4⟩ q2
      simp (disch := omega) only [IntWalk.i64_in, Int.tdiv_eq_ediv_of_nonneg] at *
      rw [hv, decide_eq_false (p := t.start + t.len / 2 ≤ t.fire ∧ t.fire ≤ t.start + t.len - 1) (by omega)]
      simp
    · rw [hv]
      simp [*]
  · refine ⟨rfl, ?_, ?_⟩
    · repeat' (first | exact trivial | exact rfl | exact leF_ptr rfl | exact leF_int rfl | exact leF_bool rfl | exact leF_cl (cl_slB _ _) | exact leF_cl (cl_slR _ _) | exact leF_c (leC_os rfl rfl) | refine leF_int ?_ | refine leF_bool ?_ | exact leN_varA (fun _ _ => (Elem.flat _ _ _).le) | exact leN_varA (fun _ _ => leC_top) | apply And.intro)
    · repeat' (first | exact trivial | exact rfl | exact leF_ptr rfl | exact leF_int rfl | exact leF_bool rfl | exact leF_cl (cl_slB _ _) | exact leF_cl (cl_slR _ _) | exact leF_c (leC_os rfl rfl) | refine leF_int ?_ | refine leF_bool ?_ | exact leN_varA (fun _ _ => (Elem.flat _ _ _).le) | exact leN_varA (fun _ _ => leC_top) | apply And.intro)
def R2 : CsL := (51, some validE) :: R1
theorem R2_ok : AllOk Try.prog R2 := ⟨pureE_ok ⟨_, Try.func51, rfl, by kernel_rfl⟩ fun a _ => valid_ok a.1, R1_ok⟩
set_option maxHeartbeats 4000000 in
theorem newT_ok (m d r now draw : Int) (hd : drawOk draw) :
    PureOk Try.prog 23 [(cI .i64).enc m, (cI .i64).enc d, (cI .i64).enc r, (cI .i64).enc now, (cI .u32).enc draw] (enc2 (newT m d r now draw)) := by
  have hb : numbersB m d r = true → 2 ≤ m ∧ m ≤ 4096 := fun h => by have := numbersB_iff.1 h; omega
  have ht : isTimeT now = true → 0 ≤ now ∧ now ≤ 1099511627776 := isTimeT_iff.1
  refine pure_intro (wd := 1) (Q := mkQ R2) (by decide) tysOk (q_of R2_ok) mixed Try.func23 rfl _ (by show 5 ≤ _; decide) _ ?_
  repeat' (first | (apply And.intro <;> intro hc <;> (first | exact Bool.noConfusion hc | (simp only [decide_eq_true_eq, decide_eq_false_iff_not, Bool.not_eq_true', Bool.not_eq_false', beq_iff_eq, beq_eq_false_iff_ne, bne_iff_ne, bne_eq_false_iff_eq, Bool.true_eq_false, Bool.false_eq_true, ne_eq, not_true_eq_false] at hc <;> first | exact absurd rfl hc | skip) | skip)) | (refine And.intro (by first | exact trivial | decide | omega | (dsimp only; omega) | exact fun _ _ => rfl | exact ⟨by assumption, by first | exact trivial | decide | omega | (dsimp only; omega)⟩) ?_) | (apply And.intro) | (intro s hs; (first | (have hs' : s = numbersB m d r := hs) | (have hs' : s = isTimeT now := hs) | (have hs' : s = beginT ⟨m, d, r, 0, 0, 0, 0, false⟩ m now draw := hs)); clear hs; subst hs'))
  all_goals first
    | exact (hb (by assumption)).1
    | exact (ht (by assumption)).1
    | exact (ht (by assumption)).2
    | exact hd.1
    | exact hd.2
    | (have := hb (by assumption); dsimp only; omega)
    | (have e : newT m d r now draw = (zeroT, 2) := by simp [newT, *]
       rw [e]
       refine done_tk2 ?_ rfl
       repeat' (first | exact trivial | exact rfl | refine leF_int ?_ | refine leF_bool ?_ | exact leF_ptr rfl | refine leF_e (leE_all ?_) | refine leF_tup ?_ | refine leC_int ?_ | refine leC_bool ?_ | exact leC_nils | exact leF_c leC_nils | apply And.intro))
    | (have e : newT m d r now draw = (beginT ⟨m, d, r, 0, 0, 0, 0, false⟩ m now draw, 0) := by simp [newT, *]
       rw [e]
       refine done_tk2 ?_ rfl
       repeat' (first | exact trivial | exact rfl | refine leF_int ?_ | refine leF_bool ?_ | exact leF_ptr rfl | refine leF_e (leE_all ?_) | refine leF_tup ?_ | refine leC_int ?_ | refine leC_bool ?_ | exact leC_nils | exact leF_c leC_nils | apply And.intro))
set_option maxHeartbeats 4000000 in
theorem hear_ok (t : Trk) : PureOk Try.prog 52 [(cE eTk).enc t] ((cE eTk).enc (hearT t)) := by
  refine pure_intro (wd := 1) (Q := mkQ R2) (by decide) tysOk (q_of R2_ok) mixed Try.func52 rfl _ (by show 1 ≤ _; decide) _ ?_
  repeat' (first | (apply And.intro <;> intro hc <;> (first | exact Bool.noConfusion hc | (simp only [decide_eq_true_eq, decide_eq_false_iff_not, Bool.not_eq_true', Bool.not_eq_false', beq_iff_eq, beq_eq_false_iff_ne, bne_iff_ne, bne_eq_false_iff_eq, Bool.true_eq_false, Bool.false_eq_true, ne_eq, not_true_eq_false] at hc <;> first | exact absurd rfl hc | skip) | skip)) | (refine And.intro (by first | exact trivial | decide | omega | (dsimp only; omega) | exact fun _ _ => rfl | exact ⟨by assumption, by first | exact trivial | decide | omega | (dsimp only; omega)⟩) ?_) | (apply And.intro) | (intro s hs; (have hs' : s = validT t := hs); clear hs; subst hs'))
  · have e : hearT t = zeroT := by simp [hearT, *]
    rw [e]
    refine done_tk ?_
    repeat' (first | exact trivial | exact rfl | refine leF_int ?_ | refine leF_bool ?_ | exact leF_ptr rfl | refine leF_e (leE_all ?_) | refine leF_tup ?_ | refine leC_int ?_ | refine leC_bool ?_ | exact leC_nils | exact leF_c leC_nils | apply And.intro)
  · have hv : validT t = true := by assumption
    have hn := validT_num hv
    have w1 : IntKind.i64.wrap (t.heard + 1) = t.heard + 1 := IntWalk.i64_in _ (by omega)
    have e : hearT t = { t with heard := if (1048576 : Int) < t.heard + 1 then 1048576 else t.heard + 1 } := by
      unfold hearT
      rw [if_pos hv]
      by_cases hc' : t.heard < 1048576
      · rw [if_pos hc', if_neg (by omega)]
      · rw [if_neg hc', if_pos (by omega)]
        obtain ⟨a1, a2, a3, a4, a5, a6, a7, a8⟩ := t
        dsimp only at hc' hn ⊢
        rw [show a7 = 1048576 by omega]
    rw [e]
    refine done_tk ?_
    repeat' (first | exact trivial | exact rfl | refine leF_int ?_ | refine leF_bool ?_ | exact leF_ptr rfl | refine leF_e (leE_all ?_) | refine leF_tup ?_ | refine leC_int ?_ | refine leC_bool ?_ | exact leC_nils | exact leF_c leC_nils | apply And.intro)
    all_goals first | rfl | rw [w1]
set_option maxHeartbeats 4000000 in
theorem reset_ok (t : Trk) (now draw : Int) (hd : drawOk draw) :
    PureOk Try.prog 50 [(cE eTk).enc t, (cI .i64).enc now, (cI .u32).enc draw] (enc2 (resetT t now draw)) := by
  have hn := @validT_num t
  have ht : isTimeT now = true → 0 ≤ now ∧ now ≤ 1099511627776 := isTimeT_iff.1
  refine pure_intro (wd := 1) (Q := mkQ R2) (by decide) tysOk (q_of R2_ok) mixed Try.func50 rfl _ (by show 3 ≤ _; decide) _ ?_
  repeat' (first | (apply And.intro <;> intro hc <;> (first | exact Bool.noConfusion hc | (simp only [decide_eq_true_eq, decide_eq_false_iff_not, Bool.not_eq_true', Bool.not_eq_false', beq_iff_eq, beq_eq_false_iff_ne, bne_iff_ne, bne_eq_false_iff_eq, Bool.true_eq_false, Bool.false_eq_true, ne_eq, not_true_eq_false] at hc <;> first | exact absurd rfl hc | skip) | skip)) | (refine And.intro (by first | exact trivial | decide | omega | (dsimp only; omega) | exact fun _ _ => rfl | exact ⟨by assumption, by first | exact trivial | decide | omega | (dsimp only; omega)⟩) ?_) | (apply And.intro) | (intro s hs; (first | (have hs' : s = validT t := hs) | (have hs' : s = isTimeT now := hs) | (have hs' : s = beginT t t.min now draw := hs)); clear hs; subst hs'))
  all_goals first
    | exact (hn (by assumption)).1.1
    | exact (ht (by assumption)).1
    | exact (ht (by assumption)).2
    | exact hd.1
    | exact hd.2
    | (have := hn (by assumption); dsimp only; omega)
    | (have e : resetT t now draw = (zeroT, 1) := by simp [resetT, *]
       rw [e]
       refine done_tk2 ?_ rfl
       repeat' (first | exact trivial | exact rfl | refine leF_int ?_ | refine leF_bool ?_ | exact leF_ptr rfl | refine leF_e (leE_all ?_) | refine leF_tup ?_ | refine leC_int ?_ | refine leC_bool ?_ | exact leC_nils | exact leF_c leC_nils | apply And.intro))
    | (have e : resetT t now draw = (zeroT, 2) := by simp [resetT, *]
       rw [e]
       refine done_tk2 ?_ rfl
       repeat' (first | exact trivial | exact rfl | refine leF_int ?_ | refine leF_bool ?_ | exact leF_ptr rfl | refine leF_e (leE_all ?_) | refine leF_tup ?_ | refine leC_int ?_ | refine leC_bool ?_ | exact leC_nils | exact leF_c leC_nils | apply And.intro))
    | (have e : resetT t now draw = (t, 0) := by simp [resetT, *]
       rw [e]
       refine done_tk2 ?_ rfl
       repeat' (first | exact trivial | exact rfl | refine leF_int ?_ | refine leF_bool ?_ | exact leF_ptr rfl | refine leF_e (leE_all ?_) | refine leF_tup ?_ | refine leC_int ?_ | refine leC_bool ?_ | exact leC_nils | exact leF_c leC_nils | apply And.intro))
    | (have e : resetT t now draw = (beginT t t.min now draw, 0) := by simp [resetT, *]
       rw [e]
       refine done_tk2 ?_ rfl
       repeat' (first | exact trivial | exact rfl | refine leF_int ?_ | refine leF_bool ?_ | exact leF_ptr rfl | refine leF_e (leE_all ?_) | refine leF_tup ?_ | refine leC_int ?_ | refine leC_bool ?_ | exact leC_nils | exact leF_c leC_nils | apply And.intro))
set_option maxHeartbeats 8000000 in
set_option maxRecDepth 20000 in
theorem stepT_ok (t : Trk) (now draw : Int) (hd : drawOk draw) :
    PureOk Try.prog 46 [(cE eTk).enc t, (cI .i64).enc now, (cI .u32).enc draw] (enc3 (stepT t now draw)) := by
  have hvn := @validT_num t
  have ht : isTimeT now = true → 0 ≤ now ∧ now ≤ 1099511627776 := isTimeT_iff.1
  have hF1 : t.fired = false → t.fire ≤ now → fireT t now = ({ t with fired := true }, decide (t.red = 0 ∨ t.heard < t.red)) := fun a b => by unfold fireT; rw [if_pos ⟨a, b⟩]
  have hF2 : t.fired = true → fireT t now = (t, false) := fun a => by unfold fireT; rw [if_neg (by rw [a]; simp)]
  have hF3 : ¬ t.fire ≤ now → fireT t now = (t, false) := fun a => by unfold fireT; rw [if_neg (fun h => a h.2)]
  by_cases hv : validT t = true
  case neg =>
    have hv' : validT t = false := by simpa using hv
    have e : stepT t now draw = (zeroT, false, 1) := by unfold stepT; rw [if_neg hv]
    rw [e]
    clear hF1 hF2 hF3
    refine pure_intro (wd := 1) (Q := mkQ R2) (by decide) tysOk (q_of R2_ok) mixed Try.func46 rfl _ (by show 3 ≤ _; decide) _ ?_
    repeat' (first | (apply And.intro <;> intro hc <;> (first | exact Bool.noConfusion hc | (simp only [decide_eq_true_eq, decide_eq_false_iff_not, Bool.not_eq_true', Bool.not_eq_false', beq_iff_eq, beq_eq_false_iff_ne, bne_iff_ne, bne_eq_false_iff_eq, Bool.true_eq_false, Bool.false_eq_true, ne_eq, not_true_eq_false] at hc <;> first | exact absurd rfl hc | skip) | skip)) | (refine And.intro (by first | exact trivial | decide | omega | (dsimp only; omega) | exact fun _ _ => rfl | exact ⟨by assumption, by first | exact trivial | decide | omega | (dsimp only; omega)⟩) ?_) | (apply And.intro) | (intro s hs; (first | (have hs' : s = false := hs.trans hv') | (have hs' : s = isTimeT now := hs)); clear hs; subst hs'))
    refine done_tk3 ?_ rfl rfl
    repeat' (first | exact trivial | exact rfl | refine leF_int ?_ | refine leF_bool ?_ | exact leF_ptr rfl | refine leF_e (leE_all ?_) | refine leF_tup ?_ | refine leC_int ?_ | refine leC_bool ?_ | exact leC_nils | exact leF_c leC_nils | apply And.intro)
  by_cases htm : isTimeT now = true
  case neg =>
    have htm' : isTimeT now = false := by simpa using htm
    have e : stepT t now draw = (zeroT, false, 2) := by unfold stepT; rw [if_pos hv, if_neg (fun h => htm h.1)]
    rw [e]
    clear hF1 hF2 hF3
    refine pure_intro (wd := 1) (Q := mkQ R2) (by decide) tysOk (q_of R2_ok) mixed Try.func46 rfl _ (by show 3 ≤ _; decide) _ ?_
    repeat' (first | (apply And.intro <;> intro hc <;> (first | exact Bool.noConfusion hc | (simp only [decide_eq_true_eq, decide_eq_false_iff_not, Bool.not_eq_true', Bool.not_eq_false', beq_iff_eq, beq_eq_false_iff_ne, bne_iff_ne, bne_eq_false_iff_eq, Bool.true_eq_false, Bool.false_eq_true, ne_eq, not_true_eq_false] at hc <;> first | exact absurd rfl hc | skip) | skip)) | (refine And.intro (by first | exact trivial | decide | omega | (dsimp only; omega) | exact fun _ _ => rfl | exact ⟨by assumption, by first | exact trivial | decide | omega | (dsimp only; omega)⟩) ?_) | (apply And.intro) | (intro s hs; (first | (have hs' : s = true := hs.trans hv) | (have hs' : s = false := hs.trans htm')); clear hs; subst hs'))
    all_goals (refine done_tk3 ?_ rfl rfl; repeat' (first | exact trivial | exact rfl | refine leF_int ?_ | refine leF_bool ?_ | exact leF_ptr rfl | refine leF_e (leE_all ?_) | refine leF_tup ?_ | refine leC_int ?_ | refine leC_bool ?_ | exact leC_nils | exact leF_c leC_nils | apply And.intro))
  by_cases hst : t.start ≤ now
  case neg =>
    have e : stepT t now draw = (zeroT, false, 2) := by unfold stepT; rw [if_pos hv, if_neg (fun h => hst h.2)]
    rw [e]
    clear hF1 hF2 hF3
    refine pure_intro (wd := 1) (Q := mkQ R2) (by decide) tysOk (q_of R2_ok) mixed Try.func46 rfl _ (by show 3 ≤ _; decide) _ ?_
    repeat' (first | (apply And.intro <;> intro hc <;> (first | exact Bool.noConfusion hc | (simp only [decide_eq_true_eq, decide_eq_false_iff_not, Bool.not_eq_true', Bool.not_eq_false', beq_iff_eq, beq_eq_false_iff_ne, bne_iff_ne, bne_eq_false_iff_eq, Bool.true_eq_false, Bool.false_eq_true, ne_eq, not_true_eq_false] at hc <;> first | exact absurd rfl hc | skip) | skip)) | (refine And.intro (by first | exact trivial | decide | omega | (dsimp only; omega) | exact fun _ _ => rfl | exact ⟨by assumption, by first | exact trivial | decide | omega | (dsimp only; omega)⟩) ?_) | (apply And.intro) | (intro s hs; (first | (have hs' : s = true := hs.trans hv) | (have hs' : s = true := hs.trans htm)); clear hs; subst hs'))
    all_goals first
      | (exfalso; omega)
      | (refine done_tk3 ?_ rfl rfl; repeat' (first | exact trivial | exact rfl | refine leF_int ?_ | refine leF_bool ?_ | exact leF_ptr rfl | refine leF_e (leE_all ?_) | refine leF_tup ?_ | refine leC_int ?_ | refine leC_bool ?_ | exact leC_nils | exact leF_c leC_nils | apply And.intro))
  have hn := hvn hv
  obtain ⟨j, hj, hlen⟩ := fitsTo_iff.1 hn.2.2.2.2.1
  have hp := pow_bd (j := t.dbl.toNat) ⟨hn.1.1, hn.1.2.1⟩ (by omega)
  have hu : IntKind.u64.wrap t.dbl = t.dbl := IntWalk.u64_in _ (by omega)
  have hu0 : 0 ≤ IntKind.u64.wrap t.dbl := by omega
  have hsh : shlI .i64 t.min (IntKind.u64.wrap t.dbl) = t.min * 2 ^ t.dbl.toNat := by
    rw [hu]
    unfold shlI
    rw [show min t.dbl.toNat (IntKind.bits .i64) = t.dbl.toNat by simp [IntKind.bits]; omega]
    exact IntWalk.i64_in _ (by omega)
  have ht' := ht htm
  have hw1 : IntKind.i64.wrap (t.start + t.len) = t.start + t.len := IntWalk.i64_in _ (by omega)
  have hw2 : IntKind.i64.wrap (2 * t.len) = 2 * t.len := IntWalk.i64_in _ (by omega)
  have hs : stepT t now draw = (if t.start + t.len ≤ now then beginT (fireT t now).1 (Min.min (2 * t.len) (t.min * 2 ^ t.dbl.toNat)) now draw else (fireT t now).1, (fireT t now).2, 0) := by
    unfold stepT; rw [if_pos hv, if_pos ⟨htm, hst⟩]
  have hmn : (if shlI .i64 t.min (IntKind.u64.wrap t.dbl) < IntKind.i64.wrap (2 * t.len) then shlI .i64 t.min (IntKind.u64.wrap t.dbl) else IntKind.i64.wrap (2 * t.len)) = Min.min (2 * t.len) (t.min * 2 ^ t.dbl.toNat) := by
    rw [hsh, hw2]; omega
  have hb1 : ∀ x : Trk, beginT x (if shlI .i64 t.min (IntKind.u64.wrap t.dbl) < IntKind.i64.wrap (2 * t.len) then shlI .i64 t.min (IntKind.u64.wrap t.dbl) else IntKind.i64.wrap (2 * t.len)) now draw = beginT x (Min.min (2 * t.len) (t.min * 2 ^ t.dbl.toNat)) now draw := fun x => by rw [hmn]
  have hst0 : ¬ now < t.start := by omega
  have hle : 2 ≤ (if shlI .i64 t.min (IntKind.u64.wrap t.dbl) < IntKind.i64.wrap (2 * t.len) then shlI .i64 t.min (IntKind.u64.wrap t.dbl) else IntKind.i64.wrap (2 * t.len)) ∧ (if shlI .i64 t.min (IntKind.u64.wrap t.dbl) < IntKind.i64.wrap (2 * t.len) then shlI .i64 t.min (IntKind.u64.wrap t.dbl) else IntKind.i64.wrap (2 * t.len)) ≤ 268435456 := by rw [hmn]; omega
  have g1 : IntKind.i64.wrap (t.start + t.len) ≤ now → t.start + t.len ≤ now := by rw [hw1]; exact id
  have g2 : ¬ IntKind.i64.wrap (t.start + t.len) ≤ now → ¬ t.start + t.len ≤ now := by rw [hw1]; exact id
  have t3 : ∀ x : Trk × Bool, t.red = 0 → x = ({ t with fired := true }, true) → x = ({ t with fired := true }, decide (t.red = 0 ∨ t.heard < t.red)) := fun x h h' => by rw [h', decide_eq_true (.inl h)]
  rw [hs]
  clear hs ht hvn
  refine pure_intro (wd := 1) (Q := mkQ R2) (by decide) tysOk (q_of R2_ok) mixed Try.func46 rfl _ (by show 3 ≤ _; decide) _ ?_
  repeat' (first | (apply And.intro <;> intro hc <;> (first | exact Bool.noConfusion hc | (simp only [decide_eq_true_eq, decide_eq_false_iff_not, Bool.not_eq_true', Bool.not_eq_false', beq_iff_eq, beq_eq_false_iff_ne, bne_iff_ne, bne_eq_false_iff_eq, Bool.true_eq_false, Bool.false_eq_true, ne_eq, not_true_eq_false] at hc <;> first | exact absurd rfl hc | skip) | skip)) | (refine And.intro (by first | exact trivial | decide | omega | (dsimp only; omega) | exact fun _ _ => rfl | exact ⟨by assumption, by first | exact trivial | decide | omega | (dsimp only; omega)⟩) ?_) | (apply And.intro) | (intro s hs; (first | (have hs' : s = true := hs.trans hv; clear hs; subst hs') | (have hs' : s = true := hs.trans htm; clear hs; subst hs') | (have hs' := hs.trans (hb1 _); clear hs; rename_i s0; try dsimp only at hs'))))
  all_goals first
    | exact absurd (by assumption) hst0
    | exact hle.1
    | exact hle.2
    | exact ht'.1
    | exact ht'.2
    | exact hd.1
    | exact hd.2
    | exact hu0
    | skip
  all_goals
    first | rw [hF1 (by assumption) (by assumption)] | rw [hF2 (by assumption)] | rw [hF3 (by assumption)]
    first | rw [if_pos (g1 (by assumption))] | rw [if_neg (g2 (by assumption))]
    try subst hs'
    refine done_tk3 ?_ ?_ rfl
    · repeat' (first | exact trivial | exact rfl | refine leF_int ?_ | refine leF_bool ?_ | exact leF_ptr rfl | refine leF_e (leE_all ?_) | refine leF_tup ?_ | refine leC_int ?_ | refine leC_bool ?_ | exact leC_nils | exact leF_c leC_nils | apply And.intro)
    · simp [*]
end Go.Proofs.Ytolliidpmgncdaa.AX.TkR
