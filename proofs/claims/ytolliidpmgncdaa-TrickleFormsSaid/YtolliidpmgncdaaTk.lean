/- Package trickle, by AX2. -/
import Derived.Test.YtolliidpmgncdaaTp
import Derived.Test.YtolliidpmgncdaaTrkLem
import Derived.Laws.BitsAllLaws
import Derived.IntWalk
namespace Go.Proofs.Ytolliidpmgncdaa.AX
open Go.RowKit
set_option linter.unusedVariables false
set_option linter.unusedSimpArgs false
def eTkC (x : Trk) (j : Nat) : CV := bif Nat.beq j 0 then .int .i64 x.min else bif Nat.beq j 1 then .int .i64 x.dbl else bif Nat.beq j 2 then .int .i64 x.red else bif Nat.beq j 3 then .int .i64 x.start else bif Nat.beq j 4 then .int .i64 x.len else bif Nat.beq j 5 then .int .i64 x.fire else bif Nat.beq j 6 then .int .i64 x.heard else (.bool x.fired)
def eTk : Elem Trk where
  sz := 8
  cell := eTkC
  rd g := ⟨valI (g 0), valI (g 1), valI (g 2), valI (g 3), valI (g 4), valI (g 5), valI (g 6), valB (g 7)⟩
  ok g := isK .i64 (g 0) && isK .i64 (g 1) && isK .i64 (g 2) && isK .i64 (g 3) && isK .i64 (g 4) && isK .i64 (g 5) && isK .i64 (g 6) && isB (g 7)
  ok_eq g h j hj := by
    simp only [Bool.and_eq_true] at h
    unfold eTkC
    by_cases c0 : j < 1
    · have e : j = 0 := by omega
      subst e
      exact isK_eq h.1.1.1.1.1.1.1
    by_cases c1 : j < 2
    · have e : j = 1 := by omega
      subst e
      exact isK_eq h.1.1.1.1.1.1.2
    by_cases c2 : j < 3
    · have e : j = 2 := by omega
      subst e
      exact isK_eq h.1.1.1.1.1.2
    by_cases c3 : j < 4
    · have e : j = 3 := by omega
      subst e
      exact isK_eq h.1.1.1.1.2
    by_cases c4 : j < 5
    · have e : j = 4 := by omega
      subst e
      exact isK_eq h.1.1.1.2
    by_cases c5 : j < 6
    · have e : j = 5 := by omega
      subst e
      exact isK_eq h.1.1.2
    by_cases c6 : j < 7
    · have e : j = 6 := by omega
      subst e
      exact isK_eq h.1.2
    by_cases c7 : j < 8
    · have e : j = 7 := by omega
      subst e
      exact isB_eq h.2
    omega
  flat a j := by
    unfold eTkC
    cases Nat.beq j 0 with
    | true => exact flat_int
    | false =>
    cases Nat.beq j 1 with
    | true => exact flat_int
    | false =>
    cases Nat.beq j 2 with
    | true => exact flat_int
    | false =>
    cases Nat.beq j 3 with
    | true => exact flat_int
    | false =>
    cases Nat.beq j 4 with
    | true => exact flat_int
    | false =>
    cases Nat.beq j 5 with
    | true => exact flat_int
    | false =>
    cases Nat.beq j 6 with
    | true => exact flat_int
    | false =>
    exact flat_bool
theorem eTk_sz : 0 < eTk.sz := by decide
theorem eTk_rd (x : Trk) : eTk.rd (eTk.cell x) = x := by
  show (⟨x.min, x.dbl, x.red, x.start, x.len, x.fire, x.heard, x.fired⟩ : Trk) = x
  rfl
theorem eTk_ok (x : Trk) : eTk.ok (eTk.cell x) = true := rfl
instance : Inhabited Trk := ⟨zeroT⟩
theorem rd_tk (b : Trk) : (eTk.rd fun q => eTk.cell b (0 + q)) = b := rfl
theorem rd_tk' (b : Trk) : (eTk.rd fun q => eTk.cell b q) = b := rfl
abbrev I1 : AC (Int × Unit) := AC.cons (cI .i64) AC.nil
abbrev I3 : AC (Int × Int × Int × Unit) := AC.cons (cI .i64) (AC.cons (cI .i64) I1)
abbrev TAC : AC (Trk × Unit) := AC.cons (cE eTk) AC.nil
abbrev T3 : AC (Trk × Int × Int × Unit) := AC.cons (cE eTk) (AC.cons (cI .i64) (AC.cons (cI .u32) AC.nil))
def enc2 (s : Trk × Int) : FV := .tup [.agg eTk.sz (eTk.cell s.1), .c (.int .i64 s.2)]
def enc3 (s : Trk × Bool × Int) : FV := .tup [.agg eTk.sz (eTk.cell s.1), .c (.bool s.2.1), .c (.int .i64 s.2.2)]
def drawOk (d : Int) : Prop := 0 ≤ d ∧ d < 4294967296
theorem done_tk {H : Hp} {g : Nat → CV} {x : Trk} (h : allLt 8 fun j => LeC ⟨H, [], [], 0, true⟩ (g j) (eTk.cell x j)) : Done H (.e (.agg 8 g)) ((cE eTk).enc x) := Done.mk (leF_e (leE_all h))
theorem done_tk2 {H : Hp} {g : Nat → CV} {x : Trk} {e e' : Int} (h : allLt 8 fun j => LeC ⟨H, [], [], 0, true⟩ (g j) (eTk.cell x j)) (he : e = e') : Done H (.tup [.agg 8 g, .c (.int .i64 e)]) (enc2 (x, e')) := Done.mk (leF_tup ⟨leE_all h, leE_c (leC_int he), trivial⟩)
theorem done_tk3 {H : Hp} {g : Nat → CV} {x : Trk} {b b' : Bool} {e e' : Int} (h : allLt 8 fun j => LeC ⟨H, [], [], 0, true⟩ (g j) (eTk.cell x j)) (hb : b = b') (he : e = e') : Done H (.tup [.agg 8 g, .c (.bool b), .c (.int .i64 e)]) (enc3 (x, b', e')) := Done.mk (leF_tup ⟨leE_all h, leE_c (leC_bool hb), leE_c (leC_int he), trivial⟩)
theorem tkTime_ok (c : Int) : PureOk Try.prog 43 [(cI .i64).enc c] (cB.enc (isTimeT c)) := by
  refine pure_intro (wd := 1) (Q := mkQ LE0) (by decide) tysOk (q_of LE0_ok) mixed Try.func43 rfl _ (by show 1 ≤ _; decide) _ ?_
  repeat' (first | (apply And.intro <;> intro hc <;> (first | exact Bool.noConfusion hc | (simp only [decide_eq_true_eq, decide_eq_false_iff_not, Bool.not_eq_true', Bool.not_eq_false', beq_iff_eq, beq_eq_false_iff_ne, bne_iff_ne, bne_eq_false_iff_eq, Bool.true_eq_false, Bool.false_eq_true] at hc) | skip)) | (refine And.intro (by first | exact trivial | decide | omega | (dsimp only; omega) | exact fun _ _ => rfl) ?_) | (apply And.intro) | (intro s hs))
  all_goals (refine Done.mk (leF_bool ?_); simp_all [isTimeT]; try omega)
theorem numbers_ok (m d r : Int) : PureOk Try.prog 44 [(cI .i64).enc m, (cI .i64).enc d, (cI .i64).enc r] (cB.enc (numbersB m d r)) := by
  refine pure_intro (wd := 1) (Q := mkQ LE0) (by decide) tysOk (q_of LE0_ok) mixed Try.func44 rfl _ (by show 3 ≤ _; decide) _ ?_
  repeat' (first | (apply And.intro <;> intro hc <;> (first | exact Bool.noConfusion hc | (simp only [decide_eq_true_eq, decide_eq_false_iff_not, Bool.not_eq_true', Bool.not_eq_false', beq_iff_eq, beq_eq_false_iff_ne, bne_iff_ne, bne_eq_false_iff_eq, Bool.true_eq_false, Bool.false_eq_true] at hc) | skip)) | (refine And.intro (by first | exact trivial | decide | omega | (dsimp only; omega) | exact fun _ _ => rfl) ?_) | (apply And.intro) | (intro s hs))
  all_goals (refine Done.mk (leF_bool ?_); simp_all [numbersB]; try omega)
theorem begin_ok (t : Trk) (l now draw : Int) (hl : 2 ≤ l ∧ l ≤ 268435456) (hn : 0 ≤ now ∧ now ≤ 1099511627776) (hd : drawOk draw) :
    PureOk Try.prog 45 [(cE eTk).enc t, (cI .i64).enc l, (cI .i64).enc now, (cI .u32).enc draw] ((cE eTk).enc (beginT t l now draw)) := by
  unfold drawOk at hd
  have hm : 0 ≤ draw % (l - l / 2) ∧ draw % (l - l / 2) < l - l / 2 := ⟨Int.emod_nonneg _ (by omega), Int.emod_lt_of_pos _ (by omega)⟩
  refine pure_intro (wd := 1) (Q := mkQ LE0) (by decide) tysOk (q_of LE0_ok) mixed Try.func45 rfl _ (by show 4 ≤ _; decide) _ ?_
  repeat' (first | (apply And.intro <;> intro hc <;> (first | exact Bool.noConfusion hc | (simp only [decide_eq_true_eq, decide_eq_false_iff_not, Bool.not_eq_true', Bool.not_eq_false', beq_iff_eq, beq_eq_false_iff_ne, bne_iff_ne, bne_eq_false_iff_eq, Bool.true_eq_false, Bool.false_eq_true] at hc) | skip)) | (refine And.intro (by first | exact trivial | decide | omega | (dsimp only; omega) | exact fun _ _ => rfl) ?_) | (apply And.intro) | (intro s hs))
  · simp (disch := omega) only [IntWalk.i64_in, IntWalk.u8_in, IntWalk.u16_in, IntWalk.u32_in, IntWalk.u64_in, Int.tdiv_eq_ediv_of_nonneg, Int.tmod_eq_emod_of_nonneg]
    omega
  · refine done_tk ?_
    repeat' (first | exact trivial | exact rfl | refine leF_int ?_ | refine leF_bool ?_ | exact leF_ptr rfl | refine leF_e (leE_all ?_) | refine leF_tup ?_ | refine leC_int ?_ | refine leC_bool ?_ | exact leC_nils | exact leF_c leC_nils | apply And.intro)
    case right.left.left.right =>
      simp (disch := omega) only [IntWalk.i64_in, IntWalk.u8_in, IntWalk.u16_in, IntWalk.u32_in, IntWalk.u64_in, Int.tdiv_eq_ediv_of_nonneg, Int.tmod_eq_emod_of_nonneg]
      rfl
    all_goals rfl
abbrev timeE : Entry := pureE I1 (fun _ => True) (fun a => isTimeT a.1) cB.enc
abbrev numE : Entry := pureE I3 (fun _ => True) (fun a => numbersB a.1 a.2.1 a.2.2.1) cB.enc
abbrev beginE : Entry := pureE (AC.cons (cE eTk) (AC.cons (cI .i64) (AC.cons (cI .i64) (AC.cons (cI .u32) AC.nil)))) (fun a => (2 ≤ a.2.1 ∧ a.2.1 ≤ 268435456) ∧ (0 ≤ a.2.2.1 ∧ a.2.2.1 ≤ 1099511627776) ∧ drawOk a.2.2.2.1) (fun a => beginT a.1 a.2.1 a.2.2.1 a.2.2.2.1) (cE eTk).enc
def L1 : CsL := (43, some timeE) :: (44, some numE) :: (45, some beginE) :: []
theorem L1_ok : AllOk Try.prog L1 := ⟨pureE_ok ⟨_, Try.func43, rfl, by kernel_rfl⟩ fun a _ => tkTime_ok a.1, pureE_ok ⟨_, Try.func44, rfl, by kernel_rfl⟩ fun a _ => numbers_ok a.1 a.2.1 a.2.2.1, pureE_ok ⟨_, Try.func45, rfl, by kernel_rfl⟩ fun a h => begin_ok a.1 a.2.1 a.2.2.1 a.2.2.2.1 h.1 h.2.1 h.2.2, trivial⟩
set_option maxHeartbeats 4000000 in
set_option maxRecDepth 20000 in
theorem valid_ok (t : Trk) : PureOk Try.prog 24 [(cE eTk).enc t] (cB.enc (validT t)) := by
  have hv : validT t = (numbersB t.min t.dbl t.red && isTimeT t.start && decide (0 ≤ t.heard ∧ t.heard ≤ 1048576) && fitsTo t.min t.len (t.dbl.toNat + 1) && decide (t.start + t.len / 2 ≤ t.fire ∧ t.fire ≤ t.start + t.len - 1)) := rfl
  refine pure_intro (wd := 1) (Q := mkQ L1) (by decide) tysOk (q_of L1_ok) mixed Try.func24 rfl _ (by show 1 ≤ _; decide) _ ?_
  repeat' (first | (apply And.intro <;> intro hc <;> (first | exact Bool.noConfusion hc | (simp only [decide_eq_true_eq, decide_eq_false_iff_not, Bool.not_eq_true', Bool.not_eq_false', beq_iff_eq, beq_eq_false_iff_ne, bne_iff_ne, bne_eq_false_iff_eq, Bool.true_eq_false, Bool.false_eq_true, ne_eq, not_true_eq_false] at hc <;> first | exact absurd rfl hc | skip) | skip)) | (refine And.intro (by first | exact trivial | decide | omega | (dsimp only; omega) | exact fun _ _ => rfl | exact ⟨by assumption, by first | exact trivial | decide | omega | (dsimp only; omega)⟩) ?_) | (apply And.intro) | (intro s hs; (first | (have hs' : s = numbersB t.min t.dbl t.red := hs) | (have hs' : s = isTimeT t.start := hs)); clear hs; subst hs'))
  all_goals first
    | (refine Done.mk (leF_bool ?_); rw [hv]; simp [*]; done)
    | (refine Done.mk (leF_bool ?_); rw [hv]; simp [*]; omega)
    | skip
  rename_i h1 h2 h3
  have h4 := hc
  clear hc
  obtain ⟨n1, n2, n3, n4, n5, n6⟩ := numbersB_iff.1 h1
  obtain ⟨t1, t2⟩ := isTimeT_iff.1 h2
  have e1 : IntKind.i64.wrap (t.dbl + 1) = t.dbl + 1 := IntWalk.i64_in _ (by omega)
  refine loop_intro (mono_of L1_ok) (fun k : { k : Nat // k ≤ t.dbl.toNat + 1 } => (⟨[(1, one (.ptr 0 0 0 false)), (3, .e (.c (.bool (fitsTo t.min t.len k.1)))), (31, .e (.c (.int .i64 (t.dbl + 1)))), (32, .e (.c (.int .i64 k.1)))], [(0, some ⟨26, 1, 8, true, fun _ => eTk.cell t⟩)], 1⟩ : Hd)) (fun k => t.dbl.toNat + 1 - k.1) (fun _ => rfl) ?_ ⟨0, by omega⟩ [] ?_
  · rintro ⟨k, hk⟩
    have hp : k ≤ 16 → t.min ≤ t.min * 2 ^ k ∧ t.min * 2 ^ k ≤ 268435456 := fun h => pow_bd ⟨n1, n2⟩ h
    have hsh : k ≤ 16 → shlI .i64 t.min k = t.min * 2 ^ k := fun h => by
      have := hp h
      unfold shlI
      rw [show min ((k : Int).toNat) (IntKind.bits .i64) = k by simp [IntKind.bits]; omega]
      exact IntWalk.i64_in _ (by omega)
    dsimp only
    repeat' (first | (apply And.intro <;> intro hc <;> (first | exact Bool.noConfusion hc | (simp only [decide_eq_true_eq, decide_eq_false_iff_not, Bool.not_eq_true', Bool.not_eq_false', beq_iff_eq, beq_eq_false_iff_ne, bne_iff_ne, bne_eq_false_iff_eq, Bool.true_eq_false, Bool.false_eq_true] at hc) | skip)) | (refine And.intro (by first | exact trivial | decide | omega | (dsimp only; omega) | exact fun _ _ => rfl) ?_) | (apply And.intro) | (intro s hs))
    all_goals try (rename_i g1; have g1' : (k : Int) < t.dbl + 1 := g1; rw [hsh (by omega)] at hc)
    · refine ⟨⟨k + 1, by omega⟩, [], by dsimp only; omega, rfl, ?_, ?_⟩
      · repeat' (first | exact trivial | exact rfl | exact leF_ptr rfl | exact leF_int rfl | exact leF_bool rfl | exact leF_cl (cl_slB _ _) | exact leF_cl (cl_slR _ _) | exact leF_c (leC_os rfl rfl) | refine leF_int ?_ | refine leF_bool ?_ | exact leN_varA (fun _ _ => (Elem.flat _ _ _).le) | exact leN_varA (fun _ _ => leC_top) | apply And.intro)
        · simp [fitsTo, hc]
        · (dsimp only; rw [IntWalk.i64_in _ (by omega)]; omega)
      · repeat' (first | exact trivial | exact rfl | exact leF_ptr rfl | exact leF_int rfl | exact leF_bool rfl | exact leF_cl (cl_slB _ _) | exact leF_cl (cl_slR _ _) | exact leF_c (leC_os rfl rfl) | refine leF_int ?_ | refine leF_bool ?_ | exact leN_varA (fun _ _ => (Elem.flat _ _ _).le) | exact leN_varA (fun _ _ => leC_top) | apply And.intro)
    · refine ⟨⟨k + 1, by omega⟩, [], by dsimp only; omega, rfl, ?_, ?_⟩
      · repeat' (first | exact trivial | exact rfl | exact leF_ptr rfl | exact leF_int rfl | exact leF_bool rfl | exact leF_cl (cl_slB _ _) | exact leF_cl (cl_slR _ _) | exact leF_c (leC_os rfl rfl) | refine leF_int ?_ | refine leF_bool ?_ | exact leN_varA (fun _ _ => (Elem.flat _ _ _).le) | exact leN_varA (fun _ _ => leC_top) | apply And.intro)
        · simp [fitsTo, hc]
        · (dsimp only; rw [IntWalk.i64_in _ (by omega)]; omega)
      · repeat' (first | exact trivial | exact rfl | exact leF_ptr rfl | exact leF_int rfl | exact leF_bool rfl | exact leF_cl (cl_slB _ _) | exact leF_cl (cl_slR _ _) | exact leF_c (leC_os rfl rfl) | refine leF_int ?_ | refine leF_bool ?_ | exact leN_varA (fun _ _ => (Elem.flat _ _ _).le) | exact leN_varA (fun _ _ => leC_top) | apply And.intro)
    all_goals refine Done.mk (leF_bool ?_)
    · rename_i g1 g2
      have hke : k = t.dbl.toNat + 1 := by omega
      subst hke
      have hl := fits_bd ⟨n1, n2⟩ ⟨n3, n4⟩ g2
      simp (disch := omega) only [IntWalk.i64_in, Int.tdiv_eq_ediv_of_nonneg, decide_eq_true_eq] at hc ⊢
      rw [hv, h1, h2, g2, decide_eq_true (show 0 ≤ t.heard ∧ t.heard ≤ 1048576 by omega)]
      simp [hc]
    · rename_i g1 g2
      have hke : k = t.dbl.toNat + 1 := by omega
      subst hke
      have hl := fits_bd ⟨n1, n2⟩ ⟨n3, n4⟩ g2
      simp (disch := omega) only [IntWalk.i64_in, Int.tdiv_eq_ediv_of_nonneg, decide_eq_false_iff_not] at hc
      rw [hv, decide_eq_false (p := t.start + t.len / 2 ≤ t.fire ∧ t.fire ≤ t.start + t.len - 1) (by omega)]
      simp
    · rename_i g1
      have hke : k = t.dbl.toNat + 1 := by omega
      subst hke
      rw [hv]
      simp [*]
  · refine ⟨rfl, ?_, ?_⟩
    · repeat' (first | exact trivial | exact rfl | exact leF_ptr rfl | exact leF_int rfl | exact leF_bool rfl | exact leF_cl (cl_slB _ _) | exact leF_cl (cl_slR _ _) | exact leF_c (leC_os rfl rfl) | refine leF_int ?_ | refine leF_bool ?_ | exact leN_varA (fun _ _ => (Elem.flat _ _ _).le) | exact leN_varA (fun _ _ => leC_top) | apply And.intro)
      exact e1
    · repeat' (first | exact trivial | exact rfl | exact leF_ptr rfl | exact leF_int rfl | exact leF_bool rfl | exact leF_cl (cl_slB _ _) | exact leF_cl (cl_slR _ _) | exact leF_c (leC_os rfl rfl) | refine leF_int ?_ | refine leF_bool ?_ | exact leN_varA (fun _ _ => (Elem.flat _ _ _).le) | exact leN_varA (fun _ _ => leC_top) | apply And.intro)
abbrev validE : Entry := pureE TAC (fun _ => True) (fun a => validT a.1) cB.enc
def L2 : CsL := (24, some validE) :: L1
theorem L2_ok : AllOk Try.prog L2 := ⟨pureE_ok ⟨_, Try.func24, rfl, by kernel_rfl⟩ fun a _ => valid_ok a.1, L1_ok⟩
set_option maxHeartbeats 4000000 in
theorem newT_ok (m d r now draw : Int) (hd : drawOk draw) :
    PureOk Try.prog 14 [(cI .i64).enc m, (cI .i64).enc d, (cI .i64).enc r, (cI .i64).enc now, (cI .u32).enc draw] (enc2 (newT m d r now draw)) := by
  have hb : numbersB m d r = true → 2 ≤ m ∧ m ≤ 4096 := fun h => by have := numbersB_iff.1 h; omega
  have ht : isTimeT now = true → 0 ≤ now ∧ now ≤ 1099511627776 := isTimeT_iff.1
  refine pure_intro (wd := 1) (Q := mkQ L2) (by decide) tysOk (q_of L2_ok) mixed Try.func14 rfl _ (by show 5 ≤ _; decide) _ ?_
  repeat' (first | (apply And.intro <;> intro hc <;> (first | exact Bool.noConfusion hc | (simp only [decide_eq_true_eq, decide_eq_false_iff_not, Bool.not_eq_true', Bool.not_eq_false', beq_iff_eq, beq_eq_false_iff_ne, bne_iff_ne, bne_eq_false_iff_eq, Bool.true_eq_false, Bool.false_eq_true, ne_eq, not_true_eq_false] at hc <;> first | exact absurd rfl hc | skip) | skip)) | (refine And.intro (by first | exact trivial | decide | omega | (dsimp only; omega) | exact fun _ _ => rfl | exact ⟨by assumption, by first | exact trivial | decide | omega | (dsimp only; omega)⟩) ?_) | (apply And.intro) | (intro s hs; (first | (have hs' : s = numbersB m d r := hs) | (have hs' : s = isTimeT now := hs) | (have hs' : s = beginT ⟨m, d, r, 0, 0, 0, 0, false⟩ m now draw := hs)); clear hs; subst hs'))
  all_goals first
    | exact (hb (by assumption)).1
    | exact (ht (by assumption)).1
    | exact (ht (by assumption)).2
    | exact hd.1
    | exact hd.2
    | (have := hb (by assumption); dsimp only; omega)
    | (have e : newT m d r now draw = (zeroT, 2) := by simp [newT, *]
       rw [e]
       refine done_tk2 ?_ rfl
       repeat' (first | exact trivial | exact rfl | refine leF_int ?_ | refine leF_bool ?_ | exact leF_ptr rfl | refine leF_e (leE_all ?_) | refine leF_tup ?_ | refine leC_int ?_ | refine leC_bool ?_ | exact leC_nils | exact leF_c leC_nils | apply And.intro))
    | (have e : newT m d r now draw = (beginT ⟨m, d, r, 0, 0, 0, 0, false⟩ m now draw, 0) := by simp [newT, *]
       rw [e]
       refine done_tk2 ?_ rfl
       repeat' (first | exact trivial | exact rfl | refine leF_int ?_ | refine leF_bool ?_ | exact leF_ptr rfl | refine leF_e (leE_all ?_) | refine leF_tup ?_ | refine leC_int ?_ | refine leC_bool ?_ | exact leC_nils | exact leF_c leC_nils | apply And.intro))
set_option maxHeartbeats 4000000 in
theorem hear_ok (t : Trk) : PureOk Try.prog 16 [(cE eTk).enc t] ((cE eTk).enc (hearT t)) := by
  refine pure_intro (wd := 1) (Q := mkQ L2) (by decide) tysOk (q_of L2_ok) mixed Try.func16 rfl _ (by show 1 ≤ _; decide) _ ?_
  repeat' (first | (apply And.intro <;> intro hc <;> (first | exact Bool.noConfusion hc | (simp only [decide_eq_true_eq, decide_eq_false_iff_not, Bool.not_eq_true', Bool.not_eq_false', beq_iff_eq, beq_eq_false_iff_ne, bne_iff_ne, bne_eq_false_iff_eq, Bool.true_eq_false, Bool.false_eq_true, ne_eq, not_true_eq_false] at hc <;> first | exact absurd rfl hc | skip) | skip)) | (refine And.intro (by first | exact trivial | decide | omega | (dsimp only; omega) | exact fun _ _ => rfl | exact ⟨by assumption, by first | exact trivial | decide | omega | (dsimp only; omega)⟩) ?_) | (apply And.intro) | (intro s hs; (have hs' : s = validT t := hs); clear hs; subst hs'))
  · have e : hearT t = zeroT := by simp [hearT, *]
    rw [e]
    refine done_tk ?_
    repeat' (first | exact trivial | exact rfl | refine leF_int ?_ | refine leF_bool ?_ | exact leF_ptr rfl | refine leF_e (leE_all ?_) | refine leF_tup ?_ | refine leC_int ?_ | refine leC_bool ?_ | exact leC_nils | exact leF_c leC_nils | apply And.intro)
  · rename_i hv
    have hn := validT_num hv
    have e : hearT t = { t with heard := t.heard + 1 } := by simp [hearT, *]
    rw [e]
    refine done_tk ?_
    repeat' (first | exact trivial | exact rfl | refine leF_int ?_ | refine leF_bool ?_ | exact leF_ptr rfl | refine leF_e (leE_all ?_) | refine leF_tup ?_ | refine leC_int ?_ | refine leC_bool ?_ | exact leC_nils | exact leF_c leC_nils | apply And.intro)
    all_goals first | rfl | exact IntWalk.i64_in _ (by omega)
  · have e : hearT t = t := by simp [hearT, *]
    rw [e]
    refine done_tk ?_
    repeat' (first | exact trivial | exact rfl | refine leF_int ?_ | refine leF_bool ?_ | exact leF_ptr rfl | refine leF_e (leE_all ?_) | refine leF_tup ?_ | refine leC_int ?_ | refine leC_bool ?_ | exact leC_nils | exact leF_c leC_nils | apply And.intro)
set_option maxHeartbeats 4000000 in
theorem reset_ok (t : Trk) (now draw : Int) (hd : drawOk draw) :
    PureOk Try.prog 20 [(cE eTk).enc t, (cI .i64).enc now, (cI .u32).enc draw] (enc2 (resetT t now draw)) := by
  have hn := @validT_num t
  have ht : isTimeT now = true → 0 ≤ now ∧ now ≤ 1099511627776 := isTimeT_iff.1
  refine pure_intro (wd := 1) (Q := mkQ L2) (by decide) tysOk (q_of L2_ok) mixed Try.func20 rfl _ (by show 3 ≤ _; decide) _ ?_
  repeat' (first | (apply And.intro <;> intro hc <;> (first | exact Bool.noConfusion hc | (simp only [decide_eq_true_eq, decide_eq_false_iff_not, Bool.not_eq_true', Bool.not_eq_false', beq_iff_eq, beq_eq_false_iff_ne, bne_iff_ne, bne_eq_false_iff_eq, Bool.true_eq_false, Bool.false_eq_true, ne_eq, not_true_eq_false] at hc <;> first | exact absurd rfl hc | skip) | skip)) | (refine And.intro (by first | exact trivial | decide | omega | (dsimp only; omega) | exact fun _ _ => rfl | exact ⟨by assumption, by first | exact trivial | decide | omega | (dsimp only; omega)⟩) ?_) | (apply And.intro) | (intro s hs; (first | (have hs' : s = validT t := hs) | (have hs' : s = isTimeT now := hs) | (have hs' : s = beginT t t.min now draw := hs)); clear hs; subst hs'))
  all_goals first
    | exact (hn (by assumption)).1.1
    | exact (ht (by assumption)).1
    | exact (ht (by assumption)).2
    | exact hd.1
    | exact hd.2
    | (have := hn (by assumption); dsimp only; omega)
    | (have e : resetT t now draw = (zeroT, 1) := by simp [resetT, *]
       rw [e]
       refine done_tk2 ?_ rfl
       repeat' (first | exact trivial | exact rfl | refine leF_int ?_ | refine leF_bool ?_ | exact leF_ptr rfl | refine leF_e (leE_all ?_) | refine leF_tup ?_ | refine leC_int ?_ | refine leC_bool ?_ | exact leC_nils | exact leF_c leC_nils | apply And.intro))
    | (have e : resetT t now draw = (zeroT, 2) := by simp [resetT, *]
       rw [e]
       refine done_tk2 ?_ rfl
       repeat' (first | exact trivial | exact rfl | refine leF_int ?_ | refine leF_bool ?_ | exact leF_ptr rfl | refine leF_e (leE_all ?_) | refine leF_tup ?_ | refine leC_int ?_ | refine leC_bool ?_ | exact leC_nils | exact leF_c leC_nils | apply And.intro))
    | (have e : resetT t now draw = (t, 0) := by simp [resetT, *]
       rw [e]
       refine done_tk2 ?_ rfl
       repeat' (first | exact trivial | exact rfl | refine leF_int ?_ | refine leF_bool ?_ | exact leF_ptr rfl | refine leF_e (leE_all ?_) | refine leF_tup ?_ | refine leC_int ?_ | refine leC_bool ?_ | exact leC_nils | exact leF_c leC_nils | apply And.intro))
    | (have e : resetT t now draw = (beginT t t.min now draw, 0) := by simp [resetT, *]
       rw [e]
       refine done_tk2 ?_ rfl
       repeat' (first | exact trivial | exact rfl | refine leF_int ?_ | refine leF_bool ?_ | exact leF_ptr rfl | refine leF_e (leE_all ?_) | refine leF_tup ?_ | refine leC_int ?_ | refine leC_bool ?_ | exact leC_nils | exact leF_c leC_nils | apply And.intro))
set_option maxHeartbeats 8000000 in
set_option maxRecDepth 20000 in
theorem stepT_ok (t : Trk) (now draw : Int) (hd : drawOk draw) :
    PureOk Try.prog 17 [(cE eTk).enc t, (cI .i64).enc now, (cI .u32).enc draw] (enc3 (stepT t now draw)) := by
  have hvn := @validT_num t
  have ht : isTimeT now = true → 0 ≤ now ∧ now ≤ 1099511627776 := isTimeT_iff.1
  have hF1 : t.fired = false → t.fire ≤ now → fireT t now = ({ t with fired := true }, decide (t.red = 0 ∨ t.heard < t.red)) := fun a b => by unfold fireT; rw [if_pos ⟨a, b⟩]
  have hF2 : t.fired = true → fireT t now = (t, false) := fun a => by unfold fireT; rw [if_neg (by rw [a]; simp)]
  have hF3 : ¬ t.fire ≤ now → fireT t now = (t, false) := fun a => by unfold fireT; rw [if_neg (fun h => a h.2)]
  by_cases hv : validT t = true
  case neg =>
    have hv' : validT t = false := by simpa using hv
    have e : stepT t now draw = (zeroT, false, 1) := by unfold stepT; rw [if_neg hv]
    rw [e]
    clear hF1 hF2 hF3
    refine pure_intro (wd := 1) (Q := mkQ L2) (by decide) tysOk (q_of L2_ok) mixed Try.func17 rfl _ (by show 3 ≤ _; decide) _ ?_
    repeat' (first | (apply And.intro <;> intro hc <;> (first | exact Bool.noConfusion hc | (simp only [decide_eq_true_eq, decide_eq_false_iff_not, Bool.not_eq_true', Bool.not_eq_false', beq_iff_eq, beq_eq_false_iff_ne, bne_iff_ne, bne_eq_false_iff_eq, Bool.true_eq_false, Bool.false_eq_true, ne_eq, not_true_eq_false] at hc <;> first | exact absurd rfl hc | skip) | skip)) | (refine And.intro (by first | exact trivial | decide | omega | (dsimp only; omega) | exact fun _ _ => rfl | exact ⟨by assumption, by first | exact trivial | decide | omega | (dsimp only; omega)⟩) ?_) | (apply And.intro) | (intro s hs; (first | (have hs' : s = false := hs.trans hv') | (have hs' : s = isTimeT now := hs)); clear hs; subst hs'))
    refine done_tk3 ?_ rfl rfl
    repeat' (first | exact trivial | exact rfl | refine leF_int ?_ | refine leF_bool ?_ | exact leF_ptr rfl | refine leF_e (leE_all ?_) | refine leF_tup ?_ | refine leC_int ?_ | refine leC_bool ?_ | exact leC_nils | exact leF_c leC_nils | apply And.intro)
  by_cases htm : isTimeT now = true
  case neg =>
    have htm' : isTimeT now = false := by simpa using htm
    have e : stepT t now draw = (zeroT, false, 2) := by unfold stepT; rw [if_pos hv, if_neg (fun h => htm h.1)]
    rw [e]
    clear hF1 hF2 hF3
    refine pure_intro (wd := 1) (Q := mkQ L2) (by decide) tysOk (q_of L2_ok) mixed Try.func17 rfl _ (by show 3 ≤ _; decide) _ ?_
    repeat' (first | (apply And.intro <;> intro hc <;> (first | exact Bool.noConfusion hc | (simp only [decide_eq_true_eq, decide_eq_false_iff_not, Bool.not_eq_true', Bool.not_eq_false', beq_iff_eq, beq_eq_false_iff_ne, bne_iff_ne, bne_eq_false_iff_eq, Bool.true_eq_false, Bool.false_eq_true, ne_eq, not_true_eq_false] at hc <;> first | exact absurd rfl hc | skip) | skip)) | (refine And.intro (by first | exact trivial | decide | omega | (dsimp only; omega) | exact fun _ _ => rfl | exact ⟨by assumption, by first | exact trivial | decide | omega | (dsimp only; omega)⟩) ?_) | (apply And.intro) | (intro s hs; (first | (have hs' : s = true := hs.trans hv) | (have hs' : s = false := hs.trans htm')); clear hs; subst hs'))
    all_goals (refine done_tk3 ?_ rfl rfl; repeat' (first | exact trivial | exact rfl | refine leF_int ?_ | refine leF_bool ?_ | exact leF_ptr rfl | refine leF_e (leE_all ?_) | refine leF_tup ?_ | refine leC_int ?_ | refine leC_bool ?_ | exact leC_nils | exact leF_c leC_nils | apply And.intro))
  by_cases hst : t.start ≤ now
  case neg =>
    have e : stepT t now draw = (zeroT, false, 2) := by unfold stepT; rw [if_pos hv, if_neg (fun h => hst h.2)]
    rw [e]
    clear hF1 hF2 hF3
    refine pure_intro (wd := 1) (Q := mkQ L2) (by decide) tysOk (q_of L2_ok) mixed Try.func17 rfl _ (by show 3 ≤ _; decide) _ ?_
    repeat' (first | (apply And.intro <;> intro hc <;> (first | exact Bool.noConfusion hc | (simp only [decide_eq_true_eq, decide_eq_false_iff_not, Bool.not_eq_true', Bool.not_eq_false', beq_iff_eq, beq_eq_false_iff_ne, bne_iff_ne, bne_eq_false_iff_eq, Bool.true_eq_false, Bool.false_eq_true, ne_eq, not_true_eq_false] at hc <;> first | exact absurd rfl hc | skip) | skip)) | (refine And.intro (by first | exact trivial | decide | omega | (dsimp only; omega) | exact fun _ _ => rfl | exact ⟨by assumption, by first | exact trivial | decide | omega | (dsimp only; omega)⟩) ?_) | (apply And.intro) | (intro s hs; (first | (have hs' : s = true := hs.trans hv) | (have hs' : s = true := hs.trans htm)); clear hs; subst hs'))
    all_goals first
      | (exfalso; omega)
      | (refine done_tk3 ?_ rfl rfl; repeat' (first | exact trivial | exact rfl | refine leF_int ?_ | refine leF_bool ?_ | exact leF_ptr rfl | refine leF_e (leE_all ?_) | refine leF_tup ?_ | refine leC_int ?_ | refine leC_bool ?_ | exact leC_nils | exact leF_c leC_nils | apply And.intro))
  have hn := hvn hv
  obtain ⟨j, hj, hlen⟩ := fitsTo_iff.1 hn.2.2.2.2.1
  have hp := pow_bd (j := t.dbl.toNat) ⟨hn.1.1, hn.1.2.1⟩ (by omega)
  have hsh : shlI .i64 t.min t.dbl = t.min * 2 ^ t.dbl.toNat := by
    unfold shlI
    rw [show min t.dbl.toNat (IntKind.bits .i64) = t.dbl.toNat by simp [IntKind.bits]; omega]
    exact IntWalk.i64_in _ (by omega)
  have ht' := ht htm
  have hw1 : IntKind.i64.wrap (t.start + t.len) = t.start + t.len := IntWalk.i64_in _ (by omega)
  have hw2 : IntKind.i64.wrap (2 * t.len) = 2 * t.len := IntWalk.i64_in _ (by omega)
  have hs : stepT t now draw = (if t.start + t.len ≤ now then beginT (fireT t now).1 (Min.min (2 * t.len) (t.min * 2 ^ t.dbl.toNat)) now draw else (fireT t now).1, (fireT t now).2, 0) := by
    unfold stepT; rw [if_pos hv, if_pos ⟨htm, hst⟩]
  have hmn : (if shlI .i64 t.min t.dbl < IntKind.i64.wrap (2 * t.len) then shlI .i64 t.min t.dbl else IntKind.i64.wrap (2 * t.len)) = Min.min (2 * t.len) (t.min * 2 ^ t.dbl.toNat) := by
    rw [hsh, hw2]; omega
  have hb1 : ∀ x : Trk, beginT x (if shlI .i64 t.min t.dbl < IntKind.i64.wrap (2 * t.len) then shlI .i64 t.min t.dbl else IntKind.i64.wrap (2 * t.len)) now draw = beginT x (Min.min (2 * t.len) (t.min * 2 ^ t.dbl.toNat)) now draw := fun x => by rw [hmn]
  have hst0 : ¬ now < t.start := by omega
  have hle : 2 ≤ (if shlI .i64 t.min t.dbl < IntKind.i64.wrap (2 * t.len) then shlI .i64 t.min t.dbl else IntKind.i64.wrap (2 * t.len)) ∧ (if shlI .i64 t.min t.dbl < IntKind.i64.wrap (2 * t.len) then shlI .i64 t.min t.dbl else IntKind.i64.wrap (2 * t.len)) ≤ 268435456 := by rw [hmn]; omega
  have g1 : IntKind.i64.wrap (t.start + t.len) ≤ now → t.start + t.len ≤ now := by rw [hw1]; exact id
  have g2 : ¬ IntKind.i64.wrap (t.start + t.len) ≤ now → ¬ t.start + t.len ≤ now := by rw [hw1]; exact id
  have t3 : ∀ x : Trk × Bool, t.red = 0 → x = ({ t with fired := true }, true) → x = ({ t with fired := true }, decide (t.red = 0 ∨ t.heard < t.red)) := fun x h h' => by rw [h', decide_eq_true (.inl h)]
  rw [hs]
  clear hs ht hvn
  refine pure_intro (wd := 1) (Q := mkQ L2) (by decide) tysOk (q_of L2_ok) mixed Try.func17 rfl _ (by show 3 ≤ _; decide) _ ?_
  repeat' (first | (apply And.intro <;> intro hc <;> (first | exact Bool.noConfusion hc | (simp only [decide_eq_true_eq, decide_eq_false_iff_not, Bool.not_eq_true', Bool.not_eq_false', beq_iff_eq, beq_eq_false_iff_ne, bne_iff_ne, bne_eq_false_iff_eq, Bool.true_eq_false, Bool.false_eq_true, ne_eq, not_true_eq_false] at hc <;> first | exact absurd rfl hc | skip) | skip)) | (refine And.intro (by first | exact trivial | decide | omega | (dsimp only; omega) | exact fun _ _ => rfl | exact ⟨by assumption, by first | exact trivial | decide | omega | (dsimp only; omega)⟩) ?_) | (apply And.intro) | (intro s hs; (first | (have hs' : s = true := hs.trans hv; clear hs; subst hs') | (have hs' : s = true := hs.trans htm; clear hs; subst hs') | (have hs' := hs.trans (hb1 _); clear hs; rename_i s0; try dsimp only at hs'))))
  all_goals first
    | exact absurd (by assumption) hst0
    | exact hle.1
    | exact hle.2
    | exact ht'.1
    | exact ht'.2
    | exact hd.1
    | exact hd.2
    | (show (0 : Int) ≤ t.dbl; omega)
    | skip
  all_goals
    first | rw [hF1 (by assumption) (by assumption)] | rw [hF2 (by assumption)] | rw [hF3 (by assumption)]
    first | rw [if_pos (g1 (by assumption))] | rw [if_neg (g2 (by assumption))]
    try subst hs'
    refine done_tk3 ?_ ?_ rfl
    · repeat' (first | exact trivial | exact rfl | refine leF_int ?_ | refine leF_bool ?_ | exact leF_ptr rfl | refine leF_e (leE_all ?_) | refine leF_tup ?_ | refine leC_int ?_ | refine leC_bool ?_ | exact leC_nils | exact leF_c leC_nils | apply And.intro)
    · simp [*]
end Go.Proofs.Ytolliidpmgncdaa.AX
