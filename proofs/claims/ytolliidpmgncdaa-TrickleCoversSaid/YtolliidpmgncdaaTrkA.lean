/- The functions of package trickle, by AX. -/
import Derived.Test.YtolliidpmgncdaaTys
import Derived.Test.YtolliidpmgncdaaAxLoop
import Derived.Test.YtolliidpmgncdaaTrk
import Derived.Laws.BitsAllLaws
import Derived.IntWalk
namespace Go.Proofs.Ytolliidpmgncdaa.AX
set_option linter.unusedVariables false
set_option linter.unusedSimpArgs false
def L0 : CsL := []
theorem L0_ok : AllOk Try.prog L0 := trivial

def cTrkL (x : Trk) : List CV := [.int .i64 x.min, .int .i64 x.dbl, .int .i64 x.red, .int .i64 x.start, .int .i64 x.len, .int .i64 x.fire, .int .i64 x.heard, .bool x.fired]
def cTrkE (x : Trk) : EV := .agg 8 (nth (cTrkL x))
def cTrk : Codec Trk where
  enc x := .e (cTrkE x)
  dec x := (ga 8 x).bind fun f => (gi .i64 (f 0)).bind fun a0 => (gi .i64 (f 1)).bind fun a1 => (gi .i64 (f 2)).bind fun a2 => (gi .i64 (f 3)).bind fun a3 => (gi .i64 (f 4)).bind fun a4 => (gi .i64 (f 5)).bind fun a5 => (gi .i64 (f 6)).bind fun a6 => (gb (f 7)).bind fun a7 => some ⟨a0, a1, a2, a3, a4, a5, a6, a7⟩
  sound x a h := by
    obtain ⟨f, h0, h⟩ := bind_some h
    obtain ⟨a0, g0, h⟩ := bind_some h
    obtain ⟨a1, g1, h⟩ := bind_some h
    obtain ⟨a2, g2, h⟩ := bind_some h
    obtain ⟨a3, g3, h⟩ := bind_some h
    obtain ⟨a4, g4, h⟩ := bind_some h
    obtain ⟨a5, g5, h⟩ := bind_some h
    obtain ⟨a6, g6, h⟩ := bind_some h
    obtain ⟨a7, g7, h⟩ := bind_some h
    injection h with h
    subst h
    rw [ga_eq h0]
    refine leF_e (leE_all ?_)
    refine ⟨⟨⟨⟨⟨⟨⟨⟨trivial, ?_⟩, ?_⟩, ?_⟩, ?_⟩, ?_⟩, ?_⟩, ?_⟩, ?_⟩
    · show LeC 0 (f 0) _; rw [gi_eq g0]; exact leC_int rfl
    · show LeC 0 (f 1) _; rw [gi_eq g1]; exact leC_int rfl
    · show LeC 0 (f 2) _; rw [gi_eq g2]; exact leC_int rfl
    · show LeC 0 (f 3) _; rw [gi_eq g3]; exact leC_int rfl
    · show LeC 0 (f 4) _; rw [gi_eq g4]; exact leC_int rfl
    · show LeC 0 (f 5) _; rw [gi_eq g5]; exact leC_int rfl
    · show LeC 0 (f 6) _; rw [gi_eq g6]; exact leC_int rfl
    · show LeC 0 (f 7) _; rw [gb_eq g7]; exact leC_bool rfl

theorem isTime_ok (c : Int) : PureOk Try.prog 43 [(cI .i64).enc c] (.e (.c (.bool (isTimeT c)))) := by
  refine pure_intro (C := mkC L0) (Q := mkQ L0) tysOk (callsOk_of L0_ok) (local_of L0_ok) (q_of L0_ok) mixed Try.func43 rfl _ (by show 1 ≤ _; decide) _ (by intro x hx; first | (cases hx; done) | (simp only [List.mem_cons, List.not_mem_nil, or_false] at hx; subst hx; exact leF_int rfl)) ?_
  repeat' (first | (apply And.intro <;> intro hc <;> (first | exact Bool.noConfusion hc | skip)) | (refine And.intro (by first | decide | omega | (dsimp only; omega)) ?_) | (apply And.intro) | (intro s hs))
  all_goals refine Fin.mk (leF_bool ?_)
  all_goals simp_all [isTimeT]
  all_goals omega
theorem isTime_ent : EntOk Try.prog 43 (pureE (pure1 (cI .i64) fun c => (none, .e (.c (.bool (isTimeT c)))))) :=
  pure1_ok ⟨_, Try.func43, rfl, by kernel_rfl⟩ fun a _ => isTime_ok a

theorem numbers_ok (m d r : Int) : PureOk Try.prog 44 [(cI .i64).enc m, (cI .i64).enc d, (cI .i64).enc r] (.e (.c (.bool (numbersB m d r)))) := by
  refine pure_intro (C := mkC L0) (Q := mkQ L0) tysOk (callsOk_of L0_ok) (local_of L0_ok) (q_of L0_ok) mixed Try.func44 rfl _ (by show 3 ≤ _; decide) _ (by intro x hx; first | (cases hx; done) | (simp only [List.mem_cons, List.not_mem_nil, or_false] at hx; rcases hx with rfl | rfl | rfl <;> exact leF_int rfl)) ?_
  repeat' (first | (apply And.intro <;> intro hc <;> (first | exact Bool.noConfusion hc | skip)) | (refine And.intro (by first | decide | omega | (dsimp only; omega)) ?_) | (apply And.intro) | (intro s hs))
  all_goals refine Fin.mk (leF_bool ?_)
  all_goals simp_all [numbersB]
  all_goals omega
theorem numbers_ent : EntOk Try.prog 44 (pureE (pure3 (cI .i64) (cI .i64) (cI .i64) fun m d r => (none, .e (.c (.bool (numbersB m d r)))))) :=
  pure3_ok ⟨_, Try.func44, rfl, by kernel_rfl⟩ fun a b c _ => numbers_ok a b c

theorem begin_ok (t : Trk) (l now draw : Int) (hl : 2 ≤ l ∧ l ≤ 268435456) (hn : 0 ≤ now ∧ now ≤ 1099511627776) (hd : 0 ≤ draw ∧ draw < 4294967296) :
    PureOk Try.prog 45 [cTrk.enc t, (cI .i64).enc l, (cI .i64).enc now, (cI .u32).enc draw] (cTrk.enc (beginT t l now draw)) := by
  refine pure_intro (C := mkC L0) (Q := mkQ L0) tysOk (callsOk_of L0_ok) (local_of L0_ok) (q_of L0_ok) mixed Try.func45 rfl _ (by show 4 ≤ _; decide) _ (by intro x hx; first | (cases hx; done) | (simp only [List.mem_cons, List.not_mem_nil, or_false] at hx; rcases hx with rfl | rfl | rfl | rfl <;> first | exact leF_int rfl | exact cTrk.sound _ t rfl)) ?_
  have hm : 0 ≤ draw % (l - l / 2) ∧ draw % (l - l / 2) < l - l / 2 := ⟨Int.emod_nonneg _ (by omega), Int.emod_lt_of_pos _ (by omega)⟩
  repeat' (first | (apply And.intro <;> intro hc <;> (first | exact Bool.noConfusion hc | skip)) | (refine And.intro (by first | decide | omega | (dsimp only; omega)) ?_) | (apply And.intro) | (intro s hs))
  · simp (disch := omega) only [IntWalk.i64_in, IntWalk.u8_in, IntWalk.u16_in, IntWalk.u32_in, IntWalk.u64_in, Int.tdiv_eq_ediv_of_nonneg, Int.tmod_eq_emod_of_nonneg]
    omega
  · refine Fin.mk (leF_e (leE_all ?_))
    repeat' (first | exact trivial | refine leC_int ?_ | refine leC_bool ?_ | apply And.intro)
    case right.left.left.right =>
      simp (disch := omega) only [IntWalk.i64_in, IntWalk.u8_in, IntWalk.u16_in, IntWalk.u32_in, IntWalk.u64_in, Int.tdiv_eq_ediv_of_nonneg, Int.tmod_eq_emod_of_nonneg]
      rfl
    all_goals rfl
theorem begin_ent : EntOk Try.prog 45 (pureE (pure4 cTrk (cI .i64) (cI .i64) (cI .u32) fun t l now d => (some ((2 ≤ l ∧ l ≤ 268435456) ∧ (0 ≤ now ∧ now ≤ 1099511627776) ∧ 0 ≤ d ∧ d < 4294967296), cTrk.enc (beginT t l now d)))) :=
  pure4_ok ⟨_, Try.func45, rfl, by kernel_rfl⟩ fun a b c d h => begin_ok a b c d h.1 h.2.1 h.2.2

def L1 : CsL := [(43, some (pureE (pure1 (cI .i64) fun c => (none, .e (.c (.bool (isTimeT c))))))), (44, some (pureE (pure3 (cI .i64) (cI .i64) (cI .i64) fun m d r => (none, .e (.c (.bool (numbersB m d r))))))),
  (45, some (pureE (pure4 cTrk (cI .i64) (cI .i64) (cI .u32) fun t l now d => (some ((2 ≤ l ∧ l ≤ 268435456) ∧ (0 ≤ now ∧ now ≤ 1099511627776) ∧ 0 ≤ d ∧ d < 4294967296), cTrk.enc (beginT t l now d)))))]
theorem L1_ok : AllOk Try.prog L1 := ⟨isTime_ent, numbers_ent, begin_ent, trivial⟩

theorem valid_ok (t : Trk) : PureOk Try.prog 24 [cTrk.enc t] (.e (.c (.bool (validT t)))) := by
  refine pure_intro (C := mkC L1) (Q := mkQ L1) tysOk (callsOk_of L1_ok) (local_of L1_ok) (q_of L1_ok) mixed Try.func24 rfl _ (by show 1 ≤ _; decide) _ (by intro x hx; first | (cases hx; done) | (simp only [List.mem_cons, List.not_mem_nil, or_false] at hx; subst hx; exact cTrk.sound _ t rfl)) ?_
  have hv : validT t = (numbersB t.min t.dbl t.red && isTimeT t.start && decide (0 ≤ t.heard ∧ t.heard ≤ 1048576) && fitsTo t.min t.len (t.dbl.toNat + 1) && decide (t.start + t.len / 2 ≤ t.fire ∧ t.fire ≤ t.start + t.len - 1)) := rfl
  repeat' (first | (apply And.intro <;> intro hc <;> (first | exact Bool.noConfusion hc | skip)) | (refine And.intro (by first | decide | omega | (dsimp only; omega)) ?_) | (apply And.intro) | (intro s hs))
  all_goals try (refine Fin.mk (leF_bool ?_))
  case right.right.right.right =>
    rename_i h1 h2 h3
    have h4 := hc
    simp only [Bool.not_eq_false', decide_eq_false_iff_not] at h1 h2 h3 h4
    obtain ⟨n1, n2, n3, n4, n5, n6⟩ := numbersB_iff.1 h1
    obtain ⟨t1, t2⟩ := isTimeT_iff.1 h2
    refine loop_intro (mono_of L1_ok) (σ := { k : Nat // k ≤ t.dbl.toNat + 1 }) (fun k => ⟨[(1, one (.ptr 0 0)), (3, .e (.c (.bool (fitsTo t.min t.len k.1)))), (31, .e (.c (.int .i64 (t.dbl + 1)))), (32, .e (.c (.int .i64 k.1)))], [(0, some ⟨26, 8, nth (cTrkL t)⟩)], 1⟩) (fun k => t.dbl.toNat + 1 - k.1) (fun _ => rfl) ?_ ⟨0, by omega⟩ ?_ ?_
    · rintro ⟨k, hk⟩
      have hp : k ≤ 16 → t.min ≤ t.min * 2 ^ k ∧ t.min * 2 ^ k ≤ 268435456 := fun h => pow_bd ⟨n1, n2⟩ h
      have hsh : k ≤ 16 → shlI .i64 t.min k = t.min * 2 ^ k := fun h => by
        have := hp h
        unfold shlI
        rw [show min ((k : Int).toNat) (IntKind.bits .i64) = k by simp [IntKind.bits]; omega]
        exact IntWalk.i64_in _ (by omega)
      repeat' (first | (apply And.intro <;> intro hc <;> (first | exact Bool.noConfusion hc | skip)) | (refine And.intro (by first | decide | omega | (dsimp only; omega)) ?_) | (apply And.intro) | (intro s hs))
      · rename_i h5
        simp only [decide_eq_true_eq] at h5
        rw [hsh (by omega)] at hc
        refine ⟨⟨k + 1, by omega⟩, by show _ - _ < _; simp only; omega, ?_, ?_⟩
        · repeat' (first | exact trivial | exact rfl | exact leC_slI (by assumption) | refine leF_int ?_ | refine leF_bool ?_ | exact leF_ptr rfl | refine leN_all ?_ | refine leC_int ?_ | refine leC_bool ?_ | apply And.intro)
          · simp [fitsTo, hc]
          · simp (disch := omega) only [IntWalk.i64_in, IntWalk.u8_in, IntWalk.u16_in, IntWalk.u32_in, IntWalk.u64_in, Int.tdiv_eq_ediv_of_nonneg, Int.tmod_eq_emod_of_nonneg]
            rfl
        · repeat' (first | exact trivial | exact rfl | exact leC_slI (by assumption) | refine leF_int ?_ | refine leF_bool ?_ | exact leF_ptr rfl | refine leN_all ?_ | refine leC_int ?_ | refine leC_bool ?_ | apply And.intro)
      · rename_i h5
        simp only [decide_eq_true_eq] at h5
        rw [hsh (by omega)] at hc
        refine ⟨⟨k + 1, by omega⟩, by show _ - _ < _; simp only; omega, ?_, ?_⟩
        · repeat' (first | exact trivial | exact rfl | exact leC_slI (by assumption) | refine leF_int ?_ | refine leF_bool ?_ | exact leF_ptr rfl | refine leN_all ?_ | refine leC_int ?_ | refine leC_bool ?_ | apply And.intro)
          · simp [fitsTo, hc]
          · simp (disch := omega) only [IntWalk.i64_in, IntWalk.u8_in, IntWalk.u16_in, IntWalk.u32_in, IntWalk.u64_in, Int.tdiv_eq_ediv_of_nonneg, Int.tmod_eq_emod_of_nonneg]
            rfl
        · repeat' (first | exact trivial | exact rfl | exact leC_slI (by assumption) | refine leF_int ?_ | refine leF_bool ?_ | exact leF_ptr rfl | refine leN_all ?_ | refine leC_int ?_ | refine leC_bool ?_ | apply And.intro)
      all_goals refine Fin.mk (leF_bool ?_)
      all_goals
        rename_i g1 g2
        have hke : k = t.dbl.toNat + 1 := by simp only [decide_eq_false_iff_not] at g1; omega
        subst hke
      · have hl := fits_bd ⟨n1, n2⟩ ⟨n3, n4⟩ g2
        simp (disch := omega) only [IntWalk.i64_in, Int.tdiv_eq_ediv_of_nonneg, decide_eq_true_eq] at hc ⊢
        rw [hv, h1, h2, g2, decide_eq_true (show 0 ≤ t.heard ∧ t.heard ≤ 1048576 by omega)]
        simp [hc]
      · have hl := fits_bd ⟨n1, n2⟩ ⟨n3, n4⟩ g2
        simp (disch := omega) only [IntWalk.i64_in, Int.tdiv_eq_ediv_of_nonneg, decide_eq_false_iff_not] at hc
        rw [hv, decide_eq_false (p := t.start + t.len / 2 ≤ t.fire ∧ t.fire ≤ t.start + t.len - 1) (by omega)]
        simp
      · simp only at g2
        rw [hv, g2]
        simp
    · repeat' (first | exact trivial | exact rfl | exact leC_slI (by assumption) | refine leF_int ?_ | refine leF_bool ?_ | exact leF_ptr rfl | refine leN_all ?_ | refine leC_int ?_ | refine leC_bool ?_ | apply And.intro)
      simp (disch := omega) only [IntWalk.i64_in, IntWalk.u8_in, IntWalk.u16_in, IntWalk.u32_in, IntWalk.u64_in, Int.tdiv_eq_ediv_of_nonneg, Int.tmod_eq_emod_of_nonneg]
    · repeat' (first | exact trivial | exact rfl | exact leC_slI (by assumption) | refine leF_int ?_ | refine leF_bool ?_ | exact leF_ptr rfl | refine leN_all ?_ | refine leC_int ?_ | refine leC_bool ?_ | apply And.intro)
  all_goals simp_all
  all_goals omega
theorem valid_ent : EntOk Try.prog 24 (pureE (pure1 cTrk fun t => (none, .e (.c (.bool (validT t)))))) :=
  pure1_ok ⟨_, Try.func24, rfl, by kernel_rfl⟩ fun a _ => valid_ok a

def L2 : CsL := (24, some (pureE (pure1 cTrk fun t => (none, .e (.c (.bool (validT t))))))) :: L1
theorem L2_ok : AllOk Try.prog L2 := ⟨valid_ent, L1_ok⟩

theorem newT_ok (m d r now draw : Int) (hd : 0 ≤ draw ∧ draw < 4294967296) :
    PureOk Try.prog 14 [(cI .i64).enc m, (cI .i64).enc d, (cI .i64).enc r, (cI .i64).enc now, (cI .u32).enc draw] (.tup [cTrkE (newT m d r now draw).1, .c (.int .i64 (newT m d r now draw).2)]) := by
  refine pure_intro (C := mkC L2) (Q := mkQ L2) tysOk (callsOk_of L2_ok) (local_of L2_ok) (q_of L2_ok) mixed Try.func14 rfl _ (by show 5 ≤ _; decide) _ (by intro x hx; first | (cases hx; done) | (simp only [List.mem_cons, List.not_mem_nil, or_false] at hx; rcases hx with rfl | rfl | rfl | rfl | rfl <;> exact leF_int rfl)) ?_
  have hb : numbersB m d r = true → 2 ≤ m ∧ m ≤ 4096 := fun h => by have := numbersB_iff.1 h; omega
  have ht : isTimeT now = true → 0 ≤ now ∧ now ≤ 1099511627776 := isTimeT_iff.1
  repeat' (first | (apply And.intro <;> intro hc <;> (first | exact Bool.noConfusion hc | skip)) | (refine And.intro (by first | decide | omega | (dsimp only; omega)) ?_) | (apply And.intro) | (intro s hs))
  all_goals simp only [Bool.not_eq_true', Bool.not_eq_false'] at *
  case left.left => 
    rename_i h1
    refine Fin.mk (leF_tup2 (leE_all ?_) (leE_c (leC_int ?_)))
    · repeat' (first | exact trivial | refine leC_int ?_ | refine leC_bool ?_ | apply And.intro)
      all_goals simp [newT, h1, zeroT]
    · simp [newT, h1]
  case right.left =>
    refine Fin.mk (leF_tup2 (leE_all ?_) (leE_c (leC_int ?_)))
    · repeat' (first | exact trivial | refine leC_int ?_ | refine leC_bool ?_ | apply And.intro)
      all_goals simp [newT, hc, zeroT]
    · simp [newT, hc]
  case right.right.right =>
    rename_i h1
    refine Fin.mk (leF_tup2 (leE_all ?_) (leE_c (leC_int ?_)))
    · repeat' (first | exact trivial | refine leC_int ?_ | refine leC_bool ?_ | apply And.intro)
      all_goals simp [newT, hc, h1]
    · simp [newT, hc, h1]
  all_goals
    rename_i h1
    have := hb hc
    have := ht h1
    omega
def enc2 (s : Trk × Int) : FV := .tup [cTrkE s.1, .c (.int .i64 s.2)]
def enc3 (s : Trk × Bool × Int) : FV := .tup [cTrkE s.1, .c (.bool s.2.1), .c (.int .i64 s.2.2)]
def newE5 : Entry := pureR5 (cI .i64) (cI .i64) (cI .i64) (cI .i64) (cI .u32) (fun m d r now w => some (0 ≤ w ∧ w < 4294967296)) newT enc2
def hearE : Entry := pureR1 cTrk (fun _ => none) hearT cTrk.enc
def resetE : Entry := pureR3 cTrk (cI .i64) (cI .u32) (fun t now w => some (0 ≤ w ∧ w < 4294967296)) resetT enc2
def stepE : Entry := pureR3 cTrk (cI .i64) (cI .u32) (fun t now w => some (0 ≤ w ∧ w < 4294967296)) stepT enc3
theorem newT_ent : EntOk Try.prog 14 newE5 :=
  pureR5_ok ⟨_, Try.func14, rfl, by kernel_rfl⟩ fun a b c d e h => newT_ok a b c d e h

theorem hear_ok (t : Trk) : PureOk Try.prog 16 [cTrk.enc t] (cTrk.enc (hearT t)) := by
  refine pure_intro (C := mkC L2) (Q := mkQ L2) tysOk (callsOk_of L2_ok) (local_of L2_ok) (q_of L2_ok) mixed Try.func16 rfl _ (by show 1 ≤ _; decide) _ (by intro x hx; first | (cases hx; done) | (simp only [List.mem_cons, List.not_mem_nil, or_false] at hx; subst hx; exact cTrk.sound _ t rfl)) ?_
  repeat' (first | (apply And.intro <;> intro hc <;> (first | exact Bool.noConfusion hc | skip)) | (refine And.intro (by first | decide | omega | (dsimp only; omega)) ?_) | (apply And.intro) | (intro s hs))
  case left =>
    have hv : validT t = false := by simpa using hc
    refine Fin.mk (leF_e (leE_all ?_))
    repeat' (first | exact trivial | refine leC_int ?_ | refine leC_bool ?_ | apply And.intro)
    all_goals simp [hearT, hv, zeroT]
  case right.left =>
    rename_i h1
    have hv : validT t = true := by simpa using h1
    have hn := validT_num hv
    have hc' : t.heard < 1048576 := by simpa using hc
    refine Fin.mk (leF_e (leE_all ?_))
    repeat' (first | exact trivial | refine leC_int ?_ | refine leC_bool ?_ | apply And.intro)
    case left.right => 
      simp (disch := omega) only [IntWalk.i64_in, IntWalk.u8_in, IntWalk.u16_in, IntWalk.u32_in, IntWalk.u64_in, Int.tdiv_eq_ediv_of_nonneg, Int.tmod_eq_emod_of_nonneg]
      simp [hearT, hv, hc']
    all_goals simp [hearT, hv, hc']
  case right.right =>
    rename_i h1
    have hv : validT t = true := by simpa using h1
    have hc' : ¬ t.heard < 1048576 := by simpa using hc
    refine Fin.mk (leF_e (leE_all ?_))
    repeat' (first | exact trivial | refine leC_int ?_ | refine leC_bool ?_ | apply And.intro)
    all_goals simp [hearT, hv, hc']
theorem hear_ent : EntOk Try.prog 16 hearE :=
  pureR1_ok ⟨_, Try.func16, rfl, by kernel_rfl⟩ fun a _ => hear_ok a

theorem reset_ok (t : Trk) (now draw : Int) (hd : 0 ≤ draw ∧ draw < 4294967296) :
    PureOk Try.prog 20 [cTrk.enc t, (cI .i64).enc now, (cI .u32).enc draw] (.tup [cTrkE (resetT t now draw).1, .c (.int .i64 (resetT t now draw).2)]) := by
  refine pure_intro (C := mkC L2) (Q := mkQ L2) tysOk (callsOk_of L2_ok) (local_of L2_ok) (q_of L2_ok) mixed Try.func20 rfl _ (by show 3 ≤ _; decide) _ (by intro x hx; first | (cases hx; done) | (simp only [List.mem_cons, List.not_mem_nil, or_false] at hx; rcases hx with rfl | rfl | rfl <;> first | exact leF_int rfl | exact cTrk.sound _ t rfl)) ?_
  cases hv : validT t with
  | false =>
    have hv' : validT ⟨t.min, t.dbl, t.red, t.start, t.len, t.fire, t.heard, t.fired⟩ = false := hv
    repeat' (first | (apply And.intro <;> intro hc <;> (first | exact Bool.noConfusion hc | (exfalso; simp [hv'] at hc; done) | skip)) | (refine And.intro (by first | decide | omega | (dsimp only; omega)) ?_) | (apply And.intro) | (intro s hs))
    refine Fin.mk (leF_tup2 (leE_all ?_) (leE_c (leC_int ?_)))
    · repeat' (first | exact trivial | refine leC_int ?_ | refine leC_bool ?_ | apply And.intro)
      all_goals simp [resetT, hv, zeroT]
    · simp [resetT, hv]
  | true =>
  have hv' : validT ⟨t.min, t.dbl, t.red, t.start, t.len, t.fire, t.heard, t.fired⟩ = true := hv
  have hn := validT_num hv
  cases htm : isTimeT now with
  | false =>
    repeat' (first | (apply And.intro <;> intro hc <;> (first | exact Bool.noConfusion hc | (exfalso; simp [hv', htm] at hc; done) | skip)) | (refine And.intro (by first | decide | omega | (dsimp only; omega)) ?_) | (apply And.intro) | (intro s hs))
    refine Fin.mk (leF_tup2 (leE_all ?_) (leE_c (leC_int ?_)))
    · repeat' (first | exact trivial | refine leC_int ?_ | refine leC_bool ?_ | apply And.intro)
      all_goals simp [resetT, hv, htm, zeroT]
    · simp [resetT, hv, htm]
  | true =>
  have ht := isTimeT_iff.1 htm
  repeat' (first | (apply And.intro <;> intro hc <;> (first | exact Bool.noConfusion hc | (exfalso; simp [hv', htm] at hc; done) | skip)) | (refine And.intro (by first | decide | omega | (dsimp only; omega)) ?_) | (apply And.intro) | (intro s hs))
  · have hl : t.len = t.min := by simpa using hc
    refine Fin.mk (leF_tup2 (leE_all ?_) (leE_c (leC_int ?_)))
    · repeat' (first | exact trivial | refine leC_int ?_ | refine leC_bool ?_ | apply And.intro)
      all_goals simp [resetT, hv, htm, hl]
    · simp [resetT, hv, htm, hl]
  · have hl : ¬ t.len = t.min := by simpa using hc
    refine Fin.mk (leF_tup2 (leE_all ?_) (leE_c (leC_int ?_)))
    · repeat' (first | exact trivial | refine leC_int ?_ | refine leC_bool ?_ | apply And.intro)
      all_goals simp [resetT, hv, htm, hl]
    · simp [resetT, hv, htm, hl]
theorem reset_ent : EntOk Try.prog 20 resetE :=
  pureR3_ok ⟨_, Try.func20, rfl, by kernel_rfl⟩ fun a b c h => reset_ok a b c h

theorem stepT_ok (t : Trk) (now draw : Int) (hd : 0 ≤ draw ∧ draw < 4294967296) :
    PureOk Try.prog 17 [cTrk.enc t, (cI .i64).enc now, (cI .u32).enc draw] (.tup [cTrkE (stepT t now draw).1, .c (.bool (stepT t now draw).2.1), .c (.int .i64 (stepT t now draw).2.2)]) := by
  refine pure_intro (C := mkC L2) (Q := mkQ L2) tysOk (callsOk_of L2_ok) (local_of L2_ok) (q_of L2_ok) mixed Try.func17 rfl _ (by show 3 ≤ _; decide) _ (by intro x hx; first | (cases hx; done) | (simp only [List.mem_cons, List.not_mem_nil, or_false] at hx; rcases hx with rfl | rfl | rfl <;> first | exact leF_int rfl | exact cTrk.sound _ t rfl)) ?_
  cases hv : validT t with
  | false =>
    have hv' : validT ⟨t.min, t.dbl, t.red, t.start, t.len, t.fire, t.heard, t.fired⟩ = false := hv
    repeat' (first | (apply And.intro <;> intro hc <;> (first | exact Bool.noConfusion hc | (exfalso; simp [hv'] at hc; done) | skip)) | (refine And.intro (by first | decide | omega | (dsimp only; omega)) ?_) | (apply And.intro) | (intro s hs))
    refine Fin.mk (leF_tup3 (leE_all ?_) (leE_c (leC_bool ?_)) (leE_c (leC_int ?_)))
    · repeat' (first | exact trivial | refine leC_int ?_ | refine leC_bool ?_ | apply And.intro)
      all_goals simp [stepT, hv, zeroT]
    · simp [stepT, hv]
    · simp [stepT, hv]
  | true =>
  have hv' : validT ⟨t.min, t.dbl, t.red, t.start, t.len, t.fire, t.heard, t.fired⟩ = true := hv
  have hn := validT_num hv
  obtain ⟨j, hj, hlen⟩ := fitsTo_iff.1 hn.2.2.2.2.1
  have hp := pow_bd (j := t.dbl.toNat) ⟨hn.1.1, hn.1.2.1⟩ (by omega)
  have hsh : shlI .i64 t.min t.dbl = t.min * 2 ^ t.dbl.toNat := by
    unfold shlI
    rw [show min t.dbl.toNat (IntKind.bits .i64) = t.dbl.toNat by simp [IntKind.bits]; omega]
    exact IntWalk.i64_in _ (by omega)
  have hw1 : IntKind.i64.wrap (t.start + t.len) = t.start + t.len := IntWalk.i64_in _ (by omega)
  have hw2 : IntKind.i64.wrap (2 * t.len) = 2 * t.len := IntWalk.i64_in _ (by omega)
  by_cases htm : isTimeT now = true ∧ t.start ≤ now
  case neg =>
    have hz : stepT t now draw = (zeroT, false, 2) := by unfold stepT; rw [if_pos hv, if_neg htm]
    cases h1 : isTimeT now with
    | false =>
      repeat' (first | (apply And.intro <;> intro hc <;> (first | exact Bool.noConfusion hc | (exfalso; simp [hv', h1] at hc; done) | skip)) | (refine And.intro (by first | decide | omega | (dsimp only; omega)) ?_) | (apply And.intro) | (intro s hs))
      refine Fin.mk (leF_tup3 (leE_all ?_) (leE_c (leC_bool ?_)) (leE_c (leC_int ?_)))
      · repeat' (first | exact trivial | refine leC_int ?_ | refine leC_bool ?_ | apply And.intro)
        all_goals rw [hz]; rfl
      · rw [hz]
      · rw [hz]
    | true =>
      have h2 : now < t.start := by simp [h1] at htm; omega
      repeat' (first | (apply And.intro <;> intro hc <;> (first | exact Bool.noConfusion hc | (exfalso; simp [hv', h1, h2] at hc; done) | skip)) | (refine And.intro (by first | decide | omega | (dsimp only; omega)) ?_) | (apply And.intro) | (intro s hs))
      refine Fin.mk (leF_tup3 (leE_all ?_) (leE_c (leC_bool ?_)) (leE_c (leC_int ?_)))
      · repeat' (first | exact trivial | refine leC_int ?_ | refine leC_bool ?_ | apply And.intro)
        all_goals rw [hz]; rfl
      · rw [hz]
      · rw [hz]
  obtain ⟨h1, h2⟩ := htm
  have ht := isTimeT_iff.1 h1
  have hs : stepT t now draw = (if t.start + t.len ≤ now then beginT (fireT t now).1 (Min.min (2 * t.len) (t.min * 2 ^ t.dbl.toNat)) now draw else (fireT t now).1, (fireT t now).2, 0) := by
    unfold stepT; rw [if_pos hv, if_pos ⟨h1, h2⟩]
  have hmn : (if shlI .i64 t.min t.dbl < IntKind.i64.wrap (2 * t.len) then shlI .i64 t.min t.dbl else IntKind.i64.wrap (2 * t.len)) = Min.min (2 * t.len) (t.min * 2 ^ t.dbl.toNat) := by
    rw [hsh, hw2]; omega
  have h3 : ¬ now < t.start := by omega
  have hF1 : t.fired = false → t.fire ≤ now → fireT t now = ({ t with fired := true }, decide (t.red = 0 ∨ t.heard < t.red)) := fun a b => by unfold fireT; rw [if_pos ⟨a, b⟩]
  have hF2 : t.fired = true → fireT t now = (t, false) := fun a => by unfold fireT; rw [if_neg (by rw [a]; simp)]
  have hF3 : ¬ t.fire ≤ now → fireT t now = (t, false) := fun a => by unfold fireT; rw [if_neg (fun h => a h.2)]
  repeat' (first | (apply And.intro <;> intro hc <;> (first | exact Bool.noConfusion hc | (exfalso; simp [hv', h1, h3] at hc; done) | skip)) | (refine And.intro (by first | decide | omega | (dsimp only; omega)) ?_) | (apply And.intro) | (intro s hs))
  all_goals
    simp only [hw1, decide_eq_true_eq, decide_eq_false_iff_not, beq_iff_eq, beq_eq_false_iff_ne, Bool.not_eq_true', Bool.not_eq_false'] at *
    clear hn hsh hp hlen hj ht hw1 hw2 hv hv' hd
    first | rw [hF1 (by assumption) (by assumption)] at hs | rw [hF2 (by assumption)] at hs | rw [hF3 (by assumption)] at hs
    first | rw [if_pos (by assumption)] at hs | rw [if_neg (by assumption)] at hs
    refine Fin.mk (leF_tup3 (leE_all ?_) (leE_c (leC_bool ?_)) (leE_c (leC_int ?_)))
    · repeat' (first | exact trivial | refine leC_int ?_ | refine leC_bool ?_ | apply And.intro)
      all_goals rw [hs]
      all_goals first | rfl | (rw [hmn]; rfl) | (simp [hmn, beginT]; done) | (dsimp only; simp [*]; done)
    · rw [hs] <;> first | rfl | (simp [*]; done)
    · rw [hs]
theorem stepT_ent : EntOk Try.prog 17 stepE :=
  pureR3_ok ⟨_, Try.func17, rfl, by kernel_rfl⟩ fun a b c h => stepT_ok a b c h
end Go.Proofs.Ytolliidpmgncdaa.AX
