/- TrickleGrows, by AX: the law returns true. -/
import Derived.Test.YtolliidpmgncdaaTrkLaw
import Derived.Test.YtolliidpmgncdaaTrkLem
namespace Go.Proofs.Ytolliidpmgncdaa.AX
set_option linter.unusedVariables false
set_option linter.unusedSimpArgs false
/-- The timer at the head of round i of the loop, where every step is taken at the end of the interval. -/
structure GInv (x : Trk) (m d : Int) (i : Nat) : Prop where
  valid : validT x = true
  emin : x.min = m
  edbl : x.dbl = d
  elen : x.len = m * 2 ^ (min i d.toNat)
  lo : 0 ≤ x.start
  hi : x.start ≤ i * 128
theorem pow_nat (m : Int) (j : Nat) (hm : 2 ≤ m ∧ m ≤ 8) (hj : j ≤ 4) : m ≤ m * 2 ^ j ∧ m * 2 ^ j ≤ 128 := by
  have : j = 0 ∨ j = 1 ∨ j = 2 ∨ j = 3 ∨ j = 4 := by omega
  rcases this with rfl | rfl | rfl | rfl | rfl <;> omega
theorem grow_step {x : Trk} {m d : Int} {i : Nat} (h : GInv x m d i) (hm : 2 ≤ m ∧ m ≤ 8) (hd : 0 ≤ d ∧ d ≤ 4) (hi : i ≤ 8) (draw : Int) :
    (stepT x (x.start + x.len) draw).2.2 = 0 ∧ GInv (stepT x (x.start + x.len) draw).1 m d (i + 1) ∧ (stepT x (x.start + x.len) draw).1.start = x.start + x.len ∧ x.len ≤ (stepT x (x.start + x.len) draw).1.len := by
  have hv := validT_num h.valid
  have hlo := h.lo
  have hhi := h.hi
  have hl1 := pow_nat m (min i d.toNat) hm (by omega)
  have hl2 := pow_nat m d.toNat hm (by omega)
  rw [← h.elen] at hl1
  obtain ⟨f1, f2, f3, f4, f5, f6⟩ := fire_valid (now := x.start + x.len) h.valid
  have hs : stepT x (x.start + x.len) draw = (beginT (fireT x (x.start + x.len)).1 (min (2 * x.len) (x.min * 2 ^ x.dbl.toNat)) (x.start + x.len) draw, (fireT x (x.start + x.len)).2, 0) := by
    unfold stepT
    rw [if_pos h.valid, if_pos ⟨isTimeT_iff.2 (by omega), by omega⟩, if_pos (Int.le_refl _)]
  have hfd : fitsTo (fireT x (x.start + x.len)).1.min (min (2 * x.len) (x.min * 2 ^ x.dbl.toNat)) ((fireT x (x.start + x.len)).1.dbl.toNat + 1) = true := by
    rw [f5, f6]; exact fits_double (by omega) (by omega) hv.2.2.2.2.1
  obtain ⟨g1, g2, g3⟩ := begin_valid (draw := draw) f1 hfd (show 0 ≤ x.start + x.len ∧ x.start + x.len ≤ 1099511627776 by omega)
  have hlen : min (2 * x.len) (x.min * 2 ^ x.dbl.toNat) = m * 2 ^ (min (i + 1) d.toNat) := by
    rw [h.emin, h.edbl, h.elen]
    by_cases hid : i + 1 ≤ d.toNat
    · rw [show min i d.toNat = i by omega, show min (i + 1) d.toNat = i + 1 by omega]
      have h1 : 2 * (m * 2 ^ i) = m * 2 ^ (i + 1) := by rw [Int.pow_succ]; rw [← Int.mul_assoc m, Int.mul_comm 2]
      have h2 : (2 : Int) ^ (i + 1) ≤ 2 ^ d.toNat := by
        have := Nat.pow_le_pow_right (n := 2) (by omega) hid
        have e1 : ((2 ^ (i + 1) : Nat) : Int) = 2 ^ (i + 1) := by simp
        have e2 : ((2 ^ d.toNat : Nat) : Int) = 2 ^ d.toNat := by simp
        rw [← e1, ← e2]; omega
      have h3 := Int.mul_le_mul_of_nonneg_left h2 (show 0 ≤ m by omega)
      rw [h1]
      omega
    · rw [show min i d.toNat = d.toNat by omega, show min (i + 1) d.toNat = d.toNat by omega]
      omega
  have hge := pow_nat m (min (i + 1) d.toNat) hm (by omega)
  rw [hs]
  refine ⟨rfl, ⟨g1, f5.trans h.emin, f6.trans h.edbl, hlen, by show 0 ≤ x.start + x.len; omega, by show x.start + x.len ≤ _; omega⟩, rfl, ?_⟩
  show x.len ≤ min (2 * x.len) (x.min * 2 ^ x.dbl.toNat)
  have : x.len ≤ x.min * 2 ^ x.dbl.toNat := by
    obtain ⟨j, hj, hjl⟩ := fitsTo_iff.1 hv.2.2.2.2.1
    rw [hjl]
    have h2 : (2 : Int) ^ j ≤ 2 ^ x.dbl.toNat := by
      have := Nat.pow_le_pow_right (n := 2) (by omega) (show j ≤ x.dbl.toNat by omega)
      have e1 : ((2 ^ j : Nat) : Int) = 2 ^ j := by simp
      have e2 : ((2 ^ x.dbl.toNat : Nat) : Int) = 2 ^ x.dbl.toNat := by simp
      rw [← e1, ← e2]; omega
    exact Int.mul_le_mul_of_nonneg_left h2 (by omega)
  omega
theorem grow_reset {x : Trk} {m d : Int} (h : GInv x m d 8) (hm : 2 ≤ m ∧ m ≤ 8) (hd : 0 ≤ d ∧ d ≤ 4) (draw : Int) :
    (resetT x (x.start + 1) draw).2 = 0 ∧ (resetT x (x.start + 1) draw).1.len = x.min ∧
    ((resetT x (x.start + 1) draw).1.start = x.start + 1 ∨ m * 2 ^ d.toNat = x.min ∧ (resetT x (x.start + 1) draw).1 = x) ∧
    resetT (resetT x (x.start + 1) draw).1 (x.start + 2) draw = ((resetT x (x.start + 1) draw).1, 0) := by
  have hlo := h.lo
  have hhi := h.hi
  have hv := validT_num h.valid
  have t1 : isTimeT (x.start + 1) = true := isTimeT_iff.2 (by omega)
  have t2 : isTimeT (x.start + 2) = true := isTimeT_iff.2 (by omega)
  by_cases hl : x.len = x.min
  · have e : resetT x (x.start + 1) draw = (x, 0) := by unfold resetT; rw [if_pos h.valid, if_pos t1, if_pos hl]
    have e' : resetT x (x.start + 2) draw = (x, 0) := by unfold resetT; rw [if_pos h.valid, if_pos t2, if_pos hl]
    rw [e]
    refine ⟨rfl, hl, .inr ⟨?_, rfl⟩, e'⟩
    rw [← hl, h.elen, show min 8 d.toNat = d.toNat by omega]
  · have e : resetT x (x.start + 1) draw = (beginT x x.min (x.start + 1) draw, 0) := by unfold resetT; rw [if_pos h.valid, if_pos t1, if_neg hl]
    obtain ⟨g1, g2, g3⟩ := begin_valid (l := x.min) (now := x.start + 1) (draw := draw) h.valid (fitsTo_iff.2 ⟨0, by omega, by simp⟩) (by omega)
    rw [e]
    refine ⟨rfl, rfl, .inl rfl, ?_⟩
    show resetT (beginT x x.min (x.start + 1) draw) _ _ = _
    unfold resetT
    rw [if_pos g1, if_pos t2]
    exact if_pos rfl
theorem eq8 (x : Trk) : eqFrom (nth (cTrkL x)) (nth (cTrkL x)) 8 0 = true := by simp [eqFrom, eqCell, nth, cTrkL]
structure GrowS (m d : Int) where
  i : Nat
  x : Trk
  h1 : i ≤ 8
  h2 : GInv x m d i

set_option maxHeartbeats 4000000 in
theorem grows_ok (n : Nat) (f : Nat → Nat → CV) (draw : Int) (hd : 0 ≤ draw ∧ draw < 4294967296) (hf : RowOk n f) (hcl : LeC 0 (.sl n 1 f) (.sl n 1 f)) :
    PureOk Try.prog 5 [.e (.c (.sl n 1 f)), (cI .u32).enc draw] (.e (.c (.bool true))) := by
  refine pure_intro (C := mkC L4) (Q := mkQ L4) tysOk (callsOk_of L4_ok) (local_of L4_ok) (q_of L4_ok) mixed Try.func5 rfl _ (by show 2 ≤ _; decide) _ (by intro x hx; first | (cases hx; done) | (simp only [List.mem_cons, List.not_mem_nil, or_false] at hx; rcases hx with rfl | rfl <;> first | exact leF_int rfl | exact hcl)) ?_
  have ht0 := hf.tape
  repeat' (first | (apply And.intro <;> intro hc <;> (first | exact Bool.noConfusion hc | (simp only [decide_eq_true_eq, decide_eq_false_iff_not, Bool.not_eq_true', Bool.not_eq_false', beq_iff_eq, beq_eq_false_iff_ne, bne_iff_ne, bne_eq_false_iff_eq, Bool.true_eq_false, Bool.false_eq_true] at hc) | skip)) | (refine And.intro (by first | decide | omega | (dsimp only; omega) | exact ⟨by assumption, by omega, by omega⟩ | exact u32r _) ?_) | (apply And.intro))
  intro v1 q1 hv1 hq1
  repeat' (first | (apply And.intro <;> intro hc <;> (first | exact Bool.noConfusion hc | (simp only [decide_eq_true_eq, decide_eq_false_iff_not, Bool.not_eq_true', Bool.not_eq_false', beq_iff_eq, beq_eq_false_iff_ne, bne_iff_ne, bne_eq_false_iff_eq, Bool.true_eq_false, Bool.false_eq_true] at hc) | skip)) | (refine And.intro (by first | decide | omega | (dsimp only; omega) | exact ⟨by assumption, by omega, by omega⟩ | exact u32r _) ?_) | (apply And.intro))
  intro v2 q2 hv2 hq2
  repeat' (first | (apply And.intro <;> intro hc <;> (first | exact Bool.noConfusion hc | (simp only [decide_eq_true_eq, decide_eq_false_iff_not, Bool.not_eq_true', Bool.not_eq_false', beq_iff_eq, beq_eq_false_iff_ne, bne_iff_ne, bne_eq_false_iff_eq, Bool.true_eq_false, Bool.false_eq_true] at hc) | skip)) | (refine And.intro (by first | decide | omega | (dsimp only; omega) | exact ⟨by assumption, by omega, by omega⟩ | exact u32r _) ?_) | (apply And.intro))
  intro v3 q3 hv3 hq3
  repeat' (first | (apply And.intro <;> intro hc <;> (first | exact Bool.noConfusion hc | (simp only [decide_eq_true_eq, decide_eq_false_iff_not, Bool.not_eq_true', Bool.not_eq_false', beq_iff_eq, beq_eq_false_iff_ne, bne_iff_ne, bne_eq_false_iff_eq, Bool.true_eq_false, Bool.false_eq_true] at hc) | skip)) | (refine And.intro (by first | decide | omega | (dsimp only; omega) | exact ⟨by assumption, by omega, by omega⟩ | exact u32r _) ?_) | (apply And.intro))
  intro s hs
  have hw1 : IntKind.i64.wrap (2 + v1) = 2 + v1 := IntWalk.i64_in _ (by omega)
  rw [hw1] at hs
  have hnum : numbersB (2 + v1) v2 v3 = true := numbersB_iff.2 (by omega)
  have hg0 : s.2 = 0 ∧ GInv s.1 (2 + v1) v2 0 := by
    obtain ⟨e1, e2, e3⟩ := new_inv (draw := draw) hnum
    have e : newT (2 + v1) v2 v3 0 draw = (beginT ⟨2 + v1, v2, v3, 0, 0, 0, 0, false⟩ (2 + v1) 0 draw, 0) := by unfold newT; rw [if_pos ⟨by simp [isTimeT], hnum⟩]
    rw [hs]
    refine ⟨e1, e2.valid, by rw [e]; rfl, by rw [e]; rfl, by rw [e]; show 2 + v1 = (2 + v1) * 2 ^ (min 0 v2.toNat); simp, by rw [e]; show (0 : Int) ≤ 0; omega, by rw [e]; show (0 : Int) ≤ _; omega⟩
  obtain ⟨e1, e2⟩ := hg0
  clear hs hnum hw1 hq1 hq2
  have w1 : IntKind.u64.wrap v2 = v2 := IntWalk.u64_in _ (by omega)
  have hp := pow_nat (2 + v1) v2.toNat (by omega) (by omega)
  have w2 : shlI .i64 (2 + v1) v2 = (2 + v1) * 2 ^ v2.toNat := by
    unfold shlI
    rw [show min v2.toNat (IntKind.bits .i64) = v2.toNat by simp [IntKind.bits]; omega]
    exact IntWalk.i64_in _ (by omega)
  have w3 : shlI .i64 s.1.min (IntKind.u64.wrap s.1.dbl) = (2 + v1) * 2 ^ v2.toNat := by rw [e2.emin, e2.edbl, w1, w2]
  have w0 : 0 ≤ IntKind.u64.wrap s.1.dbl := by rw [e2.edbl, w1]; omega
  repeat' (first | (apply And.intro <;> intro hc <;> (first | exact Bool.noConfusion hc | (simp only [decide_eq_true_eq, decide_eq_false_iff_not, Bool.not_eq_true', Bool.not_eq_false', beq_iff_eq, beq_eq_false_iff_ne, bne_iff_ne, bne_eq_false_iff_eq, Bool.true_eq_false, Bool.false_eq_true] at hc) | skip)) | (refine And.intro (by first | decide | omega | (dsimp only; omega) | exact ⟨by assumption, by omega, by omega⟩ | exact u32r _) ?_) | (apply And.intro))
  · exact absurd e1 hc
  refine loop_intro (mono_of L4_ok) (σ := GrowS (2 + v1) v2) (fun s => ⟨[(1, .e (.c (.int .u32 draw))), (6, one (.ptr 16 0)), (8, .e (.c (.int .i64 ((2 + v1) * 2 ^ v2.toNat)))), (9, .e (.c (.int .i64 s.x.start))), (10, .e (.c (.int .i64 s.i)))], [(16, some ⟨26, 8, nth (cTrkL s.x)⟩)], 17⟩) (fun s => 8 - s.i) (fun _ => rfl) ?_ ⟨0, s.1, by omega, e2⟩ ?_ ?_
  · clear e1 e2 hc w3 w0 s hq3
    rintro ⟨i, x, hi, hg⟩
    have hxs := hg.hi
    have hxl := hg.lo
    have hxn := pow_nat (2 + v1) (min i v2.toNat) (by omega) (by omega)
    rw [← hg.elen] at hxn
    have w4 : IntKind.i64.wrap (x.start + x.len) = x.start + x.len := IntWalk.i64_in _ (by omega)
    repeat' (first | (apply And.intro <;> intro hc <;> (first | exact Bool.noConfusion hc | (simp only [decide_eq_true_eq, decide_eq_false_iff_not, Bool.not_eq_true', Bool.not_eq_false', beq_iff_eq, beq_eq_false_iff_ne, bne_iff_ne, bne_eq_false_iff_eq, Bool.true_eq_false, Bool.false_eq_true, ne_eq, not_true_eq_false, not_false_eq_true] at hc <;> first | (exfalso; omega) | skip) | skip)) | (refine And.intro (by first | decide | omega | (dsimp only; omega) | exact ⟨by assumption, by omega, by omega⟩ | exact u32r _) ?_) | (apply And.intro))
    · intro z hz
      rw [w4] at hz
      have hz' : z = stepT x (x.start + x.len) (IntKind.u32.wrap (draw + IntKind.u32.wrap i)) := hz
      obtain ⟨g1, g2, g3, g4⟩ := grow_step hg (by omega) (by omega) hi (IntKind.u32.wrap (draw + IntKind.u32.wrap i))
      rw [← hz'] at g1 g2 g3 g4
      clear hz hz'
      have hmost : v2 ≤ i → z.1.len = (2 + v1) * 2 ^ v2.toNat := fun h => by rw [g2.elen, show min (i + 1) v2.toNat = v2.toNat by omega]
      have hdbl := hg.edbl
      repeat' (first | (apply And.intro <;> intro hc <;> (first | exact Bool.noConfusion hc | (simp only [g1, decide_eq_true_eq, decide_eq_false_iff_not, Bool.not_eq_true', Bool.not_eq_false', beq_iff_eq, beq_eq_false_iff_ne, bne_iff_ne, bne_eq_false_iff_eq, Bool.true_eq_false, Bool.false_eq_true, ne_eq, not_true_eq_false, not_false_eq_true] at hc <;> first | (exfalso; omega) | skip) | skip)) | (refine And.intro (by first | decide | omega | (dsimp only; omega) | exact ⟨by assumption, by omega, by omega⟩ | exact u32r _) ?_) | (apply And.intro))
      all_goals
        refine ⟨⟨i + 1, z.1, by omega, g2⟩, ?_, ?_, ?_⟩
        · show 8 - (i + 1) < 8 - i
          omega
        · repeat' (first | exact trivial | exact rfl | exact leC_slI (by assumption) | refine leF_int ?_ | refine leF_bool ?_ | exact leF_ptr rfl | refine leN_all ?_ | refine leC_int ?_ | refine leC_bool ?_ | apply And.intro)
          · rw [w4, g3]
          · simp (disch := omega) only [IntWalk.i64_in, IntWalk.u8_in, IntWalk.u16_in, IntWalk.u32_in, IntWalk.u64_in, Int.tdiv_eq_ediv_of_nonneg, Int.tmod_eq_emod_of_nonneg]
            rfl
        · repeat' (first | exact trivial | exact rfl | exact leC_slI (by assumption) | refine leF_int ?_ | refine leF_bool ?_ | exact leF_ptr rfl | refine leN_all ?_ | refine leC_int ?_ | refine leC_bool ?_ | apply And.intro)
    · have hi8 : i = 8 := by omega
      subst hi8
      intro y hy
      have w5 : IntKind.i64.wrap (x.start + 1) = x.start + 1 := IntWalk.i64_in _ (by omega)
      have w6 : IntKind.i64.wrap (x.start + 2) = x.start + 2 := IntWalk.i64_in _ (by omega)
      rw [w5] at hy
      have hy' : y = resetT x (x.start + 1) draw := hy
      obtain ⟨r1, r2, r3, r4⟩ := grow_reset hg (by omega) (by omega) draw
      rw [← hy'] at r1 r2 r3 r4
      clear hy hy'
      repeat' (first | (apply And.intro <;> intro hc <;> (first | exact Bool.noConfusion hc | (simp only [decide_eq_true_eq, decide_eq_false_iff_not, Bool.not_eq_true', Bool.not_eq_false', beq_iff_eq, beq_eq_false_iff_ne, bne_iff_ne, bne_eq_false_iff_eq, Bool.true_eq_false, Bool.false_eq_true] at hc) | skip)) | (refine And.intro (by first | decide | omega | (dsimp only; omega) | exact ⟨by assumption, by omega, by omega⟩ | exact u32r _) ?_) | (apply And.intro))
      intro z hz
      rw [w6] at hz
      have hz' : z = resetT y.1 (x.start + 2) draw := hz
      rw [r4] at hz'
      subst hz'
      rcases r3 with r3 | ⟨r3, r5⟩
      · repeat' (first | (apply And.intro <;> intro hc <;> (first | exact Bool.noConfusion hc | (exfalso; exact Bool.noConfusion ((eq8 y.1).symm.trans hc); done) | (simp only [ r1, r2, r3, decide_eq_true_eq, decide_eq_false_iff_not, Bool.not_eq_true', Bool.not_eq_false', beq_iff_eq, beq_eq_false_iff_ne, bne_iff_ne, bne_eq_false_iff_eq, Bool.true_eq_false, Bool.false_eq_true, ne_eq, not_true_eq_false, not_false_eq_true] at hc <;> first | (exfalso; omega) | skip) | skip)) | (refine And.intro (by first | decide | omega | (dsimp only; omega) | exact ⟨by assumption, by omega, by omega⟩ | exact u32r _) ?_) | (apply And.intro))
        exact Fin.mk (leF_bool rfl)
      · obtain ⟨y, y2⟩ := y
        have r5' : y = x := r5
        subst r5'
        have r1' : y2 = 0 := r1
        have r2' : y.len = y.min := r2
        repeat' (first | (apply And.intro <;> intro hc <;> (first | exact Bool.noConfusion hc | (exfalso; exact Bool.noConfusion ((eq8 y).symm.trans hc); done) | (simp only [ r1', r2', r3, decide_eq_true_eq, decide_eq_false_iff_not, Bool.not_eq_true', Bool.not_eq_false', beq_iff_eq, beq_eq_false_iff_ne, bne_iff_ne, bne_eq_false_iff_eq, Bool.true_eq_false, Bool.false_eq_true, ne_eq, not_true_eq_false, not_false_eq_true] at hc <;> first | (exfalso; omega) | skip) | skip)) | (refine And.intro (by first | decide | omega | (dsimp only; omega) | exact ⟨by assumption, by omega, by omega⟩ | exact u32r _) ?_) | (apply And.intro))
        all_goals exact Fin.mk (leF_bool rfl)
  · repeat' (first | exact trivial | exact rfl | exact leC_slI (by assumption) | refine leF_int ?_ | refine leF_bool ?_ | exact leF_ptr rfl | refine leN_all ?_ | refine leC_int ?_ | refine leC_bool ?_ | apply And.intro)
    · exact w3
    · have := e2.lo
      have := e2.hi
      show 0 = s.1.start
      omega
  · repeat' (first | exact trivial | exact rfl | exact leC_slI (by assumption) | refine leF_int ?_ | refine leF_bool ?_ | exact leF_ptr rfl | refine leN_all ?_ | refine leC_int ?_ | refine leC_bool ?_ | apply And.intro)
end Go.Proofs.Ytolliidpmgncdaa.AX
