/- Layer 34 (by AX2): the makers Trickle, spoiled; known, alike. -/
import Derived.Test.YtolliidpmgncdaaTkR
import Derived.Test.YtolliidpmgncdaaWd
namespace Go.Proofs.Ytolliidpmgncdaa.AX
open Go.RowKit
set_option linter.unusedVariables false
set_option linter.unusedSimpArgs false
theorem step_valid {x : Trk} {now draw : Int} (h : validT x = true) (hn : 0 ≤ now ∧ now ≤ 1099511627776) (hs : x.start ≤ now) : validT (stepT x now draw).1 = true := by
  have hv := validT_num h
  obtain ⟨f1, f2, f3, f4, f5, f6⟩ := fire_valid (now := now) h
  have e : stepT x now draw = (if x.start + x.len ≤ now then beginT (fireT x now).1 (min (2 * x.len) (x.min * 2 ^ x.dbl.toNat)) now draw else (fireT x now).1, (fireT x now).2, 0) := by
    unfold stepT
    rw [if_pos h, if_pos ⟨isTimeT_iff.2 (by omega), hs⟩]
  rw [e]
  show validT (if x.start + x.len ≤ now then _ else _) = true
  split
  · refine (begin_valid f1 ?_ hn).1
    rw [f5, f6]; exact fits_double (by omega) (by omega) hv.2.2.2.2.1
  · exact f1
theorem new_valid {m d r now draw : Int} (h : numbersB m d r = true) (hn : 0 ≤ now ∧ now ≤ 1099511627776) : validT (newT m d r now draw).1 = true := by
  obtain ⟨h1, h2, h3, h4, h5, h6⟩ := numbersB_iff.1 h
  have e : newT m d r now draw = (beginT ⟨m, d, r, 0, 0, 0, 0, false⟩ m now draw, 0) := by unfold newT; rw [if_pos ⟨isTimeT_iff.2 hn, h⟩]
  rw [e]
  have hm : 0 ≤ draw % (m - m / 2) ∧ draw % (m - m / 2) < m - m / 2 := ⟨Int.emod_nonneg _ (by omega), Int.emod_lt_of_pos _ (by omega)⟩
  refine validT_mk h (isTimeT_iff.2 hn) (by show 0 ≤ (0 : Int) ∧ (0 : Int) ≤ _; omega) (fitsTo_iff.2 ⟨0, by omega, by show m = m * 2 ^ 0; simp⟩) ?_
  show now + m / 2 ≤ now + m / 2 + draw % (m - m / 2) ∧ now + m / 2 + draw % (m - m / 2) ≤ now + m - 1
  omega
theorem new_valid' {m d r now draw : Int} (h : (newT m d r now draw).2 = 0) : validT (newT m d r now draw).1 = true := by
  by_cases hc : isTimeT now = true ∧ numbersB m d r = true
  · exact new_valid hc.2 (isTimeT_iff.1 hc.1)
  · unfold newT at h
    rw [if_neg hc] at h
    cases h
theorem heard_valid {x : Trk} {v : Int} (h : validT x = true) (hv : 0 ≤ v ∧ v < 4) : validT { x with heard := v } = true := by
  have hn := validT_num h
  obtain ⟨p1, p2⟩ := validT_parts h
  exact validT_mk p1 p2 (by show 0 ≤ v ∧ v ≤ _; omega) hn.2.2.2.2.1 hn.2.2.2.2.2
theorem reset_valid (x : Trk) (now draw : Int) (h : (resetT x now draw).2 = 0) : validT (resetT x now draw).1 = true := by
  unfold resetT at h ⊢
  split at h
  · rename_i hv
    rw [if_pos hv]
    split at h
    · rename_i ht
      rw [if_pos ht]
      split
      · exact hv
      · exact (begin_valid hv (fitsTo_iff.2 ⟨0, by omega, by simp⟩) (isTimeT_iff.1 ht)).1
    · cases h
  · cases h
theorem step_valid' (x : Trk) (now draw : Int) (h : (stepT x now draw).2.2 = 0) : validT (stepT x now draw).1 = true := by
  by_cases hv : validT x = true
  · by_cases ht : isTimeT now = true ∧ x.start ≤ now
    · exact step_valid hv (isTimeT_iff.1 ht.1) ht.2
    · unfold stepT at h
      rw [if_pos hv, if_neg ht] at h
      cases h
  · unfold stepT at h
    rw [if_neg hv] at h
    cases h
abbrev newTE : Entry := pureE (AC.cons (cI .i64) (AC.cons (cI .i64) (AC.cons (cI .i64) (AC.cons (cI .i64) (AC.cons (cI .u32) AC.nil))))) (fun a => drawOk a.2.2.2.2.1) (fun a => newT a.1 a.2.1 a.2.2.1 a.2.2.2.1 a.2.2.2.2.1) enc2
abbrev hearE : Entry := pureE TAC (fun _ => True) (fun a => hearT a.1) (cE eTk).enc
abbrev resetE : Entry := pureE T3 (fun a => drawOk a.2.2.1) (fun a => resetT a.1 a.2.1 a.2.2.1) enc2
abbrev stepE : Entry := pureE T3 (fun a => drawOk a.2.2.1) (fun a => stepT a.1 a.2.1 a.2.2.1) enc3
def LTk : CsL := (14, some newTE) :: (16, some hearE) :: (20, some resetE) :: (17, some stepE) ::
  (23, some newTE) :: (52, some hearE) :: (50, some resetE) :: (46, some stepE) :: (51, some validE) :: (24, some validE) :: LWd
theorem LTk_ok : AllOk Try.prog LTk := ⟨pureE_ok ⟨_, Try.func14, rfl, by kernel_rfl⟩ fun a h => newT_ok _ _ _ _ _ h, pureE_ok ⟨_, Try.func16, rfl, by kernel_rfl⟩ fun a h => hear_ok _, pureE_ok ⟨_, Try.func20, rfl, by kernel_rfl⟩ fun a h => reset_ok _ _ _ h, pureE_ok ⟨_, Try.func17, rfl, by kernel_rfl⟩ fun a h => stepT_ok _ _ _ h,
  pureE_ok ⟨_, Try.func23, rfl, by kernel_rfl⟩ fun a h => TkR.newT_ok _ _ _ _ _ h, pureE_ok ⟨_, Try.func52, rfl, by kernel_rfl⟩ fun a h => TkR.hear_ok _, pureE_ok ⟨_, Try.func50, rfl, by kernel_rfl⟩ fun a h => TkR.reset_ok _ _ _ h, pureE_ok ⟨_, Try.func46, rfl, by kernel_rfl⟩ fun a h => TkR.stepT_ok _ _ _ h,
  pureE_ok ⟨_, Try.func51, rfl, by kernel_rfl⟩ fun a h => TkR.valid_ok _, pureE_ok ⟨_, Try.func24, rfl, by kernel_rfl⟩ fun a h => valid_ok _, LWd_ok⟩
theorem kn1 : newT 4 3 1 100 5 = (⟨4, 3, 1, 100, 4, 103, 0, false⟩, 0) := rfl
theorem kn2 : stepT ⟨4, 3, 1, 100, 4, 103, 0, false⟩ 103 0 = (⟨4, 3, 1, 100, 4, 103, 0, true⟩, true, 0) := by
  simp [stepT, fireT, validT, numbersB, isTimeT, fitsTo]
theorem kn3 : stepT ⟨4, 3, 1, 100, 4, 103, 0, true⟩ 104 0 = (⟨4, 3, 1, 104, 8, 108, 0, false⟩, false, 0) := by
  simp [stepT, fireT, validT, numbersB, isTimeT, fitsTo, beginT]
  decide
theorem known34_ok : PureOk Try.prog 18 [] (cB.enc true) := by
  refine pure_intro (wd := 1) (Q := mkQ LTk) (by decide) tysOk (q_of LTk_ok) mixed Try.func18 rfl _ (by show 0 ≤ _; decide) _ ?_
  repeat' (first | (apply And.intro <;> intro hc <;> (first | exact Bool.noConfusion hc | (simp only [decide_eq_true_eq, decide_eq_false_iff_not, Bool.not_eq_true', Bool.not_eq_false', beq_iff_eq, beq_eq_false_iff_ne, bne_iff_ne, bne_eq_false_iff_eq, Bool.true_eq_false, Bool.false_eq_true, ne_eq, not_true_eq_false] at hc <;> first | exact absurd rfl hc | skip) | skip)) | (refine And.intro (by first | exact trivial | decide | omega | (dsimp only; omega) | exact fun _ _ => rfl | exact ⟨by assumption, by first | exact trivial | decide | omega | (dsimp only; omega)⟩) ?_) | (apply And.intro) | (intro s hs; (first | (have hs' : s = _ := hs.trans kn1) | (have hs' : s = _ := hs.trans kn2) | (have hs' : s = _ := hs.trans kn3)); clear hs; subst hs'))
  all_goals first
    | exact Done.mk (leF_bool rfl)
    | (exfalso; rename_i hh; exact hh rfl)
    | (dsimp only [drawOk]; omega)
    | skip
theorem wrap_u32 (x : Int) : drawOk (IntKind.u32.wrap x) := by unfold drawOk; rw [IntKind.wrap_u32']; omega
theorem rd_eq {g : Nat → CV} {x : Trk} (h : allLt 8 fun j => g j = eTk.cell x j) : eTk.rd g = x := by
  obtain ⟨⟨⟨⟨⟨⟨⟨⟨_, h0⟩, h1⟩, h2⟩, h3⟩, h4⟩, h5⟩, h6⟩, h7⟩ := h
  show (⟨valI (g 0), valI (g 1), valI (g 2), valI (g 3), valI (g 4), valI (g 5), valI (g 6), valB (g 7)⟩ : Trk) = x
  rw [h0, h1, h2, h3, h4, h5, h6, h7]; rfl
theorem eq8 (x : Trk) : eqFrom (eTk.cell x) (eTk.cell x) 8 0 = true := by
  show ((x.min == x.min) && ((x.dbl == x.dbl) && ((x.red == x.red) && ((x.start == x.start) && ((x.len == x.len) && ((x.fire == x.fire) && ((x.heard == x.heard) && ((x.fired == x.fired) && true)))))))) = true
  simp
theorem no8 {x : Trk} (h : eqFrom (eTk.cell x) (eTk.cell x) 8 0 = false) : False := by rw [eq8] at h; cases h
set_option maxHeartbeats 8000000 in
set_option maxRecDepth 20000 in
theorem alike_ok (x : Trk) (now draw : Int) (hd : drawOk draw) : PureOk Try.prog 25 [(cE eTk).enc x, (cI .i64).enc now, (cI .u32).enc draw] (cB.enc true) := by
  obtain ⟨a, ea⟩ : ∃ a, resetT x now draw = a := ⟨_, rfl⟩
  obtain ⟨c, ec⟩ : ∃ c, stepT x now draw = c := ⟨_, rfl⟩
  obtain ⟨v, ev⟩ : ∃ v, validT x = v := ⟨_, rfl⟩
  obtain ⟨h, eh⟩ : ∃ h, hearT x = h := ⟨_, rfl⟩
  have v1 : a.2 = 0 → validT a.1 = true := by rw [← ea]; exact reset_valid x now draw
  have v3 : c.2.2 = 0 → validT c.1 = true := by rw [← ec]; exact step_valid' x now draw
  obtain ⟨va, eva⟩ : ∃ v, validT a.1 = v := ⟨_, rfl⟩
  obtain ⟨vc, evc⟩ : ∃ v, validT c.1 = v := ⟨_, rfl⟩
  rw [eva] at v1
  rw [evc] at v3
  refine pure_intro (wd := 1) (Q := mkQ LTk) (by decide) tysOk (q_of LTk_ok) mixed Try.func25 rfl _ (by show 3 ≤ _; decide) _ ?_
  repeat' (first | (apply And.intro <;> intro hc <;> (first | exact Bool.noConfusion hc | (exfalso; first | exact no8 hc | exact hc rfl | (have := v1 (by assumption); simp [this] at hc; done) | (have := v3 (by assumption); simp [this] at hc; done)) | (simp only [decide_eq_true_eq, decide_eq_false_iff_not, Bool.not_eq_true', Bool.not_eq_false', beq_iff_eq, beq_eq_false_iff_ne, bne_iff_ne, bne_eq_false_iff_eq, Bool.true_eq_false, Bool.false_eq_true, ne_eq, not_true_eq_false] at hc <;> first | exact absurd rfl hc | (exfalso; first | exact no8 hc | exact hc rfl | (have := v1 (by assumption); simp [this] at hc; done) | (have := v3 (by assumption); simp [this] at hc; done)) | skip) | skip)) | (refine And.intro (by first | exact trivial | decide | omega | (dsimp only; omega) | exact fun _ _ => rfl | exact ⟨by assumption, by first | exact trivial | decide | omega | (dsimp only; omega)⟩) ?_) | (apply And.intro) | (intro s hs; (first | (have hs' := hs.trans ea; clear hs; subst hs') | (have hs' := hs.trans ec; clear hs; subst hs') | (have hs' := hs.trans ev; clear hs; subst hs') | (have hs' := hs.trans eva; clear hs; subst hs') | (have hs' := hs.trans evc; clear hs; subst hs') | (have hs' := hs.trans eh; clear hs; subst hs'))))
  all_goals first
    | exact Done.mk (leF_bool rfl)
    | exact hd.1
    | exact hd.2
    | (refine Done.mk (leF_bool ?_); simp; done)
    | skip
end Go.Proofs.Ytolliidpmgncdaa.AX
