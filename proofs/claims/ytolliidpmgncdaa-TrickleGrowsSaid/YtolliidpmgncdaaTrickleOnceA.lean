/- TrickleOnce, by AX: the law returns true. -/
import Derived.Test.YtolliidpmgncdaaTrkLaw
import Derived.Test.YtolliidpmgncdaaTrkLem
namespace Go.Proofs.Ytolliidpmgncdaa.AX
set_option linter.unusedVariables false
set_option linter.unusedSimpArgs false
/-- The state at the head of the loop over the times. -/
structure OnceS (n : Nat) (f : Nat → Nat → CV) where
  now : Int
  x : Trk
  sent : Int
  q : Int
  h1 : 0 ≤ now ∧ now ≤ 120
  h2 : TInv x now
  h3 : sent = 0 ∨ sent = 1 ∧ x.fired = true
  h4 : TapeOk n f q
structure HearS (now : Int) (fd : Bool) where
  i : Int
  x : Trk
  h1 : 0 ≤ i ∧ i ≤ 1
  h2 : TInv x now
  h3 : x.fired = fd

set_option maxHeartbeats 4000000 in
theorem once_ok (n : Nat) (f : Nat → Nat → CV) (hf : RowOk n f) (hcl : LeC 0 (.sl n 1 f) (.sl n 1 f)) :
    PureOk Try.prog 3 [.e (.c (.sl n 1 f))] (.e (.c (.bool true))) := by
  refine pure_intro (C := mkC L4) (Q := mkQ L4) tysOk (callsOk_of L4_ok) (local_of L4_ok) (q_of L4_ok) mixed Try.func3 rfl _ (by show 1 ≤ _; decide) _ (by intro x hx; first | (cases hx; done) | (simp only [List.mem_cons, List.not_mem_nil, or_false] at hx; subst hx; exact hcl)) ?_
  have ht0 := hf.tape
  repeat' (first | (apply And.intro <;> intro hc <;> (first | exact Bool.noConfusion hc | (simp only [decide_eq_true_eq, decide_eq_false_iff_not, Bool.not_eq_true', Bool.not_eq_false', beq_iff_eq, beq_eq_false_iff_ne, bne_iff_ne, bne_eq_false_iff_eq, Bool.true_eq_false, Bool.false_eq_true] at hc) | skip)) | (refine And.intro (by first | decide | omega | (dsimp only; omega) | exact ⟨by assumption, by omega, by omega⟩ | exact u32r _) ?_) | (apply And.intro))
  intro v1 q1 hv1 hq1
  repeat' (first | (apply And.intro <;> intro hc <;> (first | exact Bool.noConfusion hc | (simp only [decide_eq_true_eq, decide_eq_false_iff_not, Bool.not_eq_true', Bool.not_eq_false', beq_iff_eq, beq_eq_false_iff_ne, bne_iff_ne, bne_eq_false_iff_eq, Bool.true_eq_false, Bool.false_eq_true] at hc) | skip)) | (refine And.intro (by first | decide | omega | (dsimp only; omega) | exact ⟨by assumption, by omega, by omega⟩ | exact u32r _) ?_) | (apply And.intro))
  intro v2 q2 hv2 hq2
  repeat' (first | (apply And.intro <;> intro hc <;> (first | exact Bool.noConfusion hc | (simp only [decide_eq_true_eq, decide_eq_false_iff_not, Bool.not_eq_true', Bool.not_eq_false', beq_iff_eq, beq_eq_false_iff_ne, bne_iff_ne, bne_eq_false_iff_eq, Bool.true_eq_false, Bool.false_eq_true] at hc) | skip)) | (refine And.intro (by first | decide | omega | (dsimp only; omega) | exact ⟨by assumption, by omega, by omega⟩ | exact u32r _) ?_) | (apply And.intro))
  intro v3 q3 hv3 hq3
  repeat' (first | (apply And.intro <;> intro hc <;> (first | exact Bool.noConfusion hc | (simp only [decide_eq_true_eq, decide_eq_false_iff_not, Bool.not_eq_true', Bool.not_eq_false', beq_iff_eq, beq_eq_false_iff_ne, bne_iff_ne, bne_eq_false_iff_eq, Bool.true_eq_false, Bool.false_eq_true] at hc) | skip)) | (refine And.intro (by first | decide | omega | (dsimp only; omega) | exact ⟨by assumption, by omega, by omega⟩ | exact u32r _) ?_) | (apply And.intro))
  intro v4 q4 hv4 hq4
  repeat' (first | (apply And.intro <;> intro hc <;> (first | exact Bool.noConfusion hc | (simp only [decide_eq_true_eq, decide_eq_false_iff_not, Bool.not_eq_true', Bool.not_eq_false', beq_iff_eq, beq_eq_false_iff_ne, bne_iff_ne, bne_eq_false_iff_eq, Bool.true_eq_false, Bool.false_eq_true] at hc) | skip)) | (refine And.intro (by first | decide | omega | (dsimp only; omega) | exact ⟨by assumption, by omega, by omega⟩ | exact u32r _) ?_) | (apply And.intro))
  intro s hs
  have hw1 : IntKind.i64.wrap (2 + v1) = 2 + v1 := IntWalk.i64_in _ (by omega)
  have hnum : numbersB (IntKind.i64.wrap (2 + v1)) v2 v3 = true := by rw [hw1]; exact numbersB_iff.2 (by omega)
  obtain ⟨e1, e2, e3⟩ : s.2 = 0 ∧ TInv s.1 0 ∧ s.1.fired = false := by rw [hs]; exact new_inv hnum
  clear hs hnum hw1 hv1 hv2 hv3 hv4 hq1 hq2 hq3
  repeat' (first | (apply And.intro <;> intro hc <;> (first | exact Bool.noConfusion hc | (simp only [decide_eq_true_eq, decide_eq_false_iff_not, Bool.not_eq_true', Bool.not_eq_false', beq_iff_eq, beq_eq_false_iff_ne, bne_iff_ne, bne_eq_false_iff_eq, Bool.true_eq_false, Bool.false_eq_true] at hc) | skip)) | (refine And.intro (by first | decide | omega | (dsimp only; omega) | exact ⟨by assumption, by omega, by omega⟩ | exact u32r _) ?_) | (apply And.intro))
  · exact absurd e1 hc
  refine loop_intro (mono_of L4_ok) (σ := OnceS (min n 400) f) (fun s => ⟨[(3, one (.ptr 2 0)), (4, one (.ptr 18 0)), (6, .e (.c (.int .i64 s.sent))), (7, .e (.c (.int .i64 s.now)))], [(2, some (tapeN (min n 400) f s.q)), (18, some ⟨26, 8, nth (cTrkL s.x)⟩)], 19⟩) (fun s => (120 - s.now).toNat) (fun _ => rfl) ?_ ⟨0, s.1, 0, q4, by omega, e2, .inl rfl, hq4⟩ ?_ ?_
  · clear e1 e2 e3 hc s hq4 q4
    rintro ⟨now, x, sent, q, hnow, hinv, hsent, hq⟩
    repeat' (first | (apply And.intro <;> intro hc <;> (first | exact Bool.noConfusion hc | (simp only [decide_eq_true_eq, decide_eq_false_iff_not, Bool.not_eq_true', Bool.not_eq_false', beq_iff_eq, beq_eq_false_iff_ne, bne_iff_ne, bne_eq_false_iff_eq, Bool.true_eq_false, Bool.false_eq_true] at hc) | skip)) | (refine And.intro (by first | decide | omega | (dsimp only; omega) | exact ⟨by assumption, by omega, by omega⟩ | exact u32r _) ?_) | (apply And.intro))
    · intro v q5 hv5 hq5
      repeat' (first | (apply And.intro <;> intro hc <;> (first | exact Bool.noConfusion hc | (simp only [decide_eq_true_eq, decide_eq_false_iff_not, Bool.not_eq_true', Bool.not_eq_false', beq_iff_eq, beq_eq_false_iff_ne, bne_iff_ne, bne_eq_false_iff_eq, Bool.true_eq_false, Bool.false_eq_true] at hc) | skip)) | (refine And.intro (by first | decide | omega | (dsimp only; omega) | exact ⟨by assumption, by omega, by omega⟩ | exact u32r _) ?_) | (apply And.intro))
      refine loop_intro (mono_of L4_ok) (σ := HearS now x.fired) (fun s => ⟨[(3, one (.ptr 2 0)), (4, one (.ptr 18 0)), (6, .e (.c (.int .i64 sent))), (7, .e (.c (.int .i64 now))), (8, .e (.c (.int .i64 s.i)))], [(2, some (tapeN (min n 400) f q5)), (18, some ⟨26, 8, nth (cTrkL s.x)⟩)], 19⟩) (fun s => s.i.toNat) (fun _ => rfl) ?_ ⟨v, x, by omega, hinv, rfl⟩ ?_ ?_
      · rintro ⟨i, y, hi, hy, hfd⟩
        repeat' (first | (apply And.intro <;> intro hc <;> (first | exact Bool.noConfusion hc | (simp only [decide_eq_true_eq, decide_eq_false_iff_not, Bool.not_eq_true', Bool.not_eq_false', beq_iff_eq, beq_eq_false_iff_ne, bne_iff_ne, bne_eq_false_iff_eq, Bool.true_eq_false, Bool.false_eq_true] at hc) | skip)) | (refine And.intro (by first | decide | omega | (dsimp only; omega) | exact ⟨by assumption, by omega, by omega⟩ | exact u32r _) ?_) | (apply And.intro))
        · intro z hz
          have hz' : z = hearT y := hz
          subst hz'
          repeat' (first | (apply And.intro <;> intro hc <;> (first | exact Bool.noConfusion hc | (simp only [decide_eq_true_eq, decide_eq_false_iff_not, Bool.not_eq_true', Bool.not_eq_false', beq_iff_eq, beq_eq_false_iff_ne, bne_iff_ne, bne_eq_false_iff_eq, Bool.true_eq_false, Bool.false_eq_true] at hc) | skip)) | (refine And.intro (by first | decide | omega | (dsimp only; omega) | exact ⟨by assumption, by omega, by omega⟩ | exact u32r _) ?_) | (apply And.intro))
          refine ⟨⟨i - 1, hearT y, by omega, hear_inv hy, by rw [hear_same y hy.valid]; exact hfd⟩, ?_, ?_, ?_⟩
          · show (i - 1).toNat < i.toNat
            omega
          · repeat' (first | exact trivial | exact rfl | exact leC_slI (by assumption) | refine leF_int ?_ | refine leF_bool ?_ | exact leF_ptr rfl | refine leN_all ?_ | refine leC_int ?_ | refine leC_bool ?_ | apply And.intro)
            simp (disch := omega) only [IntWalk.i64_in, IntWalk.u8_in, IntWalk.u16_in, IntWalk.u32_in, IntWalk.u64_in, Int.tdiv_eq_ediv_of_nonneg, Int.tmod_eq_emod_of_nonneg]
          · repeat' (first | exact trivial | exact rfl | exact leC_slI (by assumption) | refine leF_int ?_ | refine leF_bool ?_ | exact leF_ptr rfl | refine leN_all ?_ | refine leC_int ?_ | refine leC_bool ?_ | apply And.intro)
        · intro v6 q6 hv6 hq6
          repeat' (first | (apply And.intro <;> intro hc <;> (first | exact Bool.noConfusion hc | (simp only [decide_eq_true_eq, decide_eq_false_iff_not, Bool.not_eq_true', Bool.not_eq_false', beq_iff_eq, beq_eq_false_iff_ne, bne_iff_ne, bne_eq_false_iff_eq, Bool.true_eq_false, Bool.false_eq_true] at hc) | skip)) | (refine And.intro (by first | decide | omega | (dsimp only; omega) | exact ⟨by assumption, by omega, by omega⟩ | exact u32r _) ?_) | (apply And.intro))
          intro z hz
          have hst : TStep y now z := by rw [hz]; exact step_inv hy (by omega)
          clear hz
          have hok := hst.ok
          have hyv := validT_num hy.valid
          have hylo := hy.lo
          have hyhi := hy.hi
          have w1 : IntKind.i64.wrap (y.start + y.len) = y.start + y.len := IntWalk.i64_in _ (by omega)
          have w2 : IntKind.i64.wrap (y.len.tdiv 2) = y.len / 2 := by
            simp (disch := omega) only [IntWalk.i64_in, IntWalk.u8_in, IntWalk.u16_in, IntWalk.u32_in, IntWalk.u64_in, Int.tdiv_eq_ediv_of_nonneg, Int.tmod_eq_emod_of_nonneg]
          have w3 : IntKind.i64.wrap (y.start + y.len / 2) = y.start + y.len / 2 := IntWalk.i64_in _ (by omega)
          have w4 : IntKind.i64.wrap (sent + 1) = sent + 1 := IntWalk.i64_in _ (by omega)
          have hp := pow_bd (j := y.dbl.toNat) ⟨hyv.1.1, hyv.1.2.1⟩ (by omega)
          have w5 : IntKind.u64.wrap y.dbl = y.dbl := IntWalk.u64_in _ (by omega)
          have w6 : shlI .i64 y.min y.dbl = y.min * 2 ^ y.dbl.toNat := by
            unfold shlI
            rw [show min y.dbl.toNat (IntKind.bits .i64) = y.dbl.toNat by simp [IntKind.bits]; omega]
            exact IntWalk.i64_in _ (by omega)
          have w7 : IntKind.i64.wrap (2 * y.len) = 2 * y.len := IntWalk.i64_in _ (by omega)
          have w8 : IntKind.i64.wrap (now + 1) = now + 1 := IntWalk.i64_in _ (by omega)
          have hturn := hst.turn
          cases hsd : z.2.1 with
          | false =>
            by_cases hch : z.1.start = y.start
            · repeat' (first | (apply And.intro <;> intro hc <;> (first | exact Bool.noConfusion hc | (simp only [hsd, hok, hch, decide_eq_true_eq, decide_eq_false_iff_not, Bool.not_eq_true', Bool.not_eq_false', beq_iff_eq, beq_eq_false_iff_ne, bne_iff_ne, bne_eq_false_iff_eq, Bool.true_eq_false, Bool.false_eq_true, ne_eq, not_true_eq_false, not_false_eq_true] at hc <;> first | (exfalso; omega) | skip) | skip)) | (refine And.intro (by first | decide | omega | (dsimp only; omega) | exact ⟨by assumption, by omega, by omega⟩ | exact u32r _) ?_) | (apply And.intro))
              refine ⟨⟨now + 1, z.1, sent, q6, by omega, hst.inv, ?_, hq6⟩, ?_, ?_, ?_⟩
              · rcases hsent with h | ⟨h, h'⟩
                · exact .inl h
                · exact .inr ⟨h, hst.still (hfd.trans h') hch⟩
              · show (120 - (now + 1)).toNat < (120 - now).toNat
                omega
              · repeat' (first | exact trivial | exact rfl | exact leC_slI (by assumption) | refine leF_int ?_ | refine leF_bool ?_ | exact leF_ptr rfl | refine leN_all ?_ | refine leC_int ?_ | refine leC_bool ?_ | apply And.intro)
                exact w8
              · repeat' (first | exact trivial | exact rfl | exact leC_slI (by assumption) | refine leF_int ?_ | refine leF_bool ?_ | exact leF_ptr rfl | refine leN_all ?_ | refine leC_int ?_ | refine leC_bool ?_ | apply And.intro)
            · obtain ⟨t1, t2, t3⟩ := hturn hch
              repeat' (first | (apply And.intro <;> intro hc <;> (first | exact Bool.noConfusion hc | (simp only [hsd, hok, w1, w5, w6, w7, decide_eq_true_eq, decide_eq_false_iff_not, Bool.not_eq_true', Bool.not_eq_false', beq_iff_eq, beq_eq_false_iff_ne, bne_iff_ne, bne_eq_false_iff_eq, Bool.true_eq_false, Bool.false_eq_true, ne_eq, not_true_eq_false, not_false_eq_true] at hc <;> first | (exfalso; omega) | skip) | skip)) | (refine And.intro (by first | decide | omega | (dsimp only; omega) | exact ⟨by assumption, by omega, by omega⟩ | exact u32r _) ?_) | (apply And.intro))
              refine ⟨⟨now + 1, z.1, 0, q6, by omega, hst.inv, .inl rfl, hq6⟩, ?_, ?_, ?_⟩
              · show (120 - (now + 1)).toNat < (120 - now).toNat
                omega
              · repeat' (first | exact trivial | exact rfl | exact leC_slI (by assumption) | refine leF_int ?_ | refine leF_bool ?_ | exact leF_ptr rfl | refine leN_all ?_ | refine leC_int ?_ | refine leC_bool ?_ | apply And.intro)
                exact w8
              · repeat' (first | exact trivial | exact rfl | exact leC_slI (by assumption) | refine leF_int ?_ | refine leF_bool ?_ | exact leF_ptr rfl | refine leN_all ?_ | refine leC_int ?_ | refine leC_bool ?_ | apply And.intro)
          | true =>
            obtain ⟨s1, s2, s3, s4, s5, s6⟩ := hst.sends hsd
            have hs0 : sent = 0 := by
              rcases hsent with h | ⟨h, h'⟩
              · exact h
              · rw [hfd, h'] at s1; cases s1
            repeat' (first | (apply And.intro <;> intro hc <;> (first | exact Bool.noConfusion hc | (simp only [hsd, hok, w1, w2, w3, w4, decide_eq_true_eq, decide_eq_false_iff_not, Bool.not_eq_true', Bool.not_eq_false', beq_iff_eq, beq_eq_false_iff_ne, bne_iff_ne, bne_eq_false_iff_eq, Bool.true_eq_false, Bool.false_eq_true, ne_eq, not_true_eq_false, not_false_eq_true] at hc <;> first | (exfalso; omega) | skip) | skip)) | (refine And.intro (by first | decide | omega | (dsimp only; omega) | exact ⟨by assumption, by omega, by omega⟩ | exact u32r _) ?_) | (apply And.intro))
            all_goals
              refine ⟨⟨now + 1, z.1, 1, q6, by omega, hst.inv, .inr ⟨rfl, s6⟩, hq6⟩, ?_, ?_, ?_⟩
              · show (120 - (now + 1)).toNat < (120 - now).toNat
                omega
              · repeat' (first | exact trivial | exact rfl | exact leC_slI (by assumption) | refine leF_int ?_ | refine leF_bool ?_ | exact leF_ptr rfl | refine leN_all ?_ | refine leC_int ?_ | refine leC_bool ?_ | apply And.intro)
                · rw [w4, hs0]; rfl
                · exact w8
              · repeat' (first | exact trivial | exact rfl | exact leC_slI (by assumption) | refine leF_int ?_ | refine leF_bool ?_ | exact leF_ptr rfl | refine leN_all ?_ | refine leC_int ?_ | refine leC_bool ?_ | apply And.intro)
      · repeat' (first | exact trivial | exact rfl | exact leC_slI (by assumption) | refine leF_int ?_ | refine leF_bool ?_ | exact leF_ptr rfl | refine leN_all ?_ | refine leC_int ?_ | refine leC_bool ?_ | apply And.intro)
      · repeat' (first | exact trivial | exact rfl | exact leC_slI (by assumption) | refine leF_int ?_ | refine leF_bool ?_ | exact leF_ptr rfl | refine leN_all ?_ | refine leC_int ?_ | refine leC_bool ?_ | apply And.intro)
    · exact Fin.mk (leF_bool rfl)
  · repeat' (first | exact trivial | exact rfl | exact leC_slI (by assumption) | refine leF_int ?_ | refine leF_bool ?_ | exact leF_ptr rfl | refine leN_all ?_ | refine leC_int ?_ | refine leC_bool ?_ | apply And.intro)
  · repeat' (first | exact trivial | exact rfl | exact leC_slI (by assumption) | refine leF_int ?_ | refine leF_bool ?_ | exact leF_ptr rfl | refine leN_all ?_ | refine leC_int ?_ | refine leC_bool ?_ | apply And.intro)
end Go.Proofs.Ytolliidpmgncdaa.AX
