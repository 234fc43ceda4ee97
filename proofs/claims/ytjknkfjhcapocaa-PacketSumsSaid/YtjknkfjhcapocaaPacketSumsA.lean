/- PacketSums, by AX2: the law returns true. -/
import Derived.Test.YtjknkfjhcapocaaPkU
namespace Go.Proofs.Ytjknkfjhcapocaa.AX
open Go.RowKit
set_option linter.unusedVariables false
set_option linter.unusedSimpArgs false
theorem sumP_free {p : Pkt} (hp : PkM p) {h c f : Int} (hf : 0 ≤ f ∧ f < 1048576) : sumP ({ p.1 with hops := h, cls := c, flow := f }, p.2) = sumP p := by
  have hv : validP (({ p.1 with hops := h, cls := c, flow := f }, p.2) : Pkt) = true := by
    have := hp.v
    unfold validP at this ⊢
    simp only [Bool.and_eq_true, decide_eq_true_eq] at this ⊢
    exact ⟨⟨⟨by omega, this.1.1.2⟩, this.1.2⟩, this.2⟩
  by_cases hn : p.1.nxt = 17
  · rw [sumP_covL (p := ({ p.1 with hops := h, cls := c, flow := f }, p.2)) hv hn, sumP_covL hp.v hn]; rfl
  · rw [sumP_other hn, sumP_other (p := ({ p.1 with hops := h, cls := c, flow := f }, p.2)) hn]
theorem zero_iff {r : Pkt} (hm : PkM r) : ((sumP r == 0) == (r.1.nxt != 17)) = true := by
  by_cases h : r.1.nxt = 17
  · have h1 : sumP r ≠ 0 := by rw [sumP_covL hm.v h]; exact sum0_pos _
    rw [beq_eq_false_iff_ne.2 h1, bne_eq_false_iff_eq.2 h]; rfl
  · rw [sumP_other h, bne_iff_ne.2 h]; rfl
set_option maxHeartbeats 4000000 in
set_option maxRecDepth 20000 in
theorem sums_ok (n : Nat) (l : List Int) (hl : rngL l) (hops cla flow : Int) (h1 : 0 ≤ hops ∧ hops < 256) (h2 : 0 ≤ cla ∧ cla < 256) (h3 : 0 ≤ flow ∧ flow < 4294967296) : PureOk Try.prog 9 [.e (.c (.sl true n 1 (rI l))), (cI .u8).enc hops, (cI .u8).enc cla, (cI .u32).enc flow] (.e (.c (.bool true))) := by
  have hf : 0 ≤ flow.tmod 1048576 ∧ flow.tmod 1048576 < 1048576 := ⟨Int.tmod_nonneg _ h3.1, Int.tmod_lt_of_pos _ (by decide)⟩
  refine pure_intro (wd := 1) (Q := mkQ LWp) (by decide) tysOk (q_of LWp_ok) mixed Try.func9 rfl _ (by show 4 ≤ _; decide) _ ?_
  repeat' (first | (apply And.intro <;> intro hc <;> (first | exact Bool.noConfusion hc | (simp only [decide_eq_true_eq, decide_eq_false_iff_not, Bool.not_eq_true', Bool.not_eq_false', beq_iff_eq, beq_eq_false_iff_ne, bne_iff_ne, bne_eq_false_iff_eq, Bool.true_eq_false, Bool.false_eq_true, ne_eq, not_true_eq_false] at hc <;> first | exact absurd rfl hc | skip) | skip)) | (refine And.intro (by first | exact trivial | decide | omega | (dsimp only; omega) | exact fun _ _ => rfl | exact ⟨by assumption, by first | exact trivial | decide | omega | (dsimp only; omega)⟩) ?_) | (apply And.intro) | (intro s hs; (first | (have q : s = sumP r := hs.trans (congrArg sumP (pk_eq r _)); clear hs; subst q) | (have q : s = sumP r := (by (refine hs.trans ((congrArg sumP (pk_is (h := { r.1 with hops := hops, cls := cla, flow := flow.tmod 1048576 }) (l := r.2) (fun j hj => ?_) (toL_b r.2))).trans (sumP_free hm hf)); (iterate 38 (rcases j with _ | j; exact rfl)); exact absurd hj (by omega))); clear hs; subst q) | (have q : s = true := hs; clear hs; subst q) | (rename PkM _ => hm; rename Pkt => r))))
  · exact ⟨l, rfl, hl⟩
  all_goals first
    | exact Eq.mp (congrArg PkW (pk_eq r _).symm) hm.w
    | (refine Eq.mp (congrArg PkW (pk_is (h := { r.1 with hops := hops, cls := cla, flow := flow.tmod 1048576 }) (l := r.2) (fun j hj => ?_) (toL_b r.2)).symm) ⟨h2, ⟨hf.1, Int.lt_trans hf.2 (by decide)⟩, hm.w.nxt, h1, hm.w.src, hm.w.dst, hm.w.sp, hm.w.dp, hm.w.pay⟩
       iterate 38 (rcases j with _ | j; exact rfl)
       exact absurd hj (by omega))
    | (have hw := valid_len hm.v
       show (toL eB _ _).length ≤ _
       rw [toL_len]
       omega)
    | skip
  exact Done.mk (leF_bool (zero_iff hm))
end Go.Proofs.Ytjknkfjhcapocaa.AX
