/- Texts of one's own in one file: IphcShortA, IphcShortW. -/
import Derived.Test.YtjknkfjhcapocaaJgkpejeemle
import Derived.Test.YtjknkfjhcapocaaJbhdnjmaflk
/- IphcShort, by AX2: the law returns true. -/
namespace Go.Proofs.Ytjknkfjhcapocaa.AX
open Go.RowKit
set_option linter.unusedVariables false
set_option linter.unusedSimpArgs false
theorem encI_congr {p p' : Pkt} {a a' b b' : Adr} {l l' : List Ctx} {n : Int} (h1 : p' = p) (h2 : a' = a) (h3 : b' = b) (h4 : l' = l) : encI p' a' b' l' n = encI p a b l n := by rw [h1, h2, h3, h4]
theorem vt_mod (x : Int) : vt (modF x 60) = true := by
  have := modF_lt (v := x) (n := 60) (by decide)
  simp [vt]
  omega
set_option maxHeartbeats 8000000 in
set_option maxRecDepth 20000 in
theorem ishort_ok (n : Nat) (l : List Int) (hl : rngL l) (now : Int) : PureOk Try.prog 11 [.e (.c (.sl true n 1 (rI l))), (cI .i64).enc now] (.e (.c (.bool true))) := by
  have hN := vt_mod now
  obtain ⟨N, eN⟩ : ∃ N, modF now 60 = N := ⟨_, rfl⟩
  rw [eN] at hN
  have g1 : True := trivial
  have g2 : True := trivial
  have g3 : True := trivial
  refine pure_intro (wd := 1) (Q := mkQ LWi) (by decide) tysOk (q_of LWi_ok) mixed Try.func11 rfl _ (by show 2 ≤ _; decide) _ ?_
  repeat' (first | (apply And.intro <;> intro hc <;> (first | exact Bool.noConfusion hc | (simp only [decide_eq_true_eq, decide_eq_false_iff_not, Bool.not_eq_true', Bool.not_eq_false', beq_iff_eq, beq_eq_false_iff_ne, bne_iff_ne, bne_eq_false_iff_eq, Bool.true_eq_false, Bool.false_eq_true] at hc) | skip)) | (refine And.intro (by first | exact trivial | decide | omega | (dsimp only; omega) | exact fun _ _ => rfl | exact ⟨by assumption, by first | exact trivial | decide | omega | (dsimp only; omega)⟩) ?_) | (apply And.intro) | (intro s hs))
  · exact ⟨l, rfl, hl⟩
  intro ht0
  repeat' (first | (apply And.intro <;> intro hc <;> (first | exact Bool.noConfusion hc | (simp only [decide_eq_true_eq, decide_eq_false_iff_not, Bool.not_eq_true', Bool.not_eq_false', beq_iff_eq, beq_eq_false_iff_ne, bne_iff_ne, bne_eq_false_iff_eq, Bool.true_eq_false, Bool.false_eq_true, ne_eq, not_true_eq_false] at hc <;> first | exact absurd rfl hc | skip) | skip)) | (refine And.intro (by first | exact trivial | decide | omega | (dsimp only; omega) | exact fun _ _ => rfl | exact ⟨by assumption, by first | exact trivial | decide | omega | (dsimp only; omega)⟩) ?_) | (apply And.intro) | (intro s hs; (first | (clear g1; have q : N = s := (hs.trans eN).symm; clear hs; subst q; rename_i a ha q1 t1 b hb q2 t2 L hL q3 t3 r hm; obtain ⟨c, d, ec, ed, x1, x2, x3⟩ := short_law hm.v ha.v hb.v hL.v hN) | (clear g2; have q : s = (c, 0) := (by (refine hs.trans ((encI_congr (pk_is (h := r.1) (l := r.2) (fun j hj => ?_) (toL_b r.2)) rfl rfl (toL_ctx L)).trans ec); (iterate 38 (rcases j with _ | j; exact rfl)); exact absurd hj (by omega))); clear hs; subst q) | (clear g3; have q : s = (d, 0) := (by (refine hs.trans ((encI_congr (pk_is (h := r.1) (l := r.2) (fun j hj => ?_) (toL_b r.2)) rfl rfl rfl).trans ed); (iterate 38 (rcases j with _ | j; exact rfl)); exact absurd hj (by omega))); clear hs; subst q) | (have q : s = true := hs; clear hs; subst q) | skip)))
  all_goals first
    | exact fun _ => rfl
    | exact fun h => absurd h (Nat.not_lt_zero _)
    | (refine Eq.mp (congrArg PkW (pk_is (h := r.1) (l := r.2) (fun j hj => ?_) (toL_b r.2)).symm) hm.w
       iterate 38 (rcases j with _ | j; exact rfl)
       exact absurd hj (by omega))
    | (show (toL eB r.2.length _).length ≤ _
       rw [toL_len]
       have := valid_len hm.v
       omega)
    | exact Eq.mp (congrArg bytesL (toL_ctx L).symm) ⟨hL.b, Nat.le_trans hL.n (by decide)⟩
    | exact bytes_nil
    | exact Done.mk (leF_bool rfl)
    | exact Done.mk (leF_bool (decide_eq_true (show (d.length : Int) ≤ 40 by omega)))
    | (exact absurd (by assumption) (by omega))
    | skip
end Go.Proofs.Ytjknkfjhcapocaa.AX
/- IphcShort: the walk. -/
namespace Go.Proofs.Ytjknkfjhcapocaa
open Go.RowKit AX
set_option linter.unusedVariables false
theorem walkIphcShort (a0 : Option Addr) (len0 cap0 : Nat) (z0 : List Int) (a1 : Int) (w : World) (w0 : IsRow .i64 w a0 len0 cap0 z0) (rr0 : cap0 * 8 ≤ 140737488351232) (w1 : (Lit.int .i64 a1).wf = true) :
    Calls Try.prog 11 #[.slice a0 len0 cap0, .int .i64 a1] w fun e w' => e = .returned (.bool true) ∧ Below w.heap.size w w' :=
  walk_of (ishort_ok len0 z0 (rng_of w0) a1) (relL_cons (row_rel w0) (relL1 rfl))
end Go.Proofs.Ytjknkfjhcapocaa
