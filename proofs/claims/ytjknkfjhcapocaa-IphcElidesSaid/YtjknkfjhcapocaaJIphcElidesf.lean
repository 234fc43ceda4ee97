/- Texts of one's own in one file: IphcShortA, Is, IphcElidesA, IphcElidesW. -/
import Derived.Test.YtjknkfjhcapocaaJgkpejeemle
import Derived.Test.YtjknkfjhcapocaaJaabbaoonll
import Derived.Test.YtjknkfjhcapocaaJbhdnjmaflk
/- IphcShort, by AX2: the law returns true. -/
namespace Go.Proofs.Ytjknkfjhcapocaa.AX
open Go.RowKit
set_option linter.unusedVariables false
set_option linter.unusedSimpArgs false
theorem encI_congr {p p' : Pkt} {a a' b b' : Adr} {l l' : List Ctx} {n : Int} (h1 : p' = p) (h2 : a' = a) (h3 : b' = b) (h4 : l' = l) : encI p' a' b' l' n = encI p a b l n := by rw [h1, h2, h3, h4]
theorem vt_mod (x : Int) : vt (modF x 60) = true := by
  have := modF_lt (v := x) (n := 60) (by decide)
  simp [vt]
  omega
set_option maxHeartbeats 8000000 in
set_option maxRecDepth 20000 in
theorem ishort_ok (n : Nat) (l : List Int) (hl : rngL l) (now : Int) : PureOk Try.prog 11 [.e (.c (.sl true n 1 (rI l))), (cI .i64).enc now] (.e (.c (.bool true))) := by
  have hN := vt_mod now
  obtain ⟨N, eN⟩ : ∃ N, modF now 60 = N := ⟨_, rfl⟩
  rw [eN] at hN
  have g1 : True := trivial
  have g2 : True := trivial
  have g3 : True := trivial
  refine pure_intro (wd := 1) (Q := mkQ LWi) (by decide) tysOk (q_of LWi_ok) mixed Try.func11 rfl _ (by show 2 ≤ _; decide) _ ?_
  repeat' (first | (apply And.intro <;> intro hc <;> (first | exact Bool.noConfusion hc | (simp only [decide_eq_true_eq, decide_eq_false_iff_not, Bool.not_eq_true', Bool.not_eq_false', beq_iff_eq, beq_eq_false_iff_ne, bne_iff_ne, bne_eq_false_iff_eq, Bool.true_eq_false, Bool.false_eq_true] at hc) | skip)) | (refine And.intro (by first | exact trivial | decide | omega | (dsimp only; omega) | exact fun _ _ => rfl | exact ⟨by assumption, by first | exact trivial | decide | omega | (dsimp only; omega)⟩) ?_) | (apply And.intro) | (intro s hs))
  · exact ⟨l, rfl, hl⟩
  intro ht0
  repeat' (first | (apply And.intro <;> intro hc <;> (first | exact Bool.noConfusion hc | (simp only [decide_eq_true_eq, decide_eq_false_iff_not, Bool.not_eq_true', Bool.not_eq_false', beq_iff_eq, beq_eq_false_iff_ne, bne_iff_ne, bne_eq_false_iff_eq, Bool.true_eq_false, Bool.false_eq_true, ne_eq, not_true_eq_false] at hc <;> first | exact absurd rfl hc | skip) | skip)) | (refine And.intro (by first | exact trivial | decide | omega | (dsimp only; omega) | exact fun _ _ => rfl | exact ⟨by assumption, by first | exact trivial | decide | omega | (dsimp only; omega)⟩) ?_) | (apply And.intro) | (intro s hs; (first | (clear g1; have q : N = s := (hs.trans eN).symm; clear hs; subst q; rename_i a ha q1 t1 b hb q2 t2 L hL q3 t3 r hm; obtain ⟨c, d, ec, ed, x1, x2, x3⟩ := short_law hm.v ha.v hb.v hL.v hN) | (clear g2; have q : s = (c, 0) := (by (refine hs.trans ((encI_congr (pk_is (h := r.1) (l := r.2) (fun j hj => ?_) (toL_b r.2)) rfl rfl (toL_ctx L)).trans ec); (iterate 38 (rcases j with _ | j; exact rfl)); exact absurd hj (by omega))); clear hs; subst q) | (clear g3; have q : s = (d, 0) := (by (refine hs.trans ((encI_congr (pk_is (h := r.1) (l := r.2) (fun j hj => ?_) (toL_b r.2)) rfl rfl rfl).trans ed); (iterate 38 (rcases j with _ | j; exact rfl)); exact absurd hj (by omega))); clear hs; subst q) | (have q : s = true := hs; clear hs; subst q) | skip)))
  all_goals first
    | exact fun _ => rfl
    | exact fun h => absurd h (Nat.not_lt_zero _)
    | (refine Eq.mp (congrArg PkW (pk_is (h := r.1) (l := r.2) (fun j hj => ?_) (toL_b r.2)).symm) hm.w
       iterate 38 (rcases j with _ | j; exact rfl)
       exact absurd hj (by omega))
    | (show (toL eB r.2.length _).length ≤ _
       rw [toL_len]
       have := valid_len hm.v
       omega)
    | exact Eq.mp (congrArg bytesL (toL_ctx L).symm) ⟨hL.b, Nat.le_trans hL.n (by decide)⟩
    | exact bytes_nil
    | exact Done.mk (leF_bool rfl)
    | exact Done.mk (leF_bool (decide_eq_true (show (d.length : Int) ≤ 40 by omega)))
    | (exact absurd (by assumption) (by omega))
    | skip
end Go.Proofs.Ytjknkfjhcapocaa.AX
/- Structs that are read back out of cells. -/
namespace Go.Proofs.Ytjknkfjhcapocaa.AX
open Go.RowKit
set_option linter.unusedVariables false
set_option linter.unusedSimpArgs false
theorem ctx_is {G : Nat → CV} {c : Ctx} (h : ∀ j, j < 20 → G j = eCtx.cell c j) : eCtx.rd G = c := by
  have e : eCtx.rd G = eCtx.rd (eCtx.cell c) := by
    show Ctx.mk (valI (G 0)) (fun q : Fin 16 => valI (G (1 + q.1))) (valI (G 17)) (valB (G 18)) (valI (G 19)) = Ctx.mk (valI (eCtx.cell c 0)) (fun q : Fin 16 => valI (eCtx.cell c (1 + q.1))) (valI (eCtx.cell c 17)) (valB (eCtx.cell c 18)) (valI (eCtx.cell c 19))
    rw [h 0 (by decide), h 17 (by decide), h 18 (by decide), h 19 (by decide), show (fun q : Fin 16 => valI (G (1 + q.1))) = (fun q : Fin 16 => valI (eCtx.cell c (1 + q.1))) from funext fun q => congrArg valI (h (1 + q.1) (by omega))]
  exact e.trans (eCtx_rd c)
theorem toL_1 {F : Nat → Nat → CV} {c : Ctx} (h : ∀ j, j < 20 → F 0 j = eCtx.cell c j) : toL eCtx 1 F = [c] := by
  show [eCtx.rd (F 0)] = [c]
  rw [ctx_is h]
theorem ip_is {G : Nat → CV} {a : Fin 16 → Int} (h : ∀ j, j < 16 → G j = (eA .u8 16).cell a j) : (eA .u8 16).rd G = a := by
  funext q
  show valI (G q.1) = a q
  rw [h q.1 q.2]
  show vget a q.1 = a q
  exact vget_lt _ q.2
theorem pfx_is {G : Nat → CV} {p : Pfx} (h : ∀ j, j < 17 → G j = ePfx.cell p j) : ePfx.rd G = p := by
  have e : ePfx.rd G = ePfx.rd (ePfx.cell p) := by
    show Pfx.mk (fun q : Fin 16 => valI (G (0 + q.1))) (valI (G 16)) = Pfx.mk (fun q : Fin 16 => valI (ePfx.cell p (0 + q.1))) (valI (ePfx.cell p 16))
    rw [h 16 (by decide), show (fun q : Fin 16 => valI (G (0 + q.1))) = (fun q : Fin 16 => valI (ePfx.cell p (0 + q.1))) from funext fun q => congrArg valI (h (0 + q.1) (by omega))]
  exact e.trans (ePfx_rd p)
end Go.Proofs.Ytjknkfjhcapocaa.AX
/- IphcElides, by AX2: the law returns true. -/
namespace Go.Proofs.Ytjknkfjhcapocaa.AX
open Go.RowKit
set_option linter.unusedVariables false
set_option linter.unusedSimpArgs false
theorem mod16 (x : Int) : 0 ≤ modF x 16 ∧ modF x 16 < 16 := modF_lt (v := x) (n := 16) (by decide)
set_option maxHeartbeats 8000000 in
set_option maxRecDepth 20000 in
theorem elides_ok (n : Nat) (l : List Int) (hl : rngL l) (i : Int) : PureOk Try.prog 12 [.e (.c (.sl true n 1 (rI l))), (cI .i64).enc i] (.e (.c (.bool true))) := by
  have hM := mod16 i
  obtain ⟨M, eM⟩ : ∃ N, modF i 16 = N := ⟨_, rfl⟩
  rw [eM] at hM
  have eZ := llP_of 0
  have hZ0 : byteOk (jn llP.ip 0) := jn_ok llP_b 0
  obtain ⟨Z, eZ'⟩ : ∃ Z, jn llP.ip 0 = Z := ⟨_, rfl⟩
  rw [eZ'] at eZ
  have g1 : True := trivial
  have g2 : True := trivial
  have g3 : True := trivial
  have g4 : True := trivial
  have g5 : True := trivial
  have g6 : True := trivial
  have g7 : True := trivial
  have gm : True := trivial
  have g8 : True := trivial
  have g9 : True := trivial
  refine pure_intro (wd := 1) (Q := mkQ LWi) (by decide) tysOk (q_of LWi_ok) mixed Try.func12 rfl _ (by show 2 ≤ _; decide) _ ?_
  repeat' (first | (apply And.intro <;> intro hc <;> (first | exact Bool.noConfusion hc | (simp only [decide_eq_true_eq, decide_eq_false_iff_not, Bool.not_eq_true', Bool.not_eq_false', beq_iff_eq, beq_eq_false_iff_ne, bne_iff_ne, bne_eq_false_iff_eq, Bool.true_eq_false, Bool.false_eq_true] at hc) | skip)) | (refine And.intro (by first | exact trivial | decide | omega | (dsimp only; omega) | exact fun _ _ => rfl | exact ⟨by assumption, by first | exact trivial | decide | omega | (dsimp only; omega)⟩) ?_) | (apply And.intro) | (intro s hs))
  · exact ⟨l, rfl, hl⟩
  intro ht0
  repeat' (first | (apply And.intro <;> intro hc <;> (first | exact Bool.noConfusion hc | (exfalso; first | exact hc (by rw [lc1]; rfl)) | (simp only [decide_eq_true_eq, decide_eq_false_iff_not, Bool.not_eq_true', Bool.not_eq_false', beq_iff_eq, beq_eq_false_iff_ne, bne_iff_ne, bne_eq_false_iff_eq, Bool.true_eq_false, Bool.false_eq_true, ne_eq, not_true_eq_false] at hc <;> first | exact absurd rfl hc | (exfalso; first | exact hc (by rw [lc1]; rfl)) | skip) | skip)) | (refine And.intro (by first | exact trivial | decide | omega | (dsimp only; omega) | exact fun _ _ => rfl | exact ⟨by assumption, by first | exact trivial | decide | omega | (dsimp only; omega)⟩) ?_) | (apply And.intro) | (intro s hs; (first | (clear g1; rename_i a ha q1 t1 b hb q2 t2 p hp q3 t3; obtain ⟨hpv, hpb⟩ := hp; have eLa : linkF a = (jn llP.ip (iidF a).1, true) := if_pos (congrArg Prod.snd (iid_own ha.s)); have eLb : linkF b = (jn llP.ip (iidF b).1, true) := if_pos (congrArg Prod.snd (iid_own hb.s)); have eIa := iid_own ha.s; have eIb := iid_own hb.s; obtain ⟨c1, ec1, lc1⟩ := elides_1 ha.s hb.s ha.w.eui hb.w.eui; have eE2 := fun h1 h2 => elides_2 (p := p) (id := M) ha.s hb.s ha.w.eui hb.w.eui hpb hpv h1 h2 hM; have eJa : p.bits ≤ 64 → joinF p (iidF a).1 = (jn p.ip (iidF a).1, true) := (fun h => if_pos ⟨hpv, h⟩); have eJb : p.bits ≤ 64 → joinF p (iidF b).1 = (jn p.ip (iidF b).1, true) := (fun h => if_pos ⟨hpv, h⟩); have hX1 : byteOk (jn llP.ip (iidF a).1) := jn_ok llP_b _; have hY1 : byteOk (jn llP.ip (iidF b).1) := jn_ok llP_b _; have hX2 : byteOk (jn p.ip (iidF a).1) := jn_ok hpb _; have hY2 : byteOk (jn p.ip (iidF b).1) := jn_ok hpb _; obtain ⟨X1, eX1⟩ : ∃ x, jn llP.ip (iidF a).1 = x := ⟨_, rfl⟩; obtain ⟨Y1, eY1⟩ : ∃ x, jn llP.ip (iidF b).1 = x := ⟨_, rfl⟩; obtain ⟨X2, eX2⟩ : ∃ x, jn p.ip (iidF a).1 = x := ⟨_, rfl⟩; obtain ⟨Y2, eY2⟩ : ∃ x, jn p.ip (iidF b).1 = x := ⟨_, rfl⟩; rw [eX1] at eLa hX1 ec1; rw [eY1] at eLb hY1 ec1; rw [eX2] at eJa hX2 eE2; rw [eY2] at eJb hY2 eE2; rw [eZ'] at eE2; obtain ⟨Ia, eIa'⟩ : ∃ x, (iidF a).1 = x := ⟨_, rfl⟩; obtain ⟨Ib, eIb'⟩ : ∃ x, (iidF b).1 = x := ⟨_, rfl⟩; rw [eIa'] at eIa eJa; rw [eIb'] at eIb eJb; obtain ⟨Mc, eMc⟩ : ∃ x, mcast p.ip = x := ⟨_, rfl⟩; rw [eMc] at eE2; clear eX1 eX2 eY1 eY2 eIa' eIb'; have q : s = (X1, true) := hs.trans eLa; clear hs; subst q) | (clear g2; have q : s = (Y1, true) := hs.trans eLb; clear hs; subst q) | (clear g3; have q : s = (c1, 0) := (by (refine hs.trans ((encI_congr (pk_hP (h := 255) (X := X1) (Y := Y1) (fun j hj => ?_)) rfl rfl rfl).trans ec1); (iterate 38 (rcases j with _ | j; exact rfl)); exact absurd hj (by omega))); clear hs; subst q) | (have q : s = true := hs; clear hs; subst q) | (clear gm; have q : Mc = s := (by (dsimp only at hs; refine (hs.trans ((congrArg mcast (ip_is (a := p.ip) (fun j hj => ?_))).trans eMc)).symm; (iterate 16 (rcases j with _ | j; exact rfl)); exact absurd hj (by omega))); clear hs; subst q) | (clear g4; have q : s = (Ia, true) := hs.trans eIa; clear hs; subst q) | (clear g5; have q : s = (Ib, true) := hs.trans eIb; clear hs; subst q) | (clear g6; have h64 : p.bits ≤ 64 := (by omega); obtain ⟨c2, ec2, lc2, lc3⟩ := eE2 h64 (by assumption); have q : s = (X2, true) := (by (dsimp only at hs; refine hs.trans ((congrArg (joinF · Ia) (pfx_is (p := p) (fun j hj => ?_))).trans (eJa h64)); (iterate 17 (rcases j with _ | j; exact rfl)); exact absurd hj (by omega))); clear hs; subst q) | (clear g7; have q : s = (Y2, true) := (by (dsimp only at hs; refine hs.trans ((congrArg (joinF · Ib) (pfx_is (p := p) (fun j hj => ?_))).trans (eJb h64)); (iterate 17 (rcases j with _ | j; exact rfl)); exact absurd hj (by omega))); clear hs; subst q) | (clear g8; have q : M = s := (hs.trans eM).symm; clear hs; subst q) | (clear g9; have q : s = (c2, 0) := (by (dsimp only at hs; refine hs.trans ((encI_congr (pk_hP (h := 255) (X := X2) (Y := Y2) (fun j hj => ?_)) rfl rfl (toL_1 (c := ⟨M, p.ip, p.bits, true, 9⟩) (fun j hj => ?_))).trans ec2); (iterate 38 (rcases j with _ | j; exact rfl)); (exact absurd hj (by omega)); (iterate 20 (rcases j with _ | j; exact rfl)); exact absurd hj (by omega))); clear hs; subst q) | (have q : Z = s := (hs.trans eZ).symm; clear hs; subst q) | skip)))
  all_goals first
    | exact Done.mk (leF_bool rfl)
    | (refine Eq.mp (congrArg PkW (pk_hP (h := 255) (X := X1) (Y := Y1) (fun j hj => ?_)).symm) (zero_w hX1 hY1 (by decide))
       iterate 38 (rcases j with _ | j; exact rfl)
       exact absurd hj (by omega))
    | (refine Eq.mp (congrArg PkW (pk_hP (h := 255) (X := X2) (Y := Y2) (fun j hj => ?_)).symm) (zero_w hX2 hY2 (by decide))
       iterate 38 (rcases j with _ | j; exact rfl)
       exact absurd hj (by omega))
    | exact Nat.zero_le _
    | exact bytes_nil
    | (dsimp only
       refine Eq.mp (congrArg (fun p : Pfx => byteOk p.ip) (pfx_is (p := p) (fun j hj => ?_)).symm) hpb
       iterate 17 (rcases j with _ | j; exact rfl)
       exact absurd hj (by omega))
    | (dsimp only
       refine Eq.mp (congrArg bytesL (toL_1 (c := ⟨M, p.ip, p.bits, true, 9⟩) (fun j hj => ?_)).symm) ⟨fun c hc => ?_, Nat.le_of_ble_eq_true rfl⟩
       · iterate 20 (rcases j with _ | j; exact rfl)
         exact absurd hj (by omega)
       · rw [List.mem_singleton.1 hc]
         exact hpb)
    | (rcases s with _ | s
       · exact rfl
       · exact absurd hs (by omega))
    | (have h2 := lc3.2 (.inl (by assumption))
       have h3 : (c2.length : Int) = 2 := by omega
       refine Done.mk (leF_bool ?_)
       rw [h3]
       rfl)
    | (exfalso; omega)
    | (clear eE2
       refine Done.mk (leF_bool (Eq.trans (congrArg (fun b => ((c2.length : Int) == 2) == b) ((eqFrom_congr (fun j hj => ?_) (fun j hj => rfl)).trans (ip_from p.ip Z))) ?_))
       · iterate 16 (rcases j with _ | j; exact rfl)
         exact absurd hj (by omega)
       · have h0 : ¬ M = 0 := by assumption
         cases hz : ipEq p.ip Z with
         | true =>
           have h2 := lc3.2 (.inr (ipEq_iff.1 hz))
           have h3 : (c2.length : Int) = 2 := by omega
           rw [h3]
           rfl
         | false =>
           have h3 : ¬ (c2.length : Int) = 2 := fun h => by
             rcases lc3.1 (by omega) with g | g
             · exact h0 g
             · rw [ipEq_iff.2 g] at hz
               cases hz
           rw [show ((c2.length : Int) == 2) = false from beq_eq_false_iff_ne.2 h3]
           rfl)
    | skip
end Go.Proofs.Ytjknkfjhcapocaa.AX
/- IphcElides: the walk. -/
namespace Go.Proofs.Ytjknkfjhcapocaa
open Go.RowKit AX
set_option linter.unusedVariables false
theorem walkIphcElides (a0 : Option Addr) (len0 cap0 : Nat) (z0 : List Int) (a1 : Int) (w : World) (w0 : IsRow .i64 w a0 len0 cap0 z0) (rr0 : cap0 * 8 ≤ 140737488351232) (w1 : (Lit.int .i64 a1).wf = true) :
    Calls Try.prog 12 #[.slice a0 len0 cap0, .int .i64 a1] w fun e w' => e = .returned (.bool true) ∧ Below w.heap.size w w' :=
  walk_of (elides_ok len0 z0 (rng_of w0) a1) (relL_cons (row_rel w0) (relL1 rfl))
end Go.Proofs.Ytjknkfjhcapocaa
