/- Texts of one's own in one file: Rd8, R12d, Ra, Ja, Jb, Ju, Re, R12h, Re2, Re3, Dq, Dr, BJ, Re4, Re5h, Re5g, Re5f, Re5e, Re5d, Re5c, Re5b, Re5a, Re5, PkT2, PkT3, PkT4, PkT5, PkN, PkU, Ib, Dd, Db, Db2, Tp5, IhW, Gr, Tp6, IphcShortA, IphcGroupsA, Fp, Wt, IphcGroupsW. -/
import Derived.Test.YtjknkfjhcapocaaJIphcGroupse
import Derived.Test.YtjknkfjhcapocaaJIphcGroupsd
import Derived.Test.YtjknkfjhcapocaaJIphcGroupsb
import Derived.Test.YtjknkfjhcapocaaJIphcGroupsc
import Derived.SizedLaws
import Derived.ChangeSlices
/- Layer 14 by AX2: Decode of the program. (Printed by gen/rddec.py.) -/
namespace Go.Proofs.Ytjknkfjhcapocaa.AX
open Go.RowKit
set_option linter.unusedVariables false
set_option linter.unusedSimpArgs false
set_option maxHeartbeats 8000000 in
set_option maxRecDepth 20000 in
theorem dec_ok0 (b : List Int) (f t : Adr) (l : List Ctx) (now : Int) (hb : BL b) (hbl : b.length ≤ 140737488355328) (hl : bytesL l) (hsk : bits .and .i64 (startF b 0).1.1.2.1 64 = 0 ∨ ¬ bits .and .i64 (shrI .i64 (startF b 0).1.1.2.1 4) 3 = 0) : PureOk Try.prog 60 [(cSl eB eB_sz).enc b, (cE eAdr).enc f, (cE eAdr).enc t, (cSl eCtx eCtx_sz).enc l, (cI .i64).enc now] (encDec (decI b f t l now)) := by
  have r0 : RdOk b 0 := ⟨hb, hbl, Int.le_refl 0, Int.natCast_nonneg _⟩
  have r1 := startF_r r0
  have r2 := fieldsD_r (x := (startF b 0).1.1.1) r1
  have sv := startF_v (q := 0) hb
  obtain ⟨W, hW⟩ : ∃ W, decI b f t l now = W := ⟨_, rfl⟩
  rw [hW]
  obtain ⟨Ck, eC⟩ : ∃ x, checkF f t l now = x := ⟨_, rfl⟩
  obtain ⟨S, eS⟩ : ∃ x, startF b 0 = x := ⟨_, rfl⟩
  rw [eS] at r1 r2 sv hsk
  obtain ⟨F, eF⟩ : ∃ x, fieldsD b S.1.1.1 S.2 = x := ⟨_, rfl⟩
  rw [eF] at r2
  have e0 : ¬ Ck = 0 → W = (((zeroH, []), 0), Ck) := fun h => by rw [← hW]; exact decI_0 eC h
  have e1 : Ck = 0 → ¬ S.1.2 = 0 → W = (((zeroH, []), 0), S.1.2) := fun h g => by rw [← hW]; exact decI_e (eC.trans h) (read_1 eS g) rfl g
  have e2 : Ck = 0 → S.1.2 = 0 → ¬ F.1.2 = 0 → W = (((zeroH, []), 0), F.1.2) := fun h g i => by rw [← hW]; exact decI_e (eC.trans h) (read_2 eS eF g i) rfl i
  obtain ⟨X, eU⟩ : ∃ x, uniD b (bits .and .i64 S.1.1.2.1 64 != 0) (bits .and .i64 (shrI .i64 S.1.1.2.1 4) 3) f (forDec l (shrI .i64 S.1.1.2.2 4) now) F.2 = x := ⟨_, rfl⟩
  have r3 : RdOk b X.2 := by rw [← eU]; exact uniD_r r2
  have hX : S.1.2 = 0 → srcD b S.1.1.2.1 S.1.1.2.2 f l now F.2 = X := fun g => by
    obtain ⟨p1, p2, p3, p4, p5, p6, p7⟩ := raw_of (sv g).y
    obtain ⟨_, _, _, _, _, p8, p9⟩ := raw_of (sv g).ids
    rw [← eU, p1, p4, p8]
    rw [p4] at hsk
    unfold srcD
    refine if_pos (hsk.imp (fun h => ?_) id)
    rw [← p1, h]
    rfl
  have rm : S.1.2 = 0 → (0 ≤ bits .and .i64 S.1.1.2.1 3 ∧ bits .and .i64 S.1.1.2.1 3 ≤ 3) ∧ 0 ≤ bits .and .i64 (shrI .i64 S.1.1.2.1 4) 3 ∧ bits .and .i64 (shrI .i64 S.1.1.2.1 4) 3 ≤ 3 := fun g => by
    obtain ⟨p1, p2, p3, p4, p5, p6, p7⟩ := raw_of (sv g).y
    rw [p4, p5]
    omega
  obtain ⟨G, eG⟩ : ∃ x, grpD b (bits .and .i64 S.1.1.2.1 3) X.2 = x := ⟨_, rfl⟩
  obtain ⟨D, eD⟩ : ∃ x, uniD b (bits .and .i64 S.1.1.2.1 4 != 0) (bits .and .i64 S.1.1.2.1 3) t (forDec l (bits .and .i64 S.1.1.2.2 15) now) X.2 = x := ⟨_, rfl⟩
  have hG : S.1.2 = 0 → ¬ bits .and .i64 S.1.1.2.1 8 = 0 → dstD b S.1.1.2.1 S.1.1.2.2 t l now X.2 = G := fun g k => by
    obtain ⟨p1, p2, p3, p4, p5, p6, p7⟩ := raw_of (sv g).y
    rw [← eG, p5]
    unfold dstD
    exact if_pos (p3.symm.trans (by simpa using k))
  have hD : S.1.2 = 0 → bits .and .i64 S.1.1.2.1 8 = 0 → dstD b S.1.1.2.1 S.1.1.2.2 t l now X.2 = D := fun g k => by
    obtain ⟨p1, p2, p3, p4, p5, p6, p7⟩ := raw_of (sv g).y
    obtain ⟨_, _, _, _, _, p8, p9⟩ := raw_of (sv g).ids
    rw [← eD, p2, p5, p9]
    unfold dstD
    refine if_neg (fun h => ?_)
    rw [← p3, k] at h
    cases h
  have e3 : Ck = 0 → S.1.2 = 0 → F.1.2 = 0 → ¬ X.1.2 = 0 → W = (((zeroH, []), 0), X.1.2) := fun h g i x => by rw [← hW]; exact decI_e (eC.trans h) (read_3 eS eF (hX g) g i x) rfl x
  have e4G : Ck = 0 → S.1.2 = 0 → F.1.2 = 0 → X.1.2 = 0 → ¬ bits .and .i64 S.1.1.2.1 8 = 0 → ¬ G.1.2 = 0 → W = (((zeroH, []), 0), G.1.2) := fun h g i x k m => by rw [← hW]; exact decI_e (eC.trans h) (read_4 eS eF (hX g) (hG g k) g i x m) rfl m
  have e5G : Ck = 0 → S.1.2 = 0 → F.1.2 = 0 → X.1.2 = 0 → ¬ bits .and .i64 S.1.1.2.1 8 = 0 → G.1.2 = 0 → W = ((({ F.1.1 with src := X.1.1, dst := G.1.1 }, []), G.2), 0) := fun h g i x k m => by rw [← hW]; exact decI_v (eC.trans h) (read_5 eS eF (hX g) (hG g k) g i x m)
  have e4D : Ck = 0 → S.1.2 = 0 → F.1.2 = 0 → X.1.2 = 0 → bits .and .i64 S.1.1.2.1 8 = 0 → ¬ D.1.2 = 0 → W = (((zeroH, []), 0), D.1.2) := fun h g i x k m => by rw [← hW]; exact decI_e (eC.trans h) (read_4 eS eF (hX g) (hD g k) g i x m) rfl m
  have e5D : Ck = 0 → S.1.2 = 0 → F.1.2 = 0 → X.1.2 = 0 → bits .and .i64 S.1.1.2.1 8 = 0 → D.1.2 = 0 → W = ((({ F.1.1 with src := X.1.1, dst := D.1.1 }, []), D.2), 0) := fun h g i x k m => by rw [← hW]; exact decI_v (eC.trans h) (read_5 eS eF (hX g) (hD g k) g i x m)
  clear hX hG hD hW
  have g1 : True := trivial
  have g2 : True := trivial
  have g3 : True := trivial
  have g4 : True := trivial
  have g5 : True := trivial
  have g6 : True := trivial
  have g7 : True := trivial
  refine pure_intro (wd := 8) (Q := mkQ LRd5) (by decide) tysOk (q_of LRd5_ok) mixed Try.func60 rfl _ (by show 5 ≤ _; decide) _ ?_
  repeat' (first | (apply And.intro <;> intro hc <;> (first | exact Bool.noConfusion hc | (exfalso; first | exact absurd rfl hc | exact absurd hc (by assumption) | exact absurd (by assumption) hc | exact hsk.elim (fun h => absurd h (by assumption)) (fun h => h hc)) | (simp only [decide_eq_true_eq, decide_eq_false_iff_not, Bool.not_eq_true', Bool.not_eq_false', beq_iff_eq, beq_eq_false_iff_ne, bne_iff_ne, bne_eq_false_iff_eq, Bool.true_eq_false, Bool.false_eq_true, ne_eq, not_true_eq_false] at hc <;> first | exact absurd rfl hc | (exfalso; first | exact absurd rfl hc | exact absurd hc (by assumption) | exact absurd (by assumption) hc | exact hsk.elim (fun h => absurd h (by assumption)) (fun h => h hc)) | skip) | skip)) | (refine And.intro (by first | exact trivial | decide | omega | (dsimp only; omega) | exact fun _ _ => rfl | exact ⟨by assumption, by first | exact trivial | decide | omega | (dsimp only; omega)⟩) ?_) | (apply And.intro) | (refine Exists.intro b (And.intro ⟨rfl, rfl, by first | exact r0 | exact ⟨by assumption, (sv (by assumption)).x⟩ | assumption | exact ⟨by assumption, (rm (by assumption)).1⟩ | exact ⟨by assumption, Eq.mp (congrArg bytesL (toL_ctx l).symm) hl, (rm (by assumption)).1⟩ | exact ⟨by assumption, Eq.mp (congrArg bytesL (toL_ctx l).symm) hl, (rm (by assumption)).2⟩⟩ ?_)) | (intro s hs; (first | (clear g1; have q : Ck = s := (hs.trans ((congr (congr (congrArg (fun a b c => checkF a b c now) (rd_adr f)) (rd_adr t)) (toL_ctx l)).trans eC)).symm; clear hs; subst q) | (clear g2; have q : S = s := (hs.trans eS).symm; clear hs; subst q) | (clear g3; have q : F = s := (hs.trans eF).symm; clear hs; subst q) | (clear g4; have q : X = s := (hs.trans ((congr (congrArg (fun k l => uniD b (bits .and .i64 S.1.1.2.1 64 != 0) (bits .and .i64 (shrI .i64 S.1.1.2.1 4) 3) k (forDec l (shrI .i64 S.1.1.2.2 4) now) F.2) (rd_adr f)) (toL_ctx l)).trans eU)).symm; clear hs; subst q) | (clear g5; have q : G = s := (hs.trans eG).symm; clear hs; subst q) | (clear g6; have q : D = s := (hs.trans ((congr (congrArg (fun k l => uniD b (bits .and .i64 S.1.1.2.1 4 != 0) (bits .and .i64 S.1.1.2.1 3) k (forDec l (bits .and .i64 S.1.1.2.2 15) now) X.2) (rd_adr t)) (toL_ctx l)).trans eD)).symm; clear hs; subst q) | skip)))
  all_goals try (first | exact rfl | exact Nat.le_of_ble_eq_true rfl | exact fun _ => rfl)
  all_goals first
    | (show (toL eCtx l.length _).length ≤ _; rw [toL_len]; have := hl.n; omega)
    | (rw [e0 (by assumption)]
       refine Done.mk (leF_tup ⟨leE_tail rfl (fun j hj => ?_) (leC_nils_sl rfl), leC_int rfl, leC_int rfl, trivial⟩)
       iterate 38 (rcases j with _ | j; exact leC_int rfl)
       exact absurd hj (by show ¬ _ < 38; omega))
    | (rw [e1 (by assumption) (by assumption)]
       refine Done.mk (leF_tup ⟨leE_tail rfl (fun j hj => ?_) (leC_nils_sl rfl), leC_int rfl, leC_int rfl, trivial⟩)
       iterate 38 (rcases j with _ | j; exact leC_int rfl)
       exact absurd hj (by show ¬ _ < 38; omega))
    | (rw [e2 (by assumption) (by assumption) (by assumption)]
       refine Done.mk (leF_tup ⟨leE_tail rfl (fun j hj => ?_) (leC_nils_sl rfl), leC_int rfl, leC_int rfl, trivial⟩)
       iterate 38 (rcases j with _ | j; exact leC_int rfl)
       exact absurd hj (by show ¬ _ < 38; omega))
    | (rw [e3 (by assumption) (by assumption) (by assumption) (by assumption)]
       refine Done.mk (leF_tup ⟨leE_tail rfl (fun j hj => ?_) (leC_nils_sl rfl), leC_int rfl, leC_int rfl, trivial⟩)
       iterate 38 (rcases j with _ | j; exact leC_int rfl)
       exact absurd hj (by show ¬ _ < 38; omega))
    | (rw [e4G (by assumption) (by assumption) (by assumption) (by assumption) (by assumption) (by assumption)]
       refine Done.mk (leF_tup ⟨leE_tail rfl (fun j hj => ?_) (leC_nils_sl rfl), leC_int rfl, leC_int rfl, trivial⟩)
       iterate 38 (rcases j with _ | j; exact leC_int rfl)
       exact absurd hj (by show ¬ _ < 38; omega))
    | (rw [e5G (by assumption) (by assumption) (by assumption) (by assumption) (by assumption) (by assumption)]
       refine Done.mk (leF_tup ⟨leE_tail rfl (fun j hj => ?_) (leC_nils_sl rfl), leC_int rfl, leC_int rfl, trivial⟩)
       iterate 38 (rcases j with _ | j; exact leC_int rfl)
       exact absurd hj (by show ¬ _ < 38; omega))
    | (rw [e4D (by assumption) (by assumption) (by assumption) (by assumption) (by assumption) (by assumption)]
       refine Done.mk (leF_tup ⟨leE_tail rfl (fun j hj => ?_) (leC_nils_sl rfl), leC_int rfl, leC_int rfl, trivial⟩)
       iterate 38 (rcases j with _ | j; exact leC_int rfl)
       exact absurd hj (by show ¬ _ < 38; omega))
    | (rw [e5D (by assumption) (by assumption) (by assumption) (by assumption) (by assumption) (by assumption)]
       refine Done.mk (leF_tup ⟨leE_tail rfl (fun j hj => ?_) (leC_nils_sl rfl), leC_int rfl, leC_int rfl, trivial⟩)
       iterate 38 (rcases j with _ | j; exact leC_int rfl)
       exact absurd hj (by show ¬ _ < 38; omega))
    | skip
set_option maxHeartbeats 8000000 in
set_option maxRecDepth 20000 in
theorem dec_ok1 (b : List Int) (f t : Adr) (l : List Ctx) (now : Int) (hb : BL b) (hbl : b.length ≤ 140737488355328) (hl : bytesL l) (hsk : ¬ bits .and .i64 (startF b 0).1.1.2.1 64 = 0 ∧ bits .and .i64 (shrI .i64 (startF b 0).1.1.2.1 4) 3 = 0) : PureOk Try.prog 60 [(cSl eB eB_sz).enc b, (cE eAdr).enc f, (cE eAdr).enc t, (cSl eCtx eCtx_sz).enc l, (cI .i64).enc now] (encDec (decI b f t l now)) := by
  have r0 : RdOk b 0 := ⟨hb, hbl, Int.le_refl 0, Int.natCast_nonneg _⟩
  have r1 := startF_r r0
  have r2 := fieldsD_r (x := (startF b 0).1.1.1) r1
  have sv := startF_v (q := 0) hb
  obtain ⟨W, hW⟩ : ∃ W, decI b f t l now = W := ⟨_, rfl⟩
  rw [hW]
  obtain ⟨Ck, eC⟩ : ∃ x, checkF f t l now = x := ⟨_, rfl⟩
  obtain ⟨S, eS⟩ : ∃ x, startF b 0 = x := ⟨_, rfl⟩
  rw [eS] at r1 r2 sv hsk
  obtain ⟨F, eF⟩ : ∃ x, fieldsD b S.1.1.1 S.2 = x := ⟨_, rfl⟩
  rw [eF] at r2
  have e0 : ¬ Ck = 0 → W = (((zeroH, []), 0), Ck) := fun h => by rw [← hW]; exact decI_0 eC h
  have e1 : Ck = 0 → ¬ S.1.2 = 0 → W = (((zeroH, []), 0), S.1.2) := fun h g => by rw [← hW]; exact decI_e (eC.trans h) (read_1 eS g) rfl g
  have e2 : Ck = 0 → S.1.2 = 0 → ¬ F.1.2 = 0 → W = (((zeroH, []), 0), F.1.2) := fun h g i => by rw [← hW]; exact decI_e (eC.trans h) (read_2 eS eF g i) rfl i
  have r3 := r2
  have hs0 : F.1.1.src = zeroA := by rw [← eF]; exact fieldsD_src b _ _
  have hX : S.1.2 = 0 → srcD b S.1.1.2.1 S.1.1.2.2 f l now F.2 = ((zeroA, 0), F.2) := fun g => by
    obtain ⟨p1, p2, p3, p4, p5, p6, p7⟩ := raw_of (sv g).y
    rw [p4] at hsk
    unfold srcD
    refine if_neg (fun h => h.elim (fun h => ?_) (fun h => h hsk.2))
    rw [← p1] at h
    exact hsk.1 (by simpa using h)
  have rm : S.1.2 = 0 → (0 ≤ bits .and .i64 S.1.1.2.1 3 ∧ bits .and .i64 S.1.1.2.1 3 ≤ 3) ∧ 0 ≤ bits .and .i64 (shrI .i64 S.1.1.2.1 4) 3 ∧ bits .and .i64 (shrI .i64 S.1.1.2.1 4) 3 ≤ 3 := fun g => by
    obtain ⟨p1, p2, p3, p4, p5, p6, p7⟩ := raw_of (sv g).y
    rw [p4, p5]
    omega
  obtain ⟨G, eG⟩ : ∃ x, grpD b (bits .and .i64 S.1.1.2.1 3) F.2 = x := ⟨_, rfl⟩
  obtain ⟨D, eD⟩ : ∃ x, uniD b (bits .and .i64 S.1.1.2.1 4 != 0) (bits .and .i64 S.1.1.2.1 3) t (forDec l (bits .and .i64 S.1.1.2.2 15) now) F.2 = x := ⟨_, rfl⟩
  have hG : S.1.2 = 0 → ¬ bits .and .i64 S.1.1.2.1 8 = 0 → dstD b S.1.1.2.1 S.1.1.2.2 t l now F.2 = G := fun g k => by
    obtain ⟨p1, p2, p3, p4, p5, p6, p7⟩ := raw_of (sv g).y
    rw [← eG, p5]
    unfold dstD
    exact if_pos (p3.symm.trans (by simpa using k))
  have hD : S.1.2 = 0 → bits .and .i64 S.1.1.2.1 8 = 0 → dstD b S.1.1.2.1 S.1.1.2.2 t l now F.2 = D := fun g k => by
    obtain ⟨p1, p2, p3, p4, p5, p6, p7⟩ := raw_of (sv g).y
    obtain ⟨_, _, _, _, _, p8, p9⟩ := raw_of (sv g).ids
    rw [← eD, p2, p5, p9]
    unfold dstD
    refine if_neg (fun h => ?_)
    rw [← p3, k] at h
    cases h
  have e4G : Ck = 0 → S.1.2 = 0 → F.1.2 = 0 → ¬ bits .and .i64 S.1.1.2.1 8 = 0 → ¬ G.1.2 = 0 → W = (((zeroH, []), 0), G.1.2) := fun h g i k m => by rw [← hW]; exact decI_e (eC.trans h) (read_4 eS eF (hX g) (hG g k) g i rfl m) rfl m
  have e5G : Ck = 0 → S.1.2 = 0 → F.1.2 = 0 → ¬ bits .and .i64 S.1.1.2.1 8 = 0 → G.1.2 = 0 → W = ((({ F.1.1 with src := F.1.1.src, dst := G.1.1 }, []), G.2), 0) := fun h g i k m => by rw [← hW, hs0]; exact decI_v (eC.trans h) (read_5 eS eF (hX g) (hG g k) g i rfl m)
  have e4D : Ck = 0 → S.1.2 = 0 → F.1.2 = 0 → bits .and .i64 S.1.1.2.1 8 = 0 → ¬ D.1.2 = 0 → W = (((zeroH, []), 0), D.1.2) := fun h g i k m => by rw [← hW]; exact decI_e (eC.trans h) (read_4 eS eF (hX g) (hD g k) g i rfl m) rfl m
  have e5D : Ck = 0 → S.1.2 = 0 → F.1.2 = 0 → bits .and .i64 S.1.1.2.1 8 = 0 → D.1.2 = 0 → W = ((({ F.1.1 with src := F.1.1.src, dst := D.1.1 }, []), D.2), 0) := fun h g i k m => by rw [← hW, hs0]; exact decI_v (eC.trans h) (read_5 eS eF (hX g) (hD g k) g i rfl m)
  clear hX hG hD hW
  have g1 : True := trivial
  have g2 : True := trivial
  have g3 : True := trivial
  have g4 : True := trivial
  have g5 : True := trivial
  have g6 : True := trivial
  have g7 : True := trivial
  refine pure_intro (wd := 8) (Q := mkQ LRd5) (by decide) tysOk (q_of LRd5_ok) mixed Try.func60 rfl _ (by show 5 ≤ _; decide) _ ?_
  repeat' (first | (apply And.intro <;> intro hc <;> (first | exact Bool.noConfusion hc | (exfalso; first | exact absurd rfl hc | exact absurd hc (by assumption) | exact absurd (by assumption) hc | exact absurd hc hsk.1 | exact absurd hsk.2 hc) | (simp only [decide_eq_true_eq, decide_eq_false_iff_not, Bool.not_eq_true', Bool.not_eq_false', beq_iff_eq, beq_eq_false_iff_ne, bne_iff_ne, bne_eq_false_iff_eq, Bool.true_eq_false, Bool.false_eq_true, ne_eq, not_true_eq_false] at hc <;> first | exact absurd rfl hc | (exfalso; first | exact absurd rfl hc | exact absurd hc (by assumption) | exact absurd (by assumption) hc | exact absurd hc hsk.1 | exact absurd hsk.2 hc) | skip) | skip)) | (refine And.intro (by first | exact trivial | decide | omega | (dsimp only; omega) | exact fun _ _ => rfl | exact ⟨by assumption, by first | exact trivial | decide | omega | (dsimp only; omega)⟩) ?_) | (apply And.intro) | (refine Exists.intro b (And.intro ⟨rfl, rfl, by first | exact r0 | exact ⟨by assumption, (sv (by assumption)).x⟩ | assumption | exact ⟨by assumption, (rm (by assumption)).1⟩ | exact ⟨by assumption, Eq.mp (congrArg bytesL (toL_ctx l).symm) hl, (rm (by assumption)).1⟩ | exact ⟨by assumption, Eq.mp (congrArg bytesL (toL_ctx l).symm) hl, (rm (by assumption)).2⟩⟩ ?_)) | (intro s hs; (first | (clear g1; have q : Ck = s := (hs.trans ((congr (congr (congrArg (fun a b c => checkF a b c now) (rd_adr f)) (rd_adr t)) (toL_ctx l)).trans eC)).symm; clear hs; subst q) | (clear g2; have q : S = s := (hs.trans eS).symm; clear hs; subst q) | (clear g3; have q : F = s := (hs.trans eF).symm; clear hs; subst q) | (clear g5; have q : G = s := (hs.trans eG).symm; clear hs; subst q) | (clear g6; have q : D = s := (hs.trans ((congr (congrArg (fun k l => uniD b (bits .and .i64 S.1.1.2.1 4 != 0) (bits .and .i64 S.1.1.2.1 3) k (forDec l (bits .and .i64 S.1.1.2.2 15) now) F.2) (rd_adr t)) (toL_ctx l)).trans eD)).symm; clear hs; subst q) | skip)))
  all_goals try (first | exact rfl | exact Nat.le_of_ble_eq_true rfl | exact fun _ => rfl)
  all_goals first
    | (show (toL eCtx l.length _).length ≤ _; rw [toL_len]; have := hl.n; omega)
    | (rw [e0 (by assumption)]
       refine Done.mk (leF_tup ⟨leE_tail rfl (fun j hj => ?_) (leC_nils_sl rfl), leC_int rfl, leC_int rfl, trivial⟩)
       iterate 38 (rcases j with _ | j; exact leC_int rfl)
       exact absurd hj (by show ¬ _ < 38; omega))
    | (rw [e1 (by assumption) (by assumption)]
       refine Done.mk (leF_tup ⟨leE_tail rfl (fun j hj => ?_) (leC_nils_sl rfl), leC_int rfl, leC_int rfl, trivial⟩)
       iterate 38 (rcases j with _ | j; exact leC_int rfl)
       exact absurd hj (by show ¬ _ < 38; omega))
    | (rw [e2 (by assumption) (by assumption) (by assumption)]
       refine Done.mk (leF_tup ⟨leE_tail rfl (fun j hj => ?_) (leC_nils_sl rfl), leC_int rfl, leC_int rfl, trivial⟩)
       iterate 38 (rcases j with _ | j; exact leC_int rfl)
       exact absurd hj (by show ¬ _ < 38; omega))
    | (rw [e4G (by assumption) (by assumption) (by assumption) (by assumption) (by assumption)]
       refine Done.mk (leF_tup ⟨leE_tail rfl (fun j hj => ?_) (leC_nils_sl rfl), leC_int rfl, leC_int rfl, trivial⟩)
       iterate 38 (rcases j with _ | j; exact leC_int rfl)
       exact absurd hj (by show ¬ _ < 38; omega))
    | (rw [e5G (by assumption) (by assumption) (by assumption) (by assumption) (by assumption)]
       refine Done.mk (leF_tup ⟨leE_tail rfl (fun j hj => ?_) (leC_nils_sl rfl), leC_int rfl, leC_int rfl, trivial⟩)
       iterate 38 (rcases j with _ | j; exact leC_int rfl)
       exact absurd hj (by show ¬ _ < 38; omega))
    | (rw [e4D (by assumption) (by assumption) (by assumption) (by assumption) (by assumption)]
       refine Done.mk (leF_tup ⟨leE_tail rfl (fun j hj => ?_) (leC_nils_sl rfl), leC_int rfl, leC_int rfl, trivial⟩)
       iterate 38 (rcases j with _ | j; exact leC_int rfl)
       exact absurd hj (by show ¬ _ < 38; omega))
    | (rw [e5D (by assumption) (by assumption) (by assumption) (by assumption) (by assumption)]
       refine Done.mk (leF_tup ⟨leE_tail rfl (fun j hj => ?_) (leC_nils_sl rfl), leC_int rfl, leC_int rfl, trivial⟩)
       iterate 38 (rcases j with _ | j; exact leC_int rfl)
       exact absurd hj (by show ¬ _ < 38; omega))
    | skip
theorem decodeI_ok (b : List Int) (f t : Adr) (l : List Ctx) (now : Int) (hb : BL b) (hbl : b.length ≤ 140737488355328) (hl : bytesL l) : PureOk Try.prog 60 [(cSl eB eB_sz).enc b, (cE eAdr).enc f, (cE eAdr).enc t, (cSl eCtx eCtx_sz).enc l, (cI .i64).enc now] (encDec (decI b f t l now)) := by
  by_cases h : ¬ bits .and .i64 (startF b 0).1.1.2.1 64 = 0 ∧ bits .and .i64 (shrI .i64 (startF b 0).1.1.2.1 4) 3 = 0
  · exact dec_ok1 b f t l now hb hbl hl h
  · refine dec_ok0 b f t l now hb hbl hl ?_
    by_cases h1 : bits .and .i64 (startF b 0).1.1.2.1 64 = 0
    · exact .inl h1
    · exact .inr fun h2 => h ⟨h1, h2⟩
abbrev decIE : Entry := pureE (AC.cons (cSl eB eB_sz) (AC.cons (cE eAdr) (AC.cons (cE eAdr) (AC.cons (cSl eCtx eCtx_sz) (AC.cons (cI .i64) AC.nil))))) (fun a => BL a.1 ∧ a.1.length ≤ 140737488355328 ∧ bytesL a.2.2.2.1) (fun a => decI a.1 a.2.1 a.2.2.1 a.2.2.2.1 a.2.2.2.2.1) encDec
theorem decIE_ok : EntOk Try.prog 60 decIE := pureE_ok ⟨_, Try.func60, rfl, by kernel_rfl⟩ fun a h => decodeI_ok a.1 a.2.1 a.2.2.1 a.2.2.2.1 a.2.2.2.2.1 h.1 h.2.1 h.2.2
end Go.Proofs.Ytjknkfjhcapocaa.AX
/- The reference of layer 12: ForCompression (by AX2). -/
namespace Go.Proofs.Ytjknkfjhcapocaa.AX
open Go.RowKit
set_option linter.unusedVariables false
set_option linter.unusedSimpArgs false
structure FcS (l : List Ctx) (a : Fin 16 → Int) (now : Int) where
  i : Nat
  best : Ctx
  found : Bool
  hi : i ≤ l.length
  h1 : validT l = true ∧ vt now = true → foldC a now (default, false) l = foldC a now (best, found) (l.drop i)
  h2 : ¬ (validT l = true ∧ vt now = true) → (best, found) = (default, false)
end Go.Proofs.Ytjknkfjhcapocaa.AX
/- Addresses of the reference by AX2: Split, Join, LinkLocal. -/
namespace Go.Proofs.Ytjknkfjhcapocaa.AX
open Go.RowKit
set_option linter.unusedVariables false
set_option linter.unusedSimpArgs false
theorem split_step {l : List Int} (hl : BL l) {i : Nat} (hi : i < l.length) (h8 : i < 8) {v : Int} (hv : v = l.getD i default) : IntKind.u64.wrap (shlI .u64 (beVal (l.take i)) 8 + IntKind.u64.wrap v) = beVal (l.take (i + 1)) := by
  have hb := beVal_lt (l.take i) (hl.take i)
  have hp := pow256_le (show (l.take i).length ≤ 7 by simp; omega)
  have hx := hl.get i
  rw [hv, shl8 _ ⟨hb.1, by omega⟩, show IntKind.u64.wrap (l.getD i default) = l.getD i default from IntWalk.u64_in _ (by omega), IntWalk.u64_in _ (by omega), take_snocI hi, beVal_snoc]
set_option maxRecDepth 20000 in
theorem rsplit_ok (a : Fin 16 → Int) (ha : byteOk a) : PureOk Try.prog 87 [(cE (eA .u8 16)).enc a] (encUU (splF a)) := by
  have hA := ipBL ha
  have hD := (ipBL ha).drop 8
  refine pure_intro (wd := 1) (Q := mkQ LE0) (by decide) tysOk (q_of LE0_ok) mixed Try.func87 rfl _ (by show 1 ≤ _; decide) _ ?_
  refine loop_intro (mono_of LE0_ok) (fun s : {i : Nat // i ≤ 8} => (⟨[(1, one (.ptr 0 0 0 false)), (4, one (.int .u64 (beVal ((ipL a).take s.1)))), (5, one (.int .u64 (beVal (((ipL a).drop 8).take s.1)))), (6, one (.int .i64 (s.1 : Int)))], [(0, some ⟨24, 1, 16, true, fun _ => (eA .u8 16).cell a⟩)], 6⟩ : Hd)) (fun s => 8 - s.1) (fun _ => rfl) ?_ ⟨0, by omega⟩ [] ?_
  · rintro ⟨i, hi⟩
    dsimp only at hi ⊢
    have h8 : IntKind.i64.wrap (8 + (i : Int)) = 8 + i := IntWalk.i64_in _ (by omega)
    repeat' (first | (apply And.intro <;> intro hc <;> (first | exact Bool.noConfusion hc | (simp only [decide_eq_true_eq, decide_eq_false_iff_not, Bool.not_eq_true', Bool.not_eq_false', beq_iff_eq, beq_eq_false_iff_ne, bne_iff_ne, bne_eq_false_iff_eq, Bool.true_eq_false, Bool.false_eq_true] at hc) | skip)) | (refine And.intro (by first | exact trivial | decide | omega | (dsimp only; omega) | exact fun _ _ => rfl) ?_) | (apply And.intro) | (intro s hs))
    all_goals first
      | (refine ⟨⟨i + 1, by omega⟩, [], by dsimp only; omega, rfl, ?_, ?_⟩
         · repeat' (first | exact trivial | exact rfl | exact leF_ptr rfl | exact leF_int rfl | exact leF_bool rfl | exact leF_cl (cl_slB _ _) | exact leF_cl (cl_slR _ _) | exact leF_cl (cl_ll _ _) | exact leF_c (leC_os rfl rfl) | refine leF_int ?_ | refine leF_bool ?_ | exact leN_varA (fun _ _ => (Elem.flat _ _ _).le) | exact leN_varA (fun _ _ => leC_top) | apply And.intro)
           · exact split_step hA (by rw [ipL_len]; omega) (by omega) (by rw [ipL_get a (by omega)]; exact congrArg (vget a) (by omega))
           · exact split_step hD (by rw [List.length_drop, ipL_len]; omega) (by omega) (by rw [getD_dropI, ipL_get a (by omega)]; exact congrArg (vget a) (by rw [h8]; omega))
           · first | (dsimp only; rw [IntWalk.i64_in _ (by omega)]; omega) | (dsimp only; rw [IntWalk.i64_in _ (by omega)]; done) | (dsimp only; exact IntWalk.i64_in _ (by omega)) | exact IntWalk.i64_in _ (by omega) | (rw [IntWalk.i64_in _ (by omega)]; omega)
         · repeat' (first | exact trivial | exact rfl | exact leF_ptr rfl | exact leF_int rfl | exact leF_bool rfl | exact leF_cl (cl_slB _ _) | exact leF_cl (cl_slR _ _) | exact leF_cl (cl_ll _ _) | exact leF_c (leC_os rfl rfl) | refine leF_int ?_ | refine leF_bool ?_ | exact leN_varA (fun _ _ => (Elem.flat _ _ _).le) | exact leN_varA (fun _ _ => leC_top) | apply And.intro)
           done)
      | skip
    · have h8' : i = 8 := by omega
      subst h8'
      refine Done.mk (leF_tup ⟨leC_int rfl, leC_int ?_, trivial⟩)
      show beVal (((ipL a).drop 8).take 8) = beVal ((ipL a).drop 8)
      rw [List.take_of_length_le (by rw [List.length_drop, ipL_len]; decide)]
  · refine ⟨rfl, ?_, ?_⟩
    · repeat' (first | exact trivial | exact rfl | exact leF_ptr rfl | exact leF_int rfl | exact leF_bool rfl | exact leF_cl (cl_slB _ _) | exact leF_cl (cl_slR _ _) | exact leF_cl (cl_ll _ _) | exact leF_c (leC_os rfl rfl) | refine leF_int ?_ | refine leF_bool ?_ | exact leN_varA (fun _ _ => (Elem.flat _ _ _).le) | exact leN_varA (fun _ _ => leC_top) | apply And.intro)
    · repeat' (first | exact trivial | exact rfl | exact leF_ptr rfl | exact leF_int rfl | exact leF_bool rfl | exact leF_cl (cl_slB _ _) | exact leF_cl (cl_slR _ _) | exact leF_cl (cl_ll _ _) | exact leF_c (leC_os rfl rfl) | refine leF_int ?_ | refine leF_bool ?_ | exact leN_varA (fun _ _ => (Elem.flat _ _ _).le) | exact leN_varA (fun _ _ => leC_top) | apply And.intro)
def LRa0 : CsL := (87, some (pureE aIp (fun a => byteOk a.1) (fun a => splF a.1) encUU)) :: LT2
theorem LRa0_ok : AllOk Try.prog LRa0 := ⟨pureE_ok ⟨_, Try.func87, rfl, by kernel_rfl⟩ fun a h => rsplit_ok a.1 h, LT2_ok⟩
theorem pfx_ip (p : Pfx) : ((eA .u8 16).rd fun q => ePfx.cell p (0 + 0 + q)) = p.ip := by
  funext q
  show valI (ePfx.cell p (0 + 0 + q.1)) = p.ip q
  rw [show 0 + 0 + q.1 = 0 + q.1 by omega, ePfx_ip_at _ _ q.2]
  exact vget_lt _ q.2
set_option maxRecDepth 20000 in
set_option maxHeartbeats 4000000 in
theorem rjoin_ok (p : Pfx) (y : Int) (hp : byteOk p.ip) : PureOk Try.prog 47 [(cE ePfx).enc p, (cI .u64).enc y] (encIpB (joinF p y)) := by
  have hO := of_hi hp y
  obtain ⟨J, eJ⟩ : ∃ J, joinF p y = J := ⟨_, rfl⟩
  rw [eJ]
  unfold joinF at eJ
  obtain ⟨K, eK⟩ : ∃ K, jn p.ip y = K := ⟨_, rfl⟩
  rw [eK] at eJ hO
  obtain ⟨Hi, eHi⟩ : ∃ x, hiF p.ip = x := ⟨_, rfl⟩
  rw [eHi] at hO
  have eS : splF p.ip = (Hi, loF p.ip) := by unfold splF; rw [eHi]
  obtain ⟨V, eV⟩ : ∃ x, vpf p = x := ⟨_, rfl⟩
  rw [eV] at eJ
  refine pure_intro (wd := 1) (Q := mkQ LRa0) (by decide) tysOk (q_of LRa0_ok) mixed Try.func47 rfl _ (by show 2 ≤ _; decide) _ ?_
  repeat' (first | (apply And.intro <;> intro hc <;> (first | exact Bool.noConfusion hc | (simp only [decide_eq_true_eq, decide_eq_false_iff_not, Bool.not_eq_true', Bool.not_eq_false', beq_iff_eq, beq_eq_false_iff_ne, bne_iff_ne, bne_eq_false_iff_eq, Bool.true_eq_false, Bool.false_eq_true, ne_eq, not_true_eq_false] at hc <;> first | exact absurd rfl hc | skip) | skip)) | (refine And.intro (by first | exact trivial | decide | omega | (dsimp only; omega) | exact fun _ _ => rfl | exact ⟨by assumption, by first | exact trivial | decide | omega | (dsimp only; omega)⟩) ?_) | (apply And.intro) | (intro s hs; (first | (have q : V = s := (hs.trans ((congrArg vpf (rd_pfx p)).trans eV)).symm; clear hs; subst q) | (have q : s = (Hi, loF p.ip) := hs.trans ((congrArg splF (pfx_ip p)).trans eS); clear hs; subst q) | (have q : K = s := (hs.trans hO).symm; clear hs; subst q))))
  all_goals first
    | exact Eq.mp (congrArg (fun p : Pfx => byteOk p.ip) (rd_pfx p).symm) hp
    | exact Eq.mp (congrArg byteOk (pfx_ip p).symm) hp
    | (have e : J = (zeroA, false) := by rw [← eJ]; exact if_neg (fun h => Bool.noConfusion (h.1.symm.trans (by assumption)))
       rw [e]
       exact Done.mk (leF_tup ⟨leE_all (by repeat' (first | exact trivial | exact rfl | exact leC_int rfl | exact leC_bool rfl | refine leE_all ?_ | exact leC_bool (by assumption) | apply And.intro)), leC_bool rfl, trivial⟩))
    | (have e : J = (zeroA, false) := by rw [← eJ]; exact if_neg (fun h => by have := h.2; omega)
       rw [e]
       exact Done.mk (leF_tup ⟨leE_all (by repeat' (first | exact trivial | exact rfl | exact leC_int rfl | exact leC_bool rfl | refine leE_all ?_ | exact leC_bool (by assumption) | apply And.intro)), leC_bool rfl, trivial⟩))
    | (have e : J = (K, true) := by rw [← eJ]; exact if_pos ⟨by assumption, by omega⟩
       rw [e]
       exact Done.mk (leF_tup ⟨leE_all (by repeat' (first | exact trivial | exact rfl | exact leC_int rfl | exact leC_bool rfl | refine leE_all ?_ | exact leC_bool (by assumption) | apply And.intro)), leC_bool rfl, trivial⟩))
    | skip
def linkF (a : Adr) : (Fin 16 → Int) × Bool := if (iidF a).2 = true then (jn llP.ip (iidF a).1, true) else (zeroA, false)
set_option maxRecDepth 20000 in
set_option maxHeartbeats 4000000 in
theorem rlink_ok (a : Adr) : PureOk Try.prog 44 [(cE eAdr).enc a] (encIpB (linkF a)) := by
  obtain ⟨J, eJ⟩ : ∃ J, linkF a = J := ⟨_, rfl⟩
  rw [eJ]
  unfold linkF at eJ
  obtain ⟨I, eI⟩ : ∃ x, iidF a = x := ⟨_, rfl⟩
  rw [eI] at eJ
  have hO := llP_of I.1
  obtain ⟨K, eK⟩ : ∃ K, jn llP.ip I.1 = K := ⟨_, rfl⟩
  rw [eK] at eJ hO
  refine pure_intro (wd := 1) (Q := mkQ LRa0) (by decide) tysOk (q_of LRa0_ok) mixed Try.func44 rfl _ (by show 1 ≤ _; decide) _ ?_
  repeat' (first | (apply And.intro <;> intro hc <;> (first | exact Bool.noConfusion hc | (simp only [decide_eq_true_eq, decide_eq_false_iff_not, Bool.not_eq_true', Bool.not_eq_false', beq_iff_eq, beq_eq_false_iff_ne, bne_iff_ne, bne_eq_false_iff_eq, Bool.true_eq_false, Bool.false_eq_true, ne_eq, not_true_eq_false] at hc <;> first | exact absurd rfl hc | skip) | skip)) | (refine And.intro (by first | exact trivial | decide | omega | (dsimp only; omega) | exact fun _ _ => rfl | exact ⟨by assumption, by first | exact trivial | decide | omega | (dsimp only; omega)⟩) ?_) | (apply And.intro) | (intro s hs; (first | (have q : I = s := (hs.trans ((congrArg iidF (rd_adr a)).trans eI)).symm; clear hs; subst q) | (have q : K = s := (hs.trans hO).symm; clear hs; subst q))))
  all_goals first
    | (have e : J = (zeroA, false) := by rw [← eJ]; exact if_neg (fun h => Bool.noConfusion (h.symm.trans (by assumption : I.2 = false)))
       rw [e]
       exact Done.mk (leF_tup ⟨leE_all (by repeat' (first | exact trivial | exact rfl | exact leC_int rfl | exact leC_bool rfl | refine leE_all ?_ | exact leC_bool (by assumption) | apply And.intro)), leC_bool rfl, trivial⟩))
    | (have e : J = (K, true) := by rw [← eJ]; exact if_pos (by assumption)
       rw [e]
       exact Done.mk (leF_tup ⟨leE_all (by repeat' (first | exact trivial | exact rfl | exact leC_int rfl | exact leC_bool rfl | refine leE_all ?_ | exact leC_bool (by assumption) | apply And.intro)), leC_bool rfl, trivial⟩))
    | skip
def LRa : CsL := (44, some (pureE (AC.cons (cE eAdr) AC.nil) (fun _ => True) (fun a => linkF a.1) encIpB)) ::
  (47, some (pureE (AC.cons (cE ePfx) (AC.cons (cI .u64) AC.nil)) (fun a => byteOk a.1.ip) (fun a => joinF a.1 a.2.1) encIpB)) :: LRa0
theorem LRa_ok : AllOk Try.prog LRa := ⟨pureE_ok ⟨_, Try.func44, rfl, by kernel_rfl⟩ fun a _ => rlink_ok a.1, pureE_ok ⟨_, Try.func47, rfl, by kernel_rfl⟩ fun a h => rjoin_ok a.1 a.2.1 h, LRa0_ok⟩
end Go.Proofs.Ytjknkfjhcapocaa.AX

/- The reference of layer 14 by AX2: zeros, multicast, unicast. -/
namespace Go.Proofs.Ytjknkfjhcapocaa.AX
open Go.RowKit
set_option linter.unusedVariables false
set_option linter.unusedSimpArgs false
structure RzS (a : Fin 16 → Int) (i j : Nat) where
  k : Nat
  hk : i ≤ k ∧ k ≤ j
  h : ∀ q, i ≤ q → q < k → vget a q = 0
end Go.Proofs.Ytjknkfjhcapocaa.AX

/- The reference's reader of layer 14: entries; fail, take, uint. -/
namespace Go.Proofs.Ytjknkfjhcapocaa.AX
open Go.RowKit
set_option linter.unusedVariables false
set_option linter.unusedSimpArgs false
/-! ### fail, take, uint -/
def failS (e : Int) (bad : Bool) (c : Int) : Int := if bad = true ∧ e = 0 then c else e
end Go.Proofs.Ytjknkfjhcapocaa.AX



/- Reading step by step: the invariant of the reference's reader. -/
namespace Go.Proofs.Ytjknkfjhcapocaa.AX
open Go.RowKit
set_option linter.unusedVariables false
set_option linter.unusedSimpArgs false
/-- The whole reading R: as long as there is no error, it is what is left to read; else its error is e. -/
structure J (R : RD Hdr) (e : Int) (rest : RD Hdr) : Prop where
  ok : e = 0 → R = rest
  err : e ≠ 0 → R.1.2 = e
section
variable {R : RD Hdr} {b : List Int} {e q : Int}
end
/-! ### The reading, stage by stage -/
section
variable (b : List Int) (f t : Adr) (l : List Ctx) (now : Int)
def K2 (y ids : Int) (h : Hdr) (q : Int) : RD Hdr := thenD (dstD b y ids t l now q) zeroH fun dst q => (({ h with dst := dst }, 0), q)
def K1 (y ids : Int) (h : Hdr) (q : Int) : RD Hdr := thenD (srcD b y ids f l now q) zeroH fun src q => K2 b t l now y ids { h with src := src } q
def KH (x y ids c fl nx q : Int) : RD Hdr := thenD (if x % 4 = 0 then numF b q 1 else ((hopV (x % 4), 0), q)) zeroH fun hp q => K1 b f t l now y ids ⟨c, fl, nx, hp, zeroA, zeroA, 0, 0⟩ q
def KN (x y ids c fl q : Int) : RD Hdr := thenD (if x / 4 % 2 = 0 then numF b q 1 else ((17, 0), q)) zeroH fun nx q => if x / 4 % 2 = 0 ∧ nx = 17 then ((zeroH, 5), q) else KH b f t l now x y ids c fl nx q
def KL (x y ids c fl q : Int) : RD Hdr := if 1048575 < fl then ((zeroH, 5), q) else KN b f t l now x y ids c fl q
def K0 (x y ids q : Int) : RD Hdr :=
  thenD (if x / 8 % 4 = 0 ∨ x / 8 % 4 = 2 then numF b q 1 else ((0, 0), q)) zeroH fun c q =>
  thenD (if x / 8 % 4 = 0 ∨ x / 8 % 4 = 1 then numF b q 3 else ((0, 0), q)) zeroH fun fl q => KL b f t l now x y ids c fl q
def KI (x y q : Int) : RD Hdr := if 128 ≤ y then thenD (numF b q 1) zeroH fun i q => K0 b f t l now x y i q else K0 b f t l now x y 0 q
end
end Go.Proofs.Ytjknkfjhcapocaa.AX


/- The reference of layer 14: Decode. (Printed by gen/redec.py.) -/
namespace Go.Proofs.Ytjknkfjhcapocaa.AX
open Go.RowKit
set_option linter.unusedVariables false
set_option linter.unusedSimpArgs false
section
variable (b : List Int) (f t : Adr) (l : List Ctx) (now : Int)
structure RS1 where
  x : Int
  q : Int
  e : Int
  hr : RdOk b q
  hx : 0 ≤ x ∧ x < 256
  j : J (readD b f t l now) e (thenD (numF b q 1) zeroH fun y q => if badY y = true then ((zeroH, 5), q) else KI b f t l now x y q)
structure RS2 where
  x : Int
  y : Int
  q : Int
  e : Int
  hr : RdOk b q
  hx : 0 ≤ x ∧ x < 256
  hy : 0 ≤ y ∧ y < 256
  j : J (readD b f t l now) e (KI b f t l now x y q)
structure RS3 where
  x : Int
  y : Int
  ids : Int
  q : Int
  e : Int
  hr : RdOk b q
  hx : 0 ≤ x ∧ x < 256
  hy : 0 ≤ y ∧ y < 256
  hi : 0 ≤ ids ∧ ids < 256
  j : J (readD b f t l now) e (K0 b f t l now x y ids q)
structure RS4 where
  x : Int
  y : Int
  ids : Int
  c : Int
  fl : Int
  q : Int
  e : Int
  hr : RdOk b q
  hx : 0 ≤ x ∧ x < 256
  hy : 0 ≤ y ∧ y < 256
  hi : 0 ≤ ids ∧ ids < 256
  hf : 0 ≤ fl ∧ fl < 16777216
  j : J (readD b f t l now) e (KL b f t l now x y ids c fl q)
structure RS5 where
  x : Int
  y : Int
  ids : Int
  c : Int
  fl : Int
  nx : Int
  q : Int
  e : Int
  hr : RdOk b q
  hx : 0 ≤ x ∧ x < 256
  hy : 0 ≤ y ∧ y < 256
  hi : 0 ≤ ids ∧ ids < 256
  j : J (readD b f t l now) e (KH b f t l now x y ids c fl nx q)
structure RS6 where
  y : Int
  ids : Int
  h : Hdr
  q : Int
  e : Int
  hr : RdOk b q
  hy : 0 ≤ y ∧ y < 256
  hi : 0 ≤ ids ∧ ids < 256
  hs : h.src = zeroA
  hd : h.dst = zeroA
  j : J (readD b f t l now) e (K1 b f t l now y ids h q)
structure RS7 where
  y : Int
  ids : Int
  h : Hdr
  q : Int
  e : Int
  hr : RdOk b q
  hy : 0 ≤ y ∧ y < 256
  hi : 0 ≤ ids ∧ ids < 256
  hd : h.dst = zeroA
  j : J (readD b f t l now) e (K2 b t l now y ids h q)
structure RS8 where
  y : Int
  h : Hdr
  q : Int
  e : Int
  hr : RdOk b q
  hy : 0 ≤ y ∧ y < 256
  j : J (readD b f t l now) (failS e (mcast h.dst != bitAt y 8) 5) ((h, 0), q)
end
end Go.Proofs.Ytjknkfjhcapocaa.AX













/- What the maker Packet draws from a tape. -/
namespace Go.Proofs.Ytjknkfjhcapocaa.AX
open Go.RowKit
set_option linter.unusedVariables false
set_option linter.unusedSimpArgs false
theorem fin_mk {n : Nat} {l : List Int} {H : Hp} {g : Nat → CV} {m : Nat} (cls flow nxt hops : Int) (src dst : Fin 16 → Int) (sp dp : Int) (pay : List Int) (q : Int) (hm : m = 39)
    (hc : ∀ j, j < 38 → LeC ⟨H, [(0, some (tapeN n (rI l) q))], [], 1, true⟩ (g j) (eHd.cell ⟨cls, flow, nxt, hops, src, dst, sp, dp⟩ j))
    (hl : LeC ⟨H, [(0, some (tapeN n (rI l) q))], [], 1, true⟩ (g 38) (slR eB pay))
    (hE : WkE ⟨H, [(0, some (tapeN n (rI l) q))], [], 1, true⟩ (tapeN n (rI l) q) (some 0)) (hT : TapeOk n (rI l) q) (hP : PkM (⟨cls, flow, nxt, hops, src, dst, sp, dp⟩, pay)) :
    ∃ r : Pkt × Int, (PkM r.1 ∧ TapeOk n (rI l) r.2) ∧ FinM (.e (tailR eHd eB r.1)) (tapeN n (rI l) r.2) (.e (.agg m g)) H :=
  ⟨((⟨cls, flow, nxt, hops, src, dst, sp, dp⟩, pay), q), ⟨hP, hT⟩, ⟨leF_e (leE_tail hm hc hl), hE⟩⟩
theorem sz_r (p : Pkt) (h : p.2.length = 0) : sizeP p = 40 ∨ sizeP p = 48 := by
  unfold sizeP
  split <;> omega
theorem sz_eq (p : Pkt) (h : p.2.length = 0) : sizeP p = if p.1.nxt = 17 then 48 else 40 := by
  unfold sizeP
  rw [h]
  exact Int.add_zero _
theorem flow_r {s : Int} (h : 0 ≤ s ∧ s < 1048576) : 0 ≤ IntKind.u32.wrap s ∧ IntKind.u32.wrap s < 1048576 := by
  rw [IntWalk.u32_in s (by omega)]; exact h
theorem nff_tail {p : Pkt} : NFF (.e (tailR eHd eB p)) := nfE_tail
theorem fill_sz {nxt : Int} {zl : List Int} {z1 z0 : Int} {p : Pkt} (hz1 : z1 = sizeP p) (hp : p.2.length = 0) (hn : p.1.nxt = nxt) (h0 : 0 ≤ z0 ∧ z0 < 2) (h : BL zl ∧ (zl.length : Int) = IntKind.i64.wrap (IntKind.i64.wrap (1280 - z1) - z0)) : (if nxt = 17 then (48 : Int) else 40) + zl.length ≤ 1280 := by
  rw [sz_eq p hp, hn] at hz1
  have e1 : z1 = 40 ∨ z1 = 48 := by rw [hz1]; split <;> omega
  have w1 : IntKind.i64.wrap (1280 - z1) = 1280 - z1 := IntWalk.i64_in _ (by omega)
  have w2 : IntKind.i64.wrap (1280 - z1 - z0) = 1280 - z1 - z0 := IntWalk.i64_in _ (by omega)
  have h2 := h.2
  rw [w1, w2] at h2
  rw [← hz1]; omega
theorem byte_sz {nxt : Int} {zl : List Int} (h : BL zl ∧ (zl.length : Int) ≤ 12) : (if nxt = 17 then (48 : Int) else 40) + zl.length ≤ 1280 := by
  have := h.2
  split <;> omega
theorem mc_no {a' : Fin 16 → Int} {s : Bool} (hs : s = mcast a') (hc : s = false) : vget a' 0 ≠ 255 := by
  rw [hs] at hc
  unfold mcast at hc
  exact of_decide_eq_false hc
theorem zz256 : (0 : Int) ≤ 0 ∧ (0 : Int) < 256 := by decide
theorem zzf : (0 : Int) ≤ 0 ∧ (0 : Int) < 1048576 := by decide
theorem zz16 : (0 : Int) ≤ 0 ∧ (0 : Int) < 65536 := by decide
set_option maxHeartbeats 16000000 in
set_option maxRecDepth 20000 in
theorem packet_ok (n : Nat) (l : List Int) (q : Int) (a1 a2 : Adr) (ht : TapeOk n (rI l) q) :
    ∃ (r : Pkt) (q' : Int), PkM r ∧ TapeOk n (rI l) q' ∧ MethOk Try.prog 36 [(cE eAdr).enc a1, (cE eAdr).enc a2] (tapeN n (rI l) q) (.e (tailR eHd eB r)) (tapeN n (rI l) q') := by
  refine tape_intro (S := PkM) (enc := fun r => .e (tailR eHd eB r)) (wd := 1) (Q := mkQ LM) (by decide) tysOk (q_of LM_ok) mixed Try.func36 rfl _ (by show 2 + 1 ≤ _; decide) (fun _ => nff_tail) ?_
  repeat' (first | (apply And.intro <;> intro hc <;> (first | exact Bool.noConfusion hc | (simp only [decide_eq_true_eq, decide_eq_false_iff_not, Bool.not_eq_true', Bool.not_eq_false', beq_iff_eq, beq_eq_false_iff_ne, bne_iff_ne, bne_eq_false_iff_eq, Bool.true_eq_false, Bool.false_eq_true] at hc) | skip)) | (refine And.intro (by first | exact trivial | decide | omega | (dsimp only; omega) | exact fun _ _ => rfl | exact ⟨by assumption, by first | exact trivial | decide | omega | (dsimp only; omega)⟩) ?_) | (apply And.intro) | (intro s hs))
  all_goals first
    | exact Nat.le_trans (Nat.le_of_eq (toL_len _ _ _)) (Nat.zero_le _)
    | (rename_i s1 hs1 s0 hs0
       have e1 : s1 = 40 ∨ s1 = 48 := by rw [hs1]; exact sz_r _ rfl
       have e0 : 0 ≤ s0 ∧ s0 < 2 := hs0
       have w1 : IntKind.i64.wrap (1280 - s1) = 1280 - s1 := IntWalk.i64_in _ (by omega)
       have w2 : IntKind.i64.wrap (1280 - s1 - s0) = 1280 - s1 - s0 := IntWalk.i64_in _ (by omega)
       first
         | (show 0 ≤ IntKind.i64.wrap (IntKind.i64.wrap (1280 - s1) - s0); rw [w1, w2]; omega)
         | (show IntKind.i64.wrap (IntKind.i64.wrap (1280 - s1) - s0) ≤ 2000; rw [w1, w2]; omega))
    | skip
  all_goals first
    | (apply fin_mk (src := setV _ 0 32)
       · rfl
       · intro j hj
         iterate 38 (rcases j with _ | j; exact leC_int rfl)
         exact absurd hj (by omega)
       · exact leC_sl (fun _ => rfl) rfl rfl fun i _ j _ => leC_int rfl
       · exact tapeN_le
       · assumption
       · apply pkM_mk
         · first | exact u8r _ | exact zz256
         · first | exact flow_r (by assumption) | exact zzf
         · exact pick5 0 _ _ _ _ _ (by omega) _
         · exact pick5 0 _ _ _ _ _ (by omega) _
         · exact setV_ok (by assumption) (by omega)
         · assumption
         · first | assumption | exact zz16
         · first | assumption | exact zz16
         · exact (show BL _ ∧ _ from by assumption).1
         · show (32 : Int) ≠ 255; decide
         · first
             | exact byte_sz (by assumption)
             | (refine fill_sz (by assumption) ?_ ?_ (by assumption) (by assumption)
                · exact toL_len _ _ _
                · rfl)
         · first | exact .inl (by assumption) | exact .inr ⟨rfl, rfl⟩)
    | (apply fin_mk
       · rfl
       · intro j hj
         iterate 38 (rcases j with _ | j; exact leC_int rfl)
         exact absurd hj (by omega)
       · exact leC_sl (fun _ => rfl) rfl rfl fun i _ j _ => leC_int rfl
       · exact tapeN_le
       · assumption
       · apply pkM_mk
         · first | exact u8r _ | exact zz256
         · first | exact flow_r (by assumption) | exact zzf
         · exact pick5 0 _ _ _ _ _ (by omega) _
         · exact pick5 0 _ _ _ _ _ (by omega) _
         · assumption
         · assumption
         · first | assumption | exact zz16
         · first | assumption | exact zz16
         · exact (show BL _ ∧ _ from by assumption).1
         · (have hmc := mc_no (by assumption) (by assumption); exact hmc)
         · first
             | exact byte_sz (by assumption)
             | (refine fill_sz (by assumption) ?_ ?_ (by assumption) (by assumption)
                · exact toL_len _ _ _
                · rfl)
         · first | exact .inl (by assumption) | exact .inr ⟨rfl, rfl⟩)
    | skip
end Go.Proofs.Ytjknkfjhcapocaa.AX
/- The laws about packets: made, known, all contracts. -/
namespace Go.Proofs.Ytjknkfjhcapocaa.AX
open Go.RowKit
set_option linter.unusedVariables false
set_option linter.unusedSimpArgs false
abbrev packE : Entry := tapeE (AC.cons (cE eAdr) (AC.cons (cE eAdr) AC.nil)) (fun _ => True) (fun a (r : Pkt) => PkM r) (fun r => .e (tailR eHd eB r))
def LMp : CsL := (36, some packE) :: LM0
theorem LMp_ok : AllOk Try.prog LMp := ⟨tapeE_ok ⟨_, Try.func36, rfl, by kernel_rfl⟩ fun n l q a ht hp => packet_ok n l q a.1 a.2.1 ht, LM0_ok⟩
end Go.Proofs.Ytjknkfjhcapocaa.AX
/- Cells that hold bytes; laws of encoded headers. -/
namespace Go.Proofs.Ytjknkfjhcapocaa.AX
open Go.RowKit
set_option linter.unusedVariables false
set_option linter.unusedSimpArgs false
/-- n cells hold bytes. -/
structure IsB (F : Nat → Nat → CV) (n : Nat) : Prop where
  at_ : ∀ k, k < n → ∃ x, F k 0 = .int .u8 x ∧ 0 ≤ x ∧ x < 256
theorem bl_app {a c : List Int} (h1 : BL a) (h2 : BL c) : BL (a ++ c) := ⟨fun x hx => (List.mem_append.1 hx).elim (h1.m x) (h2.m x)⟩
theorem bl_1 {x : Int} (h : 0 ≤ x ∧ x < 256) : BL [x] := ⟨fun y hy => by rw [List.mem_singleton.1 hy]; exact h⟩
theorem bl_if {c : Prop} [Decidable c] {a d : List Int} (h1 : BL a) (h2 : BL d) : BL (if c then a else d) := by
  split
  · exact h1
  · exact h2
theorem beB_bl (v n : Int) : BL (beB v n) := by
  unfold beB
  split
  · exact beN_BL _ _
  · exact BL.nil
theorem iids_bl (y : Int) (k : Adr) : BL (iidsF y k).2 := by
  unfold iidsF
  split
  · exact BL.nil
  · split
    · exact beB_bl y 2
    · exact beB_bl y 8
theorem uni_bl {a : Fin 16 → Int} (ha : byteOk a) (k : Adr) (s : Bool) (l : List Ctx) (now : Int) : BL (uniF a k s l now).2 := by
  unfold uniF
  split
  · exact BL.nil
  · split
    · exact iids_bl _ _
    · split
      · exact iids_bl _ _
      · exact ipBL ha
theorem grp_bl {a : Fin 16 → Int} (ha : byteOk a) : BL (grpF a).2 := by
  have hv : ∀ i, 0 ≤ vget a i ∧ vget a i < 256 := fun i => ha.v i
  unfold grpF
  split
  · exact bl_1 (hv _)
  · split
    · exact ⟨fun x hx => by
        simp only [List.mem_cons, List.not_mem_nil, or_false] at hx
        rcases hx with rfl | rfl | rfl | rfl <;> exact hv _⟩
    · split
      · exact ⟨fun x hx => by
          simp only [List.mem_cons, List.not_mem_nil, or_false] at hx
          rcases hx with rfl | rfl | rfl | rfl | rfl | rfl <;> exact hv _⟩
      · exact ipBL ha
theorem sec_r {s d : Fm} (hs : FmW s) (hd : FmW d) (m : Bool) : 0 ≤ secF s d m ∧ secF s d m < 256 := by
  have h1 := hs.mode
  have h2 := hd.mode
  unfold secF
  have b1 := bitV_r (decide (16 * s.id + d.id ≠ 0)) 128 (by decide)
  have b2 := bitV_r s.ctx 64 (by decide)
  have b3 := bitV_r m 8 (by decide)
  have b4 := bitV_r d.ctx 4 (by decide)
  omega
theorem inl_bl {p : Pkt} (hp : PkW p) : BL (inlF p) := by
  unfold inlF
  refine bl_app (bl_app ?_ (bl_if BL.nil (bl_1 hp.nxt))) (bl_if (bl_1 hp.hops) BL.nil)
  unfold flowF
  split
  · exact bl_app (bl_1 hp.cls) (beB_bl _ _)
  · split
    · exact bl_app BL.nil (beB_bl _ _)
    · split
      · exact bl_1 hp.cls
      · exact BL.nil
theorem dst_w (p : Pkt) (t : Adr) (l : List Ctx) (now : Int) : FmW (dstF p t l now).1 := by
  unfold dstF
  split
  · exact grp_w _
  · exact uni_w _ _ _ _ _
theorem encI_bl {p : Pkt} (hp : PkW p) (f t : Adr) (l : List Ctx) (now : Int) : BL (encI p f t l now).1 := by
  have hb1 : byteOk p.1.src := ⟨fun q => by have := hp.src q.1; rw [vget_lt _ q.2] at this; exact this⟩
  have hb2 : byteOk p.1.dst := ⟨fun q => by have := hp.dst q.1; rw [vget_lt _ q.2] at this; exact this⟩
  unfold encI
  split
  · exact BL.nil
  · split
    · exact BL.nil
    · dsimp only
      unfold joinH
      have hw1 := uni_w p.1.src f true l now
      have hw2 := dst_w p t l now
      refine bl_app (bl_app (bl_app (bl_app ?_ (bl_if (bl_1 ?_) BL.nil)) (inl_bl hp)) (uni_bl hb1 _ _ _ _)) ?_
      · have h1 := first_r p
        have h2 := sec_r hw1 hw2 (mcast p.1.dst)
        exact ⟨fun x hx => by
          simp only [List.mem_cons, List.not_mem_nil, or_false] at hx
          rcases hx with rfl | rfl
          · omega
          · exact h2⟩
      · have h1 := hw1.id
        have h2 := hw2.id
        omega
      · unfold dstF
        split
        · exact grp_bl hb2
        · exact uni_bl hb2 _ _ _ _
theorem encI_len (p : Pkt) (f t : Adr) (l : List Ctx) (now : Int) : (encI p f t l now).1.length ≤ 41 := by
  have h1 := uni_len p.1.src f true l now
  have h2 := dst_len p t l now
  have h3 := inl_len p
  unfold encI
  split
  · exact Nat.zero_le _
  · split
    · exact Nat.zero_le _
    · dsimp only
      rw [join_len]
      split <;> omega
end Go.Proofs.Ytjknkfjhcapocaa.AX
/- The laws about compressed headers: decoded. -/
namespace Go.Proofs.Ytjknkfjhcapocaa.AX
open Go.RowKit
set_option linter.unusedVariables false
set_option linter.unusedSimpArgs false
theorem decI_congr {b b' : List Int} {a a' c c' : Adr} {l l' : List Ctx} {n : Int} (h1 : b' = b) (h2 : a' = a) (h3 : c' = c) (h4 : l' = l) : decI b' a' c' l' n = decI b a c l n := by rw [h1, h2, h3, h4]
end Go.Proofs.Ytjknkfjhcapocaa.AX
/- A header that was encoded is read back: plain laws. -/
namespace Go.Proofs.Ytjknkfjhcapocaa.AX
open Go.RowKit
set_option linter.unusedVariables false
set_option linter.unusedSimpArgs false
theorem num_at {C w post : List Int} {q n : Int} (h0 : 0 ≤ q) (h : C.drop q.toNat = w ++ post) (hn : (w.length : Int) = n) (h1 : 1 ≤ n ∧ n ≤ 8) : numF C q n = ((beVal w, 0), q + n) ∧ C.drop (q + n).toNat = post := by
  have hl : C.length - q.toNat = w.length + post.length := by rw [← List.length_drop, h, List.length_append]
  have hu : uintF C q n = (beVal w, true) := by
    unfold uintF
    rw [if_pos (by omega), h, show n.toNat = w.length by omega, List.take_left']
    rfl
  refine ⟨?_, ?_⟩
  · unfold numF
    rw [hu]
    exact if_pos rfl
  · rw [show (q + n).toNat = q.toNat + w.length by omega, ← List.drop_drop, h, List.drop_left']
    rfl
theorem ip_back {C post : List Int} {a : Fin 16 → Int} {q : Int} (h0 : 0 ≤ q) (h : C.drop q.toNat = ipL a ++ post) : ipRF C q = ((a, 0), q + 16) ∧ C.drop (q + 16).toNat = post := by
  have hl : C.length - q.toNat = 16 + post.length := by rw [← List.length_drop, h, List.length_append, ipL_len]
  refine ⟨?_, ?_⟩
  · unfold ipRF
    rw [if_neg (by omega)]
    congr 2
    funext i
    have hi := i.2
    show C.getD (q.toNat + i.1) default = a i
    have e : C.getD (q.toNat + i.1) default = (C.drop q.toNat).getD i.1 default := (getD_dropI _ _ _).symm
    rw [e, h, List.getD_eq_getElem?_getD, List.getElem?_append_left (by rw [ipL_len]; exact hi), ← List.getD_eq_getElem?_getD, ipL_get a hi]
    exact vget_lt _ hi
  · rw [show (q + 16).toNat = q.toNat + (ipL a).length by rw [ipL_len]; omega, ← List.drop_drop, h, List.drop_left']
    rfl
theorem sec_bits {s d : Fm} (hs : FmW s) (hd : FmW d) (m : Bool) : bitAt (secF s d m) 64 = s.ctx ∧ secF s d m / 16 % 4 = s.mode ∧ bitAt (secF s d m) 8 = m ∧ bitAt (secF s d m) 4 = d.ctx ∧ secF s d m % 4 = d.mode ∧ (128 ≤ secF s d m ↔ 16 * s.id + d.id ≠ 0) := by
  have h1 := hs.mode
  have h2 := hd.mode
  have key : ∀ (i c m e : Bool) (x y : Int), 0 ≤ x ∧ x ≤ 3 → 0 ≤ y ∧ y ≤ 3 → ∀ z, z = bitV i 128 + bitV c 64 + 16 * x + bitV m 8 + bitV e 4 + y → bitAt z 64 = c ∧ z / 16 % 4 = x ∧ bitAt z 8 = m ∧ bitAt z 4 = e ∧ z % 4 = y ∧ (128 ≤ z ↔ i = true) := by
    intro i c m e x y hx hy z hz
    unfold bitAt
    cases i <;> cases c <;> cases m <;> cases e <;> simp only [bitV, if_true, if_false, Bool.false_eq_true] at hz <;>
      refine ⟨?_, by omega, ?_, ?_, by omega, ?_⟩ <;> first
        | exact decide_eq_true (by omega)
        | exact decide_eq_false (by omega)
        | exact ⟨fun _ => rfl, fun _ => by omega⟩
        | exact ⟨fun h => absurd h (by omega), fun h => Bool.noConfusion h⟩
  obtain ⟨a1, a2, a3, a4, a5, a6⟩ := key (decide (16 * s.id + d.id ≠ 0)) s.ctx m d.ctx s.mode d.mode h1 h2 _ rfl
  exact ⟨a1, a2, a3, a4, a5, a6.trans decide_eq_true_iff⟩
theorem beVal_1 (x : Int) : beVal [x] = x := by
  have := beVal_snoc [] x
  rw [List.nil_append] at this
  rw [this]
  show beVal [] * 256 + x = x
  rw [show beVal [] = 0 from rfl]
  omega
theorem start_back {C inl : List Int} {x y ids : Int} (hx : 96 ≤ x ∧ x ≤ 127) (hb : badY y = false) (hy : 128 ≤ y ↔ ids ≠ 0) (h : C = [x, y] ++ (if ids ≠ 0 then [ids] else []) ++ inl) :
    ∃ k, 0 ≤ k ∧ startF C 0 = (((x, y, ids), 0), k) ∧ C.drop k.toNat = inl := by
  have d0 : C.drop (0 : Int).toNat = [x] ++ ([y] ++ ((if ids ≠ 0 then [ids] else []) ++ inl)) := by rw [h]; simp
  obtain ⟨a1, a2⟩ := num_at (n := 1) (Int.le_refl 0) d0 rfl (by decide)
  obtain ⟨b1, b2⟩ := num_at (n := 1) (by decide) a2 rfl (by decide)
  unfold startF
  rw [a1, thenD_ok, beVal_1, if_neg (by omega), b1, thenD_ok, beVal_1, if_neg (by rw [hb]; decide)]
  by_cases hi : ids = 0
  · rw [if_neg (by rw [hy]; exact fun g => g hi)]
    subst hi
    exact ⟨_, by decide, rfl, by simpa using b2⟩
  · rw [if_pos (hy.2 hi)]
    rw [if_pos hi] at b2
    obtain ⟨c1, c2⟩ := num_at (n := 1) (by decide) b2 rfl (by decide)
    rw [c1, thenD_ok, beVal_1]
    exact ⟨_, by decide, rfl, c2⟩
theorem hop_back (h : Int) : (hopF h = 0 ∧ True) ∨ ((hopF h = 1 ∨ hopF h = 2 ∨ hopF h = 3) ∧ hopV (hopF h) = h) := by
  unfold hopF
  split
  · rename_i g; exact .inr ⟨.inl rfl, by rw [g]; rfl⟩
  · split
    · rename_i g; exact .inr ⟨.inr (.inl rfl), by rw [g]; rfl⟩
    · split
      · rename_i g; exact .inr ⟨.inr (.inr rfl), by rw [g]; rfl⟩
      · exact .inl ⟨rfl, trivial⟩
theorem beB3 {v : Int} (h : 0 ≤ v ∧ v < 16777216) : (beB v 3).length = 3 ∧ beVal (beB v 3) = v := by
  have e : beB v 3 = beN v 3 := by unfold beB; rw [if_pos (by decide)]; rfl
  rw [e]
  exact ⟨beN_len v 3, beVal_beN 3 v h.1 h.2⟩
/-- What is read behind class and flow. -/
def fldG (C : List Int) (x c fl q : Int) : RD Hdr := if 1048575 < fl then ((zeroH, 5), q) else
  thenD (if x / 4 % 2 = 0 then numF C q 1 else ((17, 0), q)) zeroH fun nx q => if x / 4 % 2 = 0 ∧ nx = 17 then ((zeroH, 5), q) else
  thenD (if x % 4 = 0 then numF C q 1 else ((hopV (x % 4), 0), q)) zeroH fun hp q => ((⟨c, fl, nx, hp, zeroA, zeroA, 0, 0⟩, 0), q)
theorem flow_back {p : Pkt} (hp : PkW p) (hf : p.1.flow ≤ 1048575) {C post : List Int} {k x : Int} (hx : x / 8 % 4 = (flowF p).1) (h0 : 0 ≤ k) (h : C.drop k.toNat = (flowF p).2 ++ post) :
    ∃ k1, 0 ≤ k1 ∧ fieldsD C x k = fldG C x p.1.cls p.1.flow k1 ∧ C.drop k1.toNat = post := by
  obtain ⟨l3, v3⟩ := beB3 (v := p.1.flow) ⟨hp.flow.1, by omega⟩
  have e : fieldsD C x k = thenD (if x / 8 % 4 = 0 ∨ x / 8 % 4 = 2 then numF C k 1 else ((0, 0), k)) zeroH fun c q => thenD (if x / 8 % 4 = 0 ∨ x / 8 % 4 = 1 then numF C q 3 else ((0, 0), q)) zeroH fun fl q => fldG C x c fl q := rfl
  rw [e, hx]
  unfold flowF at h ⊢
  by_cases c1 : p.1.cls ≠ 0 ∧ p.1.flow ≠ 0
  · rw [if_pos c1] at h ⊢
    rw [List.append_assoc] at h
    obtain ⟨a1, a2⟩ := num_at (n := 1) h0 h rfl (by decide)
    obtain ⟨b1, b2⟩ := num_at (n := 3) (by omega) a2 (by rw [l3]; rfl) (by decide)
    rw [if_pos (.inl rfl), a1, thenD_ok, if_pos (.inl rfl), b1, thenD_ok, beVal_1, v3]
    exact ⟨_, by omega, rfl, b2⟩
  · rw [if_neg c1] at h ⊢
    by_cases c2 : p.1.flow ≠ 0
    · have hc : p.1.cls = 0 := by
        by_cases g : p.1.cls = 0
        · exact g
        · exact absurd ⟨g, c2⟩ c1
      rw [if_pos c2] at h ⊢
      obtain ⟨b1, b2⟩ := num_at (n := 3) (w := beB p.1.flow 3) h0 h (by rw [l3]; rfl) (by decide)
      rw [if_neg (show ¬ ((1 : Int) = 0 ∨ (1 : Int) = 2) by decide), thenD_ok, if_pos (.inr rfl), b1, thenD_ok, v3, hc]
      exact ⟨_, by omega, rfl, b2⟩
    · have hfl : p.1.flow = 0 := by
        by_cases g : p.1.flow = 0
        · exact g
        · exact absurd g c2
      rw [if_neg c2] at h ⊢
      by_cases c3 : p.1.cls ≠ 0
      · rw [if_pos c3] at h ⊢
        obtain ⟨a1, a2⟩ := num_at (n := 1) h0 h rfl (by decide)
        rw [if_pos (.inr rfl), a1, thenD_ok, if_neg (show ¬ ((2 : Int) = 0 ∨ (2 : Int) = 1) by decide), thenD_ok, beVal_1, hfl]
        exact ⟨_, by omega, rfl, a2⟩
      · have hc : p.1.cls = 0 := by
          by_cases g : p.1.cls = 0
          · exact g
          · exact absurd g c3
        rw [if_neg c3] at h ⊢
        rw [if_neg (show ¬ ((3 : Int) = 0 ∨ (3 : Int) = 2) by decide), thenD_ok, if_neg (show ¬ ((3 : Int) = 0 ∨ (3 : Int) = 1) by decide), thenD_ok, hfl, hc]
        exact ⟨_, h0, rfl, h⟩
theorem flow_rng (p : Pkt) : 0 ≤ (flowF p).1 ∧ (flowF p).1 ≤ 3 := by
  unfold flowF
  split
  · exact ⟨(by decide : (0 : Int) ≤ 0), (by decide : (0 : Int) ≤ 3)⟩
  · split
    · exact ⟨(by decide : (0 : Int) ≤ 1), (by decide : (1 : Int) ≤ 3)⟩
    · split
      · exact ⟨(by decide : (0 : Int) ≤ 2), (by decide : (2 : Int) ≤ 3)⟩
      · exact ⟨(by decide : (0 : Int) ≤ 3), (by decide : (3 : Int) ≤ 3)⟩
theorem fields_back {p : Pkt} (hp : PkW p) (hf : p.1.flow ≤ 1048575) {C post : List Int} {k : Int} (h0 : 0 ≤ k) (h : C.drop k.toNat = inlF p ++ post) :
    ∃ k', 0 ≤ k' ∧ fieldsD C (firstF p) k = ((⟨p.1.cls, p.1.flow, p.1.nxt, p.1.hops, zeroA, zeroA, 0, 0⟩, 0), k') ∧ C.drop k'.toNat = post := by
  have hF := flow_rng p
  have hH : 0 ≤ hopF p.1.hops ∧ hopF p.1.hops ≤ 3 := by
    rcases hop_back p.1.hops with ⟨g, _⟩ | ⟨g | g | g, _⟩ <;> omega
  obtain ⟨x, ex⟩ : ∃ x, firstF p = x := ⟨_, rfl⟩
  have hx : x = 96 + 8 * (flowF p).1 + bitV (decide (p.1.nxt = 17)) 4 + hopF p.1.hops := by rw [← ex]; rfl
  have hb := bitV_r (decide (p.1.nxt = 17)) 4 (by decide)
  rw [ex]
  unfold inlF at h
  rw [List.append_assoc, List.append_assoc] at h
  obtain ⟨k1, g0, g1, g2⟩ := flow_back hp hf (x := x) (by omega) h0 h
  rw [g1]
  unfold fldG
  rw [if_neg (by omega)]
  -- the next header
  have s2 : ∃ k2, 0 ≤ k2 ∧ (thenD (if x / 4 % 2 = 0 then numF C k1 1 else ((17, 0), k1)) zeroH fun nx q => if x / 4 % 2 = 0 ∧ nx = 17 then ((zeroH, 5), q) else
      thenD (if x % 4 = 0 then numF C q 1 else ((hopV (x % 4), 0), q)) zeroH fun hp q => ((⟨p.1.cls, p.1.flow, nx, hp, zeroA, zeroA, 0, 0⟩, 0), q)) =
      (thenD (if x % 4 = 0 then numF C k2 1 else ((hopV (x % 4), 0), k2)) zeroH fun hp q => ((⟨p.1.cls, p.1.flow, p.1.nxt, hp, zeroA, zeroA, 0, 0⟩, 0), q)) ∧ C.drop k2.toNat = (if hopF p.1.hops = 0 then [p.1.hops] else []) ++ post := by
    by_cases hn : p.1.nxt = 17
    · rw [if_pos hn] at g2
      rw [decide_eq_true hn] at hx
      have hx4 : x / 4 % 2 = 1 := by
        have : bitV true 4 = 4 := rfl
        omega
      rw [hx4, if_neg (show ¬ (1 : Int) = 0 by decide), thenD_ok, if_neg (fun g => absurd g.1 (by decide)), hn]
      exact ⟨_, g0, rfl, g2⟩
    · rw [if_neg hn] at g2
      rw [decide_eq_false hn] at hx
      have hx4 : x / 4 % 2 = 0 := by
        have : bitV false 4 = 0 := rfl
        omega
      obtain ⟨a1, a2⟩ := num_at (n := 1) g0 g2 rfl (by decide)
      rw [hx4, if_pos rfl, a1, thenD_ok, beVal_1, if_neg (fun g => hn g.2)]
      exact ⟨_, by omega, rfl, a2⟩
  obtain ⟨k2, n0, n1, n2⟩ := s2
  rw [n1]
  have hx3 : x % 4 = hopF p.1.hops := by
    cases hd : decide (p.1.nxt = 17) with
    | true => rw [hd] at hx; have : bitV true 4 = 4 := rfl; omega
    | false => rw [hd] at hx; have : bitV false 4 = 0 := rfl; omega
  rw [hx3]
  rcases hop_back p.1.hops with ⟨g, _⟩ | ⟨g, g'⟩
  · rw [if_pos g] at n2
    obtain ⟨a1, a2⟩ := num_at (n := 1) n0 n2 rfl (by decide)
    rw [if_pos g, a1, thenD_ok, beVal_1]
    exact ⟨_, by omega, rfl, a2⟩
  · have hne : ¬ hopF p.1.hops = 0 := by omega
    rw [if_neg hne] at n2
    rw [if_neg hne, thenD_ok, g']
    exact ⟨_, n0, rfl, n2⟩
theorem nat_andNot {n : Nat} (h : n < 18446744073709551616) : n &&& 18446744073709486080 = n / 65536 * 65536 := by
  apply Nat.eq_of_testBit_eq
  intro j
  rw [Nat.testBit_and, show (18446744073709486080 : Nat) = (2 ^ 48 - 1) * 2 ^ 16 from rfl, Nat.testBit_mul_two_pow, Nat.testBit_two_pow_sub_one, show (65536 : Nat) = 2 ^ 16 from rfl, Nat.testBit_mul_two_pow, Nat.testBit_div_two_pow]
  by_cases h16 : 16 ≤ j
  · rw [show j - 16 + 16 = j by omega]
    by_cases h64 : j < 64
    · simp [h16, show j - 16 < 48 by omega]
    · have : n.testBit j = false := Nat.testBit_lt_two_pow (Nat.lt_of_lt_of_le (show n < 2 ^ 64 from h) (Nat.pow_le_pow_right (n := 2) (by decide) (show 64 ≤ j by omega)))
      rw [this]
      simp
  · simp [h16]
theorem andNot_16 {y : Int} (h : 0 ≤ y ∧ y < 18446744073709551616) : bits .andNot .u64 y 65535 = y / 65536 * 65536 := by
  obtain ⟨n, rfl⟩ : ∃ n : Nat, y = n := ⟨y.toNat, by omega⟩
  have hn : n < 18446744073709551616 := by omega
  have e : (BitVec.ofInt 64 (n : Int) &&& ~~~ (BitVec.ofInt 64 65535)).toNat = n / 65536 * 65536 := by
    rw [BitVec.toNat_and, BitVec.toNat_not, show (BitVec.ofInt 64 65535).toNat = 65535 from rfl, ← nat_andNot hn]
    congr 1
    rw [BitVec.ofInt_natCast, BitVec.toNat_ofNat]
    exact Nat.mod_eq_of_lt hn
  show IntKind.u64.wrap (((BitVec.ofInt 64 (n : Int) &&& ~~~ (BitVec.ofInt 64 65535)).toNat : Nat) : Int) = _
  rw [e]
  refine (IntWalk.u64_in _ ?_).trans ?_
  · omega
  · omega
theorem beBk2 {v : Int} (h : 0 ≤ v ∧ v < 18446744073709551616) : (beB v 2).length = 2 ∧ beVal (beB v 2) = v % 65536 := by
  have e : beB v 2 = beN (v % 65536) 2 := by
    unfold beB
    rw [if_pos (by decide)]
    show [v / 256 ^ 1 % 256, v / 256 ^ 0 % 256] = [v % 65536 / 256 ^ 1 % 256, v % 65536 / 256 ^ 0 % 256]
    rw [Int.pow_zero, show (256 : Int) ^ 1 = 256 from rfl]
    congr 1
    · omega
    · congr 1
      omega
  rw [e]
  exact ⟨beN_len _ 2, beVal_beN 2 _ (by omega) (by show v % 65536 < 65536; omega)⟩
theorem beB8' {v : Int} (h : 0 ≤ v ∧ v < 18446744073709551616) : (beB v 8).length = 8 ∧ beVal (beB v 8) = v := by
  rw [beB8]
  exact ⟨beN_len v 8, beVal_beN 8 v h.1 h.2⟩
theorem iids_back {C post : List Int} {q lo : Int} {k : Adr} {P : Pfx} (hlo : 0 ≤ lo ∧ lo < 18446744073709551616) (h0 : 0 ≤ q) (h : C.drop q.toNat = (iidsF lo k).2 ++ post) :
    ((iidsF lo k).1 ≠ 0) ∧ ((iidsF lo k).1 = 3 → (iidF k).2 = true) ∧ ∃ q', 0 ≤ q' ∧ uniV C (iidsF lo k).1 k P q = ((jn P.ip lo, 0), q') ∧ C.drop q'.toNat = post := by
  unfold iidsF at h ⊢
  by_cases c1 : iidF k = (lo, true)
  · rw [if_pos c1] at h ⊢
    refine ⟨(by decide : (3 : Int) ≠ 0), fun _ => congrArg Prod.snd c1, q, h0, ?_, h⟩
    unfold uniV
    rw [if_neg (show ¬ (3 : Int) = 0 by decide), if_neg (show ¬ (3 : Int) = 1 by decide), if_neg (show ¬ (3 : Int) = 2 by decide), c1]
  · rw [if_neg c1] at h ⊢
    by_cases c2 : bits .andNot .u64 lo 65535 = 1099478073344
    · rw [if_pos c2] at h ⊢
      obtain ⟨l2, v2⟩ := beBk2 hlo
      obtain ⟨a1, a2⟩ := num_at (n := 2) h0 h (by rw [l2]; rfl) (by decide)
      rw [andNot_16 hlo] at c2
      refine ⟨(by decide : (2 : Int) ≠ 0), fun h => absurd h (by decide : ¬ (2 : Int) = 3), q + 2, by omega, ?_, a2⟩
      unfold uniV
      rw [if_neg (show ¬ (2 : Int) = 0 by decide), if_neg (show ¬ (2 : Int) = 1 by decide), if_pos rfl, a1, thenD_ok, v2, show lo % 65536 + 1099478073344 = lo by omega]
    · rw [if_neg c2] at h ⊢
      obtain ⟨l8, v8⟩ := beB8' hlo
      obtain ⟨a1, a2⟩ := num_at (n := 8) h0 h (by rw [l8]; rfl) (by decide)
      refine ⟨(by decide : (1 : Int) ≠ 0), fun h => absurd h (by decide : ¬ (1 : Int) = 3), q + 8, by omega, ?_, a2⟩
      unfold uniV
      rw [if_neg (show ¬ (1 : Int) = 0 by decide), if_pos rfl, a1, thenD_ok, v8]
theorem dec_of_com {l : List Ctx} {a : Fin 16 → Int} {now now' : Int} (hn : vt now' = true) (hle : now' ≤ now + 32) (h : (forCom l a now).2 = true) : forDec l (forCom l a now).1.id now' = ((forCom l a now).1, true) := by
  obtain ⟨h1, h2, h3, h4⟩ := forCom_in h
  have hv := valid_lt h1 h3
  unfold mt compr at h4
  simp only [Bool.and_eq_true, decide_eq_true_eq] at h4
  have ht := hv.2.1
  unfold vt at ht
  simp only [Bool.and_eq_true, decide_eq_true_eq] at ht
  have hd : decom (forCom l a now).1 now' = true := by
    unfold decom
    rw [IntWalk.i64_in _ (by omega)]
    exact decide_eq_true (by omega)
  unfold forDec
  rw [if_pos ⟨h1, hn⟩]
  exact find_mem hd h1 h3
theorem uni_back {C post : List Int} {a : Fin 16 → Int} {k : Adr} {src : Bool} {l : List Ctx} {now now' q : Int} (ha : byteOk a) (hm : mcast a = false) (hl : bytesL l) (hn : vt now' = true) (hle : now' ≤ now + 32) (h0 : 0 ≤ q)
    (hz : ¬ (src = true ∧ ipEq a zeroA = true)) (h : C.drop q.toNat = (uniF a k src l now).2 ++ post) :
    (((uniF a k src l now).1.ctx = true → (uniF a k src l now).1.mode ≠ 0) ∧ ∃ q', 0 ≤ q' ∧ uniD C (uniF a k src l now).1.ctx (uniF a k src l now).1.mode k (forDec l (uniF a k src l now).1.id now') q = ((a, 0), q') ∧ C.drop q'.toNat = post) := by
  have hlo := lo_lt ha
  have fin : ∀ x : RD (Fin 16 → Int), ∀ q', x = ((a, 0), q') → thenD x zeroA (fun a q => if mcast a = true then ((zeroA, 5), q) else ((a, 0), q)) = ((a, 0), q') := fun x q' e => by
    rw [e, thenD_ok, if_neg (by rw [hm]; decide)]
  by_cases c1 : hiF a = 18338657682652659712
  · rw [uni_1 hz c1] at h ⊢
    obtain ⟨i1, i2, q', i3, i4, i5⟩ := iids_back (k := k) (P := llP) hlo h0 h
    refine ⟨fun g => Bool.noConfusion g, q', i3, ?_, i5⟩
    unfold uniD
    rw [if_neg (fun g => by have := i2 g.1; rw [this] at g; exact Bool.noConfusion g.2), if_neg (fun g => Bool.noConfusion g.1), if_neg (fun g => Bool.noConfusion g.1)]
    refine fin _ _ (i4.trans ?_)
    rw [(jn_iff llP_b ha).2 (llP_hi.trans c1.symm)]
  · cases hc : coverF a l now with
    | true =>
      rw [uni_2 hz c1 hc] at h ⊢
      have hcv := hc
      unfold coverF at hcv
      simp only [Bool.and_eq_true, decide_eq_true_eq] at hcv
      obtain ⟨⟨c2, c3⟩, c4⟩ := hcv
      obtain ⟨h1, h2, h3, h4⟩ := forCom_in c2
      have hb := hl.b _ h3
      have hd := dec_of_com hn hle c2
      dsimp only at h ⊢
      rw [hd]
      obtain ⟨i1, i2, q', i3, i4, i5⟩ := iids_back (k := k) (P := pfxOf (forCom l a now).1) hlo h0 h
      refine ⟨fun _ => i1, q', i3, ?_, i5⟩
      unfold uniD
      rw [if_neg (fun g => by have := i2 g.1; rw [this] at g; exact Bool.noConfusion g.2), if_neg (fun g => Bool.noConfusion g.2), if_neg (fun g => by have := g.2; dsimp only at this; omega)]
      refine fin _ _ (i4.trans ?_)
      rw [(jn_iff (show byteOk (pfxOf (forCom l a now).1).ip from hb) ha).2 c4]
    | false =>
      rw [uni_3 hz c1 hc] at h ⊢
      obtain ⟨b1, b2⟩ := ip_back h0 h
      refine ⟨fun g => Bool.noConfusion g, q + 16, by omega, ?_, b2⟩
      unfold uniD
      rw [if_neg (fun g => absurd g.1 (by decide : ¬ (0 : Int) = 3)), if_neg (fun g => Bool.noConfusion g.1), if_neg (fun g => Bool.noConfusion g.1)]
      exact fin _ _ b1
theorem grp_back {C post : List Int} {a : Fin 16 → Int} {q : Int} (ha : byteOk a) (hm : mcast a = true) (h0 : 0 ≤ q) (h : C.drop q.toNat = (grpF a).2 ++ post) :
    ∃ q', 0 ≤ q' ∧ grpD C (grpF a).1.mode q = ((a, 0), q') ∧ C.drop q'.toNat = post := by
  have hm0 : vget a 0 = 255 := of_decide_eq_true hm
  have take : ∀ w : List Int, C.drop q.toNat = w ++ post → ∀ n : Nat, w.length = n → (C.drop q.toNat).take n = w := fun w hw n hn => by rw [hw, ← hn]; exact List.take_left' rfl
  unfold grpF at h ⊢
  by_cases c1 : vget a 1 = 2 ∧ zr a 2 15 = true
  · rw [if_pos c1] at h ⊢
    obtain ⟨a1, a2⟩ := num_at (n := 1) h0 h rfl (by decide)
    refine ⟨q + 1, by omega, ?_, a2⟩
    unfold grpD
    rw [if_neg (show ¬ (3 : Int) = 0 by decide)]
    show thenD (numF C q 1) zeroA (fun v q' => ((grpV 1 ((C.drop q.toNat).take 1), 0), q')) = _
    rw [a1, thenD_ok, take _ h 1 rfl]
    congr 2
    refine ip_fun fun i hi => ?_
    have hz := zr_at c1.2
    rcases i with _ | _ | i
    · exact hm0.symm
    · exact c1.1.symm
    · by_cases h15 : i + 2 < 15
      · rw [hz (i + 2) (by omega) h15 hi, vget_lt _ hi]
        unfold grpV
        rw [if_neg (show ¬ i + 1 + 1 = 0 by omega), if_neg (show ¬ i + 1 + 1 = 1 by omega), if_pos (.inr ⟨h15, rfl⟩)]
      · have : i = 13 := by omega
        subst this
        rfl
  · rw [if_neg c1] at h ⊢
    by_cases c2 : zr a 2 13 = true
    · rw [if_pos c2] at h ⊢
      obtain ⟨a1, a2⟩ := num_at (n := 4) h0 h rfl (by decide)
      refine ⟨q + 4, by omega, ?_, a2⟩
      unfold grpD
      rw [if_neg (show ¬ (2 : Int) = 0 by decide)]
      show thenD (numF C q 4) zeroA (fun v q' => ((grpV 4 ((C.drop q.toNat).take 4), 0), q')) = _
      rw [a1, thenD_ok, take _ h 4 rfl]
      congr 2
      refine ip_fun fun i hi => ?_
      have hz := zr_at c2
      rcases i with _ | _ | i
      · exact hm0.symm
      · rfl
      · by_cases h13 : i + 2 < 13
        · rw [hz (i + 2) (by omega) h13 hi, vget_lt _ hi]
          unfold grpV
          rw [if_neg (show ¬ i + 1 + 1 = 0 by omega), if_neg (show ¬ i + 1 + 1 = 1 by omega), if_pos (.inl ⟨by dsimp only; omega, by decide⟩)]
        · rcases (show i = 11 ∨ i = 12 ∨ i = 13 by omega) with rfl | rfl | rfl <;> rfl
    · rw [if_neg c2] at h ⊢
      by_cases c3 : zr a 2 11 = true
      · rw [if_pos c3] at h ⊢
        obtain ⟨a1, a2⟩ := num_at (n := 6) h0 h rfl (by decide)
        refine ⟨q + 6, by omega, ?_, a2⟩
        unfold grpD
        rw [if_neg (show ¬ (1 : Int) = 0 by decide)]
        show thenD (numF C q 6) zeroA (fun v q' => ((grpV 6 ((C.drop q.toNat).take 6), 0), q')) = _
        rw [a1, thenD_ok, take _ h 6 rfl]
        congr 2
        refine ip_fun fun i hi => ?_
        have hz := zr_at c3
        rcases i with _ | _ | i
        · exact hm0.symm
        · rfl
        · by_cases h11 : i + 2 < 11
          · rw [hz (i + 2) (by omega) h11 hi, vget_lt _ hi]
            unfold grpV
            rw [if_neg (show ¬ i + 1 + 1 = 0 by omega), if_neg (show ¬ i + 1 + 1 = 1 by omega), if_pos (.inl ⟨by dsimp only; omega, by decide⟩)]
          · rcases (show i = 9 ∨ i = 10 ∨ i = 11 ∨ i = 12 ∨ i = 13 by omega) with rfl | rfl | rfl | rfl | rfl <;> rfl
      · rw [if_neg c3] at h ⊢
        obtain ⟨b1, b2⟩ := ip_back h0 h
        refine ⟨q + 16, by omega, ?_, b2⟩
        unfold grpD
        rw [if_pos rfl, b1, thenD_ok, if_pos hm]
end Go.Proofs.Ytjknkfjhcapocaa.AX
/- A header that was encoded is read back. -/
namespace Go.Proofs.Ytjknkfjhcapocaa.AX
open Go.RowKit
set_option linter.unusedVariables false
set_option linter.unusedSimpArgs false
theorem readD_r {b : List Int} {f t : Adr} {l : List Ctx} {now : Int} (h : RdOk b 0) : RdOk b (readD b f t l now).2 := by
  unfold readD
  refine thenD_r (startF_r h) fun s q h => thenD_r (fieldsD_r h) fun hh q h => thenD_r ?_ fun src q h => thenD_r ?_ fun d q h => h
  · unfold srcD
    exact ite_r (uniD_r h) h
  · unfold dstD
    exact ite_r (grpD_r h) (uniD_r h)
theorem decI_back {p : Pkt} (hp : PkW p) (hv : validP p = true) {f t : Adr} (hf : adrValid f = true) (ht : adrValid t = true) {l : List Ctx} (hl : bytesL l) (hlv : validT l = true) {now now' : Int} (hn : vt now = true) (hn' : vt now' = true) (hle : now' ≤ now + 32) {rest : List Int} (hr : BL rest) (hrl : rest.length ≤ 140737488351232) :
    decI ((encI p f t l now).1 ++ rest) f t l now' = ((({ p.1 with sp := 0, dp := 0 }, []), ((encI p f t l now).1.length : Int)), 0) := by
  have hbl := encI_bl hp f t l now
  have hlen := encI_len p f t l now
  have hE := encI_ok hv hf ht hlv hn
  have hcv : p.1.flow ≤ 1048575 ∧ mcast p.1.src = false := by
    unfold validP at hv
    simp only [Bool.and_eq_true, decide_eq_true_eq, Bool.not_eq_true'] at hv
    exact ⟨hv.1.1.1, hv.1.1.2⟩
  have hb1 : byteOk p.1.src := ⟨fun q => by have := hp.src q.1; rw [vget_lt _ q.2] at this; exact this⟩
  have hb2 : byteOk p.1.dst := ⟨fun q => by have := hp.dst q.1; rw [vget_lt _ q.2] at this; exact this⟩
  have wU := uni_w p.1.src f true l now
  have wD := dst_w p t l now
  obtain ⟨c, ec⟩ : ∃ c, (encI p f t l now).1 = c := ⟨_, rfl⟩
  have hc : c = joinH p (uniF p.1.src f true l now) (dstF p t l now) := by rw [← ec, hE]
  rw [ec] at hbl hlen ⊢
  obtain ⟨C, eC⟩ : ∃ C, c ++ rest = C := ⟨_, rfl⟩
  have r0 : RdOk C 0 := ⟨by rw [← eC]; exact bl_app hbl hr, by rw [← eC, List.length_append]; omega, Int.le_refl 0, Int.natCast_nonneg _⟩
  have hcon : checkF f t l now' = 0 := by unfold checkF; rw [if_pos ⟨hf, ht, hlv⟩, if_pos hn']
  obtain ⟨s1, s2, s3, s4, s5, s6⟩ := sec_bits wU wD (mcast p.1.dst)
  obtain ⟨y, ey⟩ : ∃ y, secF (uniF p.1.src f true l now).1 (dstF p t l now).1 (mcast p.1.dst) = y := ⟨_, rfl⟩
  rw [ey] at s1 s2 s3 s4 s5 s6
  obtain ⟨ids, ei⟩ : ∃ i, 16 * (uniF p.1.src f true l now).1.id + (dstF p t l now).1.id = i := ⟨_, rfl⟩
  rw [ei] at s6
  have hd0 : C.drop (0 : Int).toNat = C := rfl
  have hC : C = [firstF p, y] ++ (if ids ≠ 0 then [ids] else []) ++ (inlF p ++ ((uniF p.1.src f true l now).2 ++ ((dstF p t l now).2 ++ rest))) := by
    rw [← eC, hc]
    unfold joinH
    rw [ey, ei]
    simp only [List.append_assoc]
  have hx := first_r p
  -- the destination's facts
  have hmode : (dstF p t l now).1.ctx = true → mcast p.1.dst = false ∧ (dstF p t l now).1.mode ≠ 0 := fun g => by
    unfold dstF at g ⊢
    cases hm : mcast p.1.dst with
    | true =>
      rw [hm, if_pos rfl] at g
      unfold grpF at g
      split at g
      · cases g
      · split at g
        · cases g
        · split at g <;> cases g
    | false =>
      rw [hm, if_neg (by decide)] at g
      refine ⟨rfl, ?_⟩
      rw [if_neg (by decide)]
      have := uni_back (C := (uniF p.1.dst t false l now).2 ++ []) (post := []) (q := 0) (now' := now') (k := t) (src := false) (a := p.1.dst) hb2 hm hl hn' hle (Int.le_refl 0) (fun h => Bool.noConfusion h.1) rfl
      exact this.1 g
  have hbad : badY y = false := by
    unfold badY
    rw [s4, s3, s5]
    cases hg : (dstF p t l now).1.ctx with
    | false => rfl
    | true =>
      obtain ⟨g1, g2⟩ := hmode hg
      rw [g1, decide_eq_false g2]; rfl
  obtain ⟨k1, p1, q1, d1⟩ := start_back (C := C) (x := firstF p) (y := y) (ids := ids) (by omega) hbad s6 hC
  obtain ⟨k2, p2, q2, d2⟩ := fields_back hp hcv.1 p1 d1
  have hidU : ids / 16 = (uniF p.1.src f true l now).1.id ∧ ids % 16 = (dstF p t l now).1.id := by
    have := wU.id
    have := wD.id
    omega
  -- the source
  have hsrc : ∃ k3, 0 ≤ k3 ∧ srcD C y ids f l now' k2 = ((p.1.src, 0), k3) ∧ C.drop k3.toNat = (dstF p t l now).2 ++ rest := by
    unfold srcD
    rw [s1, s2, hidU.1]
    by_cases hz : true = true ∧ ipEq p.1.src zeroA = true
    · rw [uni_0 hz] at d2 ⊢
      rw [if_neg (fun g => g.elim (fun g => Bool.noConfusion g) (fun g => g rfl))]
      refine ⟨k2, p2, ?_, d2⟩
      rw [show p.1.src = zeroA from ipEq_iff.1 hz.2]
    · obtain ⟨u1, k3, u2, u3, u4⟩ := uni_back (now' := now') hb1 hcv.2 hl hn' hle p2 hz d2
      have hcond : (uniF p.1.src f true l now).1.ctx = false ∨ (uniF p.1.src f true l now).1.mode ≠ 0 := by
        cases hg : (uniF p.1.src f true l now).1.ctx with
        | false => exact .inl rfl
        | true => exact .inr (u1 hg)
      rw [if_pos hcond]
      exact ⟨k3, u2, u3, u4⟩
  obtain ⟨k3, p3, q3, d3⟩ := hsrc
  -- the destination
  have hdst : ∃ k4, 0 ≤ k4 ∧ dstD C y ids t l now' k3 = ((p.1.dst, 0), k4) ∧ C.drop k4.toNat = rest := by
    unfold dstD
    rw [s3, s4, s5, hidU.2]
    unfold dstF at d3 ⊢
    cases hm : mcast p.1.dst with
    | true =>
      rw [hm, if_pos rfl] at d3
      rw [if_pos rfl, if_pos rfl]
      exact grp_back hb2 hm p3 d3
    | false =>
      rw [hm, if_neg (by decide)] at d3
      rw [if_neg (by decide), if_neg (by decide)]
      exact (uni_back (now' := now') hb2 hm hl hn' hle p3 (fun h => Bool.noConfusion h.1) d3).2
  obtain ⟨k4, p4, q4, d4⟩ := hdst
  have hR : readD C f t l now' = (({ p.1 with sp := 0, dp := 0 }, 0), k4) := by
    unfold readD
    rw [q1, thenD_ok]
    dsimp only
    rw [q2, thenD_ok, q3, thenD_ok, q4, thenD_ok]
  have hk : k4 = c.length := by
    have h1 := readD_r (f := f) (t := t) (l := l) (now := now') r0
    rw [hR] at h1
    have h2 : k4 ≤ C.length := h1.hi
    have h3 : C.length - k4.toNat = rest.length := by rw [← List.length_drop, d4]
    rw [← eC, List.length_append] at h2 h3
    omega
  rw [eC, decI_v hcon hR, hk]
end Go.Proofs.Ytjknkfjhcapocaa.AX
/- What the makers draw from a tape: valid link addresses; contexts. -/
namespace Go.Proofs.Ytjknkfjhcapocaa.AX
open Go.RowKit
set_option linter.unusedVariables false
set_option linter.unusedSimpArgs false
structure AdrW (a : Adr) : Prop where
  v : adrValid a = true
  short : 0 ≤ a.short ∧ a.short < 65536
  eui : 0 ≤ a.eui ∧ a.eui < 18446744073709551616
structure DevW (a : Adr) : Prop where
  s : adrSome a = true
  w : AdrW a
theorem wr16 (z : Int) : 0 ≤ IntKind.u16.wrap z ∧ IntKind.u16.wrap z < 65536 := by
  simp only [IntKind.wrap, IntKind.signed, IntKind.bits]
  constructor
  · exact Int.emod_nonneg _ (by decide)
  · exact Int.emod_lt_of_pos _ (by decide)
theorem wr64 (z : Int) : 0 ≤ IntKind.u64.wrap z ∧ IntKind.u64.wrap z < 18446744073709551616 := by
  simp only [IntKind.wrap, IntKind.signed, IntKind.bits]
  constructor
  · exact Int.emod_nonneg _ (by decide)
  · exact Int.emod_lt_of_pos _ (by decide)
theorem z16 : (0 : Int) ≤ 0 ∧ (0 : Int) < 65536 := by decide
theorem z64 : (0 : Int) ≤ 0 ∧ (0 : Int) < 18446744073709551616 := by decide
theorem dev_3 {e : Int} (h : 0 ≤ e ∧ e < 18446744073709551616) : DevW ⟨3, 0, e⟩ := ⟨rfl, rfl, z16, h⟩
theorem dev_2 {e : Int} (h : 0 ≤ e ∧ e < 65536) : DevW ⟨2, e, 0⟩ := ⟨rfl, rfl, h, z64⟩
set_option maxRecDepth 10000 in
theorem device2_ok (n : Nat) (l : List Int) (q : Int) (ht : TapeOk n (rI l) q) :
    ∃ (r : Adr) (q' : Int), DevW r ∧ TapeOk n (rI l) q' ∧ MethOk Try.prog 42 [] (tapeN n (rI l) q) ((cE eAdr).enc r) (tapeN n (rI l) q') := by
  refine tape_intro (wd := 1) (Q := mkQ LT1) (by decide) tysOk (q_of LT1_ok) mixed Try.func42 rfl _ (by show 0 + 1 ≤ _; decide) (nff_elem eAdr) ?_
  repeat' (first | (apply And.intro <;> intro hc <;> (first | exact Bool.noConfusion hc | (simp only [decide_eq_true_eq, decide_eq_false_iff_not, Bool.not_eq_true', Bool.not_eq_false', beq_iff_eq, beq_eq_false_iff_ne, bne_iff_ne, bne_eq_false_iff_eq, Bool.true_eq_false, Bool.false_eq_true] at hc) | skip)) | (refine And.intro (by first | exact trivial | decide | omega | (dsimp only; omega) | exact fun _ _ => rfl | exact ⟨by assumption, by first | exact trivial | decide | omega | (dsimp only; omega)⟩) ?_) | (apply And.intro) | (intro s hs))
  · exact ⟨(⟨3, 0, _⟩, _), ⟨dev_3 (wr64 _), by assumption⟩, ⟨leF_e (leE_all ⟨⟨⟨trivial, leC_int rfl⟩, leC_int rfl⟩, leC_int rfl⟩), tapeN_le⟩⟩
  · exact ⟨(⟨2, _, 0⟩, _), ⟨dev_2 (wr16 _), by assumption⟩, ⟨leF_e (leE_all ⟨⟨⟨trivial, leC_int rfl⟩, leC_int rfl⟩, leC_int rfl⟩), tapeN_le⟩⟩
abbrev dev2E : Entry := tapeE AC.nil (fun _ => True) (fun a (r : Adr) => DevW r) (cE eAdr).enc
def LT3 : CsL := (42, some dev2E) :: LT2
theorem LT3_ok : AllOk Try.prog LT3 := ⟨tapeE_ok ⟨_, Try.func42, rfl, by kernel_rfl⟩ fun n l q a ht hp => device2_ok n l q ht, LT2_ok⟩
theorem addr2_ok (n : Nat) (l : List Int) (q : Int) (ht : TapeOk n (rI l) q) :
    ∃ (r : Adr) (q' : Int), AdrW r ∧ TapeOk n (rI l) q' ∧ MethOk Try.prog 34 [] (tapeN n (rI l) q) ((cE eAdr).enc r) (tapeN n (rI l) q') := by
  refine tape_intro (wd := 1) (Q := mkQ LT3) (by decide) tysOk (q_of LT3_ok) mixed Try.func34 rfl _ (by show 0 + 1 ≤ _; decide) (nff_elem eAdr) ?_
  repeat' (first | (apply And.intro <;> intro hc <;> (first | exact Bool.noConfusion hc | (simp only [decide_eq_true_eq, decide_eq_false_iff_not, Bool.not_eq_true', Bool.not_eq_false', beq_iff_eq, beq_eq_false_iff_ne, bne_iff_ne, bne_eq_false_iff_eq, Bool.true_eq_false, Bool.false_eq_true] at hc) | skip)) | (refine And.intro (by first | exact trivial | decide | omega | (dsimp only; omega) | exact fun _ _ => rfl | exact ⟨by assumption, by first | exact trivial | decide | omega | (dsimp only; omega)⟩) ?_) | (apply And.intro) | (intro s hs))
  · exact ⟨(⟨2, 65535, 0⟩, _), ⟨(dev_2 (e := 65535) (by decide)).w, by assumption⟩, ⟨leF_e (leE_all ⟨⟨⟨trivial, leC_int rfl⟩, leC_int rfl⟩, leC_int rfl⟩), tapeN_le⟩⟩
  · exact ⟨(⟨0, 0, 0⟩, _), ⟨⟨rfl, z16, z64⟩, by assumption⟩, ⟨leF_e (leE_all ⟨⟨⟨trivial, leC_int rfl⟩, leC_int rfl⟩, leC_int rfl⟩), tapeN_le⟩⟩
  · rename_i r hr
    exact ⟨(r, _), ⟨hr.w, by assumption⟩, ⟨leF_e (leE_all ⟨⟨⟨trivial, leC_int rfl⟩, leC_int rfl⟩, leC_int rfl⟩), tapeN_le⟩⟩
abbrev addr2E : Entry := tapeE AC.nil (fun _ => True) (fun a (r : Adr) => AdrW r) (cE eAdr).enc
theorem valid_snoc {x : Ctx} (h1 : vpf (pfxOf x) = true) (h2 : vt x.til = true) (h3 : x.id < 16) : ∀ (L : List Ctx) (b : Int), validFrom b L = true → (∀ c ∈ L, c.id < x.id) → b < x.id → validFrom b (L ++ [x]) = true := by
  intro L
  induction L with
  | nil => intro b _ _ hb; simp [validFrom, h1, h2, h3, hb]
  | cons c L ih =>
    intro b hv hid hb
    simp only [List.cons_append, validFrom, Bool.and_eq_true] at hv ⊢
    exact ⟨hv.1, ih c.id hv.2 (fun d hd => hid d (List.mem_cons_of_mem _ hd)) (hid c (List.mem_cons_self ..))⟩
structure madeL (L : List Ctx) : Prop where
  v : validT L = true
  n : L.length ≤ 16
  b : ∀ c ∈ L, byteOk c.ip
structure CtxS (n : Nat) (l : List Int) where
  i : Nat
  L : List Ctx
  q : Int
  hi : i ≤ 16
  hv : validT L = true
  hid : ∀ c ∈ L, c.id < i
  hn : L.length ≤ i
  hb : ∀ c ∈ L, byteOk c.ip
  ht : TapeOk n (rI l) q
theorem nff_slR {L : List Ctx} : NFF (.e (.c (slR eCtx L))) := nff_c (nf_sl fun i _ j _ => (eCtx.flat _ _).nf)
set_option maxRecDepth 10000 in
theorem contexts_ok (n : Nat) (l : List Int) (q : Int) (ht : TapeOk n (rI l) q) :
    ∃ (r : List Ctx) (q' : Int), madeL r ∧ TapeOk n (rI l) q' ∧ MethOk Try.prog 35 [] (tapeN n (rI l) q) (.e (.c (slR eCtx r))) (tapeN n (rI l) q') := by
  refine tape_intro (enc := fun r => .e (.c (slR eCtx r))) (wd := 1) (Q := mkQ LT2) (by decide) tysOk (q_of LT2_ok) mixed Try.func35 rfl _ (by show 0 + 1 ≤ _; decide) (fun _ => nff_slR) ?_
  refine loop_intro (mono_of LT2_ok) (fun s : CtxS n l => (⟨[(0, one (.ptr 0 0 0 false)), (3, one (.os 7 0 s.L.length)), (4, one (.int .i64 (s.i : Int)))],
    [(0, some (tapeN n (rI l) s.q)), (7, some (ents eCtx 82 s.L))], 8⟩ : Hd)) (fun s => 16 - s.i) (fun _ => rfl) ?_ ⟨0, [], q, by omega, rfl, by simp, by simp, by simp, ht⟩ [(7, none)] ?_
  · rintro ⟨i, L, q1, hi, hv, hid, hn, hb, ht1⟩
    dsimp only at hi hv hid hn hb ⊢
    repeat' (first | (apply And.intro <;> intro hc <;> (first | exact Bool.noConfusion hc | (simp only [decide_eq_true_eq, decide_eq_false_iff_not, Bool.not_eq_true', Bool.not_eq_false', beq_iff_eq, beq_eq_false_iff_ne, bne_iff_ne, bne_eq_false_iff_eq, Bool.true_eq_false, Bool.false_eq_true] at hc) | skip)) | (refine And.intro (by first | exact trivial | decide | omega | (dsimp only; omega) | exact fun _ _ => rfl | exact ⟨by assumption, by first | exact trivial | decide | omega | (dsimp only; omega)⟩) ?_) | (apply And.intro) | (intro s hs))
    · rename_i sb hsb sq1 hsq1 p hp sq2 hsq2 v hv' sq3 hsq3 u hu
      have hu' : 0 ≤ u ∧ u < 50 := hu
      refine ⟨⟨i + 1, L ++ [⟨i, p.ip, p.bits, decide (0 < v), u⟩], _, by omega, ?_, ?_, by simp; omega, ?_, hs⟩, [(7, some 23)], by dsimp only; omega, rfl, ?_, ?_⟩
      · refine valid_snoc ?_ ?_ ?_ L (-1) hv hid ?_
        · exact hp.1
        · simp [vt]; omega
        · show (i : Int) < 16; omega
        · show (-1 : Int) < i; omega
      · intro c hc
        rcases List.mem_append.1 hc with h | h
        · have := hid c h; omega
        · rw [List.mem_singleton.1 h]; show (i : Int) < ((i + 1 : Nat) : Int); omega
      · intro c hc
        rcases List.mem_append.1 hc with h | h
        · exact hb c h
        · rw [List.mem_singleton.1 h]; exact hp.2
      · repeat' (first | exact trivial | exact rfl | exact leF_ptr rfl | exact leF_int rfl | exact leF_bool rfl | exact leF_cl (cl_slB _ _) | exact leF_cl (cl_slR _ _) | exact leF_cl (cl_ll _ _) | exact leF_c (leC_os rfl rfl) | refine leF_int ?_ | refine leF_bool ?_ | exact leN_varA (fun _ _ => (Elem.flat _ _ _).le) | exact leN_varA (fun _ _ => leC_top) | apply And.intro)
        · exact leF_c (leC_os rfl (by simp))
        · refine (IntWalk.i64_in _ ?_).trans ?_
          · constructor <;> omega
          · dsimp only
            omega
      · repeat' (first | exact trivial | exact rfl | exact leF_ptr rfl | exact leF_int rfl | exact leF_bool rfl | exact leF_cl (cl_slB _ _) | exact leF_cl (cl_slR _ _) | exact leF_cl (cl_ll _ _) | exact leF_c (leC_os rfl rfl) | refine leF_int ?_ | refine leF_bool ?_ | exact leN_varA (fun _ _ => (Elem.flat _ _ _).le) | exact leN_varA (fun _ _ => leC_top) | apply And.intro)
        · exact tapeN_le
        · (change LeN _ _ _; refine leN_snoc (E := eCtx) (L := L) (x := ⟨i, p.ip, p.bits, decide (0 < v), u⟩) rfl (fun i hi j hj => selC_in (Nat.ble_eq_true_of_le hi) (Elem.flat _ _ _).le) ?_; repeat' (first | exact trivial | (refine selC_out (blt_self _) ?_; rw [Nat.sub_self]; first | exact leC_int rfl | exact leC_bool rfl | exact leC_bool (by assumption)) | apply And.intro))
    · refine ⟨⟨i + 1, L, _, by omega, hv, fun c hc => by have := hid c hc; omega, by omega, hb, hs⟩, [], by dsimp only; omega, rfl, ?_, ?_⟩
      · repeat' (first | exact trivial | exact rfl | exact leF_ptr rfl | exact leF_int rfl | exact leF_bool rfl | exact leF_cl (cl_slB _ _) | exact leF_cl (cl_slR _ _) | exact leF_cl (cl_ll _ _) | exact leF_c (leC_os rfl rfl) | refine leF_int ?_ | refine leF_bool ?_ | exact leN_varA (fun _ _ => (Elem.flat _ _ _).le) | exact leN_varA (fun _ _ => leC_top) | apply And.intro)
        refine (IntWalk.i64_in _ ?_).trans ?_
        · constructor <;> omega
        · dsimp only
          omega
      · repeat' (first | exact trivial | exact rfl | exact leF_ptr rfl | exact leF_int rfl | exact leF_bool rfl | exact leF_cl (cl_slB _ _) | exact leF_cl (cl_slR _ _) | exact leF_cl (cl_ll _ _) | exact leF_c (leC_os rfl rfl) | refine leF_int ?_ | refine leF_bool ?_ | exact leN_varA (fun _ _ => (Elem.flat _ _ _).le) | exact leN_varA (fun _ _ => leC_top) | apply And.intro)
        · exact tapeN_le
        · exact leN_ents
    · exact ⟨(L, q1), ⟨⟨hv, (show L.length ≤ 16 by omega), hb⟩, ht1⟩, ⟨leF_c (leC_row_fin rfl rfl), tapeN_le⟩⟩
  · refine ⟨rfl, ?_, ?_⟩
    · repeat' (first | exact trivial | exact rfl | exact leF_ptr rfl | exact leF_int rfl | exact leF_bool rfl | exact leF_cl (cl_slB _ _) | exact leF_cl (cl_slR _ _) | exact leF_cl (cl_ll _ _) | exact leF_c (leC_os rfl rfl) | refine leF_int ?_ | refine leF_bool ?_ | exact leN_varA (fun _ _ => (Elem.flat _ _ _).le) | exact leN_varA (fun _ _ => leC_top) | apply And.intro)
      exact leF_c (leC_nils_os rfl)
    · repeat' (first | exact trivial | exact rfl | exact leF_ptr rfl | exact leF_int rfl | exact leF_bool rfl | exact leF_cl (cl_slB _ _) | exact leF_cl (cl_slR _ _) | exact leF_cl (cl_ll _ _) | exact leF_c (leC_os rfl rfl) | refine leF_int ?_ | refine leF_bool ?_ | exact leN_varA (fun _ _ => (Elem.flat _ _ _).le) | exact leN_varA (fun _ _ => leC_top) | apply And.intro)
      · exact tapeN_le
      · exact eCtx_sz
abbrev ctxsE : Entry := tapeE AC.nil (fun _ => True) (fun a (r : List Ctx) => madeL r) (fun r => .e (.c (slR eCtx r)))
def LT4 : CsL := (34, some addr2E) :: (35, some ctxsE) :: LT3
theorem LT4_ok : AllOk Try.prog LT4 := ⟨tapeE_ok ⟨_, Try.func34, rfl, by kernel_rfl⟩ fun n l q a ht hp => addr2_ok n l q ht, tapeE_ok ⟨_, Try.func35, rfl, by kernel_rfl⟩ fun n l q a ht hp => contexts_ok n l q ht, LT3_ok⟩
end Go.Proofs.Ytjknkfjhcapocaa.AX
/- The laws about compressed headers: known, all contracts. -/
namespace Go.Proofs.Ytjknkfjhcapocaa.AX
open Go.RowKit
set_option linter.unusedVariables false
set_option linter.unusedSimpArgs false
def k1 : Adr := ⟨2, 1, 0⟩
def k2 : Adr := ⟨2, 2, 0⟩
theorem k_link1 : linkF k1 = (jn llP.ip 1099478073345, true) := rfl
theorem k_link2 : linkF k2 = (jn llP.ip 1099478073346, true) := rfl
theorem k_enc : encI (hP 64 (jn llP.ip 1099478073345) (jn llP.ip 1099478073346)) k1 k2 [] 0 = ([126, 51], 0) := by decide +kernel
theorem zero_w {X Y : Fin 16 → Int} (hX : byteOk X) (hY : byteOk Y) {h : Int} (hh : 0 ≤ h ∧ h < 256) : PkW (hP h X Y) := ⟨(by decide : (0 : Int) ≤ 0 ∧ (0 : Int) < 256), (by decide : (0 : Int) ≤ 0 ∧ (0 : Int) < 4294967296), (by decide : (0 : Int) ≤ 17 ∧ (17 : Int) < 256), hh, fun i => hX.v i, fun i => hY.v i, (by decide : (0 : Int) ≤ 0 ∧ (0 : Int) < 65536), (by decide : (0 : Int) ≤ 0 ∧ (0 : Int) < 65536), BL.nil⟩
theorem bytes_nil : bytesL [] := ⟨(fun c h => by cases h), Nat.zero_le _⟩
theorem pk_hP {G : Nat → CV} {F : Nat → Nat → CV} {h : Int} {X Y : Fin 16 → Int} (hG : ∀ j, j < 38 → G j = eHd.cell (hP h X Y).1 j) : ((eHd.rd G, toL eB 0 F) : Pkt) = hP h X Y := pk_is (h := (hP h X Y).1) (l := []) hG rfl
def LIe : CsL := (41, some enIE) :: (LT4 ++ (LMp ++ (LRa ++ LAd)))
theorem LIe_ok : AllOk Try.prog LIe := ⟨enIE_ok, append_ok LT4_ok (append_ok LMp_ok (append_ok LRa_ok LAd_ok))⟩
set_option maxHeartbeats 8000000 in
set_option maxRecDepth 20000 in
theorem known14_ok : PureOk Try.prog 38 [] (cB.enc true) := by
  have hX : byteOk (jn llP.ip 1099478073345) := jn_ok llP_b _
  have hY : byteOk (jn llP.ip 1099478073346) := jn_ok llP_b _
  have hW := zero_w hX hY (h := 64) (by decide)
  have e1 := k_link1
  have e2 := k_link2
  have e3 := k_enc
  obtain ⟨X, eX⟩ : ∃ X, jn llP.ip 1099478073345 = X := ⟨_, rfl⟩
  obtain ⟨Y, eY⟩ : ∃ X, jn llP.ip 1099478073346 = X := ⟨_, rfl⟩
  rw [eX] at hX hW e1 e3
  rw [eY] at hY hW e2 e3
  have g1 : True := trivial
  have g2 : True := trivial
  refine pure_intro (wd := 1) (Q := mkQ LIe) (by decide) tysOk (q_of LIe_ok) mixed Try.func38 rfl _ (by show 0 ≤ _; decide) _ ?_
  repeat' (first | (apply And.intro <;> intro hc <;> (first | exact Bool.noConfusion hc | (simp only [decide_eq_true_eq, decide_eq_false_iff_not, Bool.not_eq_true', Bool.not_eq_false', beq_iff_eq, beq_eq_false_iff_ne, bne_iff_ne, bne_eq_false_iff_eq, Bool.true_eq_false, Bool.false_eq_true, ne_eq, not_true_eq_false] at hc <;> first | exact absurd rfl hc | skip) | skip)) | (refine And.intro (by first | exact trivial | decide | omega | (dsimp only; omega) | exact fun _ _ => rfl | exact ⟨by assumption, by first | exact trivial | decide | omega | (dsimp only; omega)⟩) ?_) | (apply And.intro) | (intro s hs; (first | (clear g1; have q : s = (X, true) := hs.trans e1; clear hs; subst q) | (clear g2; have q : s = (Y, true) := hs.trans e2; clear hs; subst q) | (have q : s = ([126, 51], 0) := (by (refine hs.trans ((congrArg (fun p => encI p k1 k2 [] 0) (pk_hP (h := 64) (X := X) (Y := Y) (fun j hj => ?_))).trans e3)); (iterate 38 (rcases j with _ | j; exact rfl)); exact absurd hj (by omega)); clear hs; subst q) | skip)))
  · refine Eq.mp (congrArg PkW (pk_hP (h := 64) (X := X) (Y := Y) (fun j hj => ?_)).symm) hW
    iterate 38 (rcases j with _ | j; exact rfl)
    exact absurd hj (by omega)
  · exact Nat.zero_le _
  · exact bytes_nil
  · exact Done.mk (leF_bool rfl)
abbrev kn14E : Entry := pureE AC.nil (fun _ => True) (fun _ => true) cB.enc
def LWi : CsL := (38, some kn14E) :: LIe
theorem LWi_ok : AllOk Try.prog LWi := ⟨pureE_ok ⟨_, Try.func38, rfl, by kernel_rfl⟩ fun _ _ => known14_ok, LIe_ok⟩
end Go.Proofs.Ytjknkfjhcapocaa.AX
/- Multicast destinations: what they cost, and that they are read back: plain laws. -/
namespace Go.Proofs.Ytjknkfjhcapocaa.AX
open Go.RowKit
set_option linter.unusedVariables false
set_option linter.unusedSimpArgs false
def adr0 : Adr := ⟨0, 0, 0⟩
theorem zeroA_b : byteOk zeroA := ⟨fun q => (by decide : (0 : Int) ≤ 0 ∧ (0 : Int) < 256)⟩
theorem zr_nil (a : Fin 16 → Int) (i : Nat) : zr a i i = true := zr_of fun k h1 h2 _ => absurd h2 (by omega)
theorem zr_succ {a : Fin 16 → Int} {i j : Nat} (hij : i ≤ j) (hj : j < 16) : zr a i (j + 1) = (zr a i j && vget a j == 0) := by
  cases h : zr a i j with
  | false =>
    rw [Bool.false_and]
    cases h1 : zr a i (j + 1) with
    | false => rfl
    | true => rw [zr_of (i := i) (j := j) fun k g1 g2 g3 => zr_at h1 k g1 (by omega) g3] at h; cases h
  | true =>
    rw [Bool.true_and]
    by_cases h0 : vget a j = 0
    · rw [h0]
      exact zr_of fun k g1 g2 g3 => by
        rcases Nat.lt_or_ge k j with g | g
        · exact zr_at h k g1 g g3
        · rw [show k = j by omega]; exact h0
    · rw [zr_no hij (Nat.lt_succ_self j) hj h0]
      exact (beq_eq_false_iff_ne.2 h0).symm
theorem groups_law {d : Fin 16 → Int} {a : Adr} (hd : byteOk d) (hm : mcast d = true) (ha : adrValid a = true) :
    ∃ c, encI (hP 1 zeroA d) a adr0 [] 0 = (c, 0) ∧ BL c ∧ c.length = 2 + (grpF d).2.length ∧ decI c a adr0 [] 0 = ((hP 1 zeroA d, (c.length : Int)), 0) := by
  have hw := zero_w zeroA_b hd (h := 1) (by decide)
  have hv : validP (hP 1 zeroA d) = true := hP_v (by decide)
  have h0 : adrValid adr0 = true := rfl
  have hE := encI_ok hv ha h0 (l := []) rfl (now := 0) rfl
  have hbk := decI_back hw hv ha h0 bytes_nil (l := []) rfl (now := 0) (now' := 0) rfl rfl (by decide) (rest := []) BL.nil (Nat.zero_le _)
  have hB := encI_bl hw a adr0 [] 0
  have hD : dstF (hP 1 zeroA d) adr0 [] 0 = grpF d := by
    unfold dstF
    rw [show (hP 1 zeroA d).1.dst = d from rfl, hm, if_pos rfl]
  rw [hD] at hE
  have hU : uniF (hP 1 zeroA d).1.src a true [] 0 = (⟨true, 0, 0⟩, []) := uni_0 ⟨rfl, ipEq_iff.2 rfl⟩
  rw [hU] at hE
  have hL : (encI (hP 1 zeroA d) a adr0 [] 0).1.length = 2 + (grpF d).2.length := by
    rw [hE]
    show (joinH _ _ _).length = _
    rw [join_len, (grp_len d).2, show (inlF (hP 1 zeroA d)).length = 0 from rfl]
    simp
  rw [List.append_nil] at hbk
  refine ⟨(encI (hP 1 zeroA d) a adr0 [] 0).1, by rw [hE], hB, hL, hbk⟩
/-- The bytes that a destination costs, as the law counts them. -/
def costF (d : Fin 16 → Int) : Int :=
  if zr d 2 11 = true ∧ vget d 11 = 0 ∧ vget d 12 = 0 ∧ vget d 13 = 0 ∧ vget d 14 = 0 ∧ vget d 1 = 2 then 1
  else if zr d 2 11 = true ∧ vget d 11 = 0 ∧ vget d 12 = 0 then 4 else if zr d 2 11 = true then 6 else 16
theorem cost_eq (d : Fin 16 → Int) : ((grpF d).2.length : Int) = costF d := by
  have e12 := zr_succ (a := d) (i := 2) (j := 11) (by decide) (by decide)
  have e13 := zr_succ (a := d) (i := 2) (j := 12) (by decide) (by decide)
  have e14 := zr_succ (a := d) (i := 2) (j := 13) (by decide) (by decide)
  have e15 := zr_succ (a := d) (i := 2) (j := 14) (by decide) (by decide)
  have h13 : zr d 2 13 = true ↔ zr d 2 11 = true ∧ vget d 11 = 0 ∧ vget d 12 = 0 := by
    rw [e13, e12]; simp [and_assoc]
  have h15 : vget d 1 = 2 ∧ zr d 2 15 = true ↔ zr d 2 11 = true ∧ vget d 11 = 0 ∧ vget d 12 = 0 ∧ vget d 13 = 0 ∧ vget d 14 = 0 ∧ vget d 1 = 2 := by
    rw [e15, e14, e13, e12]; simp only [Bool.and_eq_true, beq_iff_eq, and_assoc]
    constructor
    · rintro ⟨a, b, c, e, f, g⟩; exact ⟨b, c, e, f, g, a⟩
    · rintro ⟨b, c, e, f, g, a⟩; exact ⟨a, b, c, e, f, g⟩
  unfold grpF costF
  by_cases c1 : vget d 1 = 2 ∧ zr d 2 15 = true
  · rw [if_pos c1, if_pos (h15.1 c1)]; rfl
  · rw [if_neg c1, if_neg (fun h => c1 (h15.2 h))]
    by_cases c2 : zr d 2 13 = true
    · rw [if_pos c2, if_pos (h13.1 c2)]; rfl
    · rw [if_neg c2, if_neg (fun h => c2 (h13.2 h))]
      by_cases c3 : zr d 2 11 = true
      · rw [if_pos c3, if_pos c3]; rfl
      · rw [if_neg c3, if_neg c3]
        show ((ipL d).length : Int) = 16
        rw [ipL_len]; rfl
end Go.Proofs.Ytjknkfjhcapocaa.AX
/- What the maker Group draws is a multicast address. -/
namespace Go.Proofs.Ytjknkfjhcapocaa.AX
open Go.RowKit
set_option linter.unusedVariables false
set_option linter.unusedSimpArgs false
theorem setV_m {a : Fin 16 → Int} {i : Nat} {v : Int} (ha : byteOk a ∧ mcast a = true) (hv : 0 ≤ v ∧ v < 256) (hi : 1 ≤ i) : byteOk (setV a i v) ∧ mcast (setV a i v) = true := ⟨setV_ok ha.1 hv, by
  have h := ha.2
  unfold mcast at h ⊢
  rw [vget_lt _ (by decide)] at h ⊢
  unfold setV
  rw [if_neg (show ¬ (0 : Nat) = i by omega)]
  exact h⟩
structure GrpS2 (n : Nat) (l : List Int) where
  i : Nat
  a : Fin 16 → Int
  q : Int
  hi : i ≤ 15
  ha : byteOk a ∧ mcast a = true
  ht : TapeOk n (rI l) q
set_option maxRecDepth 10000 in
theorem group2_ok (n : Nat) (l : List Int) (q : Int) (ht : TapeOk n (rI l) q) :
    ∃ (r : Fin 16 → Int) (q' : Int), (byteOk r ∧ mcast r = true) ∧ TapeOk n (rI l) q' ∧ MethOk Try.prog 62 [] (tapeN n (rI l) q) ((cE (eA .u8 16)).enc r) (tapeN n (rI l) q') := by
  refine tape_intro (wd := 1) (Q := mkQ LT1) (by decide) tysOk (q_of LT1_ok) mixed Try.func62 rfl _ (by show 0 + 1 ≤ _; decide) (nff_elem (eA .u8 16)) ?_
  repeat' (first | (apply And.intro <;> intro hc <;> (first | exact Bool.noConfusion hc | (simp only [decide_eq_true_eq, decide_eq_false_iff_not, Bool.not_eq_true', Bool.not_eq_false', beq_iff_eq, beq_eq_false_iff_ne, bne_iff_ne, bne_eq_false_iff_eq, Bool.true_eq_false, Bool.false_eq_true] at hc) | skip)) | (refine And.intro (by first | exact trivial | decide | omega | (dsimp only; omega) | exact fun _ _ => rfl | exact ⟨by assumption, by first | exact trivial | decide | omega | (dsimp only; omega)⟩) ?_) | (apply And.intro) | (intro s hs))
  · rename_i s1 hs1
    refine loop_intro (mono_of LT1_ok) (fun s : GrpS2 n l => (⟨[(0, one (.ptr 0 0 0 false)), (2, one (.ptr 1 0 0 false)), (3, one (.ptr 3 0 0 false)), (4, one (.int .i64 (s.i : Int)))],
      [(0, some (tapeN n (rI l) s.q)), (1, some ⟨24, 1, 16, true, fun _ _ => .top⟩), (3, some ⟨24, 1, 16, true, fun _ => (eA .u8 16).cell s.a⟩)], 50⟩ : Hd)) (fun s => s.i) (fun _ => rfl) ?_ ⟨15, fun q => if q.1 = 0 then 255 else if q.1 = 1 then IntKind.u8.wrap s1 else 0, _, by omega, ⟨⟨fun q => by have := u8r s1; split <;> (try split) <;> omega⟩, rfl⟩, hs⟩ [] ?_
    · rintro ⟨i, a, q1, hi, ha, ht1⟩
      dsimp only at hi ⊢
      repeat' (first | (apply And.intro <;> intro hc <;> (first | exact Bool.noConfusion hc | (simp only [decide_eq_true_eq, decide_eq_false_iff_not, Bool.not_eq_true', Bool.not_eq_false', beq_iff_eq, beq_eq_false_iff_ne, bne_iff_ne, bne_eq_false_iff_eq, Bool.true_eq_false, Bool.false_eq_true] at hc) | skip)) | (refine And.intro (by first | exact trivial | decide | omega | (dsimp only; omega) | exact fun _ _ => rfl | exact ⟨by assumption, by first | exact trivial | decide | omega | (dsimp only; omega)⟩) ?_) | (apply And.intro) | (intro s hs))
      · rename_i s1 hs1 sq1 hsq1 s2 hs2
        have hs1' : 0 ≤ s1 ∧ s1 < 15 := hs1
        have hw : IntKind.i64.wrap (15 - s1) = 15 - s1 := IntWalk.i64_in _ (by omega)
        have hc' : IntKind.i64.wrap (15 - s1) < (i : Int) := by assumption
        have hi2 : 1 ≤ i := by omega
        refine ⟨⟨i - 1, setV a i (IntKind.u8.wrap s2), _, by omega, setV_m ha (u8r _) hi2, hs⟩, [], by dsimp only; omega, rfl, ?_, ?_⟩
        · repeat' (first | exact trivial | exact rfl | exact leF_ptr rfl | exact leF_int rfl | exact leF_bool rfl | exact leF_cl (cl_slB _ _) | exact leF_cl (cl_slR _ _) | exact leF_cl (cl_ll _ _) | exact leF_c (leC_os rfl rfl) | refine leF_int ?_ | refine leF_bool ?_ | exact leN_varA (fun _ _ => (Elem.flat _ _ _).le) | exact leN_varA (fun _ _ => leC_top) | apply And.intro)
          refine (IntWalk.i64_in _ ?_).trans ?_
          · constructor <;> omega
          · dsimp only
            omega
        · repeat' (first | exact trivial | exact rfl | exact leF_ptr rfl | exact leF_int rfl | exact leF_bool rfl | exact leF_cl (cl_slB _ _) | exact leF_cl (cl_slR _ _) | exact leF_cl (cl_ll _ _) | exact leF_c (leC_os rfl rfl) | refine leF_int ?_ | refine leF_bool ?_ | exact leN_varA (fun _ _ => (Elem.flat _ _ _).le) | exact leN_varA (fun _ _ => leC_top) | apply And.intro)
          · exact tapeN_le
          · refine leN_varA fun j hj => ?_
            exact leC_int (setV_at (j := j) (by omega) hj)
      · exact ⟨(a, _), ⟨ha, by assumption⟩, ⟨leF_e (leE_all (by repeat' (first | exact trivial | exact rfl | exact leC_int rfl | exact leC_bool rfl | refine leE_all ?_ | exact leC_bool (by assumption) | apply And.intro))), tapeN_le⟩⟩
    · refine ⟨rfl, ?_, ?_⟩
      · repeat' (first | exact trivial | exact rfl | exact leF_ptr rfl | exact leF_int rfl | exact leF_bool rfl | exact leF_cl (cl_slB _ _) | exact leF_cl (cl_slR _ _) | exact leF_cl (cl_ll _ _) | exact leF_c (leC_os rfl rfl) | refine leF_int ?_ | refine leF_bool ?_ | exact leN_varA (fun _ _ => (Elem.flat _ _ _).le) | exact leN_varA (fun _ _ => leC_top) | apply And.intro)
      · repeat' (first | exact trivial | exact rfl | exact leF_ptr rfl | exact leF_int rfl | exact leF_bool rfl | exact leF_cl (cl_slB _ _) | exact leF_cl (cl_slR _ _) | exact leF_cl (cl_ll _ _) | exact leF_c (leC_os rfl rfl) | refine leF_int ?_ | refine leF_bool ?_ | exact leN_varA (fun _ _ => (Elem.flat _ _ _).le) | exact leN_varA (fun _ _ => leC_top) | apply And.intro)
        · exact tapeN_le
        · refine leN_var ?_
          repeat' (first | exact trivial | exact leC_int rfl | apply And.intro)
  · skip
    refine loop_intro (mono_of LT1_ok) (fun s : GrpS2 n l => (⟨[(0, one (.ptr 0 0 0 false)), (2, one (.ptr 1 0 0 false)), (3, one (.ptr 3 0 0 false)), (4, one (.int .i64 (s.i : Int)))],
      [(0, some (tapeN n (rI l) s.q)), (1, some ⟨24, 1, 16, true, fun _ _ => .top⟩), (3, some ⟨24, 1, 16, true, fun _ => (eA .u8 16).cell s.a⟩)], 50⟩ : Hd)) (fun s => s.i) (fun _ => rfl) ?_ ⟨15, fun q => if q.1 = 0 then 255 else if q.1 = 1 then 2 else 0, _, by omega, ⟨⟨fun q => by split <;> (try split) <;> omega⟩, rfl⟩, hs⟩ [] ?_
    · rintro ⟨i, a, q1, hi, ha, ht1⟩
      dsimp only at hi ⊢
      repeat' (first | (apply And.intro <;> intro hc <;> (first | exact Bool.noConfusion hc | (simp only [decide_eq_true_eq, decide_eq_false_iff_not, Bool.not_eq_true', Bool.not_eq_false', beq_iff_eq, beq_eq_false_iff_ne, bne_iff_ne, bne_eq_false_iff_eq, Bool.true_eq_false, Bool.false_eq_true] at hc) | skip)) | (refine And.intro (by first | exact trivial | decide | omega | (dsimp only; omega) | exact fun _ _ => rfl | exact ⟨by assumption, by first | exact trivial | decide | omega | (dsimp only; omega)⟩) ?_) | (apply And.intro) | (intro s hs))
      · rename_i s1 hs1 sq1 hsq1 s2 hs2
        have hs1' : 0 ≤ s1 ∧ s1 < 15 := hs1
        have hw : IntKind.i64.wrap (15 - s1) = 15 - s1 := IntWalk.i64_in _ (by omega)
        have hc' : IntKind.i64.wrap (15 - s1) < (i : Int) := by assumption
        have hi2 : 1 ≤ i := by omega
        refine ⟨⟨i - 1, setV a i (IntKind.u8.wrap s2), _, by omega, setV_m ha (u8r _) hi2, hs⟩, [], by dsimp only; omega, rfl, ?_, ?_⟩
        · repeat' (first | exact trivial | exact rfl | exact leF_ptr rfl | exact leF_int rfl | exact leF_bool rfl | exact leF_cl (cl_slB _ _) | exact leF_cl (cl_slR _ _) | exact leF_cl (cl_ll _ _) | exact leF_c (leC_os rfl rfl) | refine leF_int ?_ | refine leF_bool ?_ | exact leN_varA (fun _ _ => (Elem.flat _ _ _).le) | exact leN_varA (fun _ _ => leC_top) | apply And.intro)
          refine (IntWalk.i64_in _ ?_).trans ?_
          · constructor <;> omega
          · dsimp only
            omega
        · repeat' (first | exact trivial | exact rfl | exact leF_ptr rfl | exact leF_int rfl | exact leF_bool rfl | exact leF_cl (cl_slB _ _) | exact leF_cl (cl_slR _ _) | exact leF_cl (cl_ll _ _) | exact leF_c (leC_os rfl rfl) | refine leF_int ?_ | refine leF_bool ?_ | exact leN_varA (fun _ _ => (Elem.flat _ _ _).le) | exact leN_varA (fun _ _ => leC_top) | apply And.intro)
          · exact tapeN_le
          · refine leN_varA fun j hj => ?_
            exact leC_int (setV_at (j := j) (by omega) hj)
      · exact ⟨(a, _), ⟨ha, by assumption⟩, ⟨leF_e (leE_all (by repeat' (first | exact trivial | exact rfl | exact leC_int rfl | exact leC_bool rfl | refine leE_all ?_ | exact leC_bool (by assumption) | apply And.intro))), tapeN_le⟩⟩
    · refine ⟨rfl, ?_, ?_⟩
      · repeat' (first | exact trivial | exact rfl | exact leF_ptr rfl | exact leF_int rfl | exact leF_bool rfl | exact leF_cl (cl_slB _ _) | exact leF_cl (cl_slR _ _) | exact leF_cl (cl_ll _ _) | exact leF_c (leC_os rfl rfl) | refine leF_int ?_ | refine leF_bool ?_ | exact leN_varA (fun _ _ => (Elem.flat _ _ _).le) | exact leN_varA (fun _ _ => leC_top) | apply And.intro)
      · repeat' (first | exact trivial | exact rfl | exact leF_ptr rfl | exact leF_int rfl | exact leF_bool rfl | exact leF_cl (cl_slB _ _) | exact leF_cl (cl_slR _ _) | exact leF_cl (cl_ll _ _) | exact leF_c (leC_os rfl rfl) | refine leF_int ?_ | refine leF_bool ?_ | exact leN_varA (fun _ _ => (Elem.flat _ _ _).le) | exact leN_varA (fun _ _ => leC_top) | apply And.intro)
        · exact tapeN_le
        · refine leN_var ?_
          repeat' (first | exact trivial | exact leC_int rfl | apply And.intro)
abbrev grp2E : Entry := tapeE AC.nil (fun _ => True) (fun a (r : Fin 16 → Int) => byteOk r ∧ mcast r = true) (cE (eA .u8 16)).enc
def LGr0 : CsL := (62, some grp2E) :: []
theorem LGr0_ok : AllOk Try.prog LGr0 := ⟨tapeE_ok ⟨_, Try.func62, rfl, by kernel_rfl⟩ fun n l q a ht hp => group2_ok n l q ht, trivial⟩
end Go.Proofs.Ytjknkfjhcapocaa.AX
/- IphcShort, by AX2: the law returns true. -/
namespace Go.Proofs.Ytjknkfjhcapocaa.AX
open Go.RowKit
set_option linter.unusedVariables false
set_option linter.unusedSimpArgs false
theorem encI_congr {p p' : Pkt} {a a' b b' : Adr} {l l' : List Ctx} {n : Int} (h1 : p' = p) (h2 : a' = a) (h3 : b' = b) (h4 : l' = l) : encI p' a' b' l' n = encI p a b l n := by rw [h1, h2, h3, h4]
end Go.Proofs.Ytjknkfjhcapocaa.AX
/- IphcGroups, by AX2: the law returns true. -/
namespace Go.Proofs.Ytjknkfjhcapocaa.AX
open Go.RowKit
set_option linter.unusedVariables false
set_option linter.unusedSimpArgs false
def LGr : CsL := LGr0 ++ ((60, some decIE) :: LWi)
theorem LGr_ok : AllOk Try.prog LGr := append_ok LGr0_ok ⟨decIE_ok, LWi_ok⟩
def gF (g : Fin 16 → Int) : Fin 16 → Int := fun i => if i.1 = 0 then 255 else g i
theorem gF_ok {g : Fin 16 → Int} (h : byteOk g) : byteOk (gF g) := ⟨fun q => by unfold gF; have := h.q q; split <;> omega⟩
theorem gF_m (g : Fin 16 → Int) : mcast (gF g) = true := rfl
def lsD (G g : Fin 16 → Int) (i : Nat) : Fin 16 → Int := if i = 0 then G else gF g
theorem lsD_ok {G g : Fin 16 → Int} (h1 : byteOk G ∧ mcast G = true) (h2 : byteOk g) (i : Nat) : byteOk (lsD G g i) ∧ mcast (lsD G g i) = true := by
  unfold lsD
  split
  · exact h1
  · exact ⟨gF_ok h2, gF_m g⟩
theorem cost_1 {d : Fin 16 → Int} (h : zr d 2 11 = true) (a : vget d 11 = 0) (b : vget d 12 = 0) (c : vget d 13 = 0) (e : vget d 14 = 0) (f : vget d 1 = 2) : costF d = 1 := by unfold costF; rw [if_pos ⟨h, a, b, c, e, f⟩]
theorem cost_4 {d : Fin 16 → Int} (h : zr d 2 11 = true) (a : vget d 11 = 0) (b : vget d 12 = 0) (c : ¬ (vget d 13 = 0 ∧ vget d 14 = 0 ∧ vget d 1 = 2)) : costF d = 4 := by unfold costF; rw [if_neg (fun g => c g.2.2.2), if_pos ⟨h, a, b⟩]
theorem cost_6 {d : Fin 16 → Int} (h : zr d 2 11 = true) (c : ¬ (vget d 11 = 0 ∧ vget d 12 = 0)) : costF d = 6 := by unfold costF; rw [if_neg (fun g => c ⟨g.2.1, g.2.2.1⟩), if_neg (fun g => c g.2), if_pos h]
theorem cost_16 {d : Fin 16 → Int} (h : zr d 2 11 = false) : costF d = 16 := by unfold costF; rw [h, if_neg (fun g => Bool.noConfusion g.1), if_neg (fun g => Bool.noConfusion g.1), if_neg (fun g => Bool.noConfusion g)]
theorem cost_r (d : Fin 16 → Int) : 0 ≤ costF d ∧ costF d ≤ 16 := by
  unfold costF
  split
  · decide
  · split
    · decide
    · split
      · decide
      · decide
theorem eqd_no {g h : Nat → CV} {a : Fin 16 → Int} (e : eqFrom g h 16 0 = false) (hg : allLt 16 fun q => g q = .int .u8 (vget a q)) (hh : allLt 16 fun q => h q = .int .u8 (vget a q)) : False := by
  have e2 : eqFrom g h 16 0 = true := by
    rw [eqFrom_iff]
    intro i hi
    rw [Nat.zero_add, allLt_at hg i hi, allLt_at hh i hi]
    simp [eqCell]
  rw [e2] at e; cases e
structure GrS where
  i : Nat
  hi : i ≤ 2
structure LwS (d : Fin 16 → Int) where
  z : Nat
  hz : 2 ≤ z ∧ z ≤ 11
set_option maxHeartbeats 8000000 in
set_option maxRecDepth 20000 in
theorem igroups_ok (n : Nat) (l : List Int) (hl : rngL l) (g : Fin 16 → Int) (hg : byteOk g) : PureOk Try.prog 16 [.e (.c (.sl true n 1 (rI l))), (cE (eA .u8 16)).enc g] (.e (.c (.bool true))) := by
  refine pure_intro (wd := 1) (Q := mkQ LGr) (by decide) tysOk (q_of LGr_ok) mixed Try.func16 rfl _ (by show 2 ≤ _; decide) _ ?_
  repeat' (first | (apply And.intro <;> intro hc <;> (first | exact Bool.noConfusion hc | (simp only [decide_eq_true_eq, decide_eq_false_iff_not, Bool.not_eq_true', Bool.not_eq_false', beq_iff_eq, beq_eq_false_iff_ne, bne_iff_ne, bne_eq_false_iff_eq, Bool.true_eq_false, Bool.false_eq_true] at hc) | skip)) | (refine And.intro (by first | exact trivial | decide | omega | (dsimp only; omega) | exact fun _ _ => rfl | exact ⟨by assumption, by first | exact trivial | decide | omega | (dsimp only; omega)⟩) ?_) | (apply And.intro) | (intro s hs))
  · exact ⟨l, rfl, hl⟩
  intro ht0
  repeat' (first | (apply And.intro <;> intro hc <;> (first | exact Bool.noConfusion hc | (simp only [decide_eq_true_eq, decide_eq_false_iff_not, Bool.not_eq_true', Bool.not_eq_false', beq_iff_eq, beq_eq_false_iff_ne, bne_iff_ne, bne_eq_false_iff_eq, Bool.true_eq_false, Bool.false_eq_true] at hc) | skip)) | (refine And.intro (by first | exact trivial | decide | omega | (dsimp only; omega) | exact fun _ _ => rfl | exact ⟨by assumption, by first | exact trivial | decide | omega | (dsimp only; omega)⟩) ?_) | (apply And.intro) | (intro s hs))
  rename_i a ha q1 hq1 G hG
  refine loop_intro (mono_of LGr_ok) (fun s : GrS => (⟨[(6, one (.ptr 7 0 0 false)), (7, one (.os 14 0 2)), (8, one (.int .i64 (s.i : Int)))],
    [(7, some ⟨59, 1, 3, true, fun _ => eAdr.cell a⟩), (14, some ⟨24, 2, 16, false, fun i => (eA .u8 16).cell (lsD G g i)⟩)], 17⟩ : Hd)) (fun s => 2 - s.i) (fun _ => rfl) ?_ ⟨0, by omega⟩ [] ?_
  · rintro ⟨i, hi⟩
    dsimp only at hi ⊢
    have hD := lsD_ok hG hg (i : Int).toNat
    obtain ⟨d, ed⟩ : ∃ d, lsD G g (i : Int).toNat = d := ⟨_, rfl⟩
    rw [ed] at hD
    have ed0 : lsD G g (0 + (i : Int).toNat) = d := by rw [Nat.zero_add]; exact ed
    repeat' (first | (apply And.intro <;> intro hc <;> (first | exact Bool.noConfusion hc | (simp only [decide_eq_true_eq, decide_eq_false_iff_not, Bool.not_eq_true', Bool.not_eq_false', beq_iff_eq, beq_eq_false_iff_ne, bne_iff_ne, bne_eq_false_iff_eq, Bool.true_eq_false, Bool.false_eq_true] at hc) | skip)) | (refine And.intro (by first | exact trivial | decide | omega | (dsimp only; omega) | exact fun _ _ => rfl) ?_) | (apply And.intro) | (intro s hs))
    · have hi2 : i < 2 := by omega
      obtain ⟨c, e1, e2, e3, e4⟩ := groups_law hD.1 hD.2 ha.w.v
      have hcost := cost_eq d
      have hlen : (c.length : Int) = 2 + costF d := by omega
      refine loop_intro (mono_of LGr_ok) (fun s : LwS d => (⟨[(6, one (.ptr 7 0 0 false)), (7, one (.os 14 0 2)), (8, one (.int .i64 (i : Int))), (9, one (.ptr 23 0 0 false)), (10, one (.int .i64 16)), (11, one (.bool (zr d 2 s.z))), (12, one (.int .i64 (s.z : Int)))],
        [(7, some ⟨59, 1, 3, true, fun _ => eAdr.cell a⟩), (14, some ⟨24, 2, 16, false, fun i => (eA .u8 16).cell (lsD G g i)⟩), (23, some ⟨24, 1, 16, true, fun _ => (eA .u8 16).cell d⟩)], 28⟩ : Hd)) (fun s => 11 - s.z) (fun _ => rfl) ?_ ⟨2, by omega⟩ [] ?_
      · rintro ⟨z, hz⟩
        dsimp only at hz ⊢
        have hnx : (z : Int) < 11 → zr d 2 (z + 1) = (zr d 2 z && vget d z == 0) := fun h => zr_succ hz.1 (by omega)
        have e0 : 0 + (z : Int).toNat * 1 + 0 = z := by omega
        by_cases hz11 : z = 11
        · subst hz11
          repeat' (first | (apply And.intro <;> intro hc <;> (first | exact Bool.noConfusion hc | (exfalso; first | exact absurd hc (by decide) | exact absurd hc (by assumption) | exact absurd (by assumption) hc | exact Bool.noConfusion ((by assumption : zr d 2 11 = true).symm.trans hc) | exact Bool.noConfusion ((by assumption : zr d 2 11 = false).symm.trans hc)) | (simp only [decide_eq_true_eq, decide_eq_false_iff_not, Bool.not_eq_true', Bool.not_eq_false', beq_iff_eq, beq_eq_false_iff_ne, bne_iff_ne, bne_eq_false_iff_eq, Bool.true_eq_false, Bool.false_eq_true, ne_eq, not_true_eq_false] at hc <;> first | exact absurd rfl hc | (exfalso; first | exact absurd hc (by decide) | exact absurd hc (by assumption) | exact absurd (by assumption) hc | exact Bool.noConfusion ((by assumption : zr d 2 11 = true).symm.trans hc) | exact Bool.noConfusion ((by assumption : zr d 2 11 = false).symm.trans hc)) | skip) | skip)) | (refine And.intro (by first | exact trivial | decide | omega | (dsimp only; omega) | exact fun _ _ => rfl | exact ⟨by assumption, by first | exact trivial | decide | omega | (dsimp only; omega)⟩) ?_) | (apply And.intro) | (intro s hs; first | (have q : s = (c, 0) := (by (refine hs.trans ((encI_congr (pk_hP (h := 1) (X := zeroA) (Y := d) (fun j hj => ?_)) rfl rfl rfl).trans e1); (iterate 38 (rcases j with _ | j; exact rfl)); exact absurd hj (by omega))); clear hs; subst q) | (have q : s = ((hP 1 zeroA d, (c.length : Int)), 0) := (hs.trans ((decI_congr (toL_b0 c) rfl rfl rfl).trans e4)); clear hs; subst q) | skip))
          all_goals first
            | (exfalso; exact Bool.noConfusion ((by assumption : zr d 2 11 = true).symm.trans (by assumption : zr d 2 11 = false)))
            | exact rfl
            | exact Nat.zero_le _
            | exact bytes_nil
            | exact absurd hs (Nat.not_lt_zero _)
            | (show PkW _
               refine Eq.mp (congrArg PkW (pk_hP (h := 1) (X := zeroA) (Y := d) (fun j hj => ?_)).symm) (zero_w zeroA_b hD.1 (h := 1) (by decide))
               iterate 38 (rcases j with _ | j; exact rfl)
               exact absurd hj (by omega))
            | exact Eq.mp (congrArg BL (toL_b0 c).symm) e2
            | (show List.length _ ≤ _
               dsimp only
               rw [toL_len]
               have := cost_r d
               omega)
            | (exfalso
               have hx : costF d = 1 := cost_1 (by assumption) (by assumption) (by assumption) (by assumption) (by assumption) (by assumption)
               have hw : ¬ (c.length : Int) = IntKind.i64.wrap (2 + 1) := by assumption
               exact hw (by rw [hlen, hx]; rfl))
            | (exfalso
               have hw : ¬ (c.length : Int) = IntKind.i64.wrap (2 + 4) := by assumption
               have hx : costF d = 4 := cost_4 (by assumption) (by assumption) (by assumption) (by first | exact fun h => absurd h.1 (by assumption) | exact fun h => absurd h.2.1 (by assumption) | exact fun h => absurd h.2.2 (by assumption))
               exact hw (by rw [hlen, hx]; rfl))
            | (exfalso
               have hw : ¬ (c.length : Int) = IntKind.i64.wrap (2 + 6) := by assumption
               have hx : costF d = 6 := cost_6 (by assumption) (by first | exact fun h => absurd h.1 (by assumption) | exact fun h => absurd h.2 (by assumption))
               exact hw (by rw [hlen, hx]; rfl))
            | (exfalso
               have hw : ¬ (c.length : Int) = IntKind.i64.wrap (2 + 16) := by assumption
               have hx : costF d = 16 := cost_16 (by assumption)
               exact hw (by rw [hlen, hx]; rfl))
            | (exfalso; refine eqd_no (a := d) (by assumption) ?_ ?_ <;> (repeat' (first | exact trivial | exact rfl | apply And.intro)); done)
            | (exfalso; refine eqd_no (a := zeroA) (by assumption) ?_ ?_ <;> (repeat' (first | exact trivial | exact rfl | apply And.intro)); done)
            | (refine ⟨⟨i + 1, by omega⟩, [], by dsimp only; omega, rfl, ?_, ?_⟩
               · repeat' (first | exact trivial | exact rfl | exact leF_ptr rfl | exact leF_int rfl | exact leF_bool rfl | exact leF_cl (cl_slB _ _) | exact leF_cl (cl_slR _ _) | exact leF_cl (cl_ll _ _) | exact leF_c (leC_os rfl rfl) | refine leF_int ?_ | refine leF_bool ?_ | exact leN_varA (fun _ _ => (Elem.flat _ _ _).le) | exact leN_varA (fun _ _ => leC_top) | apply And.intro)
                 first | (dsimp only; rw [IntWalk.i64_in _ (by omega)]; omega) | (dsimp only; rw [IntWalk.i64_in _ (by omega)]; done) | (dsimp only; exact IntWalk.i64_in _ (by omega)) | exact IntWalk.i64_in _ (by omega) | (rw [IntWalk.i64_in _ (by omega)]; omega)
               · repeat' (first | exact trivial | exact rfl | exact leF_ptr rfl | exact leF_int rfl | exact leF_bool rfl | exact leF_cl (cl_slB _ _) | exact leF_cl (cl_slR _ _) | exact leF_cl (cl_ll _ _) | exact leF_c (leC_os rfl rfl) | refine leF_int ?_ | refine leF_bool ?_ | exact leN_varA (fun _ _ => (Elem.flat _ _ _).le) | exact leN_varA (fun _ _ => leC_top) | apply And.intro)
                 all_goals (change LeN _ ⟨_, 2, _, _, _⟩ _; exact leN_row rfl fun _ _ _ _ => (Elem.flat _ _ _).le))
            | skip
        · have hzl : (z : Int) < 11 := by omega
          repeat' (first | (apply And.intro <;> intro hc <;> (first | exact Bool.noConfusion hc | (exfalso; first | exact absurd hzl hc) | (simp only [decide_eq_true_eq, decide_eq_false_iff_not, Bool.not_eq_true', Bool.not_eq_false', beq_iff_eq, beq_eq_false_iff_ne, bne_iff_ne, bne_eq_false_iff_eq, Bool.true_eq_false, Bool.false_eq_true, ne_eq, not_true_eq_false] at hc <;> first | exact absurd rfl hc | (exfalso; first | exact absurd hzl hc) | skip) | skip)) | (refine And.intro (by first | exact trivial | decide | omega | (dsimp only; omega) | exact fun _ _ => rfl | exact ⟨by assumption, by first | exact trivial | decide | omega | (dsimp only; omega)⟩) ?_) | (apply And.intro) | (intro s hs; skip))
          all_goals first
            | (exfalso; omega)
            | (refine ⟨⟨z + 1, by omega⟩, [], by dsimp only; omega, rfl, ?_, ?_⟩
               · repeat' (first | exact trivial | exact rfl | exact leF_ptr rfl | exact leF_int rfl | exact leF_bool rfl | exact leF_cl (cl_slB _ _) | exact leF_cl (cl_slR _ _) | exact leF_cl (cl_ll _ _) | exact leF_c (leC_os rfl rfl) | refine leF_int ?_ | refine leF_bool ?_ | exact leN_varA (fun _ _ => (Elem.flat _ _ _).le) | exact leN_varA (fun _ _ => leC_top) | apply And.intro)
                 all_goals first
                   | (show (vget d (0 + (z : Int).toNat * 1 + 0) == 0) = zr d 2 (z + 1)
                      rw [hnx hzl, (by assumption : zr d 2 z = true), e0]
                      exact (Bool.true_and _).symm)
                   | (show false = zr d 2 (z + 1)
                      rw [hnx hzl, (by assumption : zr d 2 z = false)]
                      exact (Bool.false_and _).symm)
                   | first | (dsimp only; rw [IntWalk.i64_in _ (by omega)]; omega) | (dsimp only; rw [IntWalk.i64_in _ (by omega)]; done) | (dsimp only; exact IntWalk.i64_in _ (by omega)) | exact IntWalk.i64_in _ (by omega) | (rw [IntWalk.i64_in _ (by omega)]; omega)
               · repeat' (first | exact trivial | exact rfl | exact leF_ptr rfl | exact leF_int rfl | exact leF_bool rfl | exact leF_cl (cl_slB _ _) | exact leF_cl (cl_slR _ _) | exact leF_cl (cl_ll _ _) | exact leF_c (leC_os rfl rfl) | refine leF_int ?_ | refine leF_bool ?_ | exact leN_varA (fun _ _ => (Elem.flat _ _ _).le) | exact leN_varA (fun _ _ => leC_top) | apply And.intro)
                 all_goals (change LeN _ ⟨_, 2, _, _, _⟩ _; exact leN_row rfl fun _ _ _ _ => (Elem.flat _ _ _).le))
            | skip
      · refine ⟨rfl, ?_, ?_⟩
        · repeat' (first | exact trivial | exact rfl | exact leF_ptr rfl | exact leF_int rfl | exact leF_bool rfl | exact leF_cl (cl_slB _ _) | exact leF_cl (cl_slR _ _) | exact leF_cl (cl_ll _ _) | exact leF_c (leC_os rfl rfl) | refine leF_int ?_ | refine leF_bool ?_ | exact leN_varA (fun _ _ => (Elem.flat _ _ _).le) | exact leN_varA (fun _ _ => leC_top) | apply And.intro)
          all_goals first
            | exact leF_bool (zr_nil d 2).symm
            | trace_state
        · repeat' (first | exact trivial | exact rfl | exact leF_ptr rfl | exact leF_int rfl | exact leF_bool rfl | exact leF_cl (cl_slB _ _) | exact leF_cl (cl_slR _ _) | exact leF_cl (cl_ll _ _) | exact leF_c (leC_os rfl rfl) | refine leF_int ?_ | refine leF_bool ?_ | exact leN_varA (fun _ _ => (Elem.flat _ _ _).le) | exact leN_varA (fun _ _ => leC_top) | apply And.intro)
          all_goals first
            | (change LeN _ ⟨_, 2, _, _, _⟩ _; exact leN_row rfl fun _ _ _ _ => (Elem.flat _ _ _).le)
            | (change LeC _ _ _; first | exact leC_int (congrArg (fun x => vget x _) ed0) | exact leC_int (congrArg (fun x => vget x _) ed))
            | (refine leN_var ?_
               repeat' (first | exact trivial | exact leC_int (congrArg (fun x => vget x _) ed0) | exact leC_int (congrArg (fun x => vget x _) ed) | apply And.intro))
            | trace_state
    · exact Done.mk (leF_bool hs)
  · refine ⟨rfl, ?_, ?_⟩
    · repeat' (first | exact trivial | exact rfl | exact leF_ptr rfl | exact leF_int rfl | exact leF_bool rfl | exact leF_cl (cl_slB _ _) | exact leF_cl (cl_slR _ _) | exact leF_cl (cl_ll _ _) | exact leF_c (leC_os rfl rfl) | refine leF_int ?_ | refine leF_bool ?_ | exact leN_varA (fun _ _ => (Elem.flat _ _ _).le) | exact leN_varA (fun _ _ => leC_top) | apply And.intro)
    · repeat' (first | exact trivial | exact rfl | exact leF_ptr rfl | exact leF_int rfl | exact leF_bool rfl | exact leF_cl (cl_slB _ _) | exact leF_cl (cl_slR _ _) | exact leF_cl (cl_ll _ _) | exact leF_c (leC_os rfl rfl) | refine leF_int ?_ | refine leF_bool ?_ | exact leN_varA (fun _ _ => (Elem.flat _ _ _).le) | exact leN_varA (fun _ _ => leC_top) | apply And.intro)
      refine leN_row (n := 2) (sz := 16) rfl fun i hi => ?_
      rcases i with _ | _ | i
      · refine allLt_at (n := 16) ?_
        repeat' (first | exact trivial | exact leC_int rfl | apply And.intro)
      · refine allLt_at (n := 16) ?_
        repeat' (first | exact trivial | exact leC_int rfl | apply And.intro)
      · omega
end Go.Proofs.Ytjknkfjhcapocaa.AX

/- Kinds of cells of packets, contexts, addresses as arguments of laws. -/
namespace Go.Proofs.Ytjknkfjhcapocaa
open Go.RowKit AX
set_option linter.unusedVariables false
abbrev ksIP : List (Option IntKind) := [some .u8, some .u8, some .u8, some .u8, some .u8, some .u8, some .u8, some .u8, some .u8, some .u8, some .u8, some .u8, some .u8, some .u8, some .u8, some .u8]
theorem ksIP_at : ∀ i, i < 16 → ksIP[0 + i]? = some (some .u8) := by decide
theorem ok_ip (g : Nat → CV) (h : MtC ksIP g) : (eA .u8 16).ok g = true := okA_of fun i hi => h.k (ksIP_at i hi)
theorem by_ip {c : Fin 16 → Int} (h : ∃ g, MtC ksIP g ∧ c = (eA .u8 16).rd g) : byteOk c := by
  obtain ⟨g, hg, rfl⟩ := h
  exact ⟨fun q => wf_u8 (by have := hg.wf (ksIP_at q.1 q.2); rw [Nat.zero_add] at this; exact this)⟩
end Go.Proofs.Ytjknkfjhcapocaa
/- IphcGroups: the walk. -/
namespace Go.Proofs.Ytjknkfjhcapocaa
open Go.RowKit AX
set_option linter.unusedVariables false
theorem walkIphcGroups (a0 : Option Addr) (len0 cap0 : Nat) (z0 : List Int) (x1 : Array Value) (w : World) (w0 : IsRow .i64 w a0 len0 cap0 z0) (rr0 : cap0 * 8 ≤ 140737488351232) (w1 : Mt ksIP x1.toList) :
    Calls Try.prog 16 #[.slice a0 len0 cap0, .agg x1] w fun e w' => e = .returned (.bool true) ∧ Below w.heap.size w w' := by
  obtain ⟨g, hg, h1⟩ := flat_rel w1 (E := eA .u8 16) (w := w) rfl ok_ip
  exact walk_of (igroups_ok len0 z0 (rng_of w0) g (by_ip hg)) (relL_cons (row_rel w0) (relL1 h1))
end Go.Proofs.Ytjknkfjhcapocaa
