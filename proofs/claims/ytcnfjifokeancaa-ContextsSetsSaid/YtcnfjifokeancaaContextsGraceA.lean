/- ContextsGrace, by AX2: the law returns true. -/
import Derived.Test.YtcnfjifokeancaaContextsLongestA
namespace Go.Proofs.Ytcnfjifokeancaa.AX
open Go.RowKit
set_option linter.unusedVariables false
set_option linter.unusedSimpArgs false
theorem pfx_rd1 (c : Ctx) : ePfx.rd (fun q => eCtx.cell c (0 + 1 + q)) = pfxOf c := by
  simp only [Nat.zero_add]; exact pfx_of_ctx c
theorem ctx_cell_eq (c : Ctx) (j : Nat) : eqCell (eCtx.cell c j) (eCtx.cell c j) = true := by
  show eqCell (eCtxC c j) (eCtxC c j) = true
  unfold eCtxC
  cases Nat.beq j 0 <;> cases Nat.blt j 17 <;> cases Nat.beq j 17 <;> cases Nat.beq j 18 <;> simp [eqCell]
theorem ctx_eq (c : Ctx) : eqFrom (fun q => eCtx.cell c (0 + q)) (fun q => eCtx.cell c (0 + q)) 20 0 = true := by
  rw [eqFrom_iff]
  exact fun i _ => ctx_cell_eq c _
theorem grace_facts {L : List Ctx} {a : Fin 16 → Int} {nw lt : Int} {fc : Ctx × Bool} (hL : madeL L) (ha : byteOk a) (h1 : 0 ≤ nw ∧ nw < 60) (h2 : 0 ≤ lt ∧ lt < 33) (e : fc = forCom L a nw) (hc : fc.2 = true) :
    forDec L fc.1.id (IntKind.i64.wrap (nw + lt)) = (fc.1, true) ∧ byteOk fc.1.ip ∧ containsF (pfxOf fc.1) a = true ∧ fc.1.comp = true ∧ nw < fc.1.til := by
  rw [forCom_eq hL.v (vt_rng.2 (by omega))] at e
  have h3 := (fold_spec a nw L (default, false) (-1) hL.v (fun h => by cases h)).2.2
  rw [← e] at h3
  rcases h3 with h3 | ⟨_, hm, hmt⟩
  · rw [h3] at hc; cases hc
  · have hw : IntKind.i64.wrap (nw + lt) = nw + lt := IntWalk.i64_in _ (by omega)
    unfold mt at hmt
    simp only [Bool.and_eq_true] at hmt
    obtain ⟨g1, g2⟩ := compr_iff.1 hmt.1
    obtain ⟨_, hv, _⟩ := valid_lt hL.v hm
    rw [hw]
    refine ⟨?_, hL.b _ hm, hmt.2, g1, g2⟩
    rw [forDec_eq hL.v (vt_rng.2 (by omega))]
    exact find_mem ((decom_iff hv).2 (by omega)) hL.v hm
set_option maxHeartbeats 4000000 in
set_option maxRecDepth 20000 in
theorem grace_ok (n : Nat) (l : List Int) (hl : rngL l) (now later : Int) : PureOk Try.prog 6 [.e (.c (.sl true n 1 (rI l))), (cI .i64).enc now, (cI .i64).enc later] (.e (.c (.bool true))) := by
  refine pure_intro (wd := 1) (Q := mkQ LWk) (by decide) tysOk (q_of LWk_ok) mixed Try.func6 rfl _ (by show 3 ≤ _; decide) _ ?_
  repeat' (first | (apply And.intro <;> intro hc <;> (first | exact Bool.noConfusion hc | (simp only [decide_eq_true_eq, decide_eq_false_iff_not, Bool.not_eq_true', Bool.not_eq_false', beq_iff_eq, beq_eq_false_iff_ne, bne_iff_ne, bne_eq_false_iff_eq, Bool.true_eq_false, Bool.false_eq_true] at hc) | skip)) | (refine And.intro (by first | exact trivial | decide | omega | (dsimp only; omega) | exact fun _ _ => rfl | exact ⟨by assumption, by first | exact trivial | decide | omega | (dsimp only; omega)⟩) ?_) | (apply And.intro) | (intro s hs))
  · exact ⟨l, rfl, hl⟩
  intro ht0
  repeat' (first | (apply And.intro <;> intro hc <;> (first | exact Bool.noConfusion hc | (simp only [decide_eq_true_eq, decide_eq_false_iff_not, Bool.not_eq_true', Bool.not_eq_false', beq_iff_eq, beq_eq_false_iff_ne, bne_iff_ne, bne_eq_false_iff_eq, Bool.true_eq_false, Bool.false_eq_true] at hc) | skip)) | (refine And.intro (by first | exact trivial | decide | omega | (dsimp only; omega) | exact fun _ _ => rfl | exact ⟨by assumption, by first | exact trivial | decide | omega | (dsimp only; omega)⟩) ?_) | (apply And.intro) | (intro s hs))
  · have := (‹madeL _›).n
    show (toL eCtx _ (rowF eCtx _)).length ≤ _
    rw [toL_len]; omega
  · exact Done.mk (leF_bool hs)
  · have := (‹madeL _›).n
    show (toL eCtx _ (rowF eCtx _)).length ≤ _
    rw [toL_len]; omega
  all_goals first
    | (rename_i L hL q1 hq1 dv hdv q2 hq2 a ha q3 hq3 nw hnw lt hlt fc hfc c0 fd hfd k hk
       have hL' : madeL L := hL
       have hnw' : nw = modF now 60 := hnw
       have hlt' : lt = modF later 33 := hlt
       have r1 := modF_lt (v := now) (n := 60) (by omega)
       have r2 := modF_lt (v := later) (n := 33) (by omega)
       rw [← hnw'] at r1
       rw [← hlt'] at r2
       have efc : fc = forCom L a nw := hfc.trans (by
         show forCom (toL eCtx L.length (rowF eCtx L)) ((eA .u8 16).rd fun q => (eA .u8 16).cell a (0 + q)) nw = _
         rw [toL_ctx, rd_ip])
       obtain ⟨f1, f2, f3, f4, f5⟩ := grace_facts hL ha r1 r2 efc c0
       have efd : fd = (fc.1, true) := hfd.trans (by
         show forDec (toL eCtx L.length (rowF eCtx L)) fc.1.id (IntKind.i64.wrap (nw + lt)) = _
         rw [toL_ctx, f1])
       clear hfc hfd hL' hnw hlt
       first
         | (show byteOk (ePfx.rd fun j => eCtx.cell fc.1 (0 + 1 + j)).ip
            rw [pfx_rd1]; exact f2)
         | (show byteOk ((eA .u8 16).rd fun q => (eA .u8 16).cell a (0 + q))
            rw [rd_ip]; exact ha)
         | (have h : fd.2 = false := by assumption
            rw [efd] at h; cases h)
         | (have h : fc.1.comp = false := by assumption
            rw [f4] at h; cases h)
         | (have h : eqFrom (fun q => eCtx.cell fc.1 (0 + q)) (fun q => eCtx.cell fd.1 (0 + q)) 20 0 = false := by assumption
            rw [efd, ctx_eq] at h; cases h)
         | (have h : s = false := by assumption
            have e : s = containsF (ePfx.rd fun j => eCtx.cell fc.1 (0 + 1 + j)) ((eA .u8 16).rd fun q => (eA .u8 16).cell a (0 + q)) := hs
            rw [pfx_rd1, rd_ip, f3, h] at e; cases e)
         | (have h : s = false := by assumption
            have e : s = true := hs
            rw [e] at h; cases h)
         | (refine Done.mk (leF_bool ?_)
            show decide (nw < fc.1.til) = true
            exact decide_eq_true f5))
    | (rename_i L hL q1 hq1 dv hdv q2 hq2 a ha q3 hq3 nw hnw lt hlt fc hfc c0 fd hfd k hk c1
       have hL' : madeL L := hL
       have hnw' : nw = modF now 60 := hnw
       have hlt' : lt = modF later 33 := hlt
       have r1 := modF_lt (v := now) (n := 60) (by omega)
       have r2 := modF_lt (v := later) (n := 33) (by omega)
       rw [← hnw'] at r1
       rw [← hlt'] at r2
       have efc : fc = forCom L a nw := hfc.trans (by
         show forCom (toL eCtx L.length (rowF eCtx L)) ((eA .u8 16).rd fun q => (eA .u8 16).cell a (0 + q)) nw = _
         rw [toL_ctx, rd_ip])
       obtain ⟨f1, f2, f3, f4, f5⟩ := grace_facts hL ha r1 r2 efc c0
       have efd : fd = (fc.1, true) := hfd.trans (by
         show forDec (toL eCtx L.length (rowF eCtx L)) fc.1.id (IntKind.i64.wrap (nw + lt)) = _
         rw [toL_ctx, f1])
       clear hfc hfd hL' hnw hlt
       first
         | (show byteOk (ePfx.rd fun j => eCtx.cell fc.1 (0 + 1 + j)).ip
            rw [pfx_rd1]; exact f2)
         | (show byteOk ((eA .u8 16).rd fun q => (eA .u8 16).cell a (0 + q))
            rw [rd_ip]; exact ha)
         | (have h : fd.2 = false := by assumption
            rw [efd] at h; cases h)
         | (have h : fc.1.comp = false := by assumption
            rw [f4] at h; cases h)
         | (have h : eqFrom (fun q => eCtx.cell fc.1 (0 + q)) (fun q => eCtx.cell fd.1 (0 + q)) 20 0 = false := by assumption
            rw [efd, ctx_eq] at h; cases h)
         | (have h : s = false := by assumption
            have e : s = containsF (ePfx.rd fun j => eCtx.cell fc.1 (0 + 1 + j)) ((eA .u8 16).rd fun q => (eA .u8 16).cell a (0 + q)) := hs
            rw [pfx_rd1, rd_ip, f3, h] at e; cases e)
         | (have h : s = false := by assumption
            have e : s = true := hs
            rw [e] at h; cases h)
         | (refine Done.mk (leF_bool ?_)
            show decide (nw < fc.1.til) = true
            exact decide_eq_true f5))
    | (rename_i L hL q1 hq1 dv hdv q2 hq2 a ha q3 hq3 nw hnw lt hlt fc hfc c0 fd hfd k hk c1 c2
       have hL' : madeL L := hL
       have hnw' : nw = modF now 60 := hnw
       have hlt' : lt = modF later 33 := hlt
       have r1 := modF_lt (v := now) (n := 60) (by omega)
       have r2 := modF_lt (v := later) (n := 33) (by omega)
       rw [← hnw'] at r1
       rw [← hlt'] at r2
       have efc : fc = forCom L a nw := hfc.trans (by
         show forCom (toL eCtx L.length (rowF eCtx L)) ((eA .u8 16).rd fun q => (eA .u8 16).cell a (0 + q)) nw = _
         rw [toL_ctx, rd_ip])
       obtain ⟨f1, f2, f3, f4, f5⟩ := grace_facts hL ha r1 r2 efc c0
       have efd : fd = (fc.1, true) := hfd.trans (by
         show forDec (toL eCtx L.length (rowF eCtx L)) fc.1.id (IntKind.i64.wrap (nw + lt)) = _
         rw [toL_ctx, f1])
       clear hfc hfd hL' hnw hlt
       first
         | (show byteOk (ePfx.rd fun j => eCtx.cell fc.1 (0 + 1 + j)).ip
            rw [pfx_rd1]; exact f2)
         | (show byteOk ((eA .u8 16).rd fun q => (eA .u8 16).cell a (0 + q))
            rw [rd_ip]; exact ha)
         | (have h : fd.2 = false := by assumption
            rw [efd] at h; cases h)
         | (have h : fc.1.comp = false := by assumption
            rw [f4] at h; cases h)
         | (have h : eqFrom (fun q => eCtx.cell fc.1 (0 + q)) (fun q => eCtx.cell fd.1 (0 + q)) 20 0 = false := by assumption
            rw [efd, ctx_eq] at h; cases h)
         | (have h : s = false := by assumption
            have e : s = containsF (ePfx.rd fun j => eCtx.cell fc.1 (0 + 1 + j)) ((eA .u8 16).rd fun q => (eA .u8 16).cell a (0 + q)) := hs
            rw [pfx_rd1, rd_ip, f3, h] at e; cases e)
         | (have h : s = false := by assumption
            have e : s = true := hs
            rw [e] at h; cases h)
         | (refine Done.mk (leF_bool ?_)
            show decide (nw < fc.1.til) = true
            exact decide_eq_true f5))
    | (rename_i L hL q1 hq1 dv hdv q2 hq2 a ha q3 hq3 nw hnw lt hlt fc hfc c0 fd hfd k hk c1 c2 c3
       have hL' : madeL L := hL
       have hnw' : nw = modF now 60 := hnw
       have hlt' : lt = modF later 33 := hlt
       have r1 := modF_lt (v := now) (n := 60) (by omega)
       have r2 := modF_lt (v := later) (n := 33) (by omega)
       rw [← hnw'] at r1
       rw [← hlt'] at r2
       have efc : fc = forCom L a nw := hfc.trans (by
         show forCom (toL eCtx L.length (rowF eCtx L)) ((eA .u8 16).rd fun q => (eA .u8 16).cell a (0 + q)) nw = _
         rw [toL_ctx, rd_ip])
       obtain ⟨f1, f2, f3, f4, f5⟩ := grace_facts hL ha r1 r2 efc c0
       have efd : fd = (fc.1, true) := hfd.trans (by
         show forDec (toL eCtx L.length (rowF eCtx L)) fc.1.id (IntKind.i64.wrap (nw + lt)) = _
         rw [toL_ctx, f1])
       clear hfc hfd hL' hnw hlt
       first
         | (show byteOk (ePfx.rd fun j => eCtx.cell fc.1 (0 + 1 + j)).ip
            rw [pfx_rd1]; exact f2)
         | (show byteOk ((eA .u8 16).rd fun q => (eA .u8 16).cell a (0 + q))
            rw [rd_ip]; exact ha)
         | (have h : fd.2 = false := by assumption
            rw [efd] at h; cases h)
         | (have h : fc.1.comp = false := by assumption
            rw [f4] at h; cases h)
         | (have h : eqFrom (fun q => eCtx.cell fc.1 (0 + q)) (fun q => eCtx.cell fd.1 (0 + q)) 20 0 = false := by assumption
            rw [efd, ctx_eq] at h; cases h)
         | (have h : s = false := by assumption
            have e : s = containsF (ePfx.rd fun j => eCtx.cell fc.1 (0 + 1 + j)) ((eA .u8 16).rd fun q => (eA .u8 16).cell a (0 + q)) := hs
            rw [pfx_rd1, rd_ip, f3, h] at e; cases e)
         | (have h : s = false := by assumption
            have e : s = true := hs
            rw [e] at h; cases h)
         | (refine Done.mk (leF_bool ?_)
            show decide (nw < fc.1.til) = true
            exact decide_eq_true f5))
    | (rename_i L hL q1 hq1 dv hdv q2 hq2 a ha q3 hq3 nw hnw lt hlt fc hfc c0 fd hfd k hk c1 c2 c3 c4
       have hL' : madeL L := hL
       have hnw' : nw = modF now 60 := hnw
       have hlt' : lt = modF later 33 := hlt
       have r1 := modF_lt (v := now) (n := 60) (by omega)
       have r2 := modF_lt (v := later) (n := 33) (by omega)
       rw [← hnw'] at r1
       rw [← hlt'] at r2
       have efc : fc = forCom L a nw := hfc.trans (by
         show forCom (toL eCtx L.length (rowF eCtx L)) ((eA .u8 16).rd fun q => (eA .u8 16).cell a (0 + q)) nw = _
         rw [toL_ctx, rd_ip])
       obtain ⟨f1, f2, f3, f4, f5⟩ := grace_facts hL ha r1 r2 efc c0
       have efd : fd = (fc.1, true) := hfd.trans (by
         show forDec (toL eCtx L.length (rowF eCtx L)) fc.1.id (IntKind.i64.wrap (nw + lt)) = _
         rw [toL_ctx, f1])
       clear hfc hfd hL' hnw hlt
       first
         | (show byteOk (ePfx.rd fun j => eCtx.cell fc.1 (0 + 1 + j)).ip
            rw [pfx_rd1]; exact f2)
         | (show byteOk ((eA .u8 16).rd fun q => (eA .u8 16).cell a (0 + q))
            rw [rd_ip]; exact ha)
         | (have h : fd.2 = false := by assumption
            rw [efd] at h; cases h)
         | (have h : fc.1.comp = false := by assumption
            rw [f4] at h; cases h)
         | (have h : eqFrom (fun q => eCtx.cell fc.1 (0 + q)) (fun q => eCtx.cell fd.1 (0 + q)) 20 0 = false := by assumption
            rw [efd, ctx_eq] at h; cases h)
         | (have h : s = false := by assumption
            have e : s = containsF (ePfx.rd fun j => eCtx.cell fc.1 (0 + 1 + j)) ((eA .u8 16).rd fun q => (eA .u8 16).cell a (0 + q)) := hs
            rw [pfx_rd1, rd_ip, f3, h] at e; cases e)
         | (have h : s = false := by assumption
            have e : s = true := hs
            rw [e] at h; cases h)
         | (refine Done.mk (leF_bool ?_)
            show decide (nw < fc.1.til) = true
            exact decide_eq_true f5))
    | (rename_i L hL q1 hq1 dv hdv q2 hq2 a ha q3 hq3 nw hnw lt hlt fc hfc c0 fd hfd k hk c1 c2 c3 c4 c5
       have hL' : madeL L := hL
       have hnw' : nw = modF now 60 := hnw
       have hlt' : lt = modF later 33 := hlt
       have r1 := modF_lt (v := now) (n := 60) (by omega)
       have r2 := modF_lt (v := later) (n := 33) (by omega)
       rw [← hnw'] at r1
       rw [← hlt'] at r2
       have efc : fc = forCom L a nw := hfc.trans (by
         show forCom (toL eCtx L.length (rowF eCtx L)) ((eA .u8 16).rd fun q => (eA .u8 16).cell a (0 + q)) nw = _
         rw [toL_ctx, rd_ip])
       obtain ⟨f1, f2, f3, f4, f5⟩ := grace_facts hL ha r1 r2 efc c0
       have efd : fd = (fc.1, true) := hfd.trans (by
         show forDec (toL eCtx L.length (rowF eCtx L)) fc.1.id (IntKind.i64.wrap (nw + lt)) = _
         rw [toL_ctx, f1])
       clear hfc hfd hL' hnw hlt
       first
         | (show byteOk (ePfx.rd fun j => eCtx.cell fc.1 (0 + 1 + j)).ip
            rw [pfx_rd1]; exact f2)
         | (show byteOk ((eA .u8 16).rd fun q => (eA .u8 16).cell a (0 + q))
            rw [rd_ip]; exact ha)
         | (have h : fd.2 = false := by assumption
            rw [efd] at h; cases h)
         | (have h : fc.1.comp = false := by assumption
            rw [f4] at h; cases h)
         | (have h : eqFrom (fun q => eCtx.cell fc.1 (0 + q)) (fun q => eCtx.cell fd.1 (0 + q)) 20 0 = false := by assumption
            rw [efd, ctx_eq] at h; cases h)
         | (have h : s = false := by assumption
            have e : s = containsF (ePfx.rd fun j => eCtx.cell fc.1 (0 + 1 + j)) ((eA .u8 16).rd fun q => (eA .u8 16).cell a (0 + q)) := hs
            rw [pfx_rd1, rd_ip, f3, h] at e; cases e)
         | (have h : s = false := by assumption
            have e : s = true := hs
            rw [e] at h; cases h)
         | (refine Done.mk (leF_bool ?_)
            show decide (nw < fc.1.til) = true
            exact decide_eq_true f5))
    | (rename_i L hL q1 hq1 dv hdv q2 hq2 a ha q3 hq3 nw hnw lt hlt fc hfc c0 fd hfd
       have hL' : madeL L := hL
       have hnw' : nw = modF now 60 := hnw
       have hlt' : lt = modF later 33 := hlt
       have r1 := modF_lt (v := now) (n := 60) (by omega)
       have r2 := modF_lt (v := later) (n := 33) (by omega)
       rw [← hnw'] at r1
       rw [← hlt'] at r2
       have efc : fc = forCom L a nw := hfc.trans (by
         show forCom (toL eCtx L.length (rowF eCtx L)) ((eA .u8 16).rd fun q => (eA .u8 16).cell a (0 + q)) nw = _
         rw [toL_ctx, rd_ip])
       obtain ⟨f1, f2, f3, f4, f5⟩ := grace_facts hL ha r1 r2 efc c0
       have efd : fd = (fc.1, true) := hfd.trans (by
         show forDec (toL eCtx L.length (rowF eCtx L)) fc.1.id (IntKind.i64.wrap (nw + lt)) = _
         rw [toL_ctx, f1])
       clear hfc hfd hL' hnw hlt
       first
         | (show byteOk (ePfx.rd fun j => eCtx.cell fc.1 (0 + 1 + j)).ip
            rw [pfx_rd1]; exact f2)
         | (show byteOk ((eA .u8 16).rd fun q => (eA .u8 16).cell a (0 + q))
            rw [rd_ip]; exact ha)
         | (have h : fd.2 = false := by assumption
            rw [efd] at h; cases h)
         | (have h : fc.1.comp = false := by assumption
            rw [f4] at h; cases h)
         | (have h : eqFrom (fun q => eCtx.cell fc.1 (0 + q)) (fun q => eCtx.cell fd.1 (0 + q)) 20 0 = false := by assumption
            rw [efd, ctx_eq] at h; cases h)
         | (have h : s = false := by assumption
            have e : s = containsF (ePfx.rd fun j => eCtx.cell fc.1 (0 + 1 + j)) ((eA .u8 16).rd fun q => (eA .u8 16).cell a (0 + q)) := hs
            rw [pfx_rd1, rd_ip, f3, h] at e; cases e)
         | (have h : s = false := by assumption
            have e : s = true := hs
            rw [e] at h; cases h)
         | (refine Done.mk (leF_bool ?_)
            show decide (nw < fc.1.til) = true
            exact decide_eq_true f5))
    | (rename_i L hL q1 hq1 dv hdv q2 hq2 a ha q3 hq3 nw hnw lt hlt fc hfc c0 fd hfd c1
       have hL' : madeL L := hL
       have hnw' : nw = modF now 60 := hnw
       have hlt' : lt = modF later 33 := hlt
       have r1 := modF_lt (v := now) (n := 60) (by omega)
       have r2 := modF_lt (v := later) (n := 33) (by omega)
       rw [← hnw'] at r1
       rw [← hlt'] at r2
       have efc : fc = forCom L a nw := hfc.trans (by
         show forCom (toL eCtx L.length (rowF eCtx L)) ((eA .u8 16).rd fun q => (eA .u8 16).cell a (0 + q)) nw = _
         rw [toL_ctx, rd_ip])
       obtain ⟨f1, f2, f3, f4, f5⟩ := grace_facts hL ha r1 r2 efc c0
       have efd : fd = (fc.1, true) := hfd.trans (by
         show forDec (toL eCtx L.length (rowF eCtx L)) fc.1.id (IntKind.i64.wrap (nw + lt)) = _
         rw [toL_ctx, f1])
       clear hfc hfd hL' hnw hlt
       first
         | (show byteOk (ePfx.rd fun j => eCtx.cell fc.1 (0 + 1 + j)).ip
            rw [pfx_rd1]; exact f2)
         | (show byteOk ((eA .u8 16).rd fun q => (eA .u8 16).cell a (0 + q))
            rw [rd_ip]; exact ha)
         | (have h : fd.2 = false := by assumption
            rw [efd] at h; cases h)
         | (have h : fc.1.comp = false := by assumption
            rw [f4] at h; cases h)
         | (have h : eqFrom (fun q => eCtx.cell fc.1 (0 + q)) (fun q => eCtx.cell fd.1 (0 + q)) 20 0 = false := by assumption
            rw [efd, ctx_eq] at h; cases h)
         | (have h : s = false := by assumption
            have e : s = containsF (ePfx.rd fun j => eCtx.cell fc.1 (0 + 1 + j)) ((eA .u8 16).rd fun q => (eA .u8 16).cell a (0 + q)) := hs
            rw [pfx_rd1, rd_ip, f3, h] at e; cases e)
         | (have h : s = false := by assumption
            have e : s = true := hs
            rw [e] at h; cases h)
         | (refine Done.mk (leF_bool ?_)
            show decide (nw < fc.1.til) = true
            exact decide_eq_true f5))
    | (rename_i L hL q1 hq1 dv hdv q2 hq2 a ha q3 hq3 nw hnw lt hlt fc hfc c0 fd hfd c1 c2
       have hL' : madeL L := hL
       have hnw' : nw = modF now 60 := hnw
       have hlt' : lt = modF later 33 := hlt
       have r1 := modF_lt (v := now) (n := 60) (by omega)
       have r2 := modF_lt (v := later) (n := 33) (by omega)
       rw [← hnw'] at r1
       rw [← hlt'] at r2
       have efc : fc = forCom L a nw := hfc.trans (by
         show forCom (toL eCtx L.length (rowF eCtx L)) ((eA .u8 16).rd fun q => (eA .u8 16).cell a (0 + q)) nw = _
         rw [toL_ctx, rd_ip])
       obtain ⟨f1, f2, f3, f4, f5⟩ := grace_facts hL ha r1 r2 efc c0
       have efd : fd = (fc.1, true) := hfd.trans (by
         show forDec (toL eCtx L.length (rowF eCtx L)) fc.1.id (IntKind.i64.wrap (nw + lt)) = _
         rw [toL_ctx, f1])
       clear hfc hfd hL' hnw hlt
       first
         | (show byteOk (ePfx.rd fun j => eCtx.cell fc.1 (0 + 1 + j)).ip
            rw [pfx_rd1]; exact f2)
         | (show byteOk ((eA .u8 16).rd fun q => (eA .u8 16).cell a (0 + q))
            rw [rd_ip]; exact ha)
         | (have h : fd.2 = false := by assumption
            rw [efd] at h; cases h)
         | (have h : fc.1.comp = false := by assumption
            rw [f4] at h; cases h)
         | (have h : eqFrom (fun q => eCtx.cell fc.1 (0 + q)) (fun q => eCtx.cell fd.1 (0 + q)) 20 0 = false := by assumption
            rw [efd, ctx_eq] at h; cases h)
         | (have h : s = false := by assumption
            have e : s = containsF (ePfx.rd fun j => eCtx.cell fc.1 (0 + 1 + j)) ((eA .u8 16).rd fun q => (eA .u8 16).cell a (0 + q)) := hs
            rw [pfx_rd1, rd_ip, f3, h] at e; cases e)
         | (have h : s = false := by assumption
            have e : s = true := hs
            rw [e] at h; cases h)
         | (refine Done.mk (leF_bool ?_)
            show decide (nw < fc.1.til) = true
            exact decide_eq_true f5))
    | (rename_i L hL q1 hq1 dv hdv q2 hq2 a ha q3 hq3 nw hnw lt hlt fc hfc c0 fd hfd c1 c2 c3
       have hL' : madeL L := hL
       have hnw' : nw = modF now 60 := hnw
       have hlt' : lt = modF later 33 := hlt
       have r1 := modF_lt (v := now) (n := 60) (by omega)
       have r2 := modF_lt (v := later) (n := 33) (by omega)
       rw [← hnw'] at r1
       rw [← hlt'] at r2
       have efc : fc = forCom L a nw := hfc.trans (by
         show forCom (toL eCtx L.length (rowF eCtx L)) ((eA .u8 16).rd fun q => (eA .u8 16).cell a (0 + q)) nw = _
         rw [toL_ctx, rd_ip])
       obtain ⟨f1, f2, f3, f4, f5⟩ := grace_facts hL ha r1 r2 efc c0
       have efd : fd = (fc.1, true) := hfd.trans (by
         show forDec (toL eCtx L.length (rowF eCtx L)) fc.1.id (IntKind.i64.wrap (nw + lt)) = _
         rw [toL_ctx, f1])
       clear hfc hfd hL' hnw hlt
       first
         | (show byteOk (ePfx.rd fun j => eCtx.cell fc.1 (0 + 1 + j)).ip
            rw [pfx_rd1]; exact f2)
         | (show byteOk ((eA .u8 16).rd fun q => (eA .u8 16).cell a (0 + q))
            rw [rd_ip]; exact ha)
         | (have h : fd.2 = false := by assumption
            rw [efd] at h; cases h)
         | (have h : fc.1.comp = false := by assumption
            rw [f4] at h; cases h)
         | (have h : eqFrom (fun q => eCtx.cell fc.1 (0 + q)) (fun q => eCtx.cell fd.1 (0 + q)) 20 0 = false := by assumption
            rw [efd, ctx_eq] at h; cases h)
         | (have h : s = false := by assumption
            have e : s = containsF (ePfx.rd fun j => eCtx.cell fc.1 (0 + 1 + j)) ((eA .u8 16).rd fun q => (eA .u8 16).cell a (0 + q)) := hs
            rw [pfx_rd1, rd_ip, f3, h] at e; cases e)
         | (have h : s = false := by assumption
            have e : s = true := hs
            rw [e] at h; cases h)
         | (refine Done.mk (leF_bool ?_)
            show decide (nw < fc.1.til) = true
            exact decide_eq_true f5))
    | (rename_i L hL q1 hq1 dv hdv q2 hq2 a ha q3 hq3 nw hnw lt hlt fc hfc c0 fd hfd c1 c2 c3 c4
       have hL' : madeL L := hL
       have hnw' : nw = modF now 60 := hnw
       have hlt' : lt = modF later 33 := hlt
       have r1 := modF_lt (v := now) (n := 60) (by omega)
       have r2 := modF_lt (v := later) (n := 33) (by omega)
       rw [← hnw'] at r1
       rw [← hlt'] at r2
       have efc : fc = forCom L a nw := hfc.trans (by
         show forCom (toL eCtx L.length (rowF eCtx L)) ((eA .u8 16).rd fun q => (eA .u8 16).cell a (0 + q)) nw = _
         rw [toL_ctx, rd_ip])
       obtain ⟨f1, f2, f3, f4, f5⟩ := grace_facts hL ha r1 r2 efc c0
       have efd : fd = (fc.1, true) := hfd.trans (by
         show forDec (toL eCtx L.length (rowF eCtx L)) fc.1.id (IntKind.i64.wrap (nw + lt)) = _
         rw [toL_ctx, f1])
       clear hfc hfd hL' hnw hlt
       first
         | (show byteOk (ePfx.rd fun j => eCtx.cell fc.1 (0 + 1 + j)).ip
            rw [pfx_rd1]; exact f2)
         | (show byteOk ((eA .u8 16).rd fun q => (eA .u8 16).cell a (0 + q))
            rw [rd_ip]; exact ha)
         | (have h : fd.2 = false := by assumption
            rw [efd] at h; cases h)
         | (have h : fc.1.comp = false := by assumption
            rw [f4] at h; cases h)
         | (have h : eqFrom (fun q => eCtx.cell fc.1 (0 + q)) (fun q => eCtx.cell fd.1 (0 + q)) 20 0 = false := by assumption
            rw [efd, ctx_eq] at h; cases h)
         | (have h : s = false := by assumption
            have e : s = containsF (ePfx.rd fun j => eCtx.cell fc.1 (0 + 1 + j)) ((eA .u8 16).rd fun q => (eA .u8 16).cell a (0 + q)) := hs
            rw [pfx_rd1, rd_ip, f3, h] at e; cases e)
         | (have h : s = false := by assumption
            have e : s = true := hs
            rw [e] at h; cases h)
         | (refine Done.mk (leF_bool ?_)
            show decide (nw < fc.1.til) = true
            exact decide_eq_true f5))
    | (rename_i L hL q1 hq1 dv hdv q2 hq2 a ha q3 hq3 nw hnw lt hlt fc hfc c0 fd hfd c1 c2 c3 c4 c5
       have hL' : madeL L := hL
       have hnw' : nw = modF now 60 := hnw
       have hlt' : lt = modF later 33 := hlt
       have r1 := modF_lt (v := now) (n := 60) (by omega)
       have r2 := modF_lt (v := later) (n := 33) (by omega)
       rw [← hnw'] at r1
       rw [← hlt'] at r2
       have efc : fc = forCom L a nw := hfc.trans (by
         show forCom (toL eCtx L.length (rowF eCtx L)) ((eA .u8 16).rd fun q => (eA .u8 16).cell a (0 + q)) nw = _
         rw [toL_ctx, rd_ip])
       obtain ⟨f1, f2, f3, f4, f5⟩ := grace_facts hL ha r1 r2 efc c0
       have efd : fd = (fc.1, true) := hfd.trans (by
         show forDec (toL eCtx L.length (rowF eCtx L)) fc.1.id (IntKind.i64.wrap (nw + lt)) = _
         rw [toL_ctx, f1])
       clear hfc hfd hL' hnw hlt
       first
         | (show byteOk (ePfx.rd fun j => eCtx.cell fc.1 (0 + 1 + j)).ip
            rw [pfx_rd1]; exact f2)
         | (show byteOk ((eA .u8 16).rd fun q => (eA .u8 16).cell a (0 + q))
            rw [rd_ip]; exact ha)
         | (have h : fd.2 = false := by assumption
            rw [efd] at h; cases h)
         | (have h : fc.1.comp = false := by assumption
            rw [f4] at h; cases h)
         | (have h : eqFrom (fun q => eCtx.cell fc.1 (0 + q)) (fun q => eCtx.cell fd.1 (0 + q)) 20 0 = false := by assumption
            rw [efd, ctx_eq] at h; cases h)
         | (have h : s = false := by assumption
            have e : s = containsF (ePfx.rd fun j => eCtx.cell fc.1 (0 + 1 + j)) ((eA .u8 16).rd fun q => (eA .u8 16).cell a (0 + q)) := hs
            rw [pfx_rd1, rd_ip, f3, h] at e; cases e)
         | (have h : s = false := by assumption
            have e : s = true := hs
            rw [e] at h; cases h)
         | (refine Done.mk (leF_bool ?_)
            show decide (nw < fc.1.til) = true
            exact decide_eq_true f5))
end Go.Proofs.Ytcnfjifokeancaa.AX
