/- ContextsExpires, by AX2: the law returns true. -/
import Derived.Test.YtcnfjifokeancaaContextsGraceA
namespace Go.Proofs.Ytcnfjifokeancaa.AX
open Go.RowKit
set_option linter.unusedVariables false
set_option linter.unusedSimpArgs false
theorem pfx_eq_of {c d : Ctx} (h : pfxOf c = pfxOf d) : eqFrom (fun q => eCtx.cell c (0 + 1 + q)) (fun q => eCtx.cell d (0 + 1 + q)) 17 0 = true := by
  have e : eqFrom (fun q => eCtx.cell c (0 + 1 + q)) (fun q => eCtx.cell d (0 + 1 + q)) 17 0 = eqFrom (ePfx.cell (pfxOf c)) (ePfx.cell (pfxOf d)) 17 0 :=
    eqFrom_congr (fun j hj => by rw [Nat.zero_add]; exact ctx_pfx_cell c j hj) (fun j hj => by rw [Nat.zero_add]; exact ctx_pfx_cell d j hj)
  rw [e, pEq_from, h, pEq_iff]
set_option maxHeartbeats 4000000 in
set_option maxRecDepth 20000 in
theorem expires_ok (n : Nat) (l : List Int) (hl : rngL l) (now : Int) : PureOk Try.prog 9 [.e (.c (.sl true n 1 (rI l))), (cI .i64).enc now] (.e (.c (.bool true))) := by
  refine pure_intro (wd := 1) (Q := mkQ LWk) (by decide) tysOk (q_of LWk_ok) mixed Try.func9 rfl _ (by show 2 ≤ _; decide) _ ?_
  repeat' (first | (apply And.intro <;> intro hc <;> (first | exact Bool.noConfusion hc | (simp only [decide_eq_true_eq, decide_eq_false_iff_not, Bool.not_eq_true', Bool.not_eq_false', beq_iff_eq, beq_eq_false_iff_ne, bne_iff_ne, bne_eq_false_iff_eq, Bool.true_eq_false, Bool.false_eq_true] at hc) | skip)) | (refine And.intro (by first | exact trivial | decide | omega | (dsimp only; omega) | exact fun _ _ => rfl | exact ⟨by assumption, by first | exact trivial | decide | omega | (dsimp only; omega)⟩) ?_) | (apply And.intro) | (intro s hs))
  · exact ⟨l, rfl, hl⟩
  intro ht0
  repeat' (first | (apply And.intro <;> intro hc <;> (first | exact Bool.noConfusion hc | (simp only [decide_eq_true_eq, decide_eq_false_iff_not, Bool.not_eq_true', Bool.not_eq_false', beq_iff_eq, beq_eq_false_iff_ne, bne_iff_ne, bne_eq_false_iff_eq, Bool.true_eq_false, Bool.false_eq_true] at hc) | skip)) | (refine And.intro (by first | exact trivial | decide | omega | (dsimp only; omega) | exact fun _ _ => rfl | exact ⟨by assumption, by first | exact trivial | decide | omega | (dsimp only; omega)⟩) ?_) | (apply And.intro) | (intro s hs))
  · have := (‹madeL _›).n
    show (toL eCtx _ (rowF eCtx _)).length ≤ _
    rw [toL_len]; omega
  · rename_i L hL sq1 hsq1 dv hdv sq2 hsq2 a ha sq3 hsq3 nw hnw
    obtain ⟨ex, rfl⟩ : ∃ ex, ex = s := ⟨s, rfl⟩
    have hnw' : nw = modF now 90 := hnw
    have hr := modF_lt (v := now) (n := 90) (by omega)
    rw [← hnw'] at hr
    have hvt : vt nw = true := vt_rng.2 (by omega)
    have e : ex = (keepF nw L, 0) := by
      refine hs.trans ?_
      show expF (toL eCtx L.length (rowF eCtx L)) nw = _
      rw [toL_ctx, expF, if_pos hL.v, if_pos hvt]
    have hn16 := hL.n
    have hkn := keep_len (now := nw) L
    have hkv : validT (keepF nw L) = true := keep_valid L (-1) hL.v
    clear hs hnw hnw' hdv hsq1 hsq2 hsq3 ht0
    subst e
    refine loop_intro (mono_of LWk_ok) (fun t : {t : Int // nw ≤ t ∧ t ≤ nw + 42} => (⟨[(1, one (.int .i64 nw)), (6, one (.sl true L.length eCtx.sz (rowF eCtx L))), (7, one (.ptr 11 0 0 false)), (8, one (.sl true (keepF nw L).length eCtx.sz (rowF eCtx (keepF nw L)))), (9, one (.int .i64 0)), (10, one (.int .i64 t.1))],
      [(11, some ⟨28, 1, 16, true, fun _ => (eA .u8 16).cell a⟩)], 30⟩ : Hd)) (fun t => (nw + 43 - t.1).toNat) (fun _ => rfl) ?_ ⟨nw, by omega, by omega⟩ [] ?_
    · rintro ⟨t, ht1, ht2⟩
      dsimp only at ht1 ht2 ⊢
      have w1 : IntKind.i64.wrap (nw + 40) = nw + 40 := IntWalk.i64_in _ (by omega)
      have w2 : IntKind.i64.wrap (t + 3) = t + 3 := IntWalk.i64_in _ (by omega)
      have hvtt : vt t = true := vt_rng.2 (by omega)
      repeat' (first | (apply And.intro <;> intro hc <;> (first | exact Bool.noConfusion hc | (simp only [decide_eq_true_eq, decide_eq_false_iff_not, Bool.not_eq_true', Bool.not_eq_false', beq_iff_eq, beq_eq_false_iff_ne, bne_iff_ne, bne_eq_false_iff_eq, Bool.true_eq_false, Bool.false_eq_true] at hc) | skip)) | (refine And.intro (by first | exact trivial | decide | omega | (dsimp only; omega) | exact fun _ _ => rfl) ?_) | (apply And.intro) | (intro s hs))
      · have := (‹madeL _›).n
        show (toL eCtx _ (rowF eCtx _)).length ≤ _
        rw [toL_len]; omega
      · have := (‹madeL _›).n
        show (toL eCtx _ (rowF eCtx _)).length ≤ _
        rw [toL_len]; omega
      · rename_i x hx c1
        have ex : x = foldC a t (default, false) L := hx.trans (by
          show forCom (toL eCtx L.length (rowF eCtx L)) ((eA .u8 16).rd fun q => (eA .u8 16).cell a (0 + q)) t = _
          rw [toL_ctx, rd_ip, forCom_eq hL.v hvtt])
        have ey : s = foldC a t (default, false) (keepF nw L) := hs.trans (by
          show forCom (toL eCtx (keepF nw L).length (rowF eCtx (keepF nw L))) ((eA .u8 16).rd fun q => (eA .u8 16).cell a (0 + q)) t = _
          rw [toL_ctx, rd_ip, forCom_eq hkv hvtt])
        have exy : x = s := by rw [ex, ey, keep_fold ht1 L _ (-1) hL.v]
        have h : eqFrom (fun q => eCtx.cell x.1 (0 + q)) (fun q => eCtx.cell s.1 (0 + q)) 20 0 = false := by assumption
        rw [exy, ctx_eq] at h; cases h
      · rename_i x hx c1
        have ex : x = foldC a t (default, false) L := hx.trans (by
          show forCom (toL eCtx L.length (rowF eCtx L)) ((eA .u8 16).rd fun q => (eA .u8 16).cell a (0 + q)) t = _
          rw [toL_ctx, rd_ip, forCom_eq hL.v hvtt])
        have ey : s = foldC a t (default, false) (keepF nw L) := hs.trans (by
          show forCom (toL eCtx (keepF nw L).length (rowF eCtx (keepF nw L))) ((eA .u8 16).rd fun q => (eA .u8 16).cell a (0 + q)) t = _
          rw [toL_ctx, rd_ip, forCom_eq hkv hvtt])
        have exy : x = s := by rw [ex, ey, keep_fold ht1 L _ (-1) hL.v]
        exact absurd (congrArg Prod.snd exy) hc
      · have htl : t < nw + 40 := by
          have : t < IntKind.i64.wrap (nw + 40) := by assumption
          omega
        clear hc hs
        refine loop_intro (mono_of LWk_ok) (fun k : {k : Nat // k ≤ 16} => (⟨[(1, one (.int .i64 nw)), (6, one (.sl true L.length eCtx.sz (rowF eCtx L))), (7, one (.ptr 11 0 0 false)), (8, one (.sl true (keepF nw L).length eCtx.sz (rowF eCtx (keepF nw L)))), (9, one (.int .i64 0)), (10, one (.int .i64 t)), (15, one (.int .i64 (k.1 : Int)))],
          [(11, some ⟨28, 1, 16, true, fun _ => (eA .u8 16).cell a⟩)], 100⟩ : Hd)) (fun k => 16 - k.1) (fun _ => rfl) ?_ ⟨0, by omega⟩ [] ?_
        · rintro ⟨k, hk⟩
          dsimp only at hk ⊢
          repeat' (first | (apply And.intro <;> intro hc <;> (first | exact Bool.noConfusion hc | (simp only [decide_eq_true_eq, decide_eq_false_iff_not, Bool.not_eq_true', Bool.not_eq_false', beq_iff_eq, beq_eq_false_iff_ne, bne_iff_ne, bne_eq_false_iff_eq, Bool.true_eq_false, Bool.false_eq_true] at hc) | skip)) | (refine And.intro (by first | exact trivial | decide | omega | (dsimp only; omega) | exact fun _ _ => rfl) ?_) | (apply And.intro) | (intro s hs))
          · have := (‹madeL _›).n
            show (toL eCtx _ (rowF eCtx _)).length ≤ _
            rw [toL_len]; omega
          · have := (‹madeL _›).n
            show (toL eCtx _ (rowF eCtx _)).length ≤ _
            rw [toL_len]; omega
          all_goals first
          | (rename_i x hx
             have ex : x = findDec (k : Int) t L := hx.trans (by
               show forDec (toL eCtx L.length (rowF eCtx L)) (k : Int) t = _
               rw [toL_ctx, forDec_eq hL.v hvtt])
             have ey : s = findDec (k : Int) t (keepF nw L) := hs.trans (by
               show forDec (toL eCtx (keepF nw L).length (rowF eCtx (keepF nw L))) (k : Int) t = _
               rw [toL_ctx, forDec_eq hkv hvtt])
             have ag := keep_find (id := (k : Int)) ht1 L (-1) hL.v
             rw [← ex, ← ey] at ag
             first
               | exact absurd ag.b (by assumption)
               | exact absurd ag.i (by assumption)
               | exact absurd ag.t (by assumption)
               | (have h : eqFrom (fun q => eCtx.cell x.1 (0 + 1 + q)) (fun q => eCtx.cell s.1 (0 + 1 + q)) 17 0 = false := by assumption
                  rw [pfx_eq_of ag.p] at h; cases h))
          | (rename_i x hx c1
             have ex : x = findDec (k : Int) t L := hx.trans (by
               show forDec (toL eCtx L.length (rowF eCtx L)) (k : Int) t = _
               rw [toL_ctx, forDec_eq hL.v hvtt])
             have ey : s = findDec (k : Int) t (keepF nw L) := hs.trans (by
               show forDec (toL eCtx (keepF nw L).length (rowF eCtx (keepF nw L))) (k : Int) t = _
               rw [toL_ctx, forDec_eq hkv hvtt])
             have ag := keep_find (id := (k : Int)) ht1 L (-1) hL.v
             rw [← ex, ← ey] at ag
             first
               | exact absurd ag.b (by assumption)
               | exact absurd ag.i (by assumption)
               | exact absurd ag.t (by assumption)
               | (have h : eqFrom (fun q => eCtx.cell x.1 (0 + 1 + q)) (fun q => eCtx.cell s.1 (0 + 1 + q)) 17 0 = false := by assumption
                  rw [pfx_eq_of ag.p] at h; cases h))
          | (rename_i x hx c1 c2
             have ex : x = findDec (k : Int) t L := hx.trans (by
               show forDec (toL eCtx L.length (rowF eCtx L)) (k : Int) t = _
               rw [toL_ctx, forDec_eq hL.v hvtt])
             have ey : s = findDec (k : Int) t (keepF nw L) := hs.trans (by
               show forDec (toL eCtx (keepF nw L).length (rowF eCtx (keepF nw L))) (k : Int) t = _
               rw [toL_ctx, forDec_eq hkv hvtt])
             have ag := keep_find (id := (k : Int)) ht1 L (-1) hL.v
             rw [← ex, ← ey] at ag
             first
               | exact absurd ag.b (by assumption)
               | exact absurd ag.i (by assumption)
               | exact absurd ag.t (by assumption)
               | (have h : eqFrom (fun q => eCtx.cell x.1 (0 + 1 + q)) (fun q => eCtx.cell s.1 (0 + 1 + q)) 17 0 = false := by assumption
                  rw [pfx_eq_of ag.p] at h; cases h))
          | (rename_i x hx c1 c2 c3
             have ex : x = findDec (k : Int) t L := hx.trans (by
               show forDec (toL eCtx L.length (rowF eCtx L)) (k : Int) t = _
               rw [toL_ctx, forDec_eq hL.v hvtt])
             have ey : s = findDec (k : Int) t (keepF nw L) := hs.trans (by
               show forDec (toL eCtx (keepF nw L).length (rowF eCtx (keepF nw L))) (k : Int) t = _
               rw [toL_ctx, forDec_eq hkv hvtt])
             have ag := keep_find (id := (k : Int)) ht1 L (-1) hL.v
             rw [← ex, ← ey] at ag
             first
               | exact absurd ag.b (by assumption)
               | exact absurd ag.i (by assumption)
               | exact absurd ag.t (by assumption)
               | (have h : eqFrom (fun q => eCtx.cell x.1 (0 + 1 + q)) (fun q => eCtx.cell s.1 (0 + 1 + q)) 17 0 = false := by assumption
                  rw [pfx_eq_of ag.p] at h; cases h))
          | (rename_i x hx c1 c2 c3 c4
             have ex : x = findDec (k : Int) t L := hx.trans (by
               show forDec (toL eCtx L.length (rowF eCtx L)) (k : Int) t = _
               rw [toL_ctx, forDec_eq hL.v hvtt])
             have ey : s = findDec (k : Int) t (keepF nw L) := hs.trans (by
               show forDec (toL eCtx (keepF nw L).length (rowF eCtx (keepF nw L))) (k : Int) t = _
               rw [toL_ctx, forDec_eq hkv hvtt])
             have ag := keep_find (id := (k : Int)) ht1 L (-1) hL.v
             rw [← ex, ← ey] at ag
             first
               | exact absurd ag.b (by assumption)
               | exact absurd ag.i (by assumption)
               | exact absurd ag.t (by assumption)
               | (have h : eqFrom (fun q => eCtx.cell x.1 (0 + 1 + q)) (fun q => eCtx.cell s.1 (0 + 1 + q)) 17 0 = false := by assumption
                  rw [pfx_eq_of ag.p] at h; cases h))
          | (rename_i x hx c1 c2 c3 c4 c5
             have ex : x = findDec (k : Int) t L := hx.trans (by
               show forDec (toL eCtx L.length (rowF eCtx L)) (k : Int) t = _
               rw [toL_ctx, forDec_eq hL.v hvtt])
             have ey : s = findDec (k : Int) t (keepF nw L) := hs.trans (by
               show forDec (toL eCtx (keepF nw L).length (rowF eCtx (keepF nw L))) (k : Int) t = _
               rw [toL_ctx, forDec_eq hkv hvtt])
             have ag := keep_find (id := (k : Int)) ht1 L (-1) hL.v
             rw [← ex, ← ey] at ag
             first
               | exact absurd ag.b (by assumption)
               | exact absurd ag.i (by assumption)
               | exact absurd ag.t (by assumption)
               | (have h : eqFrom (fun q => eCtx.cell x.1 (0 + 1 + q)) (fun q => eCtx.cell s.1 (0 + 1 + q)) 17 0 = false := by assumption
                  rw [pfx_eq_of ag.p] at h; cases h))
          | (refine ⟨⟨k + 1, by omega⟩, [], by dsimp only; omega, rfl, ?_, ?_⟩
             · repeat' (first | exact trivial | exact rfl | exact leF_ptr rfl | exact leF_int rfl | exact leF_bool rfl | exact leF_cl (cl_slB _ _) | exact leF_cl (cl_slR _ _) | exact leF_c (leC_os rfl rfl) | refine leF_int ?_ | refine leF_bool ?_ | exact leN_varA (fun _ _ => (Elem.flat _ _ _).le) | exact leN_varA (fun _ _ => leC_top) | apply And.intro)
               refine (IntWalk.i64_in _ ?_).trans ?_
               · constructor <;> omega
               · dsimp only
                 omega
             · repeat' (first | exact trivial | exact rfl | exact leF_ptr rfl | exact leF_int rfl | exact leF_bool rfl | exact leF_cl (cl_slB _ _) | exact leF_cl (cl_slR _ _) | exact leF_c (leC_os rfl rfl) | refine leF_int ?_ | refine leF_bool ?_ | exact leN_varA (fun _ _ => (Elem.flat _ _ _).le) | exact leN_varA (fun _ _ => leC_top) | apply And.intro))
          | (refine ⟨⟨t + 3, by omega, by omega⟩, [], by dsimp only; omega, rfl, ?_, ?_⟩
             · repeat' (first | exact trivial | exact rfl | exact leF_ptr rfl | exact leF_int rfl | exact leF_bool rfl | exact leF_cl (cl_slB _ _) | exact leF_cl (cl_slR _ _) | exact leF_c (leC_os rfl rfl) | refine leF_int ?_ | refine leF_bool ?_ | exact leN_varA (fun _ _ => (Elem.flat _ _ _).le) | exact leN_varA (fun _ _ => leC_top) | apply And.intro)
               exact w2
             · repeat' (first | exact trivial | exact rfl | exact leF_ptr rfl | exact leF_int rfl | exact leF_bool rfl | exact leF_cl (cl_slB _ _) | exact leF_cl (cl_slR _ _) | exact leF_c (leC_os rfl rfl) | refine leF_int ?_ | refine leF_bool ?_ | exact leN_varA (fun _ _ => (Elem.flat _ _ _).le) | exact leN_varA (fun _ _ => leC_top) | apply And.intro))
        · refine ⟨rfl, ?_, ?_⟩
          · repeat' (first | exact trivial | exact rfl | exact leF_ptr rfl | exact leF_int rfl | exact leF_bool rfl | exact leF_cl (cl_slB _ _) | exact leF_cl (cl_slR _ _) | exact leF_c (leC_os rfl rfl) | refine leF_int ?_ | refine leF_bool ?_ | exact leN_varA (fun _ _ => (Elem.flat _ _ _).le) | exact leN_varA (fun _ _ => leC_top) | apply And.intro)
          · repeat' (first | exact trivial | exact rfl | exact leF_ptr rfl | exact leF_int rfl | exact leF_bool rfl | exact leF_cl (cl_slB _ _) | exact leF_cl (cl_slR _ _) | exact leF_c (leC_os rfl rfl) | refine leF_int ?_ | refine leF_bool ?_ | exact leN_varA (fun _ _ => (Elem.flat _ _ _).le) | exact leN_varA (fun _ _ => leC_top) | apply And.intro)
      · have := (‹madeL _›).n
        show (toL eCtx _ (rowF eCtx _)).length ≤ _
        rw [toL_len]; omega
      · refine Done.mk (leF_bool ?_)
        refine hs.trans ?_
        show validT (toL eCtx (keepF nw L).length (rowF eCtx (keepF nw L))) = true
        rw [toL_ctx]; exact hkv
      · have h : s = false := by assumption
        have e : s = true := hs
        rw [e] at h; cases h
    · refine ⟨rfl, ?_, ?_⟩
      · repeat' (first | exact trivial | exact rfl | exact leF_ptr rfl | exact leF_int rfl | exact leF_bool rfl | exact leF_cl (cl_slB _ _) | exact leF_cl (cl_slR _ _) | exact leF_c (leC_os rfl rfl) | refine leF_int ?_ | refine leF_bool ?_ | exact leN_varA (fun _ _ => (Elem.flat _ _ _).le) | exact leN_varA (fun _ _ => leC_top) | apply And.intro)
      · repeat' (first | exact trivial | exact rfl | exact leF_ptr rfl | exact leF_int rfl | exact leF_bool rfl | exact leF_cl (cl_slB _ _) | exact leF_cl (cl_slR _ _) | exact leF_c (leC_os rfl rfl) | refine leF_int ?_ | refine leF_bool ?_ | exact leN_varA (fun _ _ => (Elem.flat _ _ _).le) | exact leN_varA (fun _ _ => leC_top) | apply And.intro)
end Go.Proofs.Ytcnfjifokeancaa.AX
