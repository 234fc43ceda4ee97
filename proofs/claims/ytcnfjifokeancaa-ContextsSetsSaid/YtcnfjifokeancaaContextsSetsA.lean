/- ContextsSets, by AX2: the law returns true. -/
import Derived.Test.YtcnfjifokeancaaContextsGraceA
namespace Go.Proofs.Ytcnfjifokeancaa.AX
open Go.RowKit
set_option linter.unusedVariables false
set_option linter.unusedSimpArgs false
theorem ctx_eq0 (c : Ctx) : eqFrom (eCtx.cell c) (eCtx.cell c) 20 0 = true := by
  rw [eqFrom_iff]
  exact fun i _ => ctx_cell_eq c _
theorem ctx_build1 (base : Nat → CV) (id : Int) (p : Pfx) (b : Bool) (t : Int) : eCtx.rd (fun q => ovr (ovr (ovr (ovr base 0 1 fun _ => .int .i64 id) 1 17 (ePfx.cell p)) 18 1 fun _ => .bool b) 19 1 (fun _ => .int .i64 t) (0 + q)) = ⟨id, p.ip, p.bits, b, t⟩ := by
  simp only [Nat.zero_add]
  exact ctx_build base id p b t
set_option maxHeartbeats 4000000 in
set_option maxRecDepth 20000 in
theorem sets_ok (n : Nat) (l : List Int) (hl : rngL l) (now : Int) : PureOk Try.prog 5 [.e (.c (.sl true n 1 (rI l))), (cI .i64).enc now] (.e (.c (.bool true))) := by
  refine pure_intro (wd := 1) (Q := mkQ LWk) (by decide) tysOk (q_of LWk_ok) mixed Try.func5 rfl _ (by show 2 ≤ _; decide) _ ?_
  repeat' (first | (apply And.intro <;> intro hc <;> (first | exact Bool.noConfusion hc | (simp only [decide_eq_true_eq, decide_eq_false_iff_not, Bool.not_eq_true', Bool.not_eq_false', beq_iff_eq, beq_eq_false_iff_ne, bne_iff_ne, bne_eq_false_iff_eq, Bool.true_eq_false, Bool.false_eq_true] at hc) | skip)) | (refine And.intro (by first | exact trivial | decide | omega | (dsimp only; omega) | exact fun _ _ => rfl | exact ⟨by assumption, by first | exact trivial | decide | omega | (dsimp only; omega)⟩) ?_) | (apply And.intro) | (intro s hs))
  · exact ⟨l, rfl, hl⟩
  intro ht0
  repeat' (first | (apply And.intro <;> intro hc <;> (first | exact Bool.noConfusion hc | (simp only [decide_eq_true_eq, decide_eq_false_iff_not, Bool.not_eq_true', Bool.not_eq_false', beq_iff_eq, beq_eq_false_iff_ne, bne_iff_ne, bne_eq_false_iff_eq, Bool.true_eq_false, Bool.false_eq_true] at hc) | skip)) | (refine And.intro (by first | exact trivial | decide | omega | (dsimp only; omega) | exact fun _ _ => rfl | exact ⟨by assumption, by first | exact trivial | decide | omega | (dsimp only; omega)⟩) ?_) | (apply And.intro) | (intro s hs))
  · have := (‹madeL _›).n
    show (toL eCtx _ (rowF eCtx _)).length ≤ _
    rw [toL_len]; omega
  · rename_i L hL q1 hq1 id hid q2 hq2 p hp q3 hq3 b hb q4 hq4 u hu q5 hq5 st hst
    obtain ⟨nw, rfl⟩ : ∃ nw, nw = s := ⟨s, rfl⟩
    have hnw' : nw = modF now 100 := hs
    have hr := modF_lt (v := now) (n := 100) (by omega)
    rw [← hnw'] at hr
    have hvt : vt nw = true := vt_rng.2 (by omega)
    have hid' : 0 ≤ id ∧ id < 16 := hid
    have hu' : 0 ≤ u ∧ u < 60 := hu
    obtain ⟨c, hcd⟩ : ∃ c : Ctx, c = ⟨id, p.ip, p.bits, b, u⟩ := ⟨_, rfl⟩
    have hcid : c.id = id := by rw [hcd]
    have hctil : c.til = u := by rw [hcd]
    have hcv : validT [c] = true := valid_cons.2 ⟨by rw [hcid]; omega, by rw [hcid]; omega, by rw [hcd]; exact hp.1, vt_rng.2 (by rw [hctil]; omega), rfl⟩
    have e : st = (setL c L, 0) := by
      refine hst.trans ?_
      show setF (toL eCtx L.length (rowF eCtx L)) (eCtx.rd (fun q => ovr (ovr (ovr (ovr _ 0 1 fun _ => .int .i64 id) 1 17 (ePfx.cell p)) 18 1 fun _ => .bool b) 19 1 (fun _ => .int .i64 u) (0 + q))) = _
      rw [toL_ctx, ctx_build1, ← hcd, setF, if_pos ⟨hL.v, hcv⟩]
    have hn16 := hL.n
    have hkn := set_len (c := c) L
    have hsv : validT (setL c L) = true := by
      obtain ⟨_, g2, g3, g4, _⟩ := valid_cons.1 hcv
      exact set_valid g2 g3 g4 L (-1) hL.v (by rw [hcid]; omega)
    have hlc : LeN ⟨[], [], [], 0, false⟩ ⟨0, 1, 20, true, fun _ _ => .top⟩ ⟨0, 1, 20, true, fun _ _ => .top⟩ := leN_varA fun _ _ => leC_top
    clear hs hnw' hst hb hq1 hq2 hq3 hq4 hq5 ht0 hid hu hlc
    subst e
    refine loop_intro (mono_of LWk_ok) (fun i : {i : Nat // i ≤ 16} => (⟨[(1, one (.int .i64 nw)), (6, one (.sl true L.length eCtx.sz (rowF eCtx L))), (7, one (.ptr 16 0 0 false)), (8, one (.sl true (setL c L).length eCtx.sz (rowF eCtx (setL c L)))), (9, one (.int .i64 0)), (10, one (.int .i64 (i.1 : Int)))],
      [(16, some ⟨41, 1, 20, true, fun _ => eCtx.cell c⟩)], 30⟩ : Hd)) (fun i => 16 - i.1) (fun _ => rfl) ?_ ⟨0, by omega⟩ [] ?_
    · rintro ⟨i, hi⟩
      dsimp only at hi ⊢
      have fy : (i : Int) ≠ c.id → forDec (setL c L) (i : Int) nw = forDec L (i : Int) nw := fun h => by
        rw [forDec_eq hsv hvt, forDec_eq hL.v hvt, set_find_ne h]
      have fz : (i : Int) = c.id → forDec (setL c L) (i : Int) nw = if decom c nw = true then (c, true) else (default, false) := fun h => by
        rw [forDec_eq hsv hvt, h]
        exact set_find_eq L (-1) hL.v
      repeat' (first | (apply And.intro <;> intro hc <;> (first | exact Bool.noConfusion hc | (simp only [decide_eq_true_eq, decide_eq_false_iff_not, Bool.not_eq_true', Bool.not_eq_false', beq_iff_eq, beq_eq_false_iff_ne, bne_iff_ne, bne_eq_false_iff_eq, Bool.true_eq_false, Bool.false_eq_true] at hc) | skip)) | (refine And.intro (by first | exact trivial | decide | omega | (dsimp only; omega) | exact fun _ _ => rfl) ?_) | (apply And.intro) | (intro s hs))
      · show (toL eCtx _ (rowF eCtx _)).length ≤ _
        rw [toL_len]; omega
      · show (toL eCtx _ (rowF eCtx _)).length ≤ _
        rw [toL_len]; omega
      all_goals first
        | (rename_i x hx
           have ex : x = forDec L (i : Int) nw := hx.trans (by
             show forDec (toL eCtx L.length (rowF eCtx L)) (i : Int) nw = _
             rw [toL_ctx])
           have ey : s = forDec (setL c L) (i : Int) nw := hs.trans (by
             show forDec (toL eCtx (setL c L).length (rowF eCtx (setL c L))) (i : Int) nw = _
             rw [toL_ctx])
           first
             | (have h1 : (i : Int) = c.id := by assumption
                have h2 : ¬ nw < IntKind.i64.wrap (c.til + 32) := by assumption
                have es : s = (default, false) := by rw [ey, fz h1, if_neg (show ¬ decom c nw = true from fun h => h2 (of_decide_eq_true h))]
                first
                  | (have h : decide (nw < IntKind.i64.wrap (c.til + 32)) ≠ s.2 := by assumption
                     exact absurd (by rw [es, decide_eq_false h2]) h)
                  | (have h : eqFrom (eCtx.cell default) (eCtx.cell s.1) 20 0 = false := hc
                     rw [es, ctx_eq0] at h; cases h))
             | (have h1 : (i : Int) = c.id := by assumption
                have h2 : nw < IntKind.i64.wrap (c.til + 32) := by assumption
                have es : s = (c, true) := by rw [ey, fz h1, if_pos (show decom c nw = true from decide_eq_true h2)]
                first
                  | (have h : decide (nw < IntKind.i64.wrap (c.til + 32)) ≠ s.2 := by assumption
                     exact absurd (by rw [es, decide_eq_true h2]) h)
                  | (have h : eqFrom (eCtx.cell c) (eCtx.cell s.1) 20 0 = false := hc
                     rw [es, ctx_eq0] at h; cases h))
             | (have h1 : (i : Int) ≠ c.id := by assumption
                have es : x = s := by rw [ex, ey, fy h1]
                first
                  | (have h : x.2 ≠ s.2 := by assumption
                     exact absurd (congrArg Prod.snd es) h)
                  | (have h : eqFrom (eCtx.cell x.1) (eCtx.cell s.1) 20 0 = false := hc
                     rw [es, ctx_eq0] at h; cases h)))
        | (rename_i x hx c1
           have ex : x = forDec L (i : Int) nw := hx.trans (by
             show forDec (toL eCtx L.length (rowF eCtx L)) (i : Int) nw = _
             rw [toL_ctx])
           have ey : s = forDec (setL c L) (i : Int) nw := hs.trans (by
             show forDec (toL eCtx (setL c L).length (rowF eCtx (setL c L))) (i : Int) nw = _
             rw [toL_ctx])
           first
             | (have h1 : (i : Int) = c.id := by assumption
                have h2 : ¬ nw < IntKind.i64.wrap (c.til + 32) := by assumption
                have es : s = (default, false) := by rw [ey, fz h1, if_neg (show ¬ decom c nw = true from fun h => h2 (of_decide_eq_true h))]
                first
                  | (have h : decide (nw < IntKind.i64.wrap (c.til + 32)) ≠ s.2 := by assumption
                     exact absurd (by rw [es, decide_eq_false h2]) h)
                  | (have h : eqFrom (eCtx.cell default) (eCtx.cell s.1) 20 0 = false := hc
                     rw [es, ctx_eq0] at h; cases h))
             | (have h1 : (i : Int) = c.id := by assumption
                have h2 : nw < IntKind.i64.wrap (c.til + 32) := by assumption
                have es : s = (c, true) := by rw [ey, fz h1, if_pos (show decom c nw = true from decide_eq_true h2)]
                first
                  | (have h : decide (nw < IntKind.i64.wrap (c.til + 32)) ≠ s.2 := by assumption
                     exact absurd (by rw [es, decide_eq_true h2]) h)
                  | (have h : eqFrom (eCtx.cell c) (eCtx.cell s.1) 20 0 = false := hc
                     rw [es, ctx_eq0] at h; cases h))
             | (have h1 : (i : Int) ≠ c.id := by assumption
                have es : x = s := by rw [ex, ey, fy h1]
                first
                  | (have h : x.2 ≠ s.2 := by assumption
                     exact absurd (congrArg Prod.snd es) h)
                  | (have h : eqFrom (eCtx.cell x.1) (eCtx.cell s.1) 20 0 = false := hc
                     rw [es, ctx_eq0] at h; cases h)))
        | (rename_i x hx c1 c2
           have ex : x = forDec L (i : Int) nw := hx.trans (by
             show forDec (toL eCtx L.length (rowF eCtx L)) (i : Int) nw = _
             rw [toL_ctx])
           have ey : s = forDec (setL c L) (i : Int) nw := hs.trans (by
             show forDec (toL eCtx (setL c L).length (rowF eCtx (setL c L))) (i : Int) nw = _
             rw [toL_ctx])
           first
             | (have h1 : (i : Int) = c.id := by assumption
                have h2 : ¬ nw < IntKind.i64.wrap (c.til + 32) := by assumption
                have es : s = (default, false) := by rw [ey, fz h1, if_neg (show ¬ decom c nw = true from fun h => h2 (of_decide_eq_true h))]
                first
                  | (have h : decide (nw < IntKind.i64.wrap (c.til + 32)) ≠ s.2 := by assumption
                     exact absurd (by rw [es, decide_eq_false h2]) h)
                  | (have h : eqFrom (eCtx.cell default) (eCtx.cell s.1) 20 0 = false := hc
                     rw [es, ctx_eq0] at h; cases h))
             | (have h1 : (i : Int) = c.id := by assumption
                have h2 : nw < IntKind.i64.wrap (c.til + 32) := by assumption
                have es : s = (c, true) := by rw [ey, fz h1, if_pos (show decom c nw = true from decide_eq_true h2)]
                first
                  | (have h : decide (nw < IntKind.i64.wrap (c.til + 32)) ≠ s.2 := by assumption
                     exact absurd (by rw [es, decide_eq_true h2]) h)
                  | (have h : eqFrom (eCtx.cell c) (eCtx.cell s.1) 20 0 = false := hc
                     rw [es, ctx_eq0] at h; cases h))
             | (have h1 : (i : Int) ≠ c.id := by assumption
                have es : x = s := by rw [ex, ey, fy h1]
                first
                  | (have h : x.2 ≠ s.2 := by assumption
                     exact absurd (congrArg Prod.snd es) h)
                  | (have h : eqFrom (eCtx.cell x.1) (eCtx.cell s.1) 20 0 = false := hc
                     rw [es, ctx_eq0] at h; cases h)))
        | (rename_i x hx c1 c2 c3
           have ex : x = forDec L (i : Int) nw := hx.trans (by
             show forDec (toL eCtx L.length (rowF eCtx L)) (i : Int) nw = _
             rw [toL_ctx])
           have ey : s = forDec (setL c L) (i : Int) nw := hs.trans (by
             show forDec (toL eCtx (setL c L).length (rowF eCtx (setL c L))) (i : Int) nw = _
             rw [toL_ctx])
           first
             | (have h1 : (i : Int) = c.id := by assumption
                have h2 : ¬ nw < IntKind.i64.wrap (c.til + 32) := by assumption
                have es : s = (default, false) := by rw [ey, fz h1, if_neg (show ¬ decom c nw = true from fun h => h2 (of_decide_eq_true h))]
                first
                  | (have h : decide (nw < IntKind.i64.wrap (c.til + 32)) ≠ s.2 := by assumption
                     exact absurd (by rw [es, decide_eq_false h2]) h)
                  | (have h : eqFrom (eCtx.cell default) (eCtx.cell s.1) 20 0 = false := hc
                     rw [es, ctx_eq0] at h; cases h))
             | (have h1 : (i : Int) = c.id := by assumption
                have h2 : nw < IntKind.i64.wrap (c.til + 32) := by assumption
                have es : s = (c, true) := by rw [ey, fz h1, if_pos (show decom c nw = true from decide_eq_true h2)]
                first
                  | (have h : decide (nw < IntKind.i64.wrap (c.til + 32)) ≠ s.2 := by assumption
                     exact absurd (by rw [es, decide_eq_true h2]) h)
                  | (have h : eqFrom (eCtx.cell c) (eCtx.cell s.1) 20 0 = false := hc
                     rw [es, ctx_eq0] at h; cases h))
             | (have h1 : (i : Int) ≠ c.id := by assumption
                have es : x = s := by rw [ex, ey, fy h1]
                first
                  | (have h : x.2 ≠ s.2 := by assumption
                     exact absurd (congrArg Prod.snd es) h)
                  | (have h : eqFrom (eCtx.cell x.1) (eCtx.cell s.1) 20 0 = false := hc
                     rw [es, ctx_eq0] at h; cases h)))
        | (rename_i x hx c1 c2 c3 c4
           have ex : x = forDec L (i : Int) nw := hx.trans (by
             show forDec (toL eCtx L.length (rowF eCtx L)) (i : Int) nw = _
             rw [toL_ctx])
           have ey : s = forDec (setL c L) (i : Int) nw := hs.trans (by
             show forDec (toL eCtx (setL c L).length (rowF eCtx (setL c L))) (i : Int) nw = _
             rw [toL_ctx])
           first
             | (have h1 : (i : Int) = c.id := by assumption
                have h2 : ¬ nw < IntKind.i64.wrap (c.til + 32) := by assumption
                have es : s = (default, false) := by rw [ey, fz h1, if_neg (show ¬ decom c nw = true from fun h => h2 (of_decide_eq_true h))]
                first
                  | (have h : decide (nw < IntKind.i64.wrap (c.til + 32)) ≠ s.2 := by assumption
                     exact absurd (by rw [es, decide_eq_false h2]) h)
                  | (have h : eqFrom (eCtx.cell default) (eCtx.cell s.1) 20 0 = false := hc
                     rw [es, ctx_eq0] at h; cases h))
             | (have h1 : (i : Int) = c.id := by assumption
                have h2 : nw < IntKind.i64.wrap (c.til + 32) := by assumption
                have es : s = (c, true) := by rw [ey, fz h1, if_pos (show decom c nw = true from decide_eq_true h2)]
                first
                  | (have h : decide (nw < IntKind.i64.wrap (c.til + 32)) ≠ s.2 := by assumption
                     exact absurd (by rw [es, decide_eq_true h2]) h)
                  | (have h : eqFrom (eCtx.cell c) (eCtx.cell s.1) 20 0 = false := hc
                     rw [es, ctx_eq0] at h; cases h))
             | (have h1 : (i : Int) ≠ c.id := by assumption
                have es : x = s := by rw [ex, ey, fy h1]
                first
                  | (have h : x.2 ≠ s.2 := by assumption
                     exact absurd (congrArg Prod.snd es) h)
                  | (have h : eqFrom (eCtx.cell x.1) (eCtx.cell s.1) 20 0 = false := hc
                     rw [es, ctx_eq0] at h; cases h)))
        | (refine ⟨⟨i + 1, by omega⟩, [], by dsimp only; omega, rfl, ?_, ?_⟩
           · repeat' (first | exact trivial | exact rfl | exact leF_ptr rfl | exact leF_int rfl | exact leF_bool rfl | exact leF_cl (cl_slB _ _) | exact leF_cl (cl_slR _ _) | exact leF_c (leC_os rfl rfl) | refine leF_int ?_ | refine leF_bool ?_ | exact leN_varA (fun _ _ => (Elem.flat _ _ _).le) | exact leN_varA (fun _ _ => leC_top) | apply And.intro)
             refine (IntWalk.i64_in _ ?_).trans ?_
             · constructor <;> omega
             · dsimp only
               omega
           · repeat' (first | exact trivial | exact rfl | exact leF_ptr rfl | exact leF_int rfl | exact leF_bool rfl | exact leF_cl (cl_slB _ _) | exact leF_cl (cl_slR _ _) | exact leF_c (leC_os rfl rfl) | refine leF_int ?_ | refine leF_bool ?_ | exact leN_varA (fun _ _ => (Elem.flat _ _ _).le) | exact leN_varA (fun _ _ => leC_top) | apply And.intro))
        | (show (toL eCtx _ (rowF eCtx _)).length ≤ _
           rw [toL_len]; omega)
        | (have h : s = false := by assumption
           have e : s = true := hs
           rw [e] at h; cases h)
        | (have h : s = false := by assumption
           have e : s = validT (toL eCtx (setL c L).length (rowF eCtx (setL c L))) := hs
           rw [toL_ctx, hsv, h] at e; cases e)
        | (refine Done.mk (leF_bool ?_)
           show decide (((setL c L).length : Int) ≤ IntKind.i64.wrap ((L.length : Int) + 1)) = true
           rw [IntWalk.i64_in _ (by omega)]
           exact decide_eq_true (by omega))
    · refine ⟨rfl, ?_, ?_⟩
      · repeat' (first | exact trivial | exact rfl | exact leF_ptr rfl | exact leF_int rfl | exact leF_bool rfl | exact leF_cl (cl_slB _ _) | exact leF_cl (cl_slR _ _) | exact leF_c (leC_os rfl rfl) | refine leF_int ?_ | refine leF_bool ?_ | exact leN_varA (fun _ _ => (Elem.flat _ _ _).le) | exact leN_varA (fun _ _ => leC_top) | apply And.intro)
      · subst hcd
        repeat' (first | exact trivial | exact rfl | exact leF_ptr rfl | exact leF_int rfl | exact leF_bool rfl | exact leF_cl (cl_slB _ _) | exact leF_cl (cl_slR _ _) | exact leF_c (leC_os rfl rfl) | refine leF_int ?_ | refine leF_bool ?_ | exact leN_varA (fun _ _ => (Elem.flat _ _ _).le) | exact leN_varA (fun _ _ => leC_top) | apply And.intro)
        refine leN_var ?_
        repeat' (first | exact trivial | exact rfl | exact leC_int rfl | exact leC_bool rfl | refine leE_all ?_ | exact leC_bool (by assumption) | apply And.intro)
end Go.Proofs.Ytcnfjifokeancaa.AX
