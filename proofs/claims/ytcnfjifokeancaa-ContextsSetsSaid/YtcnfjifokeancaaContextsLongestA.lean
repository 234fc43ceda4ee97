/- ContextsLongest, by AX2: the law returns true. -/
import Derived.Test.YtcnfjifokeancaaLw
import Derived.Test.YtcnfjifokeancaaLp
namespace Go.Proofs.Ytcnfjifokeancaa.AX
open Go.RowKit
set_option linter.unusedVariables false
set_option linter.unusedSimpArgs false
theorem getD_mem {L : List Ctx} {i : Nat} (h : i < L.length) : L.getD i default ∈ L := by
  rw [List.getD_eq_getElem?_getD, List.getElem?_eq_getElem h]
  exact List.getElem_mem h
set_option maxHeartbeats 4000000 in
set_option maxRecDepth 20000 in
theorem longest_ok (n : Nat) (l : List Int) (hl : rngL l) (now : Int) : PureOk Try.prog 3 [.e (.c (.sl true n 1 (rI l))), (cI .i64).enc now] (.e (.c (.bool true))) := by
  refine pure_intro (wd := 1) (Q := mkQ LWk) (by decide) tysOk (q_of LWk_ok) mixed Try.func3 rfl _ (by show 2 ≤ _; decide) _ ?_
  repeat' (first | (apply And.intro <;> intro hc <;> (first | exact Bool.noConfusion hc | (simp only [decide_eq_true_eq, decide_eq_false_iff_not, Bool.not_eq_true', Bool.not_eq_false', beq_iff_eq, beq_eq_false_iff_ne, bne_iff_ne, bne_eq_false_iff_eq, Bool.true_eq_false, Bool.false_eq_true] at hc) | skip)) | (refine And.intro (by first | exact trivial | decide | omega | (dsimp only; omega) | exact fun _ _ => rfl | exact ⟨by assumption, by first | exact trivial | decide | omega | (dsimp only; omega)⟩) ?_) | (apply And.intro) | (intro s hs))
  · exact ⟨l, rfl, hl⟩
  intro ht0
  repeat' (first | (apply And.intro <;> intro hc <;> (first | exact Bool.noConfusion hc | (simp only [decide_eq_true_eq, decide_eq_false_iff_not, Bool.not_eq_true', Bool.not_eq_false', beq_iff_eq, beq_eq_false_iff_ne, bne_iff_ne, bne_eq_false_iff_eq, Bool.true_eq_false, Bool.false_eq_true] at hc) | skip)) | (refine And.intro (by first | exact trivial | decide | omega | (dsimp only; omega) | exact fun _ _ => rfl | exact ⟨by assumption, by first | exact trivial | decide | omega | (dsimp only; omega)⟩) ?_) | (apply And.intro) | (intro s hs))
  · rename_i L hL sq1 hsq1 dv hdv sq2 hsq2 a ha sq3 hsq3
    show (toL eCtx L.length (rowF eCtx L)).length ≤ _
    rw [toL_ctx]
    have := hL.n
    omega
  · rename_i L hL sq1 hsq1 dv hdv sq2 hsq2 a ha sq3 hsq3 nw hnw
    obtain ⟨fc, rfl⟩ : ∃ fc, fc = s := ⟨s, rfl⟩
    have hnw' : nw = modF now 60 := hnw
    have hr := modF_lt (v := now) (n := 60) (by omega)
    rw [← hnw'] at hr
    have hvt : vt nw = true := vt_rng.2 (by omega)
    have e : fc = foldC a nw (default, false) L := by
      refine hs.trans ?_
      show forCom (toL eCtx L.length (rowF eCtx L)) ((eA .u8 16).rd fun q => (eA .u8 16).cell a (0 + q)) nw = _
      rw [toL_ctx, rd_ip, forCom_eq hL.v hvt]
    have hspec := (fold_spec a nw L (default, false) (-1) hL.v (fun h => by cases h)).2.1
    rw [← e] at hspec
    clear hs e hnw hnw' hdv hsq1 hsq2 hsq3 ht0
    refine loop_intro (mono_of LWk_ok) (fun i : {i : Nat // i ≤ L.length} => (⟨[(1, one (.int .i64 nw)), (6, one (.sl true L.length eCtx.sz (rowF eCtx L))), (7, one (.ptr 11 0 0 false)), (8, one (.ptr 23 0 0 false)), (9, one (.bool fc.2)), (10, one (.int .i64 (i.1 : Int)))],
      [(11, some ⟨28, 1, 16, true, fun _ => (eA .u8 16).cell a⟩), (23, some ⟨41, 1, 20, true, fun _ => eCtx.cell fc.1⟩)], 27⟩ : Hd)) (fun i => L.length - i.1) (fun _ => rfl) ?_ ⟨0, by omega⟩ [] ?_
    · rintro ⟨i, hi⟩
      dsimp only at hi ⊢
      have hn16 := hL.n
      have hco : ∀ i : Nat, containsF (ePfx.rd fun j => eCtx.cell (L.getD i default) (1 + j)) ((eA .u8 16).rd fun q => (eA .u8 16).cell a (0 + q)) = containsF (pfxOf (L.getD i default)) a := fun i => by rw [pfx_of_ctx, rd_ip]
      have hcl : ∀ {P : Prop}, i < L.length → (L.getD i default).comp = true → nw < (L.getD i default).til → containsF (pfxOf (L.getD i default)) a = true → (fc.2 = false ∨ fc.1.bits < (L.getD i default).bits ∨ ((L.getD i default).bits = fc.1.bits ∧ (L.getD i default).id < fc.1.id)) → P := by
        intro P h0 h1 h2 h3 h4
        have hm : mt a nw (L.getD i default) = true := by
          unfold mt
          rw [compr_iff.2 ⟨h1, h2⟩]
          exact h3
        obtain ⟨g1, g2⟩ := hspec _ (getD_mem h0) hm
        rcases h4 with h4 | h4 | h4
        · rw [g1] at h4; cases h4
        · omega
        · omega
      repeat' (first | (apply And.intro <;> intro hc <;> (first | exact Bool.noConfusion hc | (simp only [decide_eq_true_eq, decide_eq_false_iff_not, Bool.not_eq_true', Bool.not_eq_false', beq_iff_eq, beq_eq_false_iff_ne, bne_iff_ne, bne_eq_false_iff_eq, Bool.true_eq_false, Bool.false_eq_true] at hc) | skip)) | (refine And.intro (by first | exact trivial | decide | omega | (dsimp only; omega) | exact fun _ _ => rfl) ?_) | (apply And.intro) | (intro s hs))
      · show byteOk (ePfx.rd fun j => eCtx.cell (L.getD i default) (1 + j)).ip
        rw [pfx_of_ctx]; exact hL.b _ (getD_mem (by omega))
      · show byteOk ((eA .u8 16).rd fun q => (eA .u8 16).cell a (0 + q))
        rw [rd_ip]; exact ha
      · have e1 : s = containsF (pfxOf (L.getD i default)) a := hs.trans (hco i)
        exact hcl (by omega) (by assumption) (by assumption) (by rw [← e1]; assumption) (.inl (by assumption))
      · have e1 : s = containsF (pfxOf (L.getD i default)) a := hs.trans (hco i)
        exact hcl (by omega) (by assumption) (by assumption) (by rw [← e1]; assumption) (.inr (.inl (by assumption)))
      · have e1 : s = containsF (pfxOf (L.getD i default)) a := hs.trans (hco i)
        exact hcl (by omega) (by assumption) (by assumption) (by rw [← e1]; assumption) (.inr (.inr ⟨by assumption, by assumption⟩))
      all_goals first
        | (refine ⟨⟨i + 1, by omega⟩, [], by dsimp only; omega, rfl, ?_, ?_⟩
           · repeat' (first | exact trivial | exact rfl | exact leF_ptr rfl | exact leF_int rfl | exact leF_bool rfl | exact leF_cl (cl_slB _ _) | exact leF_cl (cl_slR _ _) | exact leF_c (leC_os rfl rfl) | refine leF_int ?_ | refine leF_bool ?_ | exact leN_varA (fun _ _ => (Elem.flat _ _ _).le) | exact leN_varA (fun _ _ => leC_top) | apply And.intro)
             refine (IntWalk.i64_in _ ?_).trans ?_
             · constructor <;> omega
             · dsimp only
               omega
           · repeat' (first | exact trivial | exact rfl | exact leF_ptr rfl | exact leF_int rfl | exact leF_bool rfl | exact leF_cl (cl_slB _ _) | exact leF_cl (cl_slR _ _) | exact leF_c (leC_os rfl rfl) | refine leF_int ?_ | refine leF_bool ?_ | exact leN_varA (fun _ _ => (Elem.flat _ _ _).le) | exact leN_varA (fun _ _ => leC_top) | apply And.intro))
        | exact Done.mk (leF_bool hs)
    · refine ⟨rfl, ?_, ?_⟩
      · repeat' (first | exact trivial | exact rfl | exact leF_ptr rfl | exact leF_int rfl | exact leF_bool rfl | exact leF_cl (cl_slB _ _) | exact leF_cl (cl_slR _ _) | exact leF_c (leC_os rfl rfl) | refine leF_int ?_ | refine leF_bool ?_ | exact leN_varA (fun _ _ => (Elem.flat _ _ _).le) | exact leN_varA (fun _ _ => leC_top) | apply And.intro)
      · repeat' (first | exact trivial | exact rfl | exact leF_ptr rfl | exact leF_int rfl | exact leF_bool rfl | exact leF_cl (cl_slB _ _) | exact leF_cl (cl_slR _ _) | exact leF_c (leC_os rfl rfl) | refine leF_int ?_ | refine leF_bool ?_ | exact leN_varA (fun _ _ => (Elem.flat _ _ _).le) | exact leN_varA (fun _ _ => leC_top) | apply And.intro)
end Go.Proofs.Ytcnfjifokeancaa.AX
