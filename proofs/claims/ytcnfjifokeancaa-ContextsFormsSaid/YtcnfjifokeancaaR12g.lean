/- law12.alike: the program and the reference say the same (by AX2). -/
import Derived.Test.YtcnfjifokeancaaLw
import Derived.Test.YtcnfjifokeancaaR12b
import Derived.Test.YtcnfjifokeancaaR12c
import Derived.Test.YtcnfjifokeancaaR12d
import Derived.Test.YtcnfjifokeancaaR12f
namespace Go.Proofs.Ytcnfjifokeancaa.AX
open Go.RowKit
set_option linter.unusedVariables false
set_option linter.unusedSimpArgs false
noncomputable def LK0 : CsL := (61, some (pureE (AC.cons (cSl eCtx eCtx_sz) (AC.cons (cE eCtx) AC.nil)) (fun a => bytesL a.1 ∧ byteOk a.2.1.ip) (fun a => setF a.1 a.2.1) encLE)) ::
  (62, some (pureE (AC.cons (cSl eCtx eCtx_sz) (AC.cons (cI .i64) AC.nil)) (fun a => bytesL a.1) (fun a => expF a.1 a.2.1) encLE)) ::
  (63, some (pureE (AC.cons (cSl eCtx eCtx_sz) (AC.cons (cE (eA .u8 16)) (AC.cons (cI .i64) AC.nil))) (fun a => bytesL a.1 ∧ byteOk a.2.1) (fun a => forCom a.1 a.2.1 a.2.2.1) encCB)) ::
  (64, some (pureE (AC.cons (cSl eCtx eCtx_sz) (AC.cons (cI .i64) (AC.cons (cI .i64) AC.nil))) (fun a => bytesL a.1) (fun a => forDec a.1 a.2.1 a.2.2.1) encCB)) ::
  (66, some (pureE (AC.cons (cSl eCtx eCtx_sz) (AC.cons (cSl eCtx eCtx_sz) AC.nil)) (fun a => a.1.length ≤ 2932031007317) (fun a => sameF a.1 a.2.1) cB.enc)) :: LQ1
theorem LK0_ok : AllOk Try.prog LK0 := ⟨pureE_ok ⟨_, Try.func61, rfl, by kernel_rfl⟩ fun a h => rset_ok a.1 a.2.1 h.1 h.2, pureE_ok ⟨_, Try.func62, rfl, by kernel_rfl⟩ fun a h => rexpire_ok a.1 a.2.1 h, pureE_ok ⟨_, Try.func63, rfl, by kernel_rfl⟩ fun a h => rforCom_ok a.1 a.2.1 a.2.2.1 h.1 h.2,
  pureE_ok ⟨_, Try.func64, rfl, by kernel_rfl⟩ fun a h => rforDec_ok a.1 a.2.1 a.2.2.1 h, pureE_ok ⟨_, Try.func66, rfl, by kernel_rfl⟩ fun a h => same_ok a.1 a.2.1 h, LQ1_ok⟩
noncomputable def LK : CsL := LK0 ++ LW
theorem LK_ok : AllOk Try.prog LK := append_ok LK0_ok LW_ok
theorem setL_len (c : Ctx) : ∀ l : List Ctx, (setL c l).length ≤ l.length + 1 := by
  intro l
  induction l with
  | nil => simp [setL]
  | cons d l ih => rw [setL]; split <;> (try split) <;> simp <;> omega
theorem setF_len (l : List Ctx) (c : Ctx) : (setF l c).1.length ≤ 17 := by
  unfold setF
  split
  · rename_i h
    have := valid_le h.1
    have := setL_len c l
    show (setL c l).length ≤ 17
    omega
  · simp
theorem keepF_len (now : Int) : ∀ l : List Ctx, (keepF now l).length ≤ l.length := by
  intro l
  induction l with
  | nil => simp [keepF]
  | cons d l ih => rw [keepF]; split <;> simp <;> omega
theorem expF_len (l : List Ctx) (now : Int) : (expF l now).1.length ≤ 16 := by
  unfold expF
  split
  · rename_i h
    have := valid_le h
    have := keepF_len now l
    split
    · show (keepF now l).length ≤ 16; omega
    · simp
  · simp
set_option maxHeartbeats 4000000 in
set_option maxRecDepth 20000 in
theorem alike_ok (l : List Ctx) (c : Ctx) (a : Fin 16 → Int) (id now : Int) (hl : bytesL l) (hb : byteOk c.ip) (ha : byteOk a) : PureOk Try.prog 38 [(cSl eCtx eCtx_sz).enc l, (cE eCtx).enc c, (cE (eA .u8 16)).enc a, (cI .i64).enc id, (cI .i64).enc now] (cB.enc true) := by
  have hn := hl.n
  have k1 : toL eCtx l.length (rowF eCtx l) = l := toL_ctx l
  have k2 : (eCtx.rd fun j => eCtx.cell c (0 + j)) = c := rd_ctx c
  have k3 : ((eA .u8 16).rd fun q => (eA .u8 16).cell a (0 + q)) = a := rd_ip a
  have n1 := setF_len l c
  have n2 := expF_len l now
  refine pure_intro (wd := 1) (Q := mkQ LK) (by decide) tysOk (q_of LK_ok) mixed Try.func38 rfl _ (by show 5 ≤ _; decide) _ ?_
  repeat' (first | (apply And.intro <;> intro hc <;> (first | exact Bool.noConfusion hc | (simp only [decide_eq_true_eq, decide_eq_false_iff_not, Bool.not_eq_true', Bool.not_eq_false', beq_iff_eq, beq_eq_false_iff_ne, bne_iff_ne, bne_eq_false_iff_eq, Bool.true_eq_false, Bool.false_eq_true, ne_eq, not_true_eq_false] at hc <;> first | exact absurd rfl hc | skip) | skip)) | (refine And.intro (by first | exact trivial | decide | omega | (dsimp only; omega) | exact fun _ _ => rfl | exact ⟨by assumption, by first | exact trivial | decide | omega | (dsimp only; omega)⟩) ?_) | (apply And.intro) | (intro s hs; (first | (have hs' : s = setF l c := hs.trans (by show setF (toL eCtx l.length (rowF eCtx l)) (eCtx.rd fun j => eCtx.cell c (0 + j)) = _; rw [k1, k2])) | (have hs' : s = expF l now := hs.trans (by show expF (toL eCtx l.length (rowF eCtx l)) now = _; rw [k1])) | (have hs' : s = forCom l a now := hs.trans (by show forCom (toL eCtx l.length (rowF eCtx l)) ((eA .u8 16).rd fun q => (eA .u8 16).cell a (0 + q)) now = _; rw [k1, k3])) | (have hs' : s = forDec l id now := hs.trans (by show forDec (toL eCtx l.length (rowF eCtx l)) id now = _; rw [k1])) | (have hs' : s = validT l := hs.trans (by show validT (toL eCtx l.length (rowF eCtx l)) = _; rw [k1])) | (have hs' : s = true := hs.trans (same_t rfl))); clear hs; subst hs'))
  all_goals first
    | (show (toL eCtx l.length (rowF eCtx l)).length ≤ _; rw [k1]; omega)
    | (show bytesL (toL eCtx l.length (rowF eCtx l)); rw [k1]; exact hl)
    | (show byteOk (eCtx.rd fun j => eCtx.cell c (0 + j)).ip; rw [k2]; exact hb)
    | (show byteOk ((eA .u8 16).rd fun q => (eA .u8 16).cell a (0 + q)); rw [k3]; exact ha)
    | exact fun _ => eCtx_ok _
    | (show (toL eCtx _ _).length ≤ _; rw [toL_len]; omega)
    | (exfalso
       have h : eqFrom (eCtx.cell (forCom l a now).1) (eCtx.cell (forCom l a now).1) 20 0 = false := by assumption
       rw [ctxC_refl] at h
       exact Bool.noConfusion h)
    | (exfalso
       have h : eqFrom (eCtx.cell (forDec l id now).1) (eCtx.cell (forDec l id now).1) 20 0 = false := by assumption
       rw [ctxC_refl] at h
       exact Bool.noConfusion h)
    | (refine Done.mk (leF_bool ?_)
       exact beq_self_eq_true _)
end Go.Proofs.Ytcnfjifokeancaa.AX
