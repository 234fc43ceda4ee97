/- The laws about contexts: the tape's New, all contracts, known. -/
import Derived.Test.YtcnfjifokeancaaTp3
import Derived.Test.YtcnfjifokeancaaCt5
namespace Go.Proofs.Ytcnfjifokeancaa.AX
open Go.RowKit
set_option linter.unusedVariables false
set_option linter.unusedSimpArgs false
theorem bo_shI {H : Hp} {n : Nat} {l : List Int} : Bo H [] (.e (.c (.sl true n 1 (rI l)))) (.e (.c (.sl true n 1 (rI l)))) := by
  rintro cx r w v st ⟨a, cap, rfl, h1, h2⟩
  refine ⟨a, cap, rfl, h1, fun h0 => ?_⟩
  obtain ⟨ad, rfl, hs, ho, hX, hlt, hc⟩ := h2 h0
  refine ⟨ad, rfl, hs, fun ⟨k, e, x, q1, q2, q3, _⟩ => ho ⟨k, e, x, q1, q2, q3⟩, fun _ h => h.elim (hX rfl) ho, hlt, fun i hi j hj => ?_⟩
  obtain ⟨u, hu, hr⟩ := hc i hi j hj
  exact ⟨u, hu, hr⟩
theorem new_ok (n : Nat) (l : List Int) : NewOk Try.prog 13 [.e (.c (.sl true n 1 (rI l)))] none none (tapeN (min n 400) (rI l) 0) := by
  refine new_intro (wd := 1) (Q := mkQ LE0) (by decide) tysOk (q_of LE0_ok) mixed Try.func13 rfl _ (by show 1 ≤ _; decide) tapeN_nf ?_
  repeat' (first | (apply And.intro <;> intro hc <;> (first | exact Bool.noConfusion hc | (simp only [decide_eq_true_eq, decide_eq_false_iff_not, Bool.not_eq_true', Bool.not_eq_false', beq_iff_eq, beq_eq_false_iff_ne, bne_iff_ne, bne_eq_false_iff_eq, Bool.true_eq_false, Bool.false_eq_true] at hc) | skip)) | (refine And.intro (by first | exact trivial | decide | omega | (dsimp only; omega) | exact fun _ _ => rfl) ?_) | (apply And.intro) | (intro s hs))
  · refine ⟨⟨some 9, leF_ptr rfl, ?_⟩⟩
    exact leN_var ⟨⟨trivial, leC_sl (fun _ => rfl) (by show 400 - 0 = min n 400; omega) rfl fun i _ j _ => leC_int (by rw [Nat.zero_add])⟩, leC_int rfl⟩
  · refine ⟨⟨some 6, leF_ptr rfl, ?_⟩⟩
    exact leN_var ⟨⟨trivial, leC_sl (fun _ => rfl) (by omega) rfl fun i _ j _ => leC_int rfl⟩, leC_int rfl⟩
def newTapeE : Entry := fun args H nm _ =>
  match args with
  | [.e (.c (.sl true n s f))] => bif Nat.beq s 1 then some fun K => (∃ l, f = rI l ∧ rngL l) ∧ ∀ m, ∀ q, TapeOk m f q → K (one (.ptr nm 0 0 false)) [(nm, some (tapeN m f q))] [] else none
  | _ => none
theorem newTapeE_ok : EntOk Try.prog 13 newTapeE := by
  refine ⟨fun args H nm wd q hwd hq K hK => ?_, fun args H nm wd q hq K K' hKK hK => ?_⟩
  · unfold newTapeE at hq
    split at hq
    · rename_i n s f
      obtain ⟨hb, hq⟩ := cond_some hq
      subst hq
      have hb := Nat.eq_of_beq_eq_true hb
      subst hb
      obtain ⟨⟨l, rfl, hl⟩, hK⟩ := hK
      refine ⟨_, _, _, callR_new (args' := [.e (.c (.sl true n 1 (rI l)))]) (rd := []) ⟨_, Try.func13, rfl, by kernel_rfl⟩ hwd (kd := none) (rest := none) (fun l h => by cases h) (fun H' _ => ⟨rfl, fun i x y hx hy => ?_⟩) (new_ok n l), hK (min n 400) 0 ⟨by omega, by omega, by omega, l, rfl, hl⟩⟩
      cases i with
      | zero => simp only [List.getElem?_cons_zero, Option.some.injEq] at hx hy; subst hx hy; exact bo_shI
      | succ i => cases i <;> cases hx
    · cases hq
  · unfold newTapeE at hq
    split at hq
    · obtain ⟨hb, hq⟩ := cond_some hq
      subst hq
      exact ⟨hK.1, fun m q h => hKK _ _ _ (hK.2 m q h)⟩
    · cases hq
abbrev ipE : Entry := tapeE (AC.cons (cE eAdr) AC.nil) (fun _ => True) (fun a (r : Fin 16 → Int) => byteOk r) (cE (eA .u8 16)).enc
abbrev ctxE : Entry := tapeE AC.nil (fun _ => True) (fun a (r : List Ctx) => madeL r) (fun r => .e (.c (slR eCtx r)))
def LW0 : CsL := (15, some ipE) :: (14, some ctxE) :: (13, some newTapeE) ::
  (28, some (pureE (AC.cons (cSl eCtx eCtx_sz) (AC.cons (cE eCtx) AC.nil)) (fun a => a.1.length ≤ 2932031007317) (fun a => setF a.1 a.2.1) encLE)) ::
  (39, some (pureE (AC.cons (cSl eCtx eCtx_sz) (AC.cons (cI .i64) AC.nil)) (fun a => a.1.length ≤ 2932031007317) (fun a => expF a.1 a.2.1) encLE)) ::
  (18, some (pureE (AC.cons (cSl eCtx eCtx_sz) (AC.cons (cE (eA .u8 16)) (AC.cons (cI .i64) AC.nil))) (fun a => a.1.length ≤ 2932031007317) (fun a => forCom a.1 a.2.1 a.2.2.1) encCB)) ::
  (29, some (pureE (AC.cons (cSl eCtx eCtx_sz) (AC.cons (cI .i64) (AC.cons (cI .i64) AC.nil))) (fun a => a.1.length ≤ 2932031007317) (fun a => forDec a.1 a.2.1 a.2.2.1) encCB)) :: LE3
theorem LW0_ok : AllOk Try.prog LW0 := ⟨tapeE_ok ⟨_, Try.func15, rfl, by kernel_rfl⟩ fun n l q a ht _ => ip_ok n l q a.1 ht, tapeE_ok ⟨_, Try.func14, rfl, by kernel_rfl⟩ fun n l q a ht _ => contexts_ok n l q ht, newTapeE_ok,
  pureE_ok ⟨_, Try.func28, rfl, by kernel_rfl⟩ fun a h => set_ok a.1 a.2.1 h, pureE_ok ⟨_, Try.func39, rfl, by kernel_rfl⟩ fun a h => expire_ok a.1 a.2.1 h, pureE_ok ⟨_, Try.func18, rfl, by kernel_rfl⟩ fun a h => forCom_ok a.1 a.2.1 a.2.2.1 (by have : a.1.length ≤ 2932031007317 := h; omega), pureE_ok ⟨_, Try.func29, rfl, by kernel_rfl⟩ fun a h => forDec_ok a.1 a.2.1 a.2.2.1 (by have : a.1.length ≤ 2932031007317 := h; omega), LE3_ok⟩
def LW : CsL := LW0 ++ LT2
theorem LW_ok : AllOk Try.prog LW := append_ok LW0_ok LT2_ok
def kA : Fin 16 → Int := ofF 2306139568115613696 7
def kC1 : Ctx := ⟨1, (maskP kA 32).ip, (maskP kA 32).bits, true, 10⟩
def kC2 : Ctx := ⟨2, (maskP kA 48).ip, (maskP kA 48).bits, true, 20⟩
def kR1 : List Ctx × Int := setF [] kC1
def kR2 : List Ctx × Int := setF kR1.1 kC2
def kF : Ctx × Bool := forCom kR2.1 kA 5
def kG : Ctx × Bool := forCom kR2.1 kA 30
theorem kn : kR1.2 = 0 ∧ kR2.2 = 0 ∧ kF.2 = true ∧ kF.1.id = 2 ∧ kG.2 = false ∧ kR1.1.length ≤ 5 ∧ kR2.1.length ≤ 5 := by decide +kernel
theorem ovrO {f g : Nat → CV} {off n j : Nat} (h : j < off ∨ off + n ≤ j) : ovr f off n g j = f j := by
  unfold ovr; rw [rng_out h]; rfl
theorem ovrI {f g : Nat → CV} {off n j : Nat} (h : off ≤ j ∧ j < off + n) : ovr f off n g j = g (j - off) := by
  unfold ovr; rw [rng_in h]; rfl
theorem ctx_build (base : Nat → CV) (id : Int) (p : Pfx) (b : Bool) (t : Int) : eCtx.rd (ovr (ovr (ovr (ovr base 0 1 fun _ => .int .i64 id) 1 17 (ePfx.cell p)) 18 1 fun _ => .bool b) 19 1 fun _ => .int .i64 t) = ⟨id, p.ip, p.bits, b, t⟩ := by
  have hip : (fun q : Fin 16 => valI (ovr (ovr (ovr (ovr base 0 1 fun _ => .int .i64 id) 1 17 (ePfx.cell p)) 18 1 fun _ => .bool b) 19 1 (fun _ => .int .i64 t) (1 + q.1))) = p.ip := by
    funext q
    have hq := q.2
    rw [ovrO (by omega), ovrO (by omega), ovrI (by omega), show 1 + q.1 - 1 = 0 + q.1 by omega, ePfx_ip_at p q.1 hq]
    exact vget_lt _ hq
  show (Ctx.mk id (fun q : Fin 16 => valI (ovr (ovr (ovr (ovr base 0 1 fun _ => .int .i64 id) 1 17 (ePfx.cell p)) 18 1 fun _ => .bool b) 19 1 (fun _ => .int .i64 t) (1 + q.1))) p.bits b t) = _
  rw [hip]
set_option maxRecDepth 10000 in
theorem known_ok : PureOk Try.prog 20 [] (cB.enc true) := by
  refine pure_intro (wd := 1) (Q := mkQ LW) (by decide) tysOk (q_of LW_ok) mixed Try.func20 rfl _ (by show 0 ≤ _; decide) _ ?_
  repeat' (first | (apply And.intro <;> intro hc <;> (first | exact Bool.noConfusion hc | (simp only [decide_eq_true_eq, decide_eq_false_iff_not, Bool.not_eq_true', Bool.not_eq_false', beq_iff_eq, beq_eq_false_iff_ne, bne_iff_ne, bne_eq_false_iff_eq, Bool.true_eq_false, Bool.false_eq_true] at hc) | skip)) | (refine And.intro (by first | exact trivial | decide | omega | (dsimp only; omega) | exact fun _ _ => rfl) ?_) | (apply And.intro) | (intro s hs))
  · show byteOk ((eA .u8 16).rd fun q => (eA .u8 16).cell s (0 + q))
    rw [rd_ip, hs]; exact of_byteOk _ _
  · show (0 : Nat) ≤ _
    omega
  · rename_i s0 hs0 p1 hs1
    show byteOk ((eA .u8 16).rd fun q => (eA .u8 16).cell s0 (0 + q))
    rw [rd_ip, hs0]; exact of_byteOk _ _
  · rename_i s0 hs0 p1 hs1 r1 hs2
    have E0 : s0 = kA := hs0
    have E1 : p1 = maskP kA 32 := hs1.trans (by
      show maskP ((eA .u8 16).rd fun q => (eA .u8 16).cell s0 (0 + q)) 32 = _
      rw [rd_ip, E0])
    have E2 : r1 = kR1 := hs2.trans (by
      show setF [] (eCtx.rd (ovr (ovr (ovr (ovr _ 0 1 fun _ => .int .i64 1) 1 17 (ePfx.cell p1)) 18 1 fun _ => .bool true) 19 1 fun _ => .int .i64 10)) = _
      rw [ctx_build, E1]; rfl)
    show (toL eCtx r1.1.length _).length ≤ _
    rw [toL_len, E2]
    have := kn.2.2.2.2.2.1
    omega
  · rename_i s0 hs0 p1 hs1 r1 hs2 p2 hs3
    obtain ⟨r2, hs4⟩ : ∃ r, r = s := ⟨s, rfl⟩
    subst hs4
    have hs4 := hs
    have E0 : s0 = kA := hs0
    have E1 : p1 = maskP kA 32 := hs1.trans (by
      show maskP ((eA .u8 16).rd fun q => (eA .u8 16).cell s0 (0 + q)) 32 = _
      rw [rd_ip, E0])
    have E2 : r1 = kR1 := hs2.trans (by
      show setF [] (eCtx.rd (ovr (ovr (ovr (ovr _ 0 1 fun _ => .int .i64 1) 1 17 (ePfx.cell p1)) 18 1 fun _ => .bool true) 19 1 fun _ => .int .i64 10)) = _
      rw [ctx_build, E1]; rfl)
    have E3 : p2 = maskP kA 48 := hs3.trans (by
      show maskP ((eA .u8 16).rd fun q => (eA .u8 16).cell s0 (0 + q)) 48 = _
      rw [rd_ip, E0])
    have E4 : r2 = kR2 := hs4.trans (by
      show setF (toL eCtx r1.1.length (rowF eCtx r1.1)) (eCtx.rd (ovr (ovr (ovr (ovr _ 0 1 fun _ => .int .i64 2) 1 17 (ePfx.cell p2)) 18 1 fun _ => .bool true) 19 1 fun _ => .int .i64 20)) = _
      rw [toL_ctx, ctx_build, E2, E3]; rfl)
    show (toL eCtx r2.1.length _).length ≤ _
    rw [toL_len, E4]
    have := kn.2.2.2.2.2.2
    omega
  · rename_i s0 hs0 p1 hs1 r1 hs2 p2 hs3 r2 hs4
    have E0 : s0 = kA := hs0
    have E1 : p1 = maskP kA 32 := hs1.trans (by
      show maskP ((eA .u8 16).rd fun q => (eA .u8 16).cell s0 (0 + q)) 32 = _
      rw [rd_ip, E0])
    have E2 : r1 = kR1 := hs2.trans (by
      show setF [] (eCtx.rd (ovr (ovr (ovr (ovr _ 0 1 fun _ => .int .i64 1) 1 17 (ePfx.cell p1)) 18 1 fun _ => .bool true) 19 1 fun _ => .int .i64 10)) = _
      rw [ctx_build, E1]; rfl)
    have E3 : p2 = maskP kA 48 := hs3.trans (by
      show maskP ((eA .u8 16).rd fun q => (eA .u8 16).cell s0 (0 + q)) 48 = _
      rw [rd_ip, E0])
    have E4 : r2 = kR2 := hs4.trans (by
      show setF (toL eCtx r1.1.length (rowF eCtx r1.1)) (eCtx.rd (ovr (ovr (ovr (ovr _ 0 1 fun _ => .int .i64 2) 1 17 (ePfx.cell p2)) 18 1 fun _ => .bool true) 19 1 fun _ => .int .i64 20)) = _
      rw [toL_ctx, ctx_build, E2, E3]; rfl)
    show (toL eCtx r2.1.length _).length ≤ _
    rw [toL_len, E4]
    have := kn.2.2.2.2.2.2
    omega
  all_goals first
    | (rename_i s0 hs0 p1 hs1 r1 hs2 p2 hs3 r2 hs4 f1 hs5 c1 c2 c3
       have E0 : s0 = kA := hs0
       have E1 : p1 = maskP kA 32 := hs1.trans (by
         show maskP ((eA .u8 16).rd fun q => (eA .u8 16).cell s0 (0 + q)) 32 = _
         rw [rd_ip, E0])
       have E2 : r1 = kR1 := hs2.trans (by
         show setF [] (eCtx.rd (ovr (ovr (ovr (ovr _ 0 1 fun _ => .int .i64 1) 1 17 (ePfx.cell p1)) 18 1 fun _ => .bool true) 19 1 fun _ => .int .i64 10)) = _
         rw [ctx_build, E1]; rfl)
       have E3 : p2 = maskP kA 48 := hs3.trans (by
         show maskP ((eA .u8 16).rd fun q => (eA .u8 16).cell s0 (0 + q)) 48 = _
         rw [rd_ip, E0])
       have E4 : r2 = kR2 := hs4.trans (by
         show setF (toL eCtx r1.1.length (rowF eCtx r1.1)) (eCtx.rd (ovr (ovr (ovr (ovr _ 0 1 fun _ => .int .i64 2) 1 17 (ePfx.cell p2)) 18 1 fun _ => .bool true) 19 1 fun _ => .int .i64 20)) = _
         rw [toL_ctx, ctx_build, E2, E3]; rfl)
       have E5 : f1 = kF := hs5.trans (by
         show forCom (toL eCtx r2.1.length (rowF eCtx r2.1)) ((eA .u8 16).rd fun q => (eA .u8 16).cell s0 (0 + q)) 5 = _
         rw [toL_ctx, rd_ip, E4, E0]; rfl)
       have E6 : s = kG := hs.trans (by
         show forCom (toL eCtx r2.1.length (rowF eCtx r2.1)) ((eA .u8 16).rd fun q => (eA .u8 16).cell s0 (0 + q)) 30 = _
         rw [toL_ctx, rd_ip, E4, E0]; rfl)
       obtain ⟨k1, k2, k3, k4, k5, _, _⟩ := kn
       rw [← E2] at k1
       rw [← E4] at k2
       rw [← E5] at k3 k4
       rw [← E6] at k5
       clear hs0 hs1 hs2 hs3 hs4 hs5 hs E0 E1 E2 E3 E4 E5 E6
       first
         | exact absurd k1 (by assumption)
         | exact absurd k2 (by assumption)
         | exact absurd k4 (by assumption)
         | (have h : f1.2 = false := by assumption
            rw [k3] at h; cases h)
         | (refine Done.mk (leF_bool ?_)
            show (!s.2) = true
            rw [k5]; rfl))
    | (rename_i s0 hs0 p1 hs1 r1 hs2 p2 hs3 r2 hs4 f1 hs5 c1 c2
       have E0 : s0 = kA := hs0
       have E1 : p1 = maskP kA 32 := hs1.trans (by
         show maskP ((eA .u8 16).rd fun q => (eA .u8 16).cell s0 (0 + q)) 32 = _
         rw [rd_ip, E0])
       have E2 : r1 = kR1 := hs2.trans (by
         show setF [] (eCtx.rd (ovr (ovr (ovr (ovr _ 0 1 fun _ => .int .i64 1) 1 17 (ePfx.cell p1)) 18 1 fun _ => .bool true) 19 1 fun _ => .int .i64 10)) = _
         rw [ctx_build, E1]; rfl)
       have E3 : p2 = maskP kA 48 := hs3.trans (by
         show maskP ((eA .u8 16).rd fun q => (eA .u8 16).cell s0 (0 + q)) 48 = _
         rw [rd_ip, E0])
       have E4 : r2 = kR2 := hs4.trans (by
         show setF (toL eCtx r1.1.length (rowF eCtx r1.1)) (eCtx.rd (ovr (ovr (ovr (ovr _ 0 1 fun _ => .int .i64 2) 1 17 (ePfx.cell p2)) 18 1 fun _ => .bool true) 19 1 fun _ => .int .i64 20)) = _
         rw [toL_ctx, ctx_build, E2, E3]; rfl)
       have E5 : f1 = kF := hs5.trans (by
         show forCom (toL eCtx r2.1.length (rowF eCtx r2.1)) ((eA .u8 16).rd fun q => (eA .u8 16).cell s0 (0 + q)) 5 = _
         rw [toL_ctx, rd_ip, E4, E0]; rfl)
       have E6 : s = kG := hs.trans (by
         show forCom (toL eCtx r2.1.length (rowF eCtx r2.1)) ((eA .u8 16).rd fun q => (eA .u8 16).cell s0 (0 + q)) 30 = _
         rw [toL_ctx, rd_ip, E4, E0]; rfl)
       obtain ⟨k1, k2, k3, k4, k5, _, _⟩ := kn
       rw [← E2] at k1
       rw [← E4] at k2
       rw [← E5] at k3 k4
       rw [← E6] at k5
       clear hs0 hs1 hs2 hs3 hs4 hs5 hs E0 E1 E2 E3 E4 E5 E6
       first
         | exact absurd k1 (by assumption)
         | exact absurd k2 (by assumption)
         | exact absurd k4 (by assumption)
         | (have h : f1.2 = false := by assumption
            rw [k3] at h; cases h)
         | (refine Done.mk (leF_bool ?_)
            show (!s.2) = true
            rw [k5]; rfl))
    | (rename_i s0 hs0 p1 hs1 r1 hs2 p2 hs3 r2 hs4 f1 hs5 c1
       have E0 : s0 = kA := hs0
       have E1 : p1 = maskP kA 32 := hs1.trans (by
         show maskP ((eA .u8 16).rd fun q => (eA .u8 16).cell s0 (0 + q)) 32 = _
         rw [rd_ip, E0])
       have E2 : r1 = kR1 := hs2.trans (by
         show setF [] (eCtx.rd (ovr (ovr (ovr (ovr _ 0 1 fun _ => .int .i64 1) 1 17 (ePfx.cell p1)) 18 1 fun _ => .bool true) 19 1 fun _ => .int .i64 10)) = _
         rw [ctx_build, E1]; rfl)
       have E3 : p2 = maskP kA 48 := hs3.trans (by
         show maskP ((eA .u8 16).rd fun q => (eA .u8 16).cell s0 (0 + q)) 48 = _
         rw [rd_ip, E0])
       have E4 : r2 = kR2 := hs4.trans (by
         show setF (toL eCtx r1.1.length (rowF eCtx r1.1)) (eCtx.rd (ovr (ovr (ovr (ovr _ 0 1 fun _ => .int .i64 2) 1 17 (ePfx.cell p2)) 18 1 fun _ => .bool true) 19 1 fun _ => .int .i64 20)) = _
         rw [toL_ctx, ctx_build, E2, E3]; rfl)
       have E5 : f1 = kF := hs5.trans (by
         show forCom (toL eCtx r2.1.length (rowF eCtx r2.1)) ((eA .u8 16).rd fun q => (eA .u8 16).cell s0 (0 + q)) 5 = _
         rw [toL_ctx, rd_ip, E4, E0]; rfl)
       have E6 : s = kG := hs.trans (by
         show forCom (toL eCtx r2.1.length (rowF eCtx r2.1)) ((eA .u8 16).rd fun q => (eA .u8 16).cell s0 (0 + q)) 30 = _
         rw [toL_ctx, rd_ip, E4, E0]; rfl)
       obtain ⟨k1, k2, k3, k4, k5, _, _⟩ := kn
       rw [← E2] at k1
       rw [← E4] at k2
       rw [← E5] at k3 k4
       rw [← E6] at k5
       clear hs0 hs1 hs2 hs3 hs4 hs5 hs E0 E1 E2 E3 E4 E5 E6
       first
         | exact absurd k1 (by assumption)
         | exact absurd k2 (by assumption)
         | exact absurd k4 (by assumption)
         | (have h : f1.2 = false := by assumption
            rw [k3] at h; cases h)
         | (refine Done.mk (leF_bool ?_)
            show (!s.2) = true
            rw [k5]; rfl))
    | (rename_i s0 hs0 p1 hs1 r1 hs2 p2 hs3 r2 hs4 f1 hs5
       have E0 : s0 = kA := hs0
       have E1 : p1 = maskP kA 32 := hs1.trans (by
         show maskP ((eA .u8 16).rd fun q => (eA .u8 16).cell s0 (0 + q)) 32 = _
         rw [rd_ip, E0])
       have E2 : r1 = kR1 := hs2.trans (by
         show setF [] (eCtx.rd (ovr (ovr (ovr (ovr _ 0 1 fun _ => .int .i64 1) 1 17 (ePfx.cell p1)) 18 1 fun _ => .bool true) 19 1 fun _ => .int .i64 10)) = _
         rw [ctx_build, E1]; rfl)
       have E3 : p2 = maskP kA 48 := hs3.trans (by
         show maskP ((eA .u8 16).rd fun q => (eA .u8 16).cell s0 (0 + q)) 48 = _
         rw [rd_ip, E0])
       have E4 : r2 = kR2 := hs4.trans (by
         show setF (toL eCtx r1.1.length (rowF eCtx r1.1)) (eCtx.rd (ovr (ovr (ovr (ovr _ 0 1 fun _ => .int .i64 2) 1 17 (ePfx.cell p2)) 18 1 fun _ => .bool true) 19 1 fun _ => .int .i64 20)) = _
         rw [toL_ctx, ctx_build, E2, E3]; rfl)
       have E5 : f1 = kF := hs5.trans (by
         show forCom (toL eCtx r2.1.length (rowF eCtx r2.1)) ((eA .u8 16).rd fun q => (eA .u8 16).cell s0 (0 + q)) 5 = _
         rw [toL_ctx, rd_ip, E4, E0]; rfl)
       have E6 : s = kG := hs.trans (by
         show forCom (toL eCtx r2.1.length (rowF eCtx r2.1)) ((eA .u8 16).rd fun q => (eA .u8 16).cell s0 (0 + q)) 30 = _
         rw [toL_ctx, rd_ip, E4, E0]; rfl)
       obtain ⟨k1, k2, k3, k4, k5, _, _⟩ := kn
       rw [← E2] at k1
       rw [← E4] at k2
       rw [← E5] at k3 k4
       rw [← E6] at k5
       clear hs0 hs1 hs2 hs3 hs4 hs5 hs E0 E1 E2 E3 E4 E5 E6
       first
         | exact absurd k1 (by assumption)
         | exact absurd k2 (by assumption)
         | exact absurd k4 (by assumption)
         | (have h : f1.2 = false := by assumption
            rw [k3] at h; cases h)
         | (refine Done.mk (leF_bool ?_)
            show (!s.2) = true
            rw [k5]; rfl))
def LWk : CsL := (20, some (pureE AC.nil (fun _ => True) (fun _ => true) cB.enc)) :: LW
theorem LWk_ok : AllOk Try.prog LWk := ⟨pureE_ok ⟨_, Try.func20, rfl, by kernel_rfl⟩ fun a _ => known_ok, LW_ok⟩
end Go.Proofs.Ytcnfjifokeancaa.AX
