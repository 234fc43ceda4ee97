/- The laws of layer 36: contracts, known (by AX2). -/
import Derived.Test.YtcnfjifokeancaaMbW
import Derived.Test.YtcnfjifokeancaaLw
namespace Go.Proofs.Ytcnfjifokeancaa.AX
open Go.RowKit
set_option linter.unusedVariables false
set_option linter.unusedSimpArgs false
def LM2 : CsL := (23, some (pureE (AC.cons (cSl eBd eBd_sz) (AC.cons (cI .i64) (AC.cons (cE eBd) (AC.cons (cI .i64) AC.nil)))) (fun a => (bdL a.1 ∧ byteOk a.2.2.1.home) ∧ (-9223372036854775808 ≤ a.2.2.2.1 ∧ a.2.2.2.1 ≤ 9223372036854775807)) (fun a => bindF a.1 a.2.1 a.2.2.1 a.2.2.2.1) encBE)) ::
  (24, some (pureE (AC.cons (cSl eBd eBd_sz) (AC.cons (cI .i64) (AC.cons (cE (eA .u8 16)) AC.nil))) (fun a => bdL a.1) (fun a => placeF a.1 a.2.1 a.2.2.1) encPB)) :: LM1
theorem LM2_ok : AllOk Try.prog LM2 := ⟨pureE_ok ⟨_, Try.func23, rfl, by kernel_rfl⟩ fun a h => bind_ok a.1 a.2.1 a.2.2.1 a.2.2.2.1 h.1.1 h.1.2 h.2, pureE_ok ⟨_, Try.func24, rfl, by kernel_rfl⟩ fun a h => place_ok a.1 a.2.1 a.2.2.1 h, LM1_ok⟩
def LM3 : CsL := LM2 ++ ((21, some wipE) :: (13, some newTapeE) :: LT1)
theorem LM3_ok : AllOk Try.prog LM3 := append_ok LM2_ok ⟨tapeE_ok ⟨_, Try.func21, rfl, by kernel_rfl⟩ fun n l q a ht hp => wip_ok n l q ht, newTapeE_ok, LT1_ok⟩
def ip1 (n : Int) : Fin 16 → Int := fun q => if q.1 = 0 then n else 0
theorem ip1_ok {n : Int} (h : 0 ≤ n ∧ n < 256) : byteOk (ip1 n) := ⟨fun q => by unfold ip1; split <;> omega⟩
theorem bd_rd {g : Nat → CV} {a r : Fin 16 → Int} {s t : Int} (h1 : ∀ q, q < 16 → g (0 + q) = .int .u8 (vget a q)) (h2 : ∀ q, q < 16 → g (16 + q) = .int .u8 (vget r q)) (h3 : g 32 = .int .i64 s) (h4 : g 33 = .int .i64 t) : eBd.rd g = ⟨a, r, s, t⟩ := by
  show (⟨fun q => valI (g (0 + q.1)), fun q => valI (g (16 + q.1)), valI (g 32), valI (g 33)⟩ : Bd) = _
  have e1 : (fun q : Fin 16 => valI (g (0 + q.1))) = a := by funext q; rw [h1 q.1 q.2]; exact vget_lt _ q.2
  have e2 : (fun q : Fin 16 => valI (g (16 + q.1))) = r := by funext q; rw [h2 q.1 q.2]; exact vget_lt _ q.2
  rw [e1, e2, h3, h4]; rfl
theorem ip_rd {g : Nat → CV} {a : Fin 16 → Int} (h1 : ∀ q, q < 16 → g q = .int .u8 (vget a q)) : (eA .u8 16).rd g = a := by
  funext q
  show valI (g q.1) = _
  rw [h1 q.1 q.2]; exact vget_lt _ q.2
theorem bind_congr {l l' : List Bd} {now life : Int} {b b' : Bd} (h1 : l = l') (h2 : b = b') : bindF l now b life = bindF l' now b' life := by rw [h1, h2]
theorem place_congr {l l' : List Bd} {now : Int} {a a' : Fin 16 → Int} (h1 : l = l') (h2 : a = a') : placeF l now a = placeF l' now a' := by rw [h1, h2]
def kB1 : Bd := ⟨ip1 1, ip1 2, 4, 0⟩
def kB2 : Bd := ⟨ip1 1, ip1 3, 4, 0⟩
def kl : List Bd × Int := bindF [] 5 kB1 10
def kf : List Bd × Int := bindF kl.1 6 kB2 10
def kp : (Fin 16 → Int) × Bool := placeF kl.1 14 (ip1 1)
def kq : (Fin 16 → Int) × Bool := placeF kl.1 15 (ip1 1)
theorem kn36 : kl.2 = 0 ∧ kf.2 = 16 ∧ kp.2 = true ∧ kq.2 = false ∧ ipEq kp.1 (ip1 2) = true ∧ kl.1.length ≤ 5 := by decide +kernel
theorem kl_mem : kl.1 = [⟨ip1 1, ip1 2, 4, 15⟩] := rfl
theorem kl_bd : bdL kl.1 := ⟨fun b hb => by
  rw [kl_mem] at hb
  rw [List.mem_singleton.1 hb]
  exact ⟨ip1_ok (by omega), ip1_ok (by omega)⟩, by have := kn36.2.2.2.2.2; omega⟩
theorem kl_eq {l : List Bd} {g : Nat → CV} (h0 : l = []) (h1 : allLt 16 fun q => g (0 + q) = .int .u8 (vget (ip1 1) q)) (h2 : allLt 16 fun q => g (16 + q) = .int .u8 (vget (ip1 2) q)) (h3 : g 32 = .int .i64 4) (h4 : g 33 = .int .i64 0) : bindF l 5 (eBd.rd g) 10 = kl :=
  bind_congr h0 (bd_rd (allLt_at h1) (allLt_at h2) h3 h4)
theorem kf_eq {l : List Bd} {g : Nat → CV} (h0 : l = kl.1) (h1 : allLt 16 fun q => g (0 + q) = .int .u8 (vget (ip1 1) q)) (h2 : allLt 16 fun q => g (16 + q) = .int .u8 (vget (ip1 3) q)) (h3 : g 32 = .int .i64 4) (h4 : g 33 = .int .i64 0) : bindF l 6 (eBd.rd g) 10 = kf :=
  bind_congr h0 (bd_rd (allLt_at h1) (allLt_at h2) h3 h4)
theorem kp_eq {l : List Bd} {g : Nat → CV} (h0 : l = kl.1) (h1 : allLt 16 fun q => g q = .int .u8 (vget (ip1 1) q)) : placeF l 14 ((eA .u8 16).rd g) = kp := place_congr h0 (ip_rd (allLt_at h1))
theorem kq_eq {l : List Bd} {g : Nat → CV} (h0 : l = kl.1) (h1 : allLt 16 fun q => g q = .int .u8 (vget (ip1 1) q)) : placeF l 15 ((eA .u8 16).rd g) = kq := place_congr h0 (ip_rd (allLt_at h1))
theorem by_bd {g : Nat → CV} (h1 : allLt 16 fun q => 0 ≤ valI (g (0 + q)) ∧ valI (g (0 + q)) < 256) : byteOk (eBd.rd g).home := ⟨fun q => allLt_at h1 q.1 q.2⟩
set_option maxHeartbeats 4000000 in
set_option maxRecDepth 10000 in
theorem known36_ok : PureOk Try.prog 25 [] (cB.enc true) := by
  obtain ⟨k1, k2, k3, k4, k5, k6⟩ := kn36
  have kbd := kl_bd
  refine pure_intro (wd := 1) (Q := mkQ LM3) (by decide) tysOk (q_of LM3_ok) mixed Try.func25 rfl _ (by show 0 ≤ _; decide) _ ?_
  repeat' (first | (apply And.intro <;> intro hc <;> (first | exact Bool.noConfusion hc | (simp only [decide_eq_true_eq, decide_eq_false_iff_not, Bool.not_eq_true', Bool.not_eq_false', beq_iff_eq, beq_eq_false_iff_ne, bne_iff_ne, bne_eq_false_iff_eq, Bool.true_eq_false, Bool.false_eq_true, ne_eq, not_true_eq_false] at hc <;> first | exact absurd rfl hc | skip) | skip)) | (refine And.intro (by first | exact trivial | decide | omega | (dsimp only; omega) | exact fun _ _ => rfl | exact ⟨by assumption, by first | exact trivial | decide | omega | (dsimp only; omega)⟩) ?_) | (apply And.intro) | (intro s hs; (try dsimp only at hs); (first | (have hs' : s = kl := hs.trans (kl_eq rfl (by repeat' (first | exact trivial | exact rfl | apply And.intro)) (by repeat' (first | exact trivial | exact rfl | apply And.intro)) rfl rfl)) | (have hs' : s = kf := hs.trans (kf_eq (toL_bd _) (by repeat' (first | exact trivial | exact rfl | apply And.intro)) (by repeat' (first | exact trivial | exact rfl | apply And.intro)) rfl rfl)) | (have hs' : s = kp := hs.trans (kp_eq (toL_bd _) (by repeat' (first | exact trivial | exact rfl | apply And.intro)))) | (have hs' : s = kq := hs.trans (kq_eq (toL_bd _) (by repeat' (first | exact trivial | exact rfl | apply And.intro))))); clear hs; subst hs'))
  all_goals first
    | exact kbd
    | (show bdL (toL eBd kl.1.length (rowF eBd kl.1)); rw [toL_bd]; exact kbd)
    | exact ⟨fun b hb => (by cases hb), Nat.zero_le _⟩
    | (refine by_bd ?_
       repeat' (first | exact trivial | exact (show 0 ≤ (0 : Int) ∧ (0 : Int) < 256 by decide) | exact (show 0 ≤ (1 : Int) ∧ (1 : Int) < 256 by decide) | apply And.intro))
    | (show (-9223372036854775808 : Int) ≤ 10; decide)
    | (show (10 : Int) ≤ 9223372036854775807; decide)
    | (exfalso; rename ¬ kl.2 = 0 => h; exact h k1)
    | (exfalso; rename ¬ kf.2 = 16 => h; exact h k2)
    | (exfalso; rename kp.2 = false => h; rw [k3] at h; cases h)
    | (exfalso; rename kq.2 = true => h; rw [k4] at h; cases h)
    | exact Done.mk (leF_bool k5)
end Go.Proofs.Ytcnfjifokeancaa.AX
