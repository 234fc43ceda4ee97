/- Loops in the abstract; rows of cells compared. -/
import Derived.Test.YtjknkfjhcapocaaBLib
namespace Go.Proofs.Ytjknkfjhcapocaa.AX
set_option linter.unusedVariables false
set_option linter.unusedSimpArgs false

theorem runR_mono {T : Tys} {Q : Qs} (hM : QsMono Q) {wd nt : Nat} {all : List Oper} {K K' : Fr → Hp → Nat → Log → Prop} (hK : ∀ fr H nx log, K fr H nx log → K' fr H nx log) : ∀ (os : List Oper) (i : Nat) (fr : Fr) (H : Hp) (nx : Nat) (log : Log),
    runR T Q wd nt all os i fr H nx log K → runR T Q wd nt all os i fr H nx log K' := by
  intro os
  induction os with
  | nil => intro i fr H nx log h; exact hK _ _ _ _ h
  | cons o os ih =>
    intro i fr H nx log h
    unfold runR at h ⊢
    cases hd : okDst nt o.dst with
    | false => rw [hd] at h; exact h.elim
    | true =>
      rw [hd, cond_true] at h
      rw [cond_true]
      split at h
      · split at h
        · split at h
          · exact hM _ _ _ _ _ _ (by assumption) _ _ (fun v e rd hh => ih _ _ _ _ _ hh) h
          · exact h.elim
        · split at h
          · split at h
            · exact ih _ _ _ _ _ h
            · exact ⟨h.1, ih _ _ _ _ _ h.2⟩
            · exact ⟨fun e => ih _ _ _ _ _ (h.1 e), fun e => ih _ _ _ _ _ (h.2 e)⟩
            · exact ⟨h.1, fun e => ih _ _ _ _ _ (h.2.1 e), fun e => ih _ _ _ _ _ (h.2.2 e)⟩
            · exact h.elim
          · exact h.elim
      · exact ih _ _ _ _ _ h
      · exact h.elim
theorem seqK_mono {n n' : Fr → Hp → Nat → Prop} {K K' : Kt} (hn : ∀ fr H nx, n fr H nx → n' fr H nx) (hK : ∀ e fr H nx, K e fr H nx → K' e fr H nx) : ∀ e fr H nx, seqK n K e fr H nx → seqK n' K' e fr H nx := by
  intro e fr H nx h
  cases e <;> first | exact hn _ _ _ h | exact hK _ _ _ _ h
theorem blkK_mono {id : Nat} {K K' : Kt} (hK : ∀ e fr H nx, K e fr H nx → K' e fr H nx) : ∀ e fr H nx, blkK id K e fr H nx → blkK id K' e fr H nx := by
  intro e fr H nx h
  cases e with
  | exit id' =>
    have h' : (bif Nat.beq id' id then K .normal fr H nx else K (.exit id') fr H nx) := h
    show (bif Nat.beq id' id then K' .normal fr H nx else K' (.exit id') fr H nx)
    cases hb : Nat.beq id' id with
    | true => rw [hb] at h'; exact hK _ _ _ _ h'
    | false => rw [hb] at h'; exact hK _ _ _ _ h'
  | normal => exact hK _ _ _ _ h
  | goto l => exact hK _ _ _ _ h
  | ret => exact hK _ _ _ _ h
  | panic c => exact hK _ _ _ _ h
  | outgrown => exact hK _ _ _ _ h
theorem iter_mono {np : Nat} {R : Fr → Hp → Nat → Kt → Prop} (hR : ∀ K K' : Kt, (∀ e fr H nx, K e fr H nx → K' e fr H nx) → ∀ fr H nx, R fr H nx K → R fr H nx K') {K K' : Kt} (hK : ∀ e fr H nx, K e fr H nx → K' e fr H nx) :
    ∀ n fr H nx, iter np R K n fr H nx → iter np R K' n fr H nx := by
  intro n
  induction n with
  | zero => intro fr H nx h; exact h
  | succ n ih =>
    intro fr H nx h
    obtain ⟨fr', H', rho, nx', h0, hrho, h1, h2, h3⟩ := h
    exact ⟨fr', H', rho, nx', h0, hrho, h1, h2, hR _ _ (seqK_mono ih hK) _ _ _ h3⟩
theorem exec_mono {T : Tys} {Q : Qs} (hM : QsMono Q) {wd nt np : Nat} : ∀ (c : Code) (K K' : Kt), (∀ e fr H nx, K e fr H nx → K' e fr H nx) → ∀ fr H nx, exec T Q wd nt np c fr H nx K → exec T Q wd nt np c fr H nx K' := by
  intro c
  induction c with
  | skip => intro K K' hK fr H nx h; exact hK _ _ _ _ h
  | region id ops draw =>
    intro K K' hK fr H nx h
    unfold exec at h ⊢
    refine runR_mono hM (fun fr H nx log h => ?_) _ _ _ _ _ _ h
    cases hb : (!draw || regOkA ops.toList log.reverse) with
    | true => rw [hb] at h; exact hK _ _ _ _ h
    | false => rw [hb] at h; exact h
  | seq a b iha ihb =>
    intro K K' hK fr H nx h
    exact iha _ _ (seqK_mono (fun fr H nx h => ihb _ _ hK _ _ _ h) hK) _ _ _ h
  | cond c a b iha ihb =>
    intro K K' hK fr H nx h
    unfold exec at h ⊢
    split at h
    · exact ⟨fun e => iha _ _ hK _ _ _ (h.1 e), fun e => ihb _ _ hK _ _ _ (h.2 e)⟩
    · exact h.elim
  | block id c ih => intro K K' hK fr H nx h; exact ih _ _ (blkK_mono hK) _ _ _ h
  | loop c ih =>
    intro K K' hK fr H nx h
    obtain ⟨n, hn⟩ := h
    exact ⟨n, iter_mono (fun K K' hk fr H nx h => ih K K' hk fr H nx h) hK n _ _ _ hn⟩
  | exit id => intro K K' hK fr H nx h; exact hK _ _ _ _ h
  | ret => intro K K' hK fr H nx h; exact hK _ _ _ _ h
  | label l => intro K K' hK fr H nx h; exact hK _ _ _ _ h
  | rangeFunc => intro K K' hK fr H nx h; exact h.elim
  | scope => intro K K' hK fr H nx h; exact h.elim
  | goto => intro K K' hK fr H nx h; exact h.elim
  | refuse => intro K K' hK fr H nx h; exact h.elim

/-- A state at a loop's head. -/
structure Hd where
  fr : Fr
  H : Hp
  nx : Nat
/-- The state at hand is at most the state s at the loop's head, with names renamed by rho. -/
def To {σ : Type} (S : σ → Hd) (np : Nat) (fr : Fr) (H : Hp) (s : σ) (rho : List (Nat × Option Nat)) : Prop :=
  rhoOk np ⟨H, (S s).H, rho, (S s).nx, false⟩ = true ∧ WkF ⟨H, (S s).H, rho, (S s).nx, false⟩ fr (S s).fr ∧ WkH ⟨H, (S s).H, rho, (S s).nx, false⟩ (S s).H
/-- From the state at hand the next round begins in a state with a smaller measure. -/
def Goes {σ : Type} (S : σ → Hd) (μ : σ → Nat) (np m : Nat) (fr : Fr) (H : Hp) : Prop := ∃ s rho, μ s < m ∧ To S np fr H s rho

theorem loop_intro {T : Tys} {Q : Qs} (hM : QsMono Q) {wd nt np : Nat} {c : Code} {K : Kt} {σ : Type} (S : σ → Hd) (μ : σ → Nat) (hnp : ∀ s, Nat.ble np (S s).nx = true)
    (hround : ∀ s, exec T Q wd nt np c (S s).fr (S s).H (S s).nx (seqK (fun fr H _ => Goes S μ np (μ s) fr H) K)) {fr : Fr} {H : Hp} {nx : Nat} (s0 : σ) (rho : List (Nat × Option Nat)) (h0 : To S np fr H s0 rho) :
    ∃ n, iter np (exec T Q wd nt np c) K n fr H nx := by
  have key : ∀ m s rho fr H nx, μ s < m → To S np fr H s rho → iter np (exec T Q wd nt np c) K m fr H nx := by
    intro m
    induction m with
    | zero => intro s rho fr H nx h; omega
    | succ m ih =>
      intro s rho fr H nx hm h1
      refine ⟨(S s).fr, (S s).H, rho, (S s).nx, hnp s, h1.1, h1.2.1, h1.2.2, exec_mono hM c _ _ (seqK_mono (fun fr H nx h => ?_) (fun _ _ _ _ h => h)) _ _ _ (hround s)⟩
      obtain ⟨s', rho', h3, h4⟩ := h
      exact ih s' rho' fr H nx (by omega) h4
  exact ⟨μ s0 + 1, key _ s0 rho _ _ _ (by omega) h0⟩
end Go.Proofs.Ytjknkfjhcapocaa.AX
